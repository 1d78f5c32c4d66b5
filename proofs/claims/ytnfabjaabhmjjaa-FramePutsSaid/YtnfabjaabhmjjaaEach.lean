/-
  The iterator of package frame (Each, its function), and Next.
-/
import Derived.Test.YtnfabjaabhmjjaaWalks
import Derived.Test.YtnfabjaabhmjjaaIter
import Derived.Shelf.Abstract
import Derived.Shelf.RegionOpen
import Derived.OwnWalkIn
import Derived.TacticsInMore
import Derived.LoopNIn
import Derived.LoopIn
namespace Go.Proofs.Ytnfabjaabhmjjaa
open Go.RowKit Go.Shelf
attribute [local go_sem] Oper.semAt_some
set_option linter.unusedVariables false

/-- How many bytes the reader has left, read off the world. -/
def leftLen (w : World) (R : Nat) : Nat :=
  match w.cell? ⟨R, 0, none⟩ with
  | some (Value.slice _ n _) => n
  | _ => 0
theorem leftLen_holds {w : World} {R : Nat} {l : List UInt8} (h : Holds w R l) : leftLen w R = l.length := by
  obtain ⟨v, hR, (⟨rfl, rfl⟩ | ⟨b, off, cap, cs, fr, rfl, _⟩)⟩ := h <;> simp [leftLen, cell_R hR]

def canHold (Bx R : Nat) (l : List UInt8) (w : World) : Prop := w.cell? ⟨Bx, 0, none⟩ = some (.pointer (some ⟨R, 0, none⟩)) ∧ Holds w R l ∧ l.length ≤ 1000000
def finHold (l : List UInt8) (w w' : World) : Prop := parse l = none ∧ ∃ k, w' = w.drewN k
def stepHold (R : Nat) (l s r : List UInt8) (w w' : World) : Prop := parse l = some (s, r) ∧ Took w w' R r

set_option maxHeartbeats 800000 in
theorem each_stops (n : Nat) (hn : 2 ≤ n) (Bx R : Nat) : IterStops Fence.wide n Try.prog 19 #[.pointer (some ⟨Bx, 0, none⟩)] (fun s : List UInt8 => #[.string ⟨s.toArray⟩]) (canHold Bx R) finHold (stepHold R) := by
  intro l J Jx W st0 hcan hY h0
  have Hcan := Lib.hid hcan; clear hcan
  have HY := Lib.hid hY; clear hY
  have H0 := Lib.hid h0; clear h0
  refine callsIn_of_wp Try.func19 rfl trivial ?_ rfl
  simp only [Try.ntmps19, List.size_toArray, List.length_cons, List.length_nil, Nat.reduceAdd, Nat.reduceSub, Array.replicate_succ, Array.replicate_zero, List.push_toArray, List.append_toArray, List.nil_append, List.cons_append]
  gi_wp2
  gi_loopw [3, 4] (fun _ _ wr => ∃ st, J st wr) (fun _ _ wr => leftLen wr R)
  case atStart => exact ⟨st0, H0.out⟩
  case round =>
    obtain ⟨st, hj⟩ := hrel
    obtain ⟨hc, hh, hm⟩ := Hcan.out st wr hj
    have Hj := Lib.hid hj; clear hj
    have Hh := Lib.hid hh; clear hh
    cases hp : parse st with
    | none =>
      have Hp := Lib.hid hp; clear hp
      gi_wp2_with fail
      refine ⟨trivial, fun _ => by omega, ?_⟩
      refine (callsIn_wide.2 (take_none wr R st Hh.out Hp.out hm)).mono ?_
      rintro e w' ⟨rfl, k, rfl⟩
      gi_wp2_with fail
      refine ⟨fun _ h => (by cases h), ?_⟩
      gi_wp2_with fail
      refine bodyPost_ret (results_none rfl _ _ _) rfl ?_
      exact ⟨⟨_, rfl⟩, .inl ⟨st, wr, Hj.out, Hp.out, k, rfl⟩⟩
    | some x =>
      obtain ⟨s, r⟩ := x
      have Hp := Lib.hid hp; clear hp
      gi_wp2_with fail
      refine ⟨trivial, fun _ => by omega, ?_⟩
      refine (callsIn_wide.2 (take_some wr R st s r Hh.out Hp.out hm)).mono ?_
      rintro e w' ⟨rfl, ht⟩
      have Ht := Lib.hid ht; clear ht
      obtain ⟨fn, tmps, assign, body, hy, hR⟩ := HY.out st s r wr w' Hj.out ⟨Hp.out, Ht.out⟩
      gi_wp2_with fail
      refine ⟨fun _ => by omega, ?_⟩
      refine hR.mono ?_
      rintro e W3 (⟨rfl, hJ3⟩ | ⟨rfl, hJx3⟩)
      · have hd := leftLen_holds (Hcan.out r W3 hJ3).2.1
        have hd' := leftLen_holds Hh.out
        have hpl := (parse_length Hp.out).1
        have HJ3 := Lib.hid hJ3
        have Hd := Lib.hid hd
        have Hd' := Lib.hid hd'
        clear hd hd' hJ3
        gi_wp2_with fail
        exact ⟨⟨r, HJ3.out⟩, by rw [Hd.out, Hd'.out]; omega⟩
      · gi_wp2_with fail
        refine bodyPost_ret (results_none rfl _ _ _) rfl ?_
        exact ⟨⟨_, rfl⟩, .inr hJx3⟩
end Go.Proofs.Ytnfabjaabhmjjaa
