/-
  The walks of package frame: what each function computes.
-/
import Derived.Test.YtnfabjaabhmjjaaRows
import Derived.Test.YtnfabjaabhmjjaaPure
import Derived.WalkKit
import Derived.WalkSpells
import Derived.WalkLawsBesides
import Derived.Lib.Hide
import Derived.Outline
import Derived.Laws.BytesArg
import Derived.Deep.QuietTactic
import Derived.BigQuiet
import Derived.Lib.AppendStr
namespace Go.Proofs.Ytnfabjaabhmjjaa
open Go.RowKit
set_option linter.unusedVariables false

/-- The slice v holds the bytes l. -/
def DataAt (w : World) (v : Value) (l : List UInt8) : Prop :=
  (v = .slice none 0 0 ∧ l = []) ∨ ∃ b off cap cs fr, v = .slice (some ⟨b, off, none⟩) l.length cap ∧ l.length ≤ cap ∧ w.heap[b]? = some (.cells cs 5 fr) ∧ ∀ j u, l[j]? = some u → cs[off + j]? = some (.int .u8 (u.toNat : Int))
/-- The reader at block R has the bytes l left. -/
def Holds (w : World) (R : Nat) (l : List UInt8) : Prop := ∃ v, w.heap[R]? = some (.cells #[v] 50 (0, 0)) ∧ DataAt w v l

theorem cell_R {w : World} {R : Nat} {v : Value} (h : w.heap[R]? = some (.cells #[v] 50 (0, 0))) : w.cell? ⟨R, 0, none⟩ = some v := by simp [World.cell?, h]
theorem free_R {w : World} {R : Nat} {v : Value} (h : w.heap[R]? = some (.cells #[v] 50 (0, 0))) : w.frozen? ⟨R, 0, none⟩ = false := by simp [World.frozen?, h]

set_option maxHeartbeats 400000 in
theorem left_any (w : World) (R : Nat) (l : List UInt8) (h : Holds w R l) :
    Calls Try.prog 13 #[.pointer (some ⟨R, 0, none⟩)] w fun e w' => e = .returned (.int .i64 l.length) ∧ w = w' := by
  obtain ⟨v, hR, (⟨rfl, rfl⟩ | ⟨b, off, cap, cs, fr, rfl, hcap, hb, hcs⟩)⟩ := h
  · have hc := cell_R hR
    clear hR
    go_enter Try.func13, Try.ntmps13
    go_wp2
    go_ret
    exact ⟨rfl, rfl⟩
  · have hc := cell_R hR
    clear hR hb hcs
    go_enter Try.func13, Try.ntmps13
    go_wp2
    go_ret
    exact ⟨rfl, rfl⟩

set_option maxHeartbeats 400000 in
theorem new_any (w : World) :
    Calls Try.prog 10 #[] w fun e w' => e = .returned (.pointer (some ⟨w.heap.size, 0, none⟩)) ∧ w.alloc (.cells #[.slice none 0 0] 50) = w' := by
  go_enter Try.func10, Try.ntmps10
  go_wp2
  go_ret
  exact ⟨rfl, rfl⟩

set_option maxHeartbeats 400000 in
theorem reset_any (w : World) (R : Nat) (v : Value) (h : w.heap[R]? = some (.cells #[v] 50 (0, 0))) :
    Calls Try.prog 16 #[.pointer (some ⟨R, 0, none⟩)] w fun e w' => e = .returned (.tuple #[]) ∧ w.setCell ⟨R, 0, none⟩ (.slice none 0 0) = w' := by
  have hc := cell_R h
  have hf := free_R h
  clear h
  go_enter Try.func16, Try.ntmps16
  go_wp2
  go_end0
  exact ⟨rfl, rfl⟩

set_option maxHeartbeats 400000 in
theorem take_short (w : World) (R : Nat) (l : List UInt8) (h : Holds w R l) (hl : l.length < 2) :
    Calls Try.prog 20 #[.pointer (some ⟨R, 0, none⟩)] w fun e w' => e = .returned (.tuple #[.string ⟨#[]⟩, .bool false]) ∧ w = w' := by
  have H := Lib.hid h; clear h
  go_enter Try.func20, Try.ntmps20
  go_wp2_with (go_at_call 13; refine (left_any _ _ _ H.out).mono ?_; rintro e w' ⟨rfl, rfl⟩)
  go_ret2
  exact ⟨rfl, rfl⟩
set_option maxHeartbeats 400000 in
theorem take_not (w : World) (R : Nat) (a b : UInt8) (l : List UInt8) (h : Holds w R l) (h0 : l[0]? = some a) (h1 : l[1]? = some b) (hl : l.length < 2 + num a b) (hm : l.length ≤ 1000000) :
    Calls Try.prog 20 #[.pointer (some ⟨R, 0, none⟩)] w fun e w' => e = .returned (.tuple #[.string ⟨#[]⟩, .bool false]) ∧ ∃ n, w' = w.drewN n := by
  have H := Lib.hid h
  have h2 : 2 ≤ l.length := by have := (List.getElem?_eq_some_iff.1 h1).1; omega
  obtain ⟨v, hR, (⟨rfl, rfl⟩ | ⟨B, off, cap, cs, fr, rfl, hcap, hb, hcs⟩)⟩ := h
  · cases h0
  · have hc := cell_R hR
    have c0 := hcs 0 a h0
    have c1 := hcs 1 b h1
    have k0 : w.cell? ⟨B, off, none⟩ = some (.int .u8 (a.toNat : Int)) := by simpa [World.cell?, hb] using c0
    have k1 : w.cell? ⟨B, off + 1, none⟩ = some (.int .u8 (b.toNat : Int)) := by simpa [World.cell?, hb] using c1
    clear hR hb hcs c0 c1 h0 h1
    have ha := a.toNat_lt
    have hbb := b.toNat_lt
    unfold num at hl
    go_enter Try.func20, Try.ntmps20
    go_wp2_with (go_at_call 13; refine (left_any _ _ _ H.out).mono ?_; rintro e w' ⟨rfl, rfl⟩)
    go_quiet (fail)
    go_wp2
    go_ret2
    exact ⟨rfl, _, rfl⟩

theorem conv_text (w : World) (B off cap n : Nat) (m : List UInt8) (hn : m.length = n) (h : ∀ j u, m[j]? = some u → w.cell? ⟨B, off + j, none⟩ = some (.int .u8 (u.toNat : Int))) :
    (convert 45 9 (.slice (some ⟨B, off, none⟩) n cap)).run Try.prog w = .ok (.string ⟨m.toArray⟩) w := by
  have := run_convert_bytes_arg (P := Try.prog) w 45 5 Try.underlying45 Try.underlying5 B off n cap (m.map fun b => (b.toNat : Int)) (by simp [hn]) (fun i hi => by
    have hi' : i < m.length := by omega
    rw [h i m[i] (by simp [hi'])]; simp [hi']) 9 Try.underlying9
  rw [this]
  simp [strOfNums, Function.comp_def]

/-- What a take leaves: the reader's cell turned, the rest as it was. -/
def Took (w w' : World) (R : Nat) (l : List UInt8) : Prop := ∃ n v, w' = (w.drewN n).setCell ⟨R, 0, none⟩ v ∧ DataAt w v l

set_option maxHeartbeats 400000 in
theorem take_all (w : World) (R : Nat) (a b : UInt8) (l : List UInt8) (h : Holds w R l) (h0 : l[0]? = some a) (h1 : l[1]? = some b) (hl : 2 + num a b ≤ l.length) (hm : l.length ≤ 1000000) :
    Calls Try.prog 20 #[.pointer (some ⟨R, 0, none⟩)] w fun e w' => e = .returned (.tuple #[.string ⟨((l.drop 2).take (num a b)).toArray⟩, .bool true]) ∧ Took w w' R ((l.drop 2).drop (num a b)) := by
  have H := Lib.hid h
  obtain ⟨v, hR, (⟨rfl, rfl⟩ | ⟨B, off, cap, cs, fr, rfl, hcap, hb, hcs⟩)⟩ := h
  · cases h0
  · have hc := cell_R hR
    have c0 := hcs 0 a h0
    have c1 := hcs 1 b h1
    have k0 : w.cell? ⟨B, off, none⟩ = some (.int .u8 (a.toNat : Int)) := by simpa [World.cell?, hb] using c0
    have k1 : w.cell? ⟨B, off + 1, none⟩ = some (.int .u8 (b.toNat : Int)) := by simpa [World.cell?, hb] using c1
    have hf := free_R hR
    have ha := a.toNat_lt
    have hbb := b.toNat_lt
    obtain ⟨m, hmm⟩ : ∃ m, (l.drop 2).take (num a b) = m := ⟨_, rfl⟩
    rw [hmm]
    have hml : m.length = 2 + a.toNat * 256 + b.toNat - 2 := by rw [← hmm]; unfold num at hl ⊢; simp; omega
    have hme : ∀ j u, m[j]? = some u → cs[off + 2 + j]? = some (.int .u8 (u.toNat : Int)) := fun j u hj => by
      rw [Nat.add_assoc]
      apply hcs
      rw [← hmm, List.getElem?_take, List.getElem?_drop] at hj
      split at hj
      · exact hj
      · cases hj
    have hrest : ∀ j u, ((l.drop 2).drop (num a b))[j]? = some u → cs[off + (2 + a.toNat * 256 + b.toNat) + j]? = some (.int .u8 (u.toNat : Int)) := fun j u hj => by
      rw [List.drop_drop, List.getElem?_drop] at hj
      rw [Nat.add_assoc]
      apply hcs
      rw [← hj]; congr 1; unfold num; omega
    have hrl : ((l.drop 2).drop (num a b)).length = l.length - (2 + a.toNat * 256 + b.toNat) := by unfold num; simp; omega
    unfold num at hl
    by_cases e2 : cap = 2
    · have hm0 : m = [] := List.eq_nil_of_length_eq_zero (by omega)
      subst hm0
      have hr0 : (l.drop 2).drop (num a b) = [] := List.eq_nil_of_length_eq_zero (by omega)
      have hz : a.toNat = 0 ∧ b.toNat = 0 ∧ l.length = 2 := by omega
      obtain ⟨za, zb, zl⟩ := hz
      have Hz := Lib.hid zl
      have hcv : ∀ nq, (convert 45 9 (.slice (some ⟨B, off, none⟩) 0 0)).run Try.prog (w.drewN nq) = .ok (.string ⟨#[]⟩) (w.drewN nq) := fun nq =>
        conv_text _ B off _ _ [] rfl (fun j u hj => by simp at hj)
      have Hr0 := Lib.hid hr0
      have Hb := Lib.hid hb
      rw [za] at k0
      rw [zb] at k1
      rw [zl, e2] at hc
      have HL : Calls Try.prog 13 #[.pointer (some ⟨R, 0, none⟩)] w fun e w' => e = .returned (.int .i64 2) ∧ w = w' := by
        have := left_any w R l H.out
        rwa [zl] at this
      have HLh := Lib.hid HL
      clear HL hR hb hcs c0 c1 h0 h1 hmm hml hme hrest hrl hr0 zl za zb e2 hl ha hbb hcap
      go_enter Try.func20, Try.ntmps20
      go_wp2_with (go_at_call 13; refine HLh.out.mono ?_; rintro e w' ⟨rfl, rfl⟩)
      go_quiet (fail)
      go_wp2
      go_ret2
      exact ⟨rfl, _, _, rfl, Or.inr ⟨B, off, 0, cs, fr, by rw [Hr0.out]; rfl, by rw [Hr0.out]; simp, Hb.out, fun j u hj => by rw [Hr0.out] at hj; simp at hj⟩⟩
    · have hcv : ∀ nq, (convert 45 9 (.slice (some ⟨B, off + 2, none⟩) (2 + a.toNat * 256 + b.toNat - 2) (cap - 2))).run Try.prog (w.drewN nq) = .ok (.string ⟨m.toArray⟩) (w.drewN nq) := fun nq =>
        conv_text _ B (off + 2) _ _ m hml (fun j u hj => by
          have := hme j u hj
          simpa [World.cell?, hb] using this)
      have Hrest := Lib.hid hrest
      have Hrl := Lib.hid hrl
      have Hb := Lib.hid hb
      clear hR hb hcs c0 c1 h0 h1 hmm hml hme hrest hrl
      by_cases e3 : cap = 2 + a.toNat * 256 + b.toNat
      · have hr0 : (l.drop 2).drop (num a b) = [] := List.eq_nil_of_length_eq_zero (by have := Hrl.out; omega)
        have Hr0 := Lib.hid hr0; clear hr0
        have hl' : l.length = cap := by omega
        rw [e3] at hl'
        have Hl' := Lib.hid hl'; clear hl'
        subst e3
        go_enter Try.func20, Try.ntmps20
        go_wp2_with (go_at_call 13; refine (left_any _ _ _ H.out).mono ?_; rintro e w' ⟨rfl, rfl⟩)
        go_quiet (fail)
        go_wp2
        go_ret2
        exact ⟨rfl, _, _, rfl, Or.inr ⟨B, off, 0, cs, fr, by rw [Hr0.out]; rfl, by rw [Hr0.out]; simp, Hb.out, fun j u hj => by rw [Hr0.out] at hj; simp at hj⟩⟩
      · go_enter Try.func20, Try.ntmps20
        go_wp2_with (go_at_call 13; refine (left_any _ _ _ H.out).mono ?_; rintro e w' ⟨rfl, rfl⟩)
        go_quiet (fail)
        go_wp2
        go_ret2
        exact ⟨rfl, _, _, rfl, Or.inr ⟨B, off + (2 + a.toNat * 256 + b.toNat), cap - (2 + a.toNat * 256 + b.toNat), cs, fr, by rw [Hrl.out], by rw [Hrl.out]; omega, Hb.out, Hrest.out⟩⟩

theorem parse_cases (l : List UInt8) : (l.length < 2 ∧ parse l = none) ∨ ∃ a b, l[0]? = some a ∧ l[1]? = some b ∧ ((l.length < 2 + num a b ∧ parse l = none) ∨ (2 + num a b ≤ l.length ∧ parse l = some ((l.drop 2).take (num a b), (l.drop 2).drop (num a b)))) := by
  match l with
  | [] => exact .inl ⟨by simp, rfl⟩
  | [a] => exact .inl ⟨by simp, rfl⟩
  | a :: b :: l =>
    refine .inr ⟨a, b, rfl, rfl, ?_⟩
    by_cases h : num a b ≤ l.length
    · exact .inr ⟨by simp; omega, by simp [parse, h]⟩
    · exact .inl ⟨by simp; omega, by simp [parse, h]⟩
theorem take_none (w : World) (R : Nat) (l : List UInt8) (h : Holds w R l) (hp : parse l = none) (hm : l.length ≤ 1000000) :
    Calls Try.prog 20 #[.pointer (some ⟨R, 0, none⟩)] w fun e w' => e = .returned (.tuple #[.string ⟨#[]⟩, .bool false]) ∧ ∃ n, w' = w.drewN n := by
  rcases parse_cases l with ⟨h1, _⟩ | ⟨a, b, h0, h1, (⟨h2, _⟩ | ⟨_, h3⟩)⟩
  · exact (take_short w R l h h1).mono fun _ _ ⟨he, hw⟩ => ⟨he, 0, hw ▸ rfl⟩
  · exact take_not w R a b l h h0 h1 h2 hm
  · rw [h3] at hp; cases hp
theorem take_some (w : World) (R : Nat) (l s r : List UInt8) (h : Holds w R l) (hp : parse l = some (s, r)) (hm : l.length ≤ 1000000) :
    Calls Try.prog 20 #[.pointer (some ⟨R, 0, none⟩)] w fun e w' => e = .returned (.tuple #[.string ⟨s.toArray⟩, .bool true]) ∧ Took w w' R r := by
  rcases parse_cases l with ⟨_, h1⟩ | ⟨a, b, h0, h1, (⟨_, h3⟩ | ⟨h2, h3⟩)⟩
  · rw [h1] at hp; cases hp
  · rw [h3] at hp; cases hp
  · rw [h3] at hp
    simp only [Option.some.injEq, Prod.mk.injEq] at hp
    obtain ⟨rfl, rfl⟩ := hp
    exact take_all w R a b l h h0 h1 h2 hm
end Go.Proofs.Ytnfabjaabhmjjaa
