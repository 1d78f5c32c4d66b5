/-
  Feed: bytes behind what is left.
-/
import Derived.Test.YtnfabjaabhmjjaaNext
import Derived.Deep.RegionLaw
namespace Go.Proofs.Ytnfabjaabhmjjaa
open Go.RowKit Go.Lib
set_option linter.unusedVariables false

theorem step_append_run {P : Program} {ops : Array Oper} {o : Oper} {a : Act} {w : World} {K : Act → World → Prop} {Q : Exit → Act → World → Prop} {E : Prop}
    (hg : o.guard = none) (s x : Operand) (t u : TypeId) (hop : o.op = Op.call { callee := Callee.builtin Builtin.append, args := #[s, x], argTypes := #[t, u] })
    (sv xv v' : Value) (w' : World) (hs : a.eval s = sv) (hx : a.eval x = xv) (hrun : ∀ ty, (Builtin.append_ #[t, u] ty #[sv, xv]).run P w = .ok v' w')
    (hK : K (a.put o.dst v') w') :
    if Region.wanted o (yielded ops a.tmps) = true then Oper.wp P o a w K Q else E := by
  have hw : Region.wanted o (yielded ops a.tmps) = true := by simp [Region.wanted, hg]
  rw [if_pos hw]
  unfold Oper.wp
  simp [execOp, hop, resolve, invoke, builtin, hs, hx, hrun, Result.andThen]
  exact hK

theorem info5 : (Try.prog.info? 5).map (fun i => (i.zero, i.size, i.bytes)) = some (some (.int .u8 0), 1, 1) := by kernel_rfl
theorem strCells_get (s : ByteArray) (j : Nat) : (strCells s)[j]? = (s.data.toList[j]?).map fun b => Value.int .u8 (b.toNat : Int) := by simp [strCells]

/-- append of a text to a slice without room: what comes of it. -/
theorem feed_append (w : World) (ao : Option Addr) (cap : Nat) (l : List UInt8) (h : DataAt w (.slice ao l.length cap) l) (s : ByteArray) (hm : l.length + s.size ≤ 1000000) :
    ∃ a' c' w', (∀ ty, (Builtin.append_ #[45, 9] ty #[.slice ao l.length l.length, .string s]).run Try.prog w = .ok (.slice a' (l.length + s.size) c') w') ∧
      DataAt w' (.slice a' (l.length + s.size) c') (l ++ s.data.toList) ∧ w.grownBy w' none := by
  obtain ⟨i0, hi, hz0, hz1, hz2⟩ := info_parts info5
  by_cases hs0 : s.size = 0
  · have hn : s.data.toList = [] := List.eq_nil_of_length_eq_zero (by rw [Array.length_toList]; exact hs0)
    refine ⟨ao, l.length, w, ?_, ?_, World.grownBy.refl w none⟩
    · intro ty
      have hf := run_firstCells_string (P := Try.prog) w 1 s
      have hsc : strCells s = [] := by simp [strCells, hn]
      rw [hs0, hsc] at hf
      cases ao <;> simp [Builtin.append_, run_underlying Try.underlying45, run_underlying Try.underlying9, sizeOf, typeInfo, hi, hz1, Builtin.lenOf, hs0, hf, storeCells]
    · rw [hs0, hn, List.append_nil, Nat.add_zero]
      rcases h with ⟨he, hl⟩ | ⟨b, off, cap', cs, fr, he, hc, hb, hcs⟩
      · simp only [Value.slice.injEq] at he
        obtain ⟨rfl, _, _⟩ := he
        subst hl
        exact .inl ⟨rfl, rfl⟩
      · simp only [Value.slice.injEq] at he
        obtain ⟨rfl, _, _⟩ := he
        exact .inr ⟨b, off, l.length, cs, fr, rfl, Nat.le_refl _, hb, hcs⟩
  · have hcap := fun old => grownCap_ge w (l.length + s.size) old 5
    have hlen : (l ++ s.data.toList).length = l.length + s.size := by rw [List.length_append, Array.length_toList]; rfl
    rcases h with ⟨he, hl⟩ | ⟨b, off, cap', cs, fr, he, hc, hb, hcs⟩
    · simp only [Value.slice.injEq] at he
      obtain ⟨rfl, _, _⟩ := he
      subst hl
      simp only [List.length_nil, Nat.zero_add, List.nil_append] at *
      refine ⟨_, _, _, fun ty => run_append_nil_string (P := Try.prog) w 45 9 ty 5 i0 (.int .u8 0) Try.underlying45 Try.underlying9 hi hz0 s (by omega) (by omega) (by rw [hz2]; omega), .inr ⟨w.heap.size, 0, _, _, (0, 0), by rw [hlen], by rw [hlen]; exact hcap 0, heap_alloc_new w.drew _, ?_⟩, ⟨rfl, rfl, rfl, by simp, fun k hk _ => Below.heap_alloc w.drew _ k hk⟩⟩
      intro j u hj
      have hj' := (List.getElem?_eq_some_iff.1 hj).1
      rw [Nat.zero_add, Array.getElem?_append_left (by simpa using hj'), Array.getElem?_map, ← Array.getElem?_toList, hj]; rfl
    · simp only [Value.slice.injEq] at he
      obtain ⟨rfl, _, rfl⟩ := he
      have hold : ∀ j v, (l.map fun b => Value.int .u8 (b.toNat : Int))[j]? = some v → w.cell? ((⟨b, off, none⟩ : Addr).add j) = some v := fun j v hj => by
        rw [List.getElem?_map] at hj
        cases hlj : l[j]? with
        | none => simp [hlj] at hj
        | some u =>
          rw [hlj] at hj
          simp only [Option.map_some, Option.some.injEq] at hj
          subst hj
          have := hcs j u hlj
          rw [Addr.add_lit]; simpa [World.cell?, hb] using this
      refine ⟨_, _, _, fun ty => run_append_grow_string (P := Try.prog) w 45 9 ty 5 i0 (.int .u8 0) Try.underlying45 Try.underlying9 hi hz0 ⟨b, off, none⟩ l.length l.length (l.map fun b => Value.int .u8 (b.toNat : Int)) (by simp [hz1]) hold s (by omega) (by omega) (by rw [hz2]; exact growslice_fits (by omega) (by omega)), .inr ⟨w.heap.size, 0, _, _, (0, 0), by rw [hlen], by rw [hlen]; exact hcap l.length, heap_alloc_new w.drew _, ?_⟩, ⟨rfl, rfl, rfl, by simp, fun k hk _ => Below.heap_alloc w.drew _ k hk⟩⟩
      intro j u hj
      have hj' := (List.getElem?_eq_some_iff.1 hj).1
      rw [Nat.zero_add, Array.getElem?_append_left (by simp [strCells]; simpa using hj'), ← Array.getElem?_toList]
      simp only [Array.toList_append, strCells, ← List.map_append, List.getElem?_map, hj]; rfl

theorem feed_end {w w' : World} {R : Nat} {v v0 v0' : Value} {l : List UInt8} (hR : w.heap[R]? = some (.cells #[v0] 50 (0, 0))) (hg : w.drew.grownBy w' none) (hR' : w'.heap[R]? = some (.cells #[v0'] 50 (0, 0))) (hd : DataAt w' v l) :
    Holds (w'.setCell ⟨R, 0, none⟩ v) R l ∧ But R w (w'.setCell ⟨R, 0, none⟩ v) := by
  refine ⟨⟨v, by rw [heap_setCell_same w' R 0 #[v0'] 50 v hR']; rfl, dataAt_kept hd fun k cs fr hk => ?_⟩, ?_⟩
  rotate_left
  · have hb : But R w w' := ⟨hg.os, hg.tape, hg.output, hg.size, fun k hk _ => hg.block k hk (by simp)⟩
    exact hb.setCell v
  have hne : k ≠ R := by intro e; subst e; rw [hR'] at hk; cases hk
  rw [heap_setCell_other _ _ _ _ hne]; exact hk

set_option maxHeartbeats 3200000 in
theorem feed_some (w : World) (R b off cap : Nat) (l : List UInt8) (s : ByteArray) (hR : w.heap[R]? = some (.cells #[.slice (some ⟨b, off, none⟩) l.length cap] 50 (0, 0))) (hd : DataAt w (.slice (some ⟨b, off, none⟩) l.length cap) l) (hcap : l.length ≤ cap) (hm : l.length + s.size ≤ 1000000) :
    Calls Try.prog 11 #[.pointer (some ⟨R, 0, none⟩), .string s] w fun e w' => e = .returned (.int .i64 ↑(l.length + s.size)) ∧ Holds w' R (l ++ s.data.toList) ∧ But R w w' := by
  obtain ⟨a', c', w', hrun, hd', hg⟩ := feed_append w.drew (some ⟨b, off, none⟩) cap l hd s hm
  have Hrun := Lib.hid hrun
  have Hd' := Lib.hid hd'
  have Hg := Lib.hid hg
  have hc := cell_R hR
  have hf := free_R hR
  have HR := Lib.hid hR
  have hR' : w'.heap[R]? = some (.cells #[.slice (some ⟨b, off, none⟩) l.length cap] 50 (0, 0)) := block_kept hg (w := w.drew) hR (by simp)
  have hc' := cell_R hR'
  have hf' := free_R hR'
  have HR' := Lib.hid hR'
  clear hrun hd' hg hR hR' hd
  go_enter Try.func11, Try.ntmps11
  go_wp2
  go_region_law (refine step_append_run rfl (.tmp 22) (.tmp 23) 45 9 rfl (.slice (some ⟨b, off, none⟩) l.length l.length) (.string s) (.slice a' (l.length + s.size) c') w' (by simp [Act.eval, Act.put]) (by simp [Act.eval, Act.put]) Hrun.out ?_)
  all_goals
    go_wp2
    go_ret
    exact ⟨rfl, feed_end HR.out Hg.out HR'.out Hd'.out⟩

set_option maxHeartbeats 3200000 in
theorem feed_none (w : World) (R : Nat) (s : ByteArray) (hR : w.heap[R]? = some (.cells #[.slice none 0 0] 50 (0, 0))) (hm : s.size ≤ 1000000) :
    Calls Try.prog 11 #[.pointer (some ⟨R, 0, none⟩), .string s] w fun e w' => e = .returned (.int .i64 s.size) ∧ Holds w' R s.data.toList ∧ But R w w' := by
  obtain ⟨a', c', w', hrun, hd', hg⟩ := feed_append w.drew none 0 [] (.inl ⟨rfl, rfl⟩) s (by simpa using hm)
  simp only [List.length_nil, Nat.zero_add, List.nil_append] at hrun hd'
  have Hrun := Lib.hid hrun
  have Hd' := Lib.hid hd'
  have Hg := Lib.hid hg
  have hc := cell_R hR
  have hf := free_R hR
  have HR := Lib.hid hR
  have hR' : w'.heap[R]? = some (.cells #[.slice none 0 0] 50 (0, 0)) := block_kept hg (w := w.drew) hR (by simp)
  have hc' := cell_R hR'
  have hf' := free_R hR'
  have HR' := Lib.hid hR'
  clear hrun hd' hg hR hR'
  go_enter Try.func11, Try.ntmps11
  go_wp2
  go_region_law (refine step_append_run rfl (.tmp 22) (.tmp 23) 45 9 rfl (.slice none 0 0) (.string s) (.slice a' s.size c') w' (by simp [Act.eval, Act.put]) (by simp [Act.eval, Act.put]) Hrun.out ?_)
  all_goals
    go_wp2
    go_ret
    exact ⟨rfl, feed_end HR.out Hg.out HR'.out Hd'.out⟩

theorem feed_any (w : World) (R : Nat) (l : List UInt8) (s : ByteArray) (h : Holds w R l) (hm : l.length + s.size ≤ 1000000) :
    Calls Try.prog 11 #[.pointer (some ⟨R, 0, none⟩), .string s] w fun e w' => e = .returned (.int .i64 ↑(l.length + s.size)) ∧ Holds w' R (l ++ s.data.toList) ∧ But R w w' := by
  obtain ⟨v, hR, hd⟩ := h
  have hd0 := hd
  rcases hd with ⟨rfl, rfl⟩ | ⟨b, off, cap, cs, fr, rfl, hc, hb, hcs⟩
  · have := feed_none w R s hR (by simpa using hm)
    simpa using this
  · exact feed_some w R b off cap l s hR hd0 hc hm
end Go.Proofs.Ytnfabjaabhmjjaa
