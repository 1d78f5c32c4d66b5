/-
  ShaCompresses, walked.
-/
import Derived.Test.YtkoeaejfkgapcaaDoorLawA
namespace Go.Proofs.YtkoeaejfkgapcaaDoor
open Go.RowKit
set_option linter.unusedVariables false

theorem act17 (a : Act) (h : a.tmps.size = 17) : ∃ x0 x1 x2 x3 x4 x5 x6 x7 x8 x9 x10 x11 x12 x13 x14 x15 x16 : Value, a = ⟨#[x0, x1, x2, x3, x4, x5, x6, x7, x8, x9, x10, x11, x12, x13, x14, x15, x16], a.defers⟩ := by
  obtain ⟨⟨l⟩, d⟩ := a
  simp only [List.size_toArray] at h
  obtain ⟨x0, l0, rfl⟩ : ∃ x l', l = x :: l' := by
    cases l with
    | nil => simp at h
    | cons x r => exact ⟨x, r, rfl⟩
  obtain ⟨x1, l1, rfl⟩ : ∃ x l', l0 = x :: l' := by
    cases l0 with
    | nil => simp at h
    | cons x r => exact ⟨x, r, rfl⟩
  obtain ⟨x2, l2, rfl⟩ : ∃ x l', l1 = x :: l' := by
    cases l1 with
    | nil => simp at h
    | cons x r => exact ⟨x, r, rfl⟩
  obtain ⟨x3, l3, rfl⟩ : ∃ x l', l2 = x :: l' := by
    cases l2 with
    | nil => simp at h
    | cons x r => exact ⟨x, r, rfl⟩
  obtain ⟨x4, l4, rfl⟩ : ∃ x l', l3 = x :: l' := by
    cases l3 with
    | nil => simp at h
    | cons x r => exact ⟨x, r, rfl⟩
  obtain ⟨x5, l5, rfl⟩ : ∃ x l', l4 = x :: l' := by
    cases l4 with
    | nil => simp at h
    | cons x r => exact ⟨x, r, rfl⟩
  obtain ⟨x6, l6, rfl⟩ : ∃ x l', l5 = x :: l' := by
    cases l5 with
    | nil => simp at h
    | cons x r => exact ⟨x, r, rfl⟩
  obtain ⟨x7, l7, rfl⟩ : ∃ x l', l6 = x :: l' := by
    cases l6 with
    | nil => simp at h
    | cons x r => exact ⟨x, r, rfl⟩
  obtain ⟨x8, l8, rfl⟩ : ∃ x l', l7 = x :: l' := by
    cases l7 with
    | nil => simp at h
    | cons x r => exact ⟨x, r, rfl⟩
  obtain ⟨x9, l9, rfl⟩ : ∃ x l', l8 = x :: l' := by
    cases l8 with
    | nil => simp at h
    | cons x r => exact ⟨x, r, rfl⟩
  obtain ⟨x10, l10, rfl⟩ : ∃ x l', l9 = x :: l' := by
    cases l9 with
    | nil => simp at h
    | cons x r => exact ⟨x, r, rfl⟩
  obtain ⟨x11, l11, rfl⟩ : ∃ x l', l10 = x :: l' := by
    cases l10 with
    | nil => simp at h
    | cons x r => exact ⟨x, r, rfl⟩
  obtain ⟨x12, l12, rfl⟩ : ∃ x l', l11 = x :: l' := by
    cases l11 with
    | nil => simp at h
    | cons x r => exact ⟨x, r, rfl⟩
  obtain ⟨x13, l13, rfl⟩ : ∃ x l', l12 = x :: l' := by
    cases l12 with
    | nil => simp at h
    | cons x r => exact ⟨x, r, rfl⟩
  obtain ⟨x14, l14, rfl⟩ : ∃ x l', l13 = x :: l' := by
    cases l13 with
    | nil => simp at h
    | cons x r => exact ⟨x, r, rfl⟩
  obtain ⟨x15, l15, rfl⟩ : ∃ x l', l14 = x :: l' := by
    cases l14 with
    | nil => simp at h
    | cons x r => exact ⟨x, r, rfl⟩
  obtain ⟨x16, l16, rfl⟩ : ∃ x l', l15 = x :: l' := by
    cases l15 with
    | nil => simp at h
    | cons x r => exact ⟨x, r, rfl⟩
  obtain rfl : l16 = [] := by
    cases l16 with
    | nil => rfl
    | cons x r => simp at h
  exact ⟨x0, x1, x2, x3, x4, x5, x6, x7, x8, x9, x10, x11, x12, x13, x14, x15, x16, rfl⟩
theorem wp_eql28 {a : Act} {w : World} {K : Act → World → Prop} {Q : Exit → Act → World → Prop} (o : Oper) (ty : TypeId) (x y : Operand) (ty2 : TypeId) (ho : o.op = .binOp .eql 28 x y ty2) (xs ys : Array Value)
    (hx : a.eval x = .agg xs) (hy : a.eval y = .agg ys) (he : (Op.equalIn 10000 28 (.agg xs) (.agg ys)).run Tryd.prog w = .ok true w) (h : K (a.put o.dst (.bool true)) w) : Oper.wp Tryd.prog o a w K Q := by
  have hr : (execOp a.eval o).run Tryd.prog w = .ok (.value (.bool true)) w := by
    unfold execOp
    simp only [ho, hx, hy]
    go_simp
  unfold Oper.wp
  rw [hr]
  exact h
attribute [local irreducible] row comp
set_option maxHeartbeats 800000 in
theorem compresses_walk (H W : Nat → BitVec 32) (w : World) (htab : TabIn w) :
    Calls Tryd.prog 4 #[.agg (row 8 H 8), .agg (row 16 W 16)] w fun e w' => e = .returned (.bool true) ∧ Below w.heap.size w w' := by
  have hs28 : (Tryd.prog.info? 28).map (·.size) = some (row 8 H 8).size := by rw [row_size]; exact size28
  have hs23 : (Tryd.prog.info? 23).map (·.size) = some (row 16 W 16).size := by rw [row_size]; exact size23
  have Htab := Lib.hid htab
  clear htab
  go_enter Tryd.func4, Tryd.ntmps4
  go_wp2_with fail
  have hb0 : Below w.heap.size w ((w.alloc (.cells (row 8 H 8) 28)).alloc (.cells (row 16 W 16) 23)) := ((Below.refl _ _).alloc (Nat.le_refl _) _).alloc (by simp) _
  refine (awake_any _ (Htab.out.later hb0)).mono ?_
  rintro e w1 ⟨rfl, hb1⟩
  have hx : w1.heap[w.heap.size]? = some (.cells (row 8 H 8) 28 (0, 0)) := (hb1.block _ (by simp; omega)).trans (heap_alloc2_old w _ _)
  have hy : w1.heap[w.heap.size + 1]? = some (.cells (row 16 W 16) 23 (0, 0)) := (hb1.block _ (by simp)).trans (heap_alloc2_new w _ _)
  have hb : Below w.heap.size w w1 := hb0.trans (hb1.mono (by simp; omega))
  have Hb := Lib.hid hb
  clear hb0 hb1 hb
  have hy64 : w.heap.size + 1 < w1.heap.size := (Array.getElem?_eq_some_iff.1 hy).1
  generalize hX : w.heap.size = X at hx hy hy64
  go_wp2_with fail
  have hq := eqIn_row8 (comp H W)
  refine wp_region_free (by kernel_rfl) [7, 8, 9, 10, 11, 12, 13, 14, 15, 16, 4] (fun i => #[.bool true, .bool true, .agg (row 8 H 8), .agg (row 16 W 16), .agg (row 8 (comp H W) 8), .agg (row 8 H 8), .agg (row 16 W 16), .agg (row 8 (comp H W) 8), .bool true, .bool true, .bool true].getD i undef)
    (fun w' => Below X w w' ∧ w'.heap[X]? = some (.cells (row 8 H 8) 28 (0, 0)) ∧ w'.heap[X + 1]? = some (.cells (row 16 W 16) 23 (0, 0)) ∧ X + 1 < w'.heap.size) (by kernel_rfl) rfl (by decide) (by simp) ⟨?_, hx, hy, hy64⟩ ?_ ?_
  · rw [← hX]; exact Hb.out.trans ⟨rfl, rfl, rfl, Nat.le_refl _, fun _ _ => rfl⟩
  · intro i o a w' ho hI hdf hsz hdep hoth K hK
    obtain ⟨x0, x1, x2, x3, x4, x5, x6, x7, x8, x9, x10, x11, x12, x13, x14, x15, x16, ha⟩ := act17 a hsz
    obtain ⟨hb, hx, hy, hlt⟩ := hI
    have htab : TabIn w' := Htab.out.later (hX ▸ hb)
    generalize a.defers = df at ha
    subst ha
    have e0 : x0 = .agg (row 8 H 8) := by simpa using hoth 0 (by decide)
    have e1 : x1 = .agg (row 16 W 16) := by simpa using hoth 1 (by decide)
    have e2 : x2 = .pointer (some ⟨X, 0, none⟩) := by simpa using hoth 2 (by decide)
    have e3 : x3 = .pointer (some ⟨X + 1, 0, none⟩) := by simpa using hoth 3 (by decide)
    have e5 : x5 = .bool true := by simpa using hoth 5 (by decide)
    subst e0 e1 e2 e3 e5
    have hI : Below X w w' ∧ w'.heap[X]? = some (.cells (row 8 H 8) 28 (0, 0)) ∧ w'.heap[X + 1]? = some (.cells (row 16 W 16) 23 (0, 0)) ∧ X + 1 < w'.heap.size := ⟨hb, hx, hy, hlt⟩
    have hnext : ∀ w2 : World, Below w'.heap.size w' w2 → Below X w w2 ∧ w2.heap[X]? = some (.cells (row 8 H 8) 28 (0, 0)) ∧ w2.heap[X + 1]? = some (.cells (row 16 W 16) 23 (0, 0)) ∧ X + 1 < w2.heap.size := fun w2 hb2 =>
      ⟨hb.trans (hb2.mono (by omega)), (hb2.block X (by omega)).trans hx, (hb2.block (X + 1) (by omega)).trans hy, by have := hb2.size; omega⟩
    have Hnext := Lib.hid hnext
    have HI := Lib.hid hI
    have Htb := Lib.hid htab
    clear hoth hb hlt hnext hI htab
    match i, ho with
    | 0, ho =>
      obtain rfl := Option.some.inj ho
      clear ho
      simp [Region.binds] at hdep
      go_simp
      exact hK w' HI.out
    | 1, ho =>
      obtain rfl := Option.some.inj ho
      clear ho
      simp [Region.binds] at hdep
      subst hdep
      go_simp
      exact hK w' HI.out
    | 2, ho =>
      obtain rfl := Option.some.inj ho
      clear ho
      simp [Region.binds] at hdep
      subst hdep
      refine wp_load_row 28 (.tmp 2) rfl X rfl 28 (row 8 H 8) (0, 0) (.array 8 22) hx Tryd.underlying28 rfl hs28 ?_
      exact hK w' HI.out
    | 3, ho =>
      obtain rfl := Option.some.inj ho
      clear ho
      simp [Region.binds] at hdep
      subst hdep
      refine wp_load_row 23 (.tmp 3) rfl (X + 1) rfl 23 (row 16 W 16) (0, 0) (.array 16 22) hy Tryd.underlying23 rfl hs23 ?_
      exact hK w' HI.out
    | 4, ho =>
      obtain rfl := Option.some.inj ho
      clear ho
      simp [Region.binds] at hdep
      obtain ⟨rfl, rfl, rfl⟩ := hdep
      go_simp
      refine (compress_any H W _ Htb.out).mono ?_
      rintro e w2 ⟨rfl, hb2⟩
      exact hK w2 (Hnext.out w2 hb2)
    | 5, ho =>
      obtain rfl := Option.some.inj ho
      clear ho
      simp [Region.binds] at hdep
      subst hdep
      refine wp_load_row 28 (.tmp 2) rfl X rfl 28 (row 8 H 8) (0, 0) (.array 8 22) hx Tryd.underlying28 rfl hs28 ?_
      exact hK w' HI.out
    | 6, ho =>
      obtain rfl := Option.some.inj ho
      clear ho
      simp [Region.binds] at hdep
      subst hdep
      refine wp_load_row 23 (.tmp 3) rfl (X + 1) rfl 23 (row 16 W 16) (0, 0) (.array 16 22) hy Tryd.underlying23 rfl hs23 ?_
      exact hK w' HI.out
    | 7, ho =>
      obtain rfl := Option.some.inj ho
      clear ho
      simp [Region.binds] at hdep
      obtain ⟨rfl, rfl, rfl, rfl⟩ := hdep
      go_simp
      refine (rcompress_any H W _).mono ?_
      rintro e w2 ⟨rfl, hb2⟩
      exact hK w2 (Hnext.out w2 hb2)
    | 8, ho =>
      obtain rfl := Option.some.inj ho
      clear ho
      simp [Region.binds] at hdep
      obtain ⟨rfl, rfl, rfl⟩ := hdep
      rw [if_pos (by simp [Region.wanted, yielded])]
      refine wp_eql28 _ 28 (.tmp 11) (.tmp 14) 28 rfl (row 8 (comp H W) 8) (row 8 (comp H W) 8) rfl rfl (hq w') ?_
      exact hK w' HI.out
    | 9, ho =>
      obtain rfl := Option.some.inj ho
      clear ho
      simp [Region.binds] at hdep
      obtain ⟨rfl, rfl⟩ := hdep
      go_simp
      exact hK w' HI.out
    | 10, ho =>
      obtain rfl := Option.some.inj ho
      clear ho
      simp [Region.binds] at hdep
      obtain ⟨rfl, hdep⟩ := hdep
      clear hdep
      go_simp
      exact hK w' HI.out
    | i + 11, ho => simp at ho
  · intro a w' hI hdf hsz hall hoth
    obtain ⟨x0, x1, x2, x3, x4, x5, x6, x7, x8, x9, x10, x11, x12, x13, x14, x15, x16, ha⟩ := act17 a hsz
    rw [hdf] at ha
    subst ha
    have e4 : x4 = .bool true := by simpa using hall 10 (by decide)
    subst e4
    clear hall hoth hsz hdf
    go_wp2
    go_ret
    exact ⟨rfl, hX ▸ hI.1⟩
end Go.Proofs.YtkoeaejfkgapcaaDoor
