/-
  ShaExpands, walked.
-/
import Derived.Test.YtkoeaejfkgapcaaDoorFree
namespace Go.Proofs.YtkoeaejfkgapcaaDoor
open Go.RowKit
set_option linter.unusedVariables false

theorem act13 (a : Act) (h : a.tmps.size = 13) : ∃ x0 x1 x2 x3 x4 x5 x6 x7 x8 x9 x10 x11 x12 : Value, a = ⟨#[x0, x1, x2, x3, x4, x5, x6, x7, x8, x9, x10, x11, x12], a.defers⟩ := by
  obtain ⟨⟨l⟩, d⟩ := a
  simp only [List.size_toArray] at h
  obtain ⟨x0, l0, rfl⟩ : ∃ x l', l = x :: l' := by
    cases l with
    | nil => simp at h
    | cons x r => exact ⟨x, r, rfl⟩
  obtain ⟨x1, l1, rfl⟩ : ∃ x l', l0 = x :: l' := by
    cases l0 with
    | nil => simp at h
    | cons x r => exact ⟨x, r, rfl⟩
  obtain ⟨x2, l2, rfl⟩ : ∃ x l', l1 = x :: l' := by
    cases l1 with
    | nil => simp at h
    | cons x r => exact ⟨x, r, rfl⟩
  obtain ⟨x3, l3, rfl⟩ : ∃ x l', l2 = x :: l' := by
    cases l2 with
    | nil => simp at h
    | cons x r => exact ⟨x, r, rfl⟩
  obtain ⟨x4, l4, rfl⟩ : ∃ x l', l3 = x :: l' := by
    cases l3 with
    | nil => simp at h
    | cons x r => exact ⟨x, r, rfl⟩
  obtain ⟨x5, l5, rfl⟩ : ∃ x l', l4 = x :: l' := by
    cases l4 with
    | nil => simp at h
    | cons x r => exact ⟨x, r, rfl⟩
  obtain ⟨x6, l6, rfl⟩ : ∃ x l', l5 = x :: l' := by
    cases l5 with
    | nil => simp at h
    | cons x r => exact ⟨x, r, rfl⟩
  obtain ⟨x7, l7, rfl⟩ : ∃ x l', l6 = x :: l' := by
    cases l6 with
    | nil => simp at h
    | cons x r => exact ⟨x, r, rfl⟩
  obtain ⟨x8, l8, rfl⟩ : ∃ x l', l7 = x :: l' := by
    cases l7 with
    | nil => simp at h
    | cons x r => exact ⟨x, r, rfl⟩
  obtain ⟨x9, l9, rfl⟩ : ∃ x l', l8 = x :: l' := by
    cases l8 with
    | nil => simp at h
    | cons x r => exact ⟨x, r, rfl⟩
  obtain ⟨x10, l10, rfl⟩ : ∃ x l', l9 = x :: l' := by
    cases l9 with
    | nil => simp at h
    | cons x r => exact ⟨x, r, rfl⟩
  obtain ⟨x11, l11, rfl⟩ : ∃ x l', l10 = x :: l' := by
    cases l10 with
    | nil => simp at h
    | cons x r => exact ⟨x, r, rfl⟩
  obtain ⟨x12, l12, rfl⟩ : ∃ x l', l11 = x :: l' := by
    cases l11 with
    | nil => simp at h
    | cons x r => exact ⟨x, r, rfl⟩
  obtain rfl : l12 = [] := by
    cases l12 with
    | nil => rfl
    | cons x r => simp at h
  exact ⟨x0, x1, x2, x3, x4, x5, x6, x7, x8, x9, x10, x11, x12, rfl⟩
theorem lit16 (X : Nat → BitVec 32) : #[U (X 0), U (X 1), U (X 2), U (X 3), U (X 4), U (X 5), U (X 6), U (X 7), U (X 8), U (X 9), U (X 10), U (X 11), U (X 12), U (X 13), U (X 14), U (X 15)] = row 16 X 16 := rfl
theorem lit8 (X : Nat → BitVec 32) : #[U (X 0), U (X 1), U (X 2), U (X 3), U (X 4), U (X 5), U (X 6), U (X 7)] = row 8 X 8 := rfl
theorem cells16 {w : World} {g : Nat} {X : Nat → BitVec 32} (h : w.heap[g]? = some (.cells (row 16 X 16) 23 (0, 0))) :
    w.cell? ⟨g, 0, none⟩ = some (U (X 0)) ∧ w.cell? ⟨g, 1, none⟩ = some (U (X 1)) ∧ w.cell? ⟨g, 2, none⟩ = some (U (X 2)) ∧ w.cell? ⟨g, 3, none⟩ = some (U (X 3)) ∧ w.cell? ⟨g, 4, none⟩ = some (U (X 4)) ∧ w.cell? ⟨g, 5, none⟩ = some (U (X 5)) ∧ w.cell? ⟨g, 6, none⟩ = some (U (X 6)) ∧ w.cell? ⟨g, 7, none⟩ = some (U (X 7)) ∧ w.cell? ⟨g, 8, none⟩ = some (U (X 8)) ∧ w.cell? ⟨g, 9, none⟩ = some (U (X 9)) ∧ w.cell? ⟨g, 10, none⟩ = some (U (X 10)) ∧ w.cell? ⟨g, 11, none⟩ = some (U (X 11)) ∧ w.cell? ⟨g, 12, none⟩ = some (U (X 12)) ∧ w.cell? ⟨g, 13, none⟩ = some (U (X 13)) ∧ w.cell? ⟨g, 14, none⟩ = some (U (X 14)) ∧ w.cell? ⟨g, 15, none⟩ = some (U (X 15)) := by
  refine ⟨?_, ?_, ?_, ?_, ?_, ?_, ?_, ?_, ?_, ?_, ?_, ?_, ?_, ?_, ?_, ?_⟩ <;> (rw [cell_of_row w _ _ _ 23 (0, 0) h]; rfl)
theorem cells8 {w : World} {g : Nat} {X : Nat → BitVec 32} (h : w.heap[g]? = some (.cells (row 8 X 8) 28 (0, 0))) :
    w.cell? ⟨g, 0, none⟩ = some (U (X 0)) ∧ w.cell? ⟨g, 1, none⟩ = some (U (X 1)) ∧ w.cell? ⟨g, 2, none⟩ = some (U (X 2)) ∧ w.cell? ⟨g, 3, none⟩ = some (U (X 3)) ∧ w.cell? ⟨g, 4, none⟩ = some (U (X 4)) ∧ w.cell? ⟨g, 5, none⟩ = some (U (X 5)) ∧ w.cell? ⟨g, 6, none⟩ = some (U (X 6)) ∧ w.cell? ⟨g, 7, none⟩ = some (U (X 7)) := by
  refine ⟨?_, ?_, ?_, ?_, ?_, ?_, ?_, ?_⟩ <;> (rw [cell_of_row w _ _ _ 28 (0, 0) h]; rfl)
attribute [local irreducible] row sched
set_option maxHeartbeats 800000 in
theorem expands_walk (W : Nat → BitVec 32) (w : World) (htab : TabIn w) :
    Calls Tryd.prog 3 #[.agg (row 16 W 16)] w fun e w' => e = .returned (.bool true) ∧ Below w.heap.size w w' := by
  have hs23 : (Tryd.prog.info? 23).map (·.size) = some (row 16 W 16).size := by rw [row_size]; exact size23
  have Htab := Lib.hid htab
  clear htab
  go_enter Tryd.func3, Tryd.ntmps3
  go_wp2_with fail
  have hb0 : Below w.heap.size w (w.alloc (.cells (row 16 W 16) 23)) := (Below.refl _ _).alloc (Nat.le_refl _) _
  refine (awake_any _ (Htab.out.later hb0)).mono ?_
  rintro e w1 ⟨rfl, hb1⟩
  have hx : w1.heap[w.heap.size]? = some (.cells (row 16 W 16) 23 (0, 0)) := (hb1.block _ (by simp)).trans (heap_alloc_last w _)
  have hb : Below w.heap.size w w1 := hb0.trans (hb1.mono (by simp))
  have Hb := Lib.hid hb
  clear hb0 hb1 hb
  have hx64 : w.heap.size < w1.heap.size := (Array.getElem?_eq_some_iff.1 hx).1
  generalize hX : w.heap.size = X at hx hx64
  go_wp2_with fail
  have hq := eqIn_row64 (sched W)
  refine wp_region_free (by kernel_rfl) [5, 6, 7, 8, 9, 10, 11, 12, 2] (fun i => #[.bool true, .bool true, .agg (row 16 W 16), .agg (row 64 (sched W) 64), .agg (row 16 W 16), .agg (row 64 (sched W) 64), .bool true, .bool true, .bool true].getD i undef)
    (fun w' => Below X w w' ∧ w'.heap[X]? = some (.cells (row 16 W 16) 23 (0, 0)) ∧ X < w'.heap.size) (by kernel_rfl) rfl (by decide) (by simp) ⟨?_, hx, hx64⟩ ?_ ?_
  · rw [← hX]; exact Hb.out.trans ⟨rfl, rfl, rfl, Nat.le_refl _, fun _ _ => rfl⟩
  · intro i o a w' ho hI hdf hsz hdep hoth K hK
    obtain ⟨x0, x1, x2, x3, x4, x5, x6, x7, x8, x9, x10, x11, x12, ha⟩ := act13 a hsz
    obtain ⟨hb, hx, hlt⟩ := hI
    generalize a.defers = df at ha
    subst ha
    have e0 : x0 = .agg (row 16 W 16) := by simpa using hoth 0 (by decide)
    have e1 : x1 = .pointer (some ⟨X, 0, none⟩) := by simpa using hoth 1 (by decide)
    have e3 : x3 = .bool true := by simpa using hoth 3 (by decide)
    subst e0 e1 e3
    clear hoth
    match i, ho with
    | 0, ho =>
      obtain rfl := Option.some.inj ho
      simp [Region.binds] at hdep
      go_simp
      exact hK w' ⟨hb, hx, hlt⟩
    | 1, ho =>
      obtain rfl := Option.some.inj ho
      simp [Region.binds] at hdep
      subst hdep
      go_simp
      exact hK w' ⟨hb, hx, hlt⟩
    | 2, ho =>
      obtain rfl := Option.some.inj ho
      simp [Region.binds] at hdep
      subst hdep
      refine wp_load_row 23 (.tmp 1) rfl X rfl 23 (row 16 W 16) (0, 0) (.array 16 22) hx Tryd.underlying23 rfl hs23 ?_
      exact hK w' ⟨hb, hx, hlt⟩
    | 3, ho =>
      obtain rfl := Option.some.inj ho
      simp [Region.binds] at hdep
      obtain ⟨rfl, rfl⟩ := hdep
      go_simp
      refine (expand_any W _).mono ?_
      rintro e w2 ⟨rfl, hb2⟩
      exact hK w2 ⟨hb.trans (hb2.mono (Nat.le_of_lt hlt)), (hb2.block X hlt).trans hx, by have := hb2.size; omega⟩
    | 4, ho =>
      obtain rfl := Option.some.inj ho
      simp [Region.binds] at hdep
      subst hdep
      refine wp_load_row 23 (.tmp 1) rfl X rfl 23 (row 16 W 16) (0, 0) (.array 16 22) hx Tryd.underlying23 rfl hs23 ?_
      exact hK w' ⟨hb, hx, hlt⟩
    | 5, ho =>
      obtain rfl := Option.some.inj ho
      simp [Region.binds] at hdep
      obtain ⟨rfl, rfl, rfl⟩ := hdep
      go_simp
      refine (rexpand_any W _).mono ?_
      rintro e w2 ⟨rfl, hb2⟩
      exact hK w2 ⟨hb.trans (hb2.mono (Nat.le_of_lt hlt)), (hb2.block X hlt).trans hx, by have := hb2.size; omega⟩
    | 6, ho =>
      obtain rfl := Option.some.inj ho
      simp [Region.binds] at hdep
      obtain ⟨rfl, rfl, rfl⟩ := hdep
      go_simp
      exact hK w' ⟨hb, hx, hlt⟩
    | 7, ho =>
      obtain rfl := Option.some.inj ho
      simp [Region.binds] at hdep
      obtain ⟨rfl, rfl⟩ := hdep
      go_simp
      exact hK w' ⟨hb, hx, hlt⟩
    | 8, ho =>
      obtain rfl := Option.some.inj ho
      simp [Region.binds] at hdep
      obtain ⟨rfl, hdep⟩ := hdep
      clear hdep
      go_simp
      exact hK w' ⟨hb, hx, hlt⟩
    | i + 9, ho => simp at ho
  · intro a w' hI hdf hsz hall hoth
    obtain ⟨x0, x1, x2, x3, x4, x5, x6, x7, x8, x9, x10, x11, x12, ha⟩ := act13 a hsz
    rw [hdf] at ha
    subst ha
    have e0 : x0 = .agg (row 16 W 16) := by simpa using hoth 0 (by decide)
    have e1 : x1 = .pointer (some ⟨X, 0, none⟩) := by simpa using hoth 1 (by decide)
    have e2 : x2 = .bool true := by simpa using hall 8 (by decide)
    subst e0 e1 e2
    clear hall hoth hsz hdf
    go_wp2
    go_ret
    exact ⟨rfl, hX ▸ hI.1⟩
end Go.Proofs.YtkoeaejfkgapcaaDoor
