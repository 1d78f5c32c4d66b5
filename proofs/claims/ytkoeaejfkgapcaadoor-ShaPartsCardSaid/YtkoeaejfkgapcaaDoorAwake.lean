/-
  awake, walked: it is true where the table lies in its place.
-/
import Derived.Test.YtkoeaejfkgapcaaDoorArgs
namespace Go.Proofs.YtkoeaejfkgapcaaDoor
open Go.RowKit
set_option linter.unusedVariables false

theorem cells_two (w : World) (s u : ByteArray) (t : TypeId) : ∀ (j : Nat) x, [s, u][j]? = some x → (w.alloc (.cells #[.string s, .string u] t)).cell? ⟨w.heap.size, 0 + j, none⟩ = some (.string x) := by
  intro j x h
  rw [World.cell?_alloc_at _ _ _ _ rfl]
  rcases j with _ | _ | j
  · simp at h; subst h; rfl
  · simp at h; subst h; rfl
  · simp at h
theorem sum_abc (w : World) (htab : TabIn w) : Calls Tryd.prog 16 #[.slice (some ⟨w.heap.size, 0, none⟩) 2 2] (w.alloc (.cells #[.string ⟨#[97]⟩, .string ⟨#[98, 99]⟩] 9)) fun e w' => e = .returned (.agg (rowB (sumB [97, 98, 99]) 32)) ∧ Below w.heap.size w w' :=
  (sum_many w.heap.size 0 2 [⟨#[97]⟩, ⟨#[98, 99]⟩] _ (cells_two w _ _ 9) (by simp) (by decide) (by decide) (by decide) (htab.later ((Below.refl _ _).alloc (Nat.le_refl _) _))).mono fun _ _ ⟨he, hb⟩ => ⟨he, ((Below.refl _ _).alloc (Nat.le_refl _) _).trans (hb.mono (by simp))⟩
theorem pad_len (n m : Nat) (h : n ≤ 1000) (hm : zs n + 9 = m) (w : World) : Calls Tryd.prog 14 #[.int .i64 n] w fun e w' => ∃ b : ByteArray, e = .returned (.string b) ∧ b.size = m ∧ Below w.heap.size w w' :=
  (pad_in n (by omega) w).mono fun _ _ ⟨he, hb⟩ => ⟨_, he, by rw [← hm, ← padL_length]; simp [ByteArray.size], hb⟩
attribute [local irreducible] rowB sumB pv
set_option maxHeartbeats 800000 in
theorem awake_any (w : World) (htab : TabIn w) :
    Calls Tryd.prog 9 #[] w fun e w' => e = .returned (.bool true) ∧ Below w.heap.size w w' := by
  have hal : ∀ w : World, (zeroValue 33).run Tryd.prog w = .ok (.agg (rowB (sumB []) 0)) w := fun w => by rw [rowB_zero]; exact zero33 w
  have hs33 : (Tryd.prog.info? 33).map (·.size) = some (rowB (sumB []) 32).size := by rw [rowB_size]; exact size33
  have hs33a : (Tryd.prog.info? 33).map (·.size) = some (rowB (sumB [97, 98, 99]) 32).size := by rw [rowB_size]; exact size33
  have Htab := Lib.hid htab
  clear htab
  go_enter Tryd.func9, Tryd.ntmps9
  go_wp2_with fail
  refine (sum_none 0 none w Htab.out).mono ?_
  rintro e w1 ⟨rfl, hb1⟩
  have Hb1 := Lib.hid hb1
  clear hb1
  go_wp2_with (refine wpList_store_row rfl 33 (.tmp 1) (.tmp 3) rfl w1.heap.size (rowB (sumB []) 32) rfl rfl 33 (rowB (sumB []) 0) (heap_alloc_last w1 _) hs33 (by rw [rowB_size, rowB_size]) (rowB_one _ _) ?_; rw [World.setRow_alloc_new])
  have hbA : Below w.heap.size w (w1.alloc (.cells (rowB (sumB []) 32) 33)) := Hb1.out.alloc Hb1.out.size _
  have HbA := Lib.hid hbA
  clear hbA
  rw [show w1.heap.size + 1 = (w1.alloc (.cells (rowB (sumB []) 32) 33)).heap.size by simp]
  refine (sum_abc _ (Htab.out.later HbA.out)).mono ?_
  rintro e w2 ⟨rfl, hb2⟩
  have Hb2 := Lib.hid hb2
  clear hb2 hs33
  have Hs1 := Lib.hid (show (w1.alloc (.cells (rowB (sumB []) 32) 33)).heap.size = w1.heap.size + 1 by simp)
  obtain ⟨W3, hW3⟩ : ∃ W3, w2.alloc (.cells (rowB (sumB [97, 98, 99]) 32) 33) = W3 := ⟨_, rfl⟩
  have hbB : Below w.heap.size w W3 := by
    have h1 := HbA.out.size
    have h2 := Hb2.out.size
    rw [← hW3]; exact (HbA.out.trans (Hb2.out.mono h1)).alloc (by omega) _
  have hrA : W3.heap[w1.heap.size]? = some (.cells (rowB (sumB []) 32) 33 (0, 0)) := by
    have h2 := Hb2.out.size
    have h3 := Hs1.out
    rw [← hW3, Lib.alloc_old w2 _ _ (by omega), Hb2.out.block _ (by omega)]
    exact heap_alloc_last w1 _
  have hrB : W3.heap[w2.heap.size]? = some (.cells (rowB (sumB [97, 98, 99]) 32) 33 (0, 0)) := by rw [← hW3]; exact heap_alloc_last w2 _
  have e0 : W3.cell? ⟨w1.heap.size, 0, none⟩ = some (.int .u8 227) := by
    rw [cell_of_row W3 _ _ _ 33 (0, 0) hrA, rowB_get _ _ _ (by decide) (by decide), sumE_0]; rfl
  have e1 : W3.cell? ⟨w1.heap.size, 31, none⟩ = some (.int .u8 85) := by
    rw [cell_of_row W3 _ _ _ 33 (0, 0) hrA, rowB_get _ _ _ (by decide) (by decide), sumE_31]; rfl
  have e2 : W3.cell? ⟨w2.heap.size, 0, none⟩ = some (.int .u8 186) := by
    rw [cell_of_row W3 _ _ _ 33 (0, 0) hrB, rowB_get _ _ _ (by decide) (by decide), sumA_0]; rfl
  have e3 : W3.cell? ⟨w2.heap.size, 1, none⟩ = some (.int .u8 120) := by
    rw [cell_of_row W3 _ _ _ 33 (0, 0) hrB, rowB_get _ _ _ (by decide) (by decide), sumA_1]; rfl
  have e4 : W3.cell? ⟨w2.heap.size, 31, none⟩ = some (.int .u8 173) := by
    rw [cell_of_row W3 _ _ _ 33 (0, 0) hrB, rowB_get _ _ _ (by decide) (by decide), sumA_31]; rfl
  have HbB := Lib.hid hbB
  clear hbB hrA hrB Hs1
  go_wp2_with (refine wpList_store_row rfl 33 (.tmp 2) (.tmp 5) rfl w2.heap.size (rowB (sumB [97, 98, 99]) 32) rfl rfl 33 (rowB (sumB []) 0) (heap_alloc_last w2 _) hs33a (by rw [rowB_size, rowB_size]) (rowB_one _ _) ?_; rw [World.setRow_alloc_new])
  clear hal hs33a
  refine (pad_len 0 64 (by decide) (by decide) W3).mono ?_
  rintro e w4 ⟨b1, rfl, hz1, hb4⟩
  have Hb4 := Lib.hid (HbB.out.trans (hb4.mono HbB.out.size))
  clear hb4 e0 e1 e2 e3 e4
  go_wp2_with fail
  refine (pad_len 55 9 (by decide) (by decide) w4).mono ?_
  rintro e w5 ⟨b2, rfl, hz2, hb5⟩
  have Hb5 := Lib.hid (Hb4.out.trans (hb5.mono Hb4.out.size))
  clear hb5
  go_wp2_with fail
  refine (pad_len 56 72 (by decide) (by decide) w5).mono ?_
  rintro e w6 ⟨b3, rfl, hz3, hb6⟩
  have Hb6 := Lib.hid (Hb5.out.trans (hb6.mono Hb5.out.size))
  clear hb6
  go_wp2_with fail
  refine (point_none 0 none w6 (Htab.out.later Hb6.out)).mono ?_
  rw [pvE]
  rintro e w7 ⟨rfl, hb7⟩
  have Hb7 := Lib.hid (Hb6.out.trans (hb7.mono Hb6.out.size))
  clear hb7
  go_wp2
  go_ret
  exact ⟨rfl, Hb7.out⟩
end Go.Proofs.YtkoeaejfkgapcaaDoor
