/-
  The reference's Expand.
-/
import Derived.Test.YtkoeaejfkgapcaaDoorExp
namespace Go.Proofs.YtkoeaejfkgapcaaDoor
open Go.RowKit
set_option linter.unusedVariables false

/-- What the loop keeps: the block's row as well. -/
structure RexpAt (w : World) (W : Nat → BitVec 32) (k : Nat) (wr : World) : Prop extends ExpAt w W k wr where
  c1 : wr.heap[w.heap.size]? = some (.cells (row 16 W 16) 23 (0, 0))
theorem RexpAt.step {w : World} {W : Nat → BitVec 32} {k : Nat} {wr : World} (h : RexpAt w W k wr) (hk : k < 64) : RexpAt w W (k + 1) (wr.setCell ⟨w.heap.size + 1 + 1, k, none⟩ (U (sched W k))) := by
  have h1 := h.toExpAt.step hk
  refine ⟨⟨h1.c2, h1.c3, h1.bel.trans ⟨rfl, rfl, rfl, Nat.le_refl _, fun _ _ => rfl⟩⟩, ?_⟩
  rw [heap_setCell_other _ _ _ _ (by simp; omega)]; exact h.c1

set_option maxRecDepth 100000 in
set_option maxHeartbeats 800000 in
theorem rexpand_any (W : Nat → BitVec 32) (w : World) :
    Calls Tryd.prog 11 #[.agg (row 16 W 16)] w fun e w' => e = .returned (.agg (row 64 (sched W) 64)) ∧ Below w.heap.size w w' := by
  have hal : ∀ w : World, (zeroValue 25).run Tryd.prog w = .ok (.agg (row 64 (sched W) 0)) w := fun w => by rw [row_zero]; exact zero25 w
  go_enter Tryd.func11, Tryd.ntmps11
  go_wp2_with fail
  clear hal
  obtain ⟨W0, hW0⟩ : ∃ W0, ((w.alloc (.cells (row 16 W 16) 23)).alloc (.cells (row 64 (sched W) 0) 25)).alloc (.cells (row 64 (sched W) 0) 25) = W0 := ⟨_, rfl⟩
  have hE : RexpAt w W 0 W0 := by
    rw [← hW0]
    exact ⟨⟨alloc3_1 _ _ _ _, alloc3_2 _ _ _ _, (((Below.refl _ _).alloc (Nat.le_refl _) _).alloc (by simp) _).alloc (by simp; omega) _⟩, alloc3_0 _ _ _ _⟩
  rw [hW0]
  have HE := Lib.hid hE
  clear hW0 hE
  go_loopw [4] (fun i wr => ∃ j : Nat, j ≤ 64 ∧ i = .int .i64 j ∧ RexpAt w W j wr) (fun i _ => 64 - (intOf i).toNat)
  case atStart => exact ⟨0, by omega, rfl, HE.out⟩
  case round =>
    obtain ⟨j, hj, rfl, hE⟩ := hrel
    have HE' := Lib.hid hE
    clear hE HE
    by_cases hjl : j < 64
    · have c0 : wr.cell? ⟨w.heap.size + 1 + 1, j, none⟩ = some (.int .u32 0) := by
        rw [cell_of_row wr _ _ _ 25 (0, 0) HE'.out.c3]; exact row_get0 _ _ _ _ (by omega) (by omega)
      have f3 : wr.frozen? ⟨w.heap.size + 1 + 1, j, none⟩ = false := by rw [frozen_of_row wr _ _ _ 25 HE'.out.c3]
      by_cases hj16 : j < 16
      · have d0 : wr.cell? ⟨w.heap.size, j, none⟩ = some (U (W j)) := by
          rw [cell_of_row wr _ _ _ 23 (0, 0) HE'.out.c1]; exact row_get _ _ _ _ hj16 hj16
        go_wp2_with fail
        have := HE'.out.step hjl
        rw [sched_first W j hj16] at this
        exact ⟨⟨j + 1, by omega, by go_num, this⟩, by simp [intOf]; omega⟩
      · obtain ⟨k, rfl⟩ : ∃ k, j = k + 16 := ⟨j - 16, by omega⟩
        have d14 := HE'.out.cell (k + 14) (by omega) (by omega)
        have d1 := HE'.out.cell (k + 1) (by omega) (by omega)
        have d9 := HE'.out.cell (k + 9) (by omega) (by omega)
        have d0 := HE'.out.cell k (by omega) (by omega)
        have hw7 : IntKind.i64.wrap ((k : Int) + 16 - 7) = (k : Int) + 9 := by rw [IntKind.wrap_i64]; omega
        have hw16 : IntKind.i64.wrap (k : Int) = (k : Int) := by rw [IntKind.wrap_i64]; omega
        have b9a : 0 ≤ (k : Int) + 9 := by omega
        have b9b : (k : Int) + 9 < 64 := by omega
        have n9 : ((k : Int) + 9).toNat = k + 9 := by omega
        have b0 : (k : Int) < 64 := by omega
        have b16a : 0 ≤ (k : Int) + 16 := by omega
        have b16b : (k : Int) + 16 < 64 := by omega
        have n16 : ((k : Int) + 16).toNat = k + 16 := by omega
        go_wp2_with (go_at_call 21; refine (rrot_any _ _ (by decide) (by decide) _).mono ?_; rintro e w' ⟨rfl, rfl⟩)
        refine wp_region_still_tail 15 (by kernel_rfl) (by kernel_rfl) ?_
        change wpStill _ _ wr.drew _ _ _
        simp only [List.take_succ_cons, List.take_zero, List.drop_succ_cons, List.drop_zero]
        repeat still_step
        refine wpStill_nil ?_
        go_wp2
        refine ⟨⟨k + 16 + 1, by omega, by go_num, ?_⟩, by simp [intOf]; omega⟩
        rw [sched_val W k (by omega)]
        have := HE'.out.step hjl
        exact ⟨⟨this.c2, this.c3, this.bel.trans ⟨rfl, rfl, rfl, Nat.le_refl _, fun _ _ => rfl⟩⟩, this.c1⟩
    · obtain rfl : j = 64 := by omega
      have h1 := HE'.out.c3
      have h2 := HE'.out.c2
      have hbel := HE'.out.bel
      go_wp2_with (first | (refine wpList_load_row rfl 25 _ rfl (w.heap.size + 1 + 1) rfl 25 _ (0, 0) _ h1 Tryd.underlying25 rfl (by rw [row_size]; exact size25) ?_) | (refine wpList_store_row rfl 25 _ _ rfl (w.heap.size + 1) _ rfl rfl 25 _ h2 (by rw [row_size]; exact size25) (by rw [row_size, row_size]) (row_one _ _ _) ?_))
      exact bodyPost_ret (v := .agg (row 64 (sched W) 64)) (results_cell_row rfl _ _ (w.heap.size + 1) 25 _ (0, 0) _ rfl (setRow_heap wr _ _ _ 25 _ h2) Tryd.underlying25 rfl (by rw [row_size]; exact size25)) rfl ⟨rfl, below_setRow hbel (by omega) _⟩
end Go.Proofs.YtkoeaejfkgapcaaDoor
