/-
  The reference's constants, first state and Compress.
-/
import Derived.Test.YtkoeaejfkgapcaaDoorComp
namespace Go.Proofs.YtkoeaejfkgapcaaDoor
open Go.RowKit
set_option linter.unusedVariables false

def initL : List (BitVec 32) := [1779033703#32, 3144134277#32, 1013904242#32, 2773480762#32, 1359893119#32, 2600822924#32, 528734635#32, 1541459225#32]
def init (i : Nat) : BitVec 32 := initL.getD i 0#32

set_option maxRecDepth 100000 in
set_option maxHeartbeats 800000 in
theorem constants_any (w : World) :
    Calls Tryd.prog 23 #[] w fun e w' => e = .returned (.agg (row 64 Kt 64)) ∧ Below w.heap.size w w' := by
  have hal := zero25
  have hs25 : (Tryd.prog.info? 25).map (·.size) = some (row 64 Kt 64).size := by rw [row_size]; exact size25
  go_enter Tryd.func23, Tryd.ntmps23
  go_wp2_with (refine wpList_store_row rfl 25 (.tmp 0) (.tmp 1) rfl w.heap.size (row 64 Kt 64) rfl (by kernel_rfl) 25 (Array.replicate 64 (.int .u32 0)) (heap_alloc_last w _) hs25 (by rw [row_size]; rfl) (row_one _ _ _) ?_; rw [World.setRow_alloc_new])
  exact bodyPost_ret (v := .agg (row 64 Kt 64)) (results_cell_row rfl _ _ w.heap.size 25 _ (0, 0) _ rfl (heap_alloc_last w _) Tryd.underlying25 rfl hs25) rfl ⟨rfl, (Below.refl _ _).alloc (Nat.le_refl _) _⟩
set_option maxRecDepth 100000 in
set_option maxHeartbeats 800000 in
theorem first_any (w : World) :
    Calls Tryd.prog 25 #[] w fun e w' => e = .returned (.agg (row 8 init 8)) ∧ Below w.heap.size w w' := by
  have hal := zero28
  have hs28 : (Tryd.prog.info? 28).map (·.size) = some (row 8 init 8).size := by rw [row_size]; exact size28
  go_enter Tryd.func25, Tryd.ntmps25
  go_wp2_with (refine wpList_store_row rfl 28 (.tmp 0) (.tmp 1) rfl w.heap.size (row 8 init 8) rfl (by kernel_rfl) 28 (Array.replicate 8 (.int .u32 0)) (heap_alloc_last w _) hs28 (by rw [row_size]; rfl) (row_one _ _ _) ?_; rw [World.setRow_alloc_new])
  exact bodyPost_ret (v := .agg (row 8 init 8)) (results_cell_row rfl _ _ w.heap.size 28 _ (0, 0) _ rfl (heap_alloc_last w _) Tryd.underlying28 rfl hs28) rfl ⟨rfl, (Below.refl _ _).alloc (Nat.le_refl _) _⟩
end Go.Proofs.YtkoeaejfkgapcaaDoor
