/-
  Pad, walked.
-/
import Derived.Test.YtkoeaejfkgapcaaDoorPad
namespace Go.Proofs.YtkoeaejfkgapcaaDoor
open Go.RowKit
set_option linter.unusedVariables false

set_option maxHeartbeats 400000 in
theorem pad_out (n : Int) (h : n < 0 ∨ 1152921504606846976 < n) (w : World) :
    Calls Tryd.prog 14 #[.int .i64 n] w fun e w' => e = .returned (.string ⟨#[]⟩) ∧ w = w' := by
  rcases h with h | h
  · have hd : decide (n < 0) = true := by simpa using h
    go_enter Tryd.func14, Tryd.ntmps14
    go_wp2
    go_ret
    exact ⟨rfl, rfl⟩
  · have hd : decide (n < 0) = false := by simp; omega
    have hd2 : decide (1152921504606846976 < n) = true := by simpa using h
    clear h
    go_enter Tryd.func14, Tryd.ntmps14
    go_wp2
    go_ret
    exact ⟨rfl, rfl⟩

theorem len_val (n k : Nat) (h : n ≤ 1152921504606846976) : (IntKind.u64.wrap (IntKind.u64.wrap (n : Int) * 8) / 2 ^ (8 * k) % 256 : Int) = ((lenByte n k).toNat : Int) := by
  rw [wraps_u64 (n : Int) (by omega) (by omega), wraps_u64 ((n : Int) * 8) (by omega) (by omega)]
  have e : ((n : Int) * 8 / 2 ^ (8 * k) % 256) = ((8 * n / 2 ^ (8 * k) % 256 : Nat) : Int) := by
    rw [Nat.mul_comm 8 n]; simp
  rw [e, lenByte, UInt8.toNat_ofNat']
set_option maxHeartbeats 800000 in
theorem pad_in (n : Nat) (h : n ≤ 1152921504606846976) (w : World) :
    Calls Tryd.prog 14 #[.int .i64 n] w fun e w' => e = .returned (.string ⟨(padL n).toArray⟩) ∧ Below w.heap.size w w' := by
  have hd : decide ((n : Int) < 0) = false := by simp
  have hd2 : decide (1152921504606846976 < (n : Int)) = false := by simp; omega
  have H := Lib.hid h
  have hz := zs_lt n
  have hmk : (Instr.makeSlice 50 (.int .i64 (1 + (119 - (n : Int)) % 64 + 8)) (.int .i64 (1 + (119 - (n : Int)) % 64 + 8))).run Tryd.prog w = .ok (.slice (some ⟨w.heap.size, 0, none⟩) (zs n + 9) (zs n + 9)) (w.alloc (.cells (madeCells #[.int .u8 0] (zs n + 9)) 5)) := by
    rw [show 1 + (119 - (n : Int)) % 64 + 8 = ((zs n + 9 : Nat) : Int) by unfold zs; omega]
    exact run_make_row' (P := Tryd.prog) 50 5 (.int .u8 0) 1 Tryd.underlying50 info5 rfl .i64 .i64 (zs n + 9) (by omega) (by omega) w
  have c0 : (w.alloc (.cells (madeCells #[.int .u8 0] (zs n + 9)) 5)).cell? ⟨w.heap.size, 0, none⟩ = some (.int .u8 0) := by
    rw [World.cell?_alloc_at _ _ _ _ rfl]
    rw [← Array.getElem?_toList, toList_madeCells_one]; simp
  have f0 : (w.alloc (.cells (madeCells #[.int .u8 0] (zs n + 9)) 5)).frozen? ⟨w.heap.size, 0, none⟩ = false := frozen_of_row _ _ _ _ 5 (heap_alloc_new _ _)
  clear h
  go_enter Tryd.func14, Tryd.ntmps14
  go_wp2_with fail
  rw [padCells_first]
  clear c0 f0 hmk hd hd2
  go_loopw [22] (fun i wr => ∃ k : Nat, k ≤ 8 ∧ i = .int .i64 k ∧ wr.heap[w.heap.size]? = some (.cells (padCells n k) 5 (0, 0)) ∧ Below w.heap.size w wr) (fun i _ => 8 - (intOf i).toNat)
  case atStart => exact ⟨0, by omega, rfl, heap_alloc_new _ _, (Below.refl _ _).alloc (Nat.le_refl _) _⟩
  case round =>
    obtain ⟨k, hk, rfl, hc, hb⟩ := hrel
    have Hc := Lib.hid hc
    have Hb := Lib.hid hb
    clear hc hb
    by_cases hkl : k < 8
    · have c0 : wr.cell? ⟨w.heap.size, zs n + 8 - k, none⟩ = some (.int .u8 ((padTo n k (zs n + 8 - k)).toNat : Int)) := by
        rw [cell_of_row wr _ _ _ 5 (0, 0) Hc.out]; exact padCells_get _ _ _ (by omega)
      have f0 : wr.frozen? ⟨w.heap.size, zs n + 8 - k, none⟩ = false := frozen_of_row _ _ _ _ 5 Hc.out
      go_wp2_with fail
      rw [len_val n k H.out]
      refine ⟨⟨k + 1, by omega, by go_num, ?_, Hb.out.trans ((Below.refl _ _).setCell (p := ⟨w.heap.size, zs n + 8 - k, none⟩) (Nat.le_refl _) _)⟩, by simp [intOf]; omega⟩
      rw [heap_setCell_same wr _ _ _ 5 _ Hc.out, padCells_step n k hkl]
    · obtain rfl : k = 8 := by omega
      have hcv := conv_text wr w.heap.size 0 (zs n + 9) (zs n + 9) (padL n) (by simp [padL]) (fun j u hj => by
        rw [cell_of_row wr _ _ _ 5 (0, 0) Hc.out, Nat.zero_add]
        have hj' : j < zs n + 9 := by have := (List.getElem?_eq_some_iff.1 hj).1; simpa [padL] using this
        rw [padCells_get _ _ _ hj']
        simp [padL, hj'] at hj
        rw [← hj])
      go_wp2
      go_ret
      exact ⟨rfl, Hb.out⟩
end Go.Proofs.YtkoeaejfkgapcaaDoor
