/-
  The points: the program's and the reference's, walked.
-/
import Derived.Test.YtkoeaejfkgapcaaDoorRsumW
namespace Go.Proofs.YtkoeaejfkgapcaaDoor
open Go.RowKit
set_option linter.unusedVariables false

/-- The number of the first k bytes. -/
def pv (f : Nat → UInt8) : Nat → Nat
  | 0 => 0
  | k + 1 => pv f k * 256 + (f k).toNat
theorem pv_lt (f : Nat → UInt8) (k : Nat) : pv f k < 256 ^ k := by
  induction k with
  | zero => simp [pv]
  | succ k ih => have := (f k).toNat_lt; rw [pv, Nat.pow_succ]; omega
theorem pv_lt8 (f : Nat → UInt8) (k : Nat) (h : k < 8) : pv f k < 72057594037927936 := by
  have := pv_lt f k
  have p : 256 ^ k ≤ 256 ^ 7 := Nat.pow_le_pow_right (by decide) (by omega)
  have e : (256 : Nat) ^ 7 = 72057594037927936 := by decide
  omega
theorem or64 (a b : BitVec 64) : bits .or .u64 (a.toNat : Int) (b.toNat : Int) = ((a ||| b).toNat : Int) := by
  have h : (BitVec.ofInt IntKind.u64.bits (a.toNat : Int) ||| BitVec.ofInt IntKind.u64.bits (b.toNat : Int)).toNat = (a ||| b).toNat := by
    simp only [IntKind.bits, BitVec.ofInt_natCast, BitVec.ofNat_toNat, BitVec.setWidth_eq]; rfl
  have := (a ||| b).isLt
  simp only [bits, h]; exact wraps_u64 _ (by omega) (by omega)
theorem or_bits64 (a b : Nat) (ha : a < 18446744073709551616) (hb : b < 18446744073709551616) : bits .or .u64 (a : Int) (b : Int) = ((a ||| b : Nat) : Int) := by
  have h := or64 (BitVec.ofNat 64 a) (BitVec.ofNat 64 b)
  have e1 : (BitVec.ofNat 64 a).toNat = a := by rw [BitVec.toNat_ofNat]; exact Nat.mod_eq_of_lt ha
  have e2 : (BitVec.ofNat 64 b).toNat = b := by rw [BitVec.toNat_ofNat]; exact Nat.mod_eq_of_lt hb
  rw [BitVec.toNat_or, e1, e2] at h
  exact h
theorem pv_zero (f : Nat → UInt8) : pv f 0 = 0 := rfl
theorem pv_step (f : Nat → UInt8) (k : Nat) (h : k < 8) : bits .or .u64 (IntKind.u64.wrap ((pv f k : Int) * 256)) (IntKind.u64.wrap ((f k).toNat : Int)) = ((pv f (k + 1) : Nat) : Int) := by
  have h1 := pv_lt8 f k h
  have h2 := (f k).toNat_lt
  rw [wraps_u64 _ (by omega) (by omega), wraps_u64 _ (by omega) (by omega)]
  have e : ((pv f k : Int) * 256) = ((pv f k * 256 : Nat) : Int) := by simp
  rw [e, or_bits64 _ _ (by omega) (by omega)]
  have := or_num (pv f k) (f k).toNat 8 (by omega)
  rw [show (2 : Nat) ^ 8 = 256 by decide] at this
  rw [this, pv]
theorem pv_stepR (f : Nat → UInt8) (k : Nat) (h : k < 8) : IntKind.u64.wrap (IntKind.u64.wrap ((pv f k : Int) * 256) + IntKind.u64.wrap ((f k).toNat : Int)) = ((pv f (k + 1) : Nat) : Int) := by
  have h1 := pv_lt8 f k h
  have h2 := (f k).toNat_lt
  rw [wraps_u64 ((pv f k : Int) * 256) (by omega) (by omega), wraps_u64 ((f k).toNat : Int) (by omega) (by omega), wraps_u64 _ (by omega) (by omega), pv]
  simp
attribute [local irreducible] row rowB sumB pv
set_option maxHeartbeats 800000 in
theorem point_core (arg : Value) (s : ByteArray) (w : World) (hsz : s.size ≤ 1000000) (htab : TabIn w)
    (hj : ∀ w', Below w.heap.size w w' → Calls Tryd.prog 24 #[arg, .string ⟨#[]⟩] w' fun e w'' => e = .returned (.string s) ∧ Below w'.heap.size w' w'') :
    Calls Tryd.prog 18 #[arg] w fun e w' => e = .returned (.int .u64 (pv (sumB s.data.toList) 8)) ∧ Below w.heap.size w w' := by
  have hal : ∀ w : World, (zeroValue 33).run Tryd.prog w = .ok (.agg (rowB (sumB s.data.toList) 0)) w := fun w => by rw [rowB_zero]; exact zero33 w
  have hs33 : (Tryd.prog.info? 33).map (·.size) = some (rowB (sumB s.data.toList) 32).size := by rw [rowB_size]; exact size33
  have Hsum := Lib.hid (sum_core arg s w hsz htab hj)
  clear hj htab
  generalize sumB s.data.toList = f at hal hs33 Hsum ⊢
  go_enter Tryd.func18, Tryd.ntmps18
  go_wp2_with fail
  refine Hsum.out.mono ?_
  rintro e w1 ⟨rfl, hb1⟩
  have Hb1 := Lib.hid hb1
  clear hb1 Hsum
  go_wp2_with (refine wpList_store_row rfl 33 (.tmp 3) (.tmp 8) rfl w1.heap.size (rowB f 32) rfl rfl 33 (rowB f 0) (heap_alloc_last w1 _) hs33 (by rw [rowB_size, rowB_size]) (rowB_one _ _) ?_; rw [World.setRow_alloc_new])
  obtain ⟨X, hX⟩ : ∃ X, w1.heap.size = X := ⟨_, rfl⟩
  obtain ⟨WX, hWX⟩ : ∃ WX, w1.alloc (.cells (rowB f 32) 33) = WX := ⟨_, rfl⟩
  have hx : WX.heap[X]? = some (.cells (rowB f 32) 33 (0, 0)) := by rw [← hWX, ← hX]; exact heap_alloc_last w1 _
  have hb : Below w.heap.size w WX := by rw [← hWX]; exact Hb1.out.alloc Hb1.out.size _
  rw [hWX, hX]
  have Hx := Lib.hid hx
  have Hb := Lib.hid hb
  clear hx hb hX hWX hal hs33
  go_loopw [4, 11] (fun p i wr => ∃ k : Nat, k ≤ 8 ∧ p = .int .u64 (pv f k) ∧ i = .int .i64 k ∧ wr.heap[X]? = some (.cells (rowB f 32) 33 (0, 0)) ∧ Below w.heap.size w wr) (fun _ i _ => 8 - (intOf i).toNat)
  case atStart => exact ⟨0, by omega, by rw [pv_zero]; rfl, rfl, Hx.out, Hb.out⟩
  case round =>
    obtain ⟨k, hk, rfl, rfl, hx, hb⟩ := hrel
    have Hx' := Lib.hid hx
    have Hb' := Lib.hid hb
    clear hx hb
    by_cases hkl : k < 8
    · have b0 : (k : Int) < 8 := by omega
      have e0 : wr.cell? ⟨X, k, none⟩ = some (.int .u8 ((f k).toNat : Int)) := by
        rw [cell_of_row wr _ _ _ 33 (0, 0) Hx'.out]; exact rowB_get _ _ _ (by omega) (by omega)
      go_wp2_with fail
      rw [pv_step f k hkl]
      exact ⟨⟨k + 1, by omega, rfl, by go_num, Hx'.out, Hb'.out⟩, by simp [intOf]; omega⟩
    · obtain rfl : k = 8 := by omega
      go_wp2
      go_ret
      exact ⟨rfl, Hb'.out⟩
set_option maxHeartbeats 800000 in
theorem rpoint_any (s : ByteArray) (w : World) (hsz : s.size ≤ 1000000) :
    Calls Tryd.prog 19 #[.string s] w fun e w' => e = .returned (.int .u64 (pv (sumB s.data.toList) 8)) ∧ Below w.heap.size w w' := by
  have hal : ∀ w : World, (zeroValue 33).run Tryd.prog w = .ok (.agg (rowB (sumB s.data.toList) 0)) w := fun w => by rw [rowB_zero]; exact zero33 w
  have hs33 : (Tryd.prog.info? 33).map (·.size) = some (rowB (sumB s.data.toList) 32).size := by rw [rowB_size]; exact size33
  have Hsum := Lib.hid (rsum_any s w hsz)
  generalize sumB s.data.toList = f at hal hs33 Hsum ⊢
  go_enter Tryd.func19, Tryd.ntmps19
  go_wp2_with fail
  refine Hsum.out.mono ?_
  rintro e w1 ⟨rfl, hb1⟩
  have Hb1 := Lib.hid hb1
  clear hb1 Hsum
  go_wp2_with (refine wpList_store_row rfl 33 (.tmp 3) (.tmp 7) rfl w1.heap.size (rowB f 32) rfl rfl 33 (rowB f 0) (heap_alloc_last w1 _) hs33 (by rw [rowB_size, rowB_size]) (rowB_one _ _) ?_; rw [World.setRow_alloc_new])
  obtain ⟨X, hX⟩ : ∃ X, w1.heap.size = X := ⟨_, rfl⟩
  obtain ⟨WX, hWX⟩ : ∃ WX, w1.alloc (.cells (rowB f 32) 33) = WX := ⟨_, rfl⟩
  have hx : WX.heap[X]? = some (.cells (rowB f 32) 33 (0, 0)) := by rw [← hWX, ← hX]; exact heap_alloc_last w1 _
  have hb : Below w.heap.size w WX := by rw [← hWX]; exact Hb1.out.alloc Hb1.out.size _
  rw [hWX, hX]
  have Hx := Lib.hid hx
  have Hb := Lib.hid hb
  clear hx hb hX hWX hal hs33
  go_loopw [4, 5] (fun p i wr => ∃ k : Nat, k ≤ 8 ∧ p = .int .u64 (pv f k) ∧ i = .int .i64 k ∧ wr.heap[X]? = some (.cells (rowB f 32) 33 (0, 0)) ∧ Below w.heap.size w wr) (fun _ i _ => 8 - (intOf i).toNat)
  case atStart => exact ⟨0, by omega, by rw [pv_zero]; rfl, rfl, Hx.out, Hb.out⟩
  case round =>
    obtain ⟨k, hk, rfl, rfl, hx, hb⟩ := hrel
    have Hx' := Lib.hid hx
    have Hb' := Lib.hid hb
    clear hx hb
    by_cases hkl : k < 8
    · have b0 : (k : Int) < 8 := by omega
      have e0 : wr.cell? ⟨X, k, none⟩ = some (.int .u8 ((f k).toNat : Int)) := by
        rw [cell_of_row wr _ _ _ 33 (0, 0) Hx'.out]; exact rowB_get _ _ _ (by omega) (by omega)
      go_wp2_with fail
      rw [pv_stepR f k hkl]
      exact ⟨⟨k + 1, by omega, rfl, by go_num, Hx'.out, Hb'.out⟩, by simp [intOf]; omega⟩
    · obtain rfl : k = 8 := by omega
      go_wp2
      go_ret
      exact ⟨rfl, Hb'.out⟩
end Go.Proofs.YtkoeaejfkgapcaaDoor
