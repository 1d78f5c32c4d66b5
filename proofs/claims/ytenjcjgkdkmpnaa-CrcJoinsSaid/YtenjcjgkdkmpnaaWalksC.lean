/-
  The walks of the reference, of Join, and of what the laws share.
-/
import Derived.Test.YtenjcjgkdkmpnaaWalksB
namespace Go.Proofs.Ytenjcjgkdkmpnaa
open Go.RowKit
set_option linter.unusedVariables false

set_option maxHeartbeats 400000 in
theorem join_any (x y : BitVec 32) (n : Int) (w : World) :
    Calls Try.prog 16 #[U x, U y, .int .i64 n] w fun e w' => e = .returned (U (joinB x y (clamp n))) ∧ w = w' := by
  go_enter Try.func16, Try.ntmps16
  go_wp2_with (go_at_call 14; refine (shift_any _ _ _).mono ?_; rintro e w' ⟨rfl, rfl⟩)
  go_ret
  exact ⟨ret_u (by rw [xor32]; rfl), rfl⟩

set_option maxHeartbeats 400000 in
theorem rstep_any (c : BitVec 32) (w : World) :
    Calls Try.prog 21 #[U c] w fun e w' => e = .returned (U (stepR c)) ∧ w = w' := by
  rcases Nat.mod_two_eq_zero_or_one c.toNat with h | h
  · have ht : (((c.toNat : Int) % 2) == 1) = false := by rw [beq_eq_false_iff_ne]; omega
    go_enter Try.func21, Try.ntmps21
    go_wp2
    go_ret
    exact ⟨ret_u (by rw [stepR, if_neg (by omega), shr32_1]), rfl⟩
  · have ht : (((c.toNat : Int) % 2) == 1) = true := by rw [beq_iff_eq]; omega
    go_enter Try.func21, Try.ntmps21
    go_wp2
    go_ret
    exact ⟨ret_u (by rw [stepR, if_pos h, shr32_1]; exact xor32 _ 3988292384#32), rfl⟩

theorem byte32 (b : UInt8) : ((BitVec.ofNat 32 b.toNat).toNat : Int) = b.toNat := by
  have := b.toNat_lt
  rw [BitVec.toNat_ofNat]; omega
theorem xor_byte (c : BitVec 32) (b : UInt8) : bits .xor .u32 (c.toNat : Int) ((b.toNat : Int) % 4294967296) = ((c ^^^ BitVec.ofNat 32 b.toNat).toNat : Int) := by
  rw [show ((b.toNat : Int) % 4294967296) = b.toNat from by have := b.toNat_lt; omega]
  rw [← byte32 b, xor32]
def feedRTo (c : BitVec 32) (s : ByteArray) (k : Nat) : BitVec 32 := feedsR c (s.data.toList.take k)
theorem feedRTo_succ (c : BitVec 32) (s : ByteArray) (k : Nat) (h : k < s.size) : feedRTo c s (k + 1) = feedR (feedRTo c s k) s[k] := by
  unfold feedRTo
  rw [List.take_succ_eq_append_getElem (by simpa using h), feedsR_snoc]; rfl
theorem feedRTo_all (c : BitVec 32) (s : ByteArray) : feedRTo c s s.size = feedsR c s.data.toList := by
  unfold feedRTo; rw [List.take_of_length_le (by simp)]

set_option maxHeartbeats 400000 in
theorem rbehind_any (c : BitVec 32) (s : ByteArray) (hs : s.size ≤ 1000000) (w : World) :
    Calls Try.prog 19 #[U c, .string s] w fun e w' => e = .returned (U (feedsR c s.data.toList)) ∧ w = w' := by
  go_enter Try.func19, Try.ntmps19
  go_wp2
  go_loop [0, 5, 6] (fun x i _ => ∃ k : Nat, k ≤ s.size ∧ i = .int .i64 k ∧ x = U (feedRTo c s k)) (fun _ i _ => s.size - (intOf i).toNat)
  case atStart => exact ⟨0, Nat.zero_le _, rfl, rfl⟩
  case round =>
    obtain ⟨k, hk, rfl, rfl⟩ := hrel
    by_cases hlt : k < s.size
    · have hx := xor_byte (feedRTo c s k) s[k]
      have Hx := Lib.hid hx; clear hx
      go_wp2
      go_loop [0, 6] (fun x i => ∃ j : Nat, j ≤ 8 ∧ i = .int .i64 j ∧ x = U (iterR j (feedRTo c s k ^^^ BitVec.ofNat 32 s[k].toNat))) (fun _ i => 8 - (intOf i).toNat)
      case atStart => exact ⟨0, Nat.zero_le _, rfl, by rw [Hx.out]; rfl⟩
      case round =>
        obtain ⟨j, hj, rfl, rfl⟩ := hrel
        by_cases hj8 : j < 8
        · go_wp2_with (go_at_call 21; refine (rstep_any _ _).mono ?_; rintro e w' ⟨rfl, rfl⟩)
          go_round
          case rel => exact ⟨j + 1, by omega, by go_num, rfl⟩
          case measure => simp [intOf]; omega
        · obtain rfl : j = 8 := by omega
          go_wp2
          go_round
          case rel => exact ⟨k + 1, by omega, by go_num, by rw [feedRTo_succ _ _ _ hlt]; rfl⟩
          case measure => simp [intOf]; omega
    · obtain rfl : k = s.size := by omega
      go_wp2
      go_ret
      exact ⟨by rw [feedRTo_all]; rfl, rfl⟩

set_option maxHeartbeats 400000 in
theorem rof_any (s : ByteArray) (hs : s.size ≤ 1000000) (w : World) :
    Calls Try.prog 11 #[.string s] w fun e w' => e = .returned (U (ofB s.data.toList)) ∧ w = w' := by
  go_enter Try.func11, Try.ntmps11
  go_wp2_with (go_at_call 19; refine (rbehind_any 4294967295#32 s hs _).mono ?_; rintro e w' ⟨rfl, rfl⟩)
  go_ret
  exact ⟨ret_u (by rw [not32, ofB, feeds_eq]), rfl⟩

set_option maxHeartbeats 400000 in
theorem radd_any (c : BitVec 32) (s : ByteArray) (hs : s.size ≤ 1000000) (w : World) :
    Calls Try.prog 13 #[U c, .string s] w fun e w' => e = .returned (U (addB c s.data.toList)) ∧ w = w' := by
  go_enter Try.func13, Try.ntmps13
  go_wp2_with (go_at_call 19; rw [not32]; refine (rbehind_any (~~~c) s hs _).mono ?_; rintro e w' ⟨rfl, rfl⟩)
  go_ret
  exact ⟨ret_u (by rw [not32, addB, feeds_eq]), rfl⟩

set_option maxRecDepth 100000 in
set_option maxHeartbeats 400000 in
theorem rshift_any (c : BitVec 32) (n : Nat) (hn : n ≤ 5000) (w : World) :
    Calls Try.prog 15 #[U c, .int .i64 n] w fun e w' => e = .returned (U (shiftB c n)) ∧ w = w' := by
  go_enter Try.func15, Try.ntmps15
  go_wp2
  go_loop [0, 5, 6] (fun x i _ => ∃ k : Nat, k ≤ n ∧ i = .int .i64 k ∧ x = U (shiftB c k)) (fun _ i _ => n - (intOf i).toNat)
  case atStart => exact ⟨0, Nat.zero_le _, rfl, rfl⟩
  case round =>
    obtain ⟨k, hk, rfl, rfl⟩ := hrel
    by_cases hlt : k < n
    · have h5 : (k : Int) < 100000 := by omega
      have h6 : decide ((k : Int) < 100000) = true := decide_eq_true h5
      clear h5
      have h7 : decide ((k : Int) < (n : Int)) = true := decide_eq_true (by omega)
      go_wp2_with fail
      clear h6 h7
      go_loop [0, 6] (fun x i => ∃ j : Nat, j ≤ 8 ∧ i = .int .i64 j ∧ x = U (iterR j (shiftB c k))) (fun _ i => 8 - (intOf i).toNat)
      case atStart => exact ⟨0, Nat.zero_le _, rfl, rfl⟩
      case round =>
        obtain ⟨j, hj, rfl, rfl⟩ := hrel
        by_cases hj8 : j < 8
        · go_wp2_with (go_at_call 21; refine (rstep_any _ _).mono ?_; rintro e w' ⟨rfl, rfl⟩)
          go_round
          case rel => exact ⟨j + 1, by omega, by go_num, rfl⟩
          case measure => simp [intOf]; omega
        · obtain rfl : j = 8 := by omega
          go_wp2
          go_round
          case rel => exact ⟨k + 1, by omega, by go_num, by rw [shift_succ, iter_eq]⟩
          case measure => simp [intOf]; omega
    · obtain rfl : k = n := by omega
      go_wp2
      go_ret
      exact ⟨rfl, rfl⟩
end Go.Proofs.Ytenjcjgkdkmpnaa
