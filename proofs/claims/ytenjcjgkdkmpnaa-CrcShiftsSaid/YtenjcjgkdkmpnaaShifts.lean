/-
  CrcShifts: going on by bytes, and joining, are what the reference says.
-/
import Derived.Test.YtenjcjgkdkmpnaaAwake
namespace Go.Proofs.Ytenjcjgkdkmpnaa
open Go.RowKit
set_option linter.unusedVariables false

set_option maxHeartbeats 400000 in
theorem rshift_neg (c : BitVec 32) (n : Int) (hn : n < 0) (w : World) :
    Calls Try.prog 15 #[U c, .int .i64 n] w fun e w' => e = .returned (U c) ∧ w = w' := by
  have h7 : decide ((0 : Int) < n) = false := decide_eq_false (by omega)
  go_enter Try.func15, Try.ntmps15
  go_wp2
  go_loop [0, 5, 6] (fun x i _ => i = .int .i64 0 ∧ x = U c) (fun _ _ _ => 0)
  case atStart => exact ⟨rfl, rfl⟩
  case round =>
    obtain ⟨rfl, rfl⟩ := hrel
    go_wp2
    go_ret
    exact ⟨rfl, rfl⟩
theorem rshift_int (c : BitVec 32) (n : Int) (hn : n ≤ 5000) (w : World) :
    Calls Try.prog 15 #[U c, .int .i64 n] w fun e w' => e = .returned (U (shiftB c (clamp n))) ∧ w = w' := by
  by_cases h : n < 0
  · rw [show clamp n = 0 from by unfold clamp; omega]
    exact rshift_neg c n h w
  · obtain ⟨m, rfl⟩ := Int.eq_ofNat_of_zero_le (show 0 ≤ n by omega)
    rw [show clamp m = m from by unfold clamp; omega]
    exact rshift_any c m (by omega) w
set_option maxHeartbeats 400000 in
theorem rjoin_int (x y : BitVec 32) (n : Int) (hn : n ≤ 5000) (w : World) :
    Calls Try.prog 17 #[U x, U y, .int .i64 n] w fun e w' => e = .returned (U (joinB x y (clamp n))) ∧ w = w' := by
  go_enter Try.func17, Try.ntmps17
  go_wp2_with (go_at_call 15; refine (rshift_int _ _ hn _).mono ?_; rintro e w' ⟨rfl, rfl⟩)
  go_ret
  exact ⟨ret_u (by rw [xor32]; rfl), rfl⟩

set_option maxHeartbeats 800000 in
theorem shifts_walk (a b : BitVec 32) (n : Int) (hn : n ≤ 9223372036854775807) (w : World) :
    Calls Try.prog 4 #[U a, U b, .int .i64 n] w fun e w' => e = .returned (.bool true) ∧ Below w.heap.size w w' := by
  by_cases h : n ≤ 5000
  all_goals
    go_enter Try.func4, Try.ntmps4
    go_wp2_with fail
    refine (awake_any _).mono ?_
    rintro e w1 ⟨rfl, hb⟩
    have Hb1 := Lib.hid hb; clear hb
    go_wp2_with fail
  · refine (shift_any a n _).mono ?_
    rintro e w2 ⟨rfl, rfl⟩
    go_wp2_with fail
    refine (rshift_int a n h _).mono ?_
    rintro e w2 ⟨rfl, rfl⟩
    go_wp2_with fail
    refine (join_any a b n _).mono ?_
    rintro e w2 ⟨rfl, rfl⟩
    go_wp2_with fail
    refine (rjoin_int a b n h _).mono ?_
    rintro e w2 ⟨rfl, rfl⟩
    go_wp2_with fail
    go_ret
    exact ⟨rfl, Hb1.out⟩
  · have h5 : n % 5001 ≤ 5000 := by omega
    generalize n % 5001 = n at h5 ⊢
    refine (shift_any a n _).mono ?_
    rintro e w2 ⟨rfl, rfl⟩
    go_wp2_with fail
    refine (rshift_int a n h5 _).mono ?_
    rintro e w2 ⟨rfl, rfl⟩
    go_wp2_with fail
    refine (join_any a b n _).mono ?_
    rintro e w2 ⟨rfl, rfl⟩
    go_wp2_with fail
    refine (rjoin_int a b n h5 _).mono ?_
    rintro e w2 ⟨rfl, rfl⟩
    go_wp2_with fail
    go_ret
    exact ⟨rfl, Hb1.out⟩
end Go.Proofs.Ytenjcjgkdkmpnaa
