/-
  CrcFar: going on by many bytes at once is going on by some, and then by the others.
-/
import Derived.Test.YtenjcjgkdkmpnaaAwake
namespace Go.Proofs.Ytenjcjgkdkmpnaa
open Go.RowKit
set_option linter.unusedVariables false

theorem shift0 (c : BitVec 32) (n : Int) (h : n ≤ 0) (w : World) : Calls Try.prog 14 #[U c, .int .i64 n] w fun e w' => e = .returned (U c) ∧ w = w' := by
  have := shift_any c n w
  rw [show clamp n = 0 from by unfold clamp; omega] at this
  exact this

/-- The way on which nothing is asked of the two numbers. -/
theorem far_post (c : BitVec 32) (n m : Int) (h1 : 0 ≤ n) (h2 : n < 1073741824) (h3 : 0 ≤ m) (h4 : m < 1073741824) : shiftB (shiftB c (clamp n)) (clamp m) = shiftB c (clamp (n + m)) := by
  rw [shift_add, show clamp n + clamp m = clamp (n + m) from by unfold clamp; omega]

set_option maxHeartbeats 1000000 in
theorem far_walk (c : BitVec 32) (n m : Int) (h1 : -9223372036854775808 ≤ n) (h2 : n ≤ 9223372036854775807) (h3 : -9223372036854775808 ≤ m) (h4 : m ≤ 9223372036854775807) (w : World) :
    Calls Try.prog 7 #[U c, .int .i64 n, .int .i64 m] w fun e w' => e = .returned (.bool true) ∧ Below w.heap.size w w' := by
  by_cases a0 : 0 ≤ n ∧ n < 1073741824 ∧ 0 ≤ m ∧ m < 1073741824
  · obtain ⟨b1, b2, b3, b4⟩ := a0
    have hf := far_post c n m b1 b2 b3 b4
    have Hf := Lib.hid hf; clear hf
    go_enter Try.func7, Try.ntmps7
    go_wp2_with fail
    refine (awake_any _).mono ?_
    rintro e w1 ⟨rfl, hw⟩
    have Hb1 := Lib.hid hw; clear hw
    go_wp2_with fail
    refine (shift_any _ _ _).mono ?_
    rintro e w2 ⟨rfl, rfl⟩
    go_wp2_with fail
    refine (shift_any _ _ _).mono ?_
    rintro e w2 ⟨he, rfl⟩
    rw [Hf.out] at he
    subst he
    go_wp2_with fail
    refine (shift_any _ _ _).mono ?_
    rintro e w2 ⟨rfl, rfl⟩
    go_wp2_with fail
    refine (shift_any _ _ _).mono ?_
    rintro e w2 ⟨he, rfl⟩
    rw [show clamp 2199023255552 = clamp 1099511627776 from rfl] at he
    subst he
    go_wp2_with fail
    refine (shift_any _ _ _).mono ?_
    rintro e w2 ⟨rfl, rfl⟩
    go_wp2_with fail
    go_ret
    exact ⟨rfl, Hb1.out⟩
  · by_cases a1 : n < 0 <;> by_cases a2 : m < 0 <;> by_cases a3 : 1073741824 ≤ n <;> by_cases a4 : 1073741824 ≤ m
    all_goals first | (exfalso; omega) | skip
    all_goals
      go_enter Try.func7, Try.ntmps7
      go_wp2_with fail
      refine (awake_any _).mono ?_
      rintro e w1 ⟨rfl, hw⟩
      have Hb1 := Lib.hid hw; clear hw
      go_wp2_with fail
      refine (shift0 _ _ (by omega) _).mono ?_
      rintro e w2 ⟨rfl, rfl⟩
      go_wp2_with fail
      refine (shift0 _ _ (by omega) _).mono ?_
      rintro e w2 ⟨rfl, rfl⟩
      go_wp2_with fail
      go_ret
      exact ⟨rfl, Hb1.out⟩
end Go.Proofs.Ytenjcjgkdkmpnaa
