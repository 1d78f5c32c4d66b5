/-
  CrcSums: sums are what the reference says.
-/
import Derived.Test.YtenjcjgkdkmpnaaAwake
namespace Go.Proofs.Ytenjcjgkdkmpnaa
open Go.RowKit
set_option linter.unusedVariables false

theorem eq_self (c : BitVec 32) : (((c.toNat : Int)) == (c.toNat : Int)) = true := by simp

set_option maxHeartbeats 800000 in
theorem sums_walk (c : BitVec 32) (s : ByteArray) (hs : s.size ≤ maxLen) (w : World) :
    Calls Try.prog 3 #[U c, .string s] w fun e w' => e = .returned (.bool true) ∧ Below w.heap.size w w' := by
  go_enter Try.func3, Try.ntmps3
  go_wp2_with fail
  refine (awake_any _).mono ?_
  rintro e w1 ⟨rfl, hb⟩
  have Hb1 := Lib.hid hb; clear hb
  go_wp2_with fail
  refine (short_any s 2000 (by omega) hs _).mono ?_
  rintro e w2 ⟨rfl, rfl⟩
  have hz := cut_size s 2000
  generalize cut s 2000 = s at hz ⊢
  go_wp2_with fail
  refine (of_one s (by omega) _).mono ?_
  rintro e w2 ⟨rfl, hb⟩
  have Hb2 := Lib.hid (Hb1.out.trans (hb.mono Hb1.out.size)); clear hb Hb1
  go_wp2_with fail
  refine (rof_any s (by omega) _).mono ?_
  rintro e w3 ⟨rfl, rfl⟩
  go_wp2_with fail
  refine (add_any c s (by omega) _).mono ?_
  rintro e w3 ⟨rfl, hb⟩
  have Hb3 := Lib.hid (Hb2.out.trans (hb.mono Hb2.out.size)); clear hb Hb2
  go_wp2_with fail
  refine (radd_any c s (by omega) _).mono ?_
  rintro e w4 ⟨rfl, rfl⟩
  go_wp2_with fail
  go_ret
  exact ⟨rfl, Hb3.out⟩
end Go.Proofs.Ytenjcjgkdkmpnaa
