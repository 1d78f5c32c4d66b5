/-
  CrcJoins: the sum of a text with another one behind it, put together in four ways.
-/
import Derived.Test.YtenjcjgkdkmpnaaAwake
namespace Go.Proofs.Ytenjcjgkdkmpnaa
open Go.RowKit
set_option linter.unusedVariables false

theorem join_len (a b : ByteArray) (hb : b.size ≤ 5000) : joinB (ofB a.data.toList) (ofB b.data.toList) (clamp b.size) = ofB (a.data.toList ++ b.data.toList) := by
  rw [show clamp b.size = b.data.toList.length from by unfold clamp; simp; have : b.data.size = b.size := rfl; omega, join_of]

set_option maxHeartbeats 1000000 in
theorem joins_walk (a b : ByteArray) (ha : a.size ≤ maxLen) (hb : b.size ≤ maxLen) (w : World) :
    Calls Try.prog 5 #[.string a, .string b] w fun e w' => e = .returned (.bool true) ∧ Below w.heap.size w w' := by
  go_enter Try.func5, Try.ntmps5
  go_wp2_with fail
  refine (awake_any _).mono ?_
  rintro e w1 ⟨rfl, hw⟩
  have Hb1 := Lib.hid hw; clear hw
  go_wp2_with fail
  refine (short_any a 1000 (by omega) ha _).mono ?_
  rintro e w2 ⟨rfl, rfl⟩
  have hza := cut_size a 1000
  generalize cut a 1000 = a at hza ⊢
  go_wp2_with fail
  refine (short_any b 1000 (by omega) hb _).mono ?_
  rintro e w2 ⟨rfl, rfl⟩
  have hzb := cut_size b 1000
  generalize cut b 1000 = b at hzb ⊢
  clear ha hb
  go_wp2_with fail
  obtain ⟨X, hX⟩ : ∃ X, ofB (a.data.toList ++ b.data.toList) = X := ⟨_, rfl⟩
  have HX := Lib.hid hX; clear hX
  refine (of_one (a ++ b) (by rw [ByteArray.size_append]; omega) _).mono ?_
  rintro e w2 ⟨he, hw⟩
  rw [ByteArray.data_append, Array.toList_append, HX.out] at he
  subst he
  have Hb2 := Lib.hid (Hb1.out.trans (hw.mono Hb1.out.size)); clear hw Hb1
  go_wp2_with fail
  refine (of_one a (by omega) _).mono ?_
  rintro e w3 ⟨rfl, hw⟩
  have Hb3 := Lib.hid (Hb2.out.trans (hw.mono Hb2.out.size)); clear hw Hb2
  go_wp2_with fail
  refine (of_one b (by omega) _).mono ?_
  rintro e w4 ⟨rfl, hw⟩
  have Hb4 := Lib.hid (Hb3.out.trans (hw.mono Hb3.out.size)); clear hw Hb3
  go_wp2_with fail
  refine (join_any _ _ _ _).mono ?_
  rintro e w5 ⟨he, rfl⟩
  rw [join_len a b (by omega), HX.out] at he
  subst he
  go_wp2_with fail
  refine (of_one a (by omega) _).mono ?_
  rintro e w5 ⟨rfl, hw⟩
  have Hb5 := Lib.hid (Hb4.out.trans (hw.mono Hb4.out.size)); clear hw Hb4
  go_wp2_with fail
  refine (add_any _ b (by omega) _).mono ?_
  rintro e w6 ⟨he, hw⟩
  rw [add_of, HX.out] at he
  subst he
  have Hb6 := Lib.hid (Hb5.out.trans (hw.mono Hb5.out.size)); clear hw Hb5
  go_wp2_with fail
  refine (of_two a b (by omega) (by omega) _).mono ?_
  rintro e w7 ⟨he, hw⟩
  rw [HX.out] at he
  subst he
  have Hb7 := Lib.hid (Hb6.out.trans (hw.mono Hb6.out.size)); clear hw Hb6
  go_wp2_with fail
  refine (add_any 0#32 a (by omega) _).mono ?_
  rintro e w8 ⟨he, hw⟩
  rw [add_zero_of] at he
  subst he
  have Hb8 := Lib.hid (Hb7.out.trans (hw.mono Hb7.out.size)); clear hw Hb7
  go_wp2_with fail
  refine (add_any _ b (by omega) _).mono ?_
  rintro e w9 ⟨he, hw⟩
  rw [add_of, HX.out] at he
  subst he
  have Hb9 := Lib.hid (Hb8.out.trans (hw.mono Hb8.out.size)); clear hw Hb8
  go_wp2_with fail
  go_ret
  exact ⟨rfl, Hb9.out⟩
end Go.Proofs.Ytenjcjgkdkmpnaa
