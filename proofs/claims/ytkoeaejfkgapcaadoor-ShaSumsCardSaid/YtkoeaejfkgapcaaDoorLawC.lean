/-
  ShaPads, walked.
-/
import Derived.Test.YtkoeaejfkgapcaaDoorLawB
namespace Go.Proofs.YtkoeaejfkgapcaaDoor
open Go.RowKit
set_option linter.unusedVariables false

set_option maxHeartbeats 800000 in
theorem pads_out (n : Int) (h : n < 0 ∨ 1152921504606846976 < n) (w : World) (htab : TabIn w) :
    Calls Tryd.prog 5 #[.int .i64 n] w fun e w' => e = .returned (.bool true) ∧ Below w.heap.size w w' := by
  have Htab := Lib.hid htab
  have H := Lib.hid h
  clear htab h
  go_enter Tryd.func5, Tryd.ntmps5
  go_wp2_with fail
  refine (awake_any _ Htab.out).mono ?_
  rintro e w1 ⟨rfl, hb1⟩
  have Hb1 := Lib.hid hb1
  clear hb1
  go_wp2_with fail
  refine (pad_out n H.out w1).mono ?_
  rintro e w2 ⟨rfl, rfl⟩
  go_wp2_with fail
  refine (rpad_out n H.out w1).mono ?_
  rintro e w2 ⟨rfl, rfl⟩
  rcases H.out with h | h
  · have hd : decide (n < 0) = true := by simpa using h
    go_wp2
    go_ret
    exact ⟨rfl, Hb1.out⟩
  · have hd : decide (n < 0) = false := by simp; omega
    have hd2 : decide (1152921504606846976 < n) = true := by simpa using h
    go_wp2
    go_ret
    exact ⟨rfl, Hb1.out⟩
set_option maxHeartbeats 800000 in
theorem pads_in (n : Nat) (h : n ≤ 1152921504606846976) (w : World) (htab : TabIn w) :
    Calls Tryd.prog 5 #[.int .i64 n] w fun e w' => e = .returned (.bool true) ∧ Below w.heap.size w w' := by
  have Htab := Lib.hid htab
  have hd : decide ((n : Int) < 0) = false := by simp
  have hd2 : decide (1152921504606846976 < (n : Int)) = false := by simp; omega
  have H := Lib.hid h
  clear htab h
  go_enter Tryd.func5, Tryd.ntmps5
  go_wp2_with fail
  refine (awake_any _ Htab.out).mono ?_
  rintro e w1 ⟨rfl, hb1⟩
  have Hb1 := Lib.hid hb1
  clear hb1
  go_wp2_with fail
  refine (pad_in n H.out w1).mono ?_
  rintro e w2 ⟨rfl, hb2⟩
  have Hb2 := Lib.hid (Hb1.out.trans (hb2.mono Hb1.out.size))
  clear hb2
  go_wp2_with fail
  refine (rpad_in n H.out w2).mono ?_
  rintro e w3 ⟨rfl, hb3⟩
  have Hb3 := Lib.hid (Hb2.out.trans (hb3.mono Hb2.out.size))
  clear hb3
  have hz : (⟨(padL n).toArray⟩ : ByteArray).size = zs n + 9 := by
    show (padL n).toArray.size = _
    simp [padL_length]
  have hlt := zs_lt n
  have hmod : (n % 64 + (zs n + 9)) % 64 = 0 := by unfold zs; omega
  generalize (⟨(padL n).toArray⟩ : ByteArray) = p at hz ⊢
  go_wp2
  have e : (((n : Int) + ((zs n : Int) + 9)) % 64 == 0) = true := by simp; omega
  rw [e]
  go_ret
  exact ⟨rfl, Hb3.out⟩
theorem pads_walk (n : Int) (w : World) (htab : TabIn w) :
    Calls Tryd.prog 5 #[.int .i64 n] w fun e w' => e = .returned (.bool true) ∧ Below w.heap.size w w' := by
  by_cases h : n < 0 ∨ 1152921504606846976 < n
  · exact pads_out n h w htab
  · obtain ⟨m, rfl⟩ : ∃ m : Nat, n = m := ⟨n.toNat, by omega⟩
    exact pads_in m (by omega) w htab
end Go.Proofs.YtkoeaejfkgapcaaDoor
