/-
  ShaSums, walked.
-/
import Derived.Test.YtkoeaejfkgapcaaDoorLawC
namespace Go.Proofs.YtkoeaejfkgapcaaDoor
open Go.RowKit
set_option linter.unusedVariables false

/-- A text's first bytes. -/
def cut (s : ByteArray) (n : Nat) : ByteArray := if n < s.size then s.extract 0 n else s
theorem cut_size (s : ByteArray) (n : Nat) : (cut s n).size ≤ n := by
  unfold cut; split
  · simp; omega
  · omega
theorem cut_long (s : ByteArray) (n : Nat) (h : n < s.size) : s.extract 0 n = cut s n := by rw [cut, if_pos h]
theorem cut_short (s : ByteArray) (n : Nat) (h : ¬ n < s.size) : s = cut s n := by rw [cut, if_neg h]
theorem cell_one (w : World) (s : ByteArray) (t : TypeId) : (w.alloc (.cells #[.string s] t)).cell? ⟨w.heap.size, 0, none⟩ = some (.string s) := by
  rw [World.cell?_alloc_at _ _ _ _ rfl]; rfl
theorem sum_of (s : ByteArray) (hs : s.size ≤ 1000000) (w : World) (htab : TabIn w) :
    Calls Tryd.prog 16 #[.slice (some ⟨w.heap.size, 0, none⟩) 1 1] (w.alloc (.cells #[.string s] 9)) fun e w' => e = .returned (.agg (rowB (sumB s.data.toList) 32)) ∧ Below w.heap.size w w' :=
  (sum_one _ s _ (cell_one w s 9) hs (htab.later ((Below.refl _ _).alloc (Nat.le_refl _) _))).mono fun _ _ ⟨he, hb⟩ => ⟨he, ((Below.refl _ _).alloc (Nat.le_refl _) _).trans (hb.mono (by simp))⟩
theorem point_of (s : ByteArray) (hs : s.size ≤ 1000000) (w : World) (htab : TabIn w) :
    Calls Tryd.prog 18 #[.slice (some ⟨w.heap.size, 0, none⟩) 1 1] (w.alloc (.cells #[.string s] 9)) fun e w' => e = .returned (.int .u64 (pv (sumB s.data.toList) 8)) ∧ Below w.heap.size w w' :=
  (point_one _ s _ (cell_one w s 9) hs (htab.later ((Below.refl _ _).alloc (Nat.le_refl _) _))).mono fun _ _ ⟨he, hb⟩ => ⟨he, ((Below.refl _ _).alloc (Nat.le_refl _) _).trans (hb.mono (by simp))⟩
attribute [local irreducible] rowB sumB pv
set_option maxHeartbeats 800000 in
/-- From the comparison on: the text is cut. -/
theorem sums_walk (s : ByteArray) (hs : s.size ≤ maxLen) (w : World) (htab : TabIn w) :
    Calls Tryd.prog 6 #[.string s] w fun e w' => e = .returned (.bool true) ∧ Below w.heap.size w w' := by
  unfold maxLen at hs
  have Htab := Lib.hid htab
  clear htab
  by_cases h : 400 < s.size
  · go_enter Tryd.func6, Tryd.ntmps6
    go_wp2_with fail
    refine (awake_any _ Htab.out).mono ?_
    rintro e w1 ⟨rfl, hb1⟩
    have Hb1 := Lib.hid hb1
    clear hb1
    go_wp2_with fail
    rw [cut_long s 400 h]
    have hz := cut_size s 400
    generalize cut s 400 = t at hz ⊢
    refine (sum_of t (by omega) w1 (Htab.out.later Hb1.out)).mono ?_
    rintro e w2 ⟨rfl, hb2⟩
    have Hb2 := Lib.hid (Hb1.out.trans (hb2.mono Hb1.out.size))
    clear hb2
    go_wp2_with fail
    refine (rsum_any t w2 (by omega)).mono ?_
    rintro e w3 ⟨rfl, hb3⟩
    have Hb3 := Lib.hid (Hb2.out.trans (hb3.mono Hb2.out.size))
    clear hb3
    have hq := eqIn_rowB (sumB t.data.toList)
    go_wp2_with fail
    refine (point_of t (by omega) w3 (Htab.out.later Hb3.out)).mono ?_
    rintro e w4 ⟨rfl, hb4⟩
    have Hb4 := Lib.hid (Hb3.out.trans (hb4.mono Hb3.out.size))
    clear hb4
    go_wp2_with fail
    refine (rpoint_any t w4 (by omega)).mono ?_
    rintro e w5 ⟨rfl, hb5⟩
    have Hb5 := Lib.hid (Hb4.out.trans (hb5.mono Hb4.out.size))
    clear hb5
    go_wp2
    go_ret
    exact ⟨rfl, Hb5.out⟩
  · go_enter Tryd.func6, Tryd.ntmps6
    go_wp2_with fail
    refine (awake_any _ Htab.out).mono ?_
    rintro e w1 ⟨rfl, hb1⟩
    have Hb1 := Lib.hid hb1
    clear hb1
    go_wp2_with fail
    refine (sum_of s (by omega) w1 (Htab.out.later Hb1.out)).mono ?_
    rintro e w2 ⟨rfl, hb2⟩
    have Hb2 := Lib.hid (Hb1.out.trans (hb2.mono Hb1.out.size))
    clear hb2
    go_wp2_with fail
    refine (rsum_any s w2 (by omega)).mono ?_
    rintro e w3 ⟨rfl, hb3⟩
    have Hb3 := Lib.hid (Hb2.out.trans (hb3.mono Hb2.out.size))
    clear hb3
    have hq := eqIn_rowB (sumB s.data.toList)
    go_wp2_with fail
    refine (point_of s (by omega) w3 (Htab.out.later Hb3.out)).mono ?_
    rintro e w4 ⟨rfl, hb4⟩
    have Hb4 := Lib.hid (Hb3.out.trans (hb4.mono Hb3.out.size))
    clear hb4
    go_wp2_with fail
    refine (rpoint_any s w4 (by omega)).mono ?_
    rintro e w5 ⟨rfl, hb5⟩
    have Hb5 := Lib.hid (Hb4.out.trans (hb5.mono Hb4.out.size))
    clear hb5
    go_wp2
    go_ret
    exact ⟨rfl, Hb5.out⟩
end Go.Proofs.YtkoeaejfkgapcaaDoor
