/-
  The walks of what the laws share: short, awake.
-/
import Derived.Test.YtenjcjgkdkmpnaaWalksC
namespace Go.Proofs.Ytenjcjgkdkmpnaa
open Go.RowKit
set_option linter.unusedVariables false

set_option maxHeartbeats 400000 in
theorem rjoin_any (x y : BitVec 32) (n : Nat) (hn : n ≤ 5000) (w : World) :
    Calls Try.prog 17 #[U x, U y, .int .i64 n] w fun e w' => e = .returned (U (joinB x y n)) ∧ w = w' := by
  go_enter Try.func17, Try.ntmps17
  go_wp2_with (go_at_call 15; refine (rshift_any _ _ hn _).mono ?_; rintro e w' ⟨rfl, rfl⟩)
  go_ret
  exact ⟨ret_u (by rw [xor32]; rfl), rfl⟩

/-- A text's first bytes. -/
def cut (s : ByteArray) (n : Nat) : ByteArray := if n < s.size then s.extract 0 n else s
theorem cut_size (s : ByteArray) (n : Nat) : (cut s n).size ≤ n := by
  unfold cut; split
  · simp; omega
  · omega
set_option maxHeartbeats 400000 in
theorem short_any (s : ByteArray) (n : Nat) (_hn : n ≤ 5000) (hs : s.size ≤ maxLen) (w : World) :
    Calls Try.prog 9 #[.string s, .int .i64 n] w fun e w' => e = .returned (.string (cut s n)) ∧ w = w' := by
  unfold maxLen at hs
  by_cases h : n < s.size
  · go_enter Try.func9, Try.ntmps9
    go_wp2
    go_ret
    exact ⟨by rw [cut, if_pos h]; rfl, rfl⟩
  · go_enter Try.func9, Try.ntmps9
    go_wp2
    go_ret
    exact ⟨by rw [cut, if_neg h]; rfl, rfl⟩

theorem cells_two (w : World) (s u : ByteArray) (t : TypeId) : ∀ j x, [s, u][j]? = some x → (w.alloc (.cells #[.string s, .string u] t)).cell? ⟨w.heap.size, 0 + j, none⟩ = some (.string x) := by
  intro j x h
  rw [World.cell?_alloc_at _ _ _ _ rfl]
  rcases j with _ | _ | j
  · simp at h; subst h; rfl
  · simp at h; subst h; rfl
  · simp at h
theorem of_one (s : ByteArray) (hs : s.size ≤ 1000000) (w : World) :
    Calls Try.prog 10 #[.slice (some ⟨w.heap.size, 0, none⟩) 1 1] (w.alloc (.cells #[.string s] 9)) fun e w' => e = .returned (U (ofB s.data.toList)) ∧ Below w.heap.size w w' :=
  (of_any [s] (by simp) (by simpa using hs) _ 0 1 _ (cells_one w s 9)).mono fun _ _ ⟨he, hb⟩ => ⟨by rw [he, flat_one], ((Below.refl _ _).alloc (Nat.le_refl _) _).trans (hb.mono (by simp))⟩
theorem of_two (s u : ByteArray) (hs : s.size ≤ 1000000) (hu : u.size ≤ 1000000) (w : World) :
    Calls Try.prog 10 #[.slice (some ⟨w.heap.size, 0, none⟩) 2 2] (w.alloc (.cells #[.string s, .string u] 9)) fun e w' => e = .returned (U (ofB (s.data.toList ++ u.data.toList))) ∧ Below w.heap.size w w' :=
  (of_any [s, u] (by simp) (by simpa using ⟨hs, hu⟩) _ 0 2 _ (cells_two w s u 9)).mono fun _ _ ⟨he, hb⟩ => ⟨by rw [he]; simp [flat], ((Below.refl _ _).alloc (Nat.le_refl _) _).trans (hb.mono (by simp))⟩

theorem n0 : ofB [] = 0#32 := by decide +kernel
theorem n1 : ofB [97] = 3904355907#32 := by decide +kernel
theorem n2 : ofB ([49, 50, 51, 52] ++ [53, 54, 55, 56, 57]) = 3421780262#32 := by decide +kernel
theorem n3 : addB (ofB [49, 50, 51, 52, 53]) [54, 55, 56, 57] = 3421780262#32 := by rw [add_of]; exact n2
theorem n4 : joinB (ofB [49, 50, 51, 52, 53]) (ofB [54, 55, 56, 57]) (clamp 4) = 3421780262#32 := by
  rw [show clamp 4 = ([54, 55, 56, 57] : List UInt8).length from rfl, join_of]; exact n2
theorem a0 (w : World) : Calls Try.prog 10 #[.slice none 0 0] w fun e w' => e = .returned (.int .u32 0) ∧ Below w.heap.size w w' :=
  (of_none w).mono fun _ _ ⟨he, hb⟩ => ⟨by rw [he, n0]; rfl, hb⟩
theorem a1 (w : World) : Calls Try.prog 10 #[.slice (some ⟨w.heap.size, 0, none⟩) 1 1] (w.alloc (.cells #[.string ⟨#[97]⟩] 9)) fun e w' => e = .returned (.int .u32 3904355907) ∧ Below w.heap.size w w' :=
  (of_one ⟨#[97]⟩ (by decide) w).mono fun _ _ ⟨he, hb⟩ => ⟨by rw [he, n1]; rfl, hb⟩
theorem a2 (w : World) : Calls Try.prog 10 #[.slice (some ⟨w.heap.size, 0, none⟩) 2 2] (w.alloc (.cells #[.string ⟨#[49, 50, 51, 52]⟩, .string ⟨#[53, 54, 55, 56, 57]⟩] 9)) fun e w' => e = .returned (.int .u32 3421780262) ∧ Below w.heap.size w w' :=
  (of_two ⟨#[49, 50, 51, 52]⟩ ⟨#[53, 54, 55, 56, 57]⟩ (by decide) (by decide) w).mono fun _ _ ⟨he, hb⟩ => ⟨by rw [he, n2]; rfl, hb⟩
def x15 : BitVec 32 := ofB [49, 50, 51, 52, 53]
def x69 : BitVec 32 := ofB [54, 55, 56, 57]
theorem a3 (w : World) : Calls Try.prog 10 #[.slice (some ⟨w.heap.size, 0, none⟩) 1 1] (w.alloc (.cells #[.string ⟨#[49, 50, 51, 52, 53]⟩] 9)) fun e w' => e = .returned (U x15) ∧ Below w.heap.size w w' :=
  (of_one ⟨#[49, 50, 51, 52, 53]⟩ (by decide) w).mono fun _ _ ⟨he, hb⟩ => ⟨he, hb⟩
theorem a4 (w : World) : Calls Try.prog 12 #[U x15, .string ⟨#[54, 55, 56, 57]⟩] w fun e w' => e = .returned (.int .u32 3421780262) ∧ Below w.heap.size w w' :=
  (add_any x15 ⟨#[54, 55, 56, 57]⟩ (by decide) w).mono fun _ _ ⟨he, hb⟩ => ⟨by rw [he, show addB x15 (⟨#[54, 55, 56, 57]⟩ : ByteArray).data.toList = 3421780262#32 from n3]; rfl, hb⟩
theorem a5 (w : World) : Calls Try.prog 10 #[.slice (some ⟨w.heap.size, 0, none⟩) 1 1] (w.alloc (.cells #[.string ⟨#[54, 55, 56, 57]⟩] 9)) fun e w' => e = .returned (U x69) ∧ Below w.heap.size w w' :=
  (of_one ⟨#[54, 55, 56, 57]⟩ (by decide) w).mono fun _ _ ⟨he, hb⟩ => ⟨he, hb⟩
theorem a6 (w : World) : Calls Try.prog 16 #[U x15, U x69, .int .i64 4] w fun e w' => e = .returned (.int .u32 3421780262) ∧ w = w' :=
  (join_any x15 x69 4 w).mono fun _ _ ⟨he, hb⟩ => ⟨by rw [he, show joinB x15 x69 (clamp 4) = 3421780262#32 from n4]; rfl, hb⟩

set_option maxHeartbeats 800000 in
theorem awake_any (w : World) : Calls Try.prog 8 #[] w fun e w' => e = .returned (.bool true) ∧ Below w.heap.size w w' := by
  go_enter Try.func8, Try.ntmps8
  go_wp2_with fail
  refine (a0 _).mono ?_
  rintro e w1 ⟨rfl, hb⟩
  have Hb1 := Lib.hid hb; clear hb
  go_wp2_with fail
  refine (a1 _).mono ?_
  rintro e w2 ⟨rfl, hb⟩
  have Hb2 := Lib.hid (Hb1.out.trans (hb.mono Hb1.out.size)); clear hb Hb1
  go_wp2_with fail
  refine (a2 _).mono ?_
  rintro e w3 ⟨rfl, hb⟩
  have Hb3 := Lib.hid (Hb2.out.trans (hb.mono Hb2.out.size)); clear hb Hb2
  go_wp2_with fail
  refine (a3 _).mono ?_
  rintro e w4 ⟨rfl, hb⟩
  have Hb4 := Lib.hid (Hb3.out.trans (hb.mono Hb3.out.size)); clear hb Hb3
  go_wp2_with fail
  refine (a4 _).mono ?_
  rintro e w5 ⟨rfl, hb⟩
  have Hb5 := Lib.hid (Hb4.out.trans (hb.mono Hb4.out.size)); clear hb Hb4
  go_wp2_with fail
  refine (a3 _).mono ?_
  rintro e w6 ⟨rfl, hb⟩
  have Hb6 := Lib.hid (Hb5.out.trans (hb.mono Hb5.out.size)); clear hb Hb5
  go_wp2_with fail
  refine (a5 _).mono ?_
  rintro e w7 ⟨rfl, hb⟩
  have Hb7 := Lib.hid (Hb6.out.trans (hb.mono Hb6.out.size)); clear hb Hb6
  go_wp2_with fail
  refine (a6 _).mono ?_
  rintro e w8 ⟨rfl, rfl⟩
  go_wp2_with fail
  go_ret
  exact ⟨rfl, Hb7.out⟩

theorem u32_of_wf {a : Int} (h : (Lit.int .u32 a).wf = true) : ∃ c : BitVec 32, a = (c.toNat : Int) := by
  simp [Lit.wf, IntKind.min, IntKind.max, IntKind.bits, IntKind.signed] at h
  refine ⟨BitVec.ofNat 32 a.toNat, ?_⟩
  rw [BitVec.toNat_ofNat]; omega
theorem i64_of_wf {a : Int} (h : (Lit.int .i64 a).wf = true) : -9223372036854775808 ≤ a ∧ a ≤ 9223372036854775807 := by
  simp [Lit.wf, IntKind.min, IntKind.max, IntKind.bits, IntKind.signed] at h
  omega
end Go.Proofs.Ytenjcjgkdkmpnaa
