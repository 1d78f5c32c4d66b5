/-
  The walks of the small functions of sha.
-/
import Derived.Test.YtkoeaejfkgapcaaDoorRows
import Derived.Test.YtkoeaejfkgapcaaDoorPure
import Derived.WalkKit
import Derived.WalkSpells
import Derived.WalkLawsBesides
import Derived.Lib.Hide
import Derived.Outline
import Derived.Deep.WholeRow
import Derived.Deep.QuietTactic
import Derived.BigQuiet
namespace Go.Proofs.YtkoeaejfkgapcaaDoor
open Go.RowKit
set_option linter.unusedVariables false
/-- A number of 32 bits as a value. -/
abbrev U (c : BitVec 32) : Value := .int .u32 (c.toNat : Int)
theorem ret_u {a : Int} {b : BitVec 32} (h : a = (b.toNat : Int)) : Ending.returned (.int .u32 a) = .returned (U b) := by rw [h]

theorem wraps_u64 (n : Int) (h₀ : 0 ≤ n) (h₁ : n < 2 ^ 64) : IntKind.u64.wrap n = n := by
  simp [IntKind.wrap, IntKind.bits, IntKind.signed]; omega
theorem neg_turn (n : Nat) (h0 : 1 ≤ n) (h : n ≤ 31) : bits .and .u64 (IntKind.u64.wrap (-(n : Int))) 31 = 32 - (n : Int) := by
  have e : IntKind.u64.wrap (-(n : Int)) = 18446744073709551616 - (n : Int) := by
    simp [IntKind.wrap, IntKind.bits, IntKind.signed]; omega
  have := bits_mask .u64 64 (by decide) wraps_u64 5 (by decide) (18446744073709551616 - (n : Int)) (by omega) (by omega)
  rw [e, show (31 : Int) = 2 ^ 5 - 1 from rfl, this]; omega

set_option maxHeartbeats 400000 in
theorem rotl_any (x : BitVec 32) (n : Nat) (h0 : 1 ≤ n) (h : n ≤ 31) (w : World) :
    Calls Tryd.prog 26 #[U x, .int .i64 (-(n : Int))] w fun e w' => e = .returned (U (rotr x n)) ∧ w = w' := by
  have hb := neg_turn n h0 h
  go_enter Tryd.func26, Tryd.ntmps26
  go_wp2
  go_ret
  exact ⟨ret_u (by rw [shl32_n, show 32 - (32 - n) = n by omega, shr32_n, or32, rotr, BitVec.or_comm]), rfl⟩

set_option maxHeartbeats 400000 in
theorem rot_any (x : BitVec 32) (n : Nat) (h0 : 1 ≤ n) (h : n ≤ 31) (w : World) :
    Calls Tryd.prog 20 #[U x, .int .i64 n] w fun e w' => e = .returned (U (rotr x n)) ∧ w = w' := by
  go_enter Tryd.func20, Tryd.ntmps20
  go_wp2_with (go_at_call 26; refine (rotl_any x n h0 h _).mono ?_; rintro e w' ⟨rfl, rfl⟩)
  go_ret
  exact ⟨rfl, rfl⟩
/-- A number turned three ways, put together. -/
def turned (x : BitVec 32) (a b c : Nat) : BitVec 32 := rotr x a ^^^ rotr x b ^^^ rotr x c
set_option maxHeartbeats 400000 in
theorem turned_any (x : BitVec 32) (a b c : Nat) (a0 : 1 ≤ a) (a1 : a ≤ 31) (b0 : 1 ≤ b) (b1 : b ≤ 31) (c0 : 1 ≤ c) (c1 : c ≤ 31) (w : World) :
    Calls Tryd.prog 22 #[U x, .int .i64 a, .int .i64 b, .int .i64 c] w fun e w' => e = .returned (U (turned x a b c)) ∧ w = w' := by
  go_enter Tryd.func22, Tryd.ntmps22
  go_wp2_with fail
  refine (rot_any x a a0 a1 _).mono ?_
  rintro e w' ⟨rfl, rfl⟩
  go_wp2_with fail
  refine (rot_any x b b0 b1 _).mono ?_
  rintro e w' ⟨rfl, rfl⟩
  go_wp2_with fail
  refine (rot_any x c c0 c1 _).mono ?_
  rintro e w' ⟨rfl, rfl⟩
  go_wp2_with fail
  go_ret
  exact ⟨ret_u (by rw [xor32, xor32]; rfl), rfl⟩
set_option maxHeartbeats 400000 in
theorem rrot_any (x : BitVec 32) (n : Nat) (h0 : 1 ≤ n) (h : n ≤ 31) (w : World) :
    Calls Tryd.prog 21 #[U x, .int .u64 n] w fun e w' => e = .returned (U (rotr x n)) ∧ w = w' := by
  go_enter Tryd.func21, Tryd.ntmps21
  go_wp2
  go_ret
  exact ⟨ret_u (by rw [shr32_n, shl32_n, or32]; rfl), rfl⟩
end Go.Proofs.YtkoeaejfkgapcaaDoor
