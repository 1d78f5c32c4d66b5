/-
  The numbers of CRC-32 as bit vectors, and how the walk's integers read as such. No program here.
-/
import Derived.Laws.BitsLemmas
namespace Go.Proofs.YtkoeaejfkgapcaaDoor

/-! ### The walk's integers -/
theorem wrap_u32_nat (n : Nat) (h : n < 4294967296) : IntKind.u32.wrap (n : Int) = n := by rw [IntKind.wrap_u32]; omega
theorem bv32_lt (a : BitVec 32) : a.toNat < 4294967296 := a.isLt
theorem xor32 (a b : BitVec 32) : bits .xor .u32 (a.toNat : Int) (b.toNat : Int) = ((a ^^^ b).toNat : Int) := by
  have h : (BitVec.ofInt IntKind.u32.bits (a.toNat : Int) ^^^ BitVec.ofInt IntKind.u32.bits (b.toNat : Int)).toNat = (a ^^^ b).toNat := by
    simp only [IntKind.bits, BitVec.ofInt_natCast, BitVec.ofNat_toNat, BitVec.setWidth_eq]; rfl
  simp only [bits, h]; exact wrap_u32_nat _ (bv32_lt _)
theorem and32 (a b : BitVec 32) : bits .and .u32 (a.toNat : Int) (b.toNat : Int) = ((a &&& b).toNat : Int) := by
  have h : (BitVec.ofInt IntKind.u32.bits (a.toNat : Int) &&& BitVec.ofInt IntKind.u32.bits (b.toNat : Int)).toNat = (a &&& b).toNat := by
    simp only [IntKind.bits, BitVec.ofInt_natCast, BitVec.ofNat_toNat, BitVec.setWidth_eq]; rfl
  simp only [bits, h]; exact wrap_u32_nat _ (bv32_lt _)
theorem or32 (a b : BitVec 32) : bits .or .u32 (a.toNat : Int) (b.toNat : Int) = ((a ||| b).toNat : Int) := by
  have h : (BitVec.ofInt IntKind.u32.bits (a.toNat : Int) ||| BitVec.ofInt IntKind.u32.bits (b.toNat : Int)).toNat = (a ||| b).toNat := by
    simp only [IntKind.bits, BitVec.ofInt_natCast, BitVec.ofNat_toNat, BitVec.setWidth_eq]; rfl
  simp only [bits, h]; exact wrap_u32_nat _ (bv32_lt _)
theorem neg32 (a : BitVec 32) : -(a.toNat : Int) % 4294967296 = ((-a).toNat : Int) := by
  rw [BitVec.toNat_neg]; have := bv32_lt a; omega
theorem shr32_1 (a : BitVec 32) : (a.toNat : Int) / (2 : Int) = ((a >>> 1).toNat : Int) := by
  rw [BitVec.toNat_ushiftRight, Nat.shiftRight_eq_div_pow]; exact (Int.natCast_ediv a.toNat 2).symm
theorem shr32_8 (a : BitVec 32) : (a.toNat : Int) / (256 : Int) = ((a >>> 8).toNat : Int) := by
  simp [BitVec.toNat_ushiftRight, Nat.shiftRight_eq_div_pow]
theorem not32 (a : BitVec 32) : bits .xor .u32 IntKind.u32.max (a.toNat : Int) = ((~~~a).toNat : Int) := by
  have := xor32 4294967295#32 a
  rw [show (4294967295#32 ^^^ a) = ~~~a from by rw [show (4294967295#32) = BitVec.allOnes 32 from rfl]; exact BitVec.allOnes_xor] at this
  exact this

theorem bv_and_one (c : BitVec 32) : c &&& 1#32 = BitVec.ofNat 32 (c.toNat % 2) := by
  apply BitVec.eq_of_toNat_eq; simp; omega

theorem add32 (a b : BitVec 32) : ((a.toNat : Int) + (b.toNat : Int)) % 4294967296 = ((a + b).toNat : Int) := by
  rw [BitVec.toNat_add]; omega
theorem shr32_n (a : BitVec 32) (n : Nat) : (a.toNat : Int) / (2 : Int) ^ n = ((a >>> n).toNat : Int) := by
  rw [BitVec.toNat_ushiftRight, Nat.shiftRight_eq_div_pow]; simp
theorem shl32_n (a : BitVec 32) (n : Nat) : ((a.toNat : Int) * (2 : Int) ^ n) % 4294967296 = ((a <<< n).toNat : Int) := by
  rw [BitVec.toNat_shiftLeft, Nat.shiftLeft_eq]
  have : ((a.toNat : Int) * (2 : Int) ^ n) = ((a.toNat * 2 ^ n : Nat) : Int) := by simp
  rw [this]; omega

/-- Turned right. -/
def rotr (x : BitVec 32) (n : Nat) : BitVec 32 := (x >>> n) ||| (x <<< (32 - n))
end Go.Proofs.YtkoeaejfkgapcaaDoor
