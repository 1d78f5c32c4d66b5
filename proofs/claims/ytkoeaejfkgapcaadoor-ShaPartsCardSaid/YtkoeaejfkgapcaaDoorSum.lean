/-
  The hash: blocks' numbers, the states behind them, the bytes told. No walk here.
-/
import Derived.Test.YtkoeaejfkgapcaaDoorRpad
namespace Go.Proofs.YtkoeaejfkgapcaaDoor
open Go.RowKit
set_option linter.unusedVariables false

def num4 (a b c d : UInt8) : Nat := ((a.toNat * 256 + b.toNat) * 256 + c.toNat) * 256 + d.toNat
theorem num4_lt (a b c d : UInt8) : num4 a b c d < 4294967296 := by
  have h1 := a.toNat_lt; have h2 := b.toNat_lt; have h3 := c.toNat_lt; have h4 := d.toNat_lt
  unfold num4; omega
/-- The i-th number of the block at a. -/
def wordAt (S : Nat → UInt8) (a i : Nat) : BitVec 32 := BitVec.ofNat 32 (num4 (S (a + 4 * i)) (S (a + 4 * i + 1)) (S (a + 4 * i + 2)) (S (a + 4 * i + 3)))
theorem wordAt_nat (S : Nat → UInt8) (a i : Nat) : (wordAt S a i).toNat = num4 (S (a + 4 * i)) (S (a + 4 * i + 1)) (S (a + 4 * i + 2)) (S (a + 4 * i + 3)) := by
  rw [wordAt, BitVec.toNat_ofNat]
  exact Nat.mod_eq_of_lt (num4_lt _ _ _ _)
/-- The state behind k blocks. -/
def hs (S : Nat → UInt8) : Nat → Nat → BitVec 32
  | 0 => init
  | k + 1 => comp (hs S k) (wordAt S (64 * k))
/-- The i-th byte of a state. -/
def outByte (H : Nat → BitVec 32) (i : Nat) : UInt8 := UInt8.ofNat ((H (i / 4)).toNat / 2 ^ (24 - 8 * (i % 4)))
/-- A text with what stands behind it. -/
def PT (l : List UInt8) : List UInt8 := l ++ padL l.length
def Sb (l : List UInt8) (i : Nat) : UInt8 := (PT l).getD i 0
theorem PT_length (l : List UInt8) : (PT l).length = l.length + zs l.length + 9 := by simp [PT, padL]; omega
theorem PT_mod (l : List UInt8) : (PT l).length = 64 * ((PT l).length / 64) := by
  rw [PT_length]; unfold zs; omega
def nb (l : List UInt8) : Nat := (PT l).length / 64
/-- The hash's bytes. -/
def sumB (l : List UInt8) (i : Nat) : UInt8 := outByte (hs (Sb l) (nb l)) i

theorem or_num (x y n : Nat) (h : y < 2 ^ n) : x * 2 ^ n ||| y = x * 2 ^ n + y := by
  rw [← Nat.shiftLeft_eq, Nat.shiftLeft_add_eq_or_of_lt h]
theorem or_bits (a b : Nat) (ha : a < 4294967296) (hb : b < 4294967296) : bits .or .u32 (a : Int) (b : Int) = ((a ||| b : Nat) : Int) := by
  have h := or32 (BitVec.ofNat 32 a) (BitVec.ofNat 32 b)
  have e1 : (BitVec.ofNat 32 a).toNat = a := by rw [BitVec.toNat_ofNat]; exact Nat.mod_eq_of_lt ha
  have e2 : (BitVec.ofNat 32 b).toNat = b := by rw [BitVec.toNat_ofNat]; exact Nat.mod_eq_of_lt hb
  rw [BitVec.toNat_or, e1, e2] at h
  exact h
theorem word_val (a b c d : UInt8) :
    bits .or .u32 (bits .or .u32 (bits .or .u32 ((a.toNat * 16777216 : Nat) : Int) ((b.toNat * 65536 : Nat) : Int)) ((c.toNat * 256 : Nat) : Int)) ((d.toNat : Nat) : Int) = ((num4 a b c d : Nat) : Int) := by
  have h1 := a.toNat_lt; have h2 := b.toNat_lt; have h3 := c.toNat_lt; have h4 := d.toNat_lt
  have e1 : a.toNat * 16777216 ||| b.toNat * 65536 = a.toNat * 16777216 + b.toNat * 65536 := or_num a.toNat (b.toNat * 65536) 24 (by omega)
  rw [or_bits _ _ (by omega) (by omega), e1]
  have e2 : (a.toNat * 16777216 + b.toNat * 65536) ||| c.toNat * 256 = a.toNat * 16777216 + b.toNat * 65536 + c.toNat * 256 := by
    have := or_num (a.toNat * 256 + b.toNat) (c.toNat * 256) 16 (by omega)
    rw [show (a.toNat * 256 + b.toNat) * 2 ^ 16 = a.toNat * 16777216 + b.toNat * 65536 by omega] at this
    exact this
  rw [or_bits _ _ (by omega) (by omega), e2]
  have e3 : (a.toNat * 16777216 + b.toNat * 65536 + c.toNat * 256) ||| d.toNat = a.toNat * 16777216 + b.toNat * 65536 + c.toNat * 256 + d.toNat := by
    have := or_num ((a.toNat * 256 + b.toNat) * 256 + c.toNat) d.toNat 8 (by omega)
    rw [show ((a.toNat * 256 + b.toNat) * 256 + c.toNat) * 2 ^ 8 = a.toNat * 16777216 + b.toNat * 65536 + c.toNat * 256 by omega] at this
    exact this
  rw [or_bits _ _ (by omega) (by omega), e3]
  unfold num4
  omega

/-- Bytes as a row: the first k of f, then noughts. -/
def rowB (f : Nat → UInt8) (k : Nat) : Array Value := ((List.range 32).map fun i => if i < k then .int .u8 ((f i).toNat : Int) else .int .u8 0).toArray
theorem rowB_size (f : Nat → UInt8) (k : Nat) : (rowB f k).size = 32 := by simp [rowB]
theorem rowB_get (f : Nat → UInt8) (k i : Nat) (h : i < k) (hn : i < 32) : (rowB f k)[i]? = some (.int .u8 ((f i).toNat : Int)) := by simp [rowB, h, hn]
theorem rowB_get0 (f : Nat → UInt8) (k i : Nat) (h : k ≤ i) (hn : i < 32) : (rowB f k)[i]? = some (.int .u8 0) := by simp [rowB, hn]; intro h'; omega
theorem rowB_zero (f : Nat → UInt8) : rowB f 0 = Array.replicate 32 (.int .u8 0) := by
  apply Array.ext
  · simp [rowB]
  · intro i h1 h2; simp [rowB]
theorem rowB_succ (f : Nat → UInt8) (k : Nat) (h : k < 32) : (rowB f k).setIfInBounds k (.int .u8 ((f k).toNat : Int)) = rowB f (k + 1) := by
  apply Array.ext
  · simp [rowB]
  · intro i h1 h2
    have hi : i < 32 := by simpa [rowB] using h2
    rw [Array.getElem_setIfInBounds (by simpa [rowB] using hi)]
    by_cases e : k = i
    · subst e; simp [rowB]
    · have : (i < k + 1) = (i < k) := by simp; omega
      simp [rowB, e, this]
theorem rowB_one (f : Nat → UInt8) (k : Nat) : (rowB f k).all (·.oneCell') = true := by
  rw [Array.all_eq_true_iff_forall_mem]
  intro v hv
  simp only [rowB, List.mem_toArray, List.mem_map, List.mem_range] at hv
  obtain ⟨i, _, rfl⟩ := hv
  split <;> rfl
theorem zero33 (w : World) : (zeroValue 33).run Tryd.prog w = .ok (.agg (Array.replicate 32 (.int .u8 0))) w := by kernel_rfl
theorem size33 : (Tryd.prog.info? 33).map (·.size) = some 32 := by kernel_rfl
theorem zero23 (w : World) : (zeroValue 23).run Tryd.prog w = .ok (.agg (Array.replicate 16 (.int .u32 0))) w := by kernel_rfl
end Go.Proofs.YtkoeaejfkgapcaaDoor
