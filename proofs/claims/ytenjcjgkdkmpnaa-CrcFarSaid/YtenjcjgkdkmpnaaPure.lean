/-
  The numbers of CRC-32 as bit vectors, and how the walk's integers read as such. No program here.
-/
import Derived.Laws.BitsLemmas
namespace Go.Proofs.Ytenjcjgkdkmpnaa

/-- The step of the program. -/
def stepB (c : BitVec 32) : BitVec 32 := (c >>> 1) ^^^ (-(c &&& 1#32) &&& 3988292384#32)
/-- The step of the reference. -/
def stepR (c : BitVec 32) : BitVec 32 := if c.toNat % 2 = 1 then (c >>> 1) ^^^ 3988292384#32 else c >>> 1
/-- A step so many times. -/
def iter : Nat → BitVec 32 → BitVec 32
  | 0, c => c
  | n + 1, c => stepB (iter n c)
def iterR : Nat → BitVec 32 → BitVec 32
  | 0, c => c
  | n + 1, c => stepR (iterR n c)
/-- What each byte comes to. -/
def tabAt (i : Nat) : BitVec 32 := iter 8 (BitVec.ofNat 32 i)
/-- One byte, by the table. -/
def feed (c : BitVec 32) (b : UInt8) : BitVec 32 := tabAt ((c.toNat ^^^ b.toNat) % 256) ^^^ (c >>> 8)
def feeds (c : BitVec 32) (l : List UInt8) : BitVec 32 := l.foldl feed c
/-- One byte, by the reference. -/
def feedR (c : BitVec 32) (b : UInt8) : BitVec 32 := iterR 8 (c ^^^ BitVec.ofNat 32 b.toNat)
def feedsR (c : BitVec 32) (l : List UInt8) : BitVec 32 := l.foldl feedR c

theorem feeds_snoc (c : BitVec 32) (l : List UInt8) (b : UInt8) : feeds c (l ++ [b]) = feed (feeds c l) b := by simp [feeds]
theorem feedsR_snoc (c : BitVec 32) (l : List UInt8) (b : UInt8) : feedsR c (l ++ [b]) = feedR (feedsR c l) b := by simp [feedsR]
theorem feeds_append (c : BitVec 32) (l m : List UInt8) : feeds c (l ++ m) = feeds (feeds c l) m := by simp [feeds]

/-! ### The walk's integers -/
theorem wrap_u32_nat (n : Nat) (h : n < 4294967296) : IntKind.u32.wrap (n : Int) = n := by rw [IntKind.wrap_u32]; omega
theorem bv32_lt (a : BitVec 32) : a.toNat < 4294967296 := a.isLt
theorem xor32 (a b : BitVec 32) : bits .xor .u32 (a.toNat : Int) (b.toNat : Int) = ((a ^^^ b).toNat : Int) := by
  have h : (BitVec.ofInt IntKind.u32.bits (a.toNat : Int) ^^^ BitVec.ofInt IntKind.u32.bits (b.toNat : Int)).toNat = (a ^^^ b).toNat := by
    simp only [IntKind.bits, BitVec.ofInt_natCast, BitVec.ofNat_toNat, BitVec.setWidth_eq]; rfl
  simp only [bits, h]; exact wrap_u32_nat _ (bv32_lt _)
theorem and32 (a b : BitVec 32) : bits .and .u32 (a.toNat : Int) (b.toNat : Int) = ((a &&& b).toNat : Int) := by
  have h : (BitVec.ofInt IntKind.u32.bits (a.toNat : Int) &&& BitVec.ofInt IntKind.u32.bits (b.toNat : Int)).toNat = (a &&& b).toNat := by
    simp only [IntKind.bits, BitVec.ofInt_natCast, BitVec.ofNat_toNat, BitVec.setWidth_eq]; rfl
  simp only [bits, h]; exact wrap_u32_nat _ (bv32_lt _)
theorem or32 (a b : BitVec 32) : bits .or .u32 (a.toNat : Int) (b.toNat : Int) = ((a ||| b).toNat : Int) := by
  have h : (BitVec.ofInt IntKind.u32.bits (a.toNat : Int) ||| BitVec.ofInt IntKind.u32.bits (b.toNat : Int)).toNat = (a ||| b).toNat := by
    simp only [IntKind.bits, BitVec.ofInt_natCast, BitVec.ofNat_toNat, BitVec.setWidth_eq]; rfl
  simp only [bits, h]; exact wrap_u32_nat _ (bv32_lt _)
theorem neg32 (a : BitVec 32) : -(a.toNat : Int) % 4294967296 = ((-a).toNat : Int) := by
  rw [BitVec.toNat_neg]; have := bv32_lt a; omega
theorem shr32_1 (a : BitVec 32) : (a.toNat : Int) / (2 : Int) = ((a >>> 1).toNat : Int) := by
  rw [BitVec.toNat_ushiftRight, Nat.shiftRight_eq_div_pow]; exact (Int.natCast_ediv a.toNat 2).symm
theorem shr32_8 (a : BitVec 32) : (a.toNat : Int) / (256 : Int) = ((a >>> 8).toNat : Int) := by
  simp [BitVec.toNat_ushiftRight, Nat.shiftRight_eq_div_pow]
theorem not32 (a : BitVec 32) : bits .xor .u32 IntKind.u32.max (a.toNat : Int) = ((~~~a).toNat : Int) := by
  have := xor32 4294967295#32 a
  rw [show (4294967295#32 ^^^ a) = ~~~a from by rw [show (4294967295#32) = BitVec.allOnes 32 from rfl]; exact BitVec.allOnes_xor] at this
  exact this

theorem stepB_int (c : BitVec 32) : bits .xor .u32 ((c.toNat : Int) / 2) (bits .and .u32 (-bits .and .u32 (c.toNat : Int) 1 % 4294967296) 3988292384) = ((stepB c).toNat : Int) := by
  have h1 : bits .and .u32 (c.toNat : Int) 1 = ((c &&& 1#32).toNat : Int) := and32 c 1#32
  rw [h1, neg32]
  have h2 : ∀ x : BitVec 32, bits .and .u32 (x.toNat : Int) 3988292384 = ((x &&& 3988292384#32).toNat : Int) := fun x => and32 x 3988292384#32
  rw [h2, shr32_1, xor32]; rfl
theorem bv_and_one (c : BitVec 32) : c &&& 1#32 = BitVec.ofNat 32 (c.toNat % 2) := by
  apply BitVec.eq_of_toNat_eq; simp; omega
theorem stepB_eq (c : BitVec 32) : stepB c = stepR c := by
  unfold stepB stepR
  rw [bv_and_one]
  rcases Nat.mod_two_eq_zero_or_one c.toNat with h | h
  · rw [h, if_neg (by omega)]; simp
  · rw [h, if_pos rfl]
    have : -(BitVec.ofNat 32 1) &&& 3988292384#32 = 3988292384#32 := by decide
    rw [this]
theorem iter_eq (n : Nat) (c : BitVec 32) : iter n c = iterR n c := by
  induction n with
  | zero => rfl
  | succ n ih => simp only [iter, iterR, ih, stepB_eq]
theorem iter_succ' (n : Nat) (c : BitVec 32) : iter (n + 1) c = iter n (stepB c) := by
  induction n with
  | zero => rfl
  | succ n ih => rw [iter, ih]; rfl
theorem iter_add (n m : Nat) (c : BitVec 32) : iter (n + m) c = iter n (iter m c) := by
  induction n with
  | zero => simp [iter]
  | succ n ih => rw [show n + 1 + m = (n + m) + 1 by omega, iter, ih]; rfl

theorem bit_test (x : BitVec 32) (j : Nat) : (bits .and .u32 ((x.toNat : Int) / 2 ^ j) 1 == 1) = x.getLsbD j := by
  have h1 : (x.toNat : Int) / 2 ^ j = ((x >>> j).toNat : Int) := by
    rw [BitVec.toNat_ushiftRight, Nat.shiftRight_eq_div_pow]
    simp
  have h2 : bits .and .u32 ((x >>> j).toNat : Int) 1 = (((x >>> j) &&& 1#32).toNat : Int) := and32 _ 1#32
  rw [h1, h2, bv_and_one, BitVec.getLsbD, Nat.testBit_eq_decide_div_mod_eq, BitVec.toNat_ushiftRight, Nat.shiftRight_eq_div_pow]
  rcases Nat.mod_two_eq_zero_or_one (x.toNat / 2 ^ j) with h | h
  · rw [h]; rfl
  · rw [h]; rfl

/-! ### Linearity -/
theorem getLsbD_zero' (c : BitVec 32) : c.getLsbD 0 = decide (c.toNat % 2 = 1) := by
  rw [BitVec.getLsbD, Nat.testBit_zero]
theorem stepB_bit (c : BitVec 32) (i : Nat) : (stepB c).getLsbD i = (c.getLsbD (1 + i) ^^ (c.getLsbD 0 && (3988292384#32).getLsbD i)) := by
  rw [stepB_eq, stepR, getLsbD_zero']
  split
  · rename_i h; rw [BitVec.getLsbD_xor, BitVec.getLsbD_ushiftRight]; simp [h]
  · rename_i h; rw [BitVec.getLsbD_ushiftRight]; simp [h]
theorem stepB_xor (a b : BitVec 32) : stepB (a ^^^ b) = stepB a ^^^ stepB b := by
  apply BitVec.eq_of_getLsbD_eq
  intro i hi
  rw [stepB_bit, BitVec.getLsbD_xor, BitVec.getLsbD_xor, BitVec.getLsbD_xor, stepB_bit, stepB_bit]
  generalize a.getLsbD (1 + i) = p, b.getLsbD (1 + i) = q, a.getLsbD 0 = r, b.getLsbD 0 = t, (3988292384#32).getLsbD i = u
  revert p q r t u; decide
theorem stepB_zero : stepB 0#32 = 0#32 := by decide
theorem iter_xor (n : Nat) (a b : BitVec 32) : iter n (a ^^^ b) = iter n a ^^^ iter n b := by
  induction n with
  | zero => rfl
  | succ n ih => simp only [iter, ih, stepB_xor]
theorem iter_zero (n : Nat) : iter n 0#32 = 0#32 := by
  induction n with
  | zero => rfl
  | succ n ih => rw [iter, ih, stepB_zero]
/-- A step is one to one: nothing but 0 comes to 0. -/
theorem stepB_inj0 (c : BitVec 32) (h : stepB c = 0#32) : c = 0#32 := by
  have h31 := congrArg (fun x => BitVec.getLsbD x 31) h
  simp only [stepB_bit] at h31
  have h0 : c.getLsbD 0 = false := by
    have : c.getLsbD (1 + 31) = false := BitVec.getLsbD_of_ge c 32 (Nat.le_refl _)
    rw [this] at h31
    simpa using h31
  apply BitVec.eq_of_getLsbD_eq
  intro i hi
  cases i with
  | zero => rw [h0]; simp
  | succ i =>
    have hi' := congrArg (fun x => BitVec.getLsbD x i) h
    simp only [stepB_bit, h0] at hi'
    rw [Nat.add_comm]; simpa using hi'
theorem iter_inj0 (n : Nat) (c : BitVec 32) (h : iter n c = 0#32) : c = 0#32 := by
  induction n with
  | zero => exact h
  | succ n ih => exact ih (stepB_inj0 _ h)

/-! ### The table is eight steps -/
/-- Below its k-th bit a number with zeros there goes on by shifting alone. -/
theorem iter_low (n : Nat) (hn : n ≤ 32) (c : BitVec 32) (h : ∀ i, i < n → c.getLsbD i = false) : iter n c = c >>> n := by
  induction n with
  | zero => simp [iter]
  | succ n ih =>
    rw [iter, ih (by omega) (fun i hi => h i (by omega))]
    apply BitVec.eq_of_getLsbD_eq
    intro i _
    rw [stepB_bit, BitVec.getLsbD_ushiftRight, BitVec.getLsbD_ushiftRight, BitVec.getLsbD_ushiftRight, show n + 0 = n from rfl, h n (by omega)]
    simp; congr 1; omega
theorem split8 (c : BitVec 32) : c = (c &&& 255#32) ^^^ ((c >>> 8) <<< 8) := by
  apply BitVec.eq_of_getLsbD_eq
  intro i hi
  rw [BitVec.getLsbD_xor, BitVec.getLsbD_and, BitVec.getLsbD_shiftLeft, BitVec.getLsbD_ushiftRight]
  have hm : (255#32).getLsbD i = decide (i < 8) := by
    have : ∀ j : Fin 32, (255#32).getLsbD j = decide (j.val < 8) := by decide
    exact this ⟨i, hi⟩
  rw [hm]
  by_cases h8 : i < 8
  · simp [h8, hi]
  · simp [h8, hi, show 8 + (i - 8) = i by omega]
theorem iter8_split (c : BitVec 32) : iter 8 c = iter 8 (c &&& 255#32) ^^^ (c >>> 8) := by
  conv => lhs; rw [split8 c]
  rw [iter_xor]
  congr 1
  rw [iter_low 8 (by omega) _ (fun i hi => by rw [BitVec.getLsbD_shiftLeft]; simp [hi])]
  apply BitVec.eq_of_getLsbD_eq
  intro i hi
  rw [BitVec.getLsbD_ushiftRight, BitVec.getLsbD_shiftLeft, BitVec.getLsbD_ushiftRight]
  simp
  intro h
  by_cases h2 : 8 + i < 32
  · exact h2
  · exact absurd (BitVec.getLsbD_of_ge c (8 + i) (by omega)) (by rw [h]; decide)
theorem feed_eq (c : BitVec 32) (b : UInt8) : feed c b = feedR c b := by
  unfold feed feedR tabAt
  rw [← iter_eq, iter8_split (c ^^^ _)]
  have hb : (BitVec.ofNat 32 b.toNat) >>> 8 = 0#32 := by
    apply BitVec.eq_of_toNat_eq
    have := b.toNat_lt
    simp [Nat.shiftRight_eq_div_pow]; omega
  rw [BitVec.ushiftRight_xor_distrib, hb, BitVec.xor_zero]
  congr 2
  apply BitVec.eq_of_toNat_eq
  have h1 := b.toNat_lt
  have h2 : c.toNat ^^^ b.toNat < 4294967296 := Nat.xor_lt_two_pow (n := 32) c.isLt (by omega)
  simp only [BitVec.toNat_ofNat, BitVec.toNat_and, BitVec.toNat_xor]
  rw [show (255 % 2 ^ 32) = 2 ^ 8 - 1 from rfl, Nat.and_two_pow_sub_one_eq_mod, Nat.mod_eq_of_lt (show b.toNat < 2 ^ 32 by omega)]
  omega
theorem feeds_eq (l : List UInt8) (c : BitVec 32) : feeds c l = feedsR c l := by
  induction l generalizing c with
  | nil => rfl
  | cons b l ih => simp only [feeds, feedsR, List.foldl_cons, feed_eq] at ih ⊢; exact ih _
end Go.Proofs.Ytenjcjgkdkmpnaa
