/-
  The algebra of CRC-32: the product of two polynomials, going on by many bytes, joining, and a burst of bits. No program here.
-/
import Derived.Test.YtenjcjgkdkmpnaaPure
namespace Go.Proofs.Ytenjcjgkdkmpnaa

/-- The constant polynomial: the greatest bit. -/
def e31 : BitVec 32 := 2147483648#32
/-- The product behind k rounds. -/
def prodTo : Nat → BitVec 32 → BitVec 32 → BitVec 32
  | 0, _, _ => 0#32
  | k + 1, a, b => prodTo k a b ^^^ (if a.getLsbD (31 - k) = true then iter k b else 0#32)
def prodB (a b : BitVec 32) : BitVec 32 := prodTo 32 a b

theorem xor4 (a b c d : BitVec 32) : (a ^^^ b) ^^^ (c ^^^ d) = (a ^^^ c) ^^^ (b ^^^ d) := by
  rw [BitVec.xor_assoc, BitVec.xor_assoc, ← BitVec.xor_assoc b c d, BitVec.xor_comm b c, BitVec.xor_assoc c b d]

theorem prodTo_add (k : Nat) (a b c : BitVec 32) : prodTo k a (b ^^^ c) = prodTo k a b ^^^ prodTo k a c := by
  induction k with
  | zero => simp [prodTo]
  | succ k ih =>
    simp only [prodTo, ih]
    split
    · rw [iter_xor, xor4]
    · simp
theorem prodTo_step (k : Nat) (a b : BitVec 32) : prodTo k a (stepB b) = stepB (prodTo k a b) := by
  induction k with
  | zero => simp [prodTo, stepB_zero]
  | succ k ih =>
    simp only [prodTo, ih, stepB_xor]
    split
    · rw [← iter_succ']; rfl
    · rw [stepB_zero]
/-- What adds and goes with the step. -/
structure Lin (F : BitVec 32 → BitVec 32) : Prop where
  add : ∀ a b, F (a ^^^ b) = F a ^^^ F b
  step : ∀ a, F (stepB a) = stepB (F a)
theorem Lin.zero {F : BitVec 32 → BitVec 32} (h : Lin F) : F 0#32 = 0#32 := by
  have := h.add 0#32 0#32
  simp at this; exact this
theorem Lin.iter {F : BitVec 32 → BitVec 32} (h : Lin F) (n : Nat) (a : BitVec 32) : F (iter n a) = Ytenjcjgkdkmpnaa.iter n (F a) := by
  induction n with
  | zero => rfl
  | succ n ih => simp only [Ytenjcjgkdkmpnaa.iter, h.step, ih]
theorem lin_prod (a : BitVec 32) : Lin (prodB a) := ⟨prodTo_add 32 a, prodTo_step 32 a⟩
theorem lin_iter (n : Nat) : Lin (iter n) := ⟨iter_xor n, fun a => by rw [← iter_succ']; rfl⟩
theorem lin_comp {F G : BitVec 32 → BitVec 32} (hF : Lin F) (hG : Lin G) : Lin (fun x => F (G x)) :=
  ⟨fun a b => by simp only [hG.add, hF.add], fun a => by simp only [hG.step, hF.step]⟩
theorem Lin.prodTo {F : BitVec 32 → BitVec 32} (h : Lin F) (k : Nat) (a b : BitVec 32) : F (prodTo k a b) = Ytenjcjgkdkmpnaa.prodTo k a (F b) := by
  induction k with
  | zero => exact h.zero
  | succ k ih =>
    simp only [Ytenjcjgkdkmpnaa.prodTo, h.add, ih]
    split
    · rw [h.iter]
    · rw [h.zero]
theorem e31_bit : ∀ j : Fin 32, e31.getLsbD j = decide (j.val = 31) := by decide
theorem iter_e31 (k : Nat) (hk : k ≤ 31) : iter k e31 = e31 >>> k :=
  iter_low k (by omega) _ (fun i hi => by
    have := e31_bit ⟨i, by omega⟩
    simp only at this
    rw [this]; simp; omega)
theorem prodTo_e31_bit (k : Nat) (hk : k ≤ 32) (a : BitVec 32) (i : Nat) (hi : i < 32) : (prodTo k a e31).getLsbD i = (decide (32 ≤ i + k) && a.getLsbD i) := by
  induction k with
  | zero => simp [prodTo]; omega
  | succ k ih =>
    rw [prodTo, BitVec.getLsbD_xor, ih (by omega)]
    have hb : (if a.getLsbD (31 - k) = true then iter k e31 else 0#32).getLsbD i = (decide (i + k = 31) && a.getLsbD i) := by
      split
      · rename_i h
        rw [iter_e31 k (by omega), BitVec.getLsbD_ushiftRight]
        by_cases h2 : k + i < 32
        · have := e31_bit ⟨k + i, h2⟩
          simp only at this
          rw [this]
          by_cases h3 : i + k = 31
          · have : a.getLsbD i = true := by rw [show i = 31 - k by omega]; exact h
            rw [this]; simp; omega
          · simp [h3]; omega
        · rw [BitVec.getLsbD_of_ge _ _ (by omega)]; simp; omega
      · rename_i h
        by_cases h3 : i + k = 31
        · rw [show i = 31 - k by omega]; simp [h]
        · simp [h3]
    rw [hb]
    by_cases h1 : 32 ≤ i + k
    · simp [h1, show 32 ≤ i + (k + 1) by omega, show ¬ i + k = 31 by omega]
    · by_cases h2 : i + k = 31
      · simp [h2, show 32 ≤ i + (k + 1) by omega]
      · simp [h1, h2, show ¬ 32 ≤ i + (k + 1) by omega]
theorem prod_e31 (a : BitVec 32) : prodB a e31 = a := by
  apply BitVec.eq_of_getLsbD_eq
  intro i hi
  rw [prodB, prodTo_e31_bit 32 (by omega) a i hi]; simp
/-- WHAT ADDS AND GOES WITH THE STEP is a product. -/
theorem Lin.eq {F : BitVec 32 → BitVec 32} (h : Lin F) (b : BitVec 32) : F b = prodB b (F e31) := by
  conv => lhs; rw [← prod_e31 b]
  exact h.prodTo 32 b e31
theorem prod_comm (a b : BitVec 32) : prodB a b = prodB b a := by
  rw [(lin_prod a).eq b, prod_e31]
/-- A power of the step, put to a number by the product. -/
theorem prod_iter (m : Nat) (p : BitVec 32) : prodB (iter m e31) p = iter m p := by
  rw [prod_comm, (lin_prod p).iter, prod_e31]
theorem prod_power (m : Nat) : prodB (iter m e31) (iter m e31) = iter (m + m) e31 := by
  rw [prod_iter, iter_add]
theorem power0 : iter 8 e31 = 8388608#32 := by decide

/-! ### Going on by bytes -/
def shiftB (c : BitVec 32) (n : Nat) : BitVec 32 := iter (8 * n) c
theorem shift_add (c : BitVec 32) (n m : Nat) : shiftB (shiftB c n) m = shiftB c (n + m) := by
  unfold shiftB; rw [← iter_add]; congr 1; omega
theorem shift_zero (c : BitVec 32) : shiftB c 0 = c := rfl
theorem shift_succ (c : BitVec 32) (n : Nat) : shiftB c (n + 1) = iter 8 (shiftB c n) := by
  unfold shiftB; rw [← iter_add]; congr 1; omega
/-- A round of the program's Shift: an odd number of bytes left. -/
theorem shift_round (m n : Nat) (p : BitVec 32) (h : n % 2 = 1) : iter (m * n) p = iter ((m + m) * (n / 2)) (prodB (iter m e31) p) := by
  rw [prod_iter, ← iter_add]; congr 1
  have : n = 2 * (n / 2) + 1 := by omega
  conv => lhs; rw [this]
  rw [Nat.mul_add, Nat.mul_one, ← Nat.mul_assoc, Nat.mul_two]
theorem shift_round0 (m n : Nat) (p : BitVec 32) (h : n % 2 = 0) : iter (m * n) p = iter ((m + m) * (n / 2)) p := by
  congr 1
  have : n = 2 * (n / 2) := by omega
  conv => lhs; rw [this]
  rw [← Nat.mul_assoc, Nat.mul_two]

/-! ### Texts -/
theorem feed_lin (x y : BitVec 32) (b : UInt8) : feed (x ^^^ y) b = iter 8 x ^^^ feed y b := by
  rw [feed_eq, feed_eq, feedR, feedR, ← iter_eq, ← iter_eq, BitVec.xor_assoc, iter_xor]
theorem feeds_lin (l : List UInt8) (x y : BitVec 32) : feeds (x ^^^ y) l = shiftB x l.length ^^^ feeds y l := by
  induction l generalizing x y with
  | nil => rfl
  | cons b l ih =>
    show feeds (feed (x ^^^ y) b) l = shiftB x (l.length + 1) ^^^ feeds (feed y b) l
    rw [feed_lin, ih, show l.length + 1 = 1 + l.length by omega, ← shift_add x 1]
    rfl
def ofB (l : List UInt8) : BitVec 32 := ~~~(feeds 4294967295#32 l)
def addB (c : BitVec 32) (l : List UInt8) : BitVec 32 := ~~~(feeds (~~~c) l)
def joinB (a b : BitVec 32) (n : Nat) : BitVec 32 := shiftB a n ^^^ b

theorem not_xor (x : BitVec 32) : ~~~x = x ^^^ 4294967295#32 := by
  rw [show (4294967295#32) = BitVec.allOnes 32 from rfl]; exact BitVec.xor_allOnes.symm
theorem xor_self_left (a b : BitVec 32) : a ^^^ (a ^^^ b) = b := by rw [← BitVec.xor_assoc, BitVec.xor_self, BitVec.zero_xor]
theorem join_of (a b : List UInt8) : joinB (ofB a) (ofB b) b.length = ofB (a ++ b) := by
  unfold joinB ofB
  rw [feeds_append]
  generalize feeds 4294967295#32 a = x
  have h := feeds_lin b (~~~x) 4294967295#32
  rw [show ~~~x ^^^ 4294967295#32 = x from by rw [not_xor, BitVec.xor_assoc, BitVec.xor_self, BitVec.xor_zero]] at h
  rw [h, not_xor (feeds _ b), not_xor (_ ^^^ _), BitVec.xor_assoc]
theorem add_of (a b : List UInt8) : addB (ofB a) b = ofB (a ++ b) := by
  unfold addB ofB; rw [BitVec.not_not, feeds_append]
theorem add_nil : addB 0#32 [] = 0#32 := by decide
theorem add_zero_of (a : List UInt8) : addB 0#32 a = ofB a := by
  unfold addB ofB; rfl

/-! ### A burst -/
theorem iter_one (r : Nat) (hr : r < 32) (n : Nat) (hn : r ≤ n) : iter n (1#32 <<< r) = iter (n - r) 1#32 := by
  have h : iter r (1#32 <<< r) = 1#32 := by
    rw [iter_low r (by omega) _ (fun i hi => by rw [BitVec.getLsbD_shiftLeft]; simp [hi])]
    apply BitVec.eq_of_getLsbD_eq
    intro i hi
    rw [BitVec.getLsbD_ushiftRight, BitVec.getLsbD_shiftLeft]
    by_cases h0 : i = 0
    · subst h0; simp [hr]
    · by_cases h2 : r + i < 32
      · simp [h2]
      · simp [h2]; omega
  rw [show n = (n - r) + r by omega, iter_add, h]; congr 1; omega
theorem feed_toggle (c : BitVec 32) (b : UInt8) (x : BitVec 32) (b' : UInt8) (h : BitVec.ofNat 32 b'.toNat = BitVec.ofNat 32 b.toNat ^^^ x) : feed c b' = feed c b ^^^ iter 8 x := by
  rw [feed_eq, feed_eq, feedR, feedR, ← iter_eq, ← iter_eq, h, ← iter_xor, BitVec.xor_assoc]
theorem feeds_toggle (c : BitVec 32) (l m : List UInt8) (b b' : UInt8) (x : BitVec 32) (h : BitVec.ofNat 32 b'.toNat = BitVec.ofNat 32 b.toNat ^^^ x) :
    feeds c (l ++ b' :: m) = feeds c (l ++ b :: m) ^^^ iter (8 * (m.length + 1)) x := by
  have e : ∀ y : UInt8, feeds c (l ++ y :: m) = feeds (feed (feeds c l) y) m := fun y => by simp [feeds]
  rw [e, e, feed_toggle _ b x b' h, BitVec.xor_comm, feeds_lin, BitVec.xor_comm]
  congr 1
  show iter (8 * m.length) (iter 8 x) = _
  rw [← iter_add]; congr 1
/-- The first i bits of a number. -/
def low (i : Nat) (x : BitVec 32) : BitVec 32 := BitVec.ofNat 32 (x.toNat % 2 ^ i)
theorem low_bit (i : Nat) (x : BitVec 32) (j : Nat) (hj : j < 32) : (low i x).getLsbD j = (decide (j < i) && x.getLsbD j) := by
  rw [low, BitVec.getLsbD_ofNat, Nat.testBit_mod_two_pow]; simp [hj, BitVec.getLsbD]
theorem low_zero (x : BitVec 32) : low 0 x = 0#32 := by simp [low, Nat.mod_one]
theorem low_all (x : BitVec 32) : low 32 x = x := by
  apply BitVec.eq_of_getLsbD_eq; intro i hi; rw [low_bit _ _ _ hi]; simp [hi]
theorem low_succ (i : Nat) (hi : i < 32) (x : BitVec 32) : low (i + 1) x = low i x ^^^ (if x.getLsbD i = true then 1#32 <<< i else 0#32) := by
  apply BitVec.eq_of_getLsbD_eq; intro j hj
  rw [BitVec.getLsbD_xor, low_bit _ _ _ hj, low_bit _ _ _ hj]
  have h : (if x.getLsbD i = true then 1#32 <<< i else 0#32).getLsbD j = (decide (j = i) && x.getLsbD j) := by
    split
    · rename_i h
      rw [BitVec.getLsbD_shiftLeft]
      by_cases h1 : j = i
      · subst h1; simp [hj, h]
      · simp [h1, hj]; omega
    · rename_i h
      by_cases h1 : j = i
      · subst h1; simp [h]
      · simp [h1]
  rw [h]
  by_cases h1 : j < i
  · simp [h1, show j < i + 1 by omega, show ¬ j = i by omega]
  · by_cases h2 : j = i
    · subst h2; simp
    · simp [h1, h2, show ¬ j < i + 1 by omega]
/-- WHAT A BURST TURNS, behind i of its bits: n bits from the text's head on; L bytes. -/
theorem burst_step (c : BitVec 32) (l m : List UInt8) (b b' : UInt8) (S bits : BitVec 32) (n i L r : Nat) (hi : i < 32) (hr : r < 8) (hL : L = l.length + 1 + m.length) (hn : n + 32 ≤ 8 * L) (hp : n + i = 8 * l.length + r)
    (hb : bits.getLsbD i = true) (h : BitVec.ofNat 32 b'.toNat = BitVec.ofNat 32 b.toNat ^^^ (1#32 <<< r))
    (hS : feeds c (l ++ b :: m) = S ^^^ iter (8 * L - n) (low i bits)) : feeds c (l ++ b' :: m) = S ^^^ iter (8 * L - n) (low (i + 1) bits) := by
  rw [feeds_toggle c l m b b' _ h, hS, low_succ i hi, if_pos hb, iter_xor, BitVec.xor_assoc]
  congr 2
  rw [iter_one r (by omega) _ (by omega), iter_one i hi _ (by omega)]
  congr 1; omega
theorem burst_skip (S bits : BitVec 32) (N i : Nat) (hi : i < 32) (hb : bits.getLsbD i = false) : S ^^^ iter N (low i bits) = S ^^^ iter N (low (i + 1) bits) := by
  rw [low_succ i hi, hb]; simp
theorem burst_end (c : BitVec 32) (l l' : List UInt8) (bits : BitVec 32) (N : Nat) (hb : bits ≠ 0#32) (h : feeds c l' = feeds c l ^^^ iter N (low 32 bits)) : ~~~(feeds c l') ≠ ~~~(feeds c l) := by
  intro e
  have e' : feeds c l' = feeds c l := by rw [← BitVec.not_not (b := feeds c l'), e, BitVec.not_not]
  rw [h, low_all] at e'
  have := xor_self_left (feeds c l) (iter N bits)
  rw [e', BitVec.xor_self] at this
  exact hb (iter_inj0 N bits this.symm)
end Go.Proofs.Ytenjcjgkdkmpnaa
