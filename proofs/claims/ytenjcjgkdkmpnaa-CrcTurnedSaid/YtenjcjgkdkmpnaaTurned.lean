/-
  CrcTurned: of two texts that differ in up to 32 bits in a row the sum differs.
-/
import Derived.Test.YtenjcjgkdkmpnaaAwake
import Derived.Lib.ConvBytes
import Derived.Laws.BytesArg
namespace Go.Proofs.Ytenjcjgkdkmpnaa
open Go.RowKit
set_option linter.unusedVariables false

/-- The bytes l lie at the head of block B, and may be written. -/
structure BytesAt (w : World) (B : Nat) (l : List UInt8) : Prop where
  cell : ∀ j b, l[j]? = some b → w.cell? ⟨B, j, none⟩ = some (.int .u8 (b.toNat : Int))
  free : ∀ j, j < l.length → w.frozen? ⟨B, j, none⟩ = false

theorem conv_bytes (w : World) (s : ByteArray) : (convert 9 33 (.string s)).run Try.prog w = .ok (.slice (some ⟨w.heap.size, 0, none⟩) s.size (grownCap w s.size 0 5)) (Lib.bytesWorld w 5 s) :=
  Lib.run_convert_string_bytes w 9 33 5 s Try.underlying9 Try.underlying33 Try.underlying5

theorem conv_back (w : World) (B cap : Nat) (l : List UInt8) (h : BytesAt w B l) (L : Nat) (hL : l.length = L) : (convert 33 9 (.slice (some ⟨B, 0, none⟩) L cap)).run Try.prog w = .ok (.string ⟨l.toArray⟩) w := by
  have := run_convert_bytes_arg (P := Try.prog) w 33 5 Try.underlying33 Try.underlying5 B 0 L cap (l.map fun b => (b.toNat : Int)) (by simp [hL]) (fun i hi => by
    have hi' : i < l.length := by omega
    rw [Nat.zero_add, h.cell i l[i] (by simp [hi'])]; simp [hi']) 9 Try.underlying9
  rw [this]
  simp [strOfNums, Function.comp_def]
theorem neg_place (n : Int) (L : Nat) (hL : 5 ≤ L) (hn : n < 0) : ∃ N : Nat, -((n + 1).tmod (8 * (L : Int) - 31)) = (N : Int) ∧ N + 32 ≤ 8 * L := by
  obtain ⟨a, ha⟩ := Int.eq_ofNat_of_zero_le (show 0 ≤ -(n + 1) by omega)
  have e : n + 1 = -(a : Int) := by omega
  rw [e, Int.neg_tmod, Int.neg_neg, Int.tmod_eq_emod_of_nonneg (by omega)]
  have h1 := Int.emod_nonneg (a : Int) (show (8 * (L : Int) - 31) ≠ 0 by omega)
  have h2 := Int.emod_lt_of_pos (a : Int) (show 0 < (8 * (L : Int) - 31) by omega)
  exact ⟨((a : Int) % (8 * (L : Int) - 31)).toNat, by omega, by omega⟩
theorem pos_place (n : Int) (L : Nat) (hL : 5 ≤ L) : ∃ N : Nat, n % (8 * (L : Int) - 31) = (N : Int) ∧ N + 32 ≤ 8 * L := by
  have h1 := Int.emod_nonneg n (show (8 * (L : Int) - 31) ≠ 0 by omega)
  have h2 := Int.emod_lt_of_pos n (show 0 < (8 * (L : Int) - 31) by omega)
  exact ⟨(n % (8 * (L : Int) - 31)).toNat, by omega, by omega⟩
theorem bytesAt_new (w : World) (s : ByteArray) : BytesAt (Lib.bytesWorld w 5 s) w.heap.size s.data.toList where
  cell j b h := by
    obtain ⟨hj, e⟩ := List.getElem?_eq_some_iff.1 h
    rw [Lib.bytesWorld_cell w 5 s j (by simpa using hj), ← e]
    rw [List.getD_eq_getElem?_getD, List.getElem?_eq_getElem hj]; rfl
  free j hj := by
    have h0 := Lib.bytesWorld_at_new w 5 s
    have hs : s.size ≤ (Lib.bytesCells w 5 s).size := by simp [Lib.bytesCells]
    have hj' : j < s.size := by simpa using hj
    simp [World.frozen?, h0]; omega
theorem below_bytes (w : World) (s : ByteArray) : Below w.heap.size w (Lib.bytesWorld w 5 s) :=
  ⟨rfl, rfl, rfl, by rw [Lib.bytesWorld_size]; omega, fun k hk => Lib.bytesWorld_at_old w 5 s k hk⟩
/-- What holds at the head of each round. -/
def TurnRel (x : BitVec 32) (N B : Nat) (l : List UInt8) (w0 : World) (k : Nat) (wr : World) : Prop :=
  k ≤ 32 ∧ Below w0.heap.size w0 wr ∧ ∃ m : List UInt8, BytesAt wr B m ∧ m.length = l.length ∧ feeds 4294967295#32 m = feeds 4294967295#32 l ^^^ iter (8 * l.length - N) (low k x)

theorem text_size (m : List UInt8) (s : ByteArray) (h : m.length = s.data.toList.length) : (⟨m.toArray⟩ : ByteArray).size = s.size := by
  show m.toArray.size = s.data.size
  rw [List.size_toArray, h, Array.length_toList]
/-- The byte with one bit turned. -/
def turnB (b : UInt8) (r : Nat) : UInt8 := UInt8.ofNat (b.toNat ^^^ 2 ^ r)
theorem turnB_nat (b : UInt8) (r : Nat) (hr : r < 8) : (turnB b r).toNat = b.toNat ^^^ 2 ^ r := by
  have h1 := b.toNat_lt
  have h2 : 2 ^ r < 2 ^ 8 := Nat.pow_lt_pow_right (by omega) hr
  have h3 : b.toNat ^^^ 2 ^ r < 2 ^ 8 := Nat.xor_lt_two_pow (by omega) h2
  unfold turnB
  rw [UInt8.toNat_ofNat']; omega
theorem turnB_int (b : UInt8) (r : Nat) (hr : r < 8) : bits .xor .u8 (b.toNat : Int) (2 ^ r % 256) = ((turnB b r).toNat : Int) := by
  have h1 := b.toNat_lt
  have h2 : 2 ^ r < 2 ^ 8 := Nat.pow_lt_pow_right (by omega) hr
  have h3 : b.toNat ^^^ 2 ^ r < 2 ^ 8 := Nat.xor_lt_two_pow (by omega) h2
  have e : ((2 : Int) ^ r % 256) = ((2 ^ r : Nat) : Int) := by
    rw [show ((2 : Int) ^ r) = ((2 ^ r : Nat) : Int) from by simp]
    exact Int.emod_eq_of_lt (Int.natCast_nonneg _) (Int.ofNat_lt.2 h2)
  have h : (BitVec.ofInt IntKind.u8.bits (b.toNat : Int) ^^^ BitVec.ofInt IntKind.u8.bits ((2 ^ r : Nat) : Int)).toNat = b.toNat ^^^ 2 ^ r := by
    rw [BitVec.ofInt_natCast, BitVec.ofInt_natCast]
    show (BitVec.ofNat 8 b.toNat ^^^ BitVec.ofNat 8 (2 ^ r)).toNat = _
    rw [BitVec.toNat_xor, BitVec.toNat_ofNat, BitVec.toNat_ofNat, Nat.mod_eq_of_lt h2, Nat.mod_eq_of_lt (show b.toNat < 2 ^ 8 by omega)]
  rw [e, turnB_nat b r hr]
  simp only [bits, h]
  rw [IntKind.wrap_u8]; omega
theorem turnB_bv (b : UInt8) (r : Nat) (hr : r < 8) : BitVec.ofNat 32 (turnB b r).toNat = BitVec.ofNat 32 b.toNat ^^^ (1#32 <<< r) := by
  have h1 := b.toNat_lt
  have h2 : 2 ^ r < 2 ^ 8 := Nat.pow_lt_pow_right (by omega) hr
  have h3 : b.toNat ^^^ 2 ^ r < 2 ^ 8 := Nat.xor_lt_two_pow (by omega) h2
  apply BitVec.eq_of_toNat_eq
  rw [turnB_nat b r hr, BitVec.toNat_xor, BitVec.toNat_shiftLeft, BitVec.toNat_ofNat, BitVec.toNat_ofNat, Nat.shiftLeft_eq, show (1#32).toNat = 1 from rfl, Nat.one_mul,
    Nat.mod_eq_of_lt (show b.toNat ^^^ 2 ^ r < 2 ^ 32 by omega), Nat.mod_eq_of_lt (show b.toNat < 2 ^ 32 by omega), Nat.mod_eq_of_lt (show 2 ^ r < 2 ^ 32 by omega)]
theorem BytesAt.set {w : World} {B : Nat} {m : List UInt8} (h : BytesAt w B m) (j : Nat) (hj : j < m.length) (b : UInt8) : BytesAt (w.setCell ⟨B, j, none⟩ (.int .u8 (b.toNat : Int))) B (m.set j b) where
  cell i c hc := by
    by_cases e : i = j
    · subst e
      have h0 := h.cell i m[i] (by simp [hj])
      have : c = b := by rw [List.getElem?_set_self hj] at hc; exact (Option.some.inj hc).symm
      subst this
      exact World.cell?_setCell_same' _ _ _ (by rw [h0]; rfl)
    · rw [List.getElem?_set_ne (fun e' => e e'.symm)] at hc
      rw [World.cell?_setCell_other _ _ _ _ (fun e' => e (by cases e'; rfl))]
      exact h.cell i c hc
  free i hi := by
    rw [World.frozen?_setCell]
    exact h.free i (by simpa using hi)
theorem turn_step {x : BitVec 32} {N B : Nat} {l : List UInt8} {w0 wr : World} {k : Nat} {m : List UInt8} {b : UInt8} (hk : k < 32) (hB : w0.heap.size ≤ B) (hN : N + 32 ≤ 8 * l.length) (hbel : Below w0.heap.size w0 wr) (hm : BytesAt wr B m) (hlen : m.length = l.length)
    (hf : feeds 4294967295#32 m = feeds 4294967295#32 l ^^^ iter (8 * l.length - N) (low k x)) (hb : x.getLsbD k = true) (hbm : m[(N + k) / 8]? = some b) :
    TurnRel x N B l w0 (k + 1) (wr.setCell ⟨B, (N + k) / 8, none⟩ (.int .u8 (bits .xor .u8 (b.toNat : Int) (2 ^ ((N + k) % 8) % 256)))) := by
  have hr : (N + k) % 8 < 8 := Nat.mod_lt _ (by omega)
  obtain ⟨hj, hbe⟩ := List.getElem?_eq_some_iff.1 hbm
  rw [turnB_int b _ hr]
  refine ⟨by omega, hbel.setCell hB _, m.set ((N + k) / 8) (turnB b ((N + k) % 8)), hm.set _ hj _, by simpa using hlen, ?_⟩
  rw [List.set_eq_take_append_cons_drop, if_pos hj]
  have hsp : m.take ((N + k) / 8) ++ b :: m.drop ((N + k) / 8 + 1) = m := by
    rw [← hbe, List.getElem_cons_drop, List.take_append_drop]
  exact burst_step _ _ _ b _ _ x N k l.length ((N + k) % 8) hk hr (by simp; omega) hN (by simp; omega) hb (turnB_bv b _ hr) (by rw [hsp]; exact hf)
theorem turn_skip {x : BitVec 32} {N B : Nat} {l : List UInt8} {w0 wr : World} {k : Nat} {m : List UInt8} (hk : k < 32) (hbel : Below w0.heap.size w0 wr) (hm : BytesAt wr B m) (hlen : m.length = l.length)
    (hf : feeds 4294967295#32 m = feeds 4294967295#32 l ^^^ iter (8 * l.length - N) (low k x)) (hb : x.getLsbD k = false) : TurnRel x N B l w0 (k + 1) wr :=
  ⟨by omega, hbel, m, hm, hlen, by rw [hf]; exact burst_skip _ _ _ _ hk hb⟩

set_option maxHeartbeats 4000000 in
theorem turned_walk (s : ByteArray) (n : Int) (x : BitVec 32) (hs : s.size ≤ maxLen) (h1 : -9223372036854775808 ≤ n) (h2 : n ≤ 9223372036854775807) (w : World) :
    Calls Try.prog 6 #[.string s, .int .i64 n, U x] w fun e w' => e = .returned (.bool true) ∧ Below w.heap.size w w' := by
  have hcv := conv_bytes
  go_enter Try.func6, Try.ntmps6
  go_wp2_with fail
  refine (awake_any _).mono ?_
  rintro e w1 ⟨rfl, hw⟩
  have Hb1 := Lib.hid hw; clear hw
  go_wp2_with fail
  refine (short_any s 500 (by omega) hs _).mono ?_
  rintro e w2 ⟨rfl, rfl⟩
  have hz := cut_size s 500
  generalize cut s 500 = s at hz ⊢
  clear hs
  by_cases hl : s.size < 5
  · go_wp2
    go_ret
    exact ⟨rfl, Hb1.out⟩
  · by_cases hx : x = 0#32
    · subst hx
      have hx1 : (((0#32 : BitVec 32).toNat : Int) == 0) = true := by decide
      go_wp2
      go_ret
      exact ⟨rfl, Hb1.out⟩
    · have hx1 : ((x.toNat : Int) == 0) = false := by
        rw [beq_eq_false_iff_ne]; intro e; exact hx (BitVec.eq_of_toNat_eq (by simpa using e))
      have hbel := Hb1.out.trans ((below_bytes w1 s).mono Hb1.out.size)
      have hstart : ∀ N, TurnRel x N w1.heap.size s.data.toList w 0 (Lib.bytesWorld w1 5 s) := fun N => ⟨Nat.zero_le _, hbel, s.data.toList, bytesAt_new w1 s, rfl, by rw [low_zero, iter_zero]; simp⟩
      have Hst := Lib.hid hstart; clear hstart hbel
      have hw1 := Hb1.out.size
      have hp := pos_place n s.size (by omega)
      by_cases hn : n < 0
      · obtain ⟨N, hN, hN8⟩ := neg_place n s.size (by omega) hn
        go_wp2
        clear hcv hN hp
        go_loopw [10] (fun i wr => ∃ k : Nat, i = .int .i64 k ∧ TurnRel x N w1.heap.size s.data.toList w k wr) (fun i _ => 32 - (intOf i).toNat)
        case atStart => exact ⟨0, rfl, Hst.out N⟩
        case round =>
          obtain ⟨k, rfl, hk, hbel, m, hm, hlen, hfe⟩ := hrel
          have Hfe := Lib.hid hfe; clear hfe
          have Hbel := Lib.hid hbel; clear hbel
          have Hm := Lib.hid hm; clear hm
          have Hlen := Lib.hid hlen; clear hlen
          by_cases hlt : k < 32
          · have hbt := bit_test x k
            by_cases hb : x.getLsbD k = true
            · rw [hb] at hbt
              have hmlen : m.length = s.size := by rw [Hlen.out]; simp
              have hj : (N + k) / 8 < m.length := by omega
              obtain ⟨b, hbm⟩ : ∃ b, m[(N + k) / 8]? = some b := ⟨_, List.getElem?_eq_getElem hj⟩
              have hc := Hm.out.cell _ _ hbm
              have hf := Hm.out.free _ hj
              have Hbm := Lib.hid hbm
              clear hmlen hj hbm
              go_wp2
              exact ⟨⟨k + 1, by go_num, turn_step hlt hw1 (by simpa using hN8) Hbel.out Hm.out Hlen.out Hfe.out hb Hbm.out⟩, by simp [intOf]; omega⟩
            · have hb' : x.getLsbD k = false := by simpa using hb
              rw [hb'] at hbt
              go_wp2
              exact ⟨⟨k + 1, by go_num, turn_skip hlt Hbel.out Hm.out Hlen.out Hfe.out hb'⟩, by simp [intOf]; omega⟩
          · obtain rfl : k = 32 := by omega
            have hend := burst_end _ s.data.toList m x _ hx Hfe.out
            have Hend := Lib.hid hend; clear hend
            have hcb := conv_back wr w1.heap.size (grownCap w1 s.size 0 5) m Hm.out s.size (by rw [Hlen.out]; simp)
            have hms : (⟨m.toArray⟩ : ByteArray).size = s.size := text_size m s Hlen.out
            have Hms := Lib.hid hms; clear hms
            go_wp2_with fail
            refine (of_one ⟨m.toArray⟩ (by rw [Hms.out]; omega) _).mono ?_
            rintro e w2 ⟨rfl, hw⟩
            have Hb2 := Lib.hid (Hbel.out.trans (hw.mono Hbel.out.size)); clear hw
            clear hcb
            go_wp2_with fail
            refine (of_one s (by omega) _).mono ?_
            rintro e w3 ⟨rfl, hw⟩
            have Hb3 := Lib.hid (Hb2.out.trans (hw.mono Hb2.out.size)); clear hw
            have hne : (((ofB m).toNat : Int) != ((ofB s.data.toList).toNat : Int)) = true := by
              rw [bne_iff_ne]; intro e
              exact Hend.out (BitVec.eq_of_toNat_eq (by exact_mod_cast e))
            go_wp2_with fail
            go_ret
            exact ⟨rfl, Hb3.out⟩
      · obtain ⟨N, hN, hN8⟩ := hp
        go_wp2
        rw [hN]
        clear hcv hN
        go_loopw [10] (fun i wr => ∃ k : Nat, i = .int .i64 k ∧ TurnRel x N w1.heap.size s.data.toList w k wr) (fun i _ => 32 - (intOf i).toNat)
        case atStart => exact ⟨0, rfl, Hst.out N⟩
        case round =>
          obtain ⟨k, rfl, hk, hbel, m, hm, hlen, hfe⟩ := hrel
          have Hfe := Lib.hid hfe; clear hfe
          have Hbel := Lib.hid hbel; clear hbel
          have Hm := Lib.hid hm; clear hm
          have Hlen := Lib.hid hlen; clear hlen
          by_cases hlt : k < 32
          · have hbt := bit_test x k
            by_cases hb : x.getLsbD k = true
            · rw [hb] at hbt
              have hmlen : m.length = s.size := by rw [Hlen.out]; simp
              have hj : (N + k) / 8 < m.length := by omega
              obtain ⟨b, hbm⟩ : ∃ b, m[(N + k) / 8]? = some b := ⟨_, List.getElem?_eq_getElem hj⟩
              have hc := Hm.out.cell _ _ hbm
              have hf := Hm.out.free _ hj
              have Hbm := Lib.hid hbm
              clear hmlen hj hbm
              go_wp2
              exact ⟨⟨k + 1, by go_num, turn_step hlt hw1 (by simpa using hN8) Hbel.out Hm.out Hlen.out Hfe.out hb Hbm.out⟩, by simp [intOf]; omega⟩
            · have hb' : x.getLsbD k = false := by simpa using hb
              rw [hb'] at hbt
              go_wp2
              exact ⟨⟨k + 1, by go_num, turn_skip hlt Hbel.out Hm.out Hlen.out Hfe.out hb'⟩, by simp [intOf]; omega⟩
          · obtain rfl : k = 32 := by omega
            have hend := burst_end _ s.data.toList m x _ hx Hfe.out
            have Hend := Lib.hid hend; clear hend
            have hcb := conv_back wr w1.heap.size (grownCap w1 s.size 0 5) m Hm.out s.size (by rw [Hlen.out]; simp)
            have hms : (⟨m.toArray⟩ : ByteArray).size = s.size := text_size m s Hlen.out
            have Hms := Lib.hid hms; clear hms
            go_wp2_with fail
            refine (of_one ⟨m.toArray⟩ (by rw [Hms.out]; omega) _).mono ?_
            rintro e w2 ⟨rfl, hw⟩
            have Hb2 := Lib.hid (Hbel.out.trans (hw.mono Hbel.out.size)); clear hw
            clear hcb
            go_wp2_with fail
            refine (of_one s (by omega) _).mono ?_
            rintro e w3 ⟨rfl, hw⟩
            have Hb3 := Lib.hid (Hb2.out.trans (hw.mono Hb2.out.size)); clear hw
            have hne : (((ofB m).toNat : Int) != ((ofB s.data.toList).toNat : Int)) = true := by
              rw [bne_iff_ne]; intro e
              exact Hend.out (BitVec.eq_of_toNat_eq (by exact_mod_cast e))
            go_wp2_with fail
            go_ret
            exact ⟨rfl, Hb3.out⟩
end Go.Proofs.Ytenjcjgkdkmpnaa
