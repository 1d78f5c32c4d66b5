/-
  The reference's Pad.
-/
import Derived.Test.YtkoeaejfkgapcaaDoorPadW
import Derived.Lib.SmallJoins
namespace Go.Proofs.YtkoeaejfkgapcaaDoor
open Go.RowKit
set_option linter.unusedVariables false

set_option maxHeartbeats 400000 in
theorem rpad_out (n : Int) (h : n < 0 ∨ 1152921504606846976 < n) (w : World) :
    Calls Tryd.prog 15 #[.int .i64 n] w fun e w' => e = .returned (.string ⟨#[]⟩) ∧ w = w' := by
  rcases h with h | h
  · have hd : decide (n < 0) = true := by simpa using h
    go_enter Tryd.func15, Tryd.ntmps15
    go_wp2
    go_ret
    exact ⟨rfl, rfl⟩
  · have hd : decide (n < 0) = false := by simp; omega
    have hd2 : decide (1152921504606846976 < n) = true := by simpa using h
    clear h
    go_enter Tryd.func15, Tryd.ntmps15
    go_wp2
    go_ret
    exact ⟨rfl, rfl⟩

def PV (n m : Nat) : List Value := (List.range m).map fun p => .int .u8 ((padTo n 8 p).toNat : Int)
theorem PV_succ (n m : Nat) : PV n (m + 1) = PV n m ++ [.int .u8 ((padTo n 8 m).toNat : Int)] := by simp [PV, List.range_succ]
theorem PV_length (n m : Nat) : (PV n m).length = m := by simp [PV]
theorem PV_get (n m j : Nat) (h : j < m) : (PV n m)[j]? = some (.int .u8 ((padTo n 8 j).toNat : Int)) := by simp [PV, h]
def lenOf : Value → Nat
  | .slice _ n _ => n
  | _ => 0
theorem own_shape {w : World} {base e n : Nat} {v : Value} {xs : List Value} (h : w.ownsRow base e 1 v n xs) : ∃ ao c, v = .slice ao n c := by
  rcases Joins.ownsRow_forms h with ⟨rfl, rfl⟩ | ⟨g, c, rfl⟩
  · exact ⟨_, _, rfl⟩
  · exact ⟨_, _, rfl⟩
theorem rlen_val (n t : Nat) (h : n ≤ 1152921504606846976) (ht : t < 8) : (IntKind.i64.wrap ((n : Int) * 8) / 2 ^ (8 * t) % 256 : Int) = ((lenByte n t).toNat : Int) := by
  rw [lenByte, UInt8.toNat_ofNat', Nat.mul_comm 8 n]
  have e : ((n * 8 / 2 ^ (8 * t) % 2 ^ 8 : Nat) : Int) = ((n : Int) * 8 / 2 ^ (8 * t) % 256) := by simp
  rw [e, IntKind.wrap_i64]
  match t, ht with
  | 0, _ => simp; omega
  | 1, _ => simp; omega
  | 2, _ => simp; omega
  | 3, _ => simp; omega
  | 4, _ => simp; omega
  | 5, _ => simp; omega
  | 6, _ => simp; omega
  | 7, _ => simp; omega

set_option maxHeartbeats 800000 in
theorem rpad_in (n : Nat) (h : n ≤ 1152921504606846976) (w : World) :
    Calls Tryd.prog 15 #[.int .i64 n] w fun e w' => e = .returned (.string ⟨(padL n).toArray⟩) ∧ Below w.heap.size w w' := by
  obtain ⟨i5, hi5, hz5, hs5, hb5⟩ := info_parts info5
  have hd : decide ((n : Int) < 0) = false := by simp
  have hd2 : decide (1152921504606846976 < (n : Int)) = false := by simp; omega
  have H := Lib.hid h
  have hz := zs_lt n
  clear h
  go_enter Tryd.func15, Tryd.ntmps15
  go_wp2_with fail
  have h0 : (w.alloc (.cells #[.int .u8 128] 5)).ownsRow w.heap.size 5 1 (.slice (some ⟨w.heap.size, 0, none⟩) 1 1) 1 (PV n 1) := World.ownsRow_lit w #[.int .u8 128] 1 (Nat.le_refl _) (by decide) rfl
  have H0 := Lib.hid h0
  clear h0 hd hd2
  go_loopw [3] (fun sv wr => ∃ (m : Nat) (ao : Option Addr) (c : Nat), 1 ≤ m ∧ m ≤ zs n + 1 ∧ sv = .slice ao m c ∧ wr.ownsRow w.heap.size 5 1 sv m (PV n m) ∧ Below w.heap.size w wr) (fun sv _ => zs n + 1 - lenOf sv)
  case atStart => exact ⟨1, _, _, by omega, by omega, rfl, H0.out, (Below.refl _ _).alloc (Nat.le_refl _) _⟩
  case round =>
    obtain ⟨m, ao, c, hm1, hm2, rfl, ho, hb⟩ := hrel
    have Ho := Lib.hid ho
    have Hb := Lib.hid hb
    clear ho hb H0
    by_cases hm : m = zs n + 1
    · subst hm
      have heq : (((n : Int) % 64 + (zs n + 1 : Nat) + 8) % 64 == 0) = true := by
        have : ((n : Int) % 64 + (zs n + 1 : Nat) + 8) % 64 = 0 := by unfold zs; omega
        simpa using this
      have heq2 : (((n : Int) % 64 + ((zs n : Int) + 1) + 8) % 64 == 0) = true := by simpa using heq
      go_wp2_with fail
      clear heq heq2
      generalize (((n : Int) % 64 + ((zs n : Int) + 1) + 8) % 64 != 0) = bq
      generalize ((n : Int) % 64 + ((zs n : Int) + 1) + 8) % 64 = q
      go_loopw [3, 4] (fun sv iv wr' => ∃ (j m : Nat) (ao : Option Addr) (c : Nat), j ≤ 8 ∧ m + j = zs n + 9 ∧ iv = .int .i64 ((j : Int) - 1) ∧ sv = .slice ao m c ∧ wr'.ownsRow w.heap.size 5 1 sv m (PV n m) ∧ Below w.heap.size w wr') (fun _ iv _ => (intOf iv + 1).toNat)
      case atStart => exact ⟨8, zs n + 1, _, _, by omega, by omega, rfl, rfl, Ho.out, Hb.out⟩
      case round =>
        obtain ⟨j, m, ao2, c2, hj, hmj, rfl, rfl, ho, hb⟩ := hrel
        have Hmj := Lib.hid hmj
        have hml : m ≤ 72 := by omega
        clear hmj
        have Ho2 := Lib.hid ho
        have Hb2 := Lib.hid hb
        clear ho hb Ho Hb
        cases j with
        | zero =>
          obtain rfl : m = zs n + 9 := by have := Hmj.out; omega
          obtain ⟨g, c3, hg⟩ := Joins.ownsRow_form Ho2.out (by omega)
          obtain ⟨rfl, rfl⟩ : ao2 = some ⟨g, 0, none⟩ ∧ c2 = c3 := by cases hg; exact ⟨rfl, rfl⟩
          clear hg
          have hcv := conv_text wr g 0 c2 (zs n + 9) (padL n) (by simp [padL]) (fun j u hj => by
            have hj' : j < zs n + 9 := by have := (List.getElem?_eq_some_iff.1 hj).1; simpa [padL] using this
            rw [Nat.zero_add, Ho2.out.cellAt j (by omega), PV_get _ _ _ hj']
            simp [padL, hj'] at hj
            rw [← hj])
          go_wp2
          go_ret
          exact ⟨rfl, Hb2.out⟩
        | succ t =>
          rw [show ((t + 1 : Nat) : Int) - 1 = (t : Int) by omega]
          have hv := rlen_val n t H.out (by omega)
          rw [IntWalk.i64_left] at hv
          have ht : t < 8 := by omega
          go_wp2_with (at_builtin; refine wpList_append_own _ rfl (.tmp 27) (.tmp 35) 50 rfl w.heap.size 5 i5 (.int .u8 0) 1 1 Tryd.underlying50 hi5 hz5 hs5 hb5 rfl (by decide) _ _ _ rfl (Ho2.out.alloc _) ⟨wr.heap.size, 0, none⟩ 1 1 [.int .u8 ((lenByte n t).toNat : Int)] rfl rfl (cell_one_new _ _ _) (by simp [Value.oneCell']) (by unfold maxLen; omega) (by omega) (by have := Hb2.out.size; simp; omega) ?_; intro v' wq hown' hgrow hnil; clear hnil)
          have hlA := Ho2.out.alloc (Obj.cells #[Value.int .u8 ((lenByte n t).toNat : Int)] 5)
          have hbA := Hb2.out.alloc Hb2.out.size (Obj.cells #[Value.int .u8 ((lenByte n t).toNat : Int)] 5)
          have hm := Hmj.out
          have hp : padTo n 8 m = lenByte n t := by unfold padTo; rw [if_neg (by omega), if_pos (by omega), show zs n + 8 - m = t by omega]
          have hq : PV n m ++ [.int .u8 ((lenByte n t).toNat : Int)] = PV n (m + 1) := by rw [PV_succ, hp]
          rw [hq] at hown'
          obtain ⟨ao', c', rfl⟩ := own_shape hown'
          exact ⟨⟨t, m + 1, ao', c', by omega, by omega, rfl, rfl, hown', hbA.grown hgrow hbA.size (fun k e => (hlA.lt k e).1)⟩, by simp [intOf] <;> omega⟩
    · have hne : (((n : Int) % 64 + m + 8) % 64 == 0) = false := by
        have : ((n : Int) % 64 + m + 8) % 64 ≠ 0 := by unfold zs at *; omega
        simpa using this
      go_wp2_with (at_builtin; refine wpList_append_own _ rfl (.tmp 20) (.tmp 21) 50 rfl w.heap.size 5 i5 (.int .u8 0) 1 1 Tryd.underlying50 hi5 hz5 hs5 hb5 rfl (by decide) _ _ _ rfl (Ho.out.alloc _) ⟨wr.heap.size, 0, none⟩ 1 1 [.int .u8 0] rfl rfl (cell_one_new _ _ _) (by simp [Value.oneCell']) (by unfold maxLen; omega) (by omega) (by have := Hb.out.size; simp; omega) ?_; intro v' wq hown' hgrow hnil; clear hnil)
      have hlA := Ho.out.alloc (Obj.cells #[Value.int .u8 0] 5)
      have hbA := Hb.out.alloc Hb.out.size (Obj.cells #[Value.int .u8 0] 5)
      have hp : padTo n 8 m = 0 := by unfold padTo; rw [if_neg (by omega), if_neg (by omega)]
      have hq : PV n m ++ [.int .u8 0] = PV n (m + 1) := by rw [PV_succ, hp]; rfl
      rw [hq] at hown'
      obtain ⟨ao', c', rfl⟩ := own_shape hown'
      exact ⟨⟨m + 1, ao', c', by omega, by omega, rfl, hown', hbA.grown hgrow hbA.size (fun k e => (hlA.lt k e).1)⟩, by simp [lenOf]; omega⟩
end Go.Proofs.YtkoeaejfkgapcaaDoor
