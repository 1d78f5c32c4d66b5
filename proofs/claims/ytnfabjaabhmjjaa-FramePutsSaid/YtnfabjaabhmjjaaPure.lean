/-
  Texts with their lengths ahead, as lists of bytes. No program here.
-/
import Derived.Lib.Hide
namespace Go.Proofs.Ytnfabjaabhmjjaa

/-- A text with its length ahead. -/
def enc (s : List UInt8) : List UInt8 := UInt8.ofNat (s.length / 256) :: UInt8.ofNat (s.length % 256) :: s
/-- The number that two bytes tell. -/
def num (a b : UInt8) : Nat := a.toNat * 256 + b.toNat
/-- The text that stands whole at the head, and what is left behind it. -/
def parse : List UInt8 → Option (List UInt8 × List UInt8)
  | a :: b :: l => if num a b ≤ l.length then some (l.take (num a b), l.drop (num a b)) else none
  | _ => none

theorem enc_length (s : List UInt8) : (enc s).length = s.length + 2 := by simp [enc]
theorem num_enc (s : List UInt8) (h : s.length ≤ 65535) : num (UInt8.ofNat (s.length / 256)) (UInt8.ofNat (s.length % 256)) = s.length := by
  unfold num; rw [UInt8.toNat_ofNat', UInt8.toNat_ofNat']; omega
/-- A whole text at the head is told. -/
theorem parse_enc (s l : List UInt8) (h : s.length ≤ 65535) : parse (enc s ++ l) = some (s, l) := by
  simp only [enc, List.cons_append, parse]
  rw [num_enc s h, if_pos (by simp)]
  simp
/-- Of a text that is not whole yet nothing is told. -/
theorem parse_short (s l : List UInt8) (h : s.length ≤ 65535) (hl : l.length < s.length + 2) (hp : l <+: enc s) : parse l = none := by
  obtain ⟨t, ht⟩ := hp
  match l, hl, ht with
  | [], _, _ => rfl
  | [a], _, _ => rfl
  | a :: b :: l, hl, ht =>
    simp only [enc, List.cons_append, List.cons.injEq] at ht
    obtain ⟨rfl, rfl, _⟩ := ht
    simp only [parse]
    rw [num_enc s h, if_neg (by simp at hl; omega)]
theorem parse_length {l s r : List UInt8} (h : parse l = some (s, r)) : l.length = s.length + 2 + r.length ∧ s.length ≤ 65535 := by
  match l, h with
  | a :: b :: l, h =>
    simp only [parse] at h
    split at h
    · rename_i hn
      simp only [Option.some.injEq, Prod.mk.injEq] at h
      obtain ⟨rfl, rfl⟩ := h
      have ha := a.toNat_lt
      have hb := b.toNat_lt
      unfold num at hn ⊢
      simp; omega
    · cases h
end Go.Proofs.Ytnfabjaabhmjjaa
