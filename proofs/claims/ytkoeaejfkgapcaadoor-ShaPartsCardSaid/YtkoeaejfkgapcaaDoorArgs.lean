/-
  Sum and Point, of no text, of one, of many.
-/
import Derived.Test.YtkoeaejfkgapcaaDoorHash
namespace Go.Proofs.YtkoeaejfkgapcaaDoor
open Go.RowKit
set_option linter.unusedVariables false

/-- All the texts, one behind the other. -/
def joined (xs : List ByteArray) : List UInt8 := (xs.map (·.data.toList)).flatten
theorem join_flat (ls : List (List UInt8)) : Lib.join ls [] = ls.flatten := by
  cases ls with
  | nil => rfl
  | cons x r => rw [Lib.join_cons, Lib.joinTail, List.flatten_cons]; simp
theorem join_none (w : World) (c : Nat) (a : Option Addr) (w0 : World) : ∀ w', Below w0.heap.size w0 w' → Calls Tryd.prog 24 #[.slice a 0 c, .string ⟨#[]⟩] w' fun e w'' => e = .returned (.string ⟨#[]⟩) ∧ Below w'.heap.size w' w'' := fun w' _ =>
  (Tryd.strings_Join_none a c ⟨#[]⟩ w').mono fun e w'' ⟨h, h2⟩ => ⟨h, by rw [h2]; exact Below.refl _ _⟩
theorem join_many (bk o c : Nat) (xs : List ByteArray) (w : World) (hcells : ∀ (j : Nat) x, xs[j]? = some x → w.cell? ⟨bk, o + j, none⟩ = some (.string x)) (hbk : bk < w.heap.size) (hN : xs.length ≤ 1000000) (hcap : xs.length ≤ c) (hlen : (joined xs).length ≤ 1000000) :
    ∀ w', Below w.heap.size w w' → Calls Tryd.prog 24 #[.slice (some ⟨bk, o, none⟩) xs.length c, .string ⟨#[]⟩] w' fun e w'' => e = .returned (.string ⟨(joined xs).toArray⟩) ∧ Below w'.heap.size w' w'' := fun w' hb => by
  have hj : Lib.join (xs.map (·.data.toList)) (⟨#[]⟩ : ByteArray).data.toList = joined xs := join_flat _
  have := Tryd.strings_Join bk o c xs ⟨#[]⟩ w' (fun j x hx => (hb.cell (p := ⟨bk, o + j, none⟩) hbk).trans (hcells j x hx)) (by have := hb.size; omega) (by omega) hcap (by rw [hj]; omega)
  rw [hj] at this
  exact this
theorem sum_none (c : Nat) (a : Option Addr) (w : World) (htab : TabIn w) :
    Calls Tryd.prog 16 #[.slice a 0 c] w fun e w' => e = .returned (.agg (rowB (sumB []) 32)) ∧ Below w.heap.size w w' :=
  sum_core _ ⟨#[]⟩ w (by decide) htab (join_none w c a w)
theorem point_none (c : Nat) (a : Option Addr) (w : World) (htab : TabIn w) :
    Calls Tryd.prog 18 #[.slice a 0 c] w fun e w' => e = .returned (.int .u64 (pv (sumB []) 8)) ∧ Below w.heap.size w w' :=
  point_core _ ⟨#[]⟩ w (by decide) htab (join_none w c a w)
theorem sum_many (bk o c : Nat) (xs : List ByteArray) (w : World) (hcells : ∀ (j : Nat) x, xs[j]? = some x → w.cell? ⟨bk, o + j, none⟩ = some (.string x)) (hbk : bk < w.heap.size) (hN : xs.length ≤ 1000000) (hcap : xs.length ≤ c) (hlen : (joined xs).length ≤ 1000000) (htab : TabIn w) :
    Calls Tryd.prog 16 #[.slice (some ⟨bk, o, none⟩) xs.length c] w fun e w' => e = .returned (.agg (rowB (sumB (joined xs)) 32)) ∧ Below w.heap.size w w' :=
  sum_core _ ⟨(joined xs).toArray⟩ w (by simpa [ByteArray.size] using hlen) htab (join_many bk o c xs w hcells hbk hN hcap hlen)
theorem point_many (bk o c : Nat) (xs : List ByteArray) (w : World) (hcells : ∀ (j : Nat) x, xs[j]? = some x → w.cell? ⟨bk, o + j, none⟩ = some (.string x)) (hbk : bk < w.heap.size) (hN : xs.length ≤ 1000000) (hcap : xs.length ≤ c) (hlen : (joined xs).length ≤ 1000000) (htab : TabIn w) :
    Calls Tryd.prog 18 #[.slice (some ⟨bk, o, none⟩) xs.length c] w fun e w' => e = .returned (.int .u64 (pv (sumB (joined xs)) 8)) ∧ Below w.heap.size w w' :=
  point_core _ ⟨(joined xs).toArray⟩ w (by simpa [ByteArray.size] using hlen) htab (join_many bk o c xs w hcells hbk hN hcap hlen)
theorem joined_one (s : ByteArray) : joined [s] = s.data.toList := by simp [joined]
theorem sum_one (bk : Nat) (s : ByteArray) (w : World) (hcell : w.cell? ⟨bk, 0, none⟩ = some (.string s)) (hs : s.size ≤ 1000000) (htab : TabIn w) :
    Calls Tryd.prog 16 #[.slice (some ⟨bk, 0, none⟩) 1 1] w fun e w' => e = .returned (.agg (rowB (sumB s.data.toList) 32)) ∧ Below w.heap.size w w' := by
  have hl : s.data.toList.length = s.size := Array.length_toList
  have := sum_many bk 0 1 [s] w (fun j x hx => by
    match j, hx with
    | 0, hx => rw [← Option.some.inj hx]; exact hcell) (block_lt_of_cell hcell) (by simp) (by simp) (by rw [joined_one]; omega) htab
  rw [joined_one] at this
  exact this
theorem point_one (bk : Nat) (s : ByteArray) (w : World) (hcell : w.cell? ⟨bk, 0, none⟩ = some (.string s)) (hs : s.size ≤ 1000000) (htab : TabIn w) :
    Calls Tryd.prog 18 #[.slice (some ⟨bk, 0, none⟩) 1 1] w fun e w' => e = .returned (.int .u64 (pv (sumB s.data.toList) 8)) ∧ Below w.heap.size w w' := by
  have hl : s.data.toList.length = s.size := Array.length_toList
  have := point_many bk 0 1 [s] w (fun j x hx => by
    match j, hx with
    | 0, hx => rw [← Option.some.inj hx]; exact hcell) (block_lt_of_cell hcell) (by simp) (by simp) (by rw [joined_one]; omega) htab
  rw [joined_one] at this
  exact this
end Go.Proofs.YtkoeaejfkgapcaaDoor
