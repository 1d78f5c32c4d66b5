/-
  The reference's Put, Put of a text that is too long, and All.
-/
import Derived.Test.YtnfabjaabhmjjaaBuilder
import Derived.Test.YtnfabjaabhmjjaaRef
namespace Go.Proofs.Ytnfabjaabhmjjaa
open Go.RowKit
set_option linter.unusedVariables false

set_option maxHeartbeats 1600000 in
theorem rput_any (s : ByteArray) (hs : s.size ≤ 65535) (w : World) :
    Calls Try.prog 17 #[.string s] w fun e w' => e = .returned (.tuple #[.string (encS s), .int .i64 0]) ∧ Below w.heap.size w w' := by
  have hcv := conv_head w s
  go_enter Try.func17, Try.ntmps17
  go_wp2
  go_ret2
  exact ⟨rfl, (Below.refl _ _).alloc (Nat.le_refl _) _⟩
set_option maxHeartbeats 1600000 in
theorem rput_great (s : ByteArray) (hs : 65535 < s.size) (hm : s.size ≤ 100000) (w : World) :
    Calls Try.prog 17 #[.string s] w fun e w' => e = .returned (.tuple #[.string ⟨#[]⟩, .int .i64 11]) ∧ w = w' := by
  go_enter Try.func17, Try.ntmps17
  go_wp2_with fail
  go_ret2
  exact ⟨rfl, rfl⟩
set_option maxHeartbeats 1600000 in
theorem put_great (s : ByteArray) (hs : 65535 < s.size) (hm : s.size ≤ 100000) (w : World) :
    Calls Try.prog 9 #[.string s] w fun e w' => e = .returned (.tuple #[.string ⟨#[]⟩, .int .i64 11]) ∧ w = w' := by
  go_enter Try.func9, Try.ntmps9
  go_wp2_with fail
  go_ret2
  exact ⟨rfl, rfl⟩

/-- The texts, put one behind the other. -/
def CatL (T : Nat → ByteArray) (k : Nat) : List UInt8 := ((List.range k).map fun i => (encS (T i)).data.toList).flatten
theorem CatL_succ (T : Nat → ByteArray) (k : Nat) : CatL T (k + 1) = CatL T k ++ (encS (T k)).data.toList := by simp [CatL, List.range_succ]
theorem CatL_le (T : Nat → ByteArray) (k n : Nat) (h : ∀ i, i < k → (T i).size ≤ n) : (CatL T k).length ≤ (n + 2) * k := by
  induction k with
  | zero => simp [CatL]
  | succ k ih =>
    have h1 := ih (fun i hi => h i (by omega))
    have h2 := h k (by omega)
    have h3 := encS_size (T k)
    have h4 : (encS (T k)).data.toList.length = (T k).size + 2 := by rw [Array.length_toList]; exact h3
    rw [CatL_succ, List.length_append, h4, Nat.mul_succ]
    generalize (n + 2) * k = M at h1 ⊢
    omega
theorem builder_later {B b : Nat} {bs : List Value} {w w' : World} (h : Lib.IsBuilder 54 5 B b bs w) (hb : Below w.heap.size w w') : Lib.IsBuilder 54 5 B b bs w' := by
  have key : ∀ p, Lib.BuilderAt 54 5 B b p bs w → Lib.BuilderAt 54 5 B b p bs w' := fun p h => by
    have hlt := h.lt
    obtain ⟨hB, v, hbk, hown, hne⟩ := h
    refine ⟨hB, v, (hb.block b hlt).trans hbk, ?_, hne⟩
    exact hown.kept (row := none) ⟨hb.os, hb.tape, hb.output, hb.size, fun k hk _ => hb.block k hk⟩ (by cases v.ownBlock <;> simp)
  exact h.imp (key _) (key _)
theorem strCells_byteCells (l : List UInt8) (s : ByteArray) : Lib.byteCells l ++ Lib.strCells s = Lib.byteCells (l ++ s.data.toList) := by
  simp [Lib.byteCells, Lib.strCells]

set_option maxHeartbeats 1600000 in
theorem all_walk (pa : Option Addr) (len cap : Nat) (T : Nat → ByteArray) (w : World) (hlen : len ≤ 21) (hsz : ∀ i, i < len → (T i).size ≤ 65600)
    (hp : len = 0 ∨ ∃ g, pa = some ⟨g, 0, none⟩ ∧ g < w.heap.size ∧ ∀ i, i < len → w.cell? ⟨g, i, none⟩ = some (.string (T i))) :
    Calls Try.prog 18 #[.slice pa len cap] w fun e w' => ((∀ i, i < len → (T i).size ≤ 65535) ∧ e = .returned (.tuple #[.string ⟨(CatL T len).toArray⟩, .int .i64 0]) ∨ (∃ i, i < len ∧ 65535 < (T i).size) ∧ e = .returned (.tuple #[.string ⟨#[]⟩, .int .i64 11])) ∧ Below w.heap.size w w' := by
  have Hp := Lib.hid hp
  have Hsz := Lib.hid hsz
  clear hp hsz
  go_enter Try.func18, Try.ntmps18
  go_wp2_with fail
  go_loopw [11] (fun i wr => ∃ j : Nat, j ≤ len ∧ i = .int .i64 j ∧ (∀ t, t < j → (T t).size ≤ 65535) ∧ Lib.IsBuilder 54 5 w.heap.size w.heap.size (Lib.byteCells (CatL T j)) wr ∧ Below w.heap.size w wr) (fun i _ => len - (intOf i).toNat)
  case atStart => exact ⟨0, by omega, rfl, fun t h => by omega, Lib.fresh_isBuilder 54 5 w, (Below.refl _ _).alloc (Nat.le_refl _) _⟩
  case round =>
    obtain ⟨j, hj, rfl, hts, hb, hbel⟩ := hrel
    have Hb := Lib.hid hb
    have Hts := Lib.hid hts
    have Hbel := Lib.hid hbel
    clear hb hts hbel
    by_cases hjl : j < len
    · rcases Hp.out with h0 | ⟨g, rfl, hg, hcell⟩
      · omega
      · have d0 := (Hbel.out.cell (p := ⟨g, j, none⟩) hg).trans (hcell j hjl)
        clear hcell
        have hs := Hsz.out j hjl
        go_wp2_with fail
        by_cases hgr : 65535 < (T j).size
        · refine (put_great (T j) hgr (by omega) _).mono ?_
          rintro e w1 ⟨rfl, rfl⟩
          go_wp2_with fail
          go_ret2
          exact ⟨.inr ⟨⟨j, hjl, hgr⟩, rfl⟩, Hbel.out⟩
        · refine (put_any (T j) (by omega) _).mono ?_
          rintro e w1 ⟨rfl, hb1⟩
          have Hb1 := Lib.hid hb1
          clear hb1
          have hcl := CatL_le T j 65535 Hts.out
          have hel := encS_size (T j)
          go_wp2_with fail
          refine (write_any w.heap.size w.heap.size _ (encS (T j)) w1 (builder_later Hb.out Hb1.out) (by rw [Lib.byteCells_length]; omega) (by have := Hbel.out.size; have := Hb1.out.size; omega)).mono ?_
          rintro e w2 ⟨rfl, h2, hb2⟩
          rw [strCells_byteCells, ← CatL_succ] at h2
          have H2 := Lib.hid h2
          have Hb2 := Lib.hid hb2
          clear h2 hb2
          go_wp2_with fail
          refine ⟨⟨j + 1, by omega, by go_num, fun t ht => ?_, .inr H2.out, (Hbel.out.trans (Hb1.out.mono Hbel.out.size)).trans Hb2.out⟩, by simp [intOf]; omega⟩
          rcases Nat.lt_or_ge t j with h | h
          · exact Hts.out t h
          · rw [show t = j by omega]; omega
    · have hje : j = len := by omega
      subst hje
      go_wp2_with fail
      refine (Try.Builder_String_any w.heap.size w.heap.size _ wr Hb.out Hbel.out.size).mono ?_
      rintro e w2 ⟨rfl, hb2⟩
      have Hb2 := Lib.hid hb2
      clear hb2
      go_wp2_with fail
      go_ret2
      exact ⟨.inl ⟨Hts.out, rfl⟩, Hbel.out.trans Hb2.out⟩
end Go.Proofs.Ytnfabjaabhmjjaa
