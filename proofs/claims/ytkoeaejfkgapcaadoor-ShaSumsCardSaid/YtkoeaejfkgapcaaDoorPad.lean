/-
  Pad: what stands behind a text.
-/
import Derived.Test.YtkoeaejfkgapcaaDoorRcompB
import Derived.Deep.OwnRows
import Derived.Laws.OwnMore
namespace Go.Proofs.YtkoeaejfkgapcaaDoor
open Go.RowKit
set_option linter.unusedVariables false

/-- How many noughts. -/
def zs (n : Nat) : Nat := (119 - n % 64) % 64
theorem zs_lt (n : Nat) : zs n < 64 := Nat.mod_lt _ (by decide)
/-- The byte that counts 256 to the i. -/
def lenByte (n i : Nat) : UInt8 := UInt8.ofNat (8 * n / 2 ^ (8 * i))
/-- The byte at p, where the last k are put. -/
def padTo (n k p : Nat) : UInt8 := if p = 0 then 128 else if zs n + 8 - p < k then lenByte n (zs n + 8 - p) else 0
def padCells (n k : Nat) : Array Value := ((List.range (zs n + 9)).map fun p => Value.int .u8 ((padTo n k p).toNat : Int)).toArray
def padL (n : Nat) : List UInt8 := (List.range (zs n + 9)).map (padTo n 8)
theorem padCells_size (n k : Nat) : (padCells n k).size = zs n + 9 := by simp [padCells]
theorem padCells_get (n k p : Nat) (h : p < zs n + 9) : (padCells n k)[p]? = some (.int .u8 ((padTo n k p).toNat : Int)) := by simp [padCells, h]
theorem padCells_step (n k : Nat) (h : k < 8) : (padCells n k).setIfInBounds (zs n + 8 - k) (.int .u8 ((lenByte n k).toNat : Int)) = padCells n (k + 1) := by
  apply Array.ext
  · simp [padCells]
  · intro i h1 h2
    have hi : i < zs n + 9 := by simpa [padCells] using h2
    rw [Array.getElem_setIfInBounds (by simpa [padCells] using hi)]
    by_cases e : zs n + 8 - k = i
    · subst e
      have e1 : zs n + 8 - (zs n + 8 - k) = k := by omega
      have e2 : ¬ (zs n + 8 - k = 0) := by omega
      simp [padCells, padTo, e1, e2]
    · rw [if_neg e]
      simp only [padCells, List.getElem_toArray, List.getElem_map, List.getElem_range, padTo]
      by_cases h0 : i = 0
      · simp [h0]
      · have : (zs n + 8 - i < k + 1) = (zs n + 8 - i < k) := by simp; omega
        simp [h0, this]
theorem padCells_first (n : Nat) : (madeCells #[.int .u8 0] (zs n + 9)).setIfInBounds 0 (.int .u8 128) = padCells n 0 := by
  apply Array.ext
  · simp [padCells, madeCells]
  · intro i h1 h2
    have hi : i < zs n + 9 := by simpa [padCells] using h2
    rw [Array.getElem_setIfInBounds (by simpa [madeCells] using hi)]
    by_cases e : 0 = i
    · subst e; simp [padCells, padTo]
    · have : ¬ i = 0 := fun h => e h.symm
      simp [padCells, padTo, e, this, madeCells, Nat.mod_one]
theorem info5 : (Tryd.prog.info? 5).map (fun i => (i.zero, i.size, i.bytes)) = some (some (.int .u8 0), 1, 1) := by kernel_rfl
theorem conv_text (w : World) (B off cap n : Nat) (m : List UInt8) (hn : m.length = n) (h : ∀ j u, m[j]? = some u → w.cell? ⟨B, off + j, none⟩ = some (.int .u8 (u.toNat : Int))) :
    (convert 50 9 (.slice (some ⟨B, off, none⟩) n cap)).run Tryd.prog w = .ok (.string ⟨m.toArray⟩) w := by
  have := run_convert_bytes_arg (P := Tryd.prog) w 50 5 Tryd.underlying50 Tryd.underlying5 B off n cap (m.map fun b => (b.toNat : Int)) (by simp [hn]) (fun i hi => by
    have hi' : i < m.length := by omega
    rw [h i m[i] (by simp [hi'])]; simp [hi']) 9 Tryd.underlying9
  rw [this]
  simp [strOfNums, Function.comp_def]
end Go.Proofs.YtkoeaejfkgapcaaDoor
