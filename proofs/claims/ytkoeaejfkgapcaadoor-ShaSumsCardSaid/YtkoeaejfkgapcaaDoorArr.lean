/-
  Arrays of numbers: as rows of cells; the schedule. No walk here.
-/
import Derived.Test.YtkoeaejfkgapcaaDoorRot
import Derived.Laws.CopyOwn
import Derived.Laws.Rows
import Derived.Laws.Tables
namespace Go.Proofs.YtkoeaejfkgapcaaDoor
open Go.RowKit
set_option linter.unusedVariables false

/-- The first k of X, then noughts, n in all. -/
def row (n : Nat) (X : Nat → BitVec 32) (k : Nat) : Array Value := ((List.range n).map fun i => if i < k then U (X i) else .int .u32 0).toArray
theorem row_size (n : Nat) (X : Nat → BitVec 32) (k : Nat) : (row n X k).size = n := by simp [row]
theorem row_get (n : Nat) (X : Nat → BitVec 32) (k i : Nat) (h : i < k) (hn : i < n) : (row n X k)[i]? = some (U (X i)) := by simp [row, h, hn]
theorem row_get0 (n : Nat) (X : Nat → BitVec 32) (k i : Nat) (h : k ≤ i) (hn : i < n) : (row n X k)[i]? = some (.int .u32 0) := by simp [row, hn]; intro h'; omega
theorem row_zero (n : Nat) (X : Nat → BitVec 32) : row n X 0 = Array.replicate n (.int .u32 0) := by
  apply Array.ext
  · simp [row]
  · intro i h1 h2; simp [row]
theorem row_succ (n : Nat) (X : Nat → BitVec 32) (k : Nat) (h : k < n) : (row n X k).setIfInBounds k (U (X k)) = row n X (k + 1) := by
  apply Array.ext
  · simp [row]
  · intro i h1 h2
    have hi : i < n := by simpa [row] using h2
    rw [Array.getElem_setIfInBounds (by simpa [row] using hi)]
    by_cases e : k = i
    · subst e; simp [row]
    · have : (i < k + 1) = (i < k) := by simp; omega
      simp [row, e, this]
theorem row_congr (n : Nat) (X Y : Nat → BitVec 32) (k : Nat) (h : ∀ i, i < k → X i = Y i) : row n X k = row n Y k := by
  unfold row
  congr 1
  apply List.map_congr_left
  intro i hi
  split
  · rename_i hk; rw [h i hk]
  · rfl
theorem row_one (n : Nat) (X : Nat → BitVec 32) (k : Nat) : (row n X k).all (·.oneCell') = true := by
  rw [Array.all_eq_true_iff_forall_mem]
  intro v hv
  simp only [row, List.mem_toArray, List.mem_map, List.mem_range] at hv
  obtain ⟨i, _, rfl⟩ := hv
  split <;> rfl
theorem row_one' (n : Nat) (X : Nat → BitVec 32) (k : Nat) : ∀ v ∈ (row n X k).toList, v.oneCell' = true := fun v hv => by
  have := row_one n X k
  rw [Array.all_eq_true_iff_forall_mem] at this
  exact this v (by simpa using hv)
theorem row_put (n m : Nat) (X : Nat → BitVec 32) (h : m ≤ n) : (splice (row n X 0).toList 0 (row m X m).toList).toArray = row n X m := by
  apply Array.ext
  · simp [splice, row]; omega
  · intro i h1 h2
    have hi : i < n := by simpa [row] using h2
    by_cases hm : i < m
    · have : (row m X m).toList.length = m := by simp [row]
      simp [splice, row, hm]
    · simp [splice, row, hm]
      rw [List.getElem_append_right (by simp; omega)]
      simp

theorem zero25 (w : World) : (zeroValue 25).run Tryd.prog w = .ok (.agg (Array.replicate 64 (.int .u32 0))) w := by kernel_rfl
theorem size25 : (Tryd.prog.info? 25).map (·.size) = some 64 := by kernel_rfl
theorem size23 : (Tryd.prog.info? 23).map (·.size) = some 16 := by kernel_rfl
theorem size28 : (Tryd.prog.info? 28).map (·.size) = some 8 := by kernel_rfl
theorem size22 : (Tryd.prog.info? 22).map (·.size) = some 1 := by kernel_rfl

/-! ### The schedule -/
def sig0 (b : BitVec 32) : BitVec 32 := rotr b 7 ^^^ rotr b 18 ^^^ b >>> 3
def sig1 (a : BitVec 32) : BitVec 32 := rotr a 17 ^^^ rotr a 19 ^^^ a >>> 10
def nextW (l : List (BitVec 32)) : BitVec 32 :=
  sig1 (l.getD (l.length - 2) 0) + l.getD (l.length - 7) 0 + sig0 (l.getD (l.length - 15) 0) + l.getD (l.length - 16) 0
def expTo (l : List (BitVec 32)) : Nat → List (BitVec 32)
  | 0 => l
  | k + 1 => expTo l k ++ [nextW (expTo l k)]
def first16 (W : Nat → BitVec 32) : List (BitVec 32) := (List.range 16).map W
theorem expTo_length (l : List (BitVec 32)) (k : Nat) : (expTo l k).length = l.length + k := by
  induction k with
  | zero => rfl
  | succ k ih => simp [expTo, ih]; omega
theorem expTo_get (l : List (BitVec 32)) (k m i : Nat) (h : i < l.length + k) (hk : k ≤ m) : (expTo l m).getD i 0 = (expTo l k).getD i 0 := by
  induction m with
  | zero => obtain rfl : k = 0 := by omega
            rfl
  | succ m ih =>
    rcases Nat.lt_or_ge m k with h1 | h1
    · obtain rfl : k = m + 1 := by omega
      rfl
    · rw [← ih h1]
      have hl := expTo_length l m
      simp only [expTo, List.getD_eq_getElem?_getD]
      rw [List.getElem?_append_left (by omega)]
def sched (W : Nat → BitVec 32) (t : Nat) : BitVec 32 := (expTo (first16 W) 48).getD t 0
theorem sched_first (W : Nat → BitVec 32) (t : Nat) (h : t < 16) : sched W t = W t := by
  unfold sched
  rw [expTo_get _ 0 48 t (by simp [first16]; omega) (by omega)]
  simp [expTo, first16, h]
theorem sched_next (W : Nat → BitVec 32) (t : Nat) (h : 16 ≤ t) (h2 : t < 64) :
    sched W t = sig1 (sched W (t - 2)) + sched W (t - 7) + sig0 (sched W (t - 15)) + sched W (t - 16) := by
  have hl : (first16 W).length = 16 := by simp [first16]
  obtain ⟨k, rfl⟩ : ∃ k, t = 16 + k := ⟨t - 16, by omega⟩
  have e : ∀ i, i < 16 + k → sched W i = (expTo (first16 W) k).getD i 0 := fun i hi => expTo_get _ k 48 i (by omega) (by omega)
  have hk := expTo_length (first16 W) k
  have e2 : sched W (16 + k) = nextW (expTo (first16 W) k) := by
    unfold sched
    rw [expTo_get _ (k + 1) 48 (16 + k) (by omega) (by omega)]
    simp only [expTo, List.getD_eq_getElem?_getD]
    rw [List.getElem?_append_right (by omega)]
    simp [hk, hl]
  rw [e2, e _ (by omega), e _ (by omega), e _ (by omega), e _ (by omega), nextW, hk, hl]
end Go.Proofs.YtkoeaejfkgapcaaDoor
