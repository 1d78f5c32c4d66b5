/-
  An array of numbers is equal to itself.
-/
import Derived.Test.YtkoeaejfkgapcaaDoorAwake
import Derived.ChangeKeysEq
import Derived.Laws.StructEq
namespace Go.Proofs.YtkoeaejfkgapcaaDoor
open Go.RowKit
set_option linter.unusedVariables false

theorem eqItems_self {P : Program} (d : Nat) {e : TypeId} {k : IntKind} (he : P.plainKey e = true) (hu : P.underlying e = some (.int k)) (c : Nat) (xs : Array Value) (w : World) :
    ∀ is : List Nat, (∀ i ∈ is, ∃ a, xs[i * c]? = some (.int k a)) → (Op.eqItems (d + 1) e c xs xs is).run P w = .ok true w
  | [], _ => by simp [Op.eqItems]
  | i :: is, h => by
    obtain ⟨a, ha⟩ := h i (by simp)
    have ih := eqItems_self d he hu c xs w is (fun j hj => h j (by simp [hj]))
    simp only [Op.eqItems, Sem.run_bind, run_part_plain w he ha, Result.andThen_ok, run_equalIn_int w d e k k a a hu]
    simpa using ih
theorem eqIn_self {P : Program} {t e : TypeId} {n : Nat} {k : IntKind} {i : TypeInfo} (hu : P.underlying t = some (.array n e)) (hi : P.info? e = some i) (he : P.plainKey e = true) (hk : P.underlying e = some (.int k)) (hc : P.cellsOf e = 1)
    (xs : Array Value) (hx : ∀ j, j < n → ∃ a, xs[j]? = some (.int k a)) (w : World) :
    (Op.equalIn 10000 t (.agg xs) (.agg xs)).run P w = .ok true w := by
  have h := eqItems_self 9998 he hk (P.cellsOf e) xs w (List.range n) (fun j hj => by
    rw [hc, Nat.mul_one]; exact hx j (by simpa using hj))
  rw [run_equalIn_array w 9999 xs xs hu hi, h]
theorem info22 : ∃ i, Tryd.prog.info? 22 = some i := by
  rcases h : Tryd.prog.info? 22 with _ | i
  · exact absurd (show (Tryd.prog.info? 22).isSome = true by kernel_rfl) (by rw [h]; simp)
  · exact ⟨i, rfl⟩
theorem info5' : ∃ i, Tryd.prog.info? 5 = some i := by
  rcases h : Tryd.prog.info? 5 with _ | i
  · exact absurd (show (Tryd.prog.info? 5).isSome = true by kernel_rfl) (by rw [h]; simp)
  · exact ⟨i, rfl⟩
theorem eqIn_row64 (X : Nat → BitVec 32) (w : World) : (Op.equalIn 10000 25 (.agg (row 64 X 64)) (.agg (row 64 X 64))).run Tryd.prog w = .ok true w := by
  obtain ⟨i, hi⟩ := info22
  exact eqIn_self Tryd.underlying25 hi (by kernel_rfl) Tryd.underlying22 (by kernel_rfl) _ (fun j hj => ⟨_, row_get 64 X 64 j hj hj⟩) w
theorem eqIn_row8 (X : Nat → BitVec 32) (w : World) : (Op.equalIn 10000 28 (.agg (row 8 X 8)) (.agg (row 8 X 8))).run Tryd.prog w = .ok true w := by
  obtain ⟨i, hi⟩ := info22
  exact eqIn_self Tryd.underlying28 hi (by kernel_rfl) Tryd.underlying22 (by kernel_rfl) _ (fun j hj => ⟨_, row_get 8 X 8 j hj hj⟩) w
theorem eqIn_rowB (f : Nat → UInt8) (w : World) : (Op.equalIn 10000 33 (.agg (rowB f 32)) (.agg (rowB f 32))).run Tryd.prog w = .ok true w := by
  obtain ⟨i, hi⟩ := info5'
  exact eqIn_self Tryd.underlying33 hi (by kernel_rfl) Tryd.underlying5 (by kernel_rfl) _ (fun j hj => ⟨_, rowB_get f 32 j hj hj⟩) w
end Go.Proofs.YtkoeaejfkgapcaaDoor
