/-
  What the six rows share: the table, the arrays opened, a world for the witness.
-/
import Derived.Test.YtkoeaejfkgapcaaDoorLawF
import Derived.Test.YtkoeaejfkgapcaaDoorCards
import Derived.Test.YtkoeaejfkgapcaaDoorTie
import Derived.WalkKit
import Derived.ProofKit
import Derived.OpenShut
import Derived.ShutString
import Derived.Deep.DeepHandedRow
import Derived.Deep.Slices
import Derived.ChangeSame
import Derived.Lib.LaidTab
import Derived.WideKeyArr2
namespace Go.Proofs.YtkoeaejfkgapcaaDoor
open Go.ChangeShapes Go.WideShapes Go.ChangeAt Go.RowKit Go.Deep
set_option linter.unusedVariables false

theorem own : ownKnob Tryd.prog.godebug = none := by kernel_rfl
theorem laidOut : laidOutB Tryd.prog = true := by kernel_rfl
theorem gTab : Tryd.prog.globalNamed "fingerpost/sha.table" = some 0 := by kernel_rfl
theorem gTabType : (Tryd.prog.globals[0]?).map (·.type) = some 25 := by kernel_rfl
theorem cells25 : Tryd.prog.cellsOf 25 = 64 := by kernel_rfl
theorem cells22 : Tryd.prog.cellsOf 22 = 1 := by kernel_rfl
theorem cells9 : Tryd.prog.cellsOf 9 = 1 := by kernel_rfl
/-- The table's numbers. -/
def tabZ : List Int := kL.map fun k => (k.toNat : Int)
theorem tabZ_get (i : Nat) (h : i < 64) : tabZ.getD i 0 = ((Kt i).toNat : Int) := by
  have := List.all_eq_true.1 (show ((List.range 64).all fun i => decide (tabZ.getD i 0 = ((Kt i).toNat : Int))) = true by kernel_rfl) i (by simpa using h)
  simpa using this
theorem table {W : World} (h : laidMetH Tryd.prog [("fingerpost/sha.table", Rows.laid_fingerpost_sha_table)] W) : TabIn W := by
  have hd : (Rows.laid_fingerpost_sha_table : DataW Unit) = Lib.tabData .u32 tabZ := by kernel_rfl
  have ht : Lib.TabIs Tryd.prog W "fingerpost/sha.table" .u32 tabZ := by
    unfold laidMetH at h
    rw [hd] at h
    exact Lib.tabIs_of_head (rest := []) gTab gTabType Tryd.underlying25 Tryd.underlying22 cells22 cells25 h
  intro i hi
  rw [ht.cell gTab i (by rw [show tabZ.length = 64 from rfl]; exact hi), tabZ_get i hi]
/-- The settled world, the table holding what the text lays. -/
noncomputable def laidWorld (os : Os) : World :=
  { World.holding Tryd.prog os ⟨#[], #[], []⟩ with heap := (World.holding Tryd.prog os ⟨#[], #[], []⟩).heap.modify 0 fun
      | .cells _ t frozen => .cells (kL.map fun k => Value.int .u32 (k.toNat : Int)).toArray t frozen
      | o => o }
/-- An array of numbers, opened. -/
theorem open_row {H : Type} {enc : TypeId × Value → H} {W : World} {base : Nat} {b0 : Nat} {t n : Nat} {v : Value} {d : DataW H} {p : List MemPlace} (ht : Tryd.prog.underlying t = some (.array n 22)) (hct : Tryd.prog.cellsOf t = n)
    (A : Go.WideMaps.ArrKey Tryd.prog t 22 n) {r : Reach} (hv : Value.okWide Tryd.prog W r b0 t v) (hd : DataW.Trod enc Tryd.prog W base (fun _ => true) true t v d p) : ∃ X : Nat → BitVec 32, v = .agg (row n X n) := by
  obtain ⟨xs, rfl, hn⟩ := Go.WideMaps.okWide_arr A hv
  obtain ⟨fuel, hf⟩ := hd
  obtain ⟨ys, m, rfl, hx, hl, hyl, hi⟩ := DataW.trod_array ht hf
  refine ⟨fun i => match xs[i]? with | some (.int _ a) => BitVec.ofInt 32 a | _ => 0, ?_⟩
  congr 1
  apply Array.ext_getElem?
  intro i
  by_cases h : i < n
  · have h1 := hi i h
    obtain ⟨y, hy⟩ : ∃ y, ys[i]? = some y := ⟨ys[i], by simp [hyl, h]⟩
    rw [hy] at h1
    obtain ⟨a, ha, _, wf⟩ := DataW.trod_int Tryd.underlying22 h1
    have hxa : xs[i]? = some (.int .u32 a) := by
      rw [cells22, Nat.mul_one] at ha
      have := congrArg (·[0]?) ha
      simpa [Value.cells, List.getElem?_take, List.getElem?_drop] using this
    rw [hxa, row_get n _ n i h h]
    simp only [hxa]
    simp [Lit.wf, IntKind.min, IntKind.max, IntKind.bits, IntKind.signed] at wf
    congr 2
    rw [show BitVec.ofInt 32 a = BitVec.ofNat 32 a.toNat by rw [← BitVec.ofInt_natCast, Int.toNat_of_nonneg wf.1]]
    rw [BitVec.toNat_ofNat]; omega
  · rw [Array.getElem?_eq_none (by omega), Array.getElem?_eq_none (by rw [row_size]; omega)]
theorem A23 : Go.WideMaps.ArrKey Tryd.prog 23 22 16 := ⟨Tryd.underlying23, by kernel_rfl, cells22, by kernel_rfl⟩
theorem A28 : Go.WideMaps.ArrKey Tryd.prog 28 22 8 := ⟨Tryd.underlying28, by kernel_rfl, cells22, by kernel_rfl⟩
end Go.Proofs.YtkoeaejfkgapcaaDoor
