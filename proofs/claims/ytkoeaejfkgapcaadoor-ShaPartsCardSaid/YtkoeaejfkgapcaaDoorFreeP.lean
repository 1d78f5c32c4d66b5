/-
  A region whose operations may come in many orders, each value told by a property.
-/
import Derived.Test.YtkoeaejfkgapcaaDoorFree
namespace Go.Proofs.YtkoeaejfkgapcaaDoor
open Go.RowKit
set_option linter.unusedVariables false

/-- The same, each value told by a property that stays as the world grows. -/
structure AgreeP (ops : Array Oper) (dsts : List Tmp) (S : Nat → Value → World → Prop) (base : Act) (l : Array Bool) (a : Act) (w : World) : Prop where
  defers : a.defers = base.defers
  size : a.tmps.size = base.tmps.size
  listed : ∀ (i : Nat) o, ops[i]? = some o → l.getD i false = true → ∀ t, o.dst = some t → ∃ v, a.tmps[t]? = some v ∧ S i v w
  other : ∀ t : Nat, t ∉ dsts → a.tmps[t]? = base.tmps[t]?
theorem AgreeP.put {ops : Array Oper} {dsts : List Tmp} {S : Nat → Value → World → Prop} {base : Act} {l : Array Bool} {a : Act} {w w' : World} (h : AgreeP ops dsts S base l a w)
    (hd : ops.toList.map (·.dst) = dsts.map some) (hn : dsts.Nodup) (hlt : ∀ t ∈ dsts, t < base.tmps.size) (hl : l.size = ops.size) (i : Nat) (o : Oper) (ho : ops[i]? = some o) (v : Value) (hv : S i v w') (hS : ∀ j u, S j u w → S j u w') :
    AgreeP ops dsts S base (l.setIfInBounds i true) (a.put o.dst v) w' := by
  have hi : i < ops.size := (Array.getElem?_eq_some_iff.1 ho).1
  have hdi : ∀ (j : Nat) o', ops[j]? = some o' → ∃ t, o'.dst = some t ∧ dsts[j]? = some t := fun j o' ho' => by
    have e : (ops.toList.map (·.dst))[j]? = some o'.dst := by
      rw [List.getElem?_map, Array.getElem?_toList, ho']; rfl
    rw [hd, List.getElem?_map] at e
    rcases hx : dsts[j]? with _ | t
    · rw [hx] at e; cases e
    · rw [hx] at e
      exact ⟨t, (Option.some.inj e).symm, rfl⟩
  obtain ⟨t, ht, hti⟩ := hdi i o ho
  have hmem : t ∈ dsts := List.mem_of_getElem? hti
  have hsz : t < a.tmps.size := by rw [h.size]; exact hlt t hmem
  rw [ht]
  refine ⟨h.defers, ?_, ?_, ?_⟩
  · show (a.tmps.setIfInBounds t v).size = _
    rw [Array.size_setIfInBounds]; exact h.size
  · intro j oj hoj hlj tj htj
    show ∃ u, (a.tmps.setIfInBounds t v)[tj]? = some u ∧ _
    by_cases e : i = j
    · subst e
      have : oj = o := Option.some.inj (hoj.symm.trans ho)
      subst this
      obtain rfl : t = tj := Option.some.inj (ht.symm.trans htj)
      rw [Array.getElem?_setIfInBounds, if_pos rfl, if_pos hsz]
      exact ⟨v, rfl, hv⟩
    · have hlj' : l.getD j false = true := by
        rw [Array.getD_eq_getD_getElem?, Array.getElem?_setIfInBounds, if_neg e] at hlj
        rwa [Array.getD_eq_getD_getElem?]
      obtain ⟨t', ht', htj'⟩ := hdi j oj hoj
      obtain rfl : t' = tj := Option.some.inj (ht'.symm.trans htj)
      have hne : t ≠ t' := fun e2 => by
        subst e2
        exact e ((List.getElem?_inj (List.getElem?_eq_some_iff.1 hti).1 hn).1 (hti.trans htj'.symm))
      rw [Array.getElem?_setIfInBounds, if_neg hne]
      obtain ⟨u, hu, hsu⟩ := h.listed j oj hoj hlj' _ htj
      exact ⟨u, hu, hS j u hsu⟩
  · intro t' ht'
    show (a.tmps.setIfInBounds t v)[t']? = _
    rw [Array.getElem?_setIfInBounds, if_neg (fun e : t = t' => ht' (e ▸ hmem))]
    exact h.other t' ht'
theorem wp_region_pred {P : Program} {id : Nat} {ops : Array Oper} {Q : Exit → Act → World → Prop} {base : Act} {w : World} (hm : P.follows .mixedOrders = true) (dsts : List Tmp) (S : Nat → Value → World → Prop) (I : World → Prop) (ext : World → World → Prop) (hS : ∀ w w' j u, ext w w' → S j u w → S j u w')
    (hback : (ops.toList.zipIdx.all fun x => x.1.after.all fun e => e.on < x.2) = true) (hd : ops.toList.map (·.dst) = dsts.map some) (hn : dsts.Nodup) (hlt : ∀ t ∈ dsts, t < base.tmps.size) (h0 : I w.drew)
    (hop : ∀ (i : Nat) o a w, ops[i]? = some o → I w → a.defers = base.defers → a.tmps.size = base.tmps.size → (∀ e ∈ o.after, Region.binds .any e = true → ∃ v, a.tmps[dsts.getD e.on 0]? = some v ∧ S e.on v w) → (∀ t : Nat, t ∉ dsts → a.tmps[t]? = base.tmps[t]?) →
      ∀ K : Act → World → Prop, (∀ v w', I w' → ext w w' → S i v w' → K (a.put o.dst v) w') → if Region.wanted o (yielded ops a.tmps) = true then Oper.wp P o a w K Q else K (a.put o.dst undef) w)
    (hend : ∀ a w, I w → a.defers = base.defers → a.tmps.size = base.tmps.size → (∀ i, i < ops.size → ∃ v, a.tmps[dsts.getD i 0]? = some v ∧ S i v w) → (∀ t : Nat, t ∉ dsts → a.tmps[t]? = base.tmps[t]?) → Q .normal a w) :
    (Code.region id ops true).wp P Q base w := by
  refine wp_region_any hm ?_
  have hdst : ∀ i, i < ops.size → ∃ o, ops[i]? = some o ∧ o.dst = some (dsts.getD i 0) := fun i hi => by
    have ho : ops[i]? = some ops[i] := by simp [hi]
    have e : (ops.toList.map (·.dst))[i]? = some ops[i].dst := by
      rw [List.getElem?_map, Array.getElem?_toList, ho]; rfl
    rw [hd, List.getElem?_map] at e
    rcases hx : dsts[i]? with _ | t
    · rw [hx] at e; cases e
    · rw [hx] at e
      refine ⟨_, ho, ?_⟩
      rw [List.getD_eq_getElem?_getD, hx]
      exact (Option.some.inj e).symm
  have hbk : ∀ (i : Nat) o, ops[i]? = some o → ∀ e ∈ o.after, e.on < i := by
    intro i o ho e he
    have hi := (Array.getElem?_eq_some_iff.1 ho)
    have hm : (o, i) ∈ ops.toList.zipIdx := by
      rw [List.mem_zipIdx_iff_getElem?, Array.getElem?_toList]; exact ho
    have := List.all_eq_true.1 hback _ hm
    rw [Array.all_eq_true_iff_forall_mem] at this
    simpa using this e he
  refine wpAny_inv (fun l a w => l.size = ops.size ∧ I w ∧ AgreeP ops dsts S base l a w) ?_ (fun _ _ _ h => h.1) ?_ ?_ _ _ _ _ ?_ ⟨by simp, h0, rfl, rfl, ?_, fun _ _ => rfl⟩
  · exact hbk
  · intro l a w ⟨hl, hI, hA⟩ hall
    refine hend a w hI hA.defers hA.size (fun i hi => by obtain ⟨o, ho, ht⟩ := hdst i hi; exact hA.listed i o ho (hall i hi) _ ht) hA.other
  · intro l a w i o ⟨hl, hI, hA⟩ ho hdep K hK
    refine wpOp_step ho fun K' hK' => ?_
    refine hop i o a w ho hI hA.defers hA.size (fun e he hb => by
      have := hbk i o ho e he
      have := (Array.getElem?_eq_some_iff.1 ho).1
      obtain ⟨o', ho', ht⟩ := hdst e.on (by omega)
      exact hA.listed e.on o' ho' (hdep e he hb) _ ht) hA.other K' (fun v w' hI' hx hv => hK' _ _ (hK _ _ ⟨by simpa using hl, hI', hA.put hd hn hlt hl i o ho v hv (fun j u => hS w w' j u hx)⟩))
  · unfold unlisted
    exact Nat.le_trans (List.length_filter_le _ _) (by simp)
  · intro i o ho hl
    rw [Array.getD_eq_getD_getElem?] at hl
    have hi := (Array.getElem?_eq_some_iff.1 ho).1
    simp [hi] at hl
end Go.Proofs.YtkoeaejfkgapcaaDoor
