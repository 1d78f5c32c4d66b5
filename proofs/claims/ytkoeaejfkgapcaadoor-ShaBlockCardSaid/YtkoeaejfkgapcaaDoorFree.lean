/-
  A region whose operations may come in many orders, each giving its own value whatever the order: one way is enough, under a property of the world that each operation keeps.
-/
import Derived.Test.YtkoeaejfkgapcaaDoorEq
import Derived.Deep.RegionWith
namespace Go.Proofs.YtkoeaejfkgapcaaDoor
open Go.RowKit
set_option linter.unusedVariables false

def unlisted (l : Array Bool) (n : Nat) : Nat := ((List.range n).filter fun i => !l.getD i false).length
theorem unlisted_set (l : Array Bool) (n i : Nat) (hi : i < n) (hl : i < l.size) (h : l.getD i false = false) : unlisted (l.setIfInBounds i true) n < unlisted l n := by
  unfold unlisted
  have sub : ((List.range n).filter fun j => !(l.setIfInBounds i true).getD j false) = ((List.range n).filter fun j => !l.getD j false).filter fun j => j ≠ i := by
    rw [List.filter_filter]
    apply List.filter_congr
    intro j _
    by_cases e : j = i
    · subst e; simp [hl]
    · have : i ≠ j := fun h => e h.symm
      simp [Array.getD_eq_getD_getElem?, this, e]
  rw [sub]
  have hm : i ∈ (List.range n).filter fun j => !l.getD j false := by simp [hi]; simpa using h
  exact List.length_filter_lt_length_iff_exists.2 ⟨i, hm, by simp⟩
theorem wpAny_inv {P : Program} {md : Region.Mode} {ops : Array Oper} {Q : Exit → Act → World → Prop} (J : Array Bool → Act → World → Prop)
    (hback : ∀ (i : Nat) o, ops[i]? = some o → ∀ e ∈ o.after, e.on < i)
    (hsz : ∀ l a w, J l a w → l.size = ops.size)
    (hdone : ∀ l a w, J l a w → (∀ i, i < ops.size → l.getD i false = true) → Q .normal a w)
    (hstep : ∀ l a w i o, J l a w → ops[i]? = some o → (∀ e ∈ o.after, Region.binds md e = true → l.getD e.on false = true) → ∀ K : Act → World → Prop, (∀ a' w', J (l.setIfInBounds i true) a' w' → K a' w') → wpOp P ops Q i K a w) :
    ∀ fuel l a w, unlisted l ops.size ≤ fuel → J l a w → wpAny P md ops Q fuel l a w := by
  have hready : ∀ l, l.size = ops.size → Region.ready md ops l = [] → ∀ i, i < ops.size → l.getD i false = true := by
    intro l hl hr i
    induction i using Nat.strongRecOn with
    | _ i ih =>
      intro hi
      by_cases hb : l.getD i false = true
      · exact hb
      · exfalso
        have ho : ops[i]? = some ops[i] := by simp [hi]
        have hm : i ∈ Region.ready md ops l := by
          unfold Region.ready
          have hb' : l.getD i true = false := by
            simp [hl, hi] at hb ⊢; exact hb
          simp only [List.mem_filter, List.mem_range, hi, true_and, ho, Option.map_some, Option.getD_some, hb', Bool.not_false, Bool.true_and, Array.all_eq_true_iff_forall_mem]
          intro e he
          have := hback i _ ho e he
          rw [ih _ this (by omega)]
          simp
        rw [hr] at hm
        cases hm
  intro fuel
  induction fuel with
  | zero =>
    intro l a w hu hJ
    have hall : ∀ i, i < ops.size → l.getD i false = true := by
      intro i hi
      by_cases hb : l.getD i false = true
      · exact hb
      · exfalso
        have hm : i ∈ (List.range ops.size).filter fun j => !l.getD j false := by
          simp only [List.mem_filter, List.mem_range, hi, true_and]
          simpa using hb
        have hp := List.length_pos_of_mem hm
        unfold unlisted at hu
        omega
    refine ⟨?_, hdone l a w hJ hall⟩
    unfold Region.ready
    apply List.filter_eq_nil_iff.2
    intro i hi
    have hi' : i < ops.size := by simpa using hi
    have := hall i hi'
    have hl := hsz l a w hJ
    have : l.getD i true = true := by simp [hl, hi'] at this ⊢; exact this
    simp [this]
  | succ fuel ih =>
    intro l a w hu hJ
    have hl := hsz l a w hJ
    refine ⟨fun hr => hdone l a w hJ (hready l hl hr), fun i hi => ?_⟩
    unfold Region.ready at hi
    simp only [List.mem_filter, List.mem_range, Bool.and_eq_true, Bool.not_eq_true'] at hi
    obtain ⟨hin, hlt, hall⟩ := hi
    have ho : ops[i]? = some ops[i] := by simp [hin]
    rw [ho] at hall
    simp only [Option.map_some, Option.getD_some, Array.all_eq_true_iff_forall_mem] at hall
    refine hstep l a w i _ hJ ho (fun e he hb => ?_) _ (fun a' w' hJ' => ih _ _ _ ?_ hJ')
    · have := hall e he
      simpa [hb] using this
    · have hb : l.getD i false = false := by simp [hl, hin] at hlt ⊢; exact hlt
      have := unlisted_set l ops.size i hin (by omega) hb
      omega
/-- What an act holds, where some of the region's operations have come. -/
structure Agree (ops : Array Oper) (dsts : List Tmp) (vs : Nat → Value) (base : Act) (l : Array Bool) (a : Act) : Prop where
  defers : a.defers = base.defers
  size : a.tmps.size = base.tmps.size
  listed : ∀ (i : Nat) o, ops[i]? = some o → l.getD i false = true → ∀ t, o.dst = some t → a.tmps[t]? = some (vs i)
  other : ∀ t : Nat, t ∉ dsts → a.tmps[t]? = base.tmps[t]?
theorem Agree.put {ops : Array Oper} {dsts : List Tmp} {vs : Nat → Value} {base : Act} {l : Array Bool} {a : Act} (h : Agree ops dsts vs base l a)
    (hd : ops.toList.map (·.dst) = dsts.map some) (hn : dsts.Nodup) (hlt : ∀ t ∈ dsts, t < base.tmps.size) (hl : l.size = ops.size) (i : Nat) (o : Oper) (ho : ops[i]? = some o) :
    Agree ops dsts vs base (l.setIfInBounds i true) (a.put o.dst (vs i)) := by
  have hi : i < ops.size := (Array.getElem?_eq_some_iff.1 ho).1
  have hdi : ∀ (j : Nat) o', ops[j]? = some o' → ∃ t, o'.dst = some t ∧ dsts[j]? = some t := fun j o' ho' => by
    have e : (ops.toList.map (·.dst))[j]? = some o'.dst := by
      rw [List.getElem?_map, Array.getElem?_toList, ho']; rfl
    rw [hd, List.getElem?_map] at e
    rcases hx : dsts[j]? with _ | t
    · rw [hx] at e; cases e
    · rw [hx] at e
      exact ⟨t, (Option.some.inj e).symm, rfl⟩
  obtain ⟨t, ht, hti⟩ := hdi i o ho
  have hmem : t ∈ dsts := List.mem_of_getElem? hti
  have hsz : t < a.tmps.size := by rw [h.size]; exact hlt t hmem
  rw [ht]
  refine ⟨h.defers, ?_, ?_, ?_⟩
  · show (a.tmps.setIfInBounds t (vs i)).size = _
    rw [Array.size_setIfInBounds]; exact h.size
  · intro j oj hoj hlj tj htj
    show (a.tmps.setIfInBounds t (vs i))[tj]? = _
    by_cases e : i = j
    · subst e
      have : oj = o := Option.some.inj (hoj.symm.trans ho)
      subst this
      obtain rfl : t = tj := Option.some.inj (ht.symm.trans htj)
      rw [Array.getElem?_setIfInBounds, if_pos rfl, if_pos hsz]
    · have hlj' : l.getD j false = true := by
        rw [Array.getD_eq_getD_getElem?, Array.getElem?_setIfInBounds, if_neg e] at hlj
        rwa [Array.getD_eq_getD_getElem?]
      obtain ⟨t', ht', htj'⟩ := hdi j oj hoj
      obtain rfl : t' = tj := Option.some.inj (ht'.symm.trans htj)
      have hne : t ≠ t' := fun e2 => by
        subst e2
        exact e ((List.getElem?_inj (List.getElem?_eq_some_iff.1 hti).1 hn).1 (hti.trans htj'.symm))
      rw [Array.getElem?_setIfInBounds, if_neg hne]
      exact h.listed j oj hoj hlj' _ htj
  · intro t' ht'
    show (a.tmps.setIfInBounds t (vs i))[t']? = _
    rw [Array.getElem?_setIfInBounds, if_neg (fun e : t = t' => ht' (e ▸ hmem))]
    exact h.other t' ht'
theorem wp_region_free {P : Program} {id : Nat} {ops : Array Oper} {Q : Exit → Act → World → Prop} {base : Act} {w : World} (hm : P.follows .mixedOrders = true) (dsts : List Tmp) (vs : Nat → Value) (I : World → Prop)
    (hback : (ops.toList.zipIdx.all fun x => x.1.after.all fun e => e.on < x.2) = true) (hd : ops.toList.map (·.dst) = dsts.map some) (hn : dsts.Nodup) (hlt : ∀ t ∈ dsts, t < base.tmps.size) (h0 : I w.drew)
    (hop : ∀ (i : Nat) o a w, ops[i]? = some o → I w → a.defers = base.defers → a.tmps.size = base.tmps.size → (∀ e ∈ o.after, Region.binds .any e = true → a.tmps[dsts.getD e.on 0]? = some (vs e.on)) → (∀ t : Nat, t ∉ dsts → a.tmps[t]? = base.tmps[t]?) →
      ∀ K : Act → World → Prop, (∀ w', I w' → K (a.put o.dst (vs i)) w') → if Region.wanted o (yielded ops a.tmps) = true then Oper.wp P o a w K Q else K (a.put o.dst undef) w)
    (hend : ∀ a w, I w → a.defers = base.defers → a.tmps.size = base.tmps.size → (∀ i, i < ops.size → a.tmps[dsts.getD i 0]? = some (vs i)) → (∀ t : Nat, t ∉ dsts → a.tmps[t]? = base.tmps[t]?) → Q .normal a w) :
    (Code.region id ops true).wp P Q base w := by
  refine wp_region_any hm ?_
  have hdst : ∀ i, i < ops.size → ∃ o, ops[i]? = some o ∧ o.dst = some (dsts.getD i 0) := fun i hi => by
    have ho : ops[i]? = some ops[i] := by simp [hi]
    have e : (ops.toList.map (·.dst))[i]? = some ops[i].dst := by
      rw [List.getElem?_map, Array.getElem?_toList, ho]; rfl
    rw [hd, List.getElem?_map] at e
    rcases hx : dsts[i]? with _ | t
    · rw [hx] at e; cases e
    · rw [hx] at e
      refine ⟨_, ho, ?_⟩
      rw [List.getD_eq_getElem?_getD, hx]
      exact (Option.some.inj e).symm
  have hbk : ∀ (i : Nat) o, ops[i]? = some o → ∀ e ∈ o.after, e.on < i := by
    intro i o ho e he
    have hi := (Array.getElem?_eq_some_iff.1 ho)
    have hm : (o, i) ∈ ops.toList.zipIdx := by
      rw [List.mem_zipIdx_iff_getElem?, Array.getElem?_toList]; exact ho
    have := List.all_eq_true.1 hback _ hm
    rw [Array.all_eq_true_iff_forall_mem] at this
    simpa using this e he
  refine wpAny_inv (fun l a w => l.size = ops.size ∧ I w ∧ Agree ops dsts vs base l a) ?_ (fun _ _ _ h => h.1) ?_ ?_ _ _ _ _ ?_ ⟨by simp, h0, rfl, rfl, ?_, fun _ _ => rfl⟩
  · exact hbk
  · intro l a w ⟨hl, hI, hA⟩ hall
    refine hend a w hI hA.defers hA.size (fun i hi => by obtain ⟨o, ho, ht⟩ := hdst i hi; exact hA.listed i o ho (hall i hi) _ ht) hA.other
  · intro l a w i o ⟨hl, hI, hA⟩ ho hdep K hK
    refine wpOp_step ho fun K' hK' => ?_
    refine hop i o a w ho hI hA.defers hA.size (fun e he hb => by
      have := hbk i o ho e he
      have := (Array.getElem?_eq_some_iff.1 ho).1
      obtain ⟨o', ho', ht⟩ := hdst e.on (by omega)
      exact hA.listed e.on o' ho' (hdep e he hb) _ ht) hA.other K' (fun w' hI' => hK' _ _ (hK _ _ ⟨by simpa using hl, hI', hA.put hd hn hlt hl i o ho⟩))
  · unfold unlisted
    exact Nat.le_trans (List.length_filter_le _ _) (by simp)
  · intro i o ho hl
    rw [Array.getD_eq_getD_getElem?] at hl
    have hi := (Array.getElem?_eq_some_iff.1 ho).1
    simp [hi] at hl
end Go.Proofs.YtkoeaejfkgapcaaDoor
