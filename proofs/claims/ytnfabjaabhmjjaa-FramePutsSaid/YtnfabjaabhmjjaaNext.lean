/-
  Next: the text at the head, or none.
-/
import Derived.Test.YtnfabjaabhmjjaaEach
namespace Go.Proofs.Ytnfabjaabhmjjaa
open Go.RowKit Go.Shelf
attribute [local go_sem] Oper.semAt_some
set_option linter.unusedVariables false

/-- But for block R, what was there is as it was. -/
abbrev But (R : Nat) (w w' : World) : Prop := w.grownBy w' (some R)
theorem But.trans {R : Nat} {a b c : World} (h : But R a b) (k : But R b c) : But R a c :=
  ⟨k.os.trans h.os, k.tape.trans h.tape, k.output.trans h.output, Nat.le_trans h.size k.size, fun i hi e => (k.block i (Nat.lt_of_lt_of_le hi h.size) e).trans (h.block i hi e)⟩
theorem But.refl (R : Nat) (w : World) : But R w w := ⟨rfl, rfl, rfl, Nat.le_refl _, fun _ _ _ => rfl⟩
theorem But.drewN {R : Nat} {a b : World} (h : But R a b) (n : Nat) : But R a (b.drewN n) := ⟨h.os, h.tape, h.output, h.size, h.block⟩
theorem But.alloc {R : Nat} {a b : World} (h : But R a b) (o : Obj) : But R a (b.alloc o) := h.trans (World.grownBy_alloc _ _ _)
theorem But.setCell {R : Nat} {a b : World} (h : But R a b) (v : Value) : But R a (b.setCell ⟨R, 0, none⟩ v) := h.trans (grownBy_setCell' _ _ _)
/-- A turn of a block that was not there. -/
theorem But.later {R : Nat} {a b c : World} {row : Option Nat} (h : But R a b) (hg : b.grownBy c row) (hr : ∀ r, row = some r → a.heap.size ≤ r) : But R a c :=
  ⟨hg.os.trans h.os, hg.tape.trans h.tape, hg.output.trans h.output, Nat.le_trans h.size hg.size, fun i hi e => (hg.block i (Nat.lt_of_lt_of_le hi h.size) (fun e' => by have := hr i e'.symm; omega)).trans (h.block i hi e)⟩

theorem dataAt_kept {w w' : World} {v : Value} {l : List UInt8} (h : DataAt w v l) (hk : ∀ (k : Nat) cs fr, w.heap[k]? = some (Obj.cells cs 5 fr) → w'.heap[k]? = some (Obj.cells cs 5 fr)) : DataAt w' v l := by
  rcases h with h | ⟨b, off, cap, cs, fr, hv, hc, hb, hcs⟩
  · exact .inl h
  · exact .inr ⟨b, off, cap, cs, fr, hv, hc, hk b cs fr hb, hcs⟩
theorem cells_ne {w : World} {row : Option Nat} (hr : ∀ r, row = some r → ∃ o : Obj, w.heap[r]? = some o ∧ o.isCells = false) {k : Nat} {cs : Array Value} {t : TypeId} {fr : Nat × Nat} (h : w.heap[k]? = some (.cells cs t fr)) : some k ≠ row := fun e => by
  obtain ⟨o, ho, hc⟩ := hr k e.symm
  rw [h] at ho; cases ho; cases hc
theorem block_kept {w w' : World} {row : Option Nat} (hg : w.grownBy w' row) {k : Nat} {o : Obj} (h : w.heap[k]? = some o) (hne : some k ≠ row) : w'.heap[k]? = some o :=
  (hg.block k (Array.getElem?_eq_some_iff.1 h).1 hne).trans h
/-- A reader holds what it held where its cells and its data lie as they lay. -/
theorem holds_kept {w w' : World} {R : Nat} {l : List UInt8} (h : Holds w R l) {row : Option Nat} (hg : w.grownBy w' row) (hr : ∀ r, row = some r → ∃ o : Obj, w.heap[r]? = some o ∧ o.isCells = false) : Holds w' R l := by
  obtain ⟨v, hR, hd⟩ := h
  exact ⟨v, block_kept hg hR (cells_ne hr hR), dataAt_kept hd fun k cs fr hk => block_kept hg hk (cells_ne hr hk)⟩
theorem holds_alloc {w : World} {R : Nat} {l : List UInt8} (h : Holds w R l) (o : Obj) : Holds (w.alloc o) R l := holds_kept h (World.grownBy_alloc _ _ none) (fun r e => by cases e)
theorem holds_drewN {w : World} {R : Nat} {l : List UInt8} (h : Holds w R l) (n : Nat) : Holds (w.drewN n) R l := h
/-- Another reader's turn leaves it. -/
theorem holds_but {w w' : World} {R R' : Nat} {l : List UInt8} (h : Holds w R l) (hg : But R' w w') {cs : Array Value} {fr : Nat × Nat} (h' : w.heap[R']? = some (.cells cs 50 fr)) (hne : R ≠ R') : Holds w' R l := by
  obtain ⟨v, hR, hd⟩ := h
  refine ⟨v, block_kept hg hR (fun e => hne (by simpa using e)), dataAt_kept hd fun k cs fr hk => block_kept hg hk (fun e => ?_)⟩
  have : k = R' := by simpa using e
  subst this
  rw [h'] at hk; cases hk
theorem took_holds {w w' : World} {R : Nat} {l r : List UInt8} (h : Holds w R l) (ht : Took w w' R r) : Holds w' R r ∧ But R w w' := by
  obtain ⟨n, v, rfl, hd⟩ := ht
  obtain ⟨v0, hR, _⟩ := h
  refine ⟨⟨v, ?_, dataAt_kept hd fun k cs fr hk => ?_⟩, ((But.refl R w).drewN n).setCell v⟩
  · rw [heap_setCell_same (w.drewN n) R 0 #[v0] 50 v hR]; rfl
  · have hne : k ≠ R := by intro e; subst e; rw [hR] at hk; cases hk
    rw [heap_setCell_other _ _ _ _ hne]; exact hk

set_option maxHeartbeats 400000 in
theorem each_any (w : World) (R : Nat) :
    Calls Try.prog 14 #[.pointer (some ⟨R, 0, none⟩)] w fun e w' => e = .returned (.func (.func 19) #[] #[.pointer (some ⟨w.heap.size, 0, none⟩)]) ∧ w.alloc (.cells #[.pointer (some ⟨R, 0, none⟩)] 29) = w' := by
  go_enter Try.func14, Try.ntmps14
  go_wp2
  go_ret
  exact ⟨rfl, rfl⟩

def NextI (w : World) (R : Nat) (l : List UInt8) (W : World) : Prop :=
  canHold (w.heap.size + 1 + 1) R l W ∧ W.heap[w.heap.size]? = some (.cells #[.string ⟨#[]⟩] 9 (0, 0)) ∧ W.heap[w.heap.size + 1]? = some (.cells #[.bool false] 4 (0, 0)) ∧ But R w W
def NextX (w : World) (R : Nat) (l : List UInt8) (W : World) : Prop :=
  ∃ s r, parse l = some (s, r) ∧ Holds W R r ∧ W.heap[w.heap.size]? = some (.cells #[.string ⟨s.toArray⟩] 9 (0, 0)) ∧ W.heap[w.heap.size + 1]? = some (.cells #[.bool true] 4 (0, 0)) ∧ But R w W
theorem nextI_kept {w W W' : World} {R : Nat} {l : List UInt8} (h : NextI w R l W) {row : Option Nat} (hg : W.grownBy W' row) (hr : ∀ r, row = some r → w.heap.size + 3 ≤ r ∧ ∃ o : Obj, W.heap[r]? = some o ∧ o.isCells = false) : NextI w R l W' := by
  obtain ⟨⟨h1, h2, h3⟩, h4, h5, h6⟩ := h
  have hr2 := fun r e => (hr r e).2
  exact ⟨⟨cell_kept h1 hg hr2, holds_kept h2 hg hr2, h3⟩, block_kept hg h4 (cells_ne hr2 h4), block_kept hg h5 (cells_ne hr2 h5), h6.later hg (fun r e => by have := (hr r e).1; omega)⟩
theorem nextX_kept {w W W' : World} {R : Nat} {l : List UInt8} (h : NextX w R l W) {row : Option Nat} (hg : W.grownBy W' row) (hr : ∀ r, row = some r → w.heap.size + 3 ≤ r ∧ ∃ o : Obj, W.heap[r]? = some o ∧ o.isCells = false) : NextX w R l W' := by
  obtain ⟨s, r, h1, h2, h4, h5, h6⟩ := h
  have hr2 := fun r e => (hr r e).2
  exact ⟨s, r, h1, holds_kept h2 hg hr2, block_kept hg h4 (cells_ne hr2 h4), block_kept hg h5 (cells_ne hr2 h5), h6.later hg (fun r e => by have := (hr r e).1; omega)⟩

theorem two_sets {W : World} {n : Nat} {u0 v0 : Value} (u v : Value) (h4 : W.heap[n]? = some (.cells #[u0] 9 (0, 0))) (h5 : W.heap[n + 1]? = some (.cells #[v0] 4 (0, 0))) :
    ((W.setCell ⟨n, 0, none⟩ u).setCell ⟨n + 1, 0, none⟩ v).heap[n]? = some (.cells #[u] 9 (0, 0)) ∧ ((W.setCell ⟨n, 0, none⟩ u).setCell ⟨n + 1, 0, none⟩ v).heap[n + 1]? = some (.cells #[v] 4 (0, 0)) ∧
    (∀ k, k ≠ n → k ≠ n + 1 → ((W.setCell ⟨n, 0, none⟩ u).setCell ⟨n + 1, 0, none⟩ v).heap[k]? = W.heap[k]?) ∧ ((W.setCell ⟨n, 0, none⟩ u).setCell ⟨n + 1, 0, none⟩ v).heap.size = W.heap.size := by
  have a1 := one_setCell (u := u) h4
  have a2 : (W.setCell ⟨n, 0, none⟩ u).heap[n + 1]? = some (.cells #[v0] 4 (0, 0)) := by rw [heap_setCell_other _ _ _ _ (by simp)]; exact h5
  refine ⟨?_, one_setCell a2, fun k h1 h2 => ?_, by simp [World.setCell]⟩
  · rw [heap_setCell_other _ _ _ _ (by simp)]; exact a1
  · rw [heap_setCell_other _ _ _ _ h2, heap_setCell_other _ _ _ _ h1]
theorem holds_two {W W' : World} {R n : Nat} {l : List UInt8} {u0 v0 : Value} (h : Holds W R l) (h4 : W.heap[n]? = some (.cells #[u0] 9 (0, 0))) (h5 : W.heap[n + 1]? = some (.cells #[v0] 4 (0, 0))) (hk : ∀ k, k ≠ n → k ≠ n + 1 → W'.heap[k]? = W.heap[k]?) : Holds W' R l := by
  obtain ⟨v, hR, hd⟩ := h
  have hk' : ∀ (k : Nat) cs t fr, t ≠ 9 → t ≠ 4 → W.heap[k]? = some (Obj.cells cs t fr) → W'.heap[k]? = some (Obj.cells cs t fr) := fun k cs t fr h1 h2 hc => by
    rw [hk k (fun e => by subst e; rw [h4] at hc; cases hc; exact h1 rfl) (fun e => by subst e; rw [h5] at hc; cases hc; exact h2 rfl)]; exact hc
  exact ⟨v, hk' _ _ _ _ (by decide) (by decide) hR, dataAt_kept hd fun k cs fr hc => hk' k cs 5 fr (by decide) (by decide) hc⟩
theorem but_two {w W : World} {R : Nat} (u v : Value) (h : But R w W) : But R w ((W.setCell ⟨w.heap.size, 0, none⟩ u).setCell ⟨w.heap.size + 1, 0, none⟩ v) :=
  (h.later (grownBy_setCell' W w.heap.size u) (fun r e => by cases e; exact Nat.le_refl _)).later (grownBy_setCell' _ (w.heap.size + 1) v) (fun r e => by cases e; omega)
theorem keeps_two {W : World} {B n : Nat} (u v : Value) (h : n + 1 < B) : KeepsFrom B W ((W.setCell ⟨n, 0, none⟩ u).setCell ⟨n + 1, 0, none⟩ v) :=
  (KeepsFrom.of_grownBy (grownBy_setCell' W n u) (fun j e => by cases e; omega)).trans (KeepsFrom.of_grownBy (grownBy_setCell' _ (n + 1) v) (fun j e => by cases e; omega))

/-- What Next leaves. -/
def NextPost (w : World) (R : Nat) (l : List UInt8) (e : Ending) (w' : World) : Prop :=
  (parse l = none ∧ e = .returned (.tuple #[.string ⟨#[]⟩, .bool false]) ∧ Holds w' R l ∧ But R w w') ∨
  ∃ s r, parse l = some (s, r) ∧ e = .returned (.tuple #[.string ⟨s.toArray⟩, .bool true]) ∧ Holds w' R r ∧ But R w w'

set_option maxHeartbeats 800000 in
theorem next_in (w : World) (R : Nat) (l : List UInt8) (h : Holds w R l) (hm : l.length ≤ 1000000) :
    CallsIn Fence.wide 5 Try.prog 12 #[.pointer (some ⟨R, 0, none⟩)] w (NextPost w R l) := by
  have H := Lib.hid h; clear h
  refine callsIn_of_wp_marks Try.func12 rfl trivial ?_ rfl
  simp only [Try.ntmps12, List.size_toArray, List.length_cons, List.length_nil, Nat.reduceAdd, Nat.reduceSub, Array.replicate_succ, Array.replicate_zero, List.push_toArray, List.append_toArray, List.nil_append, List.cons_append]
  gi_wp2_with (refine ⟨trivial, ?_⟩; gi_at_call 14; refine (callsIn_wide.2 (each_any _ _)).mono ?_; rintro e w' ⟨rfl, rfl⟩)
  have hlt : R < w.heap.size := by obtain ⟨v, hR, _⟩ := H.out; exact (Array.getElem?_eq_some_iff.1 hR).1
  refine wpIn_rangeFunc_iter rfl (by omega) (gf := 19) (lb := #[.pointer (some ⟨w.heap.size + 1 + 1, 0, none⟩)]) rfl trivial (enters_of Try.func19 (by kernel_rfl) rfl)
    (each_stops 4 (by omega) (w.heap.size + 1 + 1) R) (fun _ => rfl)
    (fun st W => st = l ∧ NextI w R st W) (fun s r W => parse l = some (s, r) ∧ NextI w R r W) (fun c W => c = .ret ∧ NextX w R l W) (fun W => parse l = none ∧ NextI w R l W) l
    (fun s A B row hs hg hr => ⟨hs.1, nextI_kept hs.2 hg (by simpa using hr)⟩)
    (fun x s A B row hs hg hr => ⟨hs.1, nextI_kept hs.2 hg (by simpa using hr)⟩)
    (fun c A B row hs hg hr => ⟨hs.1, nextX_kept hs.2 hg (by simpa using hr)⟩)
    (fun s A B row hs hg hr => ⟨hs.1, nextI_kept hs.2 hg (by simpa using hr)⟩)
    ?start ?can ?step ?fin
    (fun s => { tmps := #[.pointer (some ⟨R, 0, none⟩), undef, .pointer (some ⟨w.heap.size, 0, none⟩), .pointer (some ⟨w.heap.size + 1, 0, none⟩), .string ⟨s.toArray⟩, .pointer (some ⟨R, 0, none⟩), .func (.func 19) #[] #[.pointer (some ⟨w.heap.size + 1 + 1, 0, none⟩)], .string ⟨s.toArray⟩, undef], defers := [] }) ?assign ?body ?done ?stop
  case start =>
    have h3 : But R w (((w.alloc (Obj.cells #[Value.string ⟨#[]⟩] 9)).alloc (Obj.cells #[Value.bool false] 4)).alloc (Obj.cells #[Value.pointer (some ⟨R, 0, none⟩)] 29)) := (((But.refl R w).alloc _).alloc _).alloc _
    refine ⟨rfl, ⟨?_, holds_alloc (holds_alloc (holds_alloc H.out _) _) _, hm⟩, ?_, ?_, h3⟩
    · rw [World.cell?_alloc_at _ _ _ _ (by simp)]; rfl
    · rw [Below.heap_alloc _ _ _ (by simp; omega), Below.heap_alloc _ _ _ (by simp), heap_alloc_new]
    · rw [Below.heap_alloc _ _ _ (by simp)]
      have := heap_alloc_new (w.alloc (Obj.cells #[Value.string ⟨#[]⟩] 9)) (Obj.cells #[Value.bool false] 4)
      simpa using this
  case can => exact fun st W h => h.2.1
  case step =>
    rintro st x st' W1 W2 ⟨rfl, ⟨c1, c2, c3⟩, c4, c5, c6⟩ ⟨hp, ht⟩
    obtain ⟨h2, hb⟩ := took_holds c2 ht
    have hne : ∀ k, w.heap.size ≤ k → some k ≠ some R := fun k hk e => by cases e; omega
    have hpl := (parse_length hp).1
    refine ⟨⟨hp, ⟨?_, h2, by omega⟩, block_kept hb c4 (hne _ (Nat.le_refl _)), block_kept hb c5 (hne _ (by omega)), c6.trans hb⟩, fun k o hk ho _ => block_kept hb ho (hne k (by simp at hk; omega))⟩
    exact hb.cell c1 (hne _ (by show w.heap.size ≤ w.heap.size + 1 + 1; omega))
  case fin =>
    rintro st W1 W2 ⟨rfl, ⟨c1, c2, c3⟩, c4, c5, c6⟩ ⟨hp, k, rfl⟩
    exact ⟨⟨hp, ⟨c1, c2, c3⟩, c4, c5, c6.drewN k⟩, fun k o hk ho _ => ho⟩
  case assign =>
    intro l x W K hK
    gi_wp2
    exact hK
  case body =>
    rintro l' s r W ⟨hp, ⟨c1, c2, c3⟩, c4, c5, c6⟩
    have k4 := cell_of_one c4
    have k5 := cell_of_one c5
    have f4 := free_of_one c4
    have f5 := free_of_one c5
    have Hx := Lib.hid hp
    have H4 := Lib.hid c4
    have H5 := Lib.hid c5
    have H2 := Lib.hid c2
    have H6 := Lib.hid c6
    clear c1 c2 c3 c4 c5 c6 hp
    gi_wp2
    obtain ⟨b1, b2, b3, b4⟩ := two_sets (.string ⟨s.toArray⟩) (.bool true) H4.out H5.out
    exact ⟨keeps_two _ _ (by simp), rfl, s, r, Hx.out, holds_two H2.out H4.out H5.out b3, b1, b2, but_two _ _ H6.out⟩
  case done =>
    rintro D W hD ⟨hp, ⟨c1, c2, c3⟩, c4, c5, c6⟩ hK
    have k4 := cell_of_one c4
    have k5 := cell_of_one c5
    have f4 := free_of_one c4
    have f5 := free_of_one c5
    have H4 := Lib.hid c4
    have H5 := Lib.hid c5
    have HK := Lib.hid hK
    have hD' : w.heap.size + 3 ≤ D := by simpa using hD
    clear c1 c4 c5 hK hD
    gi_wp2
    obtain ⟨b1, b2, b3, b4⟩ := two_sets (.string ⟨#[]⟩) (.bool false) H4.out H5.out
    have hK' := (b3 D (by omega) (by omega)).trans HK.out
    refine ⟨by simp, .inl ⟨_, _, rfl, run_takeDeferred hK', ?_⟩⟩
    have hno : ∀ r, some D = some r → ∃ o : Obj, ((W.setCell ⟨w.heap.size, 0, none⟩ (.string ⟨#[]⟩)).setCell ⟨w.heap.size + 1, 0, none⟩ (.bool false)).heap[r]? = some o ∧ o.isCells = false := fun r e => by cases e; exact ⟨_, hK', rfl⟩
    have d1 := cell_of_one (block_kept (grownBy_putObj' _ D (.deferred none)) b1 (cells_ne hno b1))
    have d2 := cell_of_one (block_kept (grownBy_putObj' _ D (.deferred none)) b2 (cells_ne hno b2))
    refine ⟨.tuple #[.string ⟨#[]⟩, .bool false], ?_, .inl ⟨hp, rfl, holds_kept (holds_two c2 H4.out H5.out b3) (grownBy_putObj' _ D (.deferred none)) hno, (but_two _ _ c6).later (grownBy_putObj' _ D (.deferred none)) (fun r e => by cases e; omega)⟩⟩
    simp [results, Try.f12, go_sem, d1, d2]
  case stop =>
    rintro D c W hD ⟨rfl, s, r, hp, h2, h4, h5, h6⟩ hK
    have hD' : w.heap.size + 3 ≤ D := by simpa using hD
    have HK := Lib.hid hK
    clear hK hD
    have H4 := Lib.hid h4
    have H5 := Lib.hid h5
    clear h4 h5
    gi_wp2
    refine ⟨by simp, .inl ⟨_, _, rfl, run_takeDeferred HK.out, ?_⟩⟩
    have hno : ∀ r, some D = some r → ∃ o : Obj, W.heap[r]? = some o ∧ o.isCells = false := fun r e => by cases e; exact ⟨_, HK.out, rfl⟩
    have d1 := cell_of_one (block_kept (grownBy_putObj' _ D (.deferred none)) H4.out (cells_ne hno H4.out))
    have d2 := cell_of_one (block_kept (grownBy_putObj' _ D (.deferred none)) H5.out (cells_ne hno H5.out))
    refine ⟨.tuple #[.string ⟨s.toArray⟩, .bool true], ?_, .inr ⟨s, r, hp, rfl, holds_kept h2 (grownBy_putObj' _ D (.deferred none)) hno, h6.later (grownBy_putObj' _ D (.deferred none)) (fun r e => by cases e; omega)⟩⟩
    simp [results, Try.f12, go_sem, d1, d2]
theorem next_any (w : World) (R : Nat) (l : List UInt8) (h : Holds w R l) (hm : l.length ≤ 1000000) :
    Calls Try.prog 12 #[.pointer (some ⟨R, 0, none⟩)] w (NextPost w R l) := callsIn_wide.1 (next_in w R l h hm)
#print axioms next_any
end Go.Proofs.Ytnfabjaabhmjjaa
