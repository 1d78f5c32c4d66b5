/-
  FrameEach: what Each hands out is what Next tells.
-/
import Derived.Test.YtnfabjaabhmjjaaPut
import Derived.Sort.QuietIn
namespace Go.Proofs.Ytnfabjaabhmjjaa
open Go.RowKit Go.Shelf
attribute [local go_sem] Oper.semAt_some
set_option linter.unusedVariables false

theorem wide_call {n : Nat} {P : Program} {f : FuncId} {args : Array Value} {w : World} {R R' : Ending → World → Prop} (h : Calls P f args w R) (hm : ∀ e w', R e w' → R' e w') : Fence.wide.fn f ∧ CallsIn Fence.wide n P f args w R' :=
  ⟨trivial, (callsIn_wide.2 h).mono hm⟩

/-- A reader's turn leaves what is no reader's cell. -/
theorem but_keep {w w' : World} {R : Nat} {l : List UInt8} (h : Holds w R l) (hb : But R w w') {k : Nat} {cs : Array Value} {t : TypeId} {fr : Nat × Nat} (hk : w.heap[k]? = some (.cells cs t fr)) (ht : t ≠ 50) : w'.heap[k]? = some (.cells cs t fr) := by
  obtain ⟨v, hR, _⟩ := h
  refine block_kept hb hk (fun e => ?_)
  have : k = R := by simpa using e
  subst this; rw [hR] at hk; cases hk; exact ht rfl
/-- A reader's turn leaves another reader. -/
theorem but_other {w w' : World} {R R' : Nat} {l l' : List UInt8} (h : Holds w R l) (h' : Holds w R' l') (hb : But R' w w') (hne : R ≠ R') : Holds w' R l := by
  obtain ⟨v, hR, _⟩ := h'
  exact holds_but h hb hR hne
/-- What the law keeps: the result's cell, the two readers, the box of the second. -/
structure Env (n0 A : Nat) (lA lB : List UInt8) (W : World) : Prop where
  res : ∃ v, W.heap[n0]? = some (.cells #[.bool v] 4 (0, 0))
  a : Holds W A lA
  b : Holds W (A + 1) lB
  box : W.heap[A + 1 + 1]? = some (.cells #[.pointer (some ⟨A + 1, 0, none⟩)] 29 (0, 0))
theorem Env.turnA {n0 A : Nat} {lA lB lA' : List UInt8} {W W' : World} (h : Env n0 A lA lB W) (hb : But A W W') (ha : Holds W' A lA') : Env n0 A lA' lB W' :=
  ⟨h.res.imp fun v hv => but_keep h.a hb hv (by decide), ha, but_other h.b h.a hb (by omega), but_keep h.a hb h.box (by decide)⟩
theorem Env.turnB {n0 A : Nat} {lA lB lB' : List UInt8} {W W' : World} (h : Env n0 A lA lB W) (hb : But (A + 1) W W') (h' : Holds W' (A + 1) lB') : Env n0 A lA lB' W' :=
  ⟨h.res.imp fun v hv => but_keep h.b hb hv (by decide), but_other h.a h.b hb (by omega), h', but_keep h.b hb h.box (by decide)⟩
theorem Env.kept {n0 A : Nat} {lA lB : List UInt8} {W W' : World} (h : Env n0 A lA lB W) {row : Option Nat} (hg : W.grownBy W' row) (hr : ∀ r, row = some r → ∃ o : Obj, W.heap[r]? = some o ∧ o.isCells = false) : Env n0 A lA lB W' :=
  ⟨h.res.imp fun v hv => block_kept hg hv (cells_ne hr hv), holds_kept h.a hg hr, holds_kept h.b hg hr, block_kept hg h.box (cells_ne hr h.box)⟩
theorem Env.alloc {n0 A : Nat} {lA lB : List UInt8} {W : World} (h : Env n0 A lA lB W) (o : Obj) : Env n0 A lA lB (W.alloc o) := h.kept (World.grownBy_alloc _ _ none) (fun r e => by cases e)
theorem env_start (n0 : Nat) (W1 : World) (h : W1.heap[n0]? = some (.cells #[.bool false] 4 (0, 0))) :
    Env n0 W1.heap.size [] [] (((W1.alloc (Obj.cells #[Value.slice none 0 0] 50)).alloc (Obj.cells #[Value.slice none 0 0] 50)).alloc (Obj.cells #[Value.pointer (some ⟨W1.heap.size + 1, 0, none⟩)] 29)) where
  res := ⟨false, by
    have hlt := (Array.getElem?_eq_some_iff.1 h).1
    rw [Below.heap_alloc _ _ _ (by simp; omega), Below.heap_alloc _ _ _ (by simp; omega), Below.heap_alloc _ _ _ hlt]; exact h⟩
  a := holds_alloc (holds_alloc (holds_new W1) _) _
  b := by
    have := holds_new (W1.alloc (Obj.cells #[Value.slice none 0 0] 50))
    rw [World.size_alloc] at this
    exact holds_alloc this _
  box := by
    have := World.alloc_heap_new ((W1.alloc (Obj.cells #[Value.slice none 0 0] 50)).alloc (Obj.cells #[Value.slice none 0 0] 50)) (Obj.cells #[Value.pointer (some ⟨W1.heap.size + 1, 0, none⟩)] 29)
    rw [World.size_alloc, World.size_alloc] at this
    exact this

theorem round_call {n : Nat} {P : Program} {f : FuncId} {args : Array Value} {w : World} {R R' : Ending → World → Prop} (l : Nat) (h : Calls P f args w R) (hm : ∀ e w', R e w' → R' e w') : (Fence.wide.inRound l).fn f ∧ CallsIn (Fence.wide.inRound l) n P f args w R' :=
  ⟨trivial, CallsIn.inRound l ((callsIn_wide.2 h).mono hm)⟩
/-- What a round of the law's loop over Each keeps. -/
structure LInv (w : World) (n0 A b8 : Nat) (K : Int) (lA lB : List UInt8) (W : World) : Prop where
  env : Env n0 A lA lB W
  c8 : W.heap[b8]? = some (.cells #[.int .i64 K] 3 (0, 0))
  c9 : ∃ m : Nat, W.heap[b8 + 1]? = some (.cells #[.int .i64 (m : Int)] 3 (0, 0)) ∧ m + lB.length ≤ 1000
  bx : W.heap[b8 + 1 + 1]? = some (.cells #[.pointer (some ⟨A, 0, none⟩)] 29 (0, 0))
  bel : Below w.heap.size w W
theorem LInv.turnA {w : World} {n0 A b8 : Nat} {K : Int} {lA lB lA' : List UInt8} {W W' : World} (h : LInv w n0 A b8 K lA lB W) (hb : But A W W') (ha : Holds W' A lA') (hA : w.heap.size ≤ A) : LInv w n0 A b8 K lA' lB W' :=
  ⟨h.env.turnA hb ha, but_keep h.env.a hb h.c8 (by decide), h.c9.imp fun m hm => ⟨but_keep h.env.a hb hm.1 (by decide), hm.2⟩, but_keep h.env.a hb h.bx (by decide), below_but h.bel hb hA h.bel.size⟩
theorem LInv.turnB {w : World} {n0 A b8 : Nat} {K : Int} {lA lB lB' : List UInt8} {W W' : World} (h : LInv w n0 A b8 K lA lB W) (hb : But (A + 1) W W') (h' : Holds W' (A + 1) lB') (hA : w.heap.size ≤ A) (hl : lB'.length ≤ lB.length) : LInv w n0 A b8 K lA lB' W' :=
  ⟨h.env.turnB hb h', but_keep h.env.b hb h.c8 (by decide), h.c9.imp fun m hm => ⟨but_keep h.env.b hb hm.1 (by decide), by omega⟩, but_keep h.env.b hb h.bx (by decide), below_but h.bel hb (by omega) h.bel.size⟩
theorem LInv.kept {w : World} {n0 A b8 : Nat} {K : Int} {lA lB : List UInt8} {W W' : World} (h : LInv w n0 A b8 K lA lB W) {row : Option Nat} (hg : W.grownBy W' row) (hr : ∀ r, row = some r → w.heap.size ≤ r ∧ ∃ o : Obj, W.heap[r]? = some o ∧ o.isCells = false) : LInv w n0 A b8 K lA lB W' := by
  have hr2 := fun r e => (hr r e).2
  exact ⟨h.env.kept hg hr2, block_kept hg h.c8 (cells_ne hr2 h.c8), h.c9.imp fun m hm => ⟨block_kept hg hm.1 (cells_ne hr2 hm.1), hm.2⟩, block_kept hg h.bx (cells_ne hr2 h.bx), h.bel.grown hg h.bel.size (fun k e => (hr k e).1)⟩
theorem holds_set {W : World} {R b : Nat} {l : List UInt8} {cs : Array Value} {t : TypeId} {fr : Nat × Nat} (h : Holds W R l) (hb : W.heap[b]? = some (.cells cs t fr)) (h5 : t ≠ 5) (h50 : t ≠ 50) (v : Value) : Holds (W.setCell ⟨b, 0, none⟩ v) R l := by
  obtain ⟨u, hR, hd⟩ := h
  have keep : ∀ (k : Nat) cs' t' fr', t ≠ t' → W.heap[k]? = some (Obj.cells cs' t' fr') → (W.setCell ⟨b, 0, none⟩ v).heap[k]? = some (Obj.cells cs' t' fr') := fun k cs' t' fr' ht hk => by
    rw [heap_setCell_other _ _ _ _ (fun e => by have e' : k = b := e; subst e'; rw [hb] at hk; cases hk; exact ht rfl)]; exact hk
  exact ⟨u, keep _ _ _ _ h50 hR, dataAt_kept hd fun k cs' fr' hk => keep k cs' 5 fr' h5 hk⟩
theorem set_keep {W : World} {b k : Nat} {cs cs' : Array Value} {t t' : TypeId} {fr fr' : Nat × Nat} (hb : W.heap[b]? = some (.cells cs t fr)) (hk : W.heap[k]? = some (.cells cs' t' fr')) (ht : t ≠ t') (v : Value) : (W.setCell ⟨b, 0, none⟩ v).heap[k]? = some (.cells cs' t' fr') := by
  rw [heap_setCell_other _ _ _ _ (fun e => by have e' : k = b := e; subst e'; rw [hb] at hk; cases hk; exact ht rfl)]; exact hk
theorem Env.set {n0 A b : Nat} {lA lB : List UInt8} {W : World} {cs : Array Value} {fr : Nat × Nat} (h : Env n0 A lA lB W) (hb : W.heap[b]? = some (.cells cs 3 fr)) (v : Value) : Env n0 A lA lB (W.setCell ⟨b, 0, none⟩ v) :=
  ⟨h.res.imp fun u hu => set_keep hb hu (by decide) v, holds_set h.a hb (by decide) (by decide) v, holds_set h.b hb (by decide) (by decide) v, set_keep hb h.box (by decide) v⟩
theorem linv_count {w : World} {n0 A b8 : Nat} {K : Int} {lA lB : List UInt8} {W : World} (h : LInv w n0 A b8 K lA lB W) {m : Nat} (hm : W.heap[b8 + 1]? = some (.cells #[.int .i64 (m : Int)] 3 (0, 0))) (hl : m + 1 + lB.length ≤ 1000) (hb : w.heap.size ≤ b8) :
    LInv w n0 A b8 K lA lB (W.setCell ⟨b8 + 1, 0, none⟩ (.int .i64 ((m : Int) + 1))) where
  env := h.env.set hm _
  c8 := by rw [heap_setCell_other _ _ _ _ (by simp)]; exact h.c8
  c9 := ⟨m + 1, one_setCell hm, hl⟩
  bx := set_keep hm h.bx (by decide) _
  bel := h.bel.setCell (p := ⟨b8 + 1, 0, none⟩) (by show w.heap.size ≤ b8 + 1; omega) _
theorem linv_start {w : World} {n0 A : Nat} {l : List UInt8} {W : World} (K : Int) (h : Env n0 A l l W) (hb : Below w.heap.size w W) (hl : l.length ≤ 1000) :
    LInv w n0 A W.heap.size K l l (((W.alloc (Obj.cells #[.int .i64 K] 3)).alloc (Obj.cells #[.int .i64 0] 3)).alloc (Obj.cells #[.pointer (some ⟨A, 0, none⟩)] 29)) where
  env := ((h.alloc _).alloc _).alloc _
  c8 := by rw [Below.heap_alloc _ _ _ (by simp; omega), Below.heap_alloc _ _ _ (by simp)]; exact World.alloc_heap_new W _
  c9 := ⟨0, by
    rw [Below.heap_alloc _ _ _ (by simp)]
    have := World.alloc_heap_new (W.alloc (Obj.cells #[.int .i64 K] 3)) (Obj.cells #[.int .i64 0] 3)
    rw [World.size_alloc] at this
    exact this, by omega⟩
  bx := by
    have := World.alloc_heap_new ((W.alloc (Obj.cells #[.int .i64 K] 3)).alloc (Obj.cells #[.int .i64 0] 3)) (Obj.cells #[.pointer (some ⟨A, 0, none⟩)] 29)
    rw [World.size_alloc, World.size_alloc] at this
    exact this
  bel := ((hb.alloc hb.size _).alloc (by have := hb.size; simp; omega) _).alloc (by have := hb.size; simp; omega) _

theorem law_end {w W : World} {D : Nat} {v : Bool} (hv : W.heap[w.heap.size]? = some (.cells #[.bool v] 4 (0, 0))) (hK : W.heap[D]? = some (.deferred (some []))) (hD : w.heap.size ≤ D) (hbel : Below w.heap.size w W) :
    (W.setCell ⟨w.heap.size, 0, none⟩ (.bool true)).heap[D]? = some (.deferred (some [])) ∧ ((W.setCell ⟨w.heap.size, 0, none⟩ (.bool true)).putObj D (.deferred none)).cell? ⟨w.heap.size, 0, none⟩ = some (.bool true) ∧
      Below w.heap.size w ((W.setCell ⟨w.heap.size, 0, none⟩ (.bool true)).putObj D (.deferred none)) := by
  have hne : D ≠ w.heap.size := by intro e; subst e; rw [hv] at hK; cases hK
  have h1 : (W.setCell ⟨w.heap.size, 0, none⟩ (.bool true)).heap[D]? = some (.deferred (some [])) := by rw [heap_setCell_other _ _ _ _ hne]; exact hK
  have h2 := one_setCell (u := .bool true) hv
  have hno : ∀ r, some D = some r → ∃ o : Obj, (W.setCell ⟨w.heap.size, 0, none⟩ (.bool true)).heap[r]? = some o ∧ o.isCells = false := fun r e => by cases e; exact ⟨_, h1, rfl⟩
  refine ⟨h1, cell_of_one (block_kept (grownBy_putObj' _ D (.deferred none)) h2 (cells_ne hno h2)), (hbel.setCell (p := ⟨w.heap.size, 0, none⟩) (Nat.le_refl _) _).grown (grownBy_putObj' _ D (.deferred none)) ?_ (fun k e => by cases e; exact hD)⟩
  have := hbel.size
  simpa [World.setCell] using this
theorem left_quiet {n : Nat} {w : World} {R : Nat} {l : List UInt8} (h : Holds w R l) (a : Nat) : CallsIn Fence.wide n Try.prog 13 #[.pointer (some ⟨R, 0, none⟩)] (w.drewN a) fun e w'' => e = .returned (.int .i64 l.length) ∧ ∃ n, w'' = w.drewN n :=
  (callsIn_wide.2 (left_any (w.drewN a) R l (holds_drewN h a))).mono fun _ _ h => ⟨h.1, a, h.2.symm⟩

set_option maxRecDepth 100000 in
set_option maxHeartbeats 3200000 in
theorem each_law_in (s : ByteArray) (n : Int) (hs : s.size ≤ maxLen) (h1 : -9223372036854775808 ≤ n) (h2 : n ≤ 9223372036854775807) (w : World) :
    CallsIn Fence.wide 8 Try.prog 4 #[.string s, .int .i64 n] w fun e w' => e = .returned (.bool true) ∧ Below w.heap.size w w' := by
  refine callsIn_of_wp_marks Try.func4 rfl trivial ?_ rfl
  simp only [Try.ntmps4, List.size_toArray, List.length_cons, List.length_nil, Nat.reduceAdd, Nat.reduceSub, Array.replicate_succ, Array.replicate_zero, List.push_toArray, List.append_toArray, List.nil_append, List.cons_append]
  gi_wp2_with fail
  refine wide_call (awake_any _) ?_
  rintro e W1 ⟨rfl, hb⟩
  have hr0 : W1.heap[w.heap.size]? = some (.cells #[.bool false] 4 (0, 0)) := by rw [hb.block _ (by simp)]; exact World.alloc_heap_new w _
  have hb1 : Below w.heap.size w W1 := ((Below.refl _ w).alloc (Nat.le_refl _) _).trans (hb.mono (by simp))
  have hsz1 : w.heap.size + 1 ≤ W1.heap.size := by have := hb.size; simpa using this
  have Hr0 := Lib.hid hr0
  have Hb1 := Lib.hid hb1
  clear hr0 hb1 hb
  gi_wp2_with fail
  refine wide_call (short_any s 1000 (by omega) hs _) ?_
  rintro e w2 ⟨rfl, rfl⟩
  have hz := cut_size s 1000
  generalize cut s 1000 = s at hz ⊢
  clear hs
  gi_wp2_with fail
  refine wide_call (new_any _) ?_
  rintro e w2 ⟨rfl, rfl⟩
  gi_wp2_with fail
  refine wide_call (new_any _) ?_
  rintro e w2 ⟨rfl, rfl⟩
  gi_wp2_with fail
  have henv := env_start w.heap.size W1 Hr0.out
  have hbel : Below w.heap.size w (((W1.alloc (Obj.cells #[Value.slice none 0 0] 50)).alloc (Obj.cells #[Value.slice none 0 0] 50)).alloc (Obj.cells #[Value.pointer (some ⟨W1.heap.size + 1, 0, none⟩)] 29)) :=
    ((Hb1.out.alloc Hb1.out.size _).alloc (by simp; omega) _).alloc (by simp; omega) _
  have hws : (((W1.alloc (Obj.cells #[Value.slice none 0 0] 50)).alloc (Obj.cells #[Value.slice none 0 0] 50)).alloc (Obj.cells #[Value.pointer (some ⟨W1.heap.size + 1, 0, none⟩)] 29)).heap.size = W1.heap.size + 3 := by simp
  revert henv hbel hws
  generalize ((W1.alloc (Obj.cells #[Value.slice none 0 0] 50)).alloc (Obj.cells #[Value.slice none 0 0] 50)).alloc (Obj.cells #[Value.pointer (some ⟨W1.heap.size + 1, 0, none⟩)] 29) = W2
  generalize W1.heap.size = A at hsz1 ⊢
  intro henv hbel hws
  clear Hr0 Hb1
  have Henv := Lib.hid henv
  have Hbel := Lib.hid hbel
  have Hws := Lib.hid hws
  clear henv hbel hws
  refine wide_call (feed_any _ A [] s Henv.out.a (by simp; omega)) ?_
  rintro e W3 ⟨rfl, ha, hb⟩
  have Henv3 := Lib.hid (Henv.out.turnA hb ha)
  have Hbel3 := Lib.hid (below_but Hbel.out hb (by omega) Hbel.out.size)
  have Hws3 := Lib.hid (show A + 3 ≤ W3.heap.size from by have := hb.size; have := Hws.out; omega)
  have hbx := cell_of_one Henv3.out.box
  have hfx := free_of_one Henv3.out.box
  clear ha hb Henv Hbel Hws
  gi_wp2_with fail
  clear hbx hfx
  refine wide_call (feed_any _ (A + 1) [] s Henv3.out.b (by simp; omega)) ?_
  rintro e W4 ⟨rfl, h', hb⟩
  have Henv4 := Lib.hid (Henv3.out.turnB hb h')
  have hsz4 : A + 3 ≤ W4.heap.size := by have := hb.size; have := Hws3.out; omega
  have Hbel4 := Lib.hid (below_but Hbel3.out hb (by omega) Hbel3.out.size)
  clear h' hb Henv3 Hbel3 Hws3
  simp only [List.nil_append] at Henv4
  by_cases hn : n.tmod 20 < 0
  · gi_wp2_with fail
    generalize wrap64 (-n.tmod 20) = K
    refine wide_call (each_any _ _) ?_
    rintro e W5 ⟨rfl, rfl⟩
    have hinv := linv_start K Henv4.out Hbel4.out (by show s.data.toList.length ≤ 1000; rw [Array.length_toList]; exact hz)
    have Hinv := Lib.hid hinv
    clear hinv Henv4 Hbel4
    have hsz5 : (((W4.alloc (Obj.cells #[Value.int .i64 K] 3)).alloc (Obj.cells #[Value.int .i64 0] 3)).alloc (Obj.cells #[Value.pointer (some ⟨A, 0, none⟩)] 29)).heap.size = W4.heap.size + 3 := by simp
    gi_wp2_with fail
    refine wpIn_rangeFunc_iter rfl (by omega) (gf := 19) (lb := #[.pointer (some ⟨W4.heap.size + 1 + 1, 0, none⟩)]) rfl trivial (enters_of Try.func19 (by kernel_rfl) rfl)
      (each_stops 7 (by omega) (W4.heap.size + 1 + 1) A) (fun _ => rfl)
      (fun st W => LInv w w.heap.size A W4.heap.size K st st W) (fun t r W => ∃ lf, parse lf = some (t, r) ∧ LInv w w.heap.size A W4.heap.size K r lf W) (fun c W => c = .exit 0 ∧ ∃ lf, LInv w w.heap.size A W4.heap.size K lf lf W) (fun W => ∃ lf, LInv w w.heap.size A W4.heap.size K lf lf W) s.data.toList
      (fun st X Y row hst hg hr => hst.kept hg (fun r e => ⟨by have := (hr r e).1; omega, (hr r e).2⟩))
      (fun x st X Y row hst hg hr => hst.imp fun lf h => ⟨h.1, h.2.kept hg (fun r e => ⟨by have := (hr r e).1; omega, (hr r e).2⟩)⟩)
      (fun c X Y row hst hg hr => ⟨hst.1, hst.2.imp fun lf h => h.kept hg (fun r e => ⟨by have := (hr r e).1; omega, (hr r e).2⟩)⟩)
      (fun u X Y row hst hg hr => hst.imp fun lf h => h.kept hg (fun r e => ⟨by have := (hr r e).1; omega, (hr r e).2⟩))
      Hinv.out ?can ?step ?fin ?a1 ?assign ?body ?done ?stop
    case can =>
      intro st W h
      exact ⟨cell_of_one h.bx, h.env.a, by obtain ⟨m, _, hm⟩ := h.c9; omega⟩
    case step =>
      rintro st x st' Wa Wb hI ⟨hp, ht⟩
      obtain ⟨ha, hb⟩ := took_holds hI.env.a ht
      exact ⟨⟨st, hp, hI.turnA hb ha (by omega)⟩, fun k o hk ho _ => block_kept hb ho (fun e => by cases e; omega)⟩
    case fin =>
      rintro st Wa Wb hI ⟨hp, k, rfl⟩
      exact ⟨⟨st, hI.kept (W' := Wa.drewN k) (row := none) ⟨rfl, rfl, rfl, Nat.le_refl _, fun _ _ _ => rfl⟩ (fun r e => by cases e)⟩, fun k o _ ho _ => ho⟩
    case assign =>
      intro l x W K hK
      gi_wp2
      exact hK
    case body =>
      rintro l' t r W ⟨lf, hp, hI⟩
      have hbx := cell_of_one hI.env.box
      have hpl := (parse_length hp).1
      have HI := Lib.hid hI
      have Hp := Lib.hid hp
      clear hI hp
      gi_wp2_with fail
      refine round_call l' (next_some HI.out.env.b Hp.out (by obtain ⟨m, _, hm⟩ := HI.out.c9; omega)) ?_
      rintro e W' ⟨rfl, h', hb⟩
      have HI' := Lib.hid (HI.out.turnB hb h' (by omega) (by omega))
      obtain ⟨m, hm9, hml⟩ := HI.out.c9
      have hm9' := but_keep HI.out.env.b hb hm9 (by decide)
      have k9 := cell_of_one hm9'
      have f9 := free_of_one hm9'
      have k8 := cell_of_one HI'.out.c8
      have Hm9 := Lib.hid hm9'
      have Hend := Lib.hid (linv_count HI'.out hm9' (by omega) (by omega))
      have Hb := Lib.hid hb
      clear h' hb hm9 hm9' hbx
      have hk1 : KeepsFrom (W4.heap.size + 3) W (W'.setCell ⟨W4.heap.size + 1, 0, none⟩ (.int .i64 ((m : Int) + 1))) :=
        (KeepsFrom.of_grownBy Hb.out (fun j e => by cases e; omega)).trans (KeepsFrom.of_grownBy (grownBy_setCell' _ _ _) (fun j e => by cases e; omega))
      have Hk1 := Lib.hid hk1
      clear hk1
      gi_wp2
      · rw [hsz5]; exact ⟨Hk1.out, rfl, r, Hend.out⟩
      · rw [hsz5]; exact ⟨Hk1.out, Hend.out⟩
    case done =>
      rintro D W hD ⟨lf, hI⟩ hK
      rw [hsz5] at hD
      have HI := Lib.hid hI
      have HK := Lib.hid hK
      clear hI hK
      gi_wp2
      gi_loopw [13] (fun i wr => ∃ j : Nat, j ≤ 600 ∧ i = .int .i64 j ∧ wr.heap[D]? = some (.deferred (some [])) ∧ ∃ lf, LInv w w.heap.size A W4.heap.size K lf lf wr) (fun i _ => 600 - (intOf i).toNat)
      case atStart => exact ⟨0, by omega, rfl, HK.out, lf, HI.out⟩
      case round =>
        obtain ⟨j, hj, rfl, hKr, lf', hIr⟩ := hrel
        have HIr := Lib.hid hIr
        have HKr := Lib.hid hKr
        clear hIr hKr HI HK
        have hlm : lf'.length ≤ 1000000 := by obtain ⟨m, _, hm⟩ := HIr.out.c9; omega
        by_cases hlt : j < 600
        · cases hp : parse lf' with
          | none =>
            have Hp := Lib.hid hp; clear hp
            gi_wp2_with fail
            refine wide_call (next_not HIr.out.env.a Hp.out hlm) ?_
            rintro e Wa ⟨rfl, ha, hb⟩
            have HIa := Lib.hid (HIr.out.turnA hb ha (by omega))
            have HKa := Lib.hid (block_kept hb HKr.out (fun e => by cases e; omega))
            have k7 := cell_of_one HIa.out.env.box
            clear ha hb HIr HKr
            gi_wp2_with fail
            clear k7
            refine wide_call (next_not HIa.out.env.b Hp.out hlm) ?_
            rintro e Wb ⟨rfl, ha, hb⟩
            have HIb := Lib.hid (HIa.out.turnB hb ha (by omega) (Nat.le_refl _))
            have HKb := Lib.hid (block_kept hb HKa.out (fun e => by cases e; omega))
            have k7 := cell_of_one HIb.out.env.box
            obtain ⟨v, hv⟩ := HIb.out.env.res
            have k0 := cell_of_one hv
            have f0 := free_of_one hv
            have Hv := Lib.hid hv
            clear ha hb HIa HKa hv
            gi_wp2_with fail
            refine wpIn_region_quiet_lit rfl (by kernel_rfl) (by kernel_rfl) ?_
            repeat (gi_big_quiet_step (fail))
            refine wpQuietIn_step (fun _ _ _ _ => trivial) (fun K1 hK1 => ?_)
            go_simp
            refine ⟨_, left_quiet HIb.out.env.a, hK1 _ ?_⟩
            clear hK1 K1
            repeat (gi_big_quiet_step (fail))
            refine wpQuietIn_step (fun _ _ _ _ => trivial) (fun K1 hK1 => ?_)
            go_simp
            refine ⟨_, left_quiet HIb.out.env.b, hK1 _ ?_⟩
            clear hK1 K1
            repeat (gi_big_quiet_step (fail))
            refine wpQuietIn_nil ?_
            intro _ hw'
            obtain ⟨nq, hw''⟩ := hw'
            subst hw''
            gi_wp2
            obtain ⟨e1, e2, e3⟩ := law_end (W := Wb.drewN nq) Hv.out HKb.out (by omega) (HIb.out.bel.trans ⟨rfl, rfl, rfl, Nat.le_refl _, fun _ _ => rfl⟩)
            refine ⟨by simp, .inl ⟨_, _, rfl, run_takeDeferred e1, ?_⟩⟩
            refine ⟨.bool true, ?_, rfl, e3⟩
            simp [results, Try.f4, go_sem, e2]
          | some x =>
            obtain ⟨t, r⟩ := x
            have hrl : r.length ≤ lf'.length := by have := (parse_length hp).1; omega
            have Hp := Lib.hid hp; clear hp
            gi_wp2_with fail
            refine wide_call (next_some HIr.out.env.a Hp.out hlm) ?_
            rintro e Wa ⟨rfl, ha, hb⟩
            have HIa := Lib.hid (HIr.out.turnA hb ha (by omega))
            have HKa := Lib.hid (block_kept hb HKr.out (fun e => by cases e; omega))
            have k7 := cell_of_one HIa.out.env.box
            clear ha hb HIr HKr
            gi_wp2_with fail
            clear k7
            refine wide_call (next_some HIa.out.env.b Hp.out hlm) ?_
            rintro e Wb ⟨rfl, ha, hb⟩
            have HIb := Lib.hid (HIa.out.turnB hb ha (by omega) hrl)
            have HKb := Lib.hid (block_kept hb HKa.out (fun e => by cases e; omega))
            have k7 := cell_of_one HIb.out.env.box
            obtain ⟨v, hv⟩ := HIb.out.env.res
            have k0 := cell_of_one hv
            have f0 := free_of_one hv
            have Hv := Lib.hid hv
            clear ha hb HIa HKa hv
            gi_wp2_with fail
            refine wpIn_region_quiet_lit rfl (by kernel_rfl) (by kernel_rfl) ?_
            repeat (gi_big_quiet_step (fail))
            refine wpQuietIn_step (fun _ _ _ _ => trivial) (fun K1 hK1 => ?_)
            go_simp
            refine ⟨_, left_quiet HIb.out.env.a, hK1 _ ?_⟩
            clear hK1 K1
            repeat (gi_big_quiet_step (fail))
            refine wpQuietIn_step (fun _ _ _ _ => trivial) (fun K1 hK1 => ?_)
            go_simp
            refine ⟨_, left_quiet HIb.out.env.b, hK1 _ ?_⟩
            clear hK1 K1
            repeat (gi_big_quiet_step (fail))
            refine wpQuietIn_nil ?_
            intro _ hw'
            obtain ⟨nq, hw''⟩ := hw'
            subst hw''
            clear k0 f0
            gi_wp2
            exact ⟨⟨j + 1, by omega, by go_num, HKb.out, r, HIb.out.kept (W' := Wb.drewN nq) (row := none) ⟨rfl, rfl, rfl, Nat.le_refl _, fun _ _ _ => rfl⟩ (fun r e => by cases e)⟩, by simp [intOf]; omega⟩
        · obtain rfl : j = 600 := by omega
          obtain ⟨v, hv⟩ := HIr.out.env.res
          have k0 := cell_of_one hv
          have f0 := free_of_one hv
          have Hv := Lib.hid hv
          clear hv
          gi_wp2
          obtain ⟨e1, e2, e3⟩ := law_end Hv.out HKr.out (by omega) HIr.out.bel
          refine ⟨by simp, .inl ⟨_, _, rfl, run_takeDeferred e1, ?_⟩⟩
          refine ⟨.bool true, ?_, rfl, e3⟩
          simp [results, Try.f4, go_sem, e2]
    case stop =>
      rintro D c W hD ⟨rfl, lf, hI⟩ hK
      rw [hsz5] at hD
      have HI := Lib.hid hI
      have HK := Lib.hid hK
      clear hI hK
      gi_wp2
      gi_loopw [13] (fun i wr => ∃ j : Nat, j ≤ 600 ∧ i = .int .i64 j ∧ wr.heap[D]? = some (.deferred (some [])) ∧ ∃ lf, LInv w w.heap.size A W4.heap.size K lf lf wr) (fun i _ => 600 - (intOf i).toNat)
      case atStart => exact ⟨0, by omega, rfl, HK.out, lf, HI.out⟩
      case round =>
        obtain ⟨j, hj, rfl, hKr, lf', hIr⟩ := hrel
        have HIr := Lib.hid hIr
        have HKr := Lib.hid hKr
        clear hIr hKr HI HK
        have hlm : lf'.length ≤ 1000000 := by obtain ⟨m, _, hm⟩ := HIr.out.c9; omega
        by_cases hlt : j < 600
        · cases hp : parse lf' with
          | none =>
            have Hp := Lib.hid hp; clear hp
            gi_wp2_with fail
            refine wide_call (next_not HIr.out.env.a Hp.out hlm) ?_
            rintro e Wa ⟨rfl, ha, hb⟩
            have HIa := Lib.hid (HIr.out.turnA hb ha (by omega))
            have HKa := Lib.hid (block_kept hb HKr.out (fun e => by cases e; omega))
            have k7 := cell_of_one HIa.out.env.box
            clear ha hb HIr HKr
            gi_wp2_with fail
            clear k7
            refine wide_call (next_not HIa.out.env.b Hp.out hlm) ?_
            rintro e Wb ⟨rfl, ha, hb⟩
            have HIb := Lib.hid (HIa.out.turnB hb ha (by omega) (Nat.le_refl _))
            have HKb := Lib.hid (block_kept hb HKa.out (fun e => by cases e; omega))
            have k7 := cell_of_one HIb.out.env.box
            obtain ⟨v, hv⟩ := HIb.out.env.res
            have k0 := cell_of_one hv
            have f0 := free_of_one hv
            have Hv := Lib.hid hv
            clear ha hb HIa HKa hv
            gi_wp2_with fail
            refine wpIn_region_quiet_lit rfl (by kernel_rfl) (by kernel_rfl) ?_
            repeat (gi_big_quiet_step (fail))
            refine wpQuietIn_step (fun _ _ _ _ => trivial) (fun K1 hK1 => ?_)
            go_simp
            refine ⟨_, left_quiet HIb.out.env.a, hK1 _ ?_⟩
            clear hK1 K1
            repeat (gi_big_quiet_step (fail))
            refine wpQuietIn_step (fun _ _ _ _ => trivial) (fun K1 hK1 => ?_)
            go_simp
            refine ⟨_, left_quiet HIb.out.env.b, hK1 _ ?_⟩
            clear hK1 K1
            repeat (gi_big_quiet_step (fail))
            refine wpQuietIn_nil ?_
            intro _ hw'
            obtain ⟨nq, hw''⟩ := hw'
            subst hw''
            gi_wp2
            obtain ⟨e1, e2, e3⟩ := law_end (W := Wb.drewN nq) Hv.out HKb.out (by omega) (HIb.out.bel.trans ⟨rfl, rfl, rfl, Nat.le_refl _, fun _ _ => rfl⟩)
            refine ⟨by simp, .inl ⟨_, _, rfl, run_takeDeferred e1, ?_⟩⟩
            refine ⟨.bool true, ?_, rfl, e3⟩
            simp [results, Try.f4, go_sem, e2]
          | some x =>
            obtain ⟨t, r⟩ := x
            have hrl : r.length ≤ lf'.length := by have := (parse_length hp).1; omega
            have Hp := Lib.hid hp; clear hp
            gi_wp2_with fail
            refine wide_call (next_some HIr.out.env.a Hp.out hlm) ?_
            rintro e Wa ⟨rfl, ha, hb⟩
            have HIa := Lib.hid (HIr.out.turnA hb ha (by omega))
            have HKa := Lib.hid (block_kept hb HKr.out (fun e => by cases e; omega))
            have k7 := cell_of_one HIa.out.env.box
            clear ha hb HIr HKr
            gi_wp2_with fail
            clear k7
            refine wide_call (next_some HIa.out.env.b Hp.out hlm) ?_
            rintro e Wb ⟨rfl, ha, hb⟩
            have HIb := Lib.hid (HIa.out.turnB hb ha (by omega) hrl)
            have HKb := Lib.hid (block_kept hb HKa.out (fun e => by cases e; omega))
            have k7 := cell_of_one HIb.out.env.box
            obtain ⟨v, hv⟩ := HIb.out.env.res
            have k0 := cell_of_one hv
            have f0 := free_of_one hv
            have Hv := Lib.hid hv
            clear ha hb HIa HKa hv
            gi_wp2_with fail
            refine wpIn_region_quiet_lit rfl (by kernel_rfl) (by kernel_rfl) ?_
            repeat (gi_big_quiet_step (fail))
            refine wpQuietIn_step (fun _ _ _ _ => trivial) (fun K1 hK1 => ?_)
            go_simp
            refine ⟨_, left_quiet HIb.out.env.a, hK1 _ ?_⟩
            clear hK1 K1
            repeat (gi_big_quiet_step (fail))
            refine wpQuietIn_step (fun _ _ _ _ => trivial) (fun K1 hK1 => ?_)
            go_simp
            refine ⟨_, left_quiet HIb.out.env.b, hK1 _ ?_⟩
            clear hK1 K1
            repeat (gi_big_quiet_step (fail))
            refine wpQuietIn_nil ?_
            intro _ hw'
            obtain ⟨nq, hw''⟩ := hw'
            subst hw''
            clear k0 f0
            gi_wp2
            exact ⟨⟨j + 1, by omega, by go_num, HKb.out, r, HIb.out.kept (W' := Wb.drewN nq) (row := none) ⟨rfl, rfl, rfl, Nat.le_refl _, fun _ _ _ => rfl⟩ (fun r e => by cases e)⟩, by simp [intOf]; omega⟩
        · obtain rfl : j = 600 := by omega
          obtain ⟨v, hv⟩ := HIr.out.env.res
          have k0 := cell_of_one hv
          have f0 := free_of_one hv
          have Hv := Lib.hid hv
          clear hv
          gi_wp2
          obtain ⟨e1, e2, e3⟩ := law_end Hv.out HKr.out (by omega) HIr.out.bel
          refine ⟨by simp, .inl ⟨_, _, rfl, run_takeDeferred e1, ?_⟩⟩
          refine ⟨.bool true, ?_, rfl, e3⟩
          simp [results, Try.f4, go_sem, e2]
  · gi_wp2_with fail
    generalize n.tmod 20 = K at *
    refine wide_call (each_any _ _) ?_
    rintro e W5 ⟨rfl, rfl⟩
    have hinv := linv_start K Henv4.out Hbel4.out (by show s.data.toList.length ≤ 1000; rw [Array.length_toList]; exact hz)
    have Hinv := Lib.hid hinv
    clear hinv Henv4 Hbel4
    have hsz5 : (((W4.alloc (Obj.cells #[Value.int .i64 K] 3)).alloc (Obj.cells #[Value.int .i64 0] 3)).alloc (Obj.cells #[Value.pointer (some ⟨A, 0, none⟩)] 29)).heap.size = W4.heap.size + 3 := by simp
    gi_wp2_with fail
    refine wpIn_rangeFunc_iter rfl (by omega) (gf := 19) (lb := #[.pointer (some ⟨W4.heap.size + 1 + 1, 0, none⟩)]) rfl trivial (enters_of Try.func19 (by kernel_rfl) rfl)
      (each_stops 7 (by omega) (W4.heap.size + 1 + 1) A) (fun _ => rfl)
      (fun st W => LInv w w.heap.size A W4.heap.size K st st W) (fun t r W => ∃ lf, parse lf = some (t, r) ∧ LInv w w.heap.size A W4.heap.size K r lf W) (fun c W => c = .exit 0 ∧ ∃ lf, LInv w w.heap.size A W4.heap.size K lf lf W) (fun W => ∃ lf, LInv w w.heap.size A W4.heap.size K lf lf W) s.data.toList
      (fun st X Y row hst hg hr => hst.kept hg (fun r e => ⟨by have := (hr r e).1; omega, (hr r e).2⟩))
      (fun x st X Y row hst hg hr => hst.imp fun lf h => ⟨h.1, h.2.kept hg (fun r e => ⟨by have := (hr r e).1; omega, (hr r e).2⟩)⟩)
      (fun c X Y row hst hg hr => ⟨hst.1, hst.2.imp fun lf h => h.kept hg (fun r e => ⟨by have := (hr r e).1; omega, (hr r e).2⟩)⟩)
      (fun u X Y row hst hg hr => hst.imp fun lf h => h.kept hg (fun r e => ⟨by have := (hr r e).1; omega, (hr r e).2⟩))
      Hinv.out ?can2 ?step2 ?fin2 ?a12 ?assign2 ?body2 ?done2 ?stop2
    case can2 =>
      intro st W h
      exact ⟨cell_of_one h.bx, h.env.a, by obtain ⟨m, _, hm⟩ := h.c9; omega⟩
    case step2 =>
      rintro st x st' Wa Wb hI ⟨hp, ht⟩
      obtain ⟨ha, hb⟩ := took_holds hI.env.a ht
      exact ⟨⟨st, hp, hI.turnA hb ha (by omega)⟩, fun k o hk ho _ => block_kept hb ho (fun e => by cases e; omega)⟩
    case fin2 =>
      rintro st Wa Wb hI ⟨hp, k, rfl⟩
      exact ⟨⟨st, hI.kept (W' := Wa.drewN k) (row := none) ⟨rfl, rfl, rfl, Nat.le_refl _, fun _ _ _ => rfl⟩ (fun r e => by cases e)⟩, fun k o _ ho _ => ho⟩
    case assign2 =>
      intro l x W K hK
      gi_wp2
      exact hK
    case body2 =>
      rintro l' t r W ⟨lf, hp, hI⟩
      have hbx := cell_of_one hI.env.box
      have hpl := (parse_length hp).1
      have HI := Lib.hid hI
      have Hp := Lib.hid hp
      clear hI hp
      gi_wp2_with fail
      refine round_call l' (next_some HI.out.env.b Hp.out (by obtain ⟨m, _, hm⟩ := HI.out.c9; omega)) ?_
      rintro e W' ⟨rfl, h', hb⟩
      have HI' := Lib.hid (HI.out.turnB hb h' (by omega) (by omega))
      obtain ⟨m, hm9, hml⟩ := HI.out.c9
      have hm9' := but_keep HI.out.env.b hb hm9 (by decide)
      have k9 := cell_of_one hm9'
      have f9 := free_of_one hm9'
      have k8 := cell_of_one HI'.out.c8
      have Hm9 := Lib.hid hm9'
      have Hend := Lib.hid (linv_count HI'.out hm9' (by omega) (by omega))
      have Hb := Lib.hid hb
      clear h' hb hm9 hm9' hbx
      have hk1 : KeepsFrom (W4.heap.size + 3) W (W'.setCell ⟨W4.heap.size + 1, 0, none⟩ (.int .i64 ((m : Int) + 1))) :=
        (KeepsFrom.of_grownBy Hb.out (fun j e => by cases e; omega)).trans (KeepsFrom.of_grownBy (grownBy_setCell' _ _ _) (fun j e => by cases e; omega))
      have Hk1 := Lib.hid hk1
      clear hk1
      gi_wp2
      · rw [hsz5]; exact ⟨Hk1.out, rfl, r, Hend.out⟩
      · rw [hsz5]; exact ⟨Hk1.out, Hend.out⟩
    case done2 =>
      rintro D W hD ⟨lf, hI⟩ hK
      rw [hsz5] at hD
      have HI := Lib.hid hI
      have HK := Lib.hid hK
      clear hI hK
      gi_wp2
      gi_loopw [13] (fun i wr => ∃ j : Nat, j ≤ 600 ∧ i = .int .i64 j ∧ wr.heap[D]? = some (.deferred (some [])) ∧ ∃ lf, LInv w w.heap.size A W4.heap.size K lf lf wr) (fun i _ => 600 - (intOf i).toNat)
      case atStart => exact ⟨0, by omega, rfl, HK.out, lf, HI.out⟩
      case round =>
        obtain ⟨j, hj, rfl, hKr, lf', hIr⟩ := hrel
        have HIr := Lib.hid hIr
        have HKr := Lib.hid hKr
        clear hIr hKr HI HK
        have hlm : lf'.length ≤ 1000000 := by obtain ⟨m, _, hm⟩ := HIr.out.c9; omega
        by_cases hlt : j < 600
        · cases hp : parse lf' with
          | none =>
            have Hp := Lib.hid hp; clear hp
            gi_wp2_with fail
            refine wide_call (next_not HIr.out.env.a Hp.out hlm) ?_
            rintro e Wa ⟨rfl, ha, hb⟩
            have HIa := Lib.hid (HIr.out.turnA hb ha (by omega))
            have HKa := Lib.hid (block_kept hb HKr.out (fun e => by cases e; omega))
            have k7 := cell_of_one HIa.out.env.box
            clear ha hb HIr HKr
            gi_wp2_with fail
            clear k7
            refine wide_call (next_not HIa.out.env.b Hp.out hlm) ?_
            rintro e Wb ⟨rfl, ha, hb⟩
            have HIb := Lib.hid (HIa.out.turnB hb ha (by omega) (Nat.le_refl _))
            have HKb := Lib.hid (block_kept hb HKa.out (fun e => by cases e; omega))
            have k7 := cell_of_one HIb.out.env.box
            obtain ⟨v, hv⟩ := HIb.out.env.res
            have k0 := cell_of_one hv
            have f0 := free_of_one hv
            have Hv := Lib.hid hv
            clear ha hb HIa HKa hv
            gi_wp2_with fail
            refine wpIn_region_quiet_lit rfl (by kernel_rfl) (by kernel_rfl) ?_
            repeat (gi_big_quiet_step (fail))
            refine wpQuietIn_step (fun _ _ _ _ => trivial) (fun K1 hK1 => ?_)
            go_simp
            refine ⟨_, left_quiet HIb.out.env.a, hK1 _ ?_⟩
            clear hK1 K1
            repeat (gi_big_quiet_step (fail))
            refine wpQuietIn_step (fun _ _ _ _ => trivial) (fun K1 hK1 => ?_)
            go_simp
            refine ⟨_, left_quiet HIb.out.env.b, hK1 _ ?_⟩
            clear hK1 K1
            repeat (gi_big_quiet_step (fail))
            refine wpQuietIn_nil ?_
            intro _ hw'
            obtain ⟨nq, hw''⟩ := hw'
            subst hw''
            gi_wp2
            obtain ⟨e1, e2, e3⟩ := law_end (W := Wb.drewN nq) Hv.out HKb.out (by omega) (HIb.out.bel.trans ⟨rfl, rfl, rfl, Nat.le_refl _, fun _ _ => rfl⟩)
            refine ⟨by simp, .inl ⟨_, _, rfl, run_takeDeferred e1, ?_⟩⟩
            refine ⟨.bool true, ?_, rfl, e3⟩
            simp [results, Try.f4, go_sem, e2]
          | some x =>
            obtain ⟨t, r⟩ := x
            have hrl : r.length ≤ lf'.length := by have := (parse_length hp).1; omega
            have Hp := Lib.hid hp; clear hp
            gi_wp2_with fail
            refine wide_call (next_some HIr.out.env.a Hp.out hlm) ?_
            rintro e Wa ⟨rfl, ha, hb⟩
            have HIa := Lib.hid (HIr.out.turnA hb ha (by omega))
            have HKa := Lib.hid (block_kept hb HKr.out (fun e => by cases e; omega))
            have k7 := cell_of_one HIa.out.env.box
            clear ha hb HIr HKr
            gi_wp2_with fail
            clear k7
            refine wide_call (next_some HIa.out.env.b Hp.out hlm) ?_
            rintro e Wb ⟨rfl, ha, hb⟩
            have HIb := Lib.hid (HIa.out.turnB hb ha (by omega) hrl)
            have HKb := Lib.hid (block_kept hb HKa.out (fun e => by cases e; omega))
            have k7 := cell_of_one HIb.out.env.box
            obtain ⟨v, hv⟩ := HIb.out.env.res
            have k0 := cell_of_one hv
            have f0 := free_of_one hv
            have Hv := Lib.hid hv
            clear ha hb HIa HKa hv
            gi_wp2_with fail
            refine wpIn_region_quiet_lit rfl (by kernel_rfl) (by kernel_rfl) ?_
            repeat (gi_big_quiet_step (fail))
            refine wpQuietIn_step (fun _ _ _ _ => trivial) (fun K1 hK1 => ?_)
            go_simp
            refine ⟨_, left_quiet HIb.out.env.a, hK1 _ ?_⟩
            clear hK1 K1
            repeat (gi_big_quiet_step (fail))
            refine wpQuietIn_step (fun _ _ _ _ => trivial) (fun K1 hK1 => ?_)
            go_simp
            refine ⟨_, left_quiet HIb.out.env.b, hK1 _ ?_⟩
            clear hK1 K1
            repeat (gi_big_quiet_step (fail))
            refine wpQuietIn_nil ?_
            intro _ hw'
            obtain ⟨nq, hw''⟩ := hw'
            subst hw''
            clear k0 f0
            gi_wp2
            exact ⟨⟨j + 1, by omega, by go_num, HKb.out, r, HIb.out.kept (W' := Wb.drewN nq) (row := none) ⟨rfl, rfl, rfl, Nat.le_refl _, fun _ _ _ => rfl⟩ (fun r e => by cases e)⟩, by simp [intOf]; omega⟩
        · obtain rfl : j = 600 := by omega
          obtain ⟨v, hv⟩ := HIr.out.env.res
          have k0 := cell_of_one hv
          have f0 := free_of_one hv
          have Hv := Lib.hid hv
          clear hv
          gi_wp2
          obtain ⟨e1, e2, e3⟩ := law_end Hv.out HKr.out (by omega) HIr.out.bel
          refine ⟨by simp, .inl ⟨_, _, rfl, run_takeDeferred e1, ?_⟩⟩
          refine ⟨.bool true, ?_, rfl, e3⟩
          simp [results, Try.f4, go_sem, e2]
    case stop2 =>
      rintro D c W hD ⟨rfl, lf, hI⟩ hK
      rw [hsz5] at hD
      have HI := Lib.hid hI
      have HK := Lib.hid hK
      clear hI hK
      gi_wp2
      gi_loopw [13] (fun i wr => ∃ j : Nat, j ≤ 600 ∧ i = .int .i64 j ∧ wr.heap[D]? = some (.deferred (some [])) ∧ ∃ lf, LInv w w.heap.size A W4.heap.size K lf lf wr) (fun i _ => 600 - (intOf i).toNat)
      case atStart => exact ⟨0, by omega, rfl, HK.out, lf, HI.out⟩
      case round =>
        obtain ⟨j, hj, rfl, hKr, lf', hIr⟩ := hrel
        have HIr := Lib.hid hIr
        have HKr := Lib.hid hKr
        clear hIr hKr HI HK
        have hlm : lf'.length ≤ 1000000 := by obtain ⟨m, _, hm⟩ := HIr.out.c9; omega
        by_cases hlt : j < 600
        · cases hp : parse lf' with
          | none =>
            have Hp := Lib.hid hp; clear hp
            gi_wp2_with fail
            refine wide_call (next_not HIr.out.env.a Hp.out hlm) ?_
            rintro e Wa ⟨rfl, ha, hb⟩
            have HIa := Lib.hid (HIr.out.turnA hb ha (by omega))
            have HKa := Lib.hid (block_kept hb HKr.out (fun e => by cases e; omega))
            have k7 := cell_of_one HIa.out.env.box
            clear ha hb HIr HKr
            gi_wp2_with fail
            clear k7
            refine wide_call (next_not HIa.out.env.b Hp.out hlm) ?_
            rintro e Wb ⟨rfl, ha, hb⟩
            have HIb := Lib.hid (HIa.out.turnB hb ha (by omega) (Nat.le_refl _))
            have HKb := Lib.hid (block_kept hb HKa.out (fun e => by cases e; omega))
            have k7 := cell_of_one HIb.out.env.box
            obtain ⟨v, hv⟩ := HIb.out.env.res
            have k0 := cell_of_one hv
            have f0 := free_of_one hv
            have Hv := Lib.hid hv
            clear ha hb HIa HKa hv
            gi_wp2_with fail
            refine wpIn_region_quiet_lit rfl (by kernel_rfl) (by kernel_rfl) ?_
            repeat (gi_big_quiet_step (fail))
            refine wpQuietIn_step (fun _ _ _ _ => trivial) (fun K1 hK1 => ?_)
            go_simp
            refine ⟨_, left_quiet HIb.out.env.a, hK1 _ ?_⟩
            clear hK1 K1
            repeat (gi_big_quiet_step (fail))
            refine wpQuietIn_step (fun _ _ _ _ => trivial) (fun K1 hK1 => ?_)
            go_simp
            refine ⟨_, left_quiet HIb.out.env.b, hK1 _ ?_⟩
            clear hK1 K1
            repeat (gi_big_quiet_step (fail))
            refine wpQuietIn_nil ?_
            intro _ hw'
            obtain ⟨nq, hw''⟩ := hw'
            subst hw''
            gi_wp2
            obtain ⟨e1, e2, e3⟩ := law_end (W := Wb.drewN nq) Hv.out HKb.out (by omega) (HIb.out.bel.trans ⟨rfl, rfl, rfl, Nat.le_refl _, fun _ _ => rfl⟩)
            refine ⟨by simp, .inl ⟨_, _, rfl, run_takeDeferred e1, ?_⟩⟩
            refine ⟨.bool true, ?_, rfl, e3⟩
            simp [results, Try.f4, go_sem, e2]
          | some x =>
            obtain ⟨t, r⟩ := x
            have hrl : r.length ≤ lf'.length := by have := (parse_length hp).1; omega
            have Hp := Lib.hid hp; clear hp
            gi_wp2_with fail
            refine wide_call (next_some HIr.out.env.a Hp.out hlm) ?_
            rintro e Wa ⟨rfl, ha, hb⟩
            have HIa := Lib.hid (HIr.out.turnA hb ha (by omega))
            have HKa := Lib.hid (block_kept hb HKr.out (fun e => by cases e; omega))
            have k7 := cell_of_one HIa.out.env.box
            clear ha hb HIr HKr
            gi_wp2_with fail
            clear k7
            refine wide_call (next_some HIa.out.env.b Hp.out hlm) ?_
            rintro e Wb ⟨rfl, ha, hb⟩
            have HIb := Lib.hid (HIa.out.turnB hb ha (by omega) hrl)
            have HKb := Lib.hid (block_kept hb HKa.out (fun e => by cases e; omega))
            have k7 := cell_of_one HIb.out.env.box
            obtain ⟨v, hv⟩ := HIb.out.env.res
            have k0 := cell_of_one hv
            have f0 := free_of_one hv
            have Hv := Lib.hid hv
            clear ha hb HIa HKa hv
            gi_wp2_with fail
            refine wpIn_region_quiet_lit rfl (by kernel_rfl) (by kernel_rfl) ?_
            repeat (gi_big_quiet_step (fail))
            refine wpQuietIn_step (fun _ _ _ _ => trivial) (fun K1 hK1 => ?_)
            go_simp
            refine ⟨_, left_quiet HIb.out.env.a, hK1 _ ?_⟩
            clear hK1 K1
            repeat (gi_big_quiet_step (fail))
            refine wpQuietIn_step (fun _ _ _ _ => trivial) (fun K1 hK1 => ?_)
            go_simp
            refine ⟨_, left_quiet HIb.out.env.b, hK1 _ ?_⟩
            clear hK1 K1
            repeat (gi_big_quiet_step (fail))
            refine wpQuietIn_nil ?_
            intro _ hw'
            obtain ⟨nq, hw''⟩ := hw'
            subst hw''
            clear k0 f0
            gi_wp2
            exact ⟨⟨j + 1, by omega, by go_num, HKb.out, r, HIb.out.kept (W' := Wb.drewN nq) (row := none) ⟨rfl, rfl, rfl, Nat.le_refl _, fun _ _ _ => rfl⟩ (fun r e => by cases e)⟩, by simp [intOf]; omega⟩
        · obtain rfl : j = 600 := by omega
          obtain ⟨v, hv⟩ := HIr.out.env.res
          have k0 := cell_of_one hv
          have f0 := free_of_one hv
          have Hv := Lib.hid hv
          clear hv
          gi_wp2
          obtain ⟨e1, e2, e3⟩ := law_end Hv.out HKr.out (by omega) HIr.out.bel
          refine ⟨by simp, .inl ⟨_, _, rfl, run_takeDeferred e1, ?_⟩⟩
          refine ⟨.bool true, ?_, rfl, e3⟩
          simp [results, Try.f4, go_sem, e2]
theorem i64_of_wf {a : Int} (h : (Lit.int .i64 a).wf = true) : -9223372036854775808 ≤ a ∧ a ≤ 9223372036854775807 := by
  simp [Lit.wf, IntKind.min, IntKind.max, IntKind.bits, IntKind.signed] at h
  omega
theorem each_law (s : ByteArray) (n : Int) (hs : s.size ≤ maxLen) (h1 : -9223372036854775808 ≤ n) (h2 : n ≤ 9223372036854775807) (w : World) :
    Calls Try.prog 4 #[.string s, .int .i64 n] w fun e w' => e = .returned (.bool true) ∧ Below w.heap.size w w' := callsIn_wide.1 (each_law_in s n hs h1 h2 w)
#print axioms each_law
end Go.Proofs.Ytnfabjaabhmjjaa
