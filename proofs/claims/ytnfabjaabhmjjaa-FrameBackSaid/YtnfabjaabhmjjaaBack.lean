/-
  FrameBack: however the bytes are cut and fed, the texts are told, in order.
-/
import Derived.Test.YtnfabjaabhmjjaaPlays
import Derived.Test.YtnfabjaabhmjjaaCuts
import Derived.Lib.SmallJoins
namespace Go.Proofs.Ytnfabjaabhmjjaa
open Go.RowKit
set_option linter.unusedVariables false

theorem info9 : (Try.prog.info? 9).map (fun i => (i.zero, i.size, i.bytes)) = some (some (.string ⟨#[]⟩), 1, 16) := by kernel_rfl
theorem info3 : (Try.prog.info? 3).map (fun i => (i.zero, i.size, i.bytes)) = some (some (.int .i64 0), 1, 8) := by kernel_rfl

/-- The texts, shortened. -/
def TB (T : Nat → ByteArray) (k : Nat) : List ByteArray := (List.range k).map fun i => cut (T i) 300
def TL (T : Nat → ByteArray) (k : Nat) : List (List UInt8) := (TB T k).map (·.data.toList)
theorem TB_succ (T : Nat → ByteArray) (k : Nat) : TB T (k + 1) = TB T k ++ [cut (T k) 300] := by simp [TB, List.range_succ]
theorem TL_succ (T : Nat → ByteArray) (k : Nat) : TL T (k + 1) = TL T k ++ [(cut (T k) 300).data.toList] := by simp [TL, TB_succ]
theorem TL_length (T : Nat → ByteArray) (k : Nat) : (TL T k).length = k := by simp [TL, TB]
theorem TL_get (T : Nat → ByteArray) (k i : Nat) (h : i < k) : (TL T k)[i]? = some (cut (T i) 300).data.toList := by simp [TL, TB, h]
theorem TL_le (T : Nat → ByteArray) (k : Nat) : ∀ t ∈ TL T k, t.length ≤ 300 := by
  intro t ht
  simp only [TL, TB, List.mem_map, List.mem_range] at ht
  obtain ⟨_, ⟨i, _, rfl⟩, rfl⟩ := ht
  rw [Array.length_toList]; exact cut_size _ _
theorem Fl_le (T : Nat → ByteArray) (k : Nat) : (Fl (TL T k)).length ≤ 302 * k := by
  induction k with
  | zero => simp [TL, TB, Fl]
  | succ k ih =>
    have h1 : (enc (cut (T k) 300).data.toList).length ≤ 302 := by
      rw [enc_length, Array.length_toList]
      exact Nat.add_le_add_right (cut_size (T k) 300) 2
    rw [TL_succ, Fl_snoc, List.length_append]
    omega
def allText (T : Nat → ByteArray) (k : Nat) : ByteArray := ⟨(Fl (TL T k)).toArray⟩
theorem allText_succ (T : Nat → ByteArray) (k : Nat) : allText T k ++ encS (cut (T k) 300) = allText T (k + 1) := by
  apply ba_eq
  rw [ByteArray.data_append, Array.toList_append, encS_list]
  simp only [allText]
  rw [TL_succ, Fl_snoc]
theorem allText_size (T : Nat → ByteArray) (k : Nat) : (allText T k).size = (Fl (TL T k)).length := by
  show (Fl (TL T k)).toArray.size = _; simp

/-- Where each text ends. -/
def EL (T : Nat → ByteArray) (k : Nat) : List Value := (List.range k).map fun i => .int .i64 ((allText T (i + 1)).size : Int)
def LL (T : Nat → ByteArray) (k : Nat) : List Value := (TB T k).map Value.string
theorem LL_length (T : Nat → ByteArray) (k : Nat) : (LL T k).length = k := by simp [LL, TB]
theorem EL_length (T : Nat → ByteArray) (k : Nat) : (EL T k).length = k := by simp [EL]
theorem LL_succ (T : Nat → ByteArray) (k : Nat) : LL T (k + 1) = LL T k ++ [.string (cut (T k) 300)] := by simp [LL, TB_succ]
theorem EL_succ (T : Nat → ByteArray) (k : Nat) : EL T (k + 1) = EL T k ++ [.int .i64 ((allText T (k + 1)).size : Int)] := by simp [EL, List.range_succ]
theorem own_other {w w' : World} {base e e' n n' : Nat} {v v' : Value} {xs xs' : List Value} (h : w.ownsRow base e 1 v n xs) (h' : w.ownsRow base e' 1 v' n' xs') (hne : e ≠ e') (hg : w.grownBy w' v'.ownBlock) : w'.ownsRow base e 1 v n xs := by
  refine h.kept hg ?_
  rcases h.2 with ⟨rfl, _⟩ | ⟨g, cap, cur, rfl, _, hh, _⟩
  · exact .inl rfl
  · right
    rcases h'.2 with ⟨rfl, _⟩ | ⟨g', cap', cur', rfl, _, hh', _⟩
    · simp [Value.ownBlock]
    · intro e
      simp only [Value.ownBlock, Option.some.injEq] at e
      subst e
      rw [hh] at hh'
      cases hh'
      exact hne rfl
/-- What loop 1 keeps. -/
structure Made (w : World) (T : Nat → ByteArray) (k : Nat) (lv ev : Value) (wr : World) : Prop where
  l : wr.ownsRow w.heap.size 9 1 lv k (LL T k)
  e : wr.ownsRow w.heap.size 3 1 ev k (EL T k)
  bel : Below w.heap.size w wr

/-- The same in the middle of a round: the texts are one ahead. -/
structure Made1 (w : World) (T : Nat → ByteArray) (k : Nat) (lv ev : Value) (wr : World) : Prop where
  l : wr.ownsRow w.heap.size 9 1 lv (k + 1) (LL T (k + 1))
  e : wr.ownsRow w.heap.size 3 1 ev k (EL T k)
  bel : Below w.heap.size w wr
theorem own_later {w w' : World} {base e n : Nat} {v : Value} {xs : List Value} (h : w.ownsRow base e 1 v n xs) (hb : Below w.heap.size w w') : w'.ownsRow base e 1 v n xs :=
  h.kept (row := none) ⟨hb.os, hb.tape, hb.output, hb.size, fun k hk _ => hb.block k hk⟩ (by cases v.ownBlock <;> simp)
theorem Made1.later {w : World} {T : Nat → ByteArray} {k : Nat} {lv ev : Value} {wr wr' : World} (h : Made1 w T k lv ev wr) (hb : Below wr.heap.size wr wr') : Made1 w T k lv ev wr' :=
  ⟨own_later h.l hb, own_later h.e hb, h.bel.trans (hb.mono h.bel.size)⟩


/-- What loop 2 keeps: so many told, so many bytes fed. -/
structure Told (w : World) (T : Nat → ByteArray) (m : Nat) (lv ev : Value) (R at' told : Nat) (wr : World) : Prop where
  l : wr.ownsRow w.heap.size 9 1 lv m (LL T m)
  e : wr.ownsRow w.heap.size 3 1 ev m (EL T m)
  h : Holds wr R (Dt (TL T m) told at')
  hR : w.heap.size ≤ R
  bel : Below w.heap.size w wr
theorem own_but {w w' : World} {base e n R : Nat} {v : Value} {xs : List Value} {cs : Array Value} {fr : Nat × Nat} (h : w.ownsRow base e 1 v n xs) (hb : But R w w') (hR : w.heap[R]? = some (.cells cs 50 fr)) (hne : e ≠ 50) : w'.ownsRow base e 1 v n xs := by
  refine h.kept hb ?_
  rcases h.2 with ⟨rfl, _⟩ | ⟨g, cap, cur, rfl, _, hh, _⟩
  · exact .inl rfl
  · right
    intro e
    simp only [Value.ownBlock, Option.some.injEq] at e
    subst e
    rw [hh] at hR
    cases hR
    exact hne rfl
theorem Told.but {w : World} {T : Nat → ByteArray} {m : Nat} {lv ev : Value} {R a t a' t' : Nat} {wr wr' : World} (h : Told w T m lv ev R a t wr) (hb : But R wr wr') (hh : Holds wr' R (Dt (TL T m) t' a')) : Told w T m lv ev R a' t' wr' := by
  obtain ⟨v, hv, _⟩ := h.h
  exact ⟨own_but h.l hb hv (by decide), own_but h.e hb hv (by decide), hh, h.hR, below_but h.bel hb h.hR h.bel.size⟩
theorem Made.told {w : World} {T : Nat → ByteArray} {m : Nat} {lv ev : Value} {wr : World} (h : Made w T m lv ev wr) : Told w T m lv ev wr.heap.size 0 0 (wr.alloc (.cells #[.slice none 0 0] 50)) :=
  ⟨h.l.alloc _, h.e.alloc _, by rw [show Dt (TL T m) 0 0 = [] from by simp [Dt]]; exact holds_new wr, h.bel.size, h.bel.alloc h.bel.size _⟩
theorem LL_get (T : Nat → ByteArray) (m i : Nat) (h : i < m) : (LL T m)[i]? = some (.string (cut (T i) 300)) := by simp [LL, TB, h]
theorem TL_take (T : Nat → ByteArray) (m i : Nat) (h : i ≤ m) : (TL T m).take i = TL T i := by
  simp [TL, TB, ← List.map_take, List.take_range, Nat.min_eq_left h]
theorem EL_get (T : Nat → ByteArray) (m i : Nat) (h : i < m) : (EL T m)[i]? = some (.int .i64 (En (TL T m) (i + 1) : Int)) := by
  have : (EL T m)[i]? = some (.int .i64 ((allText T (i + 1)).size : Int)) := by simp [EL, h]
  rw [this, allText_size, En, TL_take T m (i + 1) (by omega)]
/-- The two slices' forms. -/
theorem own_shape {w : World} {base e n : Nat} {v : Value} {xs : List Value} (h : w.ownsRow base e 1 v n xs) : ∃ ao c, v = .slice ao n c := by
  rcases Joins.ownsRow_forms h with ⟨rfl, rfl⟩ | ⟨g, c, rfl⟩
  · exact ⟨_, _, rfl⟩
  · exact ⟨_, _, rfl⟩

theorem told_feed {w : World} {T : Nat → ByteArray} {m : Nat} {lv ev : Value} {R a t : Nat} {wr : World} (h : Told w T m lv ev R a t wr) (X : ByteArray) (hX : X.data.toList = Fl (TL T m)) (hEn : En (TL T m) t ≤ a) (E n : Nat) (hE : E = a + n) (hn : a + n ≤ X.size) (hs : X.size ≤ 302 * m) (hm : m ≤ 20) :
    Calls Try.prog 11 #[.pointer (some ⟨R, 0, none⟩), .string (X.extract a E)] wr fun e w' => (∃ v, e = .returned (.int .i64 v)) ∧ Told w T m lv ev R E t w' := by
  subst hE
  have h1 := Dt_length (TL T m) t a
  have h2 : (Fl (TL T m)).length = X.size := by rw [← hX, Array.length_toList]; rfl
  have h3 : (X.extract a (a + n)).size = n := by rw [ByteArray.size_extract]; omega
  refine (feed_any wr R _ (X.extract a (a + n)) h.h (by omega)).mono fun e w' ⟨he, hh, hb⟩ => ⟨⟨_, he⟩, h.but hb ?_⟩
  have h4 : (X.extract a (a + n)).data.toList = ((Fl (TL T m)).drop a).take n := by rw [extract_list, hX, Nat.add_sub_cancel_left]
  rwa [h4, Dt_feed _ _ _ _ hEn] at hh
theorem told_some {w : World} {T : Nat → ByteArray} {m : Nat} {lv ev : Value} {R a t : Nat} {wr : World} (h : Told w T m lv ev R a t wr) (ht : t < m) (he : En (TL T m) (t + 1) ≤ a) (hm : m ≤ 20) :
    Calls Try.prog 12 #[.pointer (some ⟨R, 0, none⟩)] wr fun e w' => e = .returned (.tuple #[.string (cut (T t) 300), .bool true]) ∧ Told w T m lv ev R a (t + 1) w' := by
  have h1 := Dt_length (TL T m) t a
  have h2 := Fl_le T m
  have hg := TL_get T m t ht
  have hp := Dt_some (TL T m) t a _ hg (by have := TL_le T m _ (List.mem_of_getElem? hg); omega) he
  exact (next_some h.h hp (by omega)).mono fun e w' ⟨he, hh, hb⟩ => ⟨he, h.but hb hh⟩
theorem told_none {w : World} {T : Nat → ByteArray} {m : Nat} {lv ev : Value} {R a t : Nat} {wr : World} (h : Told w T m lv ev R a t wr) (ht : m ≤ t ∨ (t < m ∧ a < En (TL T m) (t + 1))) (hm : m ≤ 20) :
    Calls Try.prog 12 #[.pointer (some ⟨R, 0, none⟩)] wr fun e w' => e = .returned (.tuple #[.string ⟨#[]⟩, .bool false]) ∧ Told w T m lv ev R a t w' := by
  have h1 := Dt_length (TL T m) t a
  have h2 := Fl_le T m
  have hp := Dt_none (TL T m) t a (fun t ht => by have := TL_le T m t ht; omega) (by rw [TL_length]; exact ht)
  exact (next_not h.h hp (by omega)).mono fun e w' ⟨he, hh, hb⟩ => ⟨he, h.but hb hh⟩

set_option maxRecDepth 100000 in
set_option maxHeartbeats 1600000 in
theorem back_walk (pa : Option Addr) (len cap : Nat) (ca : Option Addr) (clen ccap : Nat) (T : Nat → ByteArray) (w : World) (hlen : len ≤ maxLen) (hclen : clen ≤ maxLen)
    (hp : len = 0 ∨ ∃ b off, pa = some ⟨b, off, none⟩ ∧ b < w.heap.size ∧ ∀ i, i < len → w.cell? ⟨b, off + i, none⟩ = some (.string (T i)) ∧ (T i).size ≤ maxLen)
    (hc : clen = 0 ∨ ∃ b off, ca = some ⟨b, off, none⟩ ∧ b < w.heap.size ∧ ∀ i, i < clen → ∃ k, w.cell? ⟨b, off + i, none⟩ = some (.int .i64 k)) :
    Calls Try.prog 3 #[.slice pa len cap, .slice ca clen ccap] w fun e w' => e = .returned (.bool true) ∧ Below w.heap.size w w' := by
  obtain ⟨i9, hi9, hz9, hs9, hb9⟩ := info_parts info9
  obtain ⟨i3, hi3, hz3, hs3, hb3⟩ := info_parts info3
  unfold maxLen at hlen hclen
  have Hp := Lib.hid hp; clear hp
  have Hc := Lib.hid hc; clear hc
  go_enter Try.func3, Try.ntmps3
  go_wp2_with fail
  refine (awake_any _).mono ?_
  rintro e w1 ⟨rfl, hb1⟩
  have Hb1 := Lib.hid hb1; clear hb1
  go_wp2_with fail
  go_loopw [6, 7, 8, 9] (fun lv av ev i wr => ∃ j : Nat, j ≤ len ∧ j ≤ 20 ∧ i = .int .i64 j ∧ av = .string (allText T j) ∧ Made w T j lv ev wr) (fun _ _ _ i _ => 20 - (intOf i).toNat)
  case atStart => exact ⟨0, by omega, by omega, rfl, rfl, World.ownsRow_nil _ _ _ _, World.ownsRow_nil _ _ _ _, Hb1.out⟩
  case round =>
    obtain ⟨j, hj1, hj2, rfl, rfl, hM⟩ := hrel
    have HM := Lib.hid hM; clear hM
    by_cases hlt : j < len ∧ j < 20
    · obtain ⟨hl1, hl2⟩ := hlt
      rcases Hp.out with h0 | ⟨b, off, rfl, hb, hcell⟩
      · omega
      · obtain ⟨c0, ht⟩ := hcell j hl1
        have d0 := (HM.out.bel.cell (p := ⟨b, off + j, none⟩) hb).trans c0
        clear c0 hcell
        go_wp2_with fail
        refine (short_any (T j) 300 (by omega) ht _).mono ?_
        rintro e w' ⟨rfl, rfl⟩
        have hz := cut_size (T j) 300
        go_wp2_with (at_builtin; refine wpList_append_own _ rfl (.tmp 39) (.tmp 41) 22 rfl w.heap.size 9 i9 (.string ⟨#[]⟩) 1 16 Try.underlying22 hi9 hz9 hs9 hb9 rfl (by decide) _ _ _ rfl (HM.out.l.alloc _) ⟨wr.heap.size, 0, none⟩ 1 1 [.string (cut (T j) 300)] rfl rfl (cell_one_new _ _ _) (by simp [Value.oneCell']) (by unfold maxLen; omega) (by omega) (by have := HM.out.bel.size; simp; omega) ?_; intro v' wq hown' hgrow hnil; clear hnil)
        have hlA := HM.out.l.alloc (Obj.cells #[Value.string (cut (T j) 300)] 9)
        have heA := HM.out.e.alloc (Obj.cells #[Value.string (cut (T j) 300)] 9)
        have hbA := HM.out.bel.alloc HM.out.bel.size (Obj.cells #[Value.string (cut (T j) 300)] 9)
        have hM1 : Made1 w T j v' u8 wq := ⟨by rw [LL_succ]; exact hown', own_other heA hlA (by decide) hgrow, hbA.grown hgrow hbA.size (fun k e => (hlA.lt k e).1)⟩
        clear hlA heA hbA
        have HM1 := Lib.hid hM1
        clear hown' hgrow hM1 HM d0
        refine (put_any (cut (T j) 300) (by omega) _).mono ?_
        rintro e wp ⟨rfl, hbp⟩
        have HM2 := Lib.hid (HM1.out.later hbp)
        clear hbp HM1
        have hat := allText_succ T j
        have hA1 : (allText T j).size ≤ 302 * j := by rw [allText_size]; exact Fl_le T j
        have hE1 : (encS (cut (T j) 300)).size ≤ 302 := by rw [encS_size]; omega
        go_wp2_with (at_builtin; refine wpList_append_own _ rfl (.tmp 53) (.tmp 56) 23 rfl w.heap.size 3 i3 (.int .i64 0) 1 8 Try.underlying23 hi3 hz3 hs3 hb3 rfl (by decide) _ _ _ rfl (HM2.out.e.alloc _) ⟨wp.heap.size, 0, none⟩ 1 1 [.int .i64 ((allText T (j + 1)).size : Int)] rfl rfl (cell_one_new _ _ _) (by simp [Value.oneCell']) (by unfold maxLen; omega) (by omega) (by have := HM2.out.bel.size; simp; omega) ?_; intro v2 wz hown2 hgrow2 hnil; clear hnil)
        have hlA := HM2.out.l.alloc (Obj.cells #[Value.int .i64 ((allText T (j + 1)).size : Int)] 3)
        have heA := HM2.out.e.alloc (Obj.cells #[Value.int .i64 ((allText T (j + 1)).size : Int)] 3)
        have hbA := HM2.out.bel.alloc HM2.out.bel.size (Obj.cells #[Value.int .i64 ((allText T (j + 1)).size : Int)] 3)
        exact ⟨⟨j + 1, by omega, by omega, by go_num, rfl, own_other hlA heA (by decide) hgrow2, by rw [EL_succ]; exact hown2, hbA.grown hgrow2 hbA.size (fun k e => (heA.lt k e).1)⟩, by simp [intOf]; omega⟩
    · have hm : j = len ∨ j = 20 := by omega
      have hmm : j ≤ 20 := hj2
      have hml : j ≤ len := hj1

      have hL : (allText T j).size = (Fl (TL T j)).length := allText_size T j
      have hL2 := Fl_le T j
      obtain ⟨ao, lc, rfl⟩ := own_shape HM.out.l
      obtain ⟨eo, ec, rfl⟩ := own_shape HM.out.e
      have HT := Lib.hid HM.out.told
      obtain ⟨L, hLL⟩ : ∃ L, L = (Fl (TL T j)).length := ⟨_, rfl⟩
      rw [← hLL] at hL2 hL
      have HL := Lib.hid hLL
      clear HM hLL
      generalize hX : allText T j = X at hL ⊢
      have hXl : X.data.toList = Fl (TL T j) := by rw [← hX]; simp [allText]
      have HX := Lib.hid hXl
      clear hX hXl
      subst hL
      have hle : ∀ t ∈ TL T j, t.length ≤ 65535 := fun t ht => by have := TL_le T j t ht; omega
      have hlen2 := TL_length T j
      have Hle := Lib.hid hle
      have Hlen2 := Lib.hid hlen2
      clear hle hlen2
      go_wp2_with fail
      all_goals
        refine (new_any _).mono ?_
        rintro e w2 ⟨rfl, rfl⟩
        revert HT
        generalize wr.alloc (.cells #[.slice none 0 0] 50) = W2
        generalize wr.heap.size = R
        intro HT
        go_wp2_with fail
        go_loopw [14, 15, 16] (fun a t i wr' => ∃ at' told ii : Nat, a = .int .i64 at' ∧ t = .int .i64 told ∧ i = .int .i64 ii ∧ ii ≤ at' ∧ at' ≤ X.size ∧ told ≤ j ∧ En (TL T j) told ≤ at' ∧ (told < j → at' < En (TL T j) (told + 1)) ∧ Told w T j (.slice ao j lc) (.slice eo j ec) R at' told wr') (fun a _ _ _ => X.size - (intOf a).toNat)
        case atStart =>
          refine ⟨0, 0, 0, rfl, rfl, rfl, by omega, by omega, by omega, by rw [En_zero]; omega, fun h => ?_, HT.out⟩
          rw [En_succ _ 0 _ (TL_get T j 0 h), En_zero]; omega
        case round =>
          obtain ⟨at', told, ii, rfl, rfl, rfl, hii, hat, htold, hEn, hnext, hT'⟩ := hrel
          have HT' := Lib.hid hT'
          have Hnext := Lib.hid hnext
          clear hT' hnext
          by_cases hal : at' < X.size
          · by_cases hic : ii < clen
            · rcases Hc.out with h0 | ⟨b, off, rfl, hb, hcell⟩
              · omega
              · obtain ⟨k, c0⟩ := hcell ii hic
                have d0 := (HT'.out.bel.cell (p := ⟨b, off + ii, none⟩) hb).trans c0
                clear c0 hcell
                have htm : ∃ q : Nat, q < 50 ∧ (k.tmod 50 = (q : Int) ∨ (0 < q ∧ k.tmod 50 = -(q : Int))) := by
                  have h1 := Int.tmod_lt_of_pos k (show (0 : Int) < 50 by decide)
                  have h2 := Int.lt_tmod_of_pos k (show (0 : Int) < 50 by decide)
                  refine ⟨(k.tmod 50).natAbs, by omega, by omega⟩
                obtain ⟨q, hq, hk⟩ := htm
                rcases hk with hk | ⟨hq0, hk⟩
                · go_wp2_with fail
                  · refine (told_feed HT'.out X HX.out hEn (at' + (q + 1)) (q + 1) (by omega) (by omega) (by omega) hmm).mono ?_
                    rintro e w3 ⟨⟨_, rfl⟩, hT3⟩
                    have HT3 := Lib.hid hT3
                    clear hT3 HT'
                    go_wp2_with fail
                    go_loopw [15] (fun t wr' => ∃ td : Nat, t = .int .i64 td ∧ td ≤ j ∧ En (TL T j) td ≤ at' + (q + 1) ∧ Told w T j (.slice ao j lc) (.slice eo j ec) R (at' + (q + 1)) td wr') (fun t _ => j - (intOf t).toNat)
                    case atStart => exact ⟨told, rfl, htold, by omega, HT3.out⟩
                    case round =>
                      obtain ⟨td, rfl, htd, hEd, hT4⟩ := hrel
                      have HT4 := Lib.hid hT4
                      clear hT4 HT3
                      by_cases htj : td < j
                      · obtain ⟨g, lc', hg⟩ := Joins.ownsRow_form HT4.out.l (by omega)
                        obtain ⟨rfl, rfl⟩ : ao = some ⟨g, 0, none⟩ ∧ lc = lc' := by cases hg; exact ⟨rfl, rfl⟩
                        obtain ⟨g', ec', hg'⟩ := Joins.ownsRow_form HT4.out.e (by omega)
                        obtain ⟨rfl, rfl⟩ : eo = some ⟨g', 0, none⟩ ∧ ec = ec' := by cases hg'; exact ⟨rfl, rfl⟩
                        clear hg hg'
                        have ce := (HT4.out.e.cellAt td (by omega)).trans (EL_get T j td htj)
                        have hEb := En_le (TL T j) (td + 1)
                        rw [← HL.out] at hEb
                        by_cases hin : En (TL T j) (td + 1) ≤ at' + (q + 1)
                        · go_wp2_with fail
                          refine (told_some HT4.out htj hin hmm).mono ?_
                          rintro e w4 ⟨rfl, hT5⟩
                          have cl := (hT5.l.cellAt td (by omega)).trans (LL_get T j td htj)
                          have HT5 := Lib.hid hT5
                          clear hT5 HT4 ce
                          go_wp2_with fail
                          exact ⟨⟨td + 1, by go_num, by omega, hin, HT5.out⟩, by simp [intOf] <;> omega⟩
                        · go_wp2_with fail
                          refine (told_none HT4.out (.inr ⟨htj, by omega⟩) hmm).mono ?_
                          rintro e w4 ⟨rfl, hT5⟩
                          have HT5 := Lib.hid hT5
                          clear hT5 HT4 ce
                          go_wp2_with fail
                          exact ⟨⟨at' + (q + 1), td, ii + 1, by go_num, rfl, by go_num, by omega, by omega, by omega, by omega, fun _ => by omega, HT5.out⟩, by simp [intOf] <;> omega⟩
                      · go_wp2_with fail
                        refine (told_none HT4.out (.inl (by omega)) hmm).mono ?_
                        rintro e w4 ⟨rfl, hT5⟩
                        have HT5 := Lib.hid hT5
                        clear hT5 HT4
                        go_wp2_with fail
                        exact ⟨⟨at' + (q + 1), td, ii + 1, by go_num, rfl, by go_num, by omega, by omega, by omega, by omega, fun _ => by omega, HT5.out⟩, by simp [intOf] <;> omega⟩
                  · refine (told_feed HT'.out X HX.out hEn (X.size) (X.size - at') (by omega) (by omega) (by omega) hmm).mono ?_
                    rintro e w3 ⟨⟨_, rfl⟩, hT3⟩
                    have HT3 := Lib.hid hT3
                    clear hT3 HT'
                    go_wp2_with fail
                    go_loopw [15] (fun t wr' => ∃ td : Nat, t = .int .i64 td ∧ td ≤ j ∧ En (TL T j) td ≤ X.size ∧ Told w T j (.slice ao j lc) (.slice eo j ec) R (X.size) td wr') (fun t _ => j - (intOf t).toNat)
                    case atStart => exact ⟨told, rfl, htold, by omega, HT3.out⟩
                    case round =>
                      obtain ⟨td, rfl, htd, hEd, hT4⟩ := hrel
                      have HT4 := Lib.hid hT4
                      clear hT4 HT3
                      by_cases htj : td < j
                      · obtain ⟨g, lc', hg⟩ := Joins.ownsRow_form HT4.out.l (by omega)
                        obtain ⟨rfl, rfl⟩ : ao = some ⟨g, 0, none⟩ ∧ lc = lc' := by cases hg; exact ⟨rfl, rfl⟩
                        obtain ⟨g', ec', hg'⟩ := Joins.ownsRow_form HT4.out.e (by omega)
                        obtain ⟨rfl, rfl⟩ : eo = some ⟨g', 0, none⟩ ∧ ec = ec' := by cases hg'; exact ⟨rfl, rfl⟩
                        clear hg hg'
                        have ce := (HT4.out.e.cellAt td (by omega)).trans (EL_get T j td htj)
                        have hEb := En_le (TL T j) (td + 1)
                        rw [← HL.out] at hEb
                        by_cases hin : En (TL T j) (td + 1) ≤ X.size
                        · go_wp2_with fail
                          refine (told_some HT4.out htj hin hmm).mono ?_
                          rintro e w4 ⟨rfl, hT5⟩
                          have cl := (hT5.l.cellAt td (by omega)).trans (LL_get T j td htj)
                          have HT5 := Lib.hid hT5
                          clear hT5 HT4 ce
                          go_wp2_with fail
                          exact ⟨⟨td + 1, by go_num, by omega, hin, HT5.out⟩, by simp [intOf] <;> omega⟩
                        · exact absurd hEb hin
                      · go_wp2_with fail
                        refine (told_none HT4.out (.inl (by omega)) hmm).mono ?_
                        rintro e w4 ⟨rfl, hT5⟩
                        have HT5 := Lib.hid hT5
                        clear hT5 HT4
                        go_wp2_with fail
                        exact ⟨⟨X.size, td, ii + 1, by go_num, rfl, by go_num, by omega, by omega, by omega, by omega, fun _ => by omega, HT5.out⟩, by simp [intOf] <;> omega⟩
                · go_wp2_with fail
                  · refine (told_feed HT'.out X HX.out hEn (at' + (q + 1)) (q + 1) (by omega) (by omega) (by omega) hmm).mono ?_
                    rintro e w3 ⟨⟨_, rfl⟩, hT3⟩
                    have HT3 := Lib.hid hT3
                    clear hT3 HT'
                    go_wp2_with fail
                    go_loopw [15] (fun t wr' => ∃ td : Nat, t = .int .i64 td ∧ td ≤ j ∧ En (TL T j) td ≤ at' + (q + 1) ∧ Told w T j (.slice ao j lc) (.slice eo j ec) R (at' + (q + 1)) td wr') (fun t _ => j - (intOf t).toNat)
                    case atStart => exact ⟨told, rfl, htold, by omega, HT3.out⟩
                    case round =>
                      obtain ⟨td, rfl, htd, hEd, hT4⟩ := hrel
                      have HT4 := Lib.hid hT4
                      clear hT4 HT3
                      by_cases htj : td < j
                      · obtain ⟨g, lc', hg⟩ := Joins.ownsRow_form HT4.out.l (by omega)
                        obtain ⟨rfl, rfl⟩ : ao = some ⟨g, 0, none⟩ ∧ lc = lc' := by cases hg; exact ⟨rfl, rfl⟩
                        obtain ⟨g', ec', hg'⟩ := Joins.ownsRow_form HT4.out.e (by omega)
                        obtain ⟨rfl, rfl⟩ : eo = some ⟨g', 0, none⟩ ∧ ec = ec' := by cases hg'; exact ⟨rfl, rfl⟩
                        clear hg hg'
                        have ce := (HT4.out.e.cellAt td (by omega)).trans (EL_get T j td htj)
                        have hEb := En_le (TL T j) (td + 1)
                        rw [← HL.out] at hEb
                        by_cases hin : En (TL T j) (td + 1) ≤ at' + (q + 1)
                        · go_wp2_with fail
                          refine (told_some HT4.out htj hin hmm).mono ?_
                          rintro e w4 ⟨rfl, hT5⟩
                          have cl := (hT5.l.cellAt td (by omega)).trans (LL_get T j td htj)
                          have HT5 := Lib.hid hT5
                          clear hT5 HT4 ce
                          go_wp2_with fail
                          exact ⟨⟨td + 1, by go_num, by omega, hin, HT5.out⟩, by simp [intOf] <;> omega⟩
                        · go_wp2_with fail
                          refine (told_none HT4.out (.inr ⟨htj, by omega⟩) hmm).mono ?_
                          rintro e w4 ⟨rfl, hT5⟩
                          have HT5 := Lib.hid hT5
                          clear hT5 HT4 ce
                          go_wp2_with fail
                          exact ⟨⟨at' + (q + 1), td, ii + 1, by go_num, rfl, by go_num, by omega, by omega, by omega, by omega, fun _ => by omega, HT5.out⟩, by simp [intOf] <;> omega⟩
                      · go_wp2_with fail
                        refine (told_none HT4.out (.inl (by omega)) hmm).mono ?_
                        rintro e w4 ⟨rfl, hT5⟩
                        have HT5 := Lib.hid hT5
                        clear hT5 HT4
                        go_wp2_with fail
                        exact ⟨⟨at' + (q + 1), td, ii + 1, by go_num, rfl, by go_num, by omega, by omega, by omega, by omega, fun _ => by omega, HT5.out⟩, by simp [intOf] <;> omega⟩
                  · refine (told_feed HT'.out X HX.out hEn (X.size) (X.size - at') (by omega) (by omega) (by omega) hmm).mono ?_
                    rintro e w3 ⟨⟨_, rfl⟩, hT3⟩
                    have HT3 := Lib.hid hT3
                    clear hT3 HT'
                    go_wp2_with fail
                    go_loopw [15] (fun t wr' => ∃ td : Nat, t = .int .i64 td ∧ td ≤ j ∧ En (TL T j) td ≤ X.size ∧ Told w T j (.slice ao j lc) (.slice eo j ec) R (X.size) td wr') (fun t _ => j - (intOf t).toNat)
                    case atStart => exact ⟨told, rfl, htold, by omega, HT3.out⟩
                    case round =>
                      obtain ⟨td, rfl, htd, hEd, hT4⟩ := hrel
                      have HT4 := Lib.hid hT4
                      clear hT4 HT3
                      by_cases htj : td < j
                      · obtain ⟨g, lc', hg⟩ := Joins.ownsRow_form HT4.out.l (by omega)
                        obtain ⟨rfl, rfl⟩ : ao = some ⟨g, 0, none⟩ ∧ lc = lc' := by cases hg; exact ⟨rfl, rfl⟩
                        obtain ⟨g', ec', hg'⟩ := Joins.ownsRow_form HT4.out.e (by omega)
                        obtain ⟨rfl, rfl⟩ : eo = some ⟨g', 0, none⟩ ∧ ec = ec' := by cases hg'; exact ⟨rfl, rfl⟩
                        clear hg hg'
                        have ce := (HT4.out.e.cellAt td (by omega)).trans (EL_get T j td htj)
                        have hEb := En_le (TL T j) (td + 1)
                        rw [← HL.out] at hEb
                        by_cases hin : En (TL T j) (td + 1) ≤ X.size
                        · go_wp2_with fail
                          refine (told_some HT4.out htj hin hmm).mono ?_
                          rintro e w4 ⟨rfl, hT5⟩
                          have cl := (hT5.l.cellAt td (by omega)).trans (LL_get T j td htj)
                          have HT5 := Lib.hid hT5
                          clear hT5 HT4 ce
                          go_wp2_with fail
                          exact ⟨⟨td + 1, by go_num, by omega, hin, HT5.out⟩, by simp [intOf] <;> omega⟩
                        · exact absurd hEb hin
                      · go_wp2_with fail
                        refine (told_none HT4.out (.inl (by omega)) hmm).mono ?_
                        rintro e w4 ⟨rfl, hT5⟩
                        have HT5 := Lib.hid hT5
                        clear hT5 HT4
                        go_wp2_with fail
                        exact ⟨⟨X.size, td, ii + 1, by go_num, rfl, by go_num, by omega, by omega, by omega, by omega, fun _ => by omega, HT5.out⟩, by simp [intOf] <;> omega⟩
            · go_wp2_with fail
              · refine (told_feed HT'.out X HX.out hEn (X.size) (X.size - at') (by omega) (by omega) (by omega) hmm).mono ?_
                rintro e w3 ⟨⟨_, rfl⟩, hT3⟩
                have HT3 := Lib.hid hT3
                clear hT3 HT'
                go_wp2_with fail
                go_loopw [15] (fun t wr' => ∃ td : Nat, t = .int .i64 td ∧ td ≤ j ∧ En (TL T j) td ≤ X.size ∧ Told w T j (.slice ao j lc) (.slice eo j ec) R (X.size) td wr') (fun t _ => j - (intOf t).toNat)
                case atStart => exact ⟨told, rfl, htold, by omega, HT3.out⟩
                case round =>
                  obtain ⟨td, rfl, htd, hEd, hT4⟩ := hrel
                  have HT4 := Lib.hid hT4
                  clear hT4 HT3
                  by_cases htj : td < j
                  · obtain ⟨g, lc', hg⟩ := Joins.ownsRow_form HT4.out.l (by omega)
                    obtain ⟨rfl, rfl⟩ : ao = some ⟨g, 0, none⟩ ∧ lc = lc' := by cases hg; exact ⟨rfl, rfl⟩
                    obtain ⟨g', ec', hg'⟩ := Joins.ownsRow_form HT4.out.e (by omega)
                    obtain ⟨rfl, rfl⟩ : eo = some ⟨g', 0, none⟩ ∧ ec = ec' := by cases hg'; exact ⟨rfl, rfl⟩
                    clear hg hg'
                    have ce := (HT4.out.e.cellAt td (by omega)).trans (EL_get T j td htj)
                    have hEb := En_le (TL T j) (td + 1)
                    rw [← HL.out] at hEb
                    by_cases hin : En (TL T j) (td + 1) ≤ X.size
                    · go_wp2_with fail
                      refine (told_some HT4.out htj hin hmm).mono ?_
                      rintro e w4 ⟨rfl, hT5⟩
                      have cl := (hT5.l.cellAt td (by omega)).trans (LL_get T j td htj)
                      have HT5 := Lib.hid hT5
                      clear hT5 HT4 ce
                      go_wp2_with fail
                      exact ⟨⟨td + 1, by go_num, by omega, hin, HT5.out⟩, by simp [intOf] <;> omega⟩
                    · exact absurd hEb hin
                  · go_wp2_with fail
                    refine (told_none HT4.out (.inl (by omega)) hmm).mono ?_
                    rintro e w4 ⟨rfl, hT5⟩
                    have HT5 := Lib.hid hT5
                    clear hT5 HT4
                    go_wp2_with fail
                    exact ⟨⟨X.size, td, ii + 1, by go_num, rfl, by go_num, by omega, by omega, by omega, by omega, fun _ => by omega, HT5.out⟩, by simp [intOf] <;> omega⟩
          · have hae : at' = X.size := by omega
            have hte : told = j := by
              rcases Nat.lt_or_ge told j with h | h
              · have h1 := Hnext.out h
                have h2 := En_le (TL T j) (told + 1)
                rw [← HL.out] at h2
                omega
              · omega
            subst hae hte
            have hdt : Dt (TL T told) told X.size = [] := by
              have := Dt_end (TL T told)
              rwa [Hlen2.out, ← HL.out] at this
            have hz := HT'.out.h
            rw [hdt] at hz
            have Hz := Lib.hid hz
            clear hz hdt
            go_wp2_with fail
            all_goals
              refine (left_any _ _ _ Hz.out).mono ?_
              rintro e w3 ⟨rfl, rfl⟩
              go_wp2_with fail
              go_ret
              exact ⟨rfl, HT'.out.bel⟩
end Go.Proofs.Ytnfabjaabhmjjaa
