/-
  FramePuts: texts are put, short ones and a great one.
-/
import Derived.Test.YtnfabjaabhmjjaaAll
import Derived.Lib.SmallJoins
import Derived.Deep.OwnRows
import Derived.Laws.OwnMore
namespace Go.Proofs.Ytnfabjaabhmjjaa
open Go.RowKit
set_option linter.unusedVariables false

theorem info9p : (Try.prog.info? 9).map (fun i => (i.zero, i.size, i.bytes)) = some (some (.string ⟨#[]⟩), 1, 16) := by kernel_rfl
/-- Texts, shortened, as values. -/
def LP (T : Nat → ByteArray) (k : Nat) : List Value := (List.range k).map fun i => .string (T i)
theorem LP_succ (T : Nat → ByteArray) (k : Nat) : LP T (k + 1) = LP T k ++ [.string (T k)] := by simp [LP, List.range_succ]
theorem LP_get (T : Nat → ByteArray) (m i : Nat) (h : i < m) : (LP T m)[i]? = some (.string (T i)) := by simp [LP, h]
theorem LP_length (T : Nat → ByteArray) (k : Nat) : (LP T k).length = k := by simp [LP]
theorem CatL_text (T : Nat → ByteArray) (k : Nat) : (⟨(CatL T k).toArray⟩ : ByteArray) ++ encS (T k) = ⟨(CatL T (k + 1)).toArray⟩ := by
  apply ba_eq
  rw [ByteArray.data_append, Array.toList_append, CatL_succ]
theorem CatL_congr {T T' : Nat → ByteArray} {k : Nat} (h : ∀ i, i < k → T i = T' i) : CatL T k = CatL T' k := by
  unfold CatL
  congr 1
  apply List.map_congr_left
  intro i hi
  rw [h i (List.mem_range.1 hi)]
theorem LP_congr {T T' : Nat → ByteArray} {k : Nat} (h : ∀ i, i < k → T i = T' i) : LP T k = LP T' k := by
  unfold LP
  apply List.map_congr_left
  intro i hi
  rw [h i (List.mem_range.1 hi)]
theorem own_laterP {w w' : World} {base e n : Nat} {v : Value} {xs : List Value} (h : w.ownsRow base e 1 v n xs) (hb : Below w.heap.size w w') : w'.ownsRow base e 1 v n xs :=
  h.kept (row := none) ⟨hb.os, hb.tape, hb.output, hb.size, fun k hk _ => hb.block k hk⟩ (by cases v.ownBlock <;> simp)
/-- All of an owned row. -/
theorem all_own {w : World} {B n : Nat} {ao : Option Addr} {cap : Nat} {T : Nat → ByteArray} (h : w.ownsRow B 9 1 (.slice ao n cap) n (LP T n)) (hn : n ≤ 21) (hsz : ∀ i, i < n → (T i).size ≤ 65600) :
    Calls Try.prog 18 #[.slice ao n cap] w fun e w' => ((∀ i, i < n → (T i).size ≤ 65535) ∧ e = .returned (.tuple #[.string ⟨(CatL T n).toArray⟩, .int .i64 0]) ∨ (∃ i, i < n ∧ 65535 < (T i).size) ∧ e = .returned (.tuple #[.string ⟨#[]⟩, .int .i64 11])) ∧ Below w.heap.size w w' := by
  refine all_walk ao n cap T w hn hsz ?_
  rcases Nat.eq_zero_or_pos n with h0 | h0
  · exact .inl h0
  · obtain ⟨g, c, hg⟩ := Joins.ownsRow_form h h0
    obtain ⟨rfl, rfl⟩ : ao = some ⟨g, 0, none⟩ ∧ cap = c := by cases hg; exact ⟨rfl, rfl⟩
    exact .inr ⟨g, rfl, (h.lt g rfl).2, fun i hi => (h.cellAt i (by omega)).trans (LP_get T n i hi)⟩
theorem own_shapeP {w : World} {base e n : Nat} {v : Value} {xs : List Value} (h : w.ownsRow base e 1 v n xs) : ∃ ao c, v = .slice ao n c := by
  rcases Joins.ownsRow_forms h with ⟨rfl, rfl⟩ | ⟨g, c, rfl⟩
  · exact ⟨_, _, rfl⟩
  · exact ⟨_, _, rfl⟩
/-- What the loop keeps. -/
structure Got (w : World) (T : Nat → ByteArray) (k : Nat) (lv : Value) (wr : World) : Prop where
  l : wr.ownsRow w.heap.size 9 1 lv k (LP (fun i => cut (T i) 300) k)
  bel : Below w.heap.size w wr
theorem Got.later {w : World} {T : Nat → ByteArray} {k : Nat} {lv : Value} {wr wr' : World} (h : Got w T k lv wr) (hb : Below wr.heap.size wr wr') : Got w T k lv wr' :=
  ⟨own_laterP h.l hb, h.bel.trans (hb.mono h.bel.size)⟩
theorem Got.alloc {w : World} {T : Nat → ByteArray} {k : Nat} {lv : Value} {wr : World} (h : Got w T k lv wr) (o : Obj) : Got w T k lv (wr.alloc o) :=
  ⟨h.l.alloc o, h.bel.alloc h.bel.size o⟩
/-- The short ones, and behind them the great one. -/
def Tg (T : Nat → ByteArray) (G : ByteArray) (j i : Nat) : ByteArray := if i < j then cut (T i) 300 else G
theorem LP_push (T : Nat → ByteArray) (G : ByteArray) (j : Nat) : LP (fun i => cut (T i) 300) j ++ [.string G] = LP (Tg T G j) (j + 1) := by
  rw [LP_succ, LP_congr (T := Tg T G j) (T' := fun i => cut (T i) 300) (fun i hi => by simp [Tg, hi])]
  simp [Tg]
theorem CatL_push (T : Nat → ByteArray) (G : ByteArray) (j : Nat) : (⟨(CatL (Tg T G j) (j + 1)).toArray⟩ : ByteArray).size = (⟨(CatL (fun i => cut (T i) 300) j).toArray⟩ : ByteArray).size + (G.size + 2) := by
  rw [← CatL_text, ByteArray.size_append, CatL_congr (T := Tg T G j) (T' := fun i => cut (T i) 300) (fun i hi => by simp [Tg, hi]), encS_size]
  simp [Tg]
theorem Tg_le (T : Nat → ByteArray) (G : ByteArray) (j : Nat) (h : G.size ≤ 65600) (i : Nat) : (Tg T G j i).size ≤ 65600 := by
  unfold Tg
  split
  · have := cut_size (T i) 300; omega
  · exact h

theorem great_made (q : Nat) (hq : q ≤ 100) : ∃ (G : ByteArray) (N : Nat), N = 65500 + q ∧ G.size = N ∧
    (∀ w : World, (Instr.makeSlice 45 (.int .i64 (65500 + (q : Int))) (.int .i64 (65500 + (q : Int)))).run Try.prog w = .ok (.slice (some ⟨w.heap.size, 0, none⟩) N N) (w.alloc (.cells (madeCells #[.int .u8 0] N) 5))) ∧
    (∀ w : World, (convert 45 9 (.slice (some ⟨w.heap.size, 0, none⟩) N N)).run Try.prog (w.alloc (.cells (madeCells #[.int .u8 0] N) 5)) = .ok (.string G) (w.alloc (.cells (madeCells #[.int .u8 0] N) 5))) := by
  obtain ⟨N, hN⟩ : ∃ N, N = 65500 + q := ⟨_, rfl⟩
  refine ⟨⟨(List.replicate N (0 : UInt8)).toArray⟩, N, hN, ?_, fun w => ?_, fun w => ?_⟩
  · show (List.replicate N (0 : UInt8)).toArray.size = _
    simp
  · have h := run_make_row' (P := Try.prog) 45 5 (.int .u8 0) 1 Try.underlying45 info5b rfl .i64 .i64 N (by omega) (by omega) w
    rw [hN, show (((65500 + q : Nat)) : Int) = 65500 + (q : Int) by omega] at h
    rw [hN]
    exact h
  · refine conv_text _ w.heap.size 0 N N _ (by simp) fun j u hj => ?_
    rw [World.cell?_alloc_at _ _ _ _ rfl, ← Array.getElem?_toList, toList_madeCells_one]
    rw [List.getElem?_replicate] at hj ⊢
    split at hj
    · rename_i h
      simp only [Option.some.injEq] at hj
      subst hj
      rw [Nat.zero_add, if_pos h]
      rfl
    · cases hj

set_option maxRecDepth 100000 in
set_option maxHeartbeats 1600000 in
theorem puts_walk (pa : Option Addr) (len cap : Nat) (long : Int) (T : Nat → ByteArray) (w : World) (hlen : len ≤ maxLen)
    (hp : len = 0 ∨ ∃ b off, pa = some ⟨b, off, none⟩ ∧ b < w.heap.size ∧ ∀ i, i < len → w.cell? ⟨b, off + i, none⟩ = some (.string (T i)) ∧ (T i).size ≤ maxLen) :
    Calls Try.prog 6 #[.slice pa len cap, .int .i64 long] w fun e w' => e = .returned (.bool true) ∧ Below w.heap.size w w' := by
  obtain ⟨i9, hi9, hz9, hs9, hb9⟩ := info_parts info9p
  unfold maxLen at hlen
  have htm : ∃ q : Nat, q ≤ 100 ∧ (long.tmod 101 = (q : Int) ∨ (0 < q ∧ long.tmod 101 = -(q : Int))) := by
    have h1 := Int.tmod_lt_of_pos long (show (0 : Int) < 101 by decide)
    have h2 := Int.lt_tmod_of_pos long (show (0 : Int) < 101 by decide)
    refine ⟨(long.tmod 101).natAbs, by omega, by omega⟩
  have Hp := Lib.hid hp; clear hp
  have Htm := Lib.hid htm; clear htm
  go_enter Try.func6, Try.ntmps6
  go_wp2_with fail
  refine (awake_any _).mono ?_
  rintro e w1 ⟨rfl, hb1⟩
  have Hb1 := Lib.hid hb1; clear hb1
  go_wp2_with fail
  go_loopw [6, 7, 8] (fun lv av i wr => ∃ j : Nat, j ≤ len ∧ j ≤ 20 ∧ i = .int .i64 j ∧ av = .string ⟨(CatL (fun i => cut (T i) 300) j).toArray⟩ ∧ Got w T j lv wr) (fun _ _ i _ => 20 - (intOf i).toNat)
  case atStart => exact ⟨0, by omega, by omega, rfl, rfl, World.ownsRow_nil _ _ _ _, Hb1.out⟩
  case round =>
    obtain ⟨j, hj1, hj2, rfl, rfl, hM⟩ := hrel
    have HM := Lib.hid hM; clear hM
    by_cases hlt : j < len ∧ j < 20
    · obtain ⟨hl1, hl2⟩ := hlt
      rcases Hp.out with h0 | ⟨b, off, rfl, hb, hcell⟩
      · omega
      · obtain ⟨c0, ht⟩ := hcell j hl1
        have d0 := (HM.out.bel.cell (p := ⟨b, off + j, none⟩) hb).trans c0
        clear c0 hcell
        go_wp2_with fail
        refine (short_any (T j) 300 (by omega) ht _).mono ?_
        rintro e w' ⟨rfl, rfl⟩
        have hz := cut_size (T j) 300
        go_wp2_with (at_builtin; refine wpList_append_own _ rfl (.tmp 38) (.tmp 40) 22 rfl w.heap.size 9 i9 (.string ⟨#[]⟩) 1 16 Try.underlying22 hi9 hz9 hs9 hb9 rfl (by decide) _ _ _ rfl (HM.out.l.alloc _) ⟨wr.heap.size, 0, none⟩ 1 1 [.string (cut (T j) 300)] rfl rfl (cell_one_new _ _ _) (by simp [Value.oneCell']) (by unfold maxLen; omega) (by omega) (by have := HM.out.bel.size; simp; omega) ?_; intro v' wq hown' hgrow hnil; clear hnil)
        have hlA := HM.out.l.alloc (Obj.cells #[Value.string (cut (T j) 300)] 9)
        have hbA := HM.out.bel.alloc HM.out.bel.size (Obj.cells #[Value.string (cut (T j) 300)] 9)
        have hM1 : Got w T (j + 1) v' wq := ⟨by rw [LP_succ]; exact hown', hbA.grown hgrow hbA.size (fun k e => (hlA.lt k e).1)⟩
        clear hlA hbA
        have HM1 := Lib.hid hM1
        clear hown' hgrow hM1 HM d0
        refine (rput_any (cut (T j) 300) (by omega) _).mono ?_
        rintro e wp ⟨rfl, hbp⟩
        have HM2 := Lib.hid (HM1.out.later hbp)
        clear hbp HM1
        have hat := CatL_text (fun i => cut (T i) 300) j
        have hA1 : (⟨(CatL (fun i => cut (T i) 300) j).toArray⟩ : ByteArray).size ≤ 302 * j := by
          have := CatL_le (fun i => cut (T i) 300) j 300 (fun i _ => cut_size _ _)
          show (CatL (fun i => cut (T i) 300) j).toArray.size ≤ _
          simpa using this
        have hE1 : (encS (cut (T j) 300)).size ≤ 302 := by rw [encS_size]; omega
        go_wp2_with fail
        exact ⟨⟨j + 1, by omega, by omega, by go_num, rfl, HM2.out⟩, by simp [intOf]; omega⟩
    · have hmm : j ≤ 20 := hj2
      obtain ⟨ao, lc, rfl⟩ := own_shapeP HM.out.l
      obtain ⟨q, hq, hk⟩ := Htm.out
      obtain ⟨X, hX⟩ : ∃ X : ByteArray, X = ⟨(CatL (fun i => cut (T i) 300) j).toArray⟩ := ⟨_, rfl⟩
      have hXs : X.size ≤ 302 * j := by
        have := CatL_le (fun i => cut (T i) 300) j 300 (fun i _ => cut_size _ _)
        rw [hX]
        show (CatL (fun i => cut (T i) 300) j).toArray.size ≤ _
        simpa using this
      rw [← hX]
      have HX := Lib.hid hX
      clear hX
      obtain ⟨G, N, hN, hG, hmk, hcv⟩ := great_made q hq
      have HN := Lib.hid hN
      have HG := Lib.hid hG
      clear hN hG
      rcases hk with hk | ⟨hq0, hk⟩
      · go_wp2_with fail
        all_goals
          by_cases hgs : G.size ≤ 65535
          · refine (put_any G hgs _).mono ?_
            rintro e wa ⟨rfl, hba⟩
            have HMa := Lib.hid ((HM.out.alloc _).later hba)
            clear hba HM hmk hcv
            go_wp2_with fail
            refine (rput_any G hgs _).mono ?_
            rintro e wb ⟨rfl, hbb⟩
            have HMb := Lib.hid (HMa.out.later hbb)
            clear hbb HMa
            go_wp2_with fail
            refine (all_own HMb.out.l (by omega) (fun i _ => by have := cut_size (T i) 300; omega)).mono ?_
            rintro e wc ⟨h, hbc⟩
            have HMc := Lib.hid (HMb.out.later hbc)
            clear hbc HMb
            rcases h with ⟨_, he⟩ | ⟨⟨i, hi, hgt⟩, _⟩
            · rw [← HX.out] at he
              subst he
              go_wp2_with (at_builtin; refine wpList_append_own _ rfl (.tmp 76) (.tmp 78) 22 rfl w.heap.size 9 i9 (.string ⟨#[]⟩) 1 16 Try.underlying22 hi9 hz9 hs9 hb9 rfl (by decide) _ _ _ rfl (HMc.out.l.alloc _) ⟨wc.heap.size, 0, none⟩ 1 1 [.string G] rfl rfl (cell_one_new _ _ _) (by simp [Value.oneCell']) (by unfold maxLen; omega) (by omega) (by have := HMc.out.bel.size; simp; omega) ?_; intro v' wq hown' hgrow hnil; clear hnil)
              have hlA := HMc.out.l.alloc (Obj.cells #[Value.string G] 9)
              have hbA := HMc.out.bel.alloc HMc.out.bel.size (Obj.cells #[Value.string G] 9)
              have hbq := hbA.grown hgrow hbA.size (fun k e => (hlA.lt k e).1)
              rw [LP_push] at hown'
              have Hown := Lib.hid hown'
              have Hbq := Lib.hid hbq
              clear hlA hbA hgrow hbq hown' HMc
              obtain ⟨ao2, lc2, rfl⟩ := own_shapeP Hown.out
              refine (all_own Hown.out (by omega) (fun i _ => Tg_le T G j (by have := HG.out; have := HN.out; omega) i)).mono ?_
              rintro e wd ⟨h, hbd⟩
              have Hbd := Lib.hid (Hbq.out.trans (hbd.mono Hbq.out.size))
              clear hbd Hbq Hown
              rcases h with ⟨_, he⟩ | ⟨⟨i, hi, hgt⟩, _⟩
              · have hD := CatL_push T G j
                rw [← HX.out, HG.out, HN.out] at hD
                revert he hD
                generalize (⟨(CatL (Tg T G j) (j + 1)).toArray⟩ : ByteArray) = D
                intro he hD
                subst he
                have HD := Lib.hid hD
                clear hD
                go_wp2_with fail
                have hD5 : ((D.size : Int) == X.size + 65502 + q) = true := by
                  have := HD.out
                  simp; omega
                rw [hD5]
                go_ret
                exact ⟨rfl, Hbd.out⟩
              · have : (Tg T G j i).size ≤ 65535 := by
                  unfold Tg
                  split
                  · have := cut_size (T i) 300; omega
                  · exact hgs
                omega
            · have := cut_size (T i) 300
              omega
          · refine (put_great G (by omega) (by have := HG.out; have := HN.out; omega) _).mono ?_
            rintro e wa ⟨rfl, rfl⟩
            have HMa := Lib.hid (HM.out.alloc (Obj.cells (madeCells #[Value.int IntKind.u8 0] N) 5))
            clear HM hmk hcv
            go_wp2_with fail
            refine (rput_great G (by omega) (by have := HG.out; have := HN.out; omega) _).mono ?_
            rintro e wb ⟨rfl, rfl⟩
            have HMb := Lib.hid HMa.out
            clear HMa
            go_wp2_with fail
            refine (all_own HMb.out.l (by omega) (fun i _ => by have := cut_size (T i) 300; omega)).mono ?_
            rintro e wc ⟨h, hbc⟩
            have HMc := Lib.hid (HMb.out.later hbc)
            clear hbc HMb
            rcases h with ⟨_, he⟩ | ⟨⟨i, hi, hgt⟩, _⟩
            · rw [← HX.out] at he
              subst he
              go_wp2_with (at_builtin; refine wpList_append_own _ rfl (.tmp 76) (.tmp 78) 22 rfl w.heap.size 9 i9 (.string ⟨#[]⟩) 1 16 Try.underlying22 hi9 hz9 hs9 hb9 rfl (by decide) _ _ _ rfl (HMc.out.l.alloc _) ⟨wc.heap.size, 0, none⟩ 1 1 [.string G] rfl rfl (cell_one_new _ _ _) (by simp [Value.oneCell']) (by unfold maxLen; omega) (by omega) (by have := HMc.out.bel.size; simp; omega) ?_; intro v' wq hown' hgrow hnil; clear hnil)
              have hlA := HMc.out.l.alloc (Obj.cells #[Value.string G] 9)
              have hbA := HMc.out.bel.alloc HMc.out.bel.size (Obj.cells #[Value.string G] 9)
              have hbq := hbA.grown hgrow hbA.size (fun k e => (hlA.lt k e).1)
              rw [LP_push] at hown'
              have Hown := Lib.hid hown'
              have Hbq := Lib.hid hbq
              clear hlA hbA hgrow hbq hown' HMc
              obtain ⟨ao2, lc2, rfl⟩ := own_shapeP Hown.out
              refine (all_own Hown.out (by omega) (fun i _ => Tg_le T G j (by have := HG.out; have := HN.out; omega) i)).mono ?_
              rintro e wd ⟨h, hbd⟩
              have Hbd := Lib.hid (Hbq.out.trans (hbd.mono Hbq.out.size))
              clear hbd Hbq Hown
              rcases h with ⟨hall, _⟩ | ⟨_, he⟩
              · have := hall j (by omega)
                simp only [Tg, Nat.lt_irrefl, if_false] at this
                omega
              · subst he
                go_wp2_with fail
                go_ret
                exact ⟨rfl, Hbd.out⟩
            · have := cut_size (T i) 300
              omega
      · go_wp2_with fail
        all_goals
          by_cases hgs : G.size ≤ 65535
          · refine (put_any G hgs _).mono ?_
            rintro e wa ⟨rfl, hba⟩
            have HMa := Lib.hid ((HM.out.alloc _).later hba)
            clear hba HM hmk hcv
            go_wp2_with fail
            refine (rput_any G hgs _).mono ?_
            rintro e wb ⟨rfl, hbb⟩
            have HMb := Lib.hid (HMa.out.later hbb)
            clear hbb HMa
            go_wp2_with fail
            refine (all_own HMb.out.l (by omega) (fun i _ => by have := cut_size (T i) 300; omega)).mono ?_
            rintro e wc ⟨h, hbc⟩
            have HMc := Lib.hid (HMb.out.later hbc)
            clear hbc HMb
            rcases h with ⟨_, he⟩ | ⟨⟨i, hi, hgt⟩, _⟩
            · rw [← HX.out] at he
              subst he
              go_wp2_with (at_builtin; refine wpList_append_own _ rfl (.tmp 76) (.tmp 78) 22 rfl w.heap.size 9 i9 (.string ⟨#[]⟩) 1 16 Try.underlying22 hi9 hz9 hs9 hb9 rfl (by decide) _ _ _ rfl (HMc.out.l.alloc _) ⟨wc.heap.size, 0, none⟩ 1 1 [.string G] rfl rfl (cell_one_new _ _ _) (by simp [Value.oneCell']) (by unfold maxLen; omega) (by omega) (by have := HMc.out.bel.size; simp; omega) ?_; intro v' wq hown' hgrow hnil; clear hnil)
              have hlA := HMc.out.l.alloc (Obj.cells #[Value.string G] 9)
              have hbA := HMc.out.bel.alloc HMc.out.bel.size (Obj.cells #[Value.string G] 9)
              have hbq := hbA.grown hgrow hbA.size (fun k e => (hlA.lt k e).1)
              rw [LP_push] at hown'
              have Hown := Lib.hid hown'
              have Hbq := Lib.hid hbq
              clear hlA hbA hgrow hbq hown' HMc
              obtain ⟨ao2, lc2, rfl⟩ := own_shapeP Hown.out
              refine (all_own Hown.out (by omega) (fun i _ => Tg_le T G j (by have := HG.out; have := HN.out; omega) i)).mono ?_
              rintro e wd ⟨h, hbd⟩
              have Hbd := Lib.hid (Hbq.out.trans (hbd.mono Hbq.out.size))
              clear hbd Hbq Hown
              rcases h with ⟨_, he⟩ | ⟨⟨i, hi, hgt⟩, _⟩
              · have hD := CatL_push T G j
                rw [← HX.out, HG.out, HN.out] at hD
                revert he hD
                generalize (⟨(CatL (Tg T G j) (j + 1)).toArray⟩ : ByteArray) = D
                intro he hD
                subst he
                have HD := Lib.hid hD
                clear hD
                go_wp2_with fail
                have hD5 : ((D.size : Int) == X.size + 65502 + q) = true := by
                  have := HD.out
                  simp; omega
                rw [hD5]
                go_ret
                exact ⟨rfl, Hbd.out⟩
              · have : (Tg T G j i).size ≤ 65535 := by
                  unfold Tg
                  split
                  · have := cut_size (T i) 300; omega
                  · exact hgs
                omega
            · have := cut_size (T i) 300
              omega
          · refine (put_great G (by omega) (by have := HG.out; have := HN.out; omega) _).mono ?_
            rintro e wa ⟨rfl, rfl⟩
            have HMa := Lib.hid (HM.out.alloc (Obj.cells (madeCells #[Value.int IntKind.u8 0] N) 5))
            clear HM hmk hcv
            go_wp2_with fail
            refine (rput_great G (by omega) (by have := HG.out; have := HN.out; omega) _).mono ?_
            rintro e wb ⟨rfl, rfl⟩
            have HMb := Lib.hid HMa.out
            clear HMa
            go_wp2_with fail
            refine (all_own HMb.out.l (by omega) (fun i _ => by have := cut_size (T i) 300; omega)).mono ?_
            rintro e wc ⟨h, hbc⟩
            have HMc := Lib.hid (HMb.out.later hbc)
            clear hbc HMb
            rcases h with ⟨_, he⟩ | ⟨⟨i, hi, hgt⟩, _⟩
            · rw [← HX.out] at he
              subst he
              go_wp2_with (at_builtin; refine wpList_append_own _ rfl (.tmp 76) (.tmp 78) 22 rfl w.heap.size 9 i9 (.string ⟨#[]⟩) 1 16 Try.underlying22 hi9 hz9 hs9 hb9 rfl (by decide) _ _ _ rfl (HMc.out.l.alloc _) ⟨wc.heap.size, 0, none⟩ 1 1 [.string G] rfl rfl (cell_one_new _ _ _) (by simp [Value.oneCell']) (by unfold maxLen; omega) (by omega) (by have := HMc.out.bel.size; simp; omega) ?_; intro v' wq hown' hgrow hnil; clear hnil)
              have hlA := HMc.out.l.alloc (Obj.cells #[Value.string G] 9)
              have hbA := HMc.out.bel.alloc HMc.out.bel.size (Obj.cells #[Value.string G] 9)
              have hbq := hbA.grown hgrow hbA.size (fun k e => (hlA.lt k e).1)
              rw [LP_push] at hown'
              have Hown := Lib.hid hown'
              have Hbq := Lib.hid hbq
              clear hlA hbA hgrow hbq hown' HMc
              obtain ⟨ao2, lc2, rfl⟩ := own_shapeP Hown.out
              refine (all_own Hown.out (by omega) (fun i _ => Tg_le T G j (by have := HG.out; have := HN.out; omega) i)).mono ?_
              rintro e wd ⟨h, hbd⟩
              have Hbd := Lib.hid (Hbq.out.trans (hbd.mono Hbq.out.size))
              clear hbd Hbq Hown
              rcases h with ⟨hall, _⟩ | ⟨_, he⟩
              · have := hall j (by omega)
                simp only [Tg, Nat.lt_irrefl, if_false] at this
                omega
              · subst he
                go_wp2_with fail
                go_ret
                exact ⟨rfl, Hbd.out⟩
            · have := cut_size (T i) 300
              omega
end Go.Proofs.Ytnfabjaabhmjjaa
