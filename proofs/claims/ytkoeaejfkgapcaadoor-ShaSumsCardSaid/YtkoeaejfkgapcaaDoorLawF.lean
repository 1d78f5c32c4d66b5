/-
  ShaParts, walked.
-/
import Derived.Test.YtkoeaejfkgapcaaDoorLawE
import Derived.Test.YtkoeaejfkgapcaaDoorFreeP
import Derived.Lib.SmallJoins
namespace Go.Proofs.YtkoeaejfkgapcaaDoor
open Go.RowKit
set_option linter.unusedVariables false

theorem info9p : (Tryd.prog.info? 9).map (fun i => (i.zero, i.size, i.bytes)) = some (some (.string ⟨#[]⟩), 1, 16) := by kernel_rfl
/-- The first k texts; as values. -/
def XS (T : Nat → ByteArray) (k : Nat) : List ByteArray := (List.range k).map T
def LP (T : Nat → ByteArray) (k : Nat) : List Value := (List.range k).map fun i => .string (T i)
theorem LP_succ (T : Nat → ByteArray) (k : Nat) : LP T (k + 1) = LP T k ++ [.string (T k)] := by simp [LP, List.range_succ]
theorem LP_get (T : Nat → ByteArray) (m i : Nat) (h : i < m) : (LP T m)[i]? = some (.string (T i)) := by simp [LP, h]
theorem XS_length (T : Nat → ByteArray) (k : Nat) : (XS T k).length = k := by simp [XS]
theorem XS_get (T : Nat → ByteArray) (k j : Nat) (x : ByteArray) (h : (XS T k)[j]? = some x) : j < k ∧ x = T j := by
  have hj : j < k := by have := (List.getElem?_eq_some_iff.1 h).1; rwa [XS_length] at this
  simp [XS, hj] at h
  exact ⟨hj, h.symm⟩
/-- All the texts, one behind the other. -/
def JT (T : Nat → ByteArray) (k : Nat) : List UInt8 := joined (XS T k)
theorem JT_succ (T : Nat → ByteArray) (k : Nat) : JT T (k + 1) = JT T k ++ (T k).data.toList := by simp [JT, joined, XS, List.range_succ]
theorem JT_le (T : Nat → ByteArray) (k n : Nat) (h : ∀ i, (T i).size ≤ n) : (JT T k).length ≤ n * k := by
  induction k with
  | zero => simp [JT, joined, XS]
  | succ k ih =>
    have h1 := h k
    have h2 : (T k).data.toList.length = (T k).size := Array.length_toList
    rw [JT_succ, List.length_append, Nat.mul_succ]; omega
theorem JT_text (T : Nat → ByteArray) (k : Nat) : (⟨(JT T k).toArray⟩ : ByteArray) ++ T k = ⟨(JT T (k + 1)).toArray⟩ := by
  apply ByteArray.ext
  rw [ByteArray.data_append, JT_succ]
  apply Array.toList_inj.1
  rw [Array.toList_append]
theorem own_laterP {w w' : World} {base e n : Nat} {v : Value} {xs : List Value} (h : w.ownsRow base e 1 v n xs) (hb : Below w.heap.size w w') : w'.ownsRow base e 1 v n xs :=
  h.kept (row := none) ⟨hb.os, hb.tape, hb.output, hb.size, fun k hk _ => hb.block k hk⟩ (by cases v.ownBlock <;> simp)
/-- What the loop keeps. -/
structure Got (w : World) (T : Nat → ByteArray) (k : Nat) (lv : Value) (wr : World) : Prop where
  l : wr.ownsRow w.heap.size 9 1 lv k (LP T k)
  bel : Below w.heap.size w wr
theorem Got.later {w : World} {T : Nat → ByteArray} {k : Nat} {lv : Value} {wr wr' : World} (h : Got w T k lv wr) (hb : Below wr.heap.size wr wr') : Got w T k lv wr' :=
  ⟨own_laterP h.l hb, h.bel.trans (hb.mono h.bel.size)⟩
theorem sum_got {w : World} {T : Nat → ByteArray} {k : Nat} {ao : Option Addr} {c : Nat} {wr : World} (h : Got w T k (.slice ao k c) wr) (hk : k ≤ 12) (hT : ∀ i, (T i).size ≤ 100) (htab : TabIn wr) :
    Calls Tryd.prog 16 #[.slice ao k c] wr fun e w' => e = .returned (.agg (rowB (sumB (JT T k)) 32)) ∧ Below wr.heap.size wr w' := by
  rcases Nat.eq_zero_or_pos k with h0 | h0
  · subst h0
    exact sum_none c ao wr htab
  · obtain ⟨g, c', hg⟩ := Joins.ownsRow_form h.l h0
    obtain ⟨rfl, rfl⟩ : ao = some ⟨g, 0, none⟩ ∧ c = c' := by cases hg; exact ⟨rfl, rfl⟩
    have hl := JT_le T k 100 hT
    have hcap : k ≤ c := by
      rcases h.l.2 with ⟨e, _⟩ | ⟨g2, cap, cur, e, _, _, hn, _⟩
      · cases e
      · cases e; exact hn
    have := sum_many g 0 c (XS T k) wr (fun j x hx => by
      obtain ⟨hj, rfl⟩ := XS_get T k j x hx
      rw [Nat.zero_add, h.l.cellAt j (by omega)]; exact LP_get T k j hj) (h.l.lt g rfl).2 (by rw [XS_length]; omega) (by rw [XS_length]; exact hcap) (by show (JT T k).length ≤ _; omega) htab
    rw [XS_length] at this
    exact this
theorem point_got {w : World} {T : Nat → ByteArray} {k : Nat} {ao : Option Addr} {c : Nat} {wr : World} (h : Got w T k (.slice ao k c) wr) (hk : k ≤ 12) (hT : ∀ i, (T i).size ≤ 100) (htab : TabIn wr) :
    Calls Tryd.prog 18 #[.slice ao k c] wr fun e w' => e = .returned (.int .u64 (pv (sumB (JT T k)) 8)) ∧ Below wr.heap.size wr w' := by
  rcases Nat.eq_zero_or_pos k with h0 | h0
  · subst h0
    exact point_none c ao wr htab
  · obtain ⟨g, c', hg⟩ := Joins.ownsRow_form h.l h0
    obtain ⟨rfl, rfl⟩ : ao = some ⟨g, 0, none⟩ ∧ c = c' := by cases hg; exact ⟨rfl, rfl⟩
    have hl := JT_le T k 100 hT
    have hcap : k ≤ c := by
      rcases h.l.2 with ⟨e, _⟩ | ⟨g2, cap, cur, e, _, _, hn, _⟩
      · cases e
      · cases e; exact hn
    have := point_many g 0 c (XS T k) wr (fun j x hx => by
      obtain ⟨hj, rfl⟩ := XS_get T k j x hx
      rw [Nat.zero_add, h.l.cellAt j (by omega)]; exact LP_get T k j hj) (h.l.lt g rfl).2 (by rw [XS_length]; omega) (by rw [XS_length]; exact hcap) (by show (JT T k).length ≤ _; omega) htab
    rw [XS_length] at this
    exact this
theorem own_shapeP {w : World} {base e n : Nat} {v : Value} {xs : List Value} (h : w.ownsRow base e 1 v n xs) : ∃ ao c, v = .slice ao n c := by
  rcases Joins.ownsRow_forms h with ⟨rfl, rfl⟩ | ⟨g, c, rfl⟩
  · exact ⟨_, _, rfl⟩
  · exact ⟨_, _, rfl⟩
/-- A point's bytes are the hash's. -/
theorem pv_div (f : Nat → UInt8) : ∀ m i, pv f (i + 1 + m) / 256 ^ m % 256 = (f i).toNat
  | 0, i => by
    have := (f i).toNat_lt
    simp only [Nat.pow_zero, Nat.div_one, pv]; omega
  | m + 1, i => by
    have ih := pv_div f m i
    have hb := (f (i + 1 + m)).toNat_lt
    rw [show i + 1 + (m + 1) = (i + 1 + m) + 1 by omega, pv, Nat.pow_succ, Nat.mul_comm (256 ^ m) 256, ← Nat.div_div_eq_div_mul]
    rw [show (pv f (i + 1 + m) * 256 + (f (i + 1 + m)).toNat) / 256 = pv f (i + 1 + m) by omega]
    exact ih
theorem pv_byte (f : Nat → UInt8) (i : Nat) (h : i < 8) : ((pv f 8 : Nat) : Int) / 2 ^ (56 - 8 * i) % 256 = ((f i).toNat : Int) := by
  have := pv_div f (7 - i) i
  rw [show i + 1 + (7 - i) = 8 by omega] at this
  have e : (2 : Int) ^ (8 * (7 - i)) = ((256 ^ (7 - i) : Nat) : Int) := by
    rw [show (256 : Nat) = 2 ^ 8 by decide, ← Nat.pow_mul]; simp
  rw [show 56 - 8 * i = 8 * (7 - i) by omega, e, ← this]
  simp
/-- What each operation of the last statement gives. -/
def SP (f : Nat → UInt8) (X : ByteArray) : Nat → Value → World → Prop
  | 0, v, _ => v = .bool true
  | 1, v, _ => v = .bool true
  | 2, v, _ => v = .agg (rowB f 32)
  | 3, v, _ => v = .string X
  | 4, v, w => ∃ g, v = .slice (some ⟨g, 0, none⟩) 1 1 ∧ w.cell? ⟨g, 0, none⟩ = some (.string X)
  | 5, v, _ => v = .agg (rowB f 32)
  | 6, v, _ => v = .bool true
  | 7, v, _ => v = .bool true
  | 8, v, _ => v = .bool true
  | 9, v, _ => v = .int .u64 (pv f 8)
  | 10, v, _ => v = .string X
  | 11, v, w => ∃ g, v = .slice (some ⟨g, 0, none⟩) 1 1 ∧ w.cell? ⟨g, 0, none⟩ = some (.string X)
  | 12, v, _ => v = .int .u64 (pv f 8)
  | _, v, _ => v = .bool true
theorem SP_later (f : Nat → UInt8) (X : ByteArray) (w w' : World) (j : Nat) (u : Value) (h : Below w.heap.size w w') (hs : SP f X j u w) : SP f X j u w' := by
  unfold SP at hs ⊢
  split at hs <;> first
    | exact hs
    | (obtain ⟨g, h1, h2⟩ := hs
       exact ⟨g, h1, (h.cell (p := ⟨g, 0, none⟩) (block_lt_of_cell h2)).trans h2⟩)
theorem wp_eql33 {a : Act} {w : World} {K : Act → World → Prop} {Q : Exit → Act → World → Prop} (o : Oper) (x y : Operand) (ty2 : TypeId) (ho : o.op = .binOp .eql 33 x y ty2) (xs ys : Array Value)
    (hx : a.eval x = .agg xs) (hy : a.eval y = .agg ys) (he : (Op.equalIn 10000 33 (.agg xs) (.agg ys)).run Tryd.prog w = .ok true w) (h : K (a.put o.dst (.bool true)) w) : Oper.wp Tryd.prog o a w K Q := by
  have hr : (execOp a.eval o).run Tryd.prog w = .ok (.value (.bool true)) w := by
    unfold execOp
    simp only [ho, hx, hy]
    go_simp
  unfold Oper.wp
  rw [hr]
  exact h
attribute [local irreducible] rowB sumB pv JT
set_option maxRecDepth 100000 in
set_option maxHeartbeats 1600000 in
theorem parts_walk (pa : Option Addr) (len cap : Nat) (T : Nat → ByteArray) (w : World) (hlen : len ≤ maxLen)
    (hp : len = 0 ∨ ∃ b off, pa = some ⟨b, off, none⟩ ∧ b < w.heap.size ∧ ∀ i, i < len → w.cell? ⟨b, off + i, none⟩ = some (.string (T i)) ∧ (T i).size ≤ maxLen) (htab : TabIn w) :
    Calls Tryd.prog 7 #[.slice pa len cap] w fun e w' => e = .returned (.bool true) ∧ Below w.heap.size w w' := by
  obtain ⟨i9, hi9, hz9, hs9, hb9⟩ := info_parts info9p
  unfold maxLen at hlen
  have hal : ∀ w : World, (zeroValue 33).run Tryd.prog w = .ok (.agg (Array.replicate 32 (.int .u8 0))) w := fun w => zero33 w
  have Hp := Lib.hid hp
  have Htab := Lib.hid htab
  clear hp htab
  go_enter Tryd.func7, Tryd.ntmps7
  go_wp2_with fail
  refine (awake_any _ Htab.out).mono ?_
  rintro e w1 ⟨rfl, hb1⟩
  have Hb1 := Lib.hid hb1; clear hb1
  go_wp2_with fail
  go_loopw [4, 5, 6] (fun lv av i wr => ∃ j : Nat, j ≤ len ∧ j ≤ 12 ∧ i = .int .i64 j ∧ av = .string ⟨(JT (fun i => cut (T i) 100) j).toArray⟩ ∧ Got w (fun i => cut (T i) 100) j lv wr) (fun _ _ i _ => 12 - (intOf i).toNat)
  case atStart => exact ⟨0, by omega, by omega, rfl, by unfold JT; rfl, World.ownsRow_nil _ _ _ _, Hb1.out⟩
  case round =>
    obtain ⟨j, hj1, hj2, rfl, rfl, hM⟩ := hrel
    have HM := Lib.hid hM; clear hM
    have hA1 : (⟨(JT (fun i => cut (T i) 100) j).toArray⟩ : ByteArray).size ≤ 100 * j := by
      have := JT_le (fun i => cut (T i) 100) j 100 (fun i => cut_size _ _)
      show (JT (fun i => cut (T i) 100) j).toArray.size ≤ _
      simpa using this
    by_cases hlt : j < len ∧ j < 12
    · obtain ⟨hl1, hl2⟩ := hlt
      rcases Hp.out with h0 | ⟨b, off, rfl, hb, hcell⟩
      · omega
      · obtain ⟨c0, ht⟩ := hcell j hl1
        unfold maxLen at ht
        have d0 := (HM.out.bel.cell (p := ⟨b, off + j, none⟩) hb).trans c0
        clear c0 hcell
        by_cases h : 100 < (T j).size
        · obtain ⟨t, htc⟩ : ∃ t, cut (T j) 100 = t := ⟨_, rfl⟩
          have hx : (T j).extract 0 100 = t := by rw [← htc]; exact cut_long _ _ h
          have hz : t.size ≤ 100 := by rw [← htc]; exact cut_size _ _
          have Htc := Lib.hid htc
          clear htc
          go_wp2_with (at_builtin; refine wpList_append_own _ rfl (.tmp 31) (.tmp 33) 40 rfl w.heap.size 9 i9 (.string ⟨#[]⟩) 1 16 Tryd.underlying40 hi9 hz9 hs9 hb9 rfl (by decide) _ _ _ rfl (HM.out.l.alloc _) ⟨wr.heap.size, 0, none⟩ 1 1 [.string t] rfl rfl (cell_one_new _ _ _) (by simp [Value.oneCell']) (by unfold maxLen; omega) (by omega) (by have := HM.out.bel.size; simp; omega) ?_; intro v' wq hown' hgrow hnil; clear hnil)
          have hlA := HM.out.l.alloc (Obj.cells #[Value.string t] 9)
          have hbA := HM.out.bel.alloc HM.out.bel.size (Obj.cells #[Value.string t] 9)
          have hM1 : Got w (fun i => cut (T i) 100) (j + 1) v' wq := ⟨by rw [LP_succ]; show wq.ownsRow w.heap.size 9 1 v' (j + 1) (LP (fun i => cut (T i) 100) j ++ [.string (cut (T j) 100)]); rw [Htc.out]; exact hown', hbA.grown hgrow hbA.size (fun k e => (hlA.lt k e).1)⟩
          have hcat : (⟨(JT (fun i => cut (T i) 100) j).toArray⟩ : ByteArray) ++ t = ⟨(JT (fun i => cut (T i) 100) (j + 1)).toArray⟩ := by rw [← JT_text]; show _ = _ ++ cut (T j) 100; rw [Htc.out]
          have HM1 := Lib.hid hM1
          have Hcat := Lib.hid hcat
          clear hlA hbA hown' hgrow hM1 HM d0 hcat
          go_wp2_with fail
          rw [Hcat.out]
          exact ⟨⟨j + 1, by omega, by omega, by go_num, rfl, HM1.out⟩, by simp [intOf]; omega⟩
        · have hz : (T j).size ≤ 100 := by omega
          have Htc := Lib.hid (cut_short (T j) 100 h).symm
          go_wp2_with (at_builtin; refine wpList_append_own _ rfl (.tmp 31) (.tmp 33) 40 rfl w.heap.size 9 i9 (.string ⟨#[]⟩) 1 16 Tryd.underlying40 hi9 hz9 hs9 hb9 rfl (by decide) _ _ _ rfl (HM.out.l.alloc _) ⟨wr.heap.size, 0, none⟩ 1 1 [.string (T j)] rfl rfl (cell_one_new _ _ _) (by simp [Value.oneCell']) (by unfold maxLen; omega) (by omega) (by have := HM.out.bel.size; simp; omega) ?_; intro v' wq hown' hgrow hnil; clear hnil)
          have hlA := HM.out.l.alloc (Obj.cells #[Value.string (T j)] 9)
          have hbA := HM.out.bel.alloc HM.out.bel.size (Obj.cells #[Value.string (T j)] 9)
          have hM1 : Got w (fun i => cut (T i) 100) (j + 1) v' wq := ⟨by rw [LP_succ]; show wq.ownsRow w.heap.size 9 1 v' (j + 1) (LP (fun i => cut (T i) 100) j ++ [.string (cut (T j) 100)]); rw [Htc.out]; exact hown', hbA.grown hgrow hbA.size (fun k e => (hlA.lt k e).1)⟩
          have hcat : (⟨(JT (fun i => cut (T i) 100) j).toArray⟩ : ByteArray) ++ (T j) = ⟨(JT (fun i => cut (T i) 100) (j + 1)).toArray⟩ := by rw [← JT_text]; show _ = _ ++ cut (T j) 100; rw [Htc.out]
          have HM1 := Lib.hid hM1
          have Hcat := Lib.hid hcat
          clear hlA hbA hown' hgrow hM1 HM d0 hcat
          go_wp2_with fail
          rw [Hcat.out]
          exact ⟨⟨j + 1, by omega, by omega, by go_num, rfl, HM1.out⟩, by simp [intOf]; omega⟩
    · obtain ⟨ao, c, rfl⟩ := own_shapeP HM.out.l
      have hT : ∀ i, ((fun i => cut (T i) 100) i).size ≤ 100 := fun i => cut_size _ _
      have HT := Lib.hid hT
      clear hT
      have Hsum := Lib.hid (fun wr (h : Got w (fun i => cut (T i) 100) j (.slice ao j c) wr) => sum_got h hj2 HT.out)
      have Hpt := Lib.hid (fun wr (h : Got w (fun i => cut (T i) 100) j (.slice ao j c) wr) => point_got h hj2 HT.out)
      have Hs1 := Lib.hid (fun bk w hc ht => sum_one bk ⟨(JT (fun i => cut (T i) 100) j).toArray⟩ w hc (by omega) ht)
      have Hp1 := Lib.hid (fun bk w hc ht => point_one bk ⟨(JT (fun i => cut (T i) 100) j).toArray⟩ w hc (by omega) ht)
      generalize hf : sumB (JT (fun i => cut (T i) 100) j) = f at Hsum Hpt
      rw [show (⟨(JT (fun i => cut (T i) 100) j).toArray⟩ : ByteArray).data.toList = JT (fun i => cut (T i) 100) j from rfl, hf] at Hs1 Hp1
      generalize (⟨(JT (fun i => cut (T i) 100) j).toArray⟩ : ByteArray) = X at Hs1 Hp1 hA1 ⊢
      clear hf
      by_cases h1 : j < len
      · have hd1 : decide ((j : Int) < 12) = false := by simp; omega
        go_wp2_with fail
        refine (Hsum.out wr HM.out (Htab.out.later HM.out.bel)).mono ?_
        rintro e w2 ⟨rfl, hb2⟩
        have HM2 := Lib.hid (HM.out.later hb2)
        have Hz2 := Lib.hid (Nat.le_trans HM.out.bel.size hb2.size)
        clear hb2 HM
        have hs33 : (Tryd.prog.info? 33).map (·.size) = some (rowB f 32).size := by rw [rowB_size]; exact size33
        go_wp2_with (refine wpList_store_row rfl 33 (.tmp 8) (.tmp 39) rfl w2.heap.size (rowB f 32) rfl rfl 33 (Array.replicate 32 (.int .u8 0)) (heap_alloc_last w2 _) hs33 (by rw [rowB_size]; rfl) (rowB_one _ _) ?_; rw [World.setRow_alloc_new])
        clear hs33 hal
        have HM3 := Lib.hid (HM2.out.later ((Below.refl _ _).alloc (Nat.le_refl _) (.cells (rowB f 32) 33)))
        refine (Hpt.out _ HM3.out (Htab.out.later HM3.out.bel)).mono ?_
        rintro e w3 ⟨rfl, hb3⟩
        have hd : w3.heap[w2.heap.size]? = some (.cells (rowB f 32) 33 (0, 0)) := (hb3.block _ (by simp)).trans (heap_alloc_last w2 _)
        have hb : Below w.heap.size w w3 := HM3.out.bel.trans (hb3.mono HM3.out.bel.size)
        have HD := Lib.hid hd
        have HB := Lib.hid hb
        have HDl := Lib.hid (show w.heap.size ≤ w2.heap.size from Hz2.out)
        clear hd hb hb3 HM2 HM3 Hsum Hpt Hz2
        generalize w2.heap.size = D at HD HDl ⊢
        go_wp2_with fail
        go_loopw [10] (fun i wr' => ∃ j : Nat, j ≤ 8 ∧ i = .int .i64 j ∧ wr'.heap[D]? = some (.cells (rowB f 32) 33 (0, 0)) ∧ Below w.heap.size w wr') (fun i _ => 8 - (intOf i).toNat)
        case atStart => exact ⟨0, by omega, rfl, HD.out, HB.out⟩
        case round =>
          obtain ⟨q, hq, rfl, hd, hb⟩ := hrel
          have HD' := Lib.hid hd
          have HB' := Lib.hid hb
          clear hd hb HD HB
          by_cases hql : q < 8
          · have b0 : (q : Int) < 8 := by omega
            have e0 : wr.cell? ⟨D, q, none⟩ = some (.int .u8 ((f q).toNat : Int)) := by
              rw [cell_of_row wr _ _ _ 33 (0, 0) HD'.out]; exact rowB_get _ _ _ (by omega) (by omega)
            have hpv := pv_byte f q hql
            go_wp2_with fail
            exact ⟨⟨q + 1, by omega, by go_num, HD'.out, HB'.out⟩, by simp [intOf]; omega⟩
          · obtain rfl : q = 8 := by omega
            go_wp2_with fail
            have hq := eqIn_rowB f
            refine wp_region_pred (by kernel_rfl) [57, 58, 59, 60, 61, 62, 63, 64, 65, 66, 67, 68, 69, 70, 71, 2] (SP f X) (fun w' => Below w.heap.size w w' ∧ w'.heap[D]? = some (.cells (rowB f 32) 33 (0, 0))) (fun w w' => Below w.heap.size w w') (SP_later f X)
              (by kernel_rfl) rfl (by decide) (by simp) ⟨HB'.out.trans ⟨rfl, rfl, rfl, Nat.le_refl _, fun _ _ => rfl⟩, HD'.out⟩ ?_ ?_
            · intro i o a wz ho hI hdf hsz hdep hoth K hK
              have e3 : a.tmps[3]? = some (.bool true) := by rw [hoth 3 (by decide)]; rfl
              have e5 : a.tmps[5]? = some (.string X) := by rw [hoth 5 (by decide)]; rfl
              have e8 : a.tmps[8]? = some (.pointer (some ⟨D, 0, none⟩)) := by rw [hoth 8 (by decide)]; rfl
              have e9 : a.tmps[9]? = some (.int .u64 (pv f 8)) := by rw [hoth 9 (by decide)]; rfl
              clear hoth hsz hdf
              match i, ho with
              | 0, ho =>
                obtain rfl := Option.some.inj ho
                clear ho
                simp [Region.binds, SP] at hdep
                go_simp
                exact hK _ wz hI (Below.refl _ _) rfl
              | 1, ho =>
                obtain rfl := Option.some.inj ho
                clear ho
                simp [Region.binds, SP] at hdep
                go_simp
                exact hK _ wz hI (Below.refl _ _) rfl
              | 2, ho =>
                obtain rfl := Option.some.inj ho
                clear ho
                simp [Region.binds, SP] at hdep
                rw [if_pos (by simp [Region.wanted, yielded, hdep])]
                refine wp_load_row 33 (.tmp 8) rfl D (by simp [Act.eval, e8]) 33 (rowB f 32) (0, 0) (.array 32 5) hI.2 Tryd.underlying33 rfl (by rw [rowB_size]; exact size33) ?_
                exact hK _ wz hI (Below.refl _ _) rfl
              | 3, ho =>
                obtain rfl := Option.some.inj ho
                clear ho
                simp [Region.binds, SP] at hdep
                go_simp
                exact hK _ wz hI (Below.refl _ _) rfl
              | 4, ho =>
                obtain rfl := Option.some.inj ho
                clear ho
                simp [Region.binds, SP] at hdep
                go_simp
                have hl := (Array.getElem?_eq_some_iff.1 hI.2).1
                exact hK _ _ ⟨hI.1.alloc hI.1.size _, (Lib.alloc_old wz _ D hl).trans hI.2⟩ ((Below.refl _ _).alloc (Nat.le_refl _) _) ⟨_, rfl, cell_one wz X 9⟩
              | 5, ho =>
                obtain rfl := Option.some.inj ho
                clear ho
                simp [Region.binds, SP] at hdep
                obtain ⟨⟨v, hv, g, rfl, hc⟩, hg⟩ := hdep
                go_simp
                have hl := (Array.getElem?_eq_some_iff.1 hI.2).1
                refine (Hs1.out g wz hc (Htab.out.later hI.1)).mono ?_
                rintro e w2 ⟨rfl, hb2⟩
                exact hK _ w2 ⟨hI.1.trans (hb2.mono hI.1.size), (hb2.block D hl).trans hI.2⟩ hb2 rfl
              | 6, ho =>
                obtain rfl := Option.some.inj ho
                clear ho
                simp [Region.binds, SP] at hdep
                obtain ⟨h59, h62, hg⟩ := hdep
                rw [if_pos (by simp [Region.wanted, yielded, hg])]
                refine wp_eql33 _ (.tmp 59) (.tmp 62) 33 rfl (rowB f 32) (rowB f 32) (by simp [Act.eval, h59]) (by simp [Act.eval, h62]) (hq wz) ?_
                exact hK _ wz hI (Below.refl _ _) rfl
              | 7, ho =>
                obtain rfl := Option.some.inj ho
                clear ho
                simp [Region.binds, SP] at hdep
                go_simp
                exact hK _ wz hI (Below.refl _ _) rfl
              | 8, ho =>
                obtain rfl := Option.some.inj ho
                clear ho
                simp [Region.binds, SP] at hdep
                go_simp
                exact hK _ wz hI (Below.refl _ _) rfl
              | 9, ho =>
                obtain rfl := Option.some.inj ho
                clear ho
                simp [Region.binds, SP] at hdep
                go_simp
                exact hK _ wz hI (Below.refl _ _) rfl
              | 10, ho =>
                obtain rfl := Option.some.inj ho
                clear ho
                simp [Region.binds, SP] at hdep
                go_simp
                exact hK _ wz hI (Below.refl _ _) rfl
              | 11, ho =>
                obtain rfl := Option.some.inj ho
                clear ho
                simp [Region.binds, SP] at hdep
                go_simp
                have hl := (Array.getElem?_eq_some_iff.1 hI.2).1
                exact hK _ _ ⟨hI.1.alloc hI.1.size _, (Lib.alloc_old wz _ D hl).trans hI.2⟩ ((Below.refl _ _).alloc (Nat.le_refl _) _) ⟨_, rfl, cell_one wz X 9⟩
              | 12, ho =>
                obtain rfl := Option.some.inj ho
                clear ho
                simp [Region.binds, SP] at hdep
                obtain ⟨⟨v, hv, g, rfl, hc⟩, hg⟩ := hdep
                go_simp
                have hl := (Array.getElem?_eq_some_iff.1 hI.2).1
                refine (Hp1.out g wz hc (Htab.out.later hI.1)).mono ?_
                rintro e w2 ⟨rfl, hb2⟩
                exact hK _ w2 ⟨hI.1.trans (hb2.mono hI.1.size), (hb2.block D hl).trans hI.2⟩ hb2 rfl
              | 13, ho =>
                obtain rfl := Option.some.inj ho
                clear ho
                simp [Region.binds, SP] at hdep
                go_simp
                exact hK _ wz hI (Below.refl _ _) rfl
              | 14, ho =>
                obtain rfl := Option.some.inj ho
                clear ho
                simp [Region.binds, SP] at hdep
                go_simp
                exact hK _ wz hI (Below.refl _ _) rfl
              | 15, ho =>
                obtain rfl := Option.some.inj ho
                clear ho
                simp [Region.binds, SP] at hdep
                go_simp
                exact hK _ wz hI (Below.refl _ _) rfl
              | i + 16, ho => simp at ho
            · intro a wz hI hdf hsz hall hoth
              obtain ⟨v, hv, hs⟩ := hall 15 (by decide)
              obtain rfl : v = .bool true := hs
              have hv' : a.tmps[2]? = some (.bool true) := hv
              obtain ⟨tm, df⟩ := a
              have hdf' : df = [] := hdf
              subst hdf'
              clear hall hoth hsz hdf hv
              go_wp2
              go_ret
              refine ⟨?_, hI.1⟩
              show Ending.returned (tm.getD 2 undef) = _
              rw [Array.getD_eq_getD_getElem?, show tm[2]? = some (.bool true) from hv']
              rfl
      · have hd1 : decide ((j : Int) < (len : Int)) = false := by simp; omega
        go_wp2_with fail
        refine (Hsum.out wr HM.out (Htab.out.later HM.out.bel)).mono ?_
        rintro e w2 ⟨rfl, hb2⟩
        have HM2 := Lib.hid (HM.out.later hb2)
        have Hz2 := Lib.hid (Nat.le_trans HM.out.bel.size hb2.size)
        clear hb2 HM
        have hs33 : (Tryd.prog.info? 33).map (·.size) = some (rowB f 32).size := by rw [rowB_size]; exact size33
        go_wp2_with (refine wpList_store_row rfl 33 (.tmp 8) (.tmp 39) rfl w2.heap.size (rowB f 32) rfl rfl 33 (Array.replicate 32 (.int .u8 0)) (heap_alloc_last w2 _) hs33 (by rw [rowB_size]; rfl) (rowB_one _ _) ?_; rw [World.setRow_alloc_new])
        clear hs33 hal
        have HM3 := Lib.hid (HM2.out.later ((Below.refl _ _).alloc (Nat.le_refl _) (.cells (rowB f 32) 33)))
        refine (Hpt.out _ HM3.out (Htab.out.later HM3.out.bel)).mono ?_
        rintro e w3 ⟨rfl, hb3⟩
        have hd : w3.heap[w2.heap.size]? = some (.cells (rowB f 32) 33 (0, 0)) := (hb3.block _ (by simp)).trans (heap_alloc_last w2 _)
        have hb : Below w.heap.size w w3 := HM3.out.bel.trans (hb3.mono HM3.out.bel.size)
        have HD := Lib.hid hd
        have HB := Lib.hid hb
        have HDl := Lib.hid (show w.heap.size ≤ w2.heap.size from Hz2.out)
        clear hd hb hb3 HM2 HM3 Hsum Hpt Hz2
        generalize w2.heap.size = D at HD HDl ⊢
        go_wp2_with fail
        go_loopw [10] (fun i wr' => ∃ j : Nat, j ≤ 8 ∧ i = .int .i64 j ∧ wr'.heap[D]? = some (.cells (rowB f 32) 33 (0, 0)) ∧ Below w.heap.size w wr') (fun i _ => 8 - (intOf i).toNat)
        case atStart => exact ⟨0, by omega, rfl, HD.out, HB.out⟩
        case round =>
          obtain ⟨q, hq, rfl, hd, hb⟩ := hrel
          have HD' := Lib.hid hd
          have HB' := Lib.hid hb
          clear hd hb HD HB
          by_cases hql : q < 8
          · have b0 : (q : Int) < 8 := by omega
            have e0 : wr.cell? ⟨D, q, none⟩ = some (.int .u8 ((f q).toNat : Int)) := by
              rw [cell_of_row wr _ _ _ 33 (0, 0) HD'.out]; exact rowB_get _ _ _ (by omega) (by omega)
            have hpv := pv_byte f q hql
            go_wp2_with fail
            exact ⟨⟨q + 1, by omega, by go_num, HD'.out, HB'.out⟩, by simp [intOf]; omega⟩
          · obtain rfl : q = 8 := by omega
            go_wp2_with fail
            have hq := eqIn_rowB f
            refine wp_region_pred (by kernel_rfl) [57, 58, 59, 60, 61, 62, 63, 64, 65, 66, 67, 68, 69, 70, 71, 2] (SP f X) (fun w' => Below w.heap.size w w' ∧ w'.heap[D]? = some (.cells (rowB f 32) 33 (0, 0))) (fun w w' => Below w.heap.size w w') (SP_later f X)
              (by kernel_rfl) rfl (by decide) (by simp) ⟨HB'.out.trans ⟨rfl, rfl, rfl, Nat.le_refl _, fun _ _ => rfl⟩, HD'.out⟩ ?_ ?_
            · intro i o a wz ho hI hdf hsz hdep hoth K hK
              have e3 : a.tmps[3]? = some (.bool true) := by rw [hoth 3 (by decide)]; rfl
              have e5 : a.tmps[5]? = some (.string X) := by rw [hoth 5 (by decide)]; rfl
              have e8 : a.tmps[8]? = some (.pointer (some ⟨D, 0, none⟩)) := by rw [hoth 8 (by decide)]; rfl
              have e9 : a.tmps[9]? = some (.int .u64 (pv f 8)) := by rw [hoth 9 (by decide)]; rfl
              clear hoth hsz hdf
              match i, ho with
              | 0, ho =>
                obtain rfl := Option.some.inj ho
                clear ho
                simp [Region.binds, SP] at hdep
                go_simp
                exact hK _ wz hI (Below.refl _ _) rfl
              | 1, ho =>
                obtain rfl := Option.some.inj ho
                clear ho
                simp [Region.binds, SP] at hdep
                go_simp
                exact hK _ wz hI (Below.refl _ _) rfl
              | 2, ho =>
                obtain rfl := Option.some.inj ho
                clear ho
                simp [Region.binds, SP] at hdep
                rw [if_pos (by simp [Region.wanted, yielded, hdep])]
                refine wp_load_row 33 (.tmp 8) rfl D (by simp [Act.eval, e8]) 33 (rowB f 32) (0, 0) (.array 32 5) hI.2 Tryd.underlying33 rfl (by rw [rowB_size]; exact size33) ?_
                exact hK _ wz hI (Below.refl _ _) rfl
              | 3, ho =>
                obtain rfl := Option.some.inj ho
                clear ho
                simp [Region.binds, SP] at hdep
                go_simp
                exact hK _ wz hI (Below.refl _ _) rfl
              | 4, ho =>
                obtain rfl := Option.some.inj ho
                clear ho
                simp [Region.binds, SP] at hdep
                go_simp
                have hl := (Array.getElem?_eq_some_iff.1 hI.2).1
                exact hK _ _ ⟨hI.1.alloc hI.1.size _, (Lib.alloc_old wz _ D hl).trans hI.2⟩ ((Below.refl _ _).alloc (Nat.le_refl _) _) ⟨_, rfl, cell_one wz X 9⟩
              | 5, ho =>
                obtain rfl := Option.some.inj ho
                clear ho
                simp [Region.binds, SP] at hdep
                obtain ⟨⟨v, hv, g, rfl, hc⟩, hg⟩ := hdep
                go_simp
                have hl := (Array.getElem?_eq_some_iff.1 hI.2).1
                refine (Hs1.out g wz hc (Htab.out.later hI.1)).mono ?_
                rintro e w2 ⟨rfl, hb2⟩
                exact hK _ w2 ⟨hI.1.trans (hb2.mono hI.1.size), (hb2.block D hl).trans hI.2⟩ hb2 rfl
              | 6, ho =>
                obtain rfl := Option.some.inj ho
                clear ho
                simp [Region.binds, SP] at hdep
                obtain ⟨h59, h62, hg⟩ := hdep
                rw [if_pos (by simp [Region.wanted, yielded, hg])]
                refine wp_eql33 _ (.tmp 59) (.tmp 62) 33 rfl (rowB f 32) (rowB f 32) (by simp [Act.eval, h59]) (by simp [Act.eval, h62]) (hq wz) ?_
                exact hK _ wz hI (Below.refl _ _) rfl
              | 7, ho =>
                obtain rfl := Option.some.inj ho
                clear ho
                simp [Region.binds, SP] at hdep
                go_simp
                exact hK _ wz hI (Below.refl _ _) rfl
              | 8, ho =>
                obtain rfl := Option.some.inj ho
                clear ho
                simp [Region.binds, SP] at hdep
                go_simp
                exact hK _ wz hI (Below.refl _ _) rfl
              | 9, ho =>
                obtain rfl := Option.some.inj ho
                clear ho
                simp [Region.binds, SP] at hdep
                go_simp
                exact hK _ wz hI (Below.refl _ _) rfl
              | 10, ho =>
                obtain rfl := Option.some.inj ho
                clear ho
                simp [Region.binds, SP] at hdep
                go_simp
                exact hK _ wz hI (Below.refl _ _) rfl
              | 11, ho =>
                obtain rfl := Option.some.inj ho
                clear ho
                simp [Region.binds, SP] at hdep
                go_simp
                have hl := (Array.getElem?_eq_some_iff.1 hI.2).1
                exact hK _ _ ⟨hI.1.alloc hI.1.size _, (Lib.alloc_old wz _ D hl).trans hI.2⟩ ((Below.refl _ _).alloc (Nat.le_refl _) _) ⟨_, rfl, cell_one wz X 9⟩
              | 12, ho =>
                obtain rfl := Option.some.inj ho
                clear ho
                simp [Region.binds, SP] at hdep
                obtain ⟨⟨v, hv, g, rfl, hc⟩, hg⟩ := hdep
                go_simp
                have hl := (Array.getElem?_eq_some_iff.1 hI.2).1
                refine (Hp1.out g wz hc (Htab.out.later hI.1)).mono ?_
                rintro e w2 ⟨rfl, hb2⟩
                exact hK _ w2 ⟨hI.1.trans (hb2.mono hI.1.size), (hb2.block D hl).trans hI.2⟩ hb2 rfl
              | 13, ho =>
                obtain rfl := Option.some.inj ho
                clear ho
                simp [Region.binds, SP] at hdep
                go_simp
                exact hK _ wz hI (Below.refl _ _) rfl
              | 14, ho =>
                obtain rfl := Option.some.inj ho
                clear ho
                simp [Region.binds, SP] at hdep
                go_simp
                exact hK _ wz hI (Below.refl _ _) rfl
              | 15, ho =>
                obtain rfl := Option.some.inj ho
                clear ho
                simp [Region.binds, SP] at hdep
                go_simp
                exact hK _ wz hI (Below.refl _ _) rfl
              | i + 16, ho => simp at ho
            · intro a wz hI hdf hsz hall hoth
              obtain ⟨v, hv, hs⟩ := hall 15 (by decide)
              obtain rfl : v = .bool true := hs
              have hv' : a.tmps[2]? = some (.bool true) := hv
              obtain ⟨tm, df⟩ := a
              have hdf' : df = [] := hdf
              subst hdf'
              clear hall hoth hsz hdf hv
              go_wp2
              go_ret
              refine ⟨?_, hI.1⟩
              show Ending.returned (tm.getD 2 undef) = _
              rw [Array.getD_eq_getD_getElem?, show tm[2]? = some (.bool true) from hv']
              rfl
end Go.Proofs.YtkoeaejfkgapcaaDoor
