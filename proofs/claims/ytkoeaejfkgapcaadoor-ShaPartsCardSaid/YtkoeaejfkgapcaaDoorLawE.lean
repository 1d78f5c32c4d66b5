/-
  ShaBlock, walked.
-/
import Derived.Test.YtkoeaejfkgapcaaDoorLawD
namespace Go.Proofs.YtkoeaejfkgapcaaDoor
open Go.RowKit
set_option linter.unusedVariables false

theorem init_lit : ((((((((Array.replicate 8 (Value.int .u32 0)).setIfInBounds 0 (.int .u32 1779033703)).setIfInBounds 1 (.int .u32 3144134277)).setIfInBounds 2 (.int .u32 1013904242)).setIfInBounds 3 (.int .u32 2773480762)).setIfInBounds 4 (.int .u32 1359893119)).setIfInBounds 5 (.int .u32 2600822924)).setIfInBounds 6 (.int .u32 528734635)).setIfInBounds 7 (.int .u32 1541459225) = row 8 init 8 := by kernel_rfl
theorem or_step (x y b : Nat) (h1 : x * 256 + b = y) (h2 : b < 256) (h3 : x * 256 + b < 4294967296) : bits .or .u32 (IntKind.u32.wrap ((x : Int) * 256)) (IntKind.u32.wrap (b : Int)) = (y : Int) := by
  have k1 : x * 256 < 4294967296 := Nat.lt_of_le_of_lt (Nat.le_add_right _ _) h3
  have k2 : b < 4294967296 := Nat.lt_of_lt_of_le h2 (by decide)
  have e : ((x : Int) * 256) = ((x * 256 : Nat) : Int) := by simp
  rw [wrap_u32_nat b k2, e, wrap_u32_nat (x * 256) k1, or_bits _ _ k1 k2, ← h1]
  have := or_num x b 8 (by omega)
  rw [show (2 : Nat) ^ 8 = 256 by decide] at this
  rw [this]
theorem part_or (S : Nat → UInt8) (a k : Nat) : bits .or .u32 (IntKind.u32.wrap (((partW S a k (k / 4)).toNat : Int) * 256)) (IntKind.u32.wrap ((S (a + k)).toNat : Int)) = ((partW S a (k + 1) (k / 4)).toNat : Int) :=
  or_step _ _ _ (partW_step S a k).1 (S (a + k)).toNat_lt (partW_step S a k).2
theorem short_nb (l : List UInt8) (h : l.length ≤ 55) : (PT l).length = 64 ∧ nb l = 1 := by
  have : (PT l).length = 64 := by rw [PT_length]; unfold zs; omega
  exact ⟨this, by rw [nb, this]⟩
theorem short_sum (l : List UInt8) (h : l.length ≤ 55) : sumB l = outByte (comp init (wordAt (Sb l) 0)) := by
  funext i
  rw [sumB, (short_nb l h).2, hs_succ, hs_zero]
attribute [local irreducible] row rowB sumB comp init wordAt partW restT PT Sb padL
set_option maxRecDepth 100000 in
set_option maxHeartbeats 1600000 in
theorem block_walk (s0 : ByteArray) (hs : s0.size ≤ maxLen) (w : World) (htab : TabIn w) :
    Calls Tryd.prog 8 #[.string s0] w fun e w' => e = .returned (.bool true) ∧ Below w.heap.size w w' := by
  unfold maxLen at hs
  have Htab := Lib.hid htab
  clear htab
  have hal : ∀ w : World, (zeroValue 33).run Tryd.prog w = .ok (.agg (Array.replicate 32 (.int .u8 0))) w := fun w => zero33 w
  have hal2 : ∀ w : World, (zeroValue 28).run Tryd.prog w = .ok (.agg (Array.replicate 8 (.int .u32 0))) w := fun w => zero28 w
  have hal3 : ∀ w : World, (zeroValue 23).run Tryd.prog w = .ok (.agg (Array.replicate 16 (.int .u32 0))) w := fun w => zero23 w
  by_cases h : 55 < s0.size
  · obtain ⟨t, ht⟩ : ∃ t, s0.extract 0 55 = t := ⟨_, rfl⟩
    have hz : t.size ≤ 55 := by rw [← ht]; simp; omega
    go_enter Tryd.func8, Tryd.ntmps8
    go_wp2_with fail
    refine (awake_any _ Htab.out).mono ?_
    rintro e w1 ⟨rfl, hb1⟩
    have Hb1 := Lib.hid hb1
    clear hb1
    go_wp2_with fail
    refine (pad_in t.size (by omega) w1).mono ?_
    rintro e w2 ⟨rfl, hb2⟩
    have Hb2 := Lib.hid (Hb1.out.trans (hb2.mono Hb1.out.size))
    clear hb2
    have hcat := restT_zero t
    have hln : t.data.toList.length ≤ 55 := by rw [show t.data.toList.length = t.size from Array.length_toList]; exact hz
    have hsz : (restT t.data.toList 0).size = 64 := by rw [restT_size, (short_nb _ hln).1]
    have hget := restT_get t.data.toList 0
    have hst := sum_of t (by omega)
    have hsum := short_sum t.data.toList hln
    generalize hl : t.data.toList = l at hcat hsz hget hst hsum
    generalize restT l 0 = u at hcat hsz hget
    have Hget := Lib.hid hget
    have Hst := Lib.hid hst
    have Hsum := Lib.hid hsum
    clear hget hst hsum hln
    have hpl : (⟨(padL t.size).toArray⟩ : ByteArray).size ≤ 72 := by
      show (padL t.size).toArray.size ≤ 72
      have := zs_lt t.size
      simp [padL_length]; omega
    have hsz' : (t ++ ⟨(padL t.size).toArray⟩ : ByteArray).size = 64 := by rw [← hcat]; exact hsz
    go_wp2_with fail
    rw [← hcat]
    clear hcat hsz' hpl
    obtain ⟨WX, hWX⟩ : ∃ WX, w2.alloc (.cells (Array.replicate 16 (.int .u32 0)) 23) = WX := ⟨_, rfl⟩
    have hx : WX.heap[w2.heap.size]? = some (.cells (row 16 (partW (Sb l) 0 0) 16) 23 (0, 0)) := by rw [← hWX, row_part0]; exact heap_alloc_last w2 _
    have hb : Below w.heap.size w WX := by rw [← hWX]; exact Hb2.out.alloc Hb2.out.size _
    have hC := Hb2.out.size
    rw [hWX]
    generalize w2.heap.size = X at hx hC ⊢
    have Hx0 := Lib.hid hx
    have Hb0 := Lib.hid hb
    have HC := Lib.hid hC
    clear hx hb hC hWX Hb1 Hb2
    go_loopw [6] (fun i wr => ∃ j : Nat, j ≤ 64 ∧ i = .int .i64 j ∧ wr.heap[X]? = some (.cells (row 16 (partW (Sb l) 0 j) 16) 23 (0, 0)) ∧ Below w.heap.size w wr) (fun i _ => 64 - (intOf i).toNat)
    case atStart => exact ⟨0, by omega, rfl, Hx0.out, Hb0.out⟩
    case round =>
      obtain ⟨j, hj, rfl, hx, hb⟩ := hrel
      have Hx := Lib.hid hx
      have Hb := Lib.hid hb
      clear hx hb Hx0 Hb0
      by_cases hjl : j < 64
      · have b0 : (j : Int) < 64 := by omega
        have g4 := idx_text u j (Sb l (0 + j)) (j : Int) rfl (by omega) (by rw [Hget.out])
        have eL : wr.cell? ⟨X, j / 4, none⟩ = some (U (partW (Sb l) 0 j (j / 4))) := by
          rw [cell_of_row wr _ _ _ 23 (0, 0) Hx.out]; exact row_get _ _ _ _ (by omega) (by omega)
        have f0 : wr.frozen? ⟨X, j / 4, none⟩ = false := frozen_of_row wr _ _ _ 23 Hx.out
        have wd : IntKind.i64.wrap ((j : Int) / 4) = ((j / 4 : Nat) : Int) := by rw [IntKind.wrap_i64]; omega
        have b1 : ((j / 4 : Nat) : Int) < 16 := by omega
        generalize hq : j / 4 = q at wd b1 eL f0
        have Hq := Lib.hid hq
        clear hq
        go_wp2_with fail
        refine wp_region_still_tail 13 (by kernel_rfl) (by kernel_rfl) ?_
        change wpStill _ _ wr.drew _ _ _
        simp only [List.take_succ_cons, List.take_zero, List.drop_succ_cons, List.drop_zero]
        repeat still_step
        refine wpStill_nil ?_
        have hpo := part_or (Sb l) 0 j
        rw [Nat.zero_add] at hpo
        rw [← Hq.out, hpo]
        clear hpo
        clear g4
        rw [← Hq.out] at eL f0
        go_wp2
        refine ⟨⟨j + 1, by omega, by go_num, ?_, ?_⟩, by simp [intOf]; omega⟩
        · show (wr.setCell ⟨X, j / 4, none⟩ _).heap[X]? = _
          rw [heap_setCell_same wr _ _ _ 23 _ Hx.out, row_part _ _ _ hjl]
        · exact Hb.out.trans (((Below.refl _ _).setCell (p := ⟨X, j / 4, none⟩) HC.out _).drew)
      · obtain rfl : j = 64 := by omega
        have hxo := Hx.out
        rw [row_part64] at hxo
        clear Hx
        have Hx := Lib.hid hxo
        clear hxo
        have hsx : (Tryd.prog.info? 23).map (·.size) = some (row 16 (wordAt (Sb l) 0) 16).size := by rw [row_size]; exact size23
        go_wp2_with (refine wpList_load_row rfl 23 (.tmp 5) rfl X rfl 23 (row 16 (wordAt (Sb l) 0) 16) (0, 0) (.array 16 22) Hx.out Tryd.underlying23 rfl hsx ?_)
        rw [init_lit]
        refine (compress_any init (wordAt (Sb l) 0) wr (Htab.out.later Hb.out)).mono ?_
        rintro e w3 ⟨rfl, hb3⟩
        have H3 := Lib.hid (Hb.out.trans (hb3.mono Hb.out.size))
        clear hb3 hsx Hx Hb
        generalize hG : comp init (wordAt (Sb l) 0) = G
        have HG := Lib.hid hG
        clear hG
        have hsc : (Tryd.prog.info? 28).map (·.size) = some (row 8 G 8).size := by rw [row_size]; exact size28
        go_wp2_with (refine wpList_store_row rfl 28 (.tmp 7) (.tmp 43) rfl w3.heap.size (row 8 G 8) rfl rfl 28 (Array.replicate 8 (.int .u32 0)) (heap_alloc_last w3 _) hsc (by rw [row_size]; rfl) (row_one _ _ _) ?_; rw [World.setRow_alloc_new])
        have hb3 : Below w.heap.size w (w3.alloc (.cells (row 8 G 8) 28)) := H3.out.alloc H3.out.size _
        have Hb3 := Lib.hid hb3
        have Hz3 := Lib.hid (show (w3.alloc (.cells (row 8 G 8) 28)).heap.size = w3.heap.size + 1 by simp)
        clear hb3 hsc
        rw [show w3.heap.size + 1 = (w3.alloc (.cells (row 8 G 8) 28)).heap.size by simp]
        refine (Hst.out _ (Htab.out.later Hb3.out)).mono ?_
        rintro e w4 ⟨rfl, hb4⟩
        have Hb4 := Lib.hid hb4
        clear hb4
        have hs33 : (Tryd.prog.info? 33).map (·.size) = some (rowB (sumB l) 32).size := by rw [rowB_size]; exact size33
        go_wp2_with (refine wpList_store_row rfl 33 (.tmp 8) (.tmp 46) rfl w4.heap.size (rowB (sumB l) 32) rfl rfl 33 (Array.replicate 32 (.int .u8 0)) (heap_alloc_last w4 _) hs33 (by rw [rowB_size]; rfl) (rowB_one _ _) ?_; rw [World.setRow_alloc_new])
        clear hs33
        obtain ⟨WD, hWD⟩ : ∃ WD, w4.alloc (.cells (rowB (sumB l) 32) 33) = WD := ⟨_, rfl⟩
        have hh : WD.heap[w3.heap.size]? = some (.cells (row 8 G 8) 28 (0, 0)) := by
          have h3 := Hz3.out
          have h4 := Hb4.out.size
          rw [← hWD, Lib.alloc_old w4 _ _ (by omega), Hb4.out.block _ (by omega)]
          exact heap_alloc_last w3 _
        have hd : WD.heap[w4.heap.size]? = some (.cells (rowB (outByte G) 32) 33 (0, 0)) := by
          rw [← hWD, Hsum.out, HG.out]; exact heap_alloc_last w4 _
        have hb : Below w.heap.size w WD := by
          have h3 := Hz3.out
          have h4 := Hb4.out.size
          have h5 := H3.out.size
          rw [← hWD]; exact (Hb3.out.trans (Hb4.out.mono (by omega))).alloc (by omega) _
        rw [hWD]
        have HH := Lib.hid hh
        have HD := Lib.hid hd
        have HB := Lib.hid hb
        clear hh hd hb hWD
        generalize w3.heap.size = A at HH ⊢
        generalize w4.heap.size = D at HD ⊢
        clear Hz3 Hb3 Hb4 H3 hal hal2 hal3
        go_loopw [9] (fun i wr' => ∃ j : Nat, j ≤ 32 ∧ i = .int .i64 j ∧ wr'.heap[A]? = some (.cells (row 8 G 8) 28 (0, 0)) ∧ wr'.heap[D]? = some (.cells (rowB (outByte G) 32) 33 (0, 0)) ∧ Below w.heap.size w wr') (fun i _ => 32 - (intOf i).toNat)
        case atStart => exact ⟨0, by omega, rfl, HH.out, HD.out, HB.out⟩
        case round =>
          obtain ⟨j, hj, rfl, hh, hd, hb⟩ := hrel
          have HH' := Lib.hid hh
          have HD' := Lib.hid hd
          have HB' := Lib.hid hb
          clear hh hd hb HH HD HB
          by_cases hjl : j < 32
          · have b0 : (j : Int) < 32 := by omega
            have eL : wr.cell? ⟨A, j / 4, none⟩ = some (U (G (j / 4))) := by
              rw [cell_of_row wr _ _ _ 28 (0, 0) HH'.out]; exact row_get _ _ _ _ (by omega) (by omega)
            have e0 : wr.cell? ⟨D, j, none⟩ = some (.int .u8 ((outByte G j).toNat : Int)) := by
              rw [cell_of_row wr _ _ _ 33 (0, 0) HD'.out]; exact rowB_get _ _ _ hjl hjl
            go_wp2_with fail
            go_quiet (fail)
            rw [out_val G j]
            go_wp2
            exact ⟨⟨j + 1, by omega, by go_num, HH'.out, HD'.out, HB'.out.trans ⟨rfl, rfl, rfl, Nat.le_refl _, fun _ _ => rfl⟩⟩, by simp [intOf]; omega⟩
          · obtain rfl : j = 32 := by omega
            go_wp2
            go_ret
            exact ⟨rfl, HB'.out⟩
  · have hz : s0.size ≤ 55 := by omega
    go_enter Tryd.func8, Tryd.ntmps8
    go_wp2_with fail
    refine (awake_any _ Htab.out).mono ?_
    rintro e w1 ⟨rfl, hb1⟩
    have Hb1 := Lib.hid hb1
    clear hb1
    go_wp2_with fail
    refine (pad_in s0.size (by omega) w1).mono ?_
    rintro e w2 ⟨rfl, hb2⟩
    have Hb2 := Lib.hid (Hb1.out.trans (hb2.mono Hb1.out.size))
    clear hb2
    have hcat := restT_zero s0
    have hln : s0.data.toList.length ≤ 55 := by rw [show s0.data.toList.length = s0.size from Array.length_toList]; exact hz
    have hsz : (restT s0.data.toList 0).size = 64 := by rw [restT_size, (short_nb _ hln).1]
    have hget := restT_get s0.data.toList 0
    have hst := sum_of s0 (by omega)
    have hsum := short_sum s0.data.toList hln
    generalize hl : s0.data.toList = l at hcat hsz hget hst hsum
    generalize restT l 0 = u at hcat hsz hget
    have Hget := Lib.hid hget
    have Hst := Lib.hid hst
    have Hsum := Lib.hid hsum
    clear hget hst hsum hln
    have hpl : (⟨(padL s0.size).toArray⟩ : ByteArray).size ≤ 72 := by
      show (padL s0.size).toArray.size ≤ 72
      have := zs_lt s0.size
      simp [padL_length]; omega
    have hsz' : (s0 ++ ⟨(padL s0.size).toArray⟩ : ByteArray).size = 64 := by rw [← hcat]; exact hsz
    go_wp2_with fail
    rw [← hcat]
    clear hcat hsz' hpl
    obtain ⟨WX, hWX⟩ : ∃ WX, w2.alloc (.cells (Array.replicate 16 (.int .u32 0)) 23) = WX := ⟨_, rfl⟩
    have hx : WX.heap[w2.heap.size]? = some (.cells (row 16 (partW (Sb l) 0 0) 16) 23 (0, 0)) := by rw [← hWX, row_part0]; exact heap_alloc_last w2 _
    have hb : Below w.heap.size w WX := by rw [← hWX]; exact Hb2.out.alloc Hb2.out.size _
    have hC := Hb2.out.size
    rw [hWX]
    generalize w2.heap.size = X at hx hC ⊢
    have Hx0 := Lib.hid hx
    have Hb0 := Lib.hid hb
    have HC := Lib.hid hC
    clear hx hb hC hWX Hb1 Hb2
    go_loopw [6] (fun i wr => ∃ j : Nat, j ≤ 64 ∧ i = .int .i64 j ∧ wr.heap[X]? = some (.cells (row 16 (partW (Sb l) 0 j) 16) 23 (0, 0)) ∧ Below w.heap.size w wr) (fun i _ => 64 - (intOf i).toNat)
    case atStart => exact ⟨0, by omega, rfl, Hx0.out, Hb0.out⟩
    case round =>
      obtain ⟨j, hj, rfl, hx, hb⟩ := hrel
      have Hx := Lib.hid hx
      have Hb := Lib.hid hb
      clear hx hb Hx0 Hb0
      by_cases hjl : j < 64
      · have b0 : (j : Int) < 64 := by omega
        have g4 := idx_text u j (Sb l (0 + j)) (j : Int) rfl (by omega) (by rw [Hget.out])
        have eL : wr.cell? ⟨X, j / 4, none⟩ = some (U (partW (Sb l) 0 j (j / 4))) := by
          rw [cell_of_row wr _ _ _ 23 (0, 0) Hx.out]; exact row_get _ _ _ _ (by omega) (by omega)
        have f0 : wr.frozen? ⟨X, j / 4, none⟩ = false := frozen_of_row wr _ _ _ 23 Hx.out
        have wd : IntKind.i64.wrap ((j : Int) / 4) = ((j / 4 : Nat) : Int) := by rw [IntKind.wrap_i64]; omega
        have b1 : ((j / 4 : Nat) : Int) < 16 := by omega
        generalize hq : j / 4 = q at wd b1 eL f0
        have Hq := Lib.hid hq
        clear hq
        go_wp2_with fail
        refine wp_region_still_tail 13 (by kernel_rfl) (by kernel_rfl) ?_
        change wpStill _ _ wr.drew _ _ _
        simp only [List.take_succ_cons, List.take_zero, List.drop_succ_cons, List.drop_zero]
        repeat still_step
        refine wpStill_nil ?_
        have hpo := part_or (Sb l) 0 j
        rw [Nat.zero_add] at hpo
        rw [← Hq.out, hpo]
        clear hpo
        clear g4
        rw [← Hq.out] at eL f0
        go_wp2
        refine ⟨⟨j + 1, by omega, by go_num, ?_, ?_⟩, by simp [intOf]; omega⟩
        · show (wr.setCell ⟨X, j / 4, none⟩ _).heap[X]? = _
          rw [heap_setCell_same wr _ _ _ 23 _ Hx.out, row_part _ _ _ hjl]
        · exact Hb.out.trans (((Below.refl _ _).setCell (p := ⟨X, j / 4, none⟩) HC.out _).drew)
      · obtain rfl : j = 64 := by omega
        have hxo := Hx.out
        rw [row_part64] at hxo
        clear Hx
        have Hx := Lib.hid hxo
        clear hxo
        have hsx : (Tryd.prog.info? 23).map (·.size) = some (row 16 (wordAt (Sb l) 0) 16).size := by rw [row_size]; exact size23
        go_wp2_with (refine wpList_load_row rfl 23 (.tmp 5) rfl X rfl 23 (row 16 (wordAt (Sb l) 0) 16) (0, 0) (.array 16 22) Hx.out Tryd.underlying23 rfl hsx ?_)
        rw [init_lit]
        refine (compress_any init (wordAt (Sb l) 0) wr (Htab.out.later Hb.out)).mono ?_
        rintro e w3 ⟨rfl, hb3⟩
        have H3 := Lib.hid (Hb.out.trans (hb3.mono Hb.out.size))
        clear hb3 hsx Hx Hb
        generalize hG : comp init (wordAt (Sb l) 0) = G
        have HG := Lib.hid hG
        clear hG
        have hsc : (Tryd.prog.info? 28).map (·.size) = some (row 8 G 8).size := by rw [row_size]; exact size28
        go_wp2_with (refine wpList_store_row rfl 28 (.tmp 7) (.tmp 43) rfl w3.heap.size (row 8 G 8) rfl rfl 28 (Array.replicate 8 (.int .u32 0)) (heap_alloc_last w3 _) hsc (by rw [row_size]; rfl) (row_one _ _ _) ?_; rw [World.setRow_alloc_new])
        have hb3 : Below w.heap.size w (w3.alloc (.cells (row 8 G 8) 28)) := H3.out.alloc H3.out.size _
        have Hb3 := Lib.hid hb3
        have Hz3 := Lib.hid (show (w3.alloc (.cells (row 8 G 8) 28)).heap.size = w3.heap.size + 1 by simp)
        clear hb3 hsc
        rw [show w3.heap.size + 1 = (w3.alloc (.cells (row 8 G 8) 28)).heap.size by simp]
        refine (Hst.out _ (Htab.out.later Hb3.out)).mono ?_
        rintro e w4 ⟨rfl, hb4⟩
        have Hb4 := Lib.hid hb4
        clear hb4
        have hs33 : (Tryd.prog.info? 33).map (·.size) = some (rowB (sumB l) 32).size := by rw [rowB_size]; exact size33
        go_wp2_with (refine wpList_store_row rfl 33 (.tmp 8) (.tmp 46) rfl w4.heap.size (rowB (sumB l) 32) rfl rfl 33 (Array.replicate 32 (.int .u8 0)) (heap_alloc_last w4 _) hs33 (by rw [rowB_size]; rfl) (rowB_one _ _) ?_; rw [World.setRow_alloc_new])
        clear hs33
        obtain ⟨WD, hWD⟩ : ∃ WD, w4.alloc (.cells (rowB (sumB l) 32) 33) = WD := ⟨_, rfl⟩
        have hh : WD.heap[w3.heap.size]? = some (.cells (row 8 G 8) 28 (0, 0)) := by
          have h3 := Hz3.out
          have h4 := Hb4.out.size
          rw [← hWD, Lib.alloc_old w4 _ _ (by omega), Hb4.out.block _ (by omega)]
          exact heap_alloc_last w3 _
        have hd : WD.heap[w4.heap.size]? = some (.cells (rowB (outByte G) 32) 33 (0, 0)) := by
          rw [← hWD, Hsum.out, HG.out]; exact heap_alloc_last w4 _
        have hb : Below w.heap.size w WD := by
          have h3 := Hz3.out
          have h4 := Hb4.out.size
          have h5 := H3.out.size
          rw [← hWD]; exact (Hb3.out.trans (Hb4.out.mono (by omega))).alloc (by omega) _
        rw [hWD]
        have HH := Lib.hid hh
        have HD := Lib.hid hd
        have HB := Lib.hid hb
        clear hh hd hb hWD
        generalize w3.heap.size = A at HH ⊢
        generalize w4.heap.size = D at HD ⊢
        clear Hz3 Hb3 Hb4 H3 hal hal2 hal3
        go_loopw [9] (fun i wr' => ∃ j : Nat, j ≤ 32 ∧ i = .int .i64 j ∧ wr'.heap[A]? = some (.cells (row 8 G 8) 28 (0, 0)) ∧ wr'.heap[D]? = some (.cells (rowB (outByte G) 32) 33 (0, 0)) ∧ Below w.heap.size w wr') (fun i _ => 32 - (intOf i).toNat)
        case atStart => exact ⟨0, by omega, rfl, HH.out, HD.out, HB.out⟩
        case round =>
          obtain ⟨j, hj, rfl, hh, hd, hb⟩ := hrel
          have HH' := Lib.hid hh
          have HD' := Lib.hid hd
          have HB' := Lib.hid hb
          clear hh hd hb HH HD HB
          by_cases hjl : j < 32
          · have b0 : (j : Int) < 32 := by omega
            have eL : wr.cell? ⟨A, j / 4, none⟩ = some (U (G (j / 4))) := by
              rw [cell_of_row wr _ _ _ 28 (0, 0) HH'.out]; exact row_get _ _ _ _ (by omega) (by omega)
            have e0 : wr.cell? ⟨D, j, none⟩ = some (.int .u8 ((outByte G j).toNat : Int)) := by
              rw [cell_of_row wr _ _ _ 33 (0, 0) HD'.out]; exact rowB_get _ _ _ hjl hjl
            go_wp2_with fail
            go_quiet (fail)
            rw [out_val G j]
            go_wp2
            exact ⟨⟨j + 1, by omega, by go_num, HH'.out, HD'.out, HB'.out.trans ⟨rfl, rfl, rfl, Nat.le_refl _, fun _ _ => rfl⟩⟩, by simp [intOf]; omega⟩
          · obtain rfl : j = 32 := by omega
            go_wp2
            go_ret
            exact ⟨rfl, HB'.out⟩
end Go.Proofs.YtkoeaejfkgapcaaDoor
