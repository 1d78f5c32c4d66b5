/-
  Sum, walked: for the joined text s of at most a million bytes.
-/
import Derived.Test.YtkoeaejfkgapcaaDoorSum
import Derived.Test.YtkoeaejfkgapcaaDoorShelf
namespace Go.Proofs.YtkoeaejfkgapcaaDoor
open Go.RowKit
set_option linter.unusedVariables false

theorem ba_eq (b : ByteArray) : (⟨b.data.toList.toArray⟩ : ByteArray) = b := rfl
/-- What Sum's loops keep. -/
structure SumAt (w : World) (B : Nat) (f : Nat → UInt8) (H : Nat → BitVec 32) (wr : World) : Prop where
  cr : wr.heap[w.heap.size]? = some (.cells (rowB f 0) 33 (0, 0))
  cb : wr.heap[B]? = some (.cells (row 8 H 8) 28 (0, 0))
  hB : w.heap.size < B
  bel : Below w.heap.size w wr
theorem SumAt.lt {w : World} {B : Nat} {f : Nat → UInt8} {H : Nat → BitVec 32} {wr : World} (h : SumAt w B f H wr) : B < wr.heap.size := (Array.getElem?_eq_some_iff.1 h.cb).1
theorem SumAt.later {w : World} {B : Nat} {f : Nat → UInt8} {H : Nat → BitVec 32} {wr w' : World} (h : SumAt w B f H wr) (hb : Below wr.heap.size wr w') : SumAt w B f H w' :=
  have hl := h.lt
  have hB := h.hB
  ⟨(hb.block _ (by omega)).trans h.cr, (hb.block _ hl).trans h.cb, h.hB, h.bel.trans (hb.mono (by omega))⟩
theorem SumAt.put {w : World} {B : Nat} {f : Nat → UInt8} {H : Nat → BitVec 32} {wr : World} (h : SumAt w B f H wr) (G : Nat → BitVec 32) : SumAt w B f G (wr.setRow B (row 8 G 8)) := by
  have h1 := h.hB
  refine ⟨?_, setRow_heap wr _ _ _ 28 _ h.cb, h1, below_setRow h.bel (by omega) _⟩
  rw [heap_setRow_other _ _ _ _ (by omega)]; exact h.cr

theorem SumAt.cellX {w : World} {B : Nat} {f : Nat → UInt8} {H : Nat → BitVec 32} {wr : World} (h : SumAt w B f H wr) {X : Nat} (hX : B < X) (j : Nat) (v : Value) : SumAt w B f H ((wr.setCell ⟨X, j, none⟩ v).drew) := by
  have h1 := h.hB
  refine ⟨?_, ?_, h1, h.bel.trans (((Below.refl _ _).setCell (p := ⟨X, j, none⟩) (by simp; omega) _).drew)⟩
  · show (wr.setCell ⟨X, j, none⟩ v).heap[_]? = _
    rw [heap_setCell_other _ _ _ _ (by simp; omega)]; exact h.cr
  · show (wr.setCell ⟨X, j, none⟩ v).heap[_]? = _
    rw [heap_setCell_other _ _ _ _ (by simp; omega)]; exact h.cb
theorem SumAt.cellX' {w : World} {B : Nat} {f : Nat → UInt8} {H : Nat → BitVec 32} {wr : World} (h : SumAt w B f H wr) {X : Nat} (hX : B < X) (j : Nat) (v : Value) : SumAt w B f H (wr.setCell ⟨X, j, none⟩ v) := by
  have h1 := h.hB
  refine ⟨?_, ?_, h1, h.bel.trans ((Below.refl _ _).setCell (p := ⟨X, j, none⟩) (by simp; omega) _)⟩
  · rw [heap_setCell_other _ _ _ _ (by simp; omega)]; exact h.cr
  · rw [heap_setCell_other _ _ _ _ (by simp; omega)]; exact h.cb
theorem out_val (G : Nat → BitVec 32) (j : Nat) : (((G (j / 4)).toNat : Int) / 2 ^ (24 - 8 * (j % 4)) % 256) = ((outByte G j).toNat : Int) := by
  rw [outByte, UInt8.toNat_ofNat']
  simp
theorem word_slot (a b c d : UInt8) :
    bits .or .u32 (bits .or .u32 (bits .or .u32 (IntKind.u32.wrap (IntKind.u32.wrap (a.toNat : Int) * 16777216)) (IntKind.u32.wrap (IntKind.u32.wrap (b.toNat : Int) * 65536))) (IntKind.u32.wrap (IntKind.u32.wrap (c.toNat : Int) * 256))) (IntKind.u32.wrap (d.toNat : Int)) = ((num4 a b c d : Nat) : Int) := by
  have h1 := a.toNat_lt; have h2 := b.toNat_lt; have h3 := c.toNat_lt; have h4 := d.toNat_lt
  rw [← word_val]
  congr 1
  · congr 1
    · congr 1
      · simp only [IntKind.wrap_u32]; omega
      · simp only [IntKind.wrap_u32]; omega
    · simp only [IntKind.wrap_u32]; omega
  · simp only [IntKind.wrap_u32]; omega
theorem idx_text (t : ByteArray) (j : Nat) (u : UInt8) (i : Int) (hi : i = j) (h : j < t.size) (hu : t.data.toList.getD j 0 = u) (w : World) :
    (Instr.index 9 (.string t) (.int .i64 i)).run Tryd.prog w = .ok (.int .u8 (u.toNat : Int)) w := by
  subst hi
  rw [run_index_string w 9 t .i64 _ Tryd.underlying9, dif_pos ⟨by omega, by omega⟩]
  have h' : j < t.data.size := h
  have e : (t[(j : Int).toNat]'(by simpa using h) : UInt8) = u := by
    rw [← hu, List.getD_eq_getElem?_getD, Array.getElem?_toList, Array.getElem?_eq_getElem h']; rfl
  rw [e]
/-- The text behind k blocks. -/
def restT (l : List UInt8) (k : Nat) : ByteArray := ⟨((PT l).drop (64 * k)).toArray⟩
theorem restT_size (l : List UInt8) (k : Nat) : (restT l k).size = (PT l).length - 64 * k := by
  show ((PT l).drop (64 * k)).toArray.size = _
  simp
theorem restT_zero (s : ByteArray) : restT s.data.toList 0 = s ++ ⟨(padL s.size).toArray⟩ := by
  have e : s.data.toList.length = s.size := Array.length_toList
  apply ByteArray.ext
  rw [ByteArray.data_append]
  show ((PT s.data.toList).drop (64 * 0)).toArray = s.data ++ (padL s.size).toArray
  rw [Nat.mul_zero, List.drop_zero, PT, e]
  apply Array.toList_inj.1
  rw [Array.toList_append]
theorem text_get (t : ByteArray) (j : Nat) (h : j < t.size) : t.data[j]? = some (t.data.toList.getD j 0) := by
  have h' : j < t.data.size := h
  rw [List.getD_eq_getElem?_getD, Array.getElem?_toList, Array.getElem?_eq_getElem h']; rfl
theorem restT_get (l : List UInt8) (k j : Nat) : (restT l k).data.toList.getD j 0 = Sb l (64 * k + j) := by
  simp [restT, Sb, List.getD_eq_getElem?_getD]
theorem restT_succ (l : List UInt8) (k : Nat) : restT l (k + 1) = (restT l k).extract 64 (restT l k).size := by
  apply ByteArray.ext
  rw [ByteArray.data_extract]
  show ((PT l).drop (64 * (k + 1))).toArray = ((PT l).drop (64 * k)).toArray.extract 64 ((PT l).drop (64 * k)).toArray.size
  rw [List.extract_toArray, List.size_toArray, List.extract_eq_take_drop, List.drop_drop]
  rw [List.take_of_length_le (by simp; omega), Nat.mul_succ]
theorem padL_length (n : Nat) : (padL n).length = zs n + 9 := by simp [padL]
theorem hs_zero (S : Nat → UInt8) : hs S 0 = init := rfl
theorem hs_succ (S : Nat → UInt8) (k : Nat) : hs S (k + 1) = comp (hs S k) (wordAt S (64 * k)) := rfl
attribute [local irreducible] row rowB sumB hs comp init wordAt restT PT Sb padL
set_option maxRecDepth 100000 in
set_option maxHeartbeats 1600000 in
theorem sum_core (arg : Value) (s : ByteArray) (w : World) (hsz : s.size ≤ 1000000) (htab : TabIn w)
    (hj : ∀ w', Below w.heap.size w w' → Calls Tryd.prog 24 #[arg, .string ⟨#[]⟩] w' fun e w'' => e = .returned (.string s) ∧ Below w'.heap.size w' w'') :
    Calls Tryd.prog 16 #[arg] w fun e w' => e = .returned (.agg (rowB (sumB s.data.toList) 32)) ∧ Below w.heap.size w w' := by
  have hal : ∀ w : World, (zeroValue 33).run Tryd.prog w = .ok (.agg (rowB (sumB s.data.toList) 0)) w := fun w => by rw [rowB_zero]; exact zero33 w
  have hal2 : ∀ w : World, (zeroValue 28).run Tryd.prog w = .ok (.agg (Array.replicate 8 (.int .u32 0))) w := fun w => zero28 w
  have hs28 : (Tryd.prog.info? 28).map (·.size) = some (row 8 init 8).size := by rw [row_size]; exact size28
  have hcat := restT_zero s
  have hpl : (⟨(padL s.size).toArray⟩ : ByteArray).size ≤ 72 := by
    show (padL s.size).toArray.size ≤ 72
    have := zs_lt s.size
    simp [padL_length]; omega
  have Htab := Lib.hid htab
  have Hj := Lib.hid hj
  clear htab hj
  go_enter Tryd.func16, Tryd.ntmps16
  go_wp2_with fail
  refine (Hj.out _ ((Below.refl _ _).alloc (Nat.le_refl _) _)).mono ?_
  rintro e w1 ⟨rfl, hb1⟩
  have Hb1 := Lib.hid hb1
  clear hb1
  go_wp2_with fail
  refine (pad_in s.size (by omega) w1).mono ?_
  rintro e w2 ⟨rfl, hb2⟩
  have Hb2 := Lib.hid hb2
  clear hb2
  go_wp2_with (refine wpList_store_row rfl 28 (.tmp 4) (.tmp 16) rfl w2.heap.size (row 8 init 8) rfl (by kernel_rfl) 28 (Array.replicate 8 (.int .u32 0)) (heap_alloc_last w2 _) hs28 (by rw [row_size]; rfl) (row_one _ _ _) ?_; rw [World.setRow_alloc_new])
  obtain ⟨WC, hWC⟩ : ∃ WC, w2.alloc (.cells (row 8 init 8) 28) = WC := ⟨_, rfl⟩
  have hC : SumAt w w2.heap.size (sumB s.data.toList) (hs (Sb s.data.toList) 0) WC := by
    have h1 := Hb1.out
    have h2 := Hb2.out
    have hs1 := h1.size
    have hs2 := h2.size
    simp at hs1
    have hb0 : Below w.heap.size w (w.alloc (.cells (rowB (sumB s.data.toList) 0) 33)) := (Below.refl _ _).alloc (Nat.le_refl _) _
    refine ⟨?_, ?_, by omega, hWC ▸ ((hb0.trans (h1.mono (by simp))).trans (h2.mono (by omega))).alloc (by omega) _⟩
    · rw [← hWC, Lib.alloc_old w2 _ _ (by omega), h2.block _ (by omega), h1.block _ (by simp)]
      exact heap_alloc_last w _
    · rw [← hWC, hs_zero]; exact heap_alloc_last w2 _
  rw [hWC]
  rw [← hcat]
  have HC := Lib.hid hC
  clear hWC hC hcat
  have hsl : s.data.toList.length = s.size := Array.length_toList
  have hPT : (PT s.data.toList).length ≤ 1000072 := by
    have := zs_lt s.data.toList.length
    rw [PT_length]; omega
  have hPm := PT_mod s.data.toList
  generalize hl0 : s.data.toList = l at HC hPT hPm hal ⊢
  have Hl := Lib.hid hl0
  clear hl0
  have hnb : 64 * nb l = (PT l).length := hPm.symm
  clear hPm hsl hpl
  generalize w2.heap.size = B at HC ⊢
  clear Hb1 Hb2 hal2 hs28 Hj
  go_frame
  have Hn := Lib.hid hnb
  have HP := Lib.hid hPT
  have Hal := Lib.hid hal
  clear hnb hPT hal
  go_loopw [3] (fun tv wr => ∃ k : Nat, k ≤ nb l ∧ tv = .string (restT l k) ∧ SumAt w B (sumB l) (hs (Sb l) k) wr) (fun tv _ => match tv with | .string t => t.size | _ => 0)
  case atStart => exact ⟨0, by omega, rfl, HC.out⟩
  case round =>
    obtain ⟨k, hk, rfl, hC⟩ := hrel
    have HK := Lib.hid hC
    clear hC HC
    by_cases hkl : k < nb l
    · have hts : (restT l k).size = 64 * (nb l - k) := by rw [restT_size, ← Hn.out]; omega
      have hget := restT_get l k
      have hnx : restT l (k + 1) = (restT l k).extract 64 (restT l k).size := restT_succ l k
      have hbig : (restT l k).size ≤ 1000072 := by rw [restT_size]; have := HP.out; omega
      generalize restT l k = t at hts hget hnx hbig ⊢
      have h64 : 64 ≤ t.size := by omega
      have hd : decide (64 ≤ (t.size : Int)) = true := by simp; omega
      have Hts := Lib.hid hts
      have Hget := Lib.hid hget
      have Hnx := Lib.hid hnx
      clear hts hget hnx
      have hal3 : ∀ w : World, (zeroValue 23).run Tryd.prog w = .ok (.agg (row 16 (wordAt (Sb l) (64 * k)) 0)) w := fun w => by rw [row_zero]; exact zero23 w
      go_wp2_with fail
      obtain ⟨WX, hWX⟩ : ∃ WX, wr.alloc (.cells (row 16 (wordAt (Sb l) (64 * k)) 0) 23) = WX := ⟨_, rfl⟩
      have hx0 : WX.heap[wr.heap.size]? = some (.cells (row 16 (wordAt (Sb l) (64 * k)) 0) 23 (0, 0)) := by rw [← hWX]; exact heap_alloc_last wr _
      have hK0 : SumAt w B (sumB l) (hs (Sb l) k) WX := by rw [← hWX]; exact HK.out.later ((Below.refl _ _).alloc (Nat.le_refl _) _)
      have hBX : B < wr.heap.size := HK.out.lt
      rw [hWX]
      have Hx0 := Lib.hid hx0
      have HK0 := Lib.hid hK0
      have HBX := Lib.hid hBX
      clear hWX hx0 hK0 hBX HK hal3
      generalize wr.heap.size = X at Hx0 HBX ⊢
      go_loopw [20] (fun i wr' => ∃ j : Nat, j ≤ 16 ∧ i = .int .i64 j ∧ wr'.heap[X]? = some (.cells (row 16 (wordAt (Sb l) (64 * k)) j) 23 (0, 0)) ∧ SumAt w B (sumB l) (hs (Sb l) k) wr') (fun i _ => 16 - (intOf i).toNat)
      case atStart => exact ⟨0, by omega, rfl, Hx0.out, HK0.out⟩
      case round =>
        obtain ⟨j, hj, rfl, hx, hC⟩ := hrel
        have Hx := Lib.hid hx
        have HK' := Lib.hid hC
        clear hx hC Hx0 HK0
        by_cases hjl : j < 16
        · have hts := Hts.out
          have b0 : (j : Int) < 16 := by omega
          have w4 : IntKind.i64.wrap (4 * (j : Int)) = 4 * (j : Int) := by rw [IntKind.wrap_i64]; omega
          have w5 : IntKind.i64.wrap (4 * (j : Int) + 1) = 4 * (j : Int) + 1 := by rw [IntKind.wrap_i64]; omega
          have w6 : IntKind.i64.wrap (4 * (j : Int) + 2) = 4 * (j : Int) + 2 := by rw [IntKind.wrap_i64]; omega
          have w7 : IntKind.i64.wrap (4 * (j : Int) + 3) = 4 * (j : Int) + 3 := by rw [IntKind.wrap_i64]; omega
          have g4 := idx_text t (4 * j) (Sb l (64 * k + 4 * j)) (4 * (j : Int)) (by omega) (by omega) (Hget.out _)
          have g5 := idx_text t (4 * j + 1) (Sb l (64 * k + 4 * j + 1)) (4 * (j : Int) + 1) (by omega) (by omega) (Hget.out _)
          have g6 := idx_text t (4 * j + 2) (Sb l (64 * k + 4 * j + 2)) (4 * (j : Int) + 2) (by omega) (by omega) (Hget.out _)
          have g7 := idx_text t (4 * j + 3) (Sb l (64 * k + 4 * j + 3)) (4 * (j : Int) + 3) (by omega) (by omega) (Hget.out _)
          clear hts
          go_wp2_with fail
          refine wp_region_still_tail 31 (by kernel_rfl) (by kernel_rfl) ?_
          change wpStill _ _ wr.drew _ _ _
          simp only [List.take_succ_cons, List.take_zero, List.drop_succ_cons, List.drop_zero]
          repeat still_step
          refine wpStill_nil ?_
          rw [word_slot, ← wordAt_nat]
          have e0 : wr.cell? ⟨X, j, none⟩ = some (.int .u32 0) := by
            rw [cell_of_row wr _ _ _ 23 (0, 0) Hx.out]; exact row_get0 _ _ _ _ (Nat.le_refl _) hjl
          have f0 : wr.frozen? ⟨X, j, none⟩ = false := frozen_of_row wr _ _ _ 23 Hx.out
          clear w4 w5 w6 w7 g4 g5 g6 g7
          go_wp2
          refine ⟨⟨j + 1, by omega, by go_num, ?_, ?_⟩, by simp [intOf]; omega⟩
          · show (wr.setCell ⟨X, j, none⟩ _).heap[X]? = _
            rw [heap_setCell_same wr _ _ _ 23 _ Hx.out, row_succ _ _ _ hjl]
          · exact HK'.out.cellX HBX.out _ _
        · obtain rfl : j = 16 := by omega
          have hsb : (Tryd.prog.info? 28).map (·.size) = some (row 8 (hs (Sb l) k) 8).size := by rw [row_size]; exact size28
          have hsx : (Tryd.prog.info? 23).map (·.size) = some (row 16 (wordAt (Sb l) (64 * k)) 16).size := by rw [row_size]; exact size23
          go_wp2_with (first | (refine wpList_load_row rfl 28 (.tmp 4) rfl B rfl 28 (row 8 (hs (Sb l) k) 8) (0, 0) (.array 8 22) HK'.out.cb Tryd.underlying28 rfl hsb ?_) | (refine wpList_load_row rfl 23 (.tmp 5) rfl X rfl 23 (row 16 (wordAt (Sb l) (64 * k)) 16) (0, 0) (.array 16 22) Hx.out Tryd.underlying23 rfl hsx ?_))
          refine (compress_any (hs (Sb l) k) (wordAt (Sb l) (64 * k)) wr (Htab.out.later HK'.out.bel)).mono ?_
          rintro e w3 ⟨rfl, hb3⟩
          have hC3 := HK'.out.later hb3
          have H3 := Lib.hid hC3
          clear hb3 hC3 hsb hsx HK' Hx
          have hsc : (Tryd.prog.info? 28).map (·.size) = some (row 8 (comp (hs (Sb l) k) (wordAt (Sb l) (64 * k))) 8).size := by rw [row_size]; exact size28
          go_wp2_with (refine wpList_store_row rfl 28 (.tmp 4) (.tmp 57) rfl B (row 8 (comp (hs (Sb l) k) (wordAt (Sb l) (64 * k))) 8) rfl rfl 28 (row 8 (hs (Sb l) k) 8) H3.out.cb hsc (by rw [row_size, row_size]) (row_one _ _ _) ?_)
          rw [← Hnx.out]
          refine ⟨⟨k + 1, by omega, rfl, ?_⟩, ?_⟩
          · rw [hs_succ]; exact H3.out.put _
          · have := Hts.out
            show (restT l (k + 1)).size < t.size
            rw [restT_size, ← Hn.out]; omega
    · obtain rfl : k = nb l := by omega
      have hz : (restT l (nb l)).size = 0 := by rw [restT_size, ← Hn.out]; omega
      have hd : decide (64 ≤ ((restT l (nb l)).size : Int)) = false := by rw [hz]; rfl
      have hsB : sumB l = outByte (hs (Sb l) (nb l)) := by funext i; rw [sumB]
      have HsB := Lib.hid hsB
      have hal := Hal.out
      clear hz hsB
      generalize hs (Sb l) (nb l) = G at HK HsB
      go_wp2_with fail
      clear hal
      obtain ⟨WX, hWX⟩ : ∃ WX, wr.alloc (.cells (rowB (sumB l) 0) 33) = WX := ⟨_, rfl⟩
      have hx0 : WX.heap[wr.heap.size]? = some (.cells (rowB (sumB l) 0) 33 (0, 0)) := by rw [← hWX]; exact heap_alloc_last wr _
      have hK0 : SumAt w B (sumB l) G WX := by rw [← hWX]; exact HK.out.later ((Below.refl _ _).alloc (Nat.le_refl _) _)
      have hBX : B < wr.heap.size := HK.out.lt
      rw [hWX]
      have Hx0 := Lib.hid hx0
      have HK0 := Lib.hid hK0
      have HBX := Lib.hid hBX
      clear hWX hx0 hK0 hBX HK
      generalize wr.heap.size = X at Hx0 HBX ⊢
      go_loopw [60] (fun i wr' => ∃ j : Nat, j ≤ 32 ∧ i = .int .i64 j ∧ wr'.heap[X]? = some (.cells (rowB (sumB l) j) 33 (0, 0)) ∧ SumAt w B (sumB l) G wr') (fun i _ => 32 - (intOf i).toNat)
      case atStart => exact ⟨0, by omega, rfl, Hx0.out, HK0.out⟩
      case round =>
        obtain ⟨j, hj, rfl, hx, hC⟩ := hrel
        have Hx := Lib.hid hx
        have HK' := Lib.hid hC
        clear hx hC Hx0 HK0
        by_cases hjl : j < 32
        · have b0 : (j : Int) < 32 := by omega
          have eL : wr.cell? ⟨B, j / 4, none⟩ = some (U (G (j / 4))) := by
            rw [cell_of_row wr _ _ _ 28 (0, 0) HK'.out.cb]; exact row_get _ _ _ _ (by omega) (by omega)
          have e0 : wr.cell? ⟨X, j, none⟩ = some (.int .u8 0) := by
            rw [cell_of_row wr _ _ _ 33 (0, 0) Hx.out]; exact rowB_get0 _ _ _ (Nat.le_refl _) hjl
          have f0 : wr.frozen? ⟨X, j, none⟩ = false := frozen_of_row wr _ _ _ 33 Hx.out
          go_wp2_with fail
          rw [out_val G j, ← HsB.out]
          refine ⟨⟨j + 1, by omega, by go_num, ?_, HK'.out.cellX' HBX.out _ _⟩, by simp [intOf]; omega⟩
          rw [heap_setCell_same wr _ _ _ 33 _ Hx.out, rowB_succ _ _ hjl]
        · obtain rfl : j = 32 := by omega
          have hs33 : (Tryd.prog.info? 33).map (·.size) = some (rowB (sumB l) 32).size := by rw [rowB_size]; exact size33
          go_wp2_with (first | (refine wpList_load_row rfl 33 (.tmp 7) rfl X rfl 33 (rowB (sumB l) 32) (0, 0) (.array 32 5) Hx.out Tryd.underlying33 rfl hs33 ?_) | (refine wpList_store_row rfl 33 (.tmp 2) (.tmp 76) rfl w.heap.size (rowB (sumB l) 32) rfl rfl 33 (rowB (sumB l) 0) HK'.out.cr hs33 (by rw [rowB_size, rowB_size]) (rowB_one _ _) ?_))
          exact bodyPost_ret (v := .agg (rowB (sumB l) 32)) (results_cell_row rfl _ _ w.heap.size 33 _ (0, 0) _ rfl (setRow_heap wr _ _ _ 33 _ HK'.out.cr) Tryd.underlying33 rfl hs33) rfl ⟨by rw [Hl.out], below_setRow HK'.out.bel (Nat.le_refl _) _⟩
end Go.Proofs.YtkoeaejfkgapcaaDoor
