/-
  The reference's Sum, walked: for any text s of at most a million bytes.
-/
import Derived.Test.YtkoeaejfkgapcaaDoorSumW
namespace Go.Proofs.YtkoeaejfkgapcaaDoor
open Go.RowKit
set_option linter.unusedVariables false

/-- The number of the first m bytes at a. -/
def numTo (S : Nat → UInt8) (a : Nat) : Nat → Nat
  | 0 => 0
  | m + 1 => numTo S a m * 256 + (S (a + m)).toNat
/-- A block's numbers, where its first k bytes are put. -/
def partW (S : Nat → UInt8) (a k i : Nat) : BitVec 32 := BitVec.ofNat 32 (numTo S (a + 4 * i) (min 4 (k - 4 * i)))
theorem numTo_lt (S : Nat → UInt8) (a m : Nat) : numTo S a m < 256 ^ m := by
  induction m with
  | zero => simp [numTo]
  | succ m ih => have := (S (a + m)).toNat_lt; rw [numTo, Nat.pow_succ]; omega
theorem partW_zero (S : Nat → UInt8) (a i : Nat) : partW S a 0 i = 0#32 := by simp [partW, numTo]
theorem partW_all (S : Nat → UInt8) (a i : Nat) (h : i < 16) : partW S a 64 i = wordAt S a i := by
  have : min 4 (64 - 4 * i) = 4 := by omega
  rw [partW, this, wordAt]
  simp [numTo, num4]
theorem partW_other (S : Nat → UInt8) (a k i : Nat) (h : i ≠ k / 4) : partW S a (k + 1) i = partW S a k i := by
  have : min 4 (k + 1 - 4 * i) = min 4 (k - 4 * i) := by omega
  rw [partW, partW, this]
theorem partW_step (S : Nat → UInt8) (a k : Nat) : (partW S a k (k / 4)).toNat * 256 + (S (a + k)).toNat = (partW S a (k + 1) (k / 4)).toNat ∧ (partW S a k (k / 4)).toNat * 256 + (S (a + k)).toNat < 4294967296 := by
  have e1 : min 4 (k - 4 * (k / 4)) = k % 4 := by omega
  have e2 : min 4 (k + 1 - 4 * (k / 4)) = k % 4 + 1 := by omega
  have l1 := numTo_lt S (a + 4 * (k / 4)) (k % 4)
  have l2 := numTo_lt S (a + 4 * (k / 4)) (k % 4 + 1)
  have p1 : 256 ^ (k % 4) ≤ 256 ^ 3 := Nat.pow_le_pow_right (by decide) (by omega)
  have p2 : 256 ^ (k % 4 + 1) ≤ 256 ^ 4 := Nat.pow_le_pow_right (by decide) (by omega)
  have p3 : (256 : Nat) ^ 3 = 16777216 := by decide
  have p4 : (256 : Nat) ^ 4 = 4294967296 := by decide
  have e3 : a + 4 * (k / 4) + k % 4 = a + k := by omega
  have m1 : numTo S (a + 4 * (k / 4)) (k % 4) % 2 ^ 32 = numTo S (a + 4 * (k / 4)) (k % 4) := Nat.mod_eq_of_lt (by omega)
  have m2 : numTo S (a + 4 * (k / 4)) (k % 4 + 1) % 2 ^ 32 = numTo S (a + 4 * (k / 4)) (k % 4 + 1) := Nat.mod_eq_of_lt (by omega)
  rw [partW, partW, e1, e2, BitVec.toNat_ofNat, BitVec.toNat_ofNat, m1, m2]
  have e4 : numTo S (a + 4 * (k / 4)) (k % 4 + 1) = numTo S (a + 4 * (k / 4)) (k % 4) * 256 + (S (a + k)).toNat := by rw [numTo, e3]
  rw [← e4]
  exact ⟨rfl, by omega⟩
theorem row_part (S : Nat → UInt8) (a k : Nat) (h : k < 64) : (row 16 (partW S a k) 16).setIfInBounds (k / 4) (U (partW S a (k + 1) (k / 4))) = row 16 (partW S a (k + 1)) 16 := by
  apply Array.ext
  · simp [row]
  · intro i h1 h2
    have hi : i < 16 := by simpa [row] using h2
    rw [Array.getElem_setIfInBounds (by simpa [row] using hi)]
    by_cases e : k / 4 = i
    · subst e; simp [row, hi]
    · have := partW_other S a k i (fun h => e h.symm)
      simp [row, e, hi, this]
theorem row_part0 (S : Nat → UInt8) (a : Nat) : row 16 (partW S a 0) 16 = Array.replicate 16 (.int .u32 0) := by
  rw [← row_zero 16 (fun _ => 0#32)]
  apply Array.ext
  · simp [row]
  · intro i h1 h2
    have hi : i < 16 := by simpa [row] using h2
    simp [row, partW_zero, U]
theorem row_part64 (S : Nat → UInt8) (a : Nat) : row 16 (partW S a 64) 16 = row 16 (wordAt S a) 16 := row_congr 16 _ _ 16 (fun i hi => partW_all S a i hi)
theorem part_val (S : Nat → UInt8) (a k : Nat) : IntKind.u32.wrap (IntKind.u32.wrap (((partW S a k (k / 4)).toNat : Int) * 256) + IntKind.u32.wrap ((S (a + k)).toNat : Int)) = ((partW S a (k + 1) (k / 4)).toNat : Int) := by
  have h := partW_step S a k
  have := (S (a + k)).toNat_lt
  simp only [IntKind.wrap_u32]; omega
attribute [local irreducible] row rowB sumB hs comp init wordAt restT PT Sb padL partW
set_option maxRecDepth 100000 in
set_option maxHeartbeats 1600000 in
theorem rsum_any (s : ByteArray) (w : World) (hsz : s.size ≤ 1000000) :
    Calls Tryd.prog 17 #[.string s] w fun e w' => e = .returned (.agg (rowB (sumB s.data.toList) 32)) ∧ Below w.heap.size w w' := by
  have hal : ∀ w : World, (zeroValue 33).run Tryd.prog w = .ok (.agg (rowB (sumB s.data.toList) 0)) w := fun w => by rw [rowB_zero]; exact zero33 w
  have hal2 : ∀ w : World, (zeroValue 28).run Tryd.prog w = .ok (.agg (Array.replicate 8 (.int .u32 0))) w := fun w => zero28 w
  have hs28 : (Tryd.prog.info? 28).map (·.size) = some (row 8 init 8).size := by rw [row_size]; exact size28
  have hcat := restT_zero s
  have hpl : (⟨(padL s.size).toArray⟩ : ByteArray).size ≤ 72 := by
    show (padL s.size).toArray.size ≤ 72
    have := zs_lt s.size
    simp [padL_length]; omega
  go_enter Tryd.func17, Tryd.ntmps17
  go_wp2_with fail
  refine (rpad_in s.size (by omega) _).mono ?_
  rintro e w1 ⟨rfl, hb1⟩
  have Hb1 := Lib.hid hb1
  clear hb1
  go_wp2_with fail
  refine (first_any w1).mono ?_
  rintro e w2 ⟨rfl, hb2⟩
  have Hb2 := Lib.hid hb2
  clear hb2
  go_wp2_with (refine wpList_store_row rfl 28 (.tmp 4) (.tmp 15) rfl w2.heap.size (row 8 init 8) rfl (by kernel_rfl) 28 (Array.replicate 8 (.int .u32 0)) (heap_alloc_last w2 _) hs28 (by rw [row_size]; rfl) (row_one _ _ _) ?_; rw [World.setRow_alloc_new])
  obtain ⟨WC, hWC⟩ : ∃ WC, w2.alloc (.cells (row 8 init 8) 28) = WC := ⟨_, rfl⟩
  have hC : SumAt w w2.heap.size (sumB s.data.toList) (hs (Sb s.data.toList) 0) WC := by
    have h1 := Hb1.out
    have h2 := Hb2.out
    have hs1 := h1.size
    have hs2 := h2.size
    simp at hs1
    have hb0 : Below w.heap.size w (w.alloc (.cells (rowB (sumB s.data.toList) 0) 33)) := (Below.refl _ _).alloc (Nat.le_refl _) _
    refine ⟨?_, ?_, by omega, hWC ▸ ((hb0.trans (h1.mono (by simp))).trans (h2.mono (by omega))).alloc (by omega) _⟩
    · rw [← hWC, Lib.alloc_old w2 _ _ (by omega), h2.block _ (by omega), h1.block _ (by simp)]
      exact heap_alloc_last w _
    · rw [← hWC, hs_zero]; exact heap_alloc_last w2 _
  rw [hWC]
  rw [← hcat]
  have HC := Lib.hid hC
  clear hWC hC hcat
  have hsl : s.data.toList.length = s.size := Array.length_toList
  have hPT : (PT s.data.toList).length ≤ 1000072 := by
    have := zs_lt s.data.toList.length
    rw [PT_length]; omega
  have hPm := PT_mod s.data.toList
  generalize hl0 : s.data.toList = l at HC hPT hPm hal ⊢
  have Hl := Lib.hid hl0
  clear hl0
  have hnb : 64 * nb l = (PT l).length := hPm.symm
  clear hPm hsl hpl
  generalize w2.heap.size = B at HC ⊢
  clear Hb1 Hb2 hal2 hs28
  have hts : (restT l 0).size = 64 * nb l := by rw [restT_size, ← hnb]; rfl
  have hget := restT_get l 0
  have hbig : 64 * nb l ≤ 1000072 := by omega
  generalize restT l 0 = t at hts hget ⊢
  have Hal := Lib.hid hal
  have Hts := Lib.hid hts
  have Hget := Lib.hid hget
  clear hnb hPT hal hts hget
  go_loopw [5] (fun tv wr => ∃ k : Nat, k ≤ nb l ∧ tv = .int .i64 (64 * (k : Int)) ∧ SumAt w B (sumB l) (hs (Sb l) k) wr) (fun tv _ => 64 * nb l - (intOf tv).toNat)
  case atStart => exact ⟨0, by omega, rfl, HC.out⟩
  case round =>
    obtain ⟨k, hk, rfl, hC⟩ := hrel
    have HK := Lib.hid hC
    clear hC HC
    by_cases hkl : k < nb l
    · have hal3 : ∀ w : World, (zeroValue 23).run Tryd.prog w = .ok (.agg (row 16 (partW (Sb l) (64 * k) 0) 16)) w := fun w => by rw [row_part0]; exact zero23 w
      have hd : decide (64 * (k : Int) < (t.size : Int)) = true := by have := Hts.out; simp; omega
      go_wp2_with fail
      clear hal3
      obtain ⟨WX, hWX⟩ : ∃ WX, wr.alloc (.cells (row 16 (partW (Sb l) (64 * k) 0) 16) 23) = WX := ⟨_, rfl⟩
      have hx0 : WX.heap[wr.heap.size]? = some (.cells (row 16 (partW (Sb l) (64 * k) 0) 16) 23 (0, 0)) := by rw [← hWX]; exact heap_alloc_last wr _
      have hK0 : SumAt w B (sumB l) (hs (Sb l) k) WX := by rw [← hWX]; exact HK.out.later ((Below.refl _ _).alloc (Nat.le_refl _) _)
      have hBX : B < wr.heap.size := HK.out.lt
      rw [hWX]
      have Hx0 := Lib.hid hx0
      have HK0 := Lib.hid hK0
      have HBX := Lib.hid hBX
      clear hWX hx0 hK0 hBX HK
      generalize wr.heap.size = X at Hx0 HBX ⊢
      go_loopw [7] (fun i wr' => ∃ j : Nat, j ≤ 64 ∧ i = .int .i64 j ∧ wr'.heap[X]? = some (.cells (row 16 (partW (Sb l) (64 * k) j) 16) 23 (0, 0)) ∧ SumAt w B (sumB l) (hs (Sb l) k) wr') (fun i _ => 64 - (intOf i).toNat)
      case atStart => exact ⟨0, by omega, rfl, Hx0.out, HK0.out⟩
      case round =>
        obtain ⟨j, hj, rfl, hx, hC⟩ := hrel
        have Hx := Lib.hid hx
        have HK' := Lib.hid hC
        clear hx hC Hx0 HK0
        by_cases hjl : j < 64
        · have hts := Hts.out
          have b0 : (j : Int) < 64 := by omega
          have w4 : IntKind.i64.wrap (64 * (k : Int) + (j : Int)) = 64 * (k : Int) + (j : Int) := by rw [IntKind.wrap_i64]; omega
          have g4 := idx_text t (64 * k + j) (Sb l (64 * k + j)) (64 * (k : Int) + (j : Int)) (by omega) (by omega) (by rw [Hget.out]; simp)
          have eL : wr.cell? ⟨X, j / 4, none⟩ = some (U (partW (Sb l) (64 * k) j (j / 4))) := by
            rw [cell_of_row wr _ _ _ 23 (0, 0) Hx.out]; exact row_get _ _ _ _ (by omega) (by omega)
          have f0 : wr.frozen? ⟨X, j / 4, none⟩ = false := frozen_of_row wr _ _ _ 23 Hx.out
          have wd : IntKind.i64.wrap ((j : Int) / 4) = ((j / 4 : Nat) : Int) := by rw [IntKind.wrap_i64]; omega
          have b1 : ((j / 4 : Nat) : Int) < 16 := by omega
          generalize hq : j / 4 = q at wd b1 eL f0
          have Hq := Lib.hid hq
          clear hts hq
          go_wp2_with fail
          refine wp_region_still_tail 15 (by kernel_rfl) (by kernel_rfl) ?_
          change wpStill _ _ wr.drew _ _ _
          simp only [List.take_succ_cons, List.take_zero, List.drop_succ_cons, List.drop_zero]
          repeat still_step
          refine wpStill_nil ?_
          rw [← Hq.out, part_val]
          clear w4 g4
          rw [← Hq.out] at eL f0
          go_wp2
          refine ⟨⟨j + 1, by omega, by go_num, ?_, ?_⟩, by simp [intOf]; omega⟩
          · show (wr.setCell ⟨X, j / 4, none⟩ _).heap[X]? = _
            rw [heap_setCell_same wr _ _ _ 23 _ Hx.out, row_part _ _ _ hjl]
          · exact HK'.out.cellX HBX.out _ _
        · obtain rfl : j = 64 := by omega
          have hsb : (Tryd.prog.info? 28).map (·.size) = some (row 8 (hs (Sb l) k) 8).size := by rw [row_size]; exact size28
          have hsx : (Tryd.prog.info? 23).map (·.size) = some (row 16 (wordAt (Sb l) (64 * k)) 16).size := by rw [row_size]; exact size23
          have hxo := Hx.out
          rw [row_part64] at hxo
          clear Hx
          have Hx := Lib.hid hxo
          clear hxo
          go_wp2_with (first | (refine wpList_load_row rfl 28 (.tmp 4) rfl B rfl 28 (row 8 (hs (Sb l) k) 8) (0, 0) (.array 8 22) HK'.out.cb Tryd.underlying28 rfl hsb ?_) | (refine wpList_load_row rfl 23 (.tmp 6) rfl X rfl 23 (row 16 (wordAt (Sb l) (64 * k)) 16) (0, 0) (.array 16 22) Hx.out Tryd.underlying23 rfl hsx ?_))
          refine (rcompress_any (hs (Sb l) k) (wordAt (Sb l) (64 * k)) wr).mono ?_
          rintro e w3 ⟨rfl, hb3⟩
          have hC3 := HK'.out.later hb3
          have H3 := Lib.hid hC3
          clear hb3 hC3 hsb hsx HK' Hx
          have hsc : (Tryd.prog.info? 28).map (·.size) = some (row 8 (comp (hs (Sb l) k) (wordAt (Sb l) (64 * k))) 8).size := by rw [row_size]; exact size28
          go_wp2_with (refine wpList_store_row rfl 28 (.tmp 4) (.tmp 43) rfl B (row 8 (comp (hs (Sb l) k) (wordAt (Sb l) (64 * k))) 8) rfl rfl 28 (row 8 (hs (Sb l) k) 8) H3.out.cb hsc (by rw [row_size, row_size]) (row_one _ _ _) ?_)
          refine ⟨⟨k + 1, by omega, by go_num, ?_⟩, by simp [intOf]; omega⟩
          rw [hs_succ]; exact H3.out.put _
    · obtain rfl : k = nb l := by omega
      have hd : decide (64 * ((nb l : Nat) : Int) < (t.size : Int)) = false := by have := Hts.out; simp; omega
      have hsB : sumB l = outByte (hs (Sb l) (nb l)) := by funext i; rw [sumB]
      have HsB := Lib.hid hsB
      have hal := Hal.out
      clear hsB
      generalize hs (Sb l) (nb l) = G at HK HsB
      go_wp2_with fail
      clear hal
      obtain ⟨WX, hWX⟩ : ∃ WX, wr.alloc (.cells (rowB (sumB l) 0) 33) = WX := ⟨_, rfl⟩
      have hx0 : WX.heap[wr.heap.size]? = some (.cells (rowB (sumB l) 0) 33 (0, 0)) := by rw [← hWX]; exact heap_alloc_last wr _
      have hK0 : SumAt w B (sumB l) G WX := by rw [← hWX]; exact HK.out.later ((Below.refl _ _).alloc (Nat.le_refl _) _)
      have hBX : B < wr.heap.size := HK.out.lt
      rw [hWX]
      have Hx0 := Lib.hid hx0
      have HK0 := Lib.hid hK0
      have HBX := Lib.hid hBX
      clear hWX hx0 hK0 hBX HK
      generalize wr.heap.size = X at Hx0 HBX ⊢
      go_loopw [9] (fun i wr' => ∃ j : Nat, j ≤ 32 ∧ i = .int .i64 j ∧ wr'.heap[X]? = some (.cells (rowB (sumB l) j) 33 (0, 0)) ∧ SumAt w B (sumB l) G wr') (fun i _ => 32 - (intOf i).toNat)
      case atStart => exact ⟨0, by omega, rfl, Hx0.out, HK0.out⟩
      case round =>
        obtain ⟨j, hj, rfl, hx, hC⟩ := hrel
        have Hx := Lib.hid hx
        have HK' := Lib.hid hC
        clear hx hC Hx0 HK0
        by_cases hjl : j < 32
        · have b0 : (j : Int) < 32 := by omega
          have eL : wr.cell? ⟨B, j / 4, none⟩ = some (U (G (j / 4))) := by
            rw [cell_of_row wr _ _ _ 28 (0, 0) HK'.out.cb]; exact row_get _ _ _ _ (by omega) (by omega)
          have e0 : wr.cell? ⟨X, j, none⟩ = some (.int .u8 0) := by
            rw [cell_of_row wr _ _ _ 33 (0, 0) Hx.out]; exact rowB_get0 _ _ _ (Nat.le_refl _) hjl
          have f0 : wr.frozen? ⟨X, j, none⟩ = false := frozen_of_row wr _ _ _ 33 Hx.out
          go_wp2_with fail
          rw [out_val G j, ← HsB.out]
          refine ⟨⟨j + 1, by omega, by go_num, ?_, HK'.out.cellX' HBX.out _ _⟩, by simp [intOf]; omega⟩
          rw [heap_setCell_same wr _ _ _ 33 _ Hx.out, rowB_succ _ _ hjl]
        · obtain rfl : j = 32 := by omega
          have hs33 : (Tryd.prog.info? 33).map (·.size) = some (rowB (sumB l) 32).size := by rw [rowB_size]; exact size33
          go_wp2_with (first | (refine wpList_load_row rfl 33 (.tmp 8) rfl X rfl 33 (rowB (sumB l) 32) (0, 0) (.array 32 5) Hx.out Tryd.underlying33 rfl hs33 ?_) | (refine wpList_store_row rfl 33 (.tmp 2) (.tmp 61) rfl w.heap.size (rowB (sumB l) 32) rfl rfl 33 (rowB (sumB l) 0) HK'.out.cr hs33 (by rw [rowB_size, rowB_size]) (rowB_one _ _) ?_))
          exact bodyPost_ret (v := .agg (rowB (sumB l) 32)) (results_cell_row rfl _ _ w.heap.size 33 _ (0, 0) _ rfl (setRow_heap wr _ _ _ 33 _ HK'.out.cr) Tryd.underlying33 rfl hs33) rfl ⟨by rw [Hl.out], below_setRow HK'.out.bel (Nat.le_refl _) _⟩
end Go.Proofs.YtkoeaejfkgapcaaDoor
