/-
  The two Expands.
-/
import Derived.Test.YtkoeaejfkgapcaaDoorArr
import Derived.StillTailTactics
import Derived.BigQuiet
import Derived.Deep.QuietTactic
namespace Go.Proofs.YtkoeaejfkgapcaaDoor
open Go.RowKit
set_option linter.unusedVariables false

/-- A contract that the region's walk in the text's order takes. -/
theorem rotq (x : BitVec 32) (n : Nat) (h0 : 1 ≤ n) (h : n ≤ 31) (w : World) :
    Calls Tryd.prog 20 #[U x, .int .i64 n] w fun e w' => e = .returned (U (rotr x n)) ∧ w' = w := (rot_any x n h0 h w).mono fun _ _ ⟨a, b⟩ => ⟨a, b.symm⟩

theorem alloc3 (w : World) (a b c : Obj) : (((w.alloc a).alloc b).alloc c).heap = ((w.heap.push a).push b).push c := rfl
theorem alloc3_0 (w : World) (a b c : Obj) : (((w.alloc a).alloc b).alloc c).heap[w.heap.size]? = some a := by rw [alloc3]; simp [Array.getElem?_push]; omega
theorem alloc3_1 (w : World) (a b c : Obj) : (((w.alloc a).alloc b).alloc c).heap[w.heap.size + 1]? = some b := by rw [alloc3]; simp [Array.getElem_push]
theorem alloc3_2 (w : World) (a b c : Obj) : (((w.alloc a).alloc b).alloc c).heap[w.heap.size + 1 + 1]? = some c := by rw [alloc3]; simp [Array.getElem_push]

theorem heap_setRow_other (w : World) (g k : Nat) (cs : Array Value) (h : k ≠ g) : (w.setRow g cs).heap[k]? = w.heap[k]? := by
  simp only [World.setRow, Array.getElem?_modify]
  rw [if_neg (fun e => h e.symm)]
theorem below_setRow {B : Nat} {w w' : World} (h : Below B w w') {g : Nat} (hg : B ≤ g) (cs : Array Value) : Below B w (w'.setRow g cs) :=
  h.trans ⟨rfl, rfl, rfl, by simp, fun k hk => heap_setRow_other _ _ _ _ (by omega)⟩
/-- What Expand's loop keeps: the result's row, still noughts; the schedule's first k. -/
structure ExpAt (w : World) (W : Nat → BitVec 32) (k : Nat) (wr : World) : Prop where
  c2 : wr.heap[w.heap.size + 1]? = some (.cells (row 64 (sched W) 0) 25 (0, 0))
  c3 : wr.heap[w.heap.size + 1 + 1]? = some (.cells (row 64 (sched W) k) 25 (0, 0))
  bel : Below w.heap.size w wr
theorem ExpAt.cell {w : World} {W : Nat → BitVec 32} {k : Nat} {wr : World} (h : ExpAt w W k wr) (i : Nat) (hi : i < k) (hk : k ≤ 64) : wr.cell? ⟨w.heap.size + 1 + 1, i, none⟩ = some (U (sched W i)) := by
  rw [cell_of_row wr _ i _ 25 (0, 0) h.c3]; exact row_get _ _ _ _ hi (by omega)

theorem ExpAt.step {w : World} {W : Nat → BitVec 32} {k : Nat} {wr : World} (h : ExpAt w W k wr) (hk : k < 64) : ExpAt w W (k + 1) ((wr.setCell ⟨w.heap.size + 1 + 1, k, none⟩ (U (sched W k))).drew) := by
  refine ⟨?_, ?_, ?_⟩
  · show (wr.setCell ⟨w.heap.size + 1 + 1, k, none⟩ (U (sched W k))).heap[w.heap.size + 1]? = _
    rw [heap_setCell_other _ _ _ _ (by simp)]; exact h.c2
  · show (wr.setCell ⟨w.heap.size + 1 + 1, k, none⟩ (U (sched W k))).heap[w.heap.size + 1 + 1]? = _
    rw [heap_setCell_same wr _ k _ 25 _ h.c3, row_succ 64 (sched W) k hk]
  · exact h.bel.trans (((Below.refl _ _).setCell (p := ⟨w.heap.size + 1 + 1, k, none⟩) (by simp; omega) _).drew)
theorem shr_lit (a : BitVec 32) (n : Nat) (m : Int) (h : (2 : Int) ^ n = m) : (a.toNat : Int) / m = ((a >>> n).toNat : Int) := by rw [← h]; exact shr32_n a n
theorem sum4 (a b c d : BitVec 32) : ((a.toNat : Int) + b.toNat + c.toNat + d.toNat) % 4294967296 = ((a + b + c + d).toNat : Int) := by
  rw [BitVec.toNat_add, BitVec.toNat_add, BitVec.toNat_add]; omega
theorem sched_val (W : Nat → BitVec 32) (j : Nat) (h : j < 48) :
    ((bits .xor .u32 (bits .xor .u32 ((rotr (sched W (j + 14)) 17).toNat : Int) ((rotr (sched W (j + 14)) 19).toNat : Int)) (((sched W (j + 14)).toNat : Int) / 1024) + ((sched W (j + 9)).toNat : Int) +
      bits .xor .u32 (bits .xor .u32 ((rotr (sched W (j + 1)) 7).toNat : Int) ((rotr (sched W (j + 1)) 18).toNat : Int)) (((sched W (j + 1)).toNat : Int) / 8) + ((sched W j).toNat : Int)) % 4294967296) = ((sched W (j + 16)).toNat : Int) := by
  rw [shr_lit _ 10 1024 rfl, shr_lit _ 3 8 rfl, xor32, xor32, xor32, xor32, sum4, sched_next W (j + 16) (by omega) (by omega)]
  rfl

set_option maxRecDepth 100000 in
set_option maxHeartbeats 800000 in
theorem expand_any (W : Nat → BitVec 32) (w : World) :
    Calls Tryd.prog 10 #[.agg (row 16 W 16)] w fun e w' => e = .returned (.agg (row 64 (sched W) 64)) ∧ Below w.heap.size w w' := by
  have hal : ∀ w : World, (zeroValue 25).run Tryd.prog w = .ok (.agg (row 64 (sched W) 0)) w := fun w => by rw [row_zero]; exact zero25 w
  go_enter Tryd.func10, Tryd.ntmps10
  go_wp2_with fail
  clear hal
  obtain ⟨W0, hW0⟩ : ∃ W0, ((w.alloc (.cells (row 16 W 16) 23)).alloc (.cells (row 64 (sched W) 0) 25)).alloc (.cells (row 64 (sched W) 0) 25) = W0 := ⟨_, rfl⟩
  have hbel : Below w.heap.size w W0 := hW0 ▸ (((Below.refl _ _).alloc (Nat.le_refl _) _).alloc (by simp) _).alloc (by simp; omega) _
  have c1 : W0.heap[w.heap.size]? = some (.cells (row 16 W 16) 23 (0, 0)) := by rw [← hW0]; exact alloc3_0 _ _ _ _
  have c2 : W0.heap[w.heap.size + 1]? = some (.cells (row 64 (sched W) 0) 25 (0, 0)) := by rw [← hW0]; exact alloc3_1 _ _ _ _
  have c3 : W0.heap[w.heap.size + 1 + 1]? = some (.cells (row 64 (sched W) 0) 25 (0, 0)) := by rw [← hW0]; exact alloc3_2 _ _ _ _
  rw [hW0]
  have HW0 := Lib.hid hW0
  clear hW0
  have Hbel := Lib.hid hbel
  have C1 := Lib.hid c1
  have C2 := Lib.hid c2
  have C3 := Lib.hid c3
  clear hbel c1 c2 c3
  have Hcc : RowKit.Hid (∀ j v, (row 16 W 16).toList[j]? = some v → W0.drew.cell? ((⟨w.heap.size, 0, none⟩ : Addr).add j) = some v) := Lib.hid fun j v hj => by
    rw [Addr.add_lit, Nat.zero_add, cell_of_row W0.drew _ j _ 23 (0, 0) C1.out]
    simpa using hj
  go_region_law (refine step_copy_splice rfl (.tmp 8) (.tmp 9) 43 43 rfl 22 Tryd.underlying43 size22 (some ⟨w.heap.size + 1 + 1, 0, none⟩) (some ⟨w.heap.size, 0, none⟩) 64 64 16 16 (by simp [Act.eval, Act.put]) (by simp [Act.eval, Act.put]) (w.heap.size + 1 + 1) 0 (row 64 (sched W) 0).toList 25 (show W0.drew.heap[w.heap.size + 1 + 1]? = _ from C3.out) (row 16 W 16).toList (by rw [Array.length_toList, row_size]; rfl) (fun _ => ⟨rfl, _, rfl, Hcc.out⟩) (by simp [row]) (row_one' _ _ _) (w.heap.size + 1 + 1) W0 (Below.drew (Below.refl _ _)) (Nat.le_refl _) ?_; intro W1 hc1 hb1)
  have hE : ExpAt w W (16 + 0) W1 := by
    have hc1' : W1.heap[w.heap.size + 1 + 1]? = _ := hc1
    rw [row_congr 16 W (sched W) 16 (fun i hi => (sched_first W i hi).symm), row_put 64 16 (sched W) (by decide)] at hc1'
    exact ⟨(hb1.block _ (by omega)).trans C2.out, hc1', Hbel.out.trans (hb1.mono (by omega))⟩
  have HE := Lib.hid hE
  clear hc1 hb1 hE C1 C2 C3 Hbel Hcc HW0
  go_wp2_with fail
  go_loopw [11] (fun i wr => ∃ j : Nat, j ≤ 48 ∧ i = .int .i64 j ∧ ExpAt w W (16 + j) wr) (fun i _ => 48 - (intOf i).toNat)
  case atStart => exact ⟨0, by omega, rfl, HE.out⟩
  case round =>
    obtain ⟨j, hj, rfl, hE⟩ := hrel
    have HE' := Lib.hid hE
    clear hE HE
    by_cases hjl : j < 48
    · have d14 := HE'.out.cell (j + 14) (by omega) (by omega)
      have d1 := HE'.out.cell (j + 1) (by omega) (by omega)
      have d9 := HE'.out.cell (j + 9) (by omega) (by omega)
      have d0 := HE'.out.cell j (by omega) (by omega)
      go_wp2_with fail
      have hw7 : IntKind.i64.wrap ((j : Int) + 16 - 7) = (j : Int) + 9 := by rw [IntKind.wrap_i64]; omega
      have hw16 : IntKind.i64.wrap (j : Int) = (j : Int) := by rw [IntKind.wrap_i64]; omega
      go_quiet (fail)
      go_wp2_with fail
      obtain ⟨wq, hwq⟩ : ∃ wq, wr.drewN nq = wq := ⟨_, rfl⟩
      have hE2 : ExpAt w W (16 + j) wq := hwq ▸ (⟨HE'.out.c2, HE'.out.c3, HE'.out.bel.trans ⟨rfl, rfl, rfl, Nat.le_refl _, fun _ _ => rfl⟩⟩ : ExpAt w W (16 + j) (wr.drewN nq))
      rw [hwq]
      clear hwq d14 d1 d9 d0
      have d9 := hE2.cell (j + 9) (by omega) (by omega)
      have d0 := hE2.cell j (by omega) (by omega)
      have c16 : wq.cell? ⟨w.heap.size + 1 + 1, j + 16, none⟩ = some (.int .u32 0) := by
        rw [cell_of_row wq _ _ _ 25 (0, 0) hE2.c3]; exact row_get0 _ _ _ _ (by omega) (by omega)
      have f3 : wq.frozen? ⟨w.heap.size + 1 + 1, j + 16, none⟩ = false := by rw [frozen_of_row wq _ _ _ 25 hE2.c3]
      have HE2 := Lib.hid hE2
      clear hE2
      have b9 : 0 ≤ (j : Int) + 9 ∧ (j : Int) + 9 < 64 := by omega
      have n9 : ((j : Int) + 9).toNat = j + 9 := by omega
      have b0 : (j : Int) < 64 := by omega
      have b16 : 0 ≤ (j : Int) + 16 ∧ (j : Int) + 16 < 64 := by omega
      have n16 : ((j : Int) + 16).toNat = j + 16 := by omega
      obtain ⟨b9a, b9b⟩ := b9
      obtain ⟨b16a, b16b⟩ := b16
      refine wp_region_still_tail 29 (by kernel_rfl) (by kernel_rfl) ?_
      change wpStill _ _ wq.drew _ _ _
      simp only [List.take_succ_cons, List.take_zero, List.drop_succ_cons, List.drop_zero]
      repeat (first | still_step | still_call (rotq _ _ (by decide) (by decide) _))
      refine wpStill_nil ?_
      go_wp2
      refine ⟨⟨j + 1, by omega, by go_num, ?_⟩, by simp [intOf]; omega⟩
      rw [sched_val W j hjl]
      have := HE2.out.step (by omega)
      rw [Nat.add_comm 16 j] at this
      rw [show 16 + (j + 1) = j + 16 + 1 by omega]
      exact this
    · obtain rfl : j = 48 := by omega
      have h1 := HE'.out.c3
      have h2 := HE'.out.c2
      have hbel := HE'.out.bel
      go_wp2_with (first | (refine wpList_load_row rfl 25 _ rfl (w.heap.size + 1 + 1) rfl 25 _ (0, 0) _ h1 Tryd.underlying25 rfl (by rw [row_size]; exact size25) ?_) | (refine wpList_store_row rfl 25 _ _ rfl (w.heap.size + 1) _ rfl rfl 25 _ h2 (by rw [row_size]; exact size25) (by rw [row_size, row_size]) (row_one _ _ _) ?_))
      exact bodyPost_ret (v := .agg (row 64 (sched W) 64)) (results_cell_row rfl _ _ (w.heap.size + 1) 25 _ (0, 0) _ rfl (setRow_heap wr _ _ _ 25 _ h2) Tryd.underlying25 rfl (by rw [row_size]; exact size25)) rfl ⟨rfl, below_setRow hbel (by omega) _⟩
end Go.Proofs.YtkoeaejfkgapcaaDoor
