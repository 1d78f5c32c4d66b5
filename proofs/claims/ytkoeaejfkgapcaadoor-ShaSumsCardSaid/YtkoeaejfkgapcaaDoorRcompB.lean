/-
  The reference's Compress.
-/
import Derived.Test.YtkoeaejfkgapcaaDoorRcomp
namespace Go.Proofs.YtkoeaejfkgapcaaDoor
open Go.RowKit
set_option linter.unusedVariables false

theorem rrotq (x : BitVec 32) (n : Nat) (h0 : 1 ≤ n) (h : n ≤ 31) (w : World) :
    Calls Tryd.prog 21 #[U x, .int .u64 n] w fun e w' => e = .returned (U (rotr x n)) ∧ w' = w := (rrot_any x n h0 h w).mono fun _ _ ⟨a, b⟩ => ⟨a, b.symm⟩

/-- What the reference's loops keep: the state in its block is F. -/
structure RcAt (w : World) (H W : Nat → BitVec 32) (X K B : Nat) (F : Nat → BitVec 32) (wr : World) : Prop where
  c0 : wr.heap[w.heap.size]? = some (.cells (row 8 H 8) 28 (0, 0))
  c2 : wr.heap[w.heap.size + 1 + 1]? = some (.cells (row 8 H 0) 28 (0, 0))
  cx : wr.heap[X]? = some (.cells (row 64 (sched W) 64) 25 (0, 0))
  ck : wr.heap[K]? = some (.cells (row 64 Kt 64) 25 (0, 0))
  cs : wr.heap[B]? = some (.cells (row 8 F 8) 28 (0, 0))
  hX : w.heap.size + 1 + 1 < X
  hK : X < K
  hB : K < B
  bel : Below w.heap.size w wr
theorem RcAt.drewN {w : World} {H W : Nat → BitVec 32} {X K B : Nat} {F : Nat → BitVec 32} {wr : World} (h : RcAt w H W X K B F wr) (n : Nat) : RcAt w H W X K B F (wr.drewN n) :=
  ⟨h.c0, h.c2, h.cx, h.ck, h.cs, h.hX, h.hK, h.hB, h.bel.trans ⟨rfl, rfl, rfl, Nat.le_refl _, fun _ _ => rfl⟩⟩
theorem RcAt.put {w : World} {H W : Nat → BitVec 32} {X K B : Nat} {F : Nat → BitVec 32} {wr : World} (h : RcAt w H W X K B F wr) (G : Nat → BitVec 32) : RcAt w H W X K B G (wr.setRow B (row 8 G 8)) := by
  have h1 := h.hX; have h2 := h.hK; have h3 := h.hB
  refine ⟨?_, ?_, ?_, ?_, setRow_heap wr _ _ _ 28 _ h.cs, h1, h2, h3, below_setRow h.bel (by omega) _⟩
  · rw [heap_setRow_other _ _ _ _ (by omega)]; exact h.c0
  · rw [heap_setRow_other _ _ _ _ (by omega)]; exact h.c2
  · rw [heap_setRow_other _ _ _ _ (by omega)]; exact h.cx
  · rw [heap_setRow_other _ _ _ _ (by omega)]; exact h.ck
theorem RcAt.cell {w : World} {H W : Nat → BitVec 32} {X K B : Nat} {F : Nat → BitVec 32} {wr : World} (h : RcAt w H W X K B F wr) (i : Nat) (hi : i < 8) : wr.cell? ⟨B, i, none⟩ = some (U (F i)) := by
  rw [cell_of_row wr _ i _ 28 (0, 0) h.cs]; exact row_get _ _ _ _ hi hi
theorem RcAt.cellH {w : World} {H W : Nat → BitVec 32} {X K B : Nat} {F : Nat → BitVec 32} {wr : World} (h : RcAt w H W X K B F wr) (i : Nat) (hi : i < 8) : wr.cell? ⟨w.heap.size, i, none⟩ = some (U (H i)) := by
  rw [cell_of_row wr _ i _ 28 (0, 0) h.c0]; exact row_get _ _ _ _ hi hi
theorem RcAt.cellX {w : World} {H W : Nat → BitVec 32} {X K B : Nat} {F : Nat → BitVec 32} {wr : World} (h : RcAt w H W X K B F wr) (i : Nat) (hi : i < 64) : wr.cell? ⟨X, i, none⟩ = some (U (sched W i)) := by
  rw [cell_of_row wr _ i _ 25 (0, 0) h.cx]; exact row_get _ _ _ _ hi hi
theorem RcAt.cellK {w : World} {H W : Nat → BitVec 32} {X K B : Nat} {F : Nat → BitVec 32} {wr : World} (h : RcAt w H W X K B F wr) (i : Nat) (hi : i < 64) : wr.cell? ⟨K, i, none⟩ = some (U (Kt i)) := by
  rw [cell_of_row wr _ i _ 25 (0, 0) h.ck]; exact row_get _ _ _ _ hi hi
theorem get_of (H : Nat → BitVec 32) (i : Nat) (h : i < 8) : (St.of H).get i = H i := by
  match i, h with
  | 0, _ => rfl | 1, _ => rfl | 2, _ => rfl | 3, _ => rfl | 4, _ => rfl | 5, _ => rfl | 6, _ => rfl | 7, _ => rfl
theorem row_nought (H : Nat → BitVec 32) : row 8 H 0 = row 8 (fun _ => 0) 8 := rfl
theorem stTo_zero (K X : Nat → BitVec 32) (s : St) : stTo K X s 0 = s := rfl
theorem rone_val (s : St) (k x : BitVec 32) :
    IntKind.u32.wrap (IntKind.u32.wrap (IntKind.u32.wrap (IntKind.u32.wrap ((s.h.toNat : Int) + bits .xor .u32 (bits .xor .u32 ((rotr s.e 6).toNat : Int) ((rotr s.e 11).toNat : Int)) ((rotr s.e 25).toNat : Int)) +
      bits .xor .u32 (bits .and .u32 (s.e.toNat : Int) (s.f.toNat : Int)) (bits .and .u32 (bits .xor .u32 (if IntKind.u32.signed = true then -1 else IntKind.u32.max) (s.e.toNat : Int)) (s.g.toNat : Int))) + (k.toNat : Int)) + (x.toNat : Int)) = ((s.one k x).toNat : Int) := by
  rw [xor32 (rotr s.e 6), xor32 (rotr s.e 6 ^^^ rotr s.e 11)]
  exact one_val s k x

theorem rtwo_val (s : St) :
    IntKind.u32.wrap (bits .xor .u32 (bits .xor .u32 ((rotr s.a 2).toNat : Int) ((rotr s.a 13).toNat : Int)) ((rotr s.a 22).toNat : Int) + bits .xor .u32 (bits .xor .u32 (bits .and .u32 (s.a.toNat : Int) (s.b.toNat : Int)) (bits .and .u32 (s.a.toNat : Int) (s.c.toNat : Int))) (bits .and .u32 (s.b.toNat : Int) (s.c.toNat : Int))) = ((s.two).toNat : Int) := by
  rw [and32, and32, and32, xor32, xor32, xor32, xor32, St.two, BitVec.toNat_add, IntKind.wrap_u32]
  rw [show turned s.a 2 13 22 = rotr s.a 2 ^^^ rotr s.a 13 ^^^ rotr s.a 22 from rfl]
  omega
theorem sets8 (a0 a1 a2 a3 a4 a5 a6 a7 v0 v1 v2 v3 v4 v5 v6 v7 : Value) :
    (((((((((#[a0, a1, a2, a3, a4, a5, a6, a7] : Array Value).setIfInBounds 0 v0).setIfInBounds 1 v1).setIfInBounds 2 v2).setIfInBounds 3 v3).setIfInBounds 4 v4).setIfInBounds 5 v5).setIfInBounds 6 v6).setIfInBounds 7 v7) = #[v0, v1, v2, v3, v4, v5, v6, v7] := by
  simp
theorem row8_sets (F : Nat → BitVec 32) (v0 v1 v2 v3 v4 v5 v6 v7 : Value) :
    ((((((((row 8 F 8).setIfInBounds 0 v0).setIfInBounds 1 v1).setIfInBounds 2 v2).setIfInBounds 3 v3).setIfInBounds 4 v4).setIfInBounds 5 v5).setIfInBounds 6 v6).setIfInBounds 7 v7 = #[v0, v1, v2, v3, v4, v5, v6, v7] := by
  rw [row8, sets8]
theorem heap_set (w : World) (g i : Nat) (cs : Array Value) (v : Value) (hg : w.heap[g]? = some (.cells cs 28 (0, 0))) : (w.setCell ⟨g, i, none⟩ v).heap[g]? = some (.cells (cs.setIfInBounds i v) 28 (0, 0)) := heap_setCell_same w g i cs 28 v hg
/-- Eight cells, one after the other. -/
def put8 (w : World) (B : Nat) (G : Nat → BitVec 32) : World :=
  (((((((w.setCell ⟨B, 0, none⟩ (U (G 0))).setCell ⟨B, 1, none⟩ (U (G 1))).setCell ⟨B, 2, none⟩ (U (G 2))).setCell ⟨B, 3, none⟩ (U (G 3))).setCell ⟨B, 4, none⟩ (U (G 4))).setCell ⟨B, 5, none⟩ (U (G 5))).setCell ⟨B, 6, none⟩ (U (G 6))).setCell ⟨B, 7, none⟩ (U (G 7))
theorem put8_other (w : World) (B k : Nat) (G : Nat → BitVec 32) (h : k ≠ B) : (put8 w B G).heap[k]? = w.heap[k]? := by
  unfold put8
  iterate 8 rw [heap_setCell_other _ _ _ _ h]
theorem put8_same (w : World) (B : Nat) (F G : Nat → BitVec 32) (h : w.heap[B]? = some (.cells (row 8 F 8) 28 (0, 0))) : (put8 w B G).heap[B]? = some (.cells (row 8 G 8) 28 (0, 0)) := by
  unfold put8
  rw [heap_set _ _ 7 _ _ (heap_set _ _ 6 _ _ (heap_set _ _ 5 _ _ (heap_set _ _ 4 _ _ (heap_set _ _ 3 _ _ (heap_set _ _ 2 _ _ (heap_set _ _ 1 _ _ (heap_set _ _ 0 _ _ h))))))), row8_sets, ← row8]
theorem put8_below {C : Nat} {w0 w : World} (h : Below C w0 w) (B : Nat) (hB : C ≤ B) (G : Nat → BitVec 32) : Below C w0 (put8 w B G) := by
  unfold put8
  exact (((((((h.setCell (p := ⟨B, 0, none⟩) hB _).setCell (p := ⟨B, 1, none⟩) hB _).setCell (p := ⟨B, 2, none⟩) hB _).setCell (p := ⟨B, 3, none⟩) hB _).setCell (p := ⟨B, 4, none⟩) hB _).setCell (p := ⟨B, 5, none⟩) hB _).setCell (p := ⟨B, 6, none⟩) hB _).setCell (p := ⟨B, 7, none⟩) hB _
theorem RcAt.put8 {w : World} {H W : Nat → BitVec 32} {X K B : Nat} {F : Nat → BitVec 32} {wr : World} (h : RcAt w H W X K B F wr) (G : Nat → BitVec 32) : RcAt w H W X K B G (put8 wr B G) := by
  have h1 := h.hX; have h2 := h.hK; have h3 := h.hB
  refine ⟨?_, ?_, ?_, ?_, put8_same _ _ F _ h.cs, h1, h2, h3, put8_below h.bel _ (by omega) _⟩
  · rw [put8_other _ _ _ _ (by omega)]; exact h.c0
  · rw [put8_other _ _ _ _ (by omega)]; exact h.c2
  · rw [put8_other _ _ _ _ (by omega)]; exact h.cx
  · rw [put8_other _ _ _ _ (by omega)]; exact h.ck
theorem RcAt.vals {w : World} {H W : Nat → BitVec 32} {X K B : Nat} {F : Nat → BitVec 32} {wr : World} (h : RcAt w H W X K B F wr) (G : Nat → BitVec 32) {v0 v1 v2 v3 v4 v5 v6 v7 : Value}
    (e0 : v0 = U (G 0)) (e1 : v1 = U (G 1)) (e2 : v2 = U (G 2)) (e3 : v3 = U (G 3)) (e4 : v4 = U (G 4)) (e5 : v5 = U (G 5)) (e6 : v6 = U (G 6)) (e7 : v7 = U (G 7)) :
    RcAt w H W X K B G ((((((((wr.setCell ⟨B, 0, none⟩ v0).setCell ⟨B, 1, none⟩ v1).setCell ⟨B, 2, none⟩ v2).setCell ⟨B, 3, none⟩ v3).setCell ⟨B, 4, none⟩ v4).setCell ⟨B, 5, none⟩ v5).setCell ⟨B, 6, none⟩ v6).setCell ⟨B, 7, none⟩ v7).drew.drew := by
  subst e0 e1 e2 e3 e4 e5 e6 e7
  exact ((h.put8 G).drewN 1).drewN 1
theorem RcAt.free {w : World} {H W : Nat → BitVec 32} {X K B : Nat} {F : Nat → BitVec 32} {wr : World} (h : RcAt w H W X K B F wr) (i : Nat) : wr.frozen? ⟨B, i, none⟩ = false := frozen_of_row wr _ _ _ 28 h.cs
theorem RcAt.mix {w : World} {H W : Nat → BitVec 32} {X K B : Nat} {S : Nat → BitVec 32} {k : Nat} {wr : World} (h : RcAt w H W X K B (mixTo S H k) wr) (hk : k < 8) :
    RcAt w H W X K B (mixTo S H (k + 1)) ((wr.setCell ⟨B, k, none⟩ (U (S k + H k))).drew) := by
  have h1 := h.hX; have h2 := h.hK; have h3 := h.hB
  have hb : Below w.heap.size w ((wr.setCell ⟨B, k, none⟩ (U (S k + H k))).drew) := h.bel.trans (((Below.refl _ _).setCell (p := ⟨B, k, none⟩) (by simp; omega) _).drew)
  refine ⟨?_, ?_, ?_, ?_, ?_, h1, h2, h3, hb⟩
  · show (wr.setCell ⟨B, k, none⟩ (U (S k + H k))).heap[_]? = _
    rw [heap_setCell_other _ _ _ _ (by simp; omega)]; exact h.c0
  · show (wr.setCell ⟨B, k, none⟩ (U (S k + H k))).heap[_]? = _
    rw [heap_setCell_other _ _ _ _ (by simp; omega)]; exact h.c2
  · show (wr.setCell ⟨B, k, none⟩ (U (S k + H k))).heap[_]? = _
    rw [heap_setCell_other _ _ _ _ (by simp; omega)]; exact h.cx
  · show (wr.setCell ⟨B, k, none⟩ (U (S k + H k))).heap[_]? = _
    rw [heap_setCell_other _ _ _ _ (by simp; omega)]; exact h.ck
  · show (wr.setCell ⟨B, k, none⟩ (U (S k + H k))).heap[_]? = _
    rw [heap_setCell_same wr _ k _ 28 _ h.cs, row_mix _ _ _ hk]
theorem mixTo_at (S H : Nat → BitVec 32) (k : Nat) : mixTo S H k k = S k := by simp [mixTo]
theorem mixTo_none (S H : Nat → BitVec 32) : mixTo S H 0 = S := by funext i; simp [mixTo]
theorem mixTo_all (H W : Nat → BitVec 32) : row 8 (mixTo (stTo Kt (sched W) (St.of H) 64).get H 8) 8 = row 8 (comp H W) 8 :=
  row_congr 8 _ _ 8 (fun i hi => by simp [mixTo, hi, comp, BitVec.add_comm])
attribute [local irreducible] stTo sched row Kt comp
set_option maxRecDepth 100000 in
set_option maxHeartbeats 1600000 in
theorem rcompress_any (H W : Nat → BitVec 32) (w : World) :
    Calls Tryd.prog 13 #[.agg (row 8 H 8), .agg (row 16 W 16)] w fun e w' => e = .returned (.agg (row 8 (comp H W) 8)) ∧ Below w.heap.size w w' := by
  have hal : ∀ w : World, (zeroValue 28).run Tryd.prog w = .ok (.agg (row 8 H 0)) w := fun w => by rw [row_zero]; exact zero28 w
  have hal2 : ∀ w : World, (zeroValue 25).run Tryd.prog w = .ok (.agg (row 64 (sched W) 0)) w := fun w => by rw [row_zero]; exact zero25 w
  have hs23 : (Tryd.prog.info? 23).map (·.size) = some (row 16 W 16).size := by rw [row_size]; exact size23
  have hs25 : (Tryd.prog.info? 25).map (·.size) = some (row 64 (sched W) 64).size := by rw [row_size]; exact size25
  have hs25k : (Tryd.prog.info? 25).map (·.size) = some (row 64 Kt 64).size := by rw [row_size]; exact size25
  have hs28 : (Tryd.prog.info? 28).map (·.size) = some (row 8 H 8).size := by rw [row_size]; exact size28
  obtain ⟨W0, hW0⟩ : ∃ W0, ((w.alloc (.cells (row 8 H 8) 28)).alloc (.cells (row 16 W 16) 23)).alloc (.cells (row 8 H 0) 28) = W0 := ⟨_, rfl⟩
  have c0 : W0.heap[w.heap.size]? = some (.cells (row 8 H 8) 28 (0, 0)) := by rw [← hW0]; exact alloc3_0 _ _ _ _
  have c2 : W0.heap[w.heap.size + 1 + 1]? = some (.cells (row 8 H 0) 28 (0, 0)) := by rw [← hW0]; exact alloc3_2 _ _ _ _
  have hb0 : Below w.heap.size w W0 := by rw [← hW0]; exact (((Below.refl _ _).alloc (Nat.le_refl _) _).alloc (by simp) _).alloc (by simp; omega) _
  have hs0 : W0.heap.size = w.heap.size + 1 + 1 + 1 := by rw [← hW0]; simp
  have C0 := Lib.hid c0
  have C2 := Lib.hid c2
  have Hb0 := Lib.hid hb0
  have Hs0 := Lib.hid hs0
  have HW0 := Lib.hid hW0
  clear c0 c2 hb0 hs0 hW0
  go_enter Tryd.func13, Tryd.ntmps13
  go_wp2_with (refine wpList_load_row rfl 23 (.tmp 3) rfl (w.heap.size + 1) rfl 23 (row 16 W 16) (0, 0) (.array 16 22) (alloc3_1 w (.cells (row 8 H 8) 28) (.cells (row 16 W 16) 23) (.cells (row 8 H 0) 28)) Tryd.underlying23 rfl hs23 ?_)
  rw [HW0.out]
  refine (rexpand_any W _).mono ?_
  rintro e wE ⟨rfl, hbE⟩
  have HbE := Lib.hid hbE
  clear hbE
  go_wp2_with (refine wpList_store_row rfl 25 (.tmp 5) (.tmp 15) rfl wE.heap.size (row 64 (sched W) 64) rfl rfl 25 (row 64 (sched W) 0) (heap_alloc_last wE _) hs25 (by rw [row_size, row_size]) (row_one _ _ _) ?_; rw [World.setRow_alloc_new])
  refine (constants_any _).mono ?_
  rintro e wK ⟨rfl, hbK⟩
  have HbK := Lib.hid hbK
  clear hbK
  have hsK := HbK.out.size
  have hsE := HbE.out.size
  have hs1 : W0.heap.size = w.heap.size + 1 + 1 + 1 := Hs0.out
  have hold : ∀ k, k < W0.heap.size → wK.heap[k]? = W0.heap[k]? := fun k hk =>
    ((HbK.out.block k (by simp; omega)).trans (Lib.alloc_old wE _ k (by omega))).trans (HbE.out.block k hk)
  have hxK : wK.heap[wE.heap.size]? = some (.cells (row 64 (sched W) 64) 25 (0, 0)) := (HbK.out.block _ (by simp)).trans (heap_alloc_last wE _)
  have hlt : w.heap.size < wK.heap.size := by simp at hsK; omega
  have hb1 : Below w.heap.size w wE := Hb0.out.trans (HbE.out.mono (by omega))
  have hb2 : Below w.heap.size w wK := (hb1.alloc (by omega) (.cells (row 64 (sched W) 64) 25)).trans (HbK.out.mono (by simp; omega))
  have hxlt : wE.heap.size < wK.heap.size := by simp at hsK; omega
  have Hold := Lib.hid hold
  have HxK := Lib.hid hxK
  have Hb2 := Lib.hid hb2
  clear hold hxK hb1 hb2
  have Hz8 := Lib.hid (row_nought H)
  have h28 := heap_alloc2_old wK
  have hcH : ((wK.alloc (.cells (row 64 Kt 64) 25)).heap[w.heap.size]?) = some (.cells (row 8 H 8) 28 (0, 0)) := (Lib.alloc_old wK _ _ hlt).trans ((Hold.out _ (by omega)).trans C0.out)
  clear h28
  go_wp2_with (first | (refine wpList_store_row rfl 25 (.tmp 6) (.tmp 16) rfl wK.heap.size (row 64 Kt 64) rfl rfl 25 (row 64 (sched W) 0) (heap_alloc_last wK _) hs25k (by rw [row_size, row_size]) (row_one _ _ _) ?_; rw [World.setRow_alloc_new]) | (refine wpList_load_row rfl 28 (.tmp 2) rfl w.heap.size rfl 28 (row 8 H 8) (0, 0) (.array 8 22) hcH Tryd.underlying28 rfl hs28 ?_) | (refine wpList_store_row rfl 28 (.tmp 7) (.tmp 17) rfl (wK.heap.size + 1) (row 8 H 8) rfl rfl 28 (row 8 H 0) (heap_alloc2_new wK _ _) hs28 (by rw [row_size, row_size]) (row_one _ _ _) ?_))
  obtain ⟨WC, hWC⟩ : ∃ WC, ((wK.alloc (.cells (row 64 Kt 64) 25)).alloc (.cells (row 8 H 0) 28)).setRow (wK.heap.size + 1) (row 8 H 8) = WC := ⟨_, rfl⟩
  have hC : RcAt w H W wE.heap.size wK.heap.size (wK.heap.size + 1) (stTo Kt (sched W) (St.of H) 0).get WC := by
    have h0 : RcAt w H W wE.heap.size wK.heap.size (wK.heap.size + 1) (fun _ => 0) ((wK.alloc (.cells (row 64 Kt 64) 25)).alloc (.cells (row 8 H 0) 28)) := by
      have up : ∀ k, k < wK.heap.size → ((wK.alloc (.cells (row 64 Kt 64) 25)).alloc (.cells (row 8 H 0) 28)).heap[k]? = wK.heap[k]? := fun k hk =>
        (Lib.alloc_old _ _ k (by simp; omega)).trans (Lib.alloc_old wK _ k hk)
      refine ⟨(up _ hlt).trans ((Hold.out _ (by omega)).trans C0.out), (up _ (by omega)).trans ((Hold.out _ (by omega)).trans C2.out), (up _ hxlt).trans HxK.out, heap_alloc2_old wK _ _, by rw [← Hz8.out]; exact heap_alloc2_new wK _ _, by omega, hxlt, by omega, (Hb2.out.alloc (by omega) _).alloc (by simp; omega) _⟩
    have h1 := h0.put H
    rw [hWC] at h1
    have e : row 8 H 8 = row 8 (stTo Kt (sched W) (St.of H) 0).get 8 := row_congr 8 _ _ 8 (fun i hi => by rw [stTo_zero, get_of H i hi])
    exact ⟨h1.c0, h1.c2, h1.cx, h1.ck, e ▸ h1.cs, h1.hX, h1.hK, h1.hB, h1.bel⟩
  rw [hWC]
  have HC := Lib.hid hC
  clear hWC hC hcH Hz8 hlt hxlt hsK hsE hs1
  generalize wE.heap.size = X at HC ⊢
  generalize wK.heap.size + 1 = B at HC ⊢
  generalize wK.heap.size = K at HC ⊢
  clear hal hal2 hs23 hs25 hs25k hs28 C0 C2 Hb0 Hs0 HW0 HbE HbK Hold HxK Hb2
  go_wp2_with fail
  go_loopw [8] (fun i wr => ∃ j : Nat, j ≤ 64 ∧ i = .int .i64 j ∧ RcAt w H W X K B (stTo Kt (sched W) (St.of H) j).get wr) (fun i _ => 64 - (intOf i).toNat)
  case atStart => exact ⟨0, by omega, rfl, HC.out⟩
  case round =>
    obtain ⟨j, hj, rfl, hC⟩ := hrel
    have HC' := Lib.hid hC
    clear hC HC
    by_cases hjl : j < 64
    · have hst : stTo Kt (sched W) (St.of H) (j + 1) = (stTo Kt (sched W) (St.of H) j).step (Kt j) (sched W j) := stTo_succ _ _ _ _
      have dk := HC'.out.cellK j hjl
      have dx := HC'.out.cellX j hjl
      revert hst HC'
      generalize stTo Kt (sched W) (St.of H) j = s
      intro HC' hst
      have Hst := Lib.hid hst
      clear hst
      generalize hk : Kt j = k at dk
      generalize hx : sched W j = x at dx
      have Hk := Lib.hid hk
      have Hx := Lib.hid hx
      clear hk hx
      have e0 : wr.cell? ⟨B, 0, none⟩ = some (U s.a) := HC'.out.cell 0 (by decide)
      have e1 : wr.cell? ⟨B, 1, none⟩ = some (U s.b) := HC'.out.cell 1 (by decide)
      have e2 : wr.cell? ⟨B, 2, none⟩ = some (U s.c) := HC'.out.cell 2 (by decide)
      have e3 : wr.cell? ⟨B, 3, none⟩ = some (U s.d) := HC'.out.cell 3 (by decide)
      have e4 : wr.cell? ⟨B, 4, none⟩ = some (U s.e) := HC'.out.cell 4 (by decide)
      have e5 : wr.cell? ⟨B, 5, none⟩ = some (U s.f) := HC'.out.cell 5 (by decide)
      have e6 : wr.cell? ⟨B, 6, none⟩ = some (U s.g) := HC'.out.cell 6 (by decide)
      have e7 : wr.cell? ⟨B, 7, none⟩ = some (U s.h) := HC'.out.cell 7 (by decide)
      have b0 : (j : Int) < 64 := by omega
      go_wp2_with fail
      refine wp_region_still_lit (by kernel_rfl) (by kernel_rfl) ?_
      change wpStill _ _ wr.drew _ _ _
      repeat (first | still_step | still_call (rrotq _ _ (by decide) (by decide) _))
      refine wpStill_nil ?_
      rw [rone_val s k x]
      generalize ho : s.one k x = o
      have Ho := Lib.hid ho
      clear ho
      go_wp2_with fail
      refine wp_region_still_lit (by kernel_rfl) (by kernel_rfl) ?_
      change wpStill _ _ wr.drew.drew _ _ _
      repeat (first | still_step | still_call (rrotq _ _ (by decide) (by decide) _))
      refine wpStill_nil ?_
      rw [rtwo_val s]
      generalize ht : s.two = t2
      have Ht := Lib.hid ht
      clear ht
      change Exit.then _ _ Exit.normal _ wr.drew.drew
      have f0 := HC'.out.free 0
      have f1 := HC'.out.free 1
      have f2 := HC'.out.free 2
      have f3 := HC'.out.free 3
      have f4 := HC'.out.free 4
      have f5 := HC'.out.free 5
      have f6 := HC'.out.free 6
      have f7 := HC'.out.free 7
      go_wp2_with fail
      have e := Hst.out
      rw [Hk.out, Hx.out] at e
      have ho := Ho.out
      have ht := Ht.out
      have hp : ∀ G : Nat → BitVec 32, G = (s.step k x).get → RcAt w H W X K B G _ := fun G hG =>
        HC'.out.vals G (v0 := .int .u32 (((o.toNat : Int) + (t2.toNat : Int)) % 4294967296)) (v1 := U s.a) (v2 := U s.b) (v3 := U s.c) (v4 := .int .u32 (((s.d.toNat : Int) + (o.toNat : Int)) % 4294967296)) (v5 := U s.e) (v6 := U s.f) (v7 := U s.g)
          (by rw [hG, add32, ← ho, ← ht]; rfl) (by rw [hG]; rfl) (by rw [hG]; rfl) (by rw [hG]; rfl) (by rw [hG, add32, ← ho]; rfl) (by rw [hG]; rfl) (by rw [hG]; rfl) (by rw [hG]; rfl)
      exact ⟨⟨j + 1, by omega, by go_num, hp _ (by rw [e])⟩, by simp [intOf]; omega⟩
    · obtain rfl : j = 64 := by omega
      go_wp2_with fail
      rw [show ((64 : Nat) : Int) = 64 from rfl]
      go_loopw [13] (fun i wr' => ∃ k : Nat, k ≤ 8 ∧ i = .int .i64 k ∧ RcAt w H W X K B (mixTo (stTo Kt (sched W) (St.of H) 64).get H k) wr') (fun i _ => 8 - (intOf i).toNat)
      case atStart => exact ⟨0, by omega, rfl, by rw [mixTo_none]; exact HC'.out⟩
      case round =>
        obtain ⟨k, hk, rfl, hC⟩ := hrel
        have HK := Lib.hid hC
        clear hC HC'
        by_cases hkl : k < 8
        · have b0 : (k : Int) < 8 := by omega
          have e0 : wr.cell? ⟨B, k, none⟩ = some (U ((stTo Kt (sched W) (St.of H) 64).get k)) := by have := HK.out.cell k hkl; rwa [mixTo_at] at this
          have e1 := HK.out.cellH k hkl
          have f0 := HK.out.free k
          generalize hS : (stTo Kt (sched W) (St.of H) 64).get = S at HK e0
          have HS := Lib.hid hS
          clear hS
          go_wp2_with fail
          refine wp_region_still_tail 9 (by kernel_rfl) (by kernel_rfl) ?_
          change wpStill _ _ wr.drew _ _ _
          simp only [List.take_succ_cons, List.take_zero, List.drop_succ_cons, List.drop_zero]
          repeat still_step
          refine wpStill_nil ?_
          go_wp2
          refine ⟨⟨k + 1, by omega, by go_num, ?_⟩, by simp [intOf]; omega⟩
          rw [add32]
          exact HK.out.mix hkl
        · obtain rfl : k = 8 := by omega
          have h1 : wr.heap[B]? = some (.cells (row 8 (comp H W) 8) 28 (0, 0)) := by rw [← mixTo_all]; exact HK.out.cs
          have h2 := HK.out.c2
          have hbel := HK.out.bel
          have hs28 : (Tryd.prog.info? 28).map (·.size) = some (row 8 (comp H W) 8).size := by rw [row_size]; exact size28
          go_wp2_with (first | (refine wpList_load_row rfl 28 (.tmp 7) rfl B rfl 28 (row 8 (comp H W) 8) (0, 0) (.array 8 22) h1 Tryd.underlying28 rfl hs28 ?_) | (refine wpList_store_row rfl 28 (.tmp 4) (.tmp 111) rfl (w.heap.size + 1 + 1) (row 8 (comp H W) 8) rfl rfl 28 (row 8 H 0) h2 hs28 (by rw [row_size, row_size]) (row_one _ _ _) ?_))
          exact bodyPost_ret (v := .agg (row 8 (comp H W) 8)) (results_cell_row rfl _ _ (w.heap.size + 1 + 1) 28 _ (0, 0) _ rfl (setRow_heap wr _ _ _ 28 _ h2) Tryd.underlying28 rfl hs28) rfl ⟨rfl, below_setRow hbel (by omega) _⟩
end Go.Proofs.YtkoeaejfkgapcaaDoor
