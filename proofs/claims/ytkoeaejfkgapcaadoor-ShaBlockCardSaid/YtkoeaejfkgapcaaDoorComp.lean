/-
  Compress.
-/
import Derived.Test.YtkoeaejfkgapcaaDoorState
namespace Go.Proofs.YtkoeaejfkgapcaaDoor
open Go.RowKit
set_option linter.unusedVariables false

theorem turnedq (x : BitVec 32) (a b c : Nat) (a0 : 1 ≤ a) (a1 : a ≤ 31) (b0 : 1 ≤ b) (b1 : b ≤ 31) (c0 : 1 ≤ c) (c1 : c ≤ 31) (w : World) :
    Calls Tryd.prog 22 #[U x, .int .i64 a, .int .i64 b, .int .i64 c] w fun e w' => e = .returned (U (turned x a b c)) ∧ w' = w := (turned_any x a b c a0 a1 b0 b1 c0 c1 w).mono fun _ _ ⟨h, k⟩ => ⟨h, k.symm⟩

/-- What Compress' loops keep. -/
structure CompAt (w : World) (H W : Nat → BitVec 32) (X : Nat) (k : Nat) (wr : World) : Prop where
  c0 : wr.heap[w.heap.size]? = some (.cells (row 8 (mixTo H (stTo Kt (sched W) (St.of H) 64).get k) 8) 28 (0, 0))
  c2 : wr.heap[w.heap.size + 1 + 1]? = some (.cells (row 8 H 0) 28 (0, 0))
  cx : wr.heap[X]? = some (.cells (row 64 (sched W) 64) 25 (0, 0))
  hX : w.heap.size + 1 + 1 < X
  tab : TabIn wr
  bel : Below w.heap.size w wr
theorem mixTo_zero (H S : Nat → BitVec 32) : mixTo H S 0 = H := by funext i; simp [mixTo]
theorem CompAt.drewN {w : World} {H W : Nat → BitVec 32} {X k : Nat} {wr : World} (h : CompAt w H W X k wr) (n : Nat) : CompAt w H W X k (wr.drewN n) :=
  ⟨h.c0, h.c2, h.cx, h.hX, h.tab, h.bel.trans ⟨rfl, rfl, rfl, Nat.le_refl _, fun _ _ => rfl⟩⟩

theorem stTo_succ (K X : Nat → BitVec 32) (s : St) (t : Nat) : stTo K X s (t + 1) = (stTo K X s t).step (K t) (X t) := rfl
theorem start_rel {H : Nat → BitVec 32} (W : Nat → BitVec 32) {v : Value} {P : Nat → Prop} (h : ∃ j : Nat, j ≤ 0 ∧ v = .int .i64 j ∧ P j) :
    ∃ j : Nat, j ≤ 64 ∧ v = .int .i64 j ∧ U (H 0) = U (stTo Kt (sched W) (St.of H) j).a ∧ U (H 1) = U (stTo Kt (sched W) (St.of H) j).b ∧ U (H 2) = U (stTo Kt (sched W) (St.of H) j).c ∧ U (H 3) = U (stTo Kt (sched W) (St.of H) j).d ∧ U (H 4) = U (stTo Kt (sched W) (St.of H) j).e ∧ U (H 5) = U (stTo Kt (sched W) (St.of H) j).f ∧ U (H 6) = U (stTo Kt (sched W) (St.of H) j).g ∧ U (H 7) = U (stTo Kt (sched W) (St.of H) j).h ∧ P j := by
  obtain ⟨j, hj, hv, hp⟩ := h
  obtain rfl : j = 0 := by omega
  exact ⟨0, by omega, hv, rfl, rfl, rfl, rfl, rfl, rfl, rfl, rfl, hp⟩
theorem idx_state (s : St) (k : Nat) (hk : k < 8) (w : World) : (Instr.index 28 (.agg #[U s.a, U s.b, U s.c, U s.d, U s.e, U s.f, U s.g, U s.h]) (.int .i64 (k : Int))).run Tryd.prog w = .ok (U (s.get k)) w := by
  have hu := run_underlying (w := w) Tryd.underlying28
  have hz := Tryd.sizeOf22 w
  match k, hk with
  | 0, _ => simp [Instr.index, hu, hz, asIntOf, go_sem, St.get]
  | 1, _ => simp [Instr.index, hu, hz, asIntOf, go_sem, St.get]
  | 2, _ => simp [Instr.index, hu, hz, asIntOf, go_sem, St.get]
  | 3, _ => simp [Instr.index, hu, hz, asIntOf, go_sem, St.get]
  | 4, _ => simp [Instr.index, hu, hz, asIntOf, go_sem, St.get]
  | 5, _ => simp [Instr.index, hu, hz, asIntOf, go_sem, St.get]
  | 6, _ => simp [Instr.index, hu, hz, asIntOf, go_sem, St.get]
  | 7, _ => simp [Instr.index, hu, hz, asIntOf, go_sem, St.get]
theorem CompAt.mix {w : World} {H W : Nat → BitVec 32} {X k : Nat} {wr : World} (h : CompAt w H W X k wr) (htab : TabIn w) (hk : k < 8) :
    CompAt w H W X (k + 1) (wr.setCell ⟨w.heap.size, k, none⟩ (U (H k + (stTo Kt (sched W) (St.of H) 64).get k))) := by
  have hX := h.hX
  have hb : Below w.heap.size w (wr.setCell ⟨w.heap.size, k, none⟩ (U (H k + (stTo Kt (sched W) (St.of H) 64).get k))) :=
    h.bel.trans ((Below.refl _ _).setCell (p := ⟨w.heap.size, k, none⟩) (Nat.le_refl _) _)
  refine ⟨?_, ?_, ?_, hX, htab.later hb, hb⟩
  · rw [heap_setCell_same wr _ k _ 28 _ h.c0, row_mix _ _ _ hk]
  · rw [heap_setCell_other _ _ _ _ (by simp; omega)]; exact h.c2
  · rw [heap_setCell_other _ _ _ _ (by simp; omega)]; exact h.cx
theorem CompAt.cell {w : World} {H W : Nat → BitVec 32} {X k : Nat} {wr : World} (h : CompAt w H W X k wr) (hk : k < 8) : wr.cell? ⟨w.heap.size, k, none⟩ = some (U (H k)) := by
  rw [cell_of_row wr _ _ _ 28 (0, 0) h.c0, row_get _ _ _ _ hk hk]
  simp [mixTo]
theorem CompAt.free {w : World} {H W : Nat → BitVec 32} {X k : Nat} {wr : World} (h : CompAt w H W X k wr) : wr.frozen? ⟨w.heap.size, k, none⟩ = false := frozen_of_row wr _ _ _ 28 h.c0
theorem CompAt.all {w : World} {H W : Nat → BitVec 32} {X : Nat} {wr : World} (h : CompAt w H W X 8 wr) : wr.heap[w.heap.size]? = some (.cells (row 8 (comp H W) 8) 28 (0, 0)) := by
  rw [h.c0, row_congr 8 _ (comp H W) 8 (fun i hi => by simp [mixTo, hi, comp])]
theorem one_val (s : St) (k x : BitVec 32) :
    IntKind.u32.wrap (IntKind.u32.wrap (IntKind.u32.wrap (IntKind.u32.wrap ((s.h.toNat : Int) + ((turned s.e 6 11 25).toNat : Int)) +
      bits .xor .u32 (bits .and .u32 (s.e.toNat : Int) (s.f.toNat : Int)) (bits .and .u32 (bits .xor .u32 (if IntKind.u32.signed = true then -1 else IntKind.u32.max) (s.e.toNat : Int)) (s.g.toNat : Int))) + (k.toNat : Int)) + (x.toNat : Int)) = ((s.one k x).toNat : Int) := by
  rw [if_neg (by decide), not32, and32, and32, xor32, St.one, ← sum5]
  simp only [IntKind.wrap_u32]
  omega
theorem two_val (s : St) (o : BitVec 32) :
    ((o.toNat : Int) + (((turned s.a 2 13 22).toNat : Int) + bits .xor .u32 (bits .xor .u32 (bits .and .u32 (s.a.toNat : Int) (s.b.toNat : Int)) (bits .and .u32 (s.a.toNat : Int) (s.c.toNat : Int))) (bits .and .u32 (s.b.toNat : Int) (s.c.toNat : Int))) % 4294967296) % 4294967296 = ((o + s.two).toNat : Int) := by
  rw [and32, and32, and32, xor32, xor32, St.two, BitVec.toNat_add, BitVec.toNat_add]
  omega
attribute [local irreducible] stTo sched row Kt mixTo comp
set_option maxRecDepth 100000 in
set_option maxHeartbeats 1600000 in
theorem compress_any (H W : Nat → BitVec 32) (w : World) (htab : TabIn w) :
    Calls Tryd.prog 12 #[.agg (row 8 H 8), .agg (row 16 W 16)] w fun e w' => e = .returned (.agg (row 8 (comp H W) 8)) ∧ Below w.heap.size w w' := by
  have hal : ∀ w : World, (zeroValue 28).run Tryd.prog w = .ok (.agg (row 8 H 0)) w := fun w => by rw [row_zero]; exact zero28 w
  have hal2 : ∀ w : World, (zeroValue 25).run Tryd.prog w = .ok (.agg (row 64 (sched W) 0)) w := fun w => by rw [row_zero]; exact zero25 w
  have Htab := Lib.hid htab
  clear htab
  go_enter Tryd.func12, Tryd.ntmps12
  have hs23 : (Tryd.prog.info? 23).map (·.size) = some (row 16 W 16).size := by rw [row_size]; exact size23
  have hs25 : (Tryd.prog.info? 25).map (·.size) = some (row 64 (sched W) 64).size := by rw [row_size]; exact size25
  obtain ⟨W0, hW0⟩ : ∃ W0, ((w.alloc (.cells (row 8 H 8) 28)).alloc (.cells (row 16 W 16) 23)).alloc (.cells (row 8 H 0) 28) = W0 := ⟨_, rfl⟩
  have c0 : W0.heap[w.heap.size]? = some (.cells (row 8 H 8) 28 (0, 0)) := by rw [← hW0]; exact alloc3_0 _ _ _ _
  have c2 : W0.heap[w.heap.size + 1 + 1]? = some (.cells (row 8 H 0) 28 (0, 0)) := by rw [← hW0]; exact alloc3_2 _ _ _ _
  have hb0 : Below w.heap.size w W0 := by rw [← hW0]; exact (((Below.refl _ _).alloc (Nat.le_refl _) _).alloc (by simp) _).alloc (by simp; omega) _
  have hs0 : W0.heap.size = w.heap.size + 1 + 1 + 1 := by rw [← hW0]; simp
  have C0 := Lib.hid c0
  have C2 := Lib.hid c2
  have Hb0 := Lib.hid hb0
  have Hs0 := Lib.hid hs0
  have HW0 := Lib.hid hW0
  clear c0 c2 hb0 hs0 hW0
  go_wp2_with (refine wpList_load_row rfl 23 (.tmp 3) rfl (w.heap.size + 1) rfl 23 (row 16 W 16) (0, 0) (.array 16 22) (alloc3_1 w (.cells (row 8 H 8) 28) (.cells (row 16 W 16) 23) (.cells (row 8 H 0) 28)) Tryd.underlying23 rfl hs23 ?_)
  rw [HW0.out]
  refine (expand_any W _).mono ?_
  rintro e wE ⟨rfl, hbE⟩
  have HbE := Lib.hid hbE
  clear hbE
  go_wp2_with (refine wpList_store_row rfl 25 (.tmp 5) (.tmp 21) rfl wE.heap.size (row 64 (sched W) 64) rfl rfl 25 (row 64 (sched W) 0) (heap_alloc_last wE _) hs25 (by rw [row_size, row_size]) (row_one _ _ _) ?_; rw [World.setRow_alloc_new])
  clear hal hal2 hs23 hs25
  obtain ⟨WC, hWC⟩ : ∃ WC, wE.alloc (.cells (row 64 (sched W) 64) 25) = WC := ⟨_, rfl⟩
  have hC : CompAt w H W wE.heap.size 0 WC := by
    have hsE := HbE.out.size
    have hs1 : W0.heap.size = w.heap.size + 1 + 1 + 1 := Hs0.out
    have hb1 : Below w.heap.size w wE := Hb0.out.trans (HbE.out.mono (by omega))
    have hb2 : Below w.heap.size w WC := hWC ▸ hb1.alloc (by omega) _
    have hold : ∀ k, k < W0.heap.size → WC.heap[k]? = W0.heap[k]? := fun k hk => by
      rw [← hWC]
      exact (Lib.alloc_old wE _ k (by omega)).trans (HbE.out.block k hk)
    refine ⟨?_, (hold _ (by omega)).trans C2.out, by rw [← hWC]; exact heap_alloc_last wE _, by omega, Htab.out.later hb2, hb2⟩
    rw [mixTo_zero]; exact (hold _ (by omega)).trans C0.out
  rw [hWC]
  have HC := Lib.hid hC
  clear hWC hC
  generalize wE.heap.size = X at HC ⊢
  clear HbE Hb0 C0 C2 Hs0 HW0
  have d0 : ∀ i, i < 8 → WC.cell? ⟨w.heap.size, i, none⟩ = some (U (H i)) := fun i hi => by
    rw [cell_of_row WC _ _ _ 28 (0, 0) HC.out.c0, mixTo_zero]; exact row_get _ _ _ _ hi hi
  have e0 := d0 0 (by decide)
  have e1 := d0 1 (by decide)
  have e2 := d0 2 (by decide)
  have e3 := d0 3 (by decide)
  have e4 := d0 4 (by decide)
  have e5 := d0 5 (by decide)
  have e6 := d0 6 (by decide)
  have e7 := d0 7 (by decide)
  clear d0
  go_quiet (fail)
  clear e0 e1 e2 e3 e4 e5 e6 e7
  go_wp2_with fail
  go_loopw [7, 8, 9, 10, 11, 12, 13, 14, 38] (fun a b c d e f g h i wr => ∃ j : Nat, j ≤ 64 ∧ i = .int .i64 j ∧ a = U (stTo Kt (sched W) (St.of H) j).a ∧ b = U (stTo Kt (sched W) (St.of H) j).b ∧ c = U (stTo Kt (sched W) (St.of H) j).c ∧ d = U (stTo Kt (sched W) (St.of H) j).d ∧ e = U (stTo Kt (sched W) (St.of H) j).e ∧ f = U (stTo Kt (sched W) (St.of H) j).f ∧ g = U (stTo Kt (sched W) (St.of H) j).g ∧ h = U (stTo Kt (sched W) (St.of H) j).h ∧ CompAt w H W X 0 wr) (fun _ _ _ _ _ _ _ _ i _ => 64 - (intOf i).toNat)
  case atStart => exact start_rel W ⟨0, by omega, rfl, HC.out.drewN nq⟩
  case round =>
    obtain ⟨j, hj, rfl, rfl, rfl, rfl, rfl, rfl, rfl, rfl, rfl, hC⟩ := hrel
    have HC' := Lib.hid hC
    clear hC HC
    by_cases hjl : j < 64
    · have hst : stTo Kt (sched W) (St.of H) (j + 1) = (stTo Kt (sched W) (St.of H) j).step (Kt j) (sched W j) := stTo_succ _ _ _ _
      have dk := HC'.out.tab j hjl
      have dx : wr.cell? ⟨X, j, none⟩ = some (U (sched W j)) := by
        rw [cell_of_row wr _ _ _ 25 (0, 0) HC'.out.cx]; exact row_get _ _ _ _ hjl hjl
      revert hst
      generalize stTo Kt (sched W) (St.of H) j = s
      intro hst
      have Hst := Lib.hid hst
      clear hst
      generalize hk : Kt j = k at dk
      generalize hx : sched W j = x at dx
      have Hk := Lib.hid hk
      have Hx := Lib.hid hx
      clear hk hx
      go_wp2_with fail
      have b0 : (j : Int) < 64 := by omega
      refine wp_region_still_lit (by kernel_rfl) (by kernel_rfl) ?_
      change wpStill _ _ wr.drew _ _ _
      repeat (first | still_step | still_call (turnedq _ 6 11 25 (by decide) (by decide) (by decide) (by decide) (by decide) (by decide) _))
      refine wpStill_nil ?_
      rw [one_val s k x]
      generalize ho : s.one k x = o
      have Ho := Lib.hid ho
      clear ho
      go_wp2_with (go_at_call 22; refine (turned_any _ 2 13 22 (by decide) (by decide) (by decide) (by decide) (by decide) (by decide) _).mono ?_; rintro e w' ⟨rfl, rfl⟩)
      have e := Hst.out
      rw [Hk.out, Hx.out] at e
      have ho := Ho.out
      refine ⟨⟨j + 1, by omega, by go_num, by rw [e, two_val, ← ho]; rfl, by rw [e]; rfl, by rw [e]; rfl, by rw [e]; rfl, by rw [e, add32, ← ho]; rfl, by rw [e]; rfl, by rw [e]; rfl, by rw [e]; rfl, HC'.out.drewN 1⟩, by simp [intOf]; omega⟩
    · obtain rfl : j = 64 := by omega
      generalize hs : stTo Kt (sched W) (St.of H) 64 = s
      have Hs := Lib.hid hs
      clear hs
      go_wp2_with fail
      go_loopw [100] (fun i wr' => ∃ k : Nat, k ≤ 8 ∧ i = .int .i64 k ∧ CompAt w H W X k wr') (fun i _ => 8 - (intOf i).toNat)
      case atStart => exact ⟨0, by omega, rfl, HC'.out⟩
      case round =>
        obtain ⟨k, hk, rfl, hC⟩ := hrel
        have HK := Lib.hid hC
        clear hC HC'
        by_cases hkl : k < 8
        · have hix := idx_state s k hkl
          have e0 := HK.out.cell hkl
          have f0 := HK.out.free
          go_wp2_with fail
          have hm := HK.out.mix Htab.out hkl
          rw [Hs.out] at hm
          refine ⟨⟨k + 1, by omega, by go_num, by rw [add32]; exact hm⟩, by simp [intOf]; omega⟩
        · obtain rfl : k = 8 := by omega
          have h1 := HK.out.all
          have h2 := HK.out.c2
          have hbel := HK.out.bel
          have hs28 : (Tryd.prog.info? 28).map (·.size) = some (row 8 (comp H W) 8).size := by rw [row_size]; exact size28
          go_wp2_with (first | (refine wpList_load_row rfl 28 (.tmp 2) rfl w.heap.size rfl 28 (row 8 (comp H W) 8) (0, 0) (.array 8 22) h1 Tryd.underlying28 rfl hs28 ?_) | (refine wpList_store_row rfl 28 (.tmp 4) (.tmp 111) rfl (w.heap.size + 1 + 1) (row 8 (comp H W) 8) rfl rfl 28 (row 8 H 0) h2 hs28 (by rw [row_size, row_size]) (row_one _ _ _) ?_))
          exact bodyPost_ret (v := .agg (row 8 (comp H W) 8)) (results_cell_row rfl _ _ (w.heap.size + 1 + 1) 28 _ (0, 0) _ rfl (setRow_heap wr _ _ _ 28 _ h2) Tryd.underlying28 rfl hs28) rfl ⟨rfl, below_setRow hbel (by omega) _⟩
end Go.Proofs.YtkoeaejfkgapcaaDoor
