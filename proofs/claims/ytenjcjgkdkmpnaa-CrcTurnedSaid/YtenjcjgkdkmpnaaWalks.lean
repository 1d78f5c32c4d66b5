/-
  The walks of package crc: what each function computes.
-/
import Derived.Test.YtenjcjgkdkmpnaaRows
import Derived.Test.YtenjcjgkdkmpnaaAlg
import Derived.WalkKit
import Derived.WalkSpells
import Derived.WalkLawsBesides
import Derived.Lib.Hide
import Derived.Outline
import Derived.Deep.WholeRow
namespace Go.Proofs.Ytenjcjgkdkmpnaa
open Go.RowKit
set_option linter.unusedVariables false
/-- A number of 32 bits as a value. -/
abbrev U (c : BitVec 32) : Value := .int .u32 (c.toNat : Int)
theorem ret_u {a : Int} {b : BitVec 32} (h : a = (b.toNat : Int)) : Ending.returned (.int .u32 a) = .returned (U b) := by rw [h]

set_option maxHeartbeats 400000 in
theorem step_any (c : BitVec 32) (w : World) :
    Calls Try.prog 23 #[U c] w fun e w' => e = .returned (U (stepB c)) ∧ w = w' := by
  have hc := bv32_lt c
  go_enter Try.func23, Try.ntmps23
  go_wp2
  go_ret
  exact ⟨ret_u (stepB_int c), rfl⟩

set_option maxHeartbeats 400000 in
theorem times_any (n : Nat) (hn : n ≤ 1000) (c : BitVec 32) (w : World) :
    Calls Try.prog 24 #[.int .i64 n, U c, .func (.func 23) #[] #[]] w fun e w' => e = .returned (U (iter n c)) ∧ w = w' := by
  go_enter Try.func24, Try.ntmps24
  go_wp2
  go_loop [1, 8] (fun x i => ∃ k : Nat, k ≤ n ∧ i = .int .i64 k ∧ x = U (iter k c)) (fun _ i => n - (intOf i).toNat)
  case atStart => exact ⟨0, Nat.zero_le _, rfl, rfl⟩
  case round =>
    obtain ⟨k, hk, rfl, rfl⟩ := hrel
    by_cases hlt : k < n
    · go_wp2_with (go_at_call 23; refine (step_any _ _).mono ?_; rintro e w' ⟨rfl, rfl⟩)
      go_round
      case rel => exact ⟨k + 1, by omega, by go_num, rfl⟩
      case measure => simp [intOf]; omega
    · obtain rfl : k = n := by omega
      go_wp2
      go_ret
      exact ⟨rfl, rfl⟩

/-- The table, so far. -/
def tabTo (k : Nat) : Array Value := ((List.range 256).map fun i => if i < k then U (tabAt i) else .int .u32 0).toArray
theorem tabTo_zero : tabTo 0 = Array.replicate 256 (.int .u32 0) := by
  apply Array.ext <;> simp [tabTo]
theorem tabTo_size (k : Nat) : (tabTo k).size = 256 := by simp [tabTo]
theorem tabTo_get (k i : Nat) (hi : i < 256) : (tabTo k)[i]? = some (if i < k then U (tabAt i) else .int .u32 0) := by simp [tabTo, hi]
theorem tabTo_succ (k : Nat) : (tabTo k).setIfInBounds k (U (tabAt k)) = tabTo (k + 1) := by
  apply Array.ext
  · simp [tabTo]
  · intro i h1 h2
    have hi : i < 256 := by simpa [tabTo] using h2
    rw [Array.getElem_setIfInBounds (by simpa [tabTo] using hi)]
    by_cases e : k = i
    · subst e; simp [tabTo]
    · have : (i < k + 1) = (i < k) := by simp; omega
      simp [tabTo, e, this]
theorem zero_tab (w : World) : (zeroValue 42).run Try.prog w = .ok (.agg (Array.replicate 256 (.int .u32 0))) w := by kernel_rfl
theorem zero_tab' (w : World) : (zeroValue 42).run Try.prog w = .ok (.agg (tabTo 0)) w := by rw [tabTo_zero]; exact zero_tab w

theorem setRow_alloc_first (w : World) (c c' : Array Value) (t : TypeId) (o : Obj) : ((w.alloc (.cells c t)).alloc o).setRow w.heap.size c' = (w.alloc (.cells c' t)).alloc o := by
  simp only [World.setRow, World.alloc]
  congr 1
  apply Array.ext_getElem?
  intro i
  rw [Array.getElem?_modify]
  by_cases h : w.heap.size = i
  · subst h
    simp [Array.getElem?_push]
  · have h' : ¬ i = w.heap.size := fun e => h e.symm
    simp [h, h', Array.getElem?_push]
theorem size42 : (Try.prog.info? 42).map (·.size) = some 256 := by kernel_rfl
theorem size42_tab (k : Nat) : (Try.prog.info? 42).map (·.size) = some (tabTo k).size := by rw [tabTo_size]; exact size42
theorem tabTo_one (k : Nat) : (tabTo k).all (·.oneCell') = true := by
  rw [Array.all_eq_true_iff_forall_mem]
  intro v hv
  simp only [tabTo, List.mem_toArray, List.mem_map, List.mem_range] at hv
  obtain ⟨i, _, rfl⟩ := hv
  split <;> rfl

theorem times8 (k : Nat) (hk : k < 256) (w : World) :
    Calls Try.prog 24 #[.int .i64 8, .int .u32 k, .func (.func 23) #[] #[]] w fun e w' => e = .returned (U (tabAt k)) ∧ w = w' := by
  have h := times_any 8 (by omega) (BitVec.ofNat 32 k) w
  have e : ((BitVec.ofNat 32 k).toNat : Int) = k := by rw [BitVec.toNat_ofNat]; omega
  unfold U at h
  rw [e] at h
  exact h

set_option maxRecDepth 100000 in
set_option maxHeartbeats 400000 in
theorem bytes_any (w : World) :
    Calls Try.prog 22 #[] w fun e w' => e = .returned (.agg (tabTo 256)) ∧ (w.alloc (.cells (tabTo 256) 42)).alloc (.cells (tabTo 256) 42) = w' := by
  have hal := zero_tab'
  go_enter Try.func22, Try.ntmps22
  go_wp2
  go_loopw [2, 3] (fun _ i wr => ∃ k : Nat, k ≤ 256 ∧ i = .int .i64 k ∧ wr = (w.alloc (.cells (tabTo 0) 42)).alloc (.cells (tabTo k) 42)) (fun _ i _ => 256 - (intOf i).toNat)
  case atStart => exact ⟨0, Nat.zero_le _, rfl, rfl⟩
  case round =>
    obtain ⟨k, hk, rfl, rfl⟩ := hrel
    by_cases hlt : k < 256
    · have hg := tabTo_get k k hlt
      rw [if_neg (Nat.lt_irrefl k)] at hg
      go_wp2_with (go_at_call 24; refine (times8 k hlt _).mono ?_; rintro e w' ⟨rfl, rfl⟩)
      exact ⟨⟨k + 1, by omega, by go_num, by rw [← tabTo_succ]⟩, by simp [intOf]; omega⟩
    · obtain rfl : k = 256 := by omega
      have h1 := heap_alloc2_new w (.cells (tabTo 0) 42) (.cells (tabTo 256) 42)
      have h2 := heap_alloc2_old w (.cells (tabTo 0) 42) (.cells (tabTo 256) 42)
      go_wp2_with (first | (refine wpList_load_row rfl 42 _ rfl (w.heap.size + 1) rfl 42 _ (0, 0) _ h1 Try.underlying42 rfl (size42_tab 256) ?_) | (refine wpList_store_row rfl 42 _ _ rfl w.heap.size _ rfl rfl 42 _ h2 (size42_tab 256) (by rw [tabTo_size, tabTo_size]) (tabTo_one 256) ?_; rw [setRow_alloc_first]))
      exact bodyPost_ret (v := .agg (tabTo 256)) (results_cell_row rfl _ _ w.heap.size 42 _ (0, 0) _ rfl (heap_alloc2_old w (.cells (tabTo 256) 42) (.cells (tabTo 256) 42)) Try.underlying42 rfl (size42_tab 256)) rfl ⟨rfl, rfl⟩

/-- The bytes of texts, one behind the other. -/
def flat (l : List ByteArray) : List UInt8 := (l.map (·.data.toList)).flatten
def feedTo (c : BitVec 32) (s : ByteArray) (k : Nat) : BitVec 32 := feeds c (s.data.toList.take k)
def behindTo (c : BitVec 32) (l : List ByteArray) (j : Nat) : BitVec 32 := feeds c (flat (l.take j))

theorem behindTo_succ (c : BitVec 32) (l : List ByteArray) (j : Nat) (s : ByteArray) (h : l[j]? = some s) : behindTo c l (j + 1) = feeds (behindTo c l j) s.data.toList := by
  unfold behindTo flat
  obtain ⟨hj, e⟩ := List.getElem?_eq_some_iff.1 h
  rw [List.take_succ_eq_append_getElem hj, e, List.map_append, List.flatten_append, feeds_append]; simp
theorem feedTo_succ (c : BitVec 32) (s : ByteArray) (k : Nat) (h : k < s.size) : feedTo c s (k + 1) = feed (feedTo c s k) s[k] := by
  unfold feedTo
  rw [List.take_succ_eq_append_getElem (by simpa using h), feeds_snoc]; rfl
theorem feedTo_all (c : BitVec 32) (s : ByteArray) : feedTo c s s.size = feeds c s.data.toList := by
  unfold feedTo; rw [List.take_of_length_le (by simp)]
theorem tab_cell (W : World) (i : Nat) (hi : i < 256) : (W.alloc (.cells (tabTo 256) 42)).cell? ⟨W.heap.size, i, none⟩ = some (U (tabAt i)) := by
  rw [World.cell?_alloc_at _ _ _ _ rfl, tabTo_get 256 i hi, if_pos hi]

theorem idx8 (x : BitVec 32) (b : UInt8) : bits .xor .u8 ((x.toNat : Int) % 256) (b.toNat : Int) = (((x.toNat ^^^ b.toNat) % 256 : Nat) : Int) := by
  have hb := b.toNat_lt
  have h : (BitVec.ofInt IntKind.u8.bits ((x.toNat : Int) % 256) ^^^ BitVec.ofInt IntKind.u8.bits (b.toNat : Int)).toNat = (x.toNat ^^^ b.toNat) % 256 := by
    rw [show ((x.toNat : Int) % 256) = ((x.toNat % 256 : Nat) : Int) from by omega]
    rw [BitVec.ofInt_natCast, BitVec.ofInt_natCast]
    show (BitVec.ofNat 8 (x.toNat % 256) ^^^ BitVec.ofNat 8 b.toNat).toNat = _
    rw [BitVec.toNat_xor, BitVec.toNat_ofNat, BitVec.toNat_ofNat, show (256 : Nat) = 2 ^ 8 from rfl, Nat.xor_mod_two_pow, Nat.mod_mod]
  simp only [bits, h]
  rw [IntKind.wrap_u8]; omega

theorem bytes_below (w : World) : Calls Try.prog 22 #[] w fun e w' => e = .returned (.agg (tabTo 256)) ∧ Below w.heap.size w w' :=
  (bytes_any w).mono fun _ _ ⟨he, hw⟩ => ⟨he, hw ▸ ((Below.refl _ _).alloc (Nat.le_refl _) _).alloc (by simp) _⟩

set_option maxRecDepth 100000 in
set_option maxHeartbeats 400000 in
theorem behind_any (c : BitVec 32) (l : List ByteArray) (hl : l.length ≤ 1000) (hs : ∀ s ∈ l, s.size ≤ 1000000) (b off cap : Nat) (w : World)
    (hcell : ∀ j s, l[j]? = some s → w.cell? ⟨b, off + j, none⟩ = some (.string s)) :
    Calls Try.prog 18 #[U c, .slice (some ⟨b, off, none⟩) l.length cap] w fun e w' => e = .returned (U (behindTo c l l.length)) ∧ Below w.heap.size w w' := by
  have hal := zero_tab'
  have Hcell := Lib.hid hcell; clear hcell
  have Hs := Lib.hid hs; clear hs
  go_enter Try.func18, Try.ntmps18
  go_wp2_with (first | (go_at_call 22; refine (bytes_below _).mono ?_; rintro e W ⟨rfl, hb⟩; have Hb := Lib.hid hb; clear hb) | (refine wpList_store_row rfl 42 _ _ rfl W.heap.size _ rfl rfl 42 _ (heap_alloc_last W _) (size42_tab 256) (by rw [tabTo_size, tabTo_size]) (tabTo_one 256) ?_; rw [World.setRow_alloc_new]))
  clear hal
  go_loop [0, 7, 8, 12] (fun x _ _ i => ∃ j : Nat, j ≤ l.length ∧ i = .int .i64 j ∧ x = U (behindTo c l j)) (fun _ _ _ i => l.length - (intOf i).toNat)
  case atStart => exact ⟨0, Nat.zero_le _, rfl, rfl⟩
  case round =>
    obtain ⟨j, hj, rfl, rfl⟩ := hrel
    by_cases hlt : j < l.length
    · obtain ⟨s, hs⟩ : ∃ s, l[j]? = some s := ⟨l[j], by simp [hlt]⟩
      have hsz := Hs.out s (List.mem_of_getElem? hs)
      have h0 := Hcell.out j s hs
      have hbl : b < w.heap.size := block_lt_of_cell h0
      have h1 : (W.alloc (.cells (tabTo 256) 42)).cell? ⟨b, off + j, none⟩ = some (.string s) := by
        rw [World.cell?_alloc_past _ _ _ (Nat.lt_of_lt_of_le hbl Hb.out.size), Hb.out.cell (p := ⟨b, off + j, none⟩) hbl]; exact h0
      clear h0
      have Hsj := Lib.hid hs; clear hs
      generalize hcj : behindTo c l j = cj
      have Hcj := Lib.hid hcj; clear hcj
      go_wp2
      go_loop [0, 8, 18] (fun x _ i => ∃ k : Nat, k ≤ s.size ∧ i = .int .i64 k ∧ x = U (feedTo cj s k)) (fun _ _ i => s.size - (intOf i).toNat)
      case atStart => exact ⟨0, Nat.zero_le _, rfl, rfl⟩
      case round =>
        obtain ⟨k, hk, rfl, rfl⟩ := hrel
        by_cases hkl : k < s.size
        · have hi := idx8 (feedTo cj s k) s[k]
          have hi0 : 0 ≤ bits .xor .u8 (((feedTo cj s k).toNat : Int) % 256) (s[k].toNat : Int) := by rw [hi]; omega
          have hi1 : bits .xor .u8 (((feedTo cj s k).toNat : Int) % 256) (s[k].toNat : Int) < 256 := by rw [hi]; omega
          have hic := tab_cell W (bits .xor .u8 (((feedTo cj s k).toNat : Int) % 256) (s[k].toNat : Int)).toNat (by omega)
          have Hi := Lib.hid hi; clear hi
          go_wp2
          refine ⟨⟨k + 1, by omega, by go_num, ?_⟩, by simp [intOf]; omega⟩
          rw [Hi.out, Int.toNat_natCast, shr32_8, xor32, feedTo_succ _ _ _ hkl]; rfl
        · obtain rfl : k = s.size := by omega
          go_wp2
          go_round
          case rel => exact ⟨j + 1, by omega, by go_num, by rw [behindTo_succ c l j s Hsj.out, feedTo_all, Hcj.out]⟩
          case measure => simp [intOf]; omega
    · obtain rfl : j = l.length := by omega
      go_wp2
      go_ret
      exact ⟨rfl, Hb.out.alloc Hb.out.size _⟩
end Go.Proofs.Ytenjcjgkdkmpnaa
