/-
  The walks of package crc and of the reference, more: sums, shifts, joins.
-/
import Derived.Test.YtenjcjgkdkmpnaaWalks
namespace Go.Proofs.Ytenjcjgkdkmpnaa
open Go.RowKit
set_option linter.unusedVariables false

theorem behindTo_all (c : BitVec 32) (l : List ByteArray) : behindTo c l l.length = feeds c (flat l) := by
  unfold behindTo; rw [List.take_of_length_le (Nat.le_refl _)]

set_option maxRecDepth 100000 in
set_option maxHeartbeats 400000 in
theorem behind_none (c : BitVec 32) (w : World) :
    Calls Try.prog 18 #[U c, .slice none 0 0] w fun e w' => e = .returned (U c) ∧ Below w.heap.size w w' := by
  have hal := zero_tab'
  go_enter Try.func18, Try.ntmps18
  go_wp2_with (first | (go_at_call 22; refine (bytes_below _).mono ?_; rintro e W ⟨rfl, hb⟩; have Hb := Lib.hid hb; clear hb) | (refine wpList_store_row rfl 42 _ _ rfl W.heap.size _ rfl rfl 42 _ (heap_alloc_last W _) (size42_tab 256) (by rw [tabTo_size, tabTo_size]) (tabTo_one 256) ?_; rw [World.setRow_alloc_new]))
  clear hal
  go_loop [0, 7, 8, 12] (fun x _ _ i => i = .int .i64 0 ∧ x = U c) (fun _ _ _ _ => 0)
  case atStart => exact ⟨rfl, rfl⟩
  case round =>
    obtain ⟨rfl, rfl⟩ := hrel
    go_wp2
    go_ret
    exact ⟨rfl, Hb.out.alloc Hb.out.size _⟩

set_option maxHeartbeats 400000 in
theorem of_any (l : List ByteArray) (hl : l.length ≤ 1000) (hs : ∀ s ∈ l, s.size ≤ 1000000) (b off cap : Nat) (w : World)
    (hcell : ∀ j s, l[j]? = some s → w.cell? ⟨b, off + j, none⟩ = some (.string s)) :
    Calls Try.prog 10 #[.slice (some ⟨b, off, none⟩) l.length cap] w fun e w' => e = .returned (U (ofB (flat l))) ∧ Below w.heap.size w w' := by
  have Hcell := Lib.hid hcell; clear hcell
  have Hs := Lib.hid hs; clear hs
  go_enter Try.func10, Try.ntmps10
  go_wp2_with (go_at_call 18; refine (behind_any 4294967295#32 l hl Hs.out _ _ _ _ Hcell.out).mono ?_; rintro e w1 ⟨rfl, hb⟩; have Hb := Lib.hid hb; clear hb)
  go_ret
  exact ⟨ret_u (by rw [not32, behindTo_all]; rfl), Hb.out⟩

set_option maxHeartbeats 400000 in
theorem of_none (w : World) :
    Calls Try.prog 10 #[.slice none 0 0] w fun e w' => e = .returned (U (ofB [])) ∧ Below w.heap.size w w' := by
  go_enter Try.func10, Try.ntmps10
  go_wp2_with (go_at_call 18; refine (behind_none 4294967295#32 _).mono ?_; rintro e w1 ⟨rfl, hb⟩; have Hb := Lib.hid hb; clear hb)
  go_ret
  exact ⟨ret_u (not32 4294967295#32), Hb.out⟩

theorem flat_one (s : ByteArray) : flat [s] = s.data.toList := by simp [flat]
theorem cells_one (w : World) (s : ByteArray) (t : TypeId) : ∀ j x, [s][j]? = some x → (w.alloc (.cells #[.string s] t)).cell? ⟨w.heap.size, 0 + j, none⟩ = some (.string x) := by
  intro j x h
  rw [World.cell?_alloc_at _ _ _ _ rfl]
  cases j with
  | zero => simp at h; subst h; rfl
  | succ j => simp at h

set_option maxHeartbeats 400000 in
theorem add_any (c : BitVec 32) (s : ByteArray) (hs : s.size ≤ 1000000) (w : World) :
    Calls Try.prog 12 #[U c, .string s] w fun e w' => e = .returned (U (addB c s.data.toList)) ∧ Below w.heap.size w w' := by
  go_enter Try.func12, Try.ntmps12
  go_wp2_with (go_at_call 18; rw [not32]; refine (behind_any (~~~c) [s] (by simp) (by simpa using hs) _ _ _ _ (cells_one w s 9)).mono ?_; rintro e w1 ⟨rfl, hb⟩; have Hb := Lib.hid hb; clear hb)
  go_ret
  exact ⟨ret_u (by rw [not32, show 1 = [s].length from rfl, behindTo_all, flat_one]; rfl), ((Below.refl _ _).alloc (Nat.le_refl _) _).trans (Hb.out.mono (by simp))⟩

set_option maxHeartbeats 400000 in
theorem product_any (x y : BitVec 32) (w : World) :
    Calls Try.prog 20 #[U x, U y] w fun e w' => e = .returned (U (prodB x y)) ∧ w = w' := by
  go_enter Try.func20, Try.ntmps20
  go_wp2
  go_loop [1, 5, 6, 7] (fun q p _ i => ∃ k : Nat, k ≤ 32 ∧ i = .int .i64 k ∧ p = U (prodTo k x y) ∧ q = U (iter k y)) (fun _ _ _ i => 32 - (intOf i).toNat)
  case atStart => exact ⟨0, Nat.zero_le _, rfl, rfl, rfl⟩
  case round =>
    obtain ⟨k, hk, rfl, rfl, rfl⟩ := hrel
    by_cases hlt : k < 32
    · go_wp2_with (go_at_call 23; refine (step_any _ _).mono ?_; rintro e w' ⟨rfl, rfl⟩)
      · have ht := (‹(bits .and .u32 ((x.toNat : Int) / 2 ^ (31 - k)) 1 == 1) = true›)
        rw [bit_test] at ht
        exact ⟨⟨k + 1, by omega, by go_num, by rw [xor32, prodTo, if_pos ht], rfl⟩, by simp [intOf]; omega⟩
      · have ht := (‹(bits .and .u32 ((x.toNat : Int) / 2 ^ (31 - k)) 1 == 1) = false›)
        rw [bit_test] at ht
        exact ⟨⟨k + 1, by omega, by go_num, by rw [prodTo, ht]; simp, rfl⟩, by simp [intOf]; omega⟩
    · obtain rfl : k = 32 := by omega
      go_wp2
      go_ret
      exact ⟨rfl, rfl⟩

def clamp (n : Int) : Nat := (min (max n 0) 1099511627776).toNat
theorem and64_1 (k : Nat) (hk : k ≤ 1099511627776) : bits .and .i64 (k : Int) 1 = ((k % 2 : Nat) : Int) := by
  have h := bits_mask .i64 62 (by decide) (fun n h0 h1 => by rw [IntKind.wrap_i64]; omega) 1 (by decide) (k : Int) (by omega) (by omega)
  rw [show ((2 : Int) ^ 1 - 1) = 1 from rfl] at h
  rw [h]; omega

set_option maxHeartbeats 800000 in
theorem shift_any (c : BitVec 32) (n : Int) (w : World) :
    Calls Try.prog 14 #[U c, .int .i64 n] w fun e w' => e = .returned (U (shiftB c (clamp n))) ∧ w = w' := by
  have hcl : clamp n ≤ 1099511627776 := by unfold clamp; omega
  have h3 : n < 0 ∧ clamp n = 0 ∨ (0 ≤ n ∧ n ≤ 1099511627776 ∧ (clamp n : Int) = n) ∨ (1099511627776 < n ∧ clamp n = 1099511627776) := by unfold clamp; omega
  obtain ⟨N, hN⟩ : ∃ N, clamp n = N := ⟨_, rfl⟩
  rw [hN] at h3 hcl ⊢
  clear hN
  rcases h3 with ⟨h1, rfl⟩ | ⟨h1, h2, rfl⟩ | ⟨h1, rfl⟩
  all_goals
    go_enter Try.func14, Try.ntmps14
    go_wp2
  · go_loop [1, 5, 6] (fun nv pw pv => ∃ (k q : Nat) (p : BitVec 32), k ≤ 1099511627776 ∧ nv = .int .i64 k ∧ pw = U (iter q e31) ∧ pv = U p ∧ iter (q * k) p = shiftB c 0) (fun nv _ _ => (intOf nv).toNat)
    case atStart => exact ⟨0, 8, c, by omega, rfl, rfl, rfl, rfl⟩
    case round =>
      obtain ⟨k, q, p, hk, rfl, rfl, rfl, he⟩ := hrel
      have He := Lib.hid he; clear he
      by_cases hk0 : 0 < k
      · by_cases hk1 : k % 2 = 1
        · have ht : (bits .and .i64 (k : Int) 1 == 1) = true := by rw [and64_1 k hk, hk1]; rfl
          go_wp2_with fail
          refine (product_any _ _ _).mono ?_
          rintro e w' ⟨rfl, rfl⟩
          go_wp2_with fail
          refine (product_any _ _ _).mono ?_
          rintro e w' ⟨rfl, rfl⟩
          go_wp2_with fail
          exact ⟨⟨k / 2, q + q, prodB (iter q e31) p, by omega, by go_num, by rw [prod_power], rfl, by rw [← He.out, shift_round q k p hk1]⟩, by simp [intOf]; omega⟩
        · have ht : (bits .and .i64 (k : Int) 1 == 1) = false := by rw [and64_1 k hk, show k % 2 = 0 by omega]; rfl
          go_wp2_with fail
          refine (product_any _ _ _).mono ?_
          rintro e w' ⟨rfl, rfl⟩
          go_wp2_with fail
          exact ⟨⟨k / 2, q + q, p, by omega, by go_num, by rw [prod_power], rfl, by rw [← He.out, shift_round0 q k p (by omega)]⟩, by simp [intOf]; omega⟩
      · obtain rfl : k = 0 := by omega
        go_wp2
        go_ret
        exact ⟨by rw [← He.out]; rfl, rfl⟩
  · go_loop [1, 5, 6] (fun nv pw pv => ∃ (k q : Nat) (p : BitVec 32), k ≤ 1099511627776 ∧ nv = .int .i64 k ∧ pw = U (iter q e31) ∧ pv = U p ∧ iter (q * k) p = shiftB c N) (fun nv _ _ => (intOf nv).toNat)
    case atStart => exact ⟨N, 8, c, by omega, rfl, rfl, rfl, rfl⟩
    case round =>
      obtain ⟨k, q, p, hk, rfl, rfl, rfl, he⟩ := hrel
      have He := Lib.hid he; clear he
      by_cases hk0 : 0 < k
      · by_cases hk1 : k % 2 = 1
        · have ht : (bits .and .i64 (k : Int) 1 == 1) = true := by rw [and64_1 k hk, hk1]; rfl
          go_wp2_with fail
          refine (product_any _ _ _).mono ?_
          rintro e w' ⟨rfl, rfl⟩
          go_wp2_with fail
          refine (product_any _ _ _).mono ?_
          rintro e w' ⟨rfl, rfl⟩
          go_wp2_with fail
          exact ⟨⟨k / 2, q + q, prodB (iter q e31) p, by omega, by go_num, by rw [prod_power], rfl, by rw [← He.out, shift_round q k p hk1]⟩, by simp [intOf]; omega⟩
        · have ht : (bits .and .i64 (k : Int) 1 == 1) = false := by rw [and64_1 k hk, show k % 2 = 0 by omega]; rfl
          go_wp2_with fail
          refine (product_any _ _ _).mono ?_
          rintro e w' ⟨rfl, rfl⟩
          go_wp2_with fail
          exact ⟨⟨k / 2, q + q, p, by omega, by go_num, by rw [prod_power], rfl, by rw [← He.out, shift_round0 q k p (by omega)]⟩, by simp [intOf]; omega⟩
      · obtain rfl : k = 0 := by omega
        go_wp2
        go_ret
        exact ⟨by rw [← He.out]; rfl, rfl⟩
  · go_loop [1, 5, 6] (fun nv pw pv => ∃ (k q : Nat) (p : BitVec 32), k ≤ 1099511627776 ∧ nv = .int .i64 k ∧ pw = U (iter q e31) ∧ pv = U p ∧ iter (q * k) p = shiftB c 1099511627776) (fun nv _ _ => (intOf nv).toNat)
    case atStart => exact ⟨1099511627776, 8, c, by omega, rfl, rfl, rfl, rfl⟩
    case round =>
      obtain ⟨k, q, p, hk, rfl, rfl, rfl, he⟩ := hrel
      have He := Lib.hid he; clear he
      by_cases hk0 : 0 < k
      · by_cases hk1 : k % 2 = 1
        · have ht : (bits .and .i64 (k : Int) 1 == 1) = true := by rw [and64_1 k hk, hk1]; rfl
          go_wp2_with fail
          refine (product_any _ _ _).mono ?_
          rintro e w' ⟨rfl, rfl⟩
          go_wp2_with fail
          refine (product_any _ _ _).mono ?_
          rintro e w' ⟨rfl, rfl⟩
          go_wp2_with fail
          exact ⟨⟨k / 2, q + q, prodB (iter q e31) p, by omega, by go_num, by rw [prod_power], rfl, by rw [← He.out, shift_round q k p hk1]⟩, by simp [intOf]; omega⟩
        · have ht : (bits .and .i64 (k : Int) 1 == 1) = false := by rw [and64_1 k hk, show k % 2 = 0 by omega]; rfl
          go_wp2_with fail
          refine (product_any _ _ _).mono ?_
          rintro e w' ⟨rfl, rfl⟩
          go_wp2_with fail
          exact ⟨⟨k / 2, q + q, p, by omega, by go_num, by rw [prod_power], rfl, by rw [← He.out, shift_round0 q k p (by omega)]⟩, by simp [intOf]; omega⟩
      · obtain rfl : k = 0 := by omega
        go_wp2
        go_ret
        exact ⟨by rw [← He.out]; rfl, rfl⟩
end Go.Proofs.Ytenjcjgkdkmpnaa
