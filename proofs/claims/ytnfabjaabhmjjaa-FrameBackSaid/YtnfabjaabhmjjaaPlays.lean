/-
  FramePlays: bytes are fed and texts told, call by call.
-/
import Derived.Test.YtnfabjaabhmjjaaRef
namespace Go.Proofs.Ytnfabjaabhmjjaa
open Go.RowKit
set_option linter.unusedVariables false

theorem reset_h (w : World) (R : Nat) (l : List UInt8) (h : Holds w R l) :
    Calls Try.prog 16 #[.pointer (some ⟨R, 0, none⟩)] w fun e w' => e = .returned (.tuple #[]) ∧ Holds w' R [] ∧ But R w w' := by
  obtain ⟨v, hR, _⟩ := h
  refine (reset_any w R v hR).mono fun e w' ⟨he, hw⟩ => ⟨he, ?_, ?_⟩
  · subst hw; exact ⟨_, by rw [heap_setCell_same w R 0 #[v] 50 _ hR]; rfl, .inl ⟨rfl, rfl⟩⟩
  · subst hw; exact (But.refl R w).setCell _
theorem left_text (w : World) (R : Nat) (s : ByteArray) (h : Holds w R s.data.toList) :
    Calls Try.prog 13 #[.pointer (some ⟨R, 0, none⟩)] w fun e w' => e = .returned (.int .i64 s.size) ∧ w = w' := by
  have := left_any w R _ h
  rwa [Array.length_toList] at this
theorem feed_text (w : World) (R : Nat) (l s : ByteArray) (h : Holds w R l.data.toList) (hm : l.size + s.size ≤ 1000000) :
    Calls Try.prog 11 #[.pointer (some ⟨R, 0, none⟩), .string s] w fun e w' => e = .returned (.int .i64 (l ++ s).size) ∧ Holds w' R (l ++ s).data.toList ∧ But R w w' := by
  have := feed_any w R _ s h (by rw [Array.length_toList]; exact hm)
  rw [ByteArray.data_append, Array.toList_append, ByteArray.size_append]
  rwa [Array.length_toList] at this

set_option maxRecDepth 100000 in
set_option maxHeartbeats 1600000 in
theorem plays_walk (b off len cap : Nat) (w : World) (hlen : len ≤ maxLen) (hb : b < w.heap.size)
    (hcell : ∀ i, i < len → ∃ (k n : Int) (t : ByteArray), w.cell? ⟨b, off + i * 3, none⟩ = some (.int .i64 k) ∧ w.cell? ⟨b, off + i * 3 + 1, none⟩ = some (.int .i64 n) ∧ w.cell? ⟨b, off + i * 3 + 2, none⟩ = some (.string t) ∧ t.size ≤ maxLen) :
    Calls Try.prog 5 #[.slice (some ⟨b, off, none⟩) len cap] w fun e w' => e = .returned (.bool true) ∧ Below w.heap.size w w' := by
  unfold maxLen at hlen
  have Hcell := Lib.hid hcell; clear hcell
  go_enter Try.func5, Try.ntmps5
  go_wp2_with fail
  refine (awake_any _).mono ?_
  rintro e w1 ⟨rfl, hb1⟩
  have hsz1 := hb1.size
  have Hb1 := Lib.hid hb1; clear hb1
  go_wp2_with fail
  refine (new_any _).mono ?_
  rintro e w2 ⟨rfl, rfl⟩
  have hh := holds_new w1
  have hbel : Below w.heap.size w (w1.alloc (.cells #[.slice none 0 0] 50)) := Hb1.out.alloc hsz1 _
  have hR1 : w1.heap.size < (w1.alloc (.cells #[.slice none 0 0] 50)).heap.size := by simp
  revert hh hbel hR1
  generalize w1.alloc (.cells #[.slice none 0 0] 50) = W2
  generalize w1.heap.size = R at hsz1 ⊢
  intro hh hbel hR1
  have Hh := Lib.hid hh
  have Hbel := Lib.hid hbel
  clear hh hbel Hb1
  go_wp2
  go_loopw [5, 6] (fun lv i wr => ∃ (j : Nat) (lf : ByteArray), j ≤ len ∧ j ≤ 60 ∧ i = .int .i64 j ∧ lv = .string lf ∧ lf.size ≤ 400 * j ∧ Holds wr R lf.data.toList ∧ Below w.heap.size w wr) (fun _ i _ => 60 - (intOf i).toNat)
  case atStart => exact ⟨0, ⟨#[]⟩, by omega, by omega, rfl, rfl, by decide, Hh.out, Hbel.out⟩
  case round =>
    obtain ⟨j, lf, hj1, hj2, rfl, rfl, hsz, hH, hB⟩ := hrel
    have HH := Lib.hid hH
    have HB := Lib.hid hB
    clear hH hB
    by_cases hlt : j < len ∧ j < 60
    · obtain ⟨hl1, hl2⟩ := hlt
      obtain ⟨k, n, t, c0, c1, c2, ht⟩ := Hcell.out j hl1
      have d0 := (HB.out.cell (p := ⟨b, off + j * 3, none⟩) hb).trans c0
      have d1 := (HB.out.cell (p := ⟨b, off + j * 3 + 1, none⟩) hb).trans c1
      have d2 := (HB.out.cell (p := ⟨b, off + j * 3 + 2, none⟩) hb).trans c2
      clear c0 c1 c2
      obtain ⟨wA, hwA⟩ : ∃ wA, wr.alloc (.cells #[.int .i64 k, .int .i64 n, .string t] 41) = wA := ⟨_, rfl⟩
      have hA : Holds wA R lf.data.toList := hwA ▸ holds_alloc HH.out _
      have hAB : Below w.heap.size w wA := hwA ▸ HB.out.alloc HB.out.size _
      have HA := Lib.hid hA
      have HAB := Lib.hid hAB
      have HwA := Lib.hid hwA
      clear hA hAB hwA HH HB
      have hlm : lf.data.toList.length ≤ 1000000 := by rw [Array.length_toList]; show lf.size ≤ 1000000; omega
      cases hp : parse lf.data.toList with
      | none =>
        have Hp := Lib.hid hp; clear hp
        by_cases hk : k.tmod 5 < 0
        · go_wp2_with fail
          all_goals rw [HwA.out]
          · refine (next_not HA.out Hp.out hlm).mono ?_
            rintro e wa ⟨rfl, hh, hbt⟩
            have Hn := Lib.hid hh
            have Hnb := Lib.hid (below_but HAB.out hbt hsz1 HAB.out.size)
            clear hh hbt
            go_wp2_with fail
            refine (rnext_none lf (by omega) Hp.out _).mono ?_
            rintro e wb ⟨rfl, nn, rfl⟩
            go_wp2_with fail
            refine (left_text _ _ _ (holds_drewN Hn.out _)).mono ?_
            rintro e wb ⟨rfl, rfl⟩
            go_wp2_with fail
            exact ⟨⟨j + 1, lf, by omega, by omega, by go_num, rfl, by omega, holds_drewN Hn.out _, Hnb.out.trans ⟨rfl, rfl, rfl, Nat.le_refl _, fun _ _ => rfl⟩⟩, by simp [intOf]; omega⟩
          · refine (next_not HA.out Hp.out hlm).mono ?_
            rintro e wa ⟨rfl, hh, hbt⟩
            have Hn := Lib.hid hh
            have Hnb := Lib.hid (below_but HAB.out hbt hsz1 HAB.out.size)
            clear hh hbt
            go_wp2_with fail
            refine (rnext_none lf (by omega) Hp.out _).mono ?_
            rintro e wb ⟨rfl, nn, rfl⟩
            go_wp2_with fail
            refine (left_text _ _ _ (holds_drewN Hn.out _)).mono ?_
            rintro e wb ⟨rfl, rfl⟩
            go_wp2_with fail
            exact ⟨⟨j + 1, lf, by omega, by omega, by go_num, rfl, by omega, holds_drewN Hn.out _, Hnb.out.trans ⟨rfl, rfl, rfl, Nat.le_refl _, fun _ _ => rfl⟩⟩, by simp [intOf]; omega⟩
          · refine (reset_h _ _ _ HA.out).mono ?_
            rintro e wa ⟨rfl, hh, hbt⟩
            have Hn := Lib.hid hh
            have Hnb := Lib.hid (below_but HAB.out hbt hsz1 HAB.out.size)
            clear hh hbt
            go_wp2_with fail
            refine (left_text _ _ ⟨#[]⟩ Hn.out).mono ?_
            rintro e wb ⟨rfl, rfl⟩
            go_wp2_with fail
            exact ⟨⟨j + 1, ⟨#[]⟩, by omega, by omega, by go_num, rfl, Nat.zero_le _, Hn.out, Hnb.out⟩, by simp [intOf]; omega⟩
          · refine (left_text _ _ _ HA.out).mono ?_
            rintro e wb ⟨rfl, rfl⟩
            go_wp2_with fail
            exact ⟨⟨j + 1, lf, by omega, by omega, by go_num, rfl, by omega, HA.out, HAB.out⟩, by simp [intOf]; omega⟩
          · have hc2 : wA.cell? ⟨wr.heap.size, 2, none⟩ = some (.string t) := by rw [← HwA.out, World.cell?_alloc_at _ _ _ _ rfl]; rfl
            refine (short_any t 400 (by omega) ht _).mono ?_
            rintro e wb ⟨rfl, rfl⟩
            have hz := cut_size t 400
            go_wp2_with fail
            refine (short_any t 400 (by omega) ht _).mono ?_
            rintro e wb ⟨rfl, rfl⟩
            clear hc2
            generalize cut t 400 = t at hz ⊢
            go_wp2_with fail
            refine (feed_text _ _ _ _ HA.out (by omega)).mono ?_
            rintro e wa ⟨rfl, hh, hbt⟩
            have Hn := Lib.hid hh
            have Hnb := Lib.hid (below_but HAB.out hbt hsz1 HAB.out.size)
            clear hh hbt
            go_wp2_with fail
            refine (left_text _ _ _ Hn.out).mono ?_
            rintro e wb ⟨rfl, rfl⟩
            go_wp2_with fail
            exact ⟨⟨j + 1, lf ++ t, by omega, by omega, by go_num, rfl, by rw [ByteArray.size_append]; omega, Hn.out, Hnb.out⟩, by simp [intOf]; omega⟩
        · go_wp2_with fail
          all_goals rw [HwA.out]
          · refine (next_not HA.out Hp.out hlm).mono ?_
            rintro e wa ⟨rfl, hh, hbt⟩
            have Hn := Lib.hid hh
            have Hnb := Lib.hid (below_but HAB.out hbt hsz1 HAB.out.size)
            clear hh hbt
            go_wp2_with fail
            refine (rnext_none lf (by omega) Hp.out _).mono ?_
            rintro e wb ⟨rfl, nn, rfl⟩
            go_wp2_with fail
            refine (left_text _ _ _ (holds_drewN Hn.out _)).mono ?_
            rintro e wb ⟨rfl, rfl⟩
            go_wp2_with fail
            exact ⟨⟨j + 1, lf, by omega, by omega, by go_num, rfl, by omega, holds_drewN Hn.out _, Hnb.out.trans ⟨rfl, rfl, rfl, Nat.le_refl _, fun _ _ => rfl⟩⟩, by simp [intOf]; omega⟩
          · refine (next_not HA.out Hp.out hlm).mono ?_
            rintro e wa ⟨rfl, hh, hbt⟩
            have Hn := Lib.hid hh
            have Hnb := Lib.hid (below_but HAB.out hbt hsz1 HAB.out.size)
            clear hh hbt
            go_wp2_with fail
            refine (rnext_none lf (by omega) Hp.out _).mono ?_
            rintro e wb ⟨rfl, nn, rfl⟩
            go_wp2_with fail
            refine (left_text _ _ _ (holds_drewN Hn.out _)).mono ?_
            rintro e wb ⟨rfl, rfl⟩
            go_wp2_with fail
            exact ⟨⟨j + 1, lf, by omega, by omega, by go_num, rfl, by omega, holds_drewN Hn.out _, Hnb.out.trans ⟨rfl, rfl, rfl, Nat.le_refl _, fun _ _ => rfl⟩⟩, by simp [intOf]; omega⟩
          · refine (reset_h _ _ _ HA.out).mono ?_
            rintro e wa ⟨rfl, hh, hbt⟩
            have Hn := Lib.hid hh
            have Hnb := Lib.hid (below_but HAB.out hbt hsz1 HAB.out.size)
            clear hh hbt
            go_wp2_with fail
            refine (left_text _ _ ⟨#[]⟩ Hn.out).mono ?_
            rintro e wb ⟨rfl, rfl⟩
            go_wp2_with fail
            exact ⟨⟨j + 1, ⟨#[]⟩, by omega, by omega, by go_num, rfl, Nat.zero_le _, Hn.out, Hnb.out⟩, by simp [intOf]; omega⟩
          · refine (left_text _ _ _ HA.out).mono ?_
            rintro e wb ⟨rfl, rfl⟩
            go_wp2_with fail
            exact ⟨⟨j + 1, lf, by omega, by omega, by go_num, rfl, by omega, HA.out, HAB.out⟩, by simp [intOf]; omega⟩
          · have hc2 : wA.cell? ⟨wr.heap.size, 2, none⟩ = some (.string t) := by rw [← HwA.out, World.cell?_alloc_at _ _ _ _ rfl]; rfl
            refine (short_any t 400 (by omega) ht _).mono ?_
            rintro e wb ⟨rfl, rfl⟩
            have hz := cut_size t 400
            go_wp2_with fail
            refine (short_any t 400 (by omega) ht _).mono ?_
            rintro e wb ⟨rfl, rfl⟩
            clear hc2
            generalize cut t 400 = t at hz ⊢
            go_wp2_with fail
            refine (feed_text _ _ _ _ HA.out (by omega)).mono ?_
            rintro e wa ⟨rfl, hh, hbt⟩
            have Hn := Lib.hid hh
            have Hnb := Lib.hid (below_but HAB.out hbt hsz1 HAB.out.size)
            clear hh hbt
            go_wp2_with fail
            refine (left_text _ _ _ Hn.out).mono ?_
            rintro e wb ⟨rfl, rfl⟩
            go_wp2_with fail
            exact ⟨⟨j + 1, lf ++ t, by omega, by omega, by go_num, rfl, by rw [ByteArray.size_append]; omega, Hn.out, Hnb.out⟩, by simp [intOf]; omega⟩
      | some x =>
        obtain ⟨u, r⟩ := x
        have hpl := (parse_length hp).1
        have hll : lf.data.toList.length = lf.size := Array.length_toList
        have hrs : (⟨r.toArray⟩ : ByteArray).size = r.length := by show r.toArray.size = _; simp
        have Hrs := Lib.hid hrs
        have Hp := Lib.hid hp
        clear hp hrs
        by_cases hk : k.tmod 5 < 0
        · go_wp2_with fail
          all_goals rw [HwA.out]
          · refine (next_some HA.out Hp.out hlm).mono ?_
            rintro e wa ⟨rfl, hh, hbt⟩
            have Hn := Lib.hid hh
            have Hnb := Lib.hid (below_but HAB.out hbt hsz1 HAB.out.size)
            clear hh hbt
            go_wp2_with fail
            refine (rnext_some lf _ _ (by omega) Hp.out _).mono ?_
            rintro e wb ⟨rfl, nn, rfl⟩
            go_wp2_with fail
            refine (left_text _ _ ⟨r.toArray⟩ (holds_drewN Hn.out _)).mono ?_
            rintro e wb ⟨rfl, rfl⟩
            go_wp2_with fail
            exact ⟨⟨j + 1, ⟨r.toArray⟩, by omega, by omega, by go_num, rfl, by rw [Hrs.out]; omega, holds_drewN Hn.out _, Hnb.out.trans ⟨rfl, rfl, rfl, Nat.le_refl _, fun _ _ => rfl⟩⟩, by simp [intOf]; omega⟩
          · refine (next_some HA.out Hp.out hlm).mono ?_
            rintro e wa ⟨rfl, hh, hbt⟩
            have Hn := Lib.hid hh
            have Hnb := Lib.hid (below_but HAB.out hbt hsz1 HAB.out.size)
            clear hh hbt
            go_wp2_with fail
            refine (rnext_some lf _ _ (by omega) Hp.out _).mono ?_
            rintro e wb ⟨rfl, nn, rfl⟩
            go_wp2_with fail
            refine (left_text _ _ ⟨r.toArray⟩ (holds_drewN Hn.out _)).mono ?_
            rintro e wb ⟨rfl, rfl⟩
            go_wp2_with fail
            exact ⟨⟨j + 1, ⟨r.toArray⟩, by omega, by omega, by go_num, rfl, by rw [Hrs.out]; omega, holds_drewN Hn.out _, Hnb.out.trans ⟨rfl, rfl, rfl, Nat.le_refl _, fun _ _ => rfl⟩⟩, by simp [intOf]; omega⟩
          · refine (reset_h _ _ _ HA.out).mono ?_
            rintro e wa ⟨rfl, hh, hbt⟩
            have Hn := Lib.hid hh
            have Hnb := Lib.hid (below_but HAB.out hbt hsz1 HAB.out.size)
            clear hh hbt
            go_wp2_with fail
            refine (left_text _ _ ⟨#[]⟩ Hn.out).mono ?_
            rintro e wb ⟨rfl, rfl⟩
            go_wp2_with fail
            exact ⟨⟨j + 1, ⟨#[]⟩, by omega, by omega, by go_num, rfl, Nat.zero_le _, Hn.out, Hnb.out⟩, by simp [intOf]; omega⟩
          · refine (left_text _ _ _ HA.out).mono ?_
            rintro e wb ⟨rfl, rfl⟩
            go_wp2_with fail
            exact ⟨⟨j + 1, lf, by omega, by omega, by go_num, rfl, by omega, HA.out, HAB.out⟩, by simp [intOf]; omega⟩
          · have hc2 : wA.cell? ⟨wr.heap.size, 2, none⟩ = some (.string t) := by rw [← HwA.out, World.cell?_alloc_at _ _ _ _ rfl]; rfl
            refine (short_any t 400 (by omega) ht _).mono ?_
            rintro e wb ⟨rfl, rfl⟩
            have hz := cut_size t 400
            go_wp2_with fail
            refine (short_any t 400 (by omega) ht _).mono ?_
            rintro e wb ⟨rfl, rfl⟩
            clear hc2
            generalize cut t 400 = t at hz ⊢
            go_wp2_with fail
            refine (feed_text _ _ _ _ HA.out (by omega)).mono ?_
            rintro e wa ⟨rfl, hh, hbt⟩
            have Hn := Lib.hid hh
            have Hnb := Lib.hid (below_but HAB.out hbt hsz1 HAB.out.size)
            clear hh hbt
            go_wp2_with fail
            refine (left_text _ _ _ Hn.out).mono ?_
            rintro e wb ⟨rfl, rfl⟩
            go_wp2_with fail
            exact ⟨⟨j + 1, lf ++ t, by omega, by omega, by go_num, rfl, by rw [ByteArray.size_append]; omega, Hn.out, Hnb.out⟩, by simp [intOf]; omega⟩
        · go_wp2_with fail
          all_goals rw [HwA.out]
          · refine (next_some HA.out Hp.out hlm).mono ?_
            rintro e wa ⟨rfl, hh, hbt⟩
            have Hn := Lib.hid hh
            have Hnb := Lib.hid (below_but HAB.out hbt hsz1 HAB.out.size)
            clear hh hbt
            go_wp2_with fail
            refine (rnext_some lf _ _ (by omega) Hp.out _).mono ?_
            rintro e wb ⟨rfl, nn, rfl⟩
            go_wp2_with fail
            refine (left_text _ _ ⟨r.toArray⟩ (holds_drewN Hn.out _)).mono ?_
            rintro e wb ⟨rfl, rfl⟩
            go_wp2_with fail
            exact ⟨⟨j + 1, ⟨r.toArray⟩, by omega, by omega, by go_num, rfl, by rw [Hrs.out]; omega, holds_drewN Hn.out _, Hnb.out.trans ⟨rfl, rfl, rfl, Nat.le_refl _, fun _ _ => rfl⟩⟩, by simp [intOf]; omega⟩
          · refine (next_some HA.out Hp.out hlm).mono ?_
            rintro e wa ⟨rfl, hh, hbt⟩
            have Hn := Lib.hid hh
            have Hnb := Lib.hid (below_but HAB.out hbt hsz1 HAB.out.size)
            clear hh hbt
            go_wp2_with fail
            refine (rnext_some lf _ _ (by omega) Hp.out _).mono ?_
            rintro e wb ⟨rfl, nn, rfl⟩
            go_wp2_with fail
            refine (left_text _ _ ⟨r.toArray⟩ (holds_drewN Hn.out _)).mono ?_
            rintro e wb ⟨rfl, rfl⟩
            go_wp2_with fail
            exact ⟨⟨j + 1, ⟨r.toArray⟩, by omega, by omega, by go_num, rfl, by rw [Hrs.out]; omega, holds_drewN Hn.out _, Hnb.out.trans ⟨rfl, rfl, rfl, Nat.le_refl _, fun _ _ => rfl⟩⟩, by simp [intOf]; omega⟩
          · refine (reset_h _ _ _ HA.out).mono ?_
            rintro e wa ⟨rfl, hh, hbt⟩
            have Hn := Lib.hid hh
            have Hnb := Lib.hid (below_but HAB.out hbt hsz1 HAB.out.size)
            clear hh hbt
            go_wp2_with fail
            refine (left_text _ _ ⟨#[]⟩ Hn.out).mono ?_
            rintro e wb ⟨rfl, rfl⟩
            go_wp2_with fail
            exact ⟨⟨j + 1, ⟨#[]⟩, by omega, by omega, by go_num, rfl, Nat.zero_le _, Hn.out, Hnb.out⟩, by simp [intOf]; omega⟩
          · refine (left_text _ _ _ HA.out).mono ?_
            rintro e wb ⟨rfl, rfl⟩
            go_wp2_with fail
            exact ⟨⟨j + 1, lf, by omega, by omega, by go_num, rfl, by omega, HA.out, HAB.out⟩, by simp [intOf]; omega⟩
          · have hc2 : wA.cell? ⟨wr.heap.size, 2, none⟩ = some (.string t) := by rw [← HwA.out, World.cell?_alloc_at _ _ _ _ rfl]; rfl
            refine (short_any t 400 (by omega) ht _).mono ?_
            rintro e wb ⟨rfl, rfl⟩
            have hz := cut_size t 400
            go_wp2_with fail
            refine (short_any t 400 (by omega) ht _).mono ?_
            rintro e wb ⟨rfl, rfl⟩
            clear hc2
            generalize cut t 400 = t at hz ⊢
            go_wp2_with fail
            refine (feed_text _ _ _ _ HA.out (by omega)).mono ?_
            rintro e wa ⟨rfl, hh, hbt⟩
            have Hn := Lib.hid hh
            have Hnb := Lib.hid (below_but HAB.out hbt hsz1 HAB.out.size)
            clear hh hbt
            go_wp2_with fail
            refine (left_text _ _ _ Hn.out).mono ?_
            rintro e wb ⟨rfl, rfl⟩
            go_wp2_with fail
            exact ⟨⟨j + 1, lf ++ t, by omega, by omega, by go_num, rfl, by rw [ByteArray.size_append]; omega, Hn.out, Hnb.out⟩, by simp [intOf]; omega⟩
    · go_wp2
      all_goals
        go_ret
        exact ⟨rfl, HB.out⟩
end Go.Proofs.Ytnfabjaabhmjjaa
