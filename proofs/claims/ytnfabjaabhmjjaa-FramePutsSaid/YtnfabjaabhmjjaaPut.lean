/-
  Put, and what the laws share.
-/
import Derived.Test.YtnfabjaabhmjjaaFeed
namespace Go.Proofs.Ytnfabjaabhmjjaa
open Go.RowKit
set_option linter.unusedVariables false

/-- A text's first bytes. -/
def cut (s : ByteArray) (n : Nat) : ByteArray := if n < s.size then s.extract 0 n else s
theorem cut_size (s : ByteArray) (n : Nat) : (cut s n).size ≤ n := by
  unfold cut; split
  · simp; omega
  · omega
set_option maxHeartbeats 400000 in
theorem short_any (s : ByteArray) (n : Nat) (_hn : n ≤ 5000) (hs : s.size ≤ maxLen) (w : World) :
    Calls Try.prog 8 #[.string s, .int .i64 n] w fun e w' => e = .returned (.string (cut s n)) ∧ w = w' := by
  unfold maxLen at hs
  by_cases h : n < s.size
  · go_enter Try.func8, Try.ntmps8
    go_wp2
    go_ret
    exact ⟨by rw [cut, if_pos h]; rfl, rfl⟩
  · go_enter Try.func8, Try.ntmps8
    go_wp2
    go_ret
    exact ⟨by rw [cut, if_neg h]; rfl, rfl⟩

/-- The text of Put. -/
def encS (s : ByteArray) : ByteArray := ⟨#[UInt8.ofNat (s.size / 256), UInt8.ofNat (s.size % 256)]⟩ ++ s
theorem encS_list (s : ByteArray) : (encS s).data.toList = enc s.data.toList := by
  unfold encS enc
  rw [ByteArray.data_append, Array.toList_append, Array.length_toList]; rfl
theorem encS_size (s : ByteArray) : (encS s).size = s.size + 2 := by
  unfold encS; rw [ByteArray.size_append]; show 2 + s.size = _; omega
theorem conv_head (w : World) (s : ByteArray) : (convert 45 9 (.slice (some ⟨w.heap.size, 0, none⟩) 2 2)).run Try.prog (w.alloc (.cells #[.int .u8 ((s.size : Int) / 256), .int .u8 ((s.size : Int) % 256)] 5)) =
    .ok (.string ⟨#[UInt8.ofNat (s.size / 256), UInt8.ofNat (s.size % 256)]⟩) (w.alloc (.cells #[.int .u8 ((s.size : Int) / 256), .int .u8 ((s.size : Int) % 256)] 5)) := by
  have := run_convert_bytes_arg (P := Try.prog) (w.alloc (.cells #[.int .u8 ((s.size : Int) / 256), .int .u8 ((s.size : Int) % 256)] 5)) 45 5 Try.underlying45 Try.underlying5 w.heap.size 0 2 2 [(s.size : Int) / 256, (s.size : Int) % 256] rfl (fun i hi => by
    rw [World.cell?_alloc_at _ _ _ _ rfl]
    match i, hi with
    | 0, _ => rfl
    | 1, _ => rfl) 9 Try.underlying9
  rw [this]
  have e1 : ((s.size : Int) / 256).toNat = s.size / 256 := by omega
  have e2 : ((s.size : Int) % 256).toNat = s.size % 256 := by omega
  simp [strOfNums, e1, e2]

set_option maxHeartbeats 400000 in
theorem put_any (s : ByteArray) (hs : s.size ≤ 65535) (w : World) :
    Calls Try.prog 9 #[.string s] w fun e w' => e = .returned (.tuple #[.string (encS s), .int .i64 0]) ∧ Below w.heap.size w w' := by
  have hcv := conv_head w s
  go_enter Try.func9, Try.ntmps9
  go_wp2
  go_ret2
  exact ⟨rfl, (Below.refl _ _).alloc (Nat.le_refl _) _⟩

theorem p1 : parse [0, 2, 97] = none := by decide
theorem p2 : parse [0, 2, 97, 98, 0, 0, 0] = some ([97, 98], [0, 0, 0]) := by decide
theorem p3 : parse [0, 0, 0] = some ([], [0]) := by decide
theorem holds_new (w : World) : Holds (w.alloc (.cells #[.slice none 0 0] 50)) w.heap.size [] :=
  ⟨_, heap_alloc_new _ _, .inl ⟨rfl, rfl⟩⟩
theorem below_but {B R : Nat} {w W W' : World} (h : Below B w W) (hb : But R W W') (hR : B ≤ R) (hB : B ≤ W.heap.size) : Below B w W' :=
  h.grown hb hB (fun k e => by cases e; exact hR)
theorem next_not {w : World} {R : Nat} {l : List UInt8} (h : Holds w R l) (hp : parse l = none) (hm : l.length ≤ 1000000) :
    Calls Try.prog 12 #[.pointer (some ⟨R, 0, none⟩)] w fun e w' => e = .returned (.tuple #[.string ⟨#[]⟩, .bool false]) ∧ Holds w' R l ∧ But R w w' :=
  (next_any w R l h hm).mono fun e w' hx => by
    rcases hx with ⟨_, he, h1, h2⟩ | ⟨s, r, hs, _⟩
    · exact ⟨he, h1, h2⟩
    · rw [hp] at hs; cases hs
theorem next_some {w : World} {R : Nat} {l s r : List UInt8} (h : Holds w R l) (hp : parse l = some (s, r)) (hm : l.length ≤ 1000000) :
    Calls Try.prog 12 #[.pointer (some ⟨R, 0, none⟩)] w fun e w' => e = .returned (.tuple #[.string ⟨s.toArray⟩, .bool true]) ∧ Holds w' R r ∧ But R w w' :=
  (next_any w R l h hm).mono fun e w' hx => by
    rcases hx with ⟨hn, _⟩ | ⟨s', r', hs, he, h1, h2⟩
    · rw [hp] at hn; cases hn
    · rw [hp] at hs; cases hs; exact ⟨he, h1, h2⟩

set_option maxHeartbeats 1600000 in
theorem awake_any (w : World) : Calls Try.prog 7 #[] w fun e w' => e = .returned (.bool true) ∧ Below w.heap.size w w' := by
  have hq : encS ⟨#[97, 98]⟩ = ⟨#[0, 2, 97, 98]⟩ := by decide
  go_enter Try.func7, Try.ntmps7
  go_wp2_with fail
  refine (put_any ⟨#[97, 98]⟩ (by decide) _).mono ?_
  rintro e w1 ⟨rfl, hb⟩
  rw [hq]
  clear hq
  have hsz := hb.size
  have Hb1 := Lib.hid hb; clear hb
  go_wp2_with fail
  refine (new_any _).mono ?_
  rintro e w2 ⟨rfl, rfl⟩
  have hh := holds_new w1
  have Hn := Lib.hid hh; clear hh
  have Hb2 := Lib.hid (Hb1.out.alloc Hb1.out.size (.cells #[.slice none 0 0] 50))
  clear Hb1
  go_wp2_with fail
  obtain ⟨R, hR⟩ : ∃ R, w1.heap.size = R := ⟨_, rfl⟩
  rw [hR] at Hn hsz ⊢
  obtain ⟨w2, hw2⟩ : ∃ w2, w1.alloc (.cells #[.slice none 0 0] 50) = w2 := ⟨_, rfl⟩
  rw [hw2] at Hn Hb2 ⊢
  clear hw2 hR
  refine (feed_any _ R [] ⟨#[0, 2, 97]⟩ Hn.out (by decide)).mono ?_
  rintro e w3 ⟨rfl, hh, hb⟩
  have Hn3 := Lib.hid hh; clear hh
  have Hb3 := Lib.hid (below_but Hb2.out hb hsz Hb2.out.size); clear hb Hb2 Hn
  go_wp2_with fail
  refine (next_not Hn3.out p1 (by decide)).mono ?_
  rintro e w4 ⟨rfl, hh, hb⟩
  have Hn4 := Lib.hid hh; clear hh
  have Hb4 := Lib.hid (below_but Hb3.out hb hsz Hb3.out.size); clear hb Hb3 Hn3
  go_wp2_with fail
  refine (feed_any _ R [0, 2, 97] ⟨#[98, 0, 0, 0]⟩ Hn4.out (by decide)).mono ?_
  rintro e w5 ⟨rfl, hh, hb⟩
  have Hn5 := Lib.hid hh; clear hh
  have Hb5 := Lib.hid (below_but Hb4.out hb hsz Hb4.out.size); clear hb Hb4 Hn4
  go_wp2_with fail
  refine (next_some Hn5.out p2 (by decide)).mono ?_
  rintro e w6 ⟨rfl, hh, hb⟩
  have Hn6 := Lib.hid hh; clear hh
  have Hb6 := Lib.hid (below_but Hb5.out hb hsz Hb5.out.size); clear hb Hb5 Hn5
  go_wp2_with fail
  refine (next_some Hn6.out p3 (by decide)).mono ?_
  rintro e w7 ⟨rfl, hh, hb⟩
  have Hn7 := Lib.hid hh; clear hh
  have Hb7 := Lib.hid (below_but Hb6.out hb hsz Hb6.out.size); clear hb Hb6 Hn6
  go_wp2_with fail
  refine (left_any _ R _ Hn7.out).mono ?_
  rintro e w8 ⟨rfl, rfl⟩
  go_wp2_with fail
  go_ret
  exact ⟨rfl, Hb7.out⟩
end Go.Proofs.Ytnfabjaabhmjjaa
