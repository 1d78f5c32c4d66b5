/-
  The reference's Next.
-/
import Derived.Test.YtnfabjaabhmjjaaPut
namespace Go.Proofs.Ytnfabjaabhmjjaa
open Go.RowKit
set_option linter.unusedVariables false

theorem text_get (s : ByteArray) (i : Nat) (b : UInt8) (h : s.data.toList[i]? = some b) : ∃ h' : i < s.size, s[i] = b := by
  obtain ⟨hi, e⟩ := List.getElem?_eq_some_iff.1 h
  exact ⟨by simpa using hi, e⟩
theorem extract_list (s : ByteArray) (a b : Nat) : (s.extract a b).data.toList = (s.data.toList.drop a).take (b - a) := by
  rw [ByteArray.data_extract]; simp
theorem ba_eq {a b : ByteArray} (h : a.data.toList = b.data.toList) : a = b := by
  cases a; cases b; simp at h; rw [h]

set_option maxHeartbeats 400000 in
theorem rnext_short (s : ByteArray) (h : s.size < 2) (w : World) :
    Calls Try.prog 15 #[.string s] w fun e w' => e = .returned (.tuple #[.string ⟨#[]⟩, .string s, .bool false]) ∧ ∃ n, w' = w.drewN n := by
  go_enter Try.func15, Try.ntmps15
  go_wp2
  go_ret3
  exact ⟨rfl, 0, rfl⟩
set_option maxHeartbeats 400000 in
theorem rnext_not (s : ByteArray) (a b : UInt8) (hm : s.size ≤ 1000000) (h2 : 2 ≤ s.size) (h0 : s[0] = a) (h1 : s[1] = b) (hl : s.size < 2 + num a b) (w : World) :
    Calls Try.prog 15 #[.string s] w fun e w' => e = .returned (.tuple #[.string ⟨#[]⟩, .string s, .bool false]) ∧ ∃ n, w' = w.drewN n := by
  have ha := a.toNat_lt
  have hb := b.toNat_lt
  unfold num at hl
  have i0 : (0 : Int) < (s.size : Int) := by omega
  have i1 : (1 : Int) < (s.size : Int) := by omega
  go_enter Try.func15, Try.ntmps15
  go_wp2
  go_quiet (fail)
  go_wp2
  go_ret3
  exact ⟨rfl, _, rfl⟩
set_option maxHeartbeats 400000 in
theorem rnext_all (s : ByteArray) (a b : UInt8) (hm : s.size ≤ 1000000) (h2 : 2 ≤ s.size) (h0 : s[0] = a) (h1 : s[1] = b) (hl : 2 + num a b ≤ s.size) (w : World) :
    Calls Try.prog 15 #[.string s] w fun e w' => e = .returned (.tuple #[.string (s.extract 2 (2 + num a b)), .string (s.extract (2 + num a b) s.size), .bool true]) ∧ ∃ n, w' = w.drewN n := by
  have ha := a.toNat_lt
  have hb := b.toNat_lt
  unfold num at hl ⊢
  have i0 : (0 : Int) < (s.size : Int) := by omega
  have i1 : (1 : Int) < (s.size : Int) := by omega
  go_enter Try.func15, Try.ntmps15
  go_wp2
  go_quiet (fail)
  go_wp2
  go_quiet (fail)
  go_wp2
  go_ret3
  exact ⟨rfl, _, World.drewN_drewN _ _ _⟩
theorem rnext_none (s : ByteArray) (hm : s.size ≤ 1000000) (hp : parse s.data.toList = none) (w : World) :
    Calls Try.prog 15 #[.string s] w fun e w' => e = .returned (.tuple #[.string ⟨#[]⟩, .string s, .bool false]) ∧ ∃ n, w' = w.drewN n := by
  have hlen : s.data.toList.length = s.size := Array.length_toList
  rcases parse_cases s.data.toList with ⟨h1, _⟩ | ⟨a, b, h0, h1, (⟨h2, _⟩ | ⟨_, h3⟩)⟩
  · exact rnext_short s (by omega) w
  · obtain ⟨_, e0⟩ := text_get s 0 a h0
    obtain ⟨k1, e1⟩ := text_get s 1 b h1
    exact rnext_not s a b hm (by omega) e0 e1 (by omega) w
  · rw [h3] at hp; cases hp
theorem rnext_some (s : ByteArray) (t r : List UInt8) (hm : s.size ≤ 1000000) (hp : parse s.data.toList = some (t, r)) (w : World) :
    Calls Try.prog 15 #[.string s] w fun e w' => e = .returned (.tuple #[.string ⟨t.toArray⟩, .string ⟨r.toArray⟩, .bool true]) ∧ ∃ n, w' = w.drewN n := by
  have hlen : s.data.toList.length = s.size := Array.length_toList
  rcases parse_cases s.data.toList with ⟨_, h1⟩ | ⟨a, b, h0, h1, (⟨_, h3⟩ | ⟨h2, h3⟩)⟩
  · rw [h1] at hp; cases hp
  · rw [h3] at hp; cases hp
  · rw [h3] at hp
    simp only [Option.some.injEq, Prod.mk.injEq] at hp
    obtain ⟨rfl, rfl⟩ := hp
    obtain ⟨_, e0⟩ := text_get s 0 a h0
    obtain ⟨k1, e1⟩ := text_get s 1 b h1
    have f1 : s.extract 2 (2 + num a b) = ⟨((s.data.toList.drop 2).take (num a b)).toArray⟩ := ba_eq (by rw [extract_list]; simp)
    have f2 : s.extract (2 + num a b) s.size = ⟨((s.data.toList.drop 2).drop (num a b)).toArray⟩ := ba_eq (by
      rw [extract_list, List.drop_drop]
      show _ = s.data.toList.drop (2 + num a b)
      rw [List.take_of_length_le (by simp)])
    rw [← f1, ← f2]
    exact rnext_all s a b hm (by omega) e0 e1 (by omega) w
end Go.Proofs.Ytnfabjaabhmjjaa
