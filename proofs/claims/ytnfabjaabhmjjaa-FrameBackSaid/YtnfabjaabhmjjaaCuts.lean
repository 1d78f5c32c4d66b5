/-
  Texts put one behind the other, and cut anew. No program here.
-/
import Derived.Test.YtnfabjaabhmjjaaPure
namespace Go.Proofs.Ytnfabjaabhmjjaa

/-- Texts with their lengths ahead, one behind the other. -/
def Fl (ts : List (List UInt8)) : List UInt8 := (ts.map enc).flatten
/-- Where the k-th ends. -/
def En (ts : List (List UInt8)) (k : Nat) : Nat := (Fl (ts.take k)).length
/-- What is left where k have been told and so many bytes fed. -/
def Dt (ts : List (List UInt8)) (k at' : Nat) : List UInt8 := ((Fl ts).take at').drop (En ts k)

theorem Fl_append (a b : List (List UInt8)) : Fl (a ++ b) = Fl a ++ Fl b := by simp [Fl]
theorem Fl_snoc (a : List (List UInt8)) (t : List UInt8) : Fl (a ++ [t]) = Fl a ++ enc t := by simp [Fl]
theorem En_zero (ts : List (List UInt8)) : En ts 0 = 0 := by simp [En, Fl]
theorem En_succ (ts : List (List UInt8)) (k : Nat) (t : List UInt8) (h : ts[k]? = some t) : En ts (k + 1) = En ts k + t.length + 2 := by
  obtain ⟨hk, e⟩ := List.getElem?_eq_some_iff.1 h
  unfold En
  rw [List.take_succ_eq_append_getElem hk, e, Fl_snoc, List.length_append, enc_length]; omega
theorem En_all (ts : List (List UInt8)) : En ts ts.length = (Fl ts).length := by simp [En]
theorem Fl_split (ts : List (List UInt8)) (k : Nat) (t : List UInt8) (h : ts[k]? = some t) : (Fl ts).drop (En ts k) = enc t ++ Fl (ts.drop (k + 1)) ∧ (Fl ts).drop (En ts (k + 1)) = Fl (ts.drop (k + 1)) := by
  obtain ⟨hk, e⟩ := List.getElem?_eq_some_iff.1 h
  have h1 : ∀ j, Fl ts = Fl (ts.take j) ++ Fl (ts.drop j) := fun j => by rw [← Fl_append, List.take_append_drop]
  have h2 : ∀ j, (Fl ts).drop (En ts j) = Fl (ts.drop j) := fun j => by
    unfold En; conv => lhs; rw [h1 j]
    simp
  refine ⟨?_, h2 (k + 1)⟩
  rw [h2 k, ← List.getElem_cons_drop hk, e]; simp [Fl]
theorem En_le (ts : List (List UInt8)) (k : Nat) : En ts k ≤ (Fl ts).length := by
  have h1 : Fl ts = Fl (ts.take k) ++ Fl (ts.drop k) := by rw [← Fl_append, List.take_append_drop]
  unfold En; rw [h1, List.length_append]; omega
/-- A text whose last byte was fed is told. -/
theorem Dt_some (ts : List (List UInt8)) (k at' : Nat) (t : List UInt8) (h : ts[k]? = some t) (ht : t.length ≤ 65535) (he : En ts (k + 1) ≤ at') : parse (Dt ts k at') = some (t, Dt ts (k + 1) at') := by
  obtain ⟨h1, h2⟩ := Fl_split ts k t h
  have h3 := En_succ ts k t h
  have hl := enc_length t
  unfold Dt
  rw [List.drop_take, List.drop_take, h1, h2]
  have e : at' - En ts k = (enc t).length + (at' - En ts (k + 1)) := by omega
  rw [e, List.take_length_add_append, parse_enc t _ ht]
/-- Before that none is. -/
theorem Dt_none (ts : List (List UInt8)) (k at' : Nat) (ht : ∀ t ∈ ts, t.length ≤ 65535) (h : ts.length ≤ k ∨ (k < ts.length ∧ at' < En ts (k + 1))) : parse (Dt ts k at') = none := by
  rcases h with h | ⟨hk, he⟩
  · have : Dt ts k at' = [] := by
      unfold Dt
      rw [show En ts k = (Fl ts).length from by unfold En; rw [List.take_of_length_le h]]
      exact List.drop_eq_nil_of_le (by simp; omega)
    rw [this]; rfl
  · obtain ⟨t, h⟩ : ∃ t, ts[k]? = some t := ⟨ts[k], by simp [hk]⟩
    obtain ⟨h1, h2⟩ := Fl_split ts k t h
    have h3 := En_succ ts k t h
    have hl := enc_length t
    unfold Dt
    rw [List.drop_take, h1]
    have hs : at' - En ts k < (enc t).length ∨ at' - En ts k = 0 := by omega
    have hle : at' - En ts k ≤ (enc t).length := by omega
    rw [List.take_append_of_le_length hle]
    refine parse_short t _ (ht t (List.mem_of_getElem? h)) (by simp; omega) (List.take_prefix _ _)
theorem Dt_feed (ts : List (List UInt8)) (k at' n : Nat) (h : En ts k ≤ at') : Dt ts k at' ++ ((Fl ts).drop at').take n = Dt ts k (at' + n) := by
  unfold Dt
  rw [List.drop_take, List.drop_take, show at' + n - En ts k = (at' - En ts k) + n by omega, List.take_add]
  congr 1
  rw [List.drop_drop, show En ts k + (at' - En ts k) = at' by omega]
theorem Dt_length (ts : List (List UInt8)) (k at' : Nat) : (Dt ts k at').length ≤ (Fl ts).length := by
  unfold Dt; simp; omega
theorem Dt_end (ts : List (List UInt8)) : Dt ts ts.length (Fl ts).length = [] := by
  unfold Dt; rw [En_all]; simp
end Go.Proofs.Ytnfabjaabhmjjaa
