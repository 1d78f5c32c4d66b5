/-
  A state of eight numbers, one round, a block's rounds. No walk here.
-/
import Derived.Test.YtkoeaejfkgapcaaDoorRexp
namespace Go.Proofs.YtkoeaejfkgapcaaDoor
open Go.RowKit
set_option linter.unusedVariables false

def kL : List (BitVec 32) := [1116352408#32, 1899447441#32, 3049323471#32, 3921009573#32, 961987163#32, 1508970993#32, 2453635748#32, 2870763221#32, 3624381080#32, 310598401#32, 607225278#32, 1426881987#32, 1925078388#32, 2162078206#32, 2614888103#32, 3248222580#32, 3835390401#32, 4022224774#32, 264347078#32, 604807628#32, 770255983#32, 1249150122#32, 1555081692#32, 1996064986#32, 2554220882#32, 2821834349#32, 2952996808#32, 3210313671#32, 3336571891#32, 3584528711#32, 113926993#32, 338241895#32, 666307205#32, 773529912#32, 1294757372#32, 1396182291#32, 1695183700#32, 1986661051#32, 2177026350#32, 2456956037#32, 2730485921#32, 2820302411#32, 3259730800#32, 3345764771#32, 3516065817#32, 3600352804#32, 4094571909#32, 275423344#32, 430227734#32, 506948616#32, 659060556#32, 883997877#32, 958139571#32, 1322822218#32, 1537002063#32, 1747873779#32, 1955562222#32, 2024104815#32, 2227730452#32, 2361852424#32, 2428436474#32, 2756734187#32, 3204031479#32, 3329325298#32]
def Kt (t : Nat) : BitVec 32 := kL.getD t 0#32

structure St where
  a : BitVec 32
  b : BitVec 32
  c : BitVec 32
  d : BitVec 32
  e : BitVec 32
  f : BitVec 32
  g : BitVec 32
  h : BitVec 32
def St.get (s : St) : Nat → BitVec 32
  | 0 => s.a | 1 => s.b | 2 => s.c | 3 => s.d | 4 => s.e | 5 => s.f | 6 => s.g | _ => s.h
def St.of (H : Nat → BitVec 32) : St := ⟨H 0, H 1, H 2, H 3, H 4, H 5, H 6, H 7⟩
def St.one (s : St) (k x : BitVec 32) : BitVec 32 := s.h + turned s.e 6 11 25 + ((s.e &&& s.f) ^^^ (~~~s.e &&& s.g)) + k + x
def St.two (s : St) : BitVec 32 := turned s.a 2 13 22 + ((s.a &&& s.b) ^^^ (s.a &&& s.c) ^^^ (s.b &&& s.c))
def St.step (s : St) (k x : BitVec 32) : St := ⟨s.one k x + s.two, s.a, s.b, s.c, s.d + s.one k x, s.e, s.f, s.g⟩
def stTo (K X : Nat → BitVec 32) (s : St) : Nat → St
  | 0 => s
  | t + 1 => (stTo K X s t).step (K t) (X t)
/-- A state behind a block. -/
def comp (H W : Nat → BitVec 32) (i : Nat) : BitVec 32 := H i + (stTo Kt (sched W) (St.of H) 64).get i

theorem row8 (X : Nat → BitVec 32) : row 8 X 8 = #[U (X 0), U (X 1), U (X 2), U (X 3), U (X 4), U (X 5), U (X 6), U (X 7)] := rfl
theorem row8_st (s : St) : row 8 s.get 8 = #[U s.a, U s.b, U s.c, U s.d, U s.e, U s.f, U s.g, U s.h] := rfl
/-- H's first k put to S's, the others H's. -/
def mixTo (H S : Nat → BitVec 32) (k i : Nat) : BitVec 32 := if i < k then H i + S i else H i
theorem row_mix (H S : Nat → BitVec 32) (k : Nat) (h : k < 8) : (row 8 (mixTo H S k) 8).setIfInBounds k (U (H k + S k)) = row 8 (mixTo H S (k + 1)) 8 := by
  apply Array.ext
  · simp [row]
  · intro i h1 h2
    have hi : i < 8 := by simpa [row] using h2
    rw [Array.getElem_setIfInBounds (by simpa [row] using hi)]
    by_cases e : k = i
    · subst e; simp [row, mixTo, hi]
    · have : (i < k + 1) = (i < k) := by simp; omega
      simp [row, mixTo, e, hi, this]

theorem zero28 (w : World) : (zeroValue 28).run Tryd.prog w = .ok (.agg (Array.replicate 8 (.int .u32 0))) w := by kernel_rfl

/-- The table lies in its place. -/
def TabIn (w : World) : Prop := ∀ i, i < 64 → w.cell? ⟨0, i, none⟩ = some (U (Kt i))
theorem TabIn.lt {w : World} (h : TabIn w) : 0 < w.heap.size := block_lt_of_cell (h 0 (by decide))
theorem TabIn.later {w w' : World} (h : TabIn w) (hb : Below w.heap.size w w') : TabIn w' := fun i hi => (hb.cell (p := ⟨0, i, none⟩) h.lt).trans (h i hi)

theorem sum5 (a b c d e : BitVec 32) : ((a.toNat : Int) + b.toNat + c.toNat + d.toNat + e.toNat) % 4294967296 = ((a + b + c + d + e).toNat : Int) := by
  rw [BitVec.toNat_add, BitVec.toNat_add, BitVec.toNat_add, BitVec.toNat_add]; omega
end Go.Proofs.YtkoeaejfkgapcaaDoor
