/- A marker's state, and its steps: plain. -/
import Derived.Test.YthaicpjgmplgcaaBitF
import Derived.Test.YthaicpjgmplgcaaGrey
namespace Go.Proofs.Ythaicpjgmplgcaa
set_option linter.unusedVariables false

/-- What a marker holds: n blocks; those marked, those scanned; the stack, the last behind; its room; whether it has overflown. -/
structure Mk where
  n : Nat
  m : Nat → Bool
  s : Nat → Bool
  l : List Int
  room : Nat
  over : Bool

def Mk.push (x : Mk) (b : Int) : Mk := { x with l := pushL x.l x.room b, over := x.over || !decide (x.l.length < x.room) }
/-- Is b a block whose bit in f is 0? -/
def offB (n : Nat) (f : Nat → Bool) (b : Int) : Bool := decide (0 ≤ b ∧ b < n) && (f b.toNat != true)
def Mk.shade (x : Mk) (b : Int) : Mk := if offB x.n x.m b then ({ x with m := setF x.m b true } : Mk).push b else x
def Mk.black (x : Mk) (b : Int) : Mk := if offB x.n x.m b then { x with m := setF x.m b true, s := setF x.s b true } else x
def Mk.againTo (x : Mk) (b : Nat) : Nat → Mk
  | 0 => x
  | d + 1 => if x.m b && !x.s b then (if x.l.length < x.room then Mk.againTo (x.push b) (b + 1) d else x.push b) else Mk.againTo x (b + 1) d
def Mk.again (x : Mk) : Mk := Mk.againTo { x with over := false } 0 x.n
def Mk.done (x : Mk) : Bool := x.l.isEmpty && !x.over
def Mk.scan (x : Mk) (b : Int) (rs : List Int) : Mk := if offB x.n x.s b then rs.foldl Mk.shade { x with s := setF x.s b true } else x
def Mk.step (x : Mk) (refs : Int → List Int) : Mk :=
  if x.done then x else if x.l.isEmpty then x.again else ({ x with l := x.l.dropLast } : Mk).scan (x.l.getLastD 0) (refs (x.l.getLastD 0))

theorem againTo_skip (x : Mk) (b i : Nat) (d : Nat) (h : b ≤ i) (hd : i ≤ b + d) (hm : ∀ j, b ≤ j → j < i → x.m j = false) : x.againTo b d = x.againTo i (d - (i - b)) := by
  induction d generalizing b with
  | zero =>
    have : i = b := by omega
    subst this
    rw [show 0 - (i - i) = 0 from by omega]
  | succ d ih =>
    by_cases e : i = b
    · subst e
      simp
    · have h1 : x.againTo b (d + 1) = x.againTo (b + 1) d := by
        have := hm b (Nat.le_refl _) (by omega)
        show (if x.m b && !x.s b then _ else _) = _
        rw [this]
        rfl
      rw [h1, ih (b + 1) (by omega) (by omega) (fun j h2 h3 => hm j (by omega) h3)]
      congr 1
      omega
theorem againTo_none (x : Mk) (b d : Nat) (hm : ∀ j, b ≤ j → j < b + d → x.m j = false) : x.againTo b d = x := by
  rw [againTo_skip x b (b + d) d (by omega) (Nat.le_refl _) hm]
  rw [show d - (b + d - b) = 0 from by omega]
  rfl
theorem againTo_at (x : Mk) (b d : Nat) (hm : x.m b = true) : x.againTo b (d + 1) = if x.s b then x.againTo (b + 1) d else if x.l.length < x.room then (x.push b).againTo (b + 1) d else x.push b := by
  show (if x.m b && !x.s b then _ else _) = _
  rw [hm]
  cases x.s b <;> rfl
end Go.Proofs.Ythaicpjgmplgcaa
