/- A collector's state, and its steps: plain. -/
import Derived.Test.YthaicpjgmplgcaaSweep2
namespace Go.Proofs.Ythaicpjgmplgcaa
set_option linter.unusedVariables false

structure Cy where
  N : Nat
  room : Int
  ph : Nat
  ep : Int
  mr : Mk
  pg : Nat

def mkNew (N : Nat) (room : Int) : Mk := ⟨N, fun _ => false, fun _ => false, [], roomOf room, false⟩
def Cy.pages (c : Cy) : Nat := (c.N + 7) / 8
def Cy.begin_ (c : Cy) (roots black : List Int) : Cy := if c.ph = 0 then { c with ph := 1, ep := c.ep + 1, mr := roots.foldl Mk.shade (black.foldl Mk.black (mkNew c.N c.room)) } else c
def Cy.shades (c : Cy) (b : Int) : Bool := (decide (c.ph = 1) || decide (c.ph = 2)) && offB c.mr.n c.mr.m b
def Cy.shade (c : Cy) (b : Int) : Cy := if c.shades b then { c with ph := 1, mr := c.mr.shade b } else c
def Cy.allocs (c : Cy) (b : Int) : Bool := decide (c.ph ≠ 0) && offB c.mr.n c.mr.m b
def Cy.alloc (c : Cy) (b : Int) : Cy := if c.ph ≠ 0 then { c with mr := c.mr.black b } else c
def Cy.marked (c : Cy) (b : Int) : Bool := decide (c.ph ≠ 0) && bitI c.mr.n c.mr.m b
def Cy.step (c : Cy) (refs : Int → List Int) : Cy :=
  if c.ph = 1 then { c with ph := (if c.mr.done then 2 else 1), mr := c.mr.step refs }
  else if c.ph = 2 then { c with ph := 3, pg := 0 }
  else if c.ph = 3 then { c with ph := (if c.pages ≤ c.pg + 1 then 0 else 3), pg := c.pg + 1 }
  else c
def Cy.weaks (c : Cy) (ws : List Int) : List Int := if c.ph = 2 then weakL ws (bitI c.mr.n c.mr.m) else []
def Cy.blocks (c : Cy) (u : Int → Bool) : List Int := if c.ph = 3 then pageL c.N u (bitI c.mr.n c.mr.m) c.pg else []

/-- What holds of a collector between its calls. -/
structure CyOk (c : Cy) : Prop where
  ph : c.ph ≤ 3
  ok : c.ph ≠ 0 → Ok c.mr ∧ c.mr.n = c.N
  pg : c.pg ≤ 100
  N : c.N ≤ 160

theorem blacks_same (l : List Int) (x : Mk) : (l.foldl Mk.black x).n = x.n ∧ (Ok x → Ok (l.foldl Mk.black x)) := by
  induction l generalizing x with
  | nil => exact ⟨rfl, fun h => h⟩
  | cons b l ih =>
    obtain ⟨h1, h2⟩ := ih (x.black b)
    exact ⟨h1.trans (black_same x b), fun h => h2 (ok_black h b)⟩
theorem mkNew_ok (N : Nat) (room : Int) : Ok (mkNew N room) := ok_new N _ (roomOf_pos room)
theorem begun_ok (N : Nat) (room : Int) (roots black : List Int) : Ok (roots.foldl Mk.shade (black.foldl Mk.black (mkNew N room))) ∧ (roots.foldl Mk.shade (black.foldl Mk.black (mkNew N room))).n = N := by
  obtain ⟨h1, h2⟩ := blacks_same black (mkNew N room)
  have h3 := h2 (mkNew_ok N room)
  exact ⟨shades_ok roots _ h3, (shades_same roots _).1.trans h1⟩
theorem CyOk.begin_ {c : Cy} (h : CyOk c) (roots black : List Int) : CyOk (c.begin_ roots black) := by
  unfold Cy.begin_
  split
  · exact ⟨(by decide : 1 ≤ 3), fun _ => begun_ok _ _ _ _, h.pg, h.N⟩
  · exact h
theorem CyOk.shade {c : Cy} (h : CyOk c) (b : Int) : CyOk (c.shade b) := by
  unfold Cy.shade
  split
  · rename_i hs
    unfold Cy.shades at hs
    simp only [Bool.and_eq_true, Bool.or_eq_true, decide_eq_true_eq] at hs
    obtain ⟨h1, h2⟩ := h.ok (by omega)
    exact ⟨(by decide : 1 ≤ 3), fun _ => ⟨ok_shade h1 b, (shade_same c.mr b).1.trans h2⟩, h.pg, h.N⟩
  · exact h
theorem CyOk.alloc {c : Cy} (h : CyOk c) (b : Int) : CyOk (c.alloc b) := by
  unfold Cy.alloc
  split
  · rename_i hs
    obtain ⟨h1, h2⟩ := h.ok hs
    exact ⟨h.ph, fun _ => ⟨ok_black h1 b, (black_same c.mr b).trans h2⟩, h.pg, h.N⟩
  · exact h
end Go.Proofs.Ythaicpjgmplgcaa
