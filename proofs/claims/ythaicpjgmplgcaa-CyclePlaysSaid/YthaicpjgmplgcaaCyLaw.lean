/- Laws of chapter 21: a collection's run, plain, and its step over a table. -/
import Derived.Test.YthaicpjgmplgcaaAwake21
namespace Go.Proofs.Ythaicpjgmplgcaa
open Go.RowKit Go.ChangeShapes Go.WideShapes
set_option linter.unusedVariables false

/-- How many steps are left at most. -/
def potN (P : Nat) (mr : Mk) (pg : Nat) : Nat → Nat
  | 1 => (if mr.done then 0 else mr.phi) + 2 + P
  | 2 => 1 + P
  | 3 => P - pg
  | _ => 0
def Cy.pot (P : Nat) (c : Cy) : Nat := potN P c.mr c.pg c.ph
/-- How many pages are swept. -/
def sweptN (P pg : Nat) : Nat → Nat
  | 3 => pg
  | 0 => P
  | _ => 0
def Cy.swept (P : Nat) (c : Cy) : Nat := sweptN P c.pg c.ph
structure CyRun (P : Nat) (c : Cy) : Prop where
  pages : c.pages = P
  one : 1 ≤ P
  pg : c.pg ≤ P
  in3 : c.ph = 3 → c.pg < P
  le : c.ph ≤ 3

theorem step_pages (c : Cy) (refs : Int → List Int) : (c.step refs).pages = c.pages := by unfold Cy.pages; rw [cy_step_N]
theorem cy_step1 {c : Cy} (h : c.ph = 1) (refs : Int → List Int) : c.step refs = { c with ph := (if c.mr.done then 2 else 1), mr := c.mr.step refs } := by unfold Cy.step; rw [if_pos h]
theorem cy_step2 {c : Cy} (h : c.ph = 2) (refs : Int → List Int) : c.step refs = { c with ph := 3, pg := 0 } := by unfold Cy.step; rw [if_neg (by omega), if_pos h]
theorem cy_step3 {c : Cy} (h : c.ph = 3) (refs : Int → List Int) : c.step refs = { c with ph := (if c.pages ≤ c.pg + 1 then 0 else 3), pg := c.pg + 1 } := by unfold Cy.step; rw [if_neg (by omega), if_neg (by omega), if_pos h]
theorem cy_step0 {c : Cy} (h : c.ph = 0) (refs : Int → List Int) : c.step refs = c := by unfold Cy.step; rw [if_neg (by omega), if_neg (by omega), if_neg (by omega)]

theorem CyRun.step {P : Nat} {c : Cy} (h : CyRun P c) (refs : Int → List Int) : CyRun P (c.step refs) := by
  obtain ⟨N, room, ph, ep, mr, pg⟩ := c
  obtain ⟨hp, h1, h2, h3, h4⟩ := h
  have hpp := (step_pages ⟨N, room, ph, ep, mr, pg⟩ refs).trans hp
  simp only at h2 h3 h4
  have h5 : ph = 0 ∨ ph = 1 ∨ ph = 2 ∨ ph = 3 := by omega
  rcases h5 with rfl | rfl | rfl | rfl
  · exact ⟨hp, h1, h2, h3, h4⟩
  · rw [cy_step1 rfl] at hpp ⊢
    simp only at hpp ⊢
    cases mr.done
    · exact ⟨hpp, h1, h2, fun h => absurd h (by simp), (by simp)⟩
    · exact ⟨hpp, h1, h2, fun h => absurd h (by simp), (by simp)⟩
  · rw [cy_step2 rfl] at hpp ⊢
    exact ⟨hpp, h1, Nat.zero_le _, fun _ => h1, Nat.le_refl _⟩
  · have h3 := h3 rfl
    rw [cy_step3 rfl] at hpp ⊢
    simp only at hpp ⊢
    rw [hp] at hpp ⊢
    by_cases hx : P ≤ pg + 1
    · rw [if_pos hx] at hpp ⊢
      exact ⟨hpp, h1, h3, fun h => absurd h (by simp), Nat.zero_le _⟩
    · rw [if_neg hx] at hpp ⊢
      exact ⟨hpp, h1, h3, fun _ => by show pg + 1 < P; omega, Nat.le_refl _⟩
theorem CyRun.pot {P : Nat} {c : Cy} (h : CyRun P c) (hO : c.ph ≠ 0 → Ok c.mr) (refs : Int → List Int) (hp0 : c.ph ≠ 0) : (c.step refs).pot P < c.pot P := by
  obtain ⟨N, room, ph, ep, mr, pg⟩ := c
  obtain ⟨hp, h1, h2, h3, h4⟩ := h
  simp only at h2 h3 h4 hp0
  have h5 : ph = 1 ∨ ph = 2 ∨ ph = 3 := by omega
  rcases h5 with rfl | rfl | rfl
  · have hO := hO hp0
    simp only at hO
    rw [cy_step1 rfl]
    unfold Cy.pot
    simp only
    cases hd : mr.done
    · have := step_phi hO refs hd
      show (if (mr.step refs).done then 0 else (mr.step refs).phi) + 2 + P < (if mr.done then 0 else mr.phi) + 2 + P
      rw [hd]
      have : (if false = true then 0 else mr.phi) = mr.phi := rfl
      rw [this]
      split <;> omega
    · show 1 + P < (if mr.done then 0 else mr.phi) + 2 + P
      omega
  · show P - 0 < 1 + P
    omega
  · have h3 := h3 rfl
    rw [cy_step3 rfl, hp]
    unfold Cy.pot
    simp only
    by_cases hx : P ≤ pg + 1
    · rw [if_pos hx]
      show 0 < P - pg
      omega
    · rw [if_neg hx]
      show P - (pg + 1) < P - pg
      omega
theorem CyRun.swept {P : Nat} {c : Cy} (h : CyRun P c) (refs : Int → List Int) (hp0 : c.ph ≠ 0) : (c.step refs).swept P = c.swept P + (if c.ph = 3 then 1 else 0) := by
  obtain ⟨N, room, ph, ep, mr, pg⟩ := c
  obtain ⟨hp, h1, h2, h3, h4⟩ := h
  simp only at h2 h3 h4 hp0
  have h5 : ph = 1 ∨ ph = 2 ∨ ph = 3 := by omega
  rcases h5 with rfl | rfl | rfl
  · rw [cy_step1 rfl]
    simp only
    cases mr.done <;> rfl
  · rfl
  · have h3 := h3 rfl
    rw [cy_step3 rfl, hp]
    unfold Cy.swept
    simp only
    by_cases hx : P ≤ pg + 1
    · rw [if_pos hx]
      show P = pg + 1
      omega
    · rw [if_neg hx]
      rfl

/-- A collection that begins: what holds. -/
def cBeg (N : Nat) (room ep : Int) (mk : Mk) (pg : Nat) (roots black : List Int) : Cy := ⟨N, room, 1, ep + 1, roots.foldl Mk.shade (black.foldl Mk.black (mkNew N room)), pg⟩
theorem begin_is (N : Nat) (room ep : Int) (mk : Mk) (pg : Nat) (roots black : List Int) : (⟨N, room, 0, ep, mk, pg⟩ : Cy).begin_ roots black = cBeg N room ep mk pg roots black := by
  unfold Cy.begin_ cBeg
  rw [if_pos rfl]
theorem cBeg_run {N P : Nat} {room ep : Int} {mk : Mk} {pg : Nat} (roots black : List Int) (hP : (N + 7) / 8 = P) (hN : 1 ≤ N) (hp : pg ≤ P) : CyRun P (cBeg N room ep mk pg roots black) :=
  ⟨hP, by omega, hp, fun h => absurd h (by decide : ¬ (1 : Nat) = 3), (by decide : (1 : Nat) ≤ 3)⟩
theorem cBeg_pot (N P : Nat) (room ep : Int) (mk : Mk) (pg : Nat) (roots black : List Int) : (cBeg N room ep mk pg roots black).pot P ≤ 2 * N + P + 3 := by
  have h1 := begun_ok N room roots black
  have h2 := phi_le (roots.foldl Mk.shade (black.foldl Mk.black (mkNew N room)))
  rw [h1.2] at h2
  unfold cBeg
  generalize roots.foldl Mk.shade (black.foldl Mk.black (mkNew N room)) = x at *
  show (if x.done then 0 else x.phi) + 2 + P ≤ 2 * N + P + 3
  split <;> omega

/-- A step over a table of the law's own world. -/
theorem cyat_Step {W w w2 : World} {C L n0 n1 n2 n3 B b g : Nat} {f : Nat → Bool} {c : Cy} (h : CyAt W C L n0 n1 n2 n3 B b g f c w) (hpg : c.pg ≤ 50) {bx : Nat} {v : Value} {tt : List (List Int)} (hM : MatIn W v tt)
    (hl : tt.length ≤ 1000 ∧ ∀ l ∈ tt, l.length ≤ 1000) (hc : w2.cell? ⟨bx, 0, none⟩ = some v) (hb : w.heap.size ≤ bx) (u2 : Upd (fun _ => False) w w2) {wv : Value} {ws : List Int} (hws : ∀ w', Upd (InCy C B) w2 w' → IntsR w' wv .i64 ws) (hwl : ws.length ≤ 1000) :
    Calls Try.prog 36 #[.pointer (some ⟨C, 0, none⟩), refsFn bx, wv, .pointer (some ⟨b, 0, none⟩)] w2 (CyStep w2 C L n0 n1 n2 n3 B (c.weaks ws) (c.blocks (bitI c.N f)) (c.step (refsOf tt))) := by
  have h2 := h.still u2
  refine cyc_Step h2.cy hpg (fun _ j hj => h2.lt j (Or.inr hj)) (refsOf tt) (refsFn bx) (Or.inr ⟨_, _, _, rfl⟩) (fun hp w' u => ?_) hws hwl h2.gu
  obtain ⟨hO, hn⟩ := h2.cy.ok.ok (by omega)
  have hN := h2.cy.ok.N
  have hlt : ∀ j, InMk B j → j < w.heap.size := fun j hj => h.lt j (Or.inr hj)
  have hbx : bx < w2.heap.size := by
    have := hc
    unfold World.cell? at this
    cases hh : w2.heap[bx]? with
    | none => simp_all
    | some o => exact (Array.getElem?_eq_some_iff.1 hh).1
  have hc' : w'.cell? ⟨bx, 0, none⟩ = some v := (u.none.cell (p := ⟨bx, 0, none⟩) hbx).trans hc
  refine mark_Step_table B c.mr w' ((h2.cy.im (by omega)).still u) hO (by omega) bx v tt hc' (fun e => by have := hlt bx e; omega) (fun w3 u3 => hM.upd ((h2.up.trans u).own u3 (fun i e => by have := e.1; have := h.ge.2; omega)).none) hl.1 hl.2

end Go.Proofs.Ythaicpjgmplgcaa
