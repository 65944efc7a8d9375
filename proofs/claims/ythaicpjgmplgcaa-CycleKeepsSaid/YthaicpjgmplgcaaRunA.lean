/- Between two collections; a collector beside what the law turns. -/
import Derived.Test.YthaicpjgmplgcaaRunP
namespace Go.Proofs.Ythaicpjgmplgcaa
open Go.RowKit Go.ChangeShapes Go.WideShapes
set_option linter.unusedVariables false

/-- All blocks of a collector and of the map besides. -/
def InAll (C L B b g j : Nat) : Prop := InCy C B j ∨ j = L ∨ j = b ∨ j = g
section
variable {W w w' : World} {C L n0 n1 n2 n3 B b g : Nat} {f : Nat → Bool} {c d : Cy}
theorem CyAt.lts (h : CyAt W C L n0 n1 n2 n3 B b g f c w) : ∀ j, InAll C L B b g j → j < w.heap.size := fun j hj => by
  rcases hj with hj | rfl | rfl | rfl
  · exact h.lt j hj
  · exact h.cy.ltL
  · exact h.u.lt.1
  · exact h.u.lt.2
theorem CyAt.aside (h : CyAt W C L n0 n1 n2 n3 B b g f c w) {S : Nat → Prop} (u : Upd S w w') (hS : ∀ j, InAll C L B b g j → ¬ S j) (hW : ∀ j, S j → W.heap.size ≤ j) : CyAt W C L n0 n1 n2 n3 B b g f c w' :=
  ⟨h.cy.upd u (hS _ (Or.inl (Or.inl rfl))) (hS _ (Or.inr (Or.inl rfl))) (fun k hk => hS _ (Or.inl (Or.inr hk))), h.u.upd u (hS _ (Or.inr (Or.inr (Or.inl rfl)))) (hS _ (Or.inr (Or.inr (Or.inr rfl)))), h.nb, h.ng, h.up.own u hW, h.ge, fun j hj => Nat.lt_of_lt_of_le (h.lt j hj) u.size⟩
end

structure CyIdle (W : World) (C L N b g : Nat) (f : Nat → Bool) (c : Cy) (w : World) : Prop where
  cy : ∃ B, IsCy w C L N 0 0 0 B c
  ph : c.ph = 0
  u : MapF w b g N f
  ne : b ≠ C ∧ g ≠ C
  up : Upd (fun _ => False) W w
  ge : W.heap.size ≤ C
theorem CyAt.idle {W w : World} {C L N B b g : Nat} {f : Nat → Bool} {c : Cy} (h : CyAt W C L N 0 0 0 B b g f c w) (hp : c.ph = 0) : CyIdle W C L N b g f c w :=
  ⟨⟨B, h.cy⟩, hp, by have := h.u; have e : sumN N 0 0 0 = c.N := h.cy.n; rw [← e] at this; exact this, ⟨fun e => h.nb (Or.inl e), fun e => h.ng (Or.inl e)⟩, h.up, h.ge.1⟩
theorem CyIdle.still {W w w' : World} {C L N b g : Nat} {f : Nat → Bool} {c : Cy} (h : CyIdle W C L N b g f c w) (u : Upd (fun _ => False) w w') : CyIdle W C L N b g f c w' := by
  obtain ⟨⟨B, h1⟩, h2, h3, h4, h5, h6⟩ := h
  exact ⟨⟨B, h1.still u⟩, h2, h3.upd u (fun x => x) (fun x => x), h4, h5.trans u, h6⟩

def IdleBegin (W : World) (C L N b g : Nat) (f : Nat → Bool) (d : Cy) (e : Ending) (w' : World) : Prop := e = .returned (.bool true) ∧ ∃ B, CyAt W C L N 0 0 0 B b g f d w'
theorem idle_Begin {W w : World} {C L N b g : Nat} {f : Nat → Bool} {c : Cy} (h : CyIdle W C L N b g f c w) (he : 0 ≤ c.ep ∧ c.ep ≤ 1000000) (v1 : Value) (roots : List Int) (hI : IntsIn W v1 .i64 roots) (hl : roots.length ≤ 100000) :
    Calls Try.prog 33 #[.pointer (some ⟨C, 0, none⟩), v1, .slice none 0 0] w (IdleBegin W C L N b g f (cBeg N c.room c.ep c.mr c.pg roots [])) := by
  obtain ⟨⟨B, h1⟩, h2, h3, h4, h5, h6⟩ := h
  have hup : ∀ w', Upd (fun j => j = C) w w' → Upd (fun _ => False) W w' := fun w' k => h5.own k (fun i e => by rw [e]; exact h6)
  have hn : sumN N 0 0 0 = c.N := h1.n
  have hn : N = c.N := hn
  have hCl := h1.lt
  refine (cyc_Begin h1 h2 he v1 (.slice none 0 0) roots [] (hI.upd h5.none).1 ⟨none, 0, rfl, Nat.le_refl _, Nat.zero_le _, fun h => absurd h (Nat.lt_irrefl _)⟩ (fun w' k => ⟨(hI.upd (hup w' k).none).1, ⟨none, 0, rfl, Nat.le_refl _, Nat.zero_le _, fun h => absurd h (Nat.lt_irrefl _)⟩⟩) hl (by decide)).mono ?_
  rintro e w' ⟨rfl, B', k1, k2, k3⟩
  obtain ⟨N', room, ph, ep, mk, pg⟩ := c
  simp only at h2 hn
  subst h2 hn
  rw [begin_is] at k1
  have hlt := h3.lt
  have hW := h5.size
  exact ⟨rfl, B', k1, h3.upd k3 h4.1 h4.2, fun e => e.elim h4.1 (fun e => by have := e.1; omega), fun e => e.elim h4.2 (fun e => by have := e.1; omega), hup w' k3, ⟨h6, by omega⟩, k1.bd (by unfold cBeg; simp)⟩

theorem cy_step_ep (c : Cy) (refs : Int → List Int) : (c.step refs).ep = c.ep := by
  unfold Cy.step
  split
  · rfl
  · split
    · rfl
    · split <;> rfl
theorem Col.len {N P : Nat} {refs : Int → List Int} {fr : List Int} {D : Nat → Bool} {ws : List Int} {u : Int → Bool} {c : Cy} {gone weak : List Int} (h : Col N P refs fr D ws u c gone weak) : gone.length ≤ N + 8 * P ∧ weak.length ≤ ws.length := by
  have h1 := h.gone
  have h2 := h.weak
  have hle := h.run.le
  have hpg := h.run.pg
  rw [h1, h2]
  generalize c.ph = p at *
  have h5 : p = 0 ∨ p = 1 ∨ p = 2 ∨ p = 3 := by omega
  have k1 := tk_len N u (bitI N c.mr.m) N
  have k2 := tk_len N u (bitI N c.mr.m) (8 * c.pg)
  have k3 := weakTo_len ws (bitI N c.mr.m) ws.length
  rcases h5 with rfl | rfl | rfl | rfl
  · exact ⟨Nat.le_trans k1 (by omega), k3⟩
  · exact ⟨Nat.zero_le _, Nat.zero_le _⟩
  · exact ⟨Nat.zero_le _, Nat.zero_le _⟩
  · exact ⟨Nat.le_trans k2 (by omega), k3⟩
theorem weaks_nil (c : Cy) : c.weaks [] = [] := by
  unfold Cy.weaks
  split <;> rfl
theorem Cy.at0 {c : Cy} (h : c.ph = 0) (ws : List Int) (u : Int → Bool) (refs : Int → List Int) (b : Int) : c.weaks ws = [] ∧ c.blocks u = [] ∧ c.step refs = c ∧ c.marked b = false ∧ c.shades b = false ∧ c.shade b = c ∧ c.allocs b = false ∧ c.alloc b = c := by
  obtain ⟨N, room, ph, ep, mk, pg⟩ := c
  simp only at h
  subst h
  exact ⟨rfl, rfl, rfl, rfl, rfl, rfl, rfl, rfl⟩
end Go.Proofs.Ythaicpjgmplgcaa
