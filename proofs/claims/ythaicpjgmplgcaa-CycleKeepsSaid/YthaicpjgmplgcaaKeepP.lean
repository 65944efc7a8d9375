/- What is shaded and what is laid stays marked: plain. -/
import Derived.Test.YthaicpjgmplgcaaRunA
import Derived.Maps.OwnOps
import Derived.Maps.Ext
namespace Go.Proofs.Ythaicpjgmplgcaa
open Go.RowKit Go.Maps
set_option linter.unusedVariables false

theorem setF_mono (f : Nat → Bool) (k : Int) (i : Nat) (h : f i = true) : setF f k true i = true := by
  rw [setF_at]
  split
  · rfl
  · exact h
theorem black_mono (x : Mk) (b : Int) (i : Nat) (h : x.m i = true) : (x.black b).m i = true := by
  unfold Mk.black
  split
  · exact setF_mono _ _ _ h
  · exact h
theorem black_marks (x : Mk) (b : Int) (h0 : 0 ≤ b) (h1 : b < x.n) : (x.black b).m b.toNat = true := by
  unfold Mk.black
  split
  · show setF x.m b true b.toNat = true
    rw [setF_at, if_pos (by omega)]
  · rename_i h
    unfold offB at h
    simpa [h0, h1] using h

/-- All of S that there is is marked. -/
def KeepIn (S : List Int) (c : Cy) : Prop := ∀ x ∈ S, 0 ≤ x → x < c.N → c.mr.m x.toNat = true
theorem keep_nil (c : Cy) : KeepIn [] c := fun x hx => by simp at hx
theorem KeepIn.step {S : List Int} {c : Cy} (hok : c.ph ≠ 0 → Ok c.mr) (h : KeepIn S c) (refs : Int → List Int) : KeepIn S (c.step refs) := by
  intro x hx h0 h1
  rw [cy_step_N] at h1
  have := h x hx h0 h1
  by_cases p1 : c.ph = 1
  · rw [cy_step1 p1]
    exact step_mono (hok (by omega)) refs _ this
  · by_cases p2 : c.ph = 2
    · rw [cy_step2 p2]; exact this
    · by_cases p3 : c.ph = 3
      · rw [cy_step3 p3]; exact this
      · unfold Cy.step
        rw [if_neg p1, if_neg p2, if_neg p3]
        exact this
theorem shade_N (c : Cy) (b : Int) : (c.shade b).N = c.N := by
  unfold Cy.shade
  split <;> rfl
theorem alloc_N (c : Cy) (b : Int) : (c.alloc b).N = c.N := by
  unfold Cy.alloc
  split <;> rfl
theorem KeepIn.shade {S : List Int} {c : Cy} (h : KeepIn S c) (b : Int) : KeepIn S (c.shade b) := by
  intro x hx h0 h1
  rw [shade_N] at h1
  have := h x hx h0 h1
  unfold Cy.shade
  split
  · exact shade_mono _ _ _ this
  · exact this
theorem KeepIn.shaded {S : List Int} {c : Cy} (hn : c.mr.n = c.N) (h : KeepIn S c) (b : Int) (hp : c.ph = 1 ∨ c.ph = 2) : KeepIn (b :: S) (c.shade b) := by
  intro x hx h0 h1
  rcases List.mem_cons.1 hx with rfl | hx
  · rw [shade_N] at h1
    have hp' : (decide (c.ph = 1) || decide (c.ph = 2)) = true := by rcases hp with e | e <;> simp [e]
    unfold Cy.shade
    split
    · exact shade_marks _ _ h0 (by omega)
    · rename_i hs
      unfold Cy.shades at hs
      rw [hp', Bool.true_and] at hs
      unfold offB at hs
      have h2 : x < c.mr.n := by omega
      simpa [h0, h2] using hs
  · exact h.shade b x hx h0 h1
theorem KeepIn.alloc {S : List Int} {c : Cy} (h : KeepIn S c) (b : Int) : KeepIn S (c.alloc b) := by
  intro x hx h0 h1
  rw [alloc_N] at h1
  have := h x hx h0 h1
  unfold Cy.alloc
  split
  · exact black_mono _ _ _ this
  · exact this
theorem KeepIn.laid {S : List Int} {c : Cy} (hn : c.mr.n = c.N) (h : KeepIn S c) (b : Int) (hp : c.ph ≠ 0) : KeepIn (b :: S) (c.alloc b) := by
  intro x hx h0 h1
  rcases List.mem_cons.1 hx with rfl | hx
  · rw [alloc_N] at h1
    unfold Cy.alloc
    rw [if_pos hp]
    exact black_marks _ _ h0 (by omega)
  · exact h.alloc b x hx h0 h1
theorem mem_pageTo {N : Nat} {u m : Int → Bool} {p : Nat} (i : Nat) {y : Int} (h : y ∈ pageTo N u m p i) : 0 ≤ y ∧ y < N ∧ m y = false := by
  induction i with
  | zero => simp [pageTo] at h
  | succ i ih =>
    simp only [pageTo, List.mem_append] at h
    rcases h with h | h
    · exact ih h
    · split at h
      · rename_i ht
        unfold takeB at ht
        simp only [Bool.and_eq_true, decide_eq_true_eq, Bool.not_eq_true'] at ht
        simp only [List.mem_cons, List.not_mem_nil, or_false] at h
        subst h
        exact ⟨by omega, by omega, ht.2.2⟩
      · simp at h
theorem KeepIn.blocks {S : List Int} {c : Cy} (hn : c.ph ≠ 0 → c.mr.n = c.N) (h : KeepIn S c) (u : Int → Bool) : ∀ y ∈ c.blocks u, y ∉ S := by
  intro y hy hS
  unfold Cy.blocks at hy
  split at hy
  · rename_i h3
    have hn := hn (by omega)
    unfold pageL at hy
    split at hy
    · simp at hy
    · obtain ⟨h0, h1, h2⟩ := mem_pageTo 8 hy
      have h4 := h y hS h0 h1
      unfold bitI at h2
      rw [h4] at h2
      simp at h2
      omega
  · simp at hy
/-- The steps that are left are few. -/
theorem CyRun.few {P : Nat} {c : Cy} (h : CyRun P c) (hn : c.ph ≠ 0 → c.mr.n = c.N) : c.pot P ≤ 2 * c.N + P + 3 := by
  obtain ⟨N, room, ph, ep, mr, pg⟩ := c
  have hle : ph ≤ 3 := h.le
  have hph := phi_le mr
  have h4 : ph = 0 ∨ ph = 1 ∨ ph = 2 ∨ ph = 3 := by omega
  unfold Cy.pot
  simp only at hn ⊢
  rcases h4 with rfl | rfl | rfl | rfl
  · show 0 ≤ _
    omega
  · have := hn (by decide)
    show (if mr.done then 0 else mr.phi) + 2 + P ≤ _
    split <;> omega
  · show 1 + P ≤ _
    omega
  · show P - pg ≤ _
    omega
theorem CyRun.shade {P : Nat} {c : Cy} (h : CyRun P c) (b : Int) : CyRun P (c.shade b) := by
  obtain ⟨h1, h2, h3, h4, h5⟩ := h
  unfold Cy.shade
  split
  · exact ⟨h1, h2, h3, fun e => absurd e (by decide : ¬ (1 : Nat) = 3), (by decide : (1 : Nat) ≤ 3)⟩
  · exact ⟨h1, h2, h3, h4, h5⟩
theorem CyRun.alloc {P : Nat} {c : Cy} (h : CyRun P c) (b : Int) : CyRun P (c.alloc b) := by
  obtain ⟨h1, h2, h3, h4, h5⟩ := h
  unfold Cy.alloc
  split
  · exact ⟨h1, h2, h3, h4, h5⟩
  · exact ⟨h1, h2, h3, h4, h5⟩
theorem alloc_ph (c : Cy) (b : Int) : (c.alloc b).ph = c.ph := by
  unfold Cy.alloc
  split <;> rfl
/-- What a run that keeps S comes to. -/
structure Kept (N P : Nat) (S : List Int) (c : Cy) : Prop where
  run : CyRun P c
  ok : CyOk c
  n : c.N = N
  keep : KeepIn S c
theorem Kept.mn {N P : Nat} {S : List Int} {c : Cy} (h : Kept N P S c) : c.ph ≠ 0 → c.mr.n = c.N := fun hp => (h.ok.ok hp).2
theorem Kept.shade {N P : Nat} {S : List Int} {c : Cy} (h : Kept N P S c) (b : Int) (hp : c.ph = 1 ∨ c.ph = 2) : Kept N P (b :: S) (c.shade b) :=
  ⟨h.run.shade b, h.ok.shade b, (shade_N c b).trans h.n, h.keep.shaded (h.mn (by omega)) b hp⟩
theorem Kept.alloc {N P : Nat} {S : List Int} {c : Cy} (h : Kept N P S c) (b : Int) : Kept N P S (c.alloc b) :=
  ⟨h.run.alloc b, h.ok.alloc b, (alloc_N c b).trans h.n, h.keep.alloc b⟩
theorem Kept.laid {N P : Nat} {S : List Int} {c : Cy} (h : Kept N P S c) (b : Int) (hp : c.ph ≠ 0) : Kept N P (b :: S) (c.alloc b) :=
  ⟨h.run.alloc b, h.ok.alloc b, (alloc_N c b).trans h.n, h.keep.laid (h.mn hp) b hp⟩
theorem Kept.pot {N P : Nat} {S : List Int} {c : Cy} (h : Kept N P S c) : c.pot P ≤ 2 * N + P + 3 := by
  have := h.run.few h.mn
  rw [h.n] at this
  exact this
theorem Kept.told {N P : Nat} {S : List Int} {c : Cy} (h : Kept N P S c) (u : Int → Bool) : ∀ y ∈ c.blocks u, y ∉ S := h.keep.blocks h.mn u
end Go.Proofs.Ythaicpjgmplgcaa
