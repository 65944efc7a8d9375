/- Both collectors, side by side. -/
import Derived.Test.YthaicpjgmplgcaaCqT
import Derived.Test.YthaicpjgmplgcaaCyLaw
import Derived.Deep.Slices
-- merged




namespace Go.Proofs.Ythaicpjgmplgcaa
open Go.RowKit Go.ChangeShapes Go.WideShapes
set_option linter.unusedVariables false

/-- The blocks that stay the same. -/
structure Kb where
  C : Nat
  L : Nat
  N : Nat
  b : Nat
  g : Nat
  R : Nat
  rl : Nat
  vb : Nat
  vc : Nat
  lo : Nat
def Key (k : Kb) (j : Nat) : Prop := j = k.C ∨ j = k.L ∨ j = k.b ∨ j = k.g ∨ j = k.R ∨ j = k.rl ∨ j = k.vb
structure Kst (k : Kb) : Prop where
  CR : k.C ≠ k.R
  Crl : k.C ≠ k.rl
  Cb : k.C ≠ k.b
  Cg : k.C ≠ k.g
  Cv : k.C ≠ k.vb
  RL : k.R ≠ k.L
  Rb : k.R ≠ k.b
  Rg : k.R ≠ k.g
  Rv : k.R ≠ k.vb
theorem IsCy.upd2 {w w' : World} {C L n0 n1 n2 n3 B : Nat} {c : Cy} (h : IsCy w C L n0 n1 n2 n3 B c) {S : Nat → Prop} (u : Upd S w w') (h1 : ¬ S C) (h2 : ¬ S L) (h3 : c.ph ≠ 0 → ∀ k, InMk B k → ¬ S k) : IsCy w' C L n0 n1 n2 n3 B c := by
  obtain ⟨⟨mp, k1, k2⟩, k3, k4, k5, k6, k7, k8⟩ := h
  exact ⟨⟨mp, k1.upd u h1, k2⟩, k3.upd u h2, k4, k5, fun hp => (k6 hp).upd u (h3 hp), k7, k8⟩
theorem IsCy.re {w : World} {C L n0 n1 n2 n3 B : Nat} {c : Cy} (h : IsCy w C L n0 n1 n2 n3 B c) (hp : c.ph = 0) (B' : Nat) (h1 : ¬ InMk B' C) (h2 : ¬ InMk B' L) : IsCy w C L n0 n1 n2 n3 B' c := by
  obtain ⟨⟨mp, k1, k2⟩, k3, k4, k5, k6, k7, k8⟩ := h
  exact ⟨⟨mp, k1, fun e => absurd hp e⟩, k3, k4, k5, fun e => absurd hp e, ⟨k7.1, h1, h2⟩, k8⟩
theorem IsRc.upd2 {w w' : World} {R rl base rb gm gs : Nat} {c : Cy} (h : IsRc w R rl base rb gm gs c) {S : Nat → Prop} (u : Upd S w w') (h1 : ¬ S R) (h2 : ¬ S rl) (h3 : c.ph ≠ 0 → ∀ k, base ≤ k → ¬ S k) : IsRc w' R rl base rb gm gs c := by
  obtain ⟨⟨mp, k1, k2⟩, k3, k4, k5, k6⟩ := h
  exact ⟨⟨mp, k1.upd u h1, k2⟩, k3.upd u h2, fun hp => (k4 hp).upd u (h3 hp), k5, k6⟩
/-- What the collector's calls may turn. -/
def CyT (C B : Nat) (c : Cy) (j : Nat) : Prop := j = C ∨ (c.ph ≠ 0 ∧ InMk B j)
structure PcF (W : World) (gd : Nat → Prop) (k : Kb) (f : Nat → Bool) (c d : Cy) (B base rb gm gs : Nat) (w : World) : Prop where
  cy : IsCy w k.C k.L k.N 0 0 0 B c
  rc : IsRc w k.R k.rl base rb gm gs d
  u : MapF w k.b k.g k.N f
  v : BoolsAt k.lo w k.vb k.vc k.N f
  up : Upd (fun _ => False) W w
  cN : c.N = k.N
  dN : d.N = k.N
  wC : W.heap.size ≤ k.C ∧ W.heap.size ≤ k.R
  key : ∀ j, Key k j → j < w.heap.size
  sB : c.ph ≠ 0 → ∀ j, InMk B j → j < w.heap.size ∧ W.heap.size ≤ j ∧ ¬ Key k j ∧ ¬ gd j ∧ (d.ph ≠ 0 → j < base)
  sM : d.ph ≠ 0 → W.heap.size ≤ base ∧ (∀ j, Key k j → j < base) ∧ ∀ j, MkT w rb gm gs j → ¬ gd j
  gk : ∀ j, gd j → j < w.heap.size ∧ j ≠ k.C ∧ j ≠ k.R
def Pc (W : World) (gd : Nat → Prop) (k : Kb) (f : Nat → Bool) (c d : Cy) (w : World) : Prop := ∃ B base rb gm gs, PcF W gd k f c d B base rb gm gs w
def PcPost (W : World) (gd : Nat → Prop) (k : Kb) (f : Nat → Bool) (c d : Cy) (w : World) (v : Value) (e : Ending) (w' : World) : Prop :=
  e = .returned v ∧ Pc W gd k f c d w' ∧ Upd (fun j => ¬ gd j) w w'
section
variable {W : World} {gd : Nat → Prop} {k : Kb} {f : Nat → Bool} {c d : Cy} {B base rb gm gs : Nat} {w w' : World}
theorem key_C (k : Kb) : Key k k.C := Or.inl rfl
theorem key_L (k : Kb) : Key k k.L := Or.inr (Or.inl rfl)
theorem key_b (k : Kb) : Key k k.b := Or.inr (Or.inr (Or.inl rfl))
theorem key_g (k : Kb) : Key k k.g := Or.inr (Or.inr (Or.inr (Or.inl rfl)))
theorem key_R (k : Kb) : Key k k.R := Or.inr (Or.inr (Or.inr (Or.inr (Or.inl rfl))))
theorem key_rl (k : Kb) : Key k k.rl := Or.inr (Or.inr (Or.inr (Or.inr (Or.inr (Or.inl rfl)))))
theorem key_v (k : Kb) : Key k k.vb := Or.inr (Or.inr (Or.inr (Or.inr (Or.inr (Or.inr rfl)))))
theorem PcF.cT (h : PcF W gd k f c d B base rb gm gs w) (ks : Kst k) : (∀ j, Key k j → j ≠ k.C → ¬ CyT k.C B c j) ∧ (∀ j, gd j → ¬ CyT k.C B c j) ∧ (∀ j, CyT k.C B c j → W.heap.size ≤ j) ∧ (d.ph ≠ 0 → ∀ j, base ≤ j → ¬ CyT k.C B c j) := by
  refine ⟨fun j hj hn e => ?_, fun j hj e => ?_, fun j e => ?_, fun hd j hj e => ?_⟩
  · rcases e with e | ⟨hp, e⟩
    · exact hn e
    · exact (h.sB hp j e).2.2.1 hj
  · rcases e with e | ⟨hp, e⟩
    · exact (h.gk j hj).2.1 e
    · exact (h.sB hp j e).2.2.2.1 hj
  · rcases e with e | ⟨hp, e⟩
    · have := h.wC.1; omega
    · exact (h.sB hp j e).2.1
  · rcases e with e | ⟨hp, e⟩
    · have := (h.sM hd).2.1 _ (key_C k); omega
    · have := (h.sB hp j e).2.2.2.2 hd; omega
theorem PcF.dT (h : PcF W gd k f c d B base rb gm gs w) (ks : Kst k) : (∀ j, Key k j → j ≠ k.R → ¬ RcT w k.R rb gm gs d j) ∧ (∀ j, gd j → ¬ RcT w k.R rb gm gs d j) ∧ (∀ j, RcT w k.R rb gm gs d j → W.heap.size ≤ j) ∧ (c.ph ≠ 0 → ∀ j, InMk B j → ¬ RcT w k.R rb gm gs d j) := by
  refine ⟨fun j hj hn e => ?_, fun j hj e => ?_, fun j e => ?_, fun hc j hj e => ?_⟩
  · rcases e with e | ⟨hp, e⟩
    · exact hn e
    · have := ((h.rc.rk hp).mkt e).1
      have := (h.sM hp).2.1 j hj
      omega
  · rcases e with e | ⟨hp, e⟩
    · exact (h.gk j hj).2.2 e
    · exact (h.sM hp).2.2 j e hj
  · rcases e with e | ⟨hp, e⟩
    · have := h.wC.2; omega
    · have := ((h.rc.rk hp).mkt e).1
      have := (h.sM hp).1
      omega
  · rcases e with e | ⟨hp, e⟩
    · exact (h.sB hc j hj).2.2.1 (e ▸ key_R k)
    · have := ((h.rc.rk hp).mkt e).1
      have := (h.sB hc j hj).2.2.2.2 hp
      omega
theorem PcF.left (h : PcF W gd k f c d B base rb gm gs w) (ks : Kst k) {c' : Cy} (hc : IsCy w' k.C k.L k.N 0 0 0 B c') (hN : c'.N = k.N) (u : Upd (CyT k.C B c) w w') (hp : c'.ph ≠ 0 → c.ph ≠ 0) : PcF W gd k f c' d B base rb gm gs w' ∧ Upd (fun j => ¬ gd j) w w' := by
  obtain ⟨t1, t2, t3, t4⟩ := h.cT ks
  have hz := u.size
  refine ⟨⟨hc, h.rc.upd2 u (t1 _ (key_R k) ks.CR.symm) (t1 _ (key_rl k) ks.Crl.symm) t4, h.u.upd u (t1 _ (key_b k) ks.Cb.symm) (t1 _ (key_g k) ks.Cg.symm), h.v.upd u (t1 _ (key_v k) ks.Cv.symm), h.up.own u t3, hN, h.dN, h.wC, fun j hj => Nat.lt_of_lt_of_le (h.key j hj) hz, fun e j hj => ?_, fun e => ⟨(h.sM e).1, (h.sM e).2.1, fun j hj => (h.sM e).2.2 j ?_⟩, fun j hj => ⟨Nat.lt_of_lt_of_le (h.gk j hj).1 hz, (h.gk j hj).2⟩⟩, u.mono (fun j _ e hg => t2 j hg e)⟩
  · obtain ⟨a1, a2, a3, a4, a5⟩ := h.sB (hp e) j hj
    exact ⟨Nat.lt_of_lt_of_le a1 hz, a2, a3, a4, a5⟩
  · have hk := h.rc.rk e
    exact mkt_back u hk.lt.2.2 (t4 e _ hk.ge.2.2) hj
theorem PcF.right (h : PcF W gd k f c d B base rb gm gs w) (ks : Kst k) {d' : Cy} (hd : IsRc w' k.R k.rl base rb gm gs d') (hN : d'.N = k.N) (u : Upd (RcT w k.R rb gm gs d) w w') (hm : McT w w' rb gm gs d d') : PcF W gd k f c d' B base rb gm gs w' ∧ Upd (fun j => ¬ gd j) w w' := by
  obtain ⟨t1, t2, t3, t4⟩ := h.dT ks
  have hz := u.size
  refine ⟨⟨h.cy.upd2 u (t1 _ (key_C k) ks.CR) (t1 _ (key_L k) ks.RL.symm) t4, hd, h.u.upd u (t1 _ (key_b k) ks.Rb.symm) (t1 _ (key_g k) ks.Rg.symm), h.v.upd u (t1 _ (key_v k) ks.Rv.symm), h.up.own u t3, h.cN, hN, h.wC, fun j hj => Nat.lt_of_lt_of_le (h.key j hj) hz, fun e j hj => ?_, fun e => ?_, fun j hj => ⟨Nat.lt_of_lt_of_le (h.gk j hj).1 hz, (h.gk j hj).2⟩⟩, u.mono (fun j _ e hg => t2 j hg e)⟩
  · obtain ⟨a1, a2, a3, a4, a5⟩ := h.sB e j hj
    exact ⟨Nat.lt_of_lt_of_le a1 hz, a2, a3, a4, fun e => a5 (hm e).1⟩
  · obtain ⟨m1, m2⟩ := hm e
    refine ⟨(h.sM m1).1, (h.sM m1).2.1, fun j hj hg => ?_⟩
    rcases m2 j hj with q | q
    · exact (h.sM m1).2.2 j q hg
    · have := (h.gk j hg).1
      omega
theorem PcF.leftB (h : PcF W gd k f c d B base rb gm gs w) (ks : Kst k) (hd0 : d.ph = 0) {c' : Cy} {B' : Nat} (hc : IsCy w' k.C k.L k.N 0 0 0 B' c') (hN : c'.N = k.N) (hB : w.heap.size ≤ B') (u : Upd (fun j => j = k.C) w w') : PcF W gd k f c' d B' base rb gm gs w' ∧ Upd (fun j => ¬ gd j) w w' := by
  have hz := u.size
  have u2 : Upd (CyT k.C B c) w w' := u.mono (fun _ _ e => Or.inl e)
  obtain ⟨t1, t2, t3, t4⟩ := h.cT ks
  refine ⟨⟨hc, h.rc.upd2 u2 (t1 _ (key_R k) ks.CR.symm) (t1 _ (key_rl k) ks.Crl.symm) t4, h.u.upd u2 (t1 _ (key_b k) ks.Cb.symm) (t1 _ (key_g k) ks.Cg.symm), h.v.upd u2 (t1 _ (key_v k) ks.Cv.symm), h.up.own u2 t3, hN, h.dN, h.wC, fun j hj => Nat.lt_of_lt_of_le (h.key j hj) hz, fun e j hj => ?_, fun e => absurd hd0 e, fun j hj => ⟨Nat.lt_of_lt_of_le (h.gk j hj).1 hz, (h.gk j hj).2⟩⟩, u2.mono (fun j _ e hg => t2 j hg e)⟩
  have hl := (hc.im e).lt
  have hj2 := hj.1
  have hj3 := hj.2
  have hw := h.up.size
  exact ⟨by omega, by omega, fun e => by have := h.key j e; omega, fun e => by have := (h.gk j e).1; omega, fun e => absurd hd0 e⟩
theorem PcF.rightB (h : PcF W gd k f c d B base rb gm gs w) (ks : Kst k) (hd0 : d.ph = 0) {d' : Cy} {base' rb' gm' gs' : Nat} (hd : IsRc w' k.R k.rl base' rb' gm' gs' d') (hN : d'.N = k.N) (hb : w.heap.size ≤ base') (u : Upd (fun j => j = k.R) w w') : PcF W gd k f c d' B base' rb' gm' gs' w' ∧ Upd (fun j => ¬ gd j) w w' := by
  have hz := u.size
  have u2 : Upd (RcT w k.R rb gm gs d) w w' := u.mono (fun _ _ e => Or.inl e)
  obtain ⟨t1, t2, t3, t4⟩ := h.dT ks
  have hw := h.up.size
  refine ⟨⟨h.cy.upd2 u2 (t1 _ (key_C k) ks.CR) (t1 _ (key_L k) ks.RL.symm) t4, hd, h.u.upd u2 (t1 _ (key_b k) ks.Rb.symm) (t1 _ (key_g k) ks.Rg.symm), h.v.upd u2 (t1 _ (key_v k) ks.Rv.symm), h.up.own u2 t3, h.cN, hN, h.wC, fun j hj => Nat.lt_of_lt_of_le (h.key j hj) hz, fun e j hj => ?_, fun e => ⟨by omega, fun j hj => by have := h.key j hj; omega, fun j hj hg => ?_⟩, fun j hj => ⟨Nat.lt_of_lt_of_le (h.gk j hj).1 hz, (h.gk j hj).2⟩⟩, u2.mono (fun j _ e hg => t2 j hg e)⟩
  · obtain ⟨a1, a2, a3, a4, a5⟩ := h.sB e j hj
    exact ⟨Nat.lt_of_lt_of_le a1 hz, a2, a3, a4, fun e => by omega⟩
  · have := ((hd.rk e).mkt hj).1
    have := (h.gk j hg).1
    omega
/-- More blocks are guarded. -/
theorem PcF.more (h : PcF W gd k f c d B base rb gm gs w) {gd' : Nat → Prop} (hg : ∀ j, gd' j → gd j ∨ (j < w.heap.size ∧ j ≠ k.C ∧ j ≠ k.R ∧ (c.ph ≠ 0 → ¬ InMk B j) ∧ (d.ph ≠ 0 → ¬ MkT w rb gm gs j))) : PcF W gd' k f c d B base rb gm gs w := by
  refine ⟨h.cy, h.rc, h.u, h.v, h.up, h.cN, h.dN, h.wC, h.key, fun e j hj => ?_, fun e => ⟨(h.sM e).1, (h.sM e).2.1, fun j hj hh => ?_⟩, fun j hj => ?_⟩
  · obtain ⟨a1, a2, a3, a4, a5⟩ := h.sB e j hj
    refine ⟨a1, a2, a3, fun hh => ?_, a5⟩
    rcases hg j hh with q | q
    · exact a4 q
    · exact q.2.2.2.1 e hj
  · rcases hg j hh with q | q
    · exact (h.sM e).2.2 j hj q
    · exact q.2.2.2.2 e hj
  · rcases hg j hj with q | q
    · exact h.gk j q
    · exact ⟨q.1, q.2.1, q.2.2.1⟩
theorem PcF.still (h : PcF W gd k f c d B base rb gm gs w) (ks : Kst k) (u : Upd (fun _ => False) w w') : PcF W gd k f c d B base rb gm gs w' := (h.left ks (h.cy.upd2 u (fun x => x) (fun x => x) (fun _ _ _ x => x)) h.cN (u.mono (fun _ _ x => x.elim)) (fun e => e)).1
theorem Pc.still (h : Pc W gd k f c d w) (ks : Kst k) (u : Upd (fun _ => False) w w') : Pc W gd k f c d w' := by
  obtain ⟨B, base, rb, gm, gs, h⟩ := h
  exact ⟨B, base, rb, gm, gs, h.still ks u⟩
/-- What is new since w is guarded. -/
theorem PcF.fresh (h : PcF W gd k f c d B base rb gm gs w) (ks : Kst k) {c' : Cy} {S : Nat → Prop} (h' : PcF W gd k f c' d B base rb gm gs w') (u : Upd S w w') (hp : c'.ph ≠ 0 → c.ph ≠ 0) (hs : d.ph ≠ 0 → ¬ S rb) {gd' : Nat → Prop} (hg : ∀ j, gd' j → gd j ∨ (w.heap.size ≤ j ∧ j < w'.heap.size)) : PcF W gd' k f c' d B base rb gm gs w' :=
  h'.more (fun j hj => by
    rcases hg j hj with q | ⟨q1, q2⟩
    · exact Or.inl q
    · refine Or.inr ⟨q2, fun e => by have := h.key _ (key_C k); omega, fun e => by have := h.key _ (key_R k); omega, fun e hh => by have := (h.sB (hp e) j hh).1; omega, fun e hh => ?_⟩
      have hk := h.rc.rk e
      have := (hk.mkt (mkt_back u hk.lt.2.2 (hs e) hh)).2
      omega)
theorem Pc.guard (h : Pc W gd k f c d w) (ks : Kst k) (u : Upd (fun _ => False) w w') {gd' : Nat → Prop} (hg : ∀ j, gd' j → gd j ∨ (w.heap.size ≤ j ∧ j < w'.heap.size)) : Pc W gd' k f c d w' := by
  obtain ⟨B, base, rb, gm, gs, h⟩ := h
  exact ⟨B, base, rb, gm, gs, h.fresh ks (h.still ks u) u (fun e => e) (fun _ x => x) hg⟩
theorem Pc.up (h : Pc W gd k f c d w) : Upd (fun _ => False) W w := by
  obtain ⟨B, base, rb, gm, gs, h⟩ := h
  exact h.up
theorem Pc.lt (h : Pc W gd k f c d w) : ∀ j, gd j → j < w.heap.size := by
  obtain ⟨B, base, rb, gm, gs, h⟩ := h
  exact fun j hj => (h.gk j hj).1
end
end Go.Proofs.Ythaicpjgmplgcaa

/- Both collectors: the calls. -/

namespace Go.Proofs.Ythaicpjgmplgcaa
open Go.RowKit Go.ChangeShapes Go.WideShapes
set_option linter.unusedVariables false

section
variable {W : World} {gd : Nat → Prop} {k : Kb} {f : Nat → Bool} {c d : Cy} {w w' : World}
theorem inmk_far {B j : Nat} (h : j < B) : ¬ InMk B j := fun e => by have := e.1; omega
/-- At rest the marker's blocks do not matter. -/
theorem PcF.call {B base rb gm gs : Nat} (h : PcF W gd k f c d B base rb gm gs w) (ks : Kst k) {fn : FuncId} {args : Array Value} {c' : Cy} {v : Value} (hc : ∀ B', IsCy w k.C k.L k.N 0 0 0 B' c → Calls Try.prog fn args w (CyPost w k.C k.L k.N 0 0 0 B' c' v)) (hN : c'.N = c.N) (hp : c'.ph ≠ 0 → c.ph ≠ 0) : Calls Try.prog fn args w (PcPost W gd k f c' d w v) := by
  have hC := h.key _ (key_C k)
  have hL := h.key _ (key_L k)
  by_cases h0 : c.ph = 0
  · refine (hc w.heap.size (h.cy.re h0 _ (inmk_far hC) (inmk_far hL))).mono (fun e w2 ⟨q1, q2, q3⟩ => ?_)
    have h0' : c'.ph = 0 := by
      by_cases e : c'.ph = 0
      · exact e
      · exact absurd h0 (hp e)
    have u : Upd (CyT k.C B c) w w2 := q3.mono (fun j hj e => by
      rcases e with e | e
      · exact Or.inl e
      · have := e.1; omega)
    obtain ⟨z1, z2⟩ := h.left ks (q2.re h0' B h.cy.ne.2.1 h.cy.ne.2.2) (hN.trans h.cN) u hp
    exact ⟨q1, ⟨B, base, rb, gm, gs, z1⟩, z2⟩
  · refine (hc B h.cy).mono (fun e w2 ⟨q1, q2, q3⟩ => ?_)
    obtain ⟨z1, z2⟩ := h.left ks q2 (hN.trans h.cN) (q3.mono (fun j hj e => e.imp id (fun e => ⟨h0, e⟩))) hp
    exact ⟨q1, ⟨B, base, rb, gm, gs, z1⟩, z2⟩
theorem cy_shade_ph {c : Cy} {b : Int} (h : (c.shade b).ph ≠ 0) : c.ph ≠ 0 := by
  unfold Cy.shade at h
  split at h
  · rename_i hs
    unfold Cy.shades at hs
    simp only [Bool.and_eq_true, Bool.or_eq_true, decide_eq_true_eq] at hs
    omega
  · exact h
theorem cy_shade_N (c : Cy) (b : Int) : (c.shade b).N = c.N := by unfold Cy.shade; split <;> rfl
theorem cy_alloc_ph {c : Cy} {b : Int} (h : (c.alloc b).ph ≠ 0) : c.ph ≠ 0 := by
  unfold Cy.alloc at h
  split at h
  · assumption
  · exact h
theorem cy_alloc_N (c : Cy) (b : Int) : (c.alloc b).N = c.N := by unfold Cy.alloc; split <;> rfl
theorem cy_step_ph {c : Cy} {refs : Int → List Int} (h : (c.step refs).ph ≠ 0) : c.ph ≠ 0 := fun e => h (by rw [cy_step0 e]; exact e)
theorem Pc.cShade (h : Pc W gd k f c d w) (ks : Kst k) (b : Int) : Calls Try.prog 37 #[.pointer (some ⟨k.C, 0, none⟩), .int .i64 b] w (PcPost W gd k f (c.shade b) d w (.bool (c.shades b))) := by
  obtain ⟨B, base, rb, gm, gs, h⟩ := h
  exact h.call ks (fun B' hB => cyc_Shade hB b) (cy_shade_N c b) cy_shade_ph
theorem Pc.cAlloc (h : Pc W gd k f c d w) (ks : Kst k) (b : Int) : Calls Try.prog 38 #[.pointer (some ⟨k.C, 0, none⟩), .int .i64 b] w (PcPost W gd k f (c.alloc b) d w (.bool (c.allocs b))) := by
  obtain ⟨B, base, rb, gm, gs, h⟩ := h
  exact h.call ks (fun B' hB => cyc_Alloc hB b) (cy_alloc_N c b) cy_alloc_ph
theorem Pc.mShade (h : Pc W gd k f c d w) (ks : Kst k) (b : Int) : Calls Try.prog 40 #[.pointer (some ⟨k.R, 0, none⟩), .int .i64 b] w (PcPost W gd k f c (d.shade b) w (.bool (d.shades b))) := by
  obtain ⟨B, base, rb, gm, gs, h⟩ := h
  refine (rc_Shade h.rc b).mono (fun e w2 ⟨q1, q2, q3, q4⟩ => ?_)
  obtain ⟨z1, z2⟩ := h.right ks q2 ((cy_shade_N d b).trans h.dN) q3 q4
  exact ⟨q1, ⟨B, base, rb, gm, gs, z1⟩, z2⟩
theorem Pc.mAlloc (h : Pc W gd k f c d w) (ks : Kst k) (b : Int) : Calls Try.prog 41 #[.pointer (some ⟨k.R, 0, none⟩), .int .i64 b] w (PcPost W gd k f c (d.alloc b) w (.bool (d.allocs b))) := by
  obtain ⟨B, base, rb, gm, gs, h⟩ := h
  refine (rc_Alloc h.rc b).mono (fun e w2 ⟨q1, q2, q3, q4⟩ => ?_)
  obtain ⟨z1, z2⟩ := h.right ks q2 ((cy_alloc_N d b).trans h.dN) q3 q4
  exact ⟨q1, ⟨B, base, rb, gm, gs, z1⟩, z2⟩
theorem cy_begin_no {c : Cy} (h : c.ph ≠ 0) (rs bs : List Int) : c.begin_ rs bs = c := by unfold Cy.begin_; rw [if_neg h]
theorem cy_begin_N (c : Cy) (rs bs : List Int) : (c.begin_ rs bs).N = c.N := by unfold Cy.begin_; split <;> rfl
theorem Pc.cBegin (h : Pc W gd k f c d w) (ks : Kst k) (hcd : c.ph = 0 → d.ph = 0) (he : 0 ≤ c.ep ∧ c.ep ≤ 1000000) (v1 v2 : Value) (roots black : List Int) (h1 : IntsR W v1 .i64 roots) (h2 : IntsR W v2 .i64 black) (l1 : roots.length ≤ 100000) (l2 : black.length ≤ 100000) :
    Calls Try.prog 33 #[.pointer (some ⟨k.C, 0, none⟩), v1, v2] w (PcPost W gd k f (c.begin_ roots black) d w (.bool (decide (c.ph = 0)))) := by
  obtain ⟨B, base, rb, gm, gs, h⟩ := h
  by_cases h0 : c.ph = 0
  · rw [decide_eq_true h0]
    have hu := fun w' (q : Upd (fun j => j = k.C) w w') => h.up.own q (fun j e => by have := h.wC.1; omega)
    refine (cyc_Begin h.cy h0 he v1 v2 roots black (ints_upd h1 h.up) (ints_upd h2 h.up) (fun w' q => ⟨ints_upd h1 (hu w' q), ints_upd h2 (hu w' q)⟩) l1 l2).mono (fun e w2 ⟨q1, B', q2, q3, q4⟩ => ?_)
    obtain ⟨z1, z2⟩ := h.leftB ks (hcd h0) q2 ((cy_begin_N c roots black).trans h.cN) q3 q4
    exact ⟨q1, ⟨B', base, rb, gm, gs, z1⟩, z2⟩
  · rw [decide_eq_false h0, cy_begin_no h0]
    exact (cyc_Begin_no h.cy h0 v1 v2).mono (fun e w2 ⟨q1, q2⟩ => by subst q2; exact ⟨q1, ⟨B, base, rb, gm, gs, h⟩, Upd.refl _ _⟩)
theorem Pc.mBegin (h : Pc W gd k f c d w) (ks : Kst k) (he : 0 ≤ d.ep ∧ d.ep ≤ 1000000) (v1 v2 : Value) (roots black : List Int) (h1 : IntsR W v1 .i64 roots) (h2 : IntsR W v2 .i64 black) (l1 : roots.length ≤ 100000) (l2 : black.length ≤ 100000) :
    Calls Try.prog 39 #[.pointer (some ⟨k.R, 0, none⟩), v1, v2] w (PcPost W gd k f c (d.begin_ roots black) w (.bool (decide (d.ph = 0)))) := by
  obtain ⟨B, base, rb, gm, gs, h⟩ := h
  by_cases h0 : d.ph = 0
  · rw [decide_eq_true h0]
    have hu := fun w' (q : Upd (fun j => j = k.R) w w') => h.up.own q (fun j e => by have := h.wC.2; omega)
    refine (rc_Begin h.rc h0 he v1 v2 roots black (ints_upd h1 h.up) (ints_upd h2 h.up) (fun w' q => ⟨ints_upd h1 (hu w' q), ints_upd h2 (hu w' q)⟩) l1 l2).mono (fun e w2 ⟨q1, base', rb', gm', gs', q2, q3, q4⟩ => ?_)
    obtain ⟨z1, z2⟩ := h.rightB ks h0 q2 ((cy_begin_N d roots black).trans h.dN) q3 q4
    exact ⟨q1, ⟨B, base', rb', gm', gs', z1⟩, z2⟩
  · rw [decide_eq_false h0, cy_begin_no h0]
    exact (rc_Begin_no h.rc h0 v1 v2).mono (fun e w2 ⟨q1, q2⟩ => by subst q2; exact ⟨q1, ⟨B, base, rb, gm, gs, h⟩, Upd.refl _ _⟩)
theorem Pc.cPhase (h : Pc W gd k f c d w) : Calls Try.prog 35 #[.pointer (some ⟨k.C, 0, none⟩)] w (Same w (.int .i64 (c.ph : Int))) := by
  obtain ⟨B, base, rb, gm, gs, h⟩ := h
  exact cyc_Phase h.cy
theorem Pc.cEpoch (h : Pc W gd k f c d w) : Calls Try.prog 43 #[.pointer (some ⟨k.C, 0, none⟩)] w (Same w (.int .i64 c.ep)) := by
  obtain ⟨B, base, rb, gm, gs, h⟩ := h
  exact cyc_Epoch h.cy
theorem Pc.cMarked (h : Pc W gd k f c d w) (b : Int) : Calls Try.prog 44 #[.pointer (some ⟨k.C, 0, none⟩), .int .i64 b] w (Same w (.bool (c.marked b))) := by
  obtain ⟨B, base, rb, gm, gs, h⟩ := h
  exact cyc_Marked h.cy b
theorem Pc.mMarked (h : Pc W gd k f c d w) (b : Int) : Calls Try.prog 45 #[.pointer (some ⟨k.R, 0, none⟩), .int .i64 b] w (Same w (.bool (d.marked b))) := by
  obtain ⟨B, base, rb, gm, gs, h⟩ := h
  exact rc_Marked h.rc b
theorem Pc.mCells (h : Pc W gd k f c d w) : w.cell? ⟨k.R, 2, none⟩ = some (.int .i64 (d.ph : Int)) ∧ w.cell? ⟨k.R, 3, none⟩ = some (.int .i64 d.ep) := by
  obtain ⟨B, base, rb, gm, gs, h⟩ := h
  obtain ⟨mp, k1, -⟩ := h.rc.hd
  exact ⟨k1.cell 2 rfl, k1.cell 3 rfl⟩
def PcWork (W : World) (gd : Nat → Prop) (k : Kb) (f : Nat → Bool) (xs ys : List Int) (c d : Cy) (w w2 : World) (e : Ending) (w' : World) : Prop :=
  ∃ a1 c1 a2 c2, e = .returned (.agg #[.slice a1 xs.length c1, .slice a2 ys.length c2]) ∧ w'.ownsRow w.heap.size 3 1 (.slice a1 xs.length c1) xs.length (ints xs) ∧ w'.ownsRow w.heap.size 3 1 (.slice a2 ys.length c2) ys.length (ints ys) ∧ Pc W (fun j => gd j ∨ (w.heap.size ≤ j ∧ j < w'.heap.size)) k f c d w' ∧ Upd (fun j => ¬ gd j) w2 w'
def PcTold (W : World) (gd : Nat → Prop) (k : Kb) (f : Nat → Bool) (xs ys : List Int) (c d : Cy) (w : World) (e : Ending) (w' : World) : Prop :=
  ∃ a1 c1 a2 c2, e = .returned (.tuple #[.slice a1 xs.length c1, .slice a2 ys.length c2]) ∧ IntsR w' (.slice a1 xs.length c1) .i64 xs ∧ IntsR w' (.slice a2 ys.length c2) .i64 ys ∧ Pc W gd k f c d w' ∧ Upd (fun j => ¬ gd j) w w'
theorem Pc.mStep (h : Pc W gd k f c d w) (ks : Kst k) (hpg : d.pg ≤ 50) {v : Value} {tt : List (List Int)} (hM : MatIn W v tt) (hlb : tt.length ≤ 1000 ∧ ∀ l ∈ tt, l.length ≤ 1000) {wv : Value} {ws : List Int} (hws : IntsR W wv .i64 ws) (hwl : ws.length ≤ 1000) :
    Calls Try.prog 42 #[.pointer (some ⟨k.R, 0, none⟩), v, wv, .slice (some ⟨k.vb, 0, none⟩) k.N k.vc] w (PcTold W gd k f (d.weaks ws) (d.blocks (bitI k.N f)) c (d.step (refsOf tt)) w) := by
  obtain ⟨B, base, rb, gm, gs, h⟩ := h
  have hu := fun w' (q : Upd (fun j => j = k.R) w w') => h.up.own q (fun j e => by have := h.wC.2; omega)
  have hkey := h.key _ (key_R k)
  by_cases h0 : d.ph = 0
  · -- at rest nothing of the marker is asked
    have hz := h.up.size
    have h2 : IsRc w k.R k.rl (base + w.heap.size) rb gm gs d := ⟨h.rc.hd, h.rc.lay, fun e => absurd h0 e, ⟨by have := h.rc.ne.1; omega, by have := h.rc.ne.2.1; omega, h.rc.ne.2.2⟩, h.rc.ok⟩
    refine (rc_Step h2 hpg hM h.up.none (by omega) hlb (fun w' q => ints_upd hws (hu w' q)) hwl (at_bools h.v.r)).mono (fun e w2 ⟨a1, c1, a2, c2, q1, q2, q3, q4, q5, q6⟩ => ?_)
    have hs0 := cy_step0 h0 (refsOf tt)
    rw [hs0] at q4 q6 ⊢
    have q4 : IsRc w2 k.R k.rl base rb gm gs d := ⟨q4.hd, q4.lay, fun e => absurd h0 e, h.rc.ne, q4.ok⟩
    obtain ⟨z1, z2⟩ := h.right ks q4 h.dN q5 q6
    exact ⟨a1, c1, a2, c2, q1, q2, q3, ⟨B, base, rb, gm, gs, z1⟩, z2⟩
  · refine (rc_Step h.rc hpg hM h.up.none (h.sM h0).1 hlb (fun w' q => ints_upd hws (hu w' q)) hwl (at_bools h.v.r)).mono (fun e w2 ⟨a1, c1, a2, c2, q1, q2, q3, q4, q5, q6⟩ => ?_)
    obtain ⟨z1, z2⟩ := h.right ks q4 ((cy_step_N d (refsOf tt)).trans h.dN) q5 q6
    exact ⟨a1, c1, a2, c2, q1, q2, q3, ⟨B, base, rb, gm, gs, z1⟩, z2⟩
end
/-- A step at rest. -/
def CyRest (w : World) (C L n0 n1 n2 n3 B : Nat) (c : Cy) (e : Ending) (w' : World) : Prop :=
  e = .returned (.agg #[.slice none 0 0, .slice none 0 0]) ∧ IsCy w' C L n0 n1 n2 n3 B c ∧ Upd (fun _ => False) w w'
set_option maxRecDepth 100000 in
set_option maxHeartbeats 2000000 in
theorem cyc_Step0 {w : World} {C L n0 n1 n2 n3 B : Nat} {c : Cy} (h : IsCy w C L n0 n1 n2 n3 B c) (hp : c.ph = 0) (RF : Value) (hrf : RF = .nilFunc ∨ ∃ f vs cs, RF = .func f vs cs) (wv pu : Value) :
    Calls Try.prog 36 #[.pointer (some ⟨C, 0, none⟩), RF, wv, pu] w (CyRest w C L n0 n1 n2 n3 B c) := by
  obtain ⟨K, hK⟩ : ∃ K, K = w.heap.size := ⟨_, rfl⟩
  have hKle : w.heap.size ≤ K := by omega
  have hCK : K ≠ C := by have := h.lt; omega
  have hLK : K ≠ L := by have := h.ltL; omega
  obtain ⟨W1, hW1⟩ : ∃ W1, W1 = w.alloc (.cells #[.slice none 0 0, .slice none 0 0] 60) := ⟨_, rfl⟩
  have u1 : Upd (fun _ => False) w W1 := by rw [hW1]; exact (Upd.refl _ _).alloc _
  have kb : Blk W1 K [.slice none 0 0, .slice none 0 0] 60 := by rw [hW1, hK]; exact Blk.new _ _ _
  have h1 := h.still u1
  have hP := cyc_Phase h1
  rw [hp] at hP
  have hP : Calls Try.prog 35 #[.pointer (some ⟨C, 0, none⟩)] W1 (Same W1 (.int .i64 0)) := hP
  have z0 := kb.cell 0 rfl
  have z1 := kb.cell 1 rfl
  have y0 := kb.free 0
  have y1 := kb.free 1
  have hup : Upd (fun _ => False) w ((W1.setCell ⟨K, 0, none⟩ (.slice none 0 0)).setCell ⟨K, 1, none⟩ (.slice none 0 0)) := up_new (up_new (up_no u1) (by omega) _ _) (by omega) _ _
  have hfin := h.still hup
  have HhP := Lib.hid hP; clear hP
  have Hh := Lib.hid h; clear h
  have Hh1 := Lib.hid h1; clear h1
  have Hkb := Lib.hid kb; clear kb
  have Hhfin := Lib.hid hfin; clear hfin
  have Hhup := Lib.hid hup; clear hup
  have Hu1 := Lib.hid u1; clear u1
  have Hhp := Lib.hid hp; clear hp
  go_enter Try.func36, Try.ntmps36
  go_wp2_with fail
  rw [← hW1, ← hK]
  clear hW1 hK
  refine wp_scope_many (fun l a' w' => False) (fun _ _ _ => 0) (fun _ _ _ h => h.elim) ?_
  go_wp2_with (go_at_call 35; (with_reducible refine HhP.out.mono ?_); rintro e w2 ⟨rfl, rfl⟩)
  (try simp only [Exit.jumps])
  refine bodyPost_ret (v := .agg #[.slice none 0 0, .slice none 0 0]) ?_ rfl ?_
  · rw [results_cell1 rfl]
    go_simp
  · exact ⟨rfl, Hhfin.out, Hhup.out⟩
section
variable {W : World} {gd : Nat → Prop} {k : Kb} {f : Nat → Bool} {c d : Cy} {w w2 : World}
theorem Pc.cStep (h : Pc W gd k f c d w) (ks : Kst k) (hpg : c.pg ≤ 50) {bx : Nat} {v : Value} {tt : List (List Int)} (hM : MatIn W v tt) (hlb : tt.length ≤ 1000 ∧ ∀ l ∈ tt, l.length ≤ 1000) (hc : w2.cell? ⟨bx, 0, none⟩ = some v) (hb : w.heap.size ≤ bx) (u2 : Upd (fun _ => False) w w2) {wv : Value} {ws : List Int} (hws : IntsR W wv .i64 ws) (hwl : ws.length ≤ 1000) :
    Calls Try.prog 36 #[.pointer (some ⟨k.C, 0, none⟩), refsFn bx, wv, .pointer (some ⟨k.b, 0, none⟩)] w2 (PcWork W gd k f (c.weaks ws) (c.blocks (bitI k.N f)) (c.step (refsOf tt)) d w w2) := by
  obtain ⟨B, base, rb, gm, gs, h⟩ := h
  have h2 := h.still ks u2
  obtain ⟨t1, t2, t3, t4⟩ := h2.cT ks
  have hrb : d.ph ≠ 0 → ¬ CyT k.C B c rb := fun e => t4 e _ (h2.rc.rk e).ge.2.2
  by_cases h0 : c.ph = 0
  · refine (cyc_Step0 h2.cy h0 (refsFn bx) (Or.inr ⟨_, _, _, rfl⟩) wv _).mono (fun e w3 ⟨q1, q2, q3⟩ => ?_)
    have e1 : c.weaks ws = [] := by unfold Cy.weaks; rw [if_neg (by omega)]
    have e2 : c.blocks (bitI k.N f) = [] := by unfold Cy.blocks; rw [if_neg (by omega)]
    rw [cy_step0 h0, e1, e2]
    refine ⟨none, 0, none, 0, q1, World.ownsRow_nil _ _ _ _, World.ownsRow_nil _ _ _ _, ⟨B, base, rb, gm, gs, h.fresh ks (h2.still ks q3) (u2.trans q3) (fun e => e) (fun _ x => x) (fun j hj => hj)⟩, q3.mono (fun _ _ x => x.elim)⟩
  · have hmk : ∀ j, InMk B j → j < w.heap.size := fun j hj => (h.sB h0 j hj).1
    have hbx : bx < w2.heap.size := World.block_lt_of_cell? w2 _ hc
    refine (cyc_Step h2.cy hpg (fun e => absurd e h0) (refsOf tt) (refsFn bx) (Or.inr ⟨_, _, _, rfl⟩) (fun hp w' u => ?_) (ws := ws) (fun w' u => ints_upd hws (h2.up.own u (fun j e => t3 j (e.imp id (fun e => ⟨h0, e⟩))))) hwl (gets_map h2.u)).mono (fun e w3 ⟨a1, c1, a2, c2, q1, q2, q3, q4, q5⟩ => ?_)
    · obtain ⟨hO, hn⟩ := h2.cy.ok.ok (by omega)
      have hN := h2.cy.ok.N
      have hc' : w'.cell? ⟨bx, 0, none⟩ = some v := (u.none.cell (p := ⟨bx, 0, none⟩) hbx).trans hc
      exact mark_Step_table B c.mr w' ((h2.cy.im h0).still u) hO (by omega) bx v tt hc' (fun e => by have := hmk bx e; omega) (fun w3 u3 => hM.upd ((h2.up.trans u).own u3 (fun i e => t3 i (Or.inr ⟨h0, e⟩))).none) hlb.1 hlb.2
    · have u3 : Upd (CyT k.C B c) w2 w3 := q5.mono (fun j hj e => e.imp id (fun e => ⟨h0, e⟩))
      obtain ⟨z1, z2⟩ := h2.left ks q4 ((cy_step_N c (refsOf tt)).trans h.cN) u3 cy_step_ph
      exact ⟨a1, c1, a2, c2, q1, ownsRow_base' q2 u2.size, ownsRow_base' q3 u2.size, ⟨B, base, rb, gm, gs, h.fresh ks z1 ((u2.mono (fun _ _ x => x.elim)).trans u3) cy_step_ph hrb (fun j hj => hj)⟩, z2⟩
end
end Go.Proofs.Ythaicpjgmplgcaa

/- A parameter that is calls of a collector; what stays bounded. -/


namespace Go.Proofs.Ythaicpjgmplgcaa
open Go.RowKit Go.ChangeShapes Go.WideShapes Go.Deep
set_option linter.unusedVariables false

structure Cl where
  d : Int
  b : Int
  rs : List Int
  bs : List Int
def noCl : Cl := ⟨0, 0, [], []⟩
instance : Inhabited Cl := ⟨noCl⟩
def ClsR (w : World) (v : Value) (l : List Cl) : Prop := ∃ X : Nat → Nat → Value, RowsIn w v 4 l.length X ∧ ∀ i, i < l.length → X i 0 = .int .i64 (l.getD i noCl).d ∧ X i 1 = .int .i64 (l.getD i noCl).b ∧ IntsR w (X i 2) .i64 (l.getD i noCl).rs ∧ IntsR w (X i 3) .i64 (l.getD i noCl).bs
theorem ClsR.shape {W : World} {v : Value} {l : List Cl} (h : ClsR W v l) : ∃ a c, v = .slice a l.length c ∧ (l.length : Int) ≤ 9223372036854775807 := by
  obtain ⟨X, ⟨a, c, h1, h2, h3, -⟩, -⟩ := h
  exact ⟨a, c, h1, by unfold maxLen at h3; omega⟩
section
variable {H : Type} {enc : TypeId × Value → H} {spare : Nat → Bool} {held : Bool} {W : World} {ts : List TypeId} {ds : List (DataW H)} {v : Value} {d : DataW H} {ps : List MemPlace}
set_option maxRecDepth 100000 in
theorem cl_of_cells {X : Nat → Value} {m : Nat} {y : DataW H × List MemPlace} (hy : DataW.trod enc Try.prog W 0 spare held m 75 ((List.range 4).map X) = some y) :
    ∃ c : Cl, X 0 = .int .i64 c.d ∧ X 1 = .int .i64 c.b ∧ IntsR W (X 2) .i64 c.rs ∧ IntsR W (X 3) .i64 c.bs := by
  obtain ⟨ys, n', _, _, _, hyl, hf⟩ := DataW.trod_struct Try.underlying75 hy
  have c1 : Try.prog.cellsOf 3 = 1 := by kernel_rfl
  have c8 : Try.prog.cellsOf 37 = 1 := by kernel_rfl
  have hyl : ys.length = 4 := hyl
  have g0 : DataW.trod enc Try.prog W 0 spare held n' 3 ((((List.range 4).map X).drop 0).take (Try.prog.cellsOf 3)) = ys[0]? := hf 0 _ rfl
  have g1 : DataW.trod enc Try.prog W 0 spare held n' 3 ((((List.range 4).map X).drop 1).take (Try.prog.cellsOf 3)) = ys[1]? := hf 1 _ rfl
  have g2 : DataW.trod enc Try.prog W 0 spare held n' 37 ((((List.range 4).map X).drop 2).take (Try.prog.cellsOf 37)) = ys[2]? := hf 2 _ rfl
  have g3 : DataW.trod enc Try.prog W 0 spare held n' 37 ((((List.range 4).map X).drop 3).take (Try.prog.cellsOf 37)) = ys[3]? := hf 3 _ rfl
  rw [List.getElem?_eq_getElem (by omega), c1] at g0 g1
  rw [List.getElem?_eq_getElem (by omega), c8] at g2 g3
  change DataW.trod enc Try.prog W 0 spare held n' 3 [X 0] = _ at g0
  change DataW.trod enc Try.prog W 0 spare held n' 3 [X 1] = _ at g1
  change DataW.trod enc Try.prog W 0 spare held n' 37 [X 2] = _ at g2
  change DataW.trod enc Try.prog W 0 spare held n' 37 [X 3] = _ at g3
  obtain ⟨d0, e0, w0⟩ := int_of_trod Try.underlying3 g0
  obtain ⟨d1, e1, w1⟩ := int_of_trod Try.underlying3 g1
  obtain ⟨xs, h8, -⟩ := ints_of_trod Try.underlying37 Try.underlying3 c1 g2
  obtain ⟨ys2, h9, -⟩ := ints_of_trod Try.underlying37 Try.underlying3 c1 g3
  exact ⟨⟨d0, d1, xs, ys2⟩, e0, e1, h8.1, h9.1⟩
set_option maxRecDepth 100000 in
theorem open_cls {r : Reach} {b0 : Nat} (hval : Value.okWide Try.prog W r b0 66 v) (h : DataW.Trod enc Try.prog W 0 spare held 66 v d ps) (hsz : (DataW.weightsEach Try.prog ts ds).all (· ≤ reachBytes) = true) (j : Nat) (htj : ts[j]? = some 66) (hdj : ds[j]? = some d) :
    ∃ x, ClsR W v x := by
  obtain ⟨n, X, hR, hn, m, hi⟩ := open_rowsAt (bytes := 64) (size := 4) Try.underlying66 (by kernel_rfl) (by decide) (by kernel_rfl) hval h hsz j htj hdj
  have each : ∀ i, i < n → ∃ c : Cl, X i 0 = .int .i64 c.d ∧ X i 1 = .int .i64 c.b ∧ IntsR W (X i 2) .i64 c.rs ∧ IntsR W (X i 3) .i64 c.bs := by
    intro i hil
    obtain ⟨y, hy⟩ := hi i hil
    exact cl_of_cells hy
  obtain ⟨Z, hZ⟩ := choose_lt each
  have hg : ∀ i, i < n → ((List.range n).map Z).getD i noCl = Z i := fun i hi => by simp [List.getD, hi]
  refine ⟨(List.range n).map Z, X, ?_, ?_⟩
  · rw [List.length_map, List.length_range]
    exact hR
  · intro i hi
    rw [List.length_map, List.length_range] at hi
    rw [hg i hi]
    exact hZ i hi
end
theorem ClsR.at {W : World} {v : Value} {l : List Cl} (h : ClsR W v l) {k : Nat} (hk : k < l.length) : ∃ b0 off ra rc ba bc, (∀ w', (Instr.indexAt 66 v (.int .i64 (k : Int))).run Try.prog w' = .ok (.pointer (some ⟨b0, off, none⟩)) w') ∧
    (∀ w', Upd (fun _ => False) W w' → w'.cell? ⟨b0, off, none⟩ = some (.int .i64 (l.getD k noCl).d) ∧ w'.cell? ⟨b0, off + 1, none⟩ = some (.int .i64 (l.getD k noCl).b) ∧ w'.cell? ⟨b0, off + 2, none⟩ = some (.slice ra (l.getD k noCl).rs.length rc) ∧ w'.cell? ⟨b0, off + 3, none⟩ = some (.slice ba (l.getD k noCl).bs.length bc)) ∧
      IntsR W (.slice ra (l.getD k noCl).rs.length rc) .i64 (l.getD k noCl).rs ∧ IntsR W (.slice ba (l.getD k noCl).bs.length bc) .i64 (l.getD k noCl).bs := by
  obtain ⟨X, hR, hX⟩ := h
  obtain ⟨b0, off, hix, hb0, hc⟩ := hR.index (P := Try.prog) Try.underlying66 (by kernel_rfl) (by kernel_rfl) hk
  obtain ⟨x0, x1, x2, x3⟩ := hX k hk
  obtain ⟨ra, rc, hre⟩ : ∃ ra rc, X k 2 = .slice ra (l.getD k noCl).rs.length rc := by
    obtain ⟨ra, rc, h1, -⟩ := x2
    exact ⟨ra, rc, h1⟩
  obtain ⟨ba, bc, hbe⟩ : ∃ ba bc, X k 3 = .slice ba (l.getD k noCl).bs.length bc := by
    obtain ⟨ba, bc, h1, -⟩ := x3
    exact ⟨ba, bc, h1⟩
  refine ⟨b0, off + k * 4, ra, rc, ba, bc, hix, fun w' u => ?_, hre ▸ x2, hbe ▸ x3⟩
  have q := fun j hj => (u.none.cell (p := ⟨b0, off + k * 4 + j, none⟩) hb0).trans (hc j hj)
  exact ⟨by rw [← x0]; exact q 0 (by decide), by rw [← x1]; exact q 1 (by decide), by rw [← hre]; exact q 2 (by decide), by rw [← hbe]; exact q 3 (by decide)⟩
/-- What stays bounded. -/
structure CpOk (N j : Nat) (c : Cy) : Prop where
  n : c.N = N
  ep : 0 ≤ c.ep ∧ c.ep ≤ j
  pg : c.pg ≤ 30
  sw : c.ph = 3 → c.pg ≤ 20
theorem CpOk.later {N j : Nat} {c : Cy} (h : CpOk N j c) : CpOk N (j + 1) c := ⟨h.n, ⟨h.ep.1, by have := h.ep.2; omega⟩, h.pg, h.sw⟩
theorem CpOk.begin_ {N j : Nat} {c : Cy} (h : CpOk N j c) (rs bs : List Int) : CpOk N (j + 1) (c.begin_ rs bs) := by
  have he := h.ep
  unfold Cy.begin_
  split
  · exact ⟨h.n, ⟨by show 0 ≤ c.ep + 1; omega, by show c.ep + 1 ≤ _; omega⟩, h.pg, fun e => absurd e (by show ¬ (1 : Nat) = 3; decide)⟩
  · exact h.later
theorem CpOk.shade {N j : Nat} {c : Cy} (h : CpOk N j c) (b : Int) : CpOk N (j + 1) (c.shade b) := by
  have h2 := h.later
  unfold Cy.shade
  split
  · exact ⟨h2.n, h2.ep, h2.pg, fun e => absurd e (by show ¬ (1 : Nat) = 3; decide)⟩
  · exact h2
theorem CpOk.alloc {N j : Nat} {c : Cy} (h : CpOk N j c) (b : Int) : CpOk N (j + 1) (c.alloc b) := by
  have h2 := h.later
  unfold Cy.alloc
  split
  · exact ⟨h2.n, h2.ep, h2.pg, h2.sw⟩
  · exact h2
theorem CpOk.step {N j : Nat} {c : Cy} (h : CpOk N j c) (hN : N ≤ 160) (refs : Int → List Int) : CpOk N (j + 1) (c.step refs) := by
  have h2 := h.later
  unfold Cy.step
  split
  · refine ⟨h2.n, h2.ep, h2.pg, fun e => ?_⟩
    have e : (if c.mr.done then 2 else 1) = 3 := e
    split at e <;> omega
  · split
    · exact ⟨h2.n, h2.ep, Nat.zero_le _, fun _ => Nat.zero_le _⟩
    · split
      · rename_i h3
        have hp := h.sw h3
        have hP : c.pages ≤ 20 := by
          unfold Cy.pages
          rw [h.n]
          omega
        refine ⟨h2.n, h2.ep, by show c.pg + 1 ≤ 30; omega, fun e => ?_⟩
        have e : (if c.pages ≤ c.pg + 1 then 0 else 3) = 3 := e
        show c.pg + 1 ≤ 20
        split at e <;> omega
      · exact h2
/-- What the law looks at behind each call. -/
theorem Pc.look {W : World} {gd : Nat → Prop} {k : Kb} {f : Nat → Bool} {c : Cy} {w : World} (h : Pc W gd k f c c w) (ks : Kst k) (b : Int) :
    (∀ w', Upd (fun _ => False) w w' → Calls Try.prog 35 #[.pointer (some ⟨k.C, 0, none⟩)] w' (fun e w2 => e = .returned (.int .i64 (c.ph : Int)) ∧ Upd (fun _ => False) w w2)) ∧
    (∀ w', Upd (fun _ => False) w w' → Calls Try.prog 43 #[.pointer (some ⟨k.C, 0, none⟩)] w' (fun e w2 => e = .returned (.int .i64 c.ep) ∧ Upd (fun _ => False) w w2)) ∧
    (∀ w', Upd (fun _ => False) w w' → Calls Try.prog 44 #[.pointer (some ⟨k.C, 0, none⟩), .int .i64 b] w' (fun e w2 => e = .returned (.bool (c.marked b)) ∧ Upd (fun _ => False) w w2)) ∧
    (∀ w', Upd (fun _ => False) w w' → Calls Try.prog 45 #[.pointer (some ⟨k.R, 0, none⟩), .int .i64 b] w' (fun e w2 => e = .returned (.bool (c.marked b)) ∧ Upd (fun _ => False) w w2)) ∧
    (∀ s : Later w, s.val.cell? ⟨k.R, 2, none⟩ = some (.int .i64 (c.ph : Int))) ∧ ∀ s : Later w, s.val.cell? ⟨k.R, 3, none⟩ = some (.int .i64 c.ep) :=
  ⟨fun w' u => (h.still ks u).cPhase.mono (fun e w2 ⟨q1, q2⟩ => ⟨q1, q2 ▸ u⟩), fun w' u => (h.still ks u).cEpoch.mono (fun e w2 ⟨q1, q2⟩ => ⟨q1, q2 ▸ u⟩), fun w' u => ((h.still ks u).cMarked b).mono (fun e w2 ⟨q1, q2⟩ => ⟨q1, q2 ▸ u⟩), fun w' u => ((h.still ks u).mMarked b).mono (fun e w2 ⟨q1, q2⟩ => ⟨q1, q2 ▸ u⟩), fun s => (h.still ks s.up).mCells.1, fun s => (h.still ks s.up).mCells.2⟩
end Go.Proofs.Ythaicpjgmplgcaa

