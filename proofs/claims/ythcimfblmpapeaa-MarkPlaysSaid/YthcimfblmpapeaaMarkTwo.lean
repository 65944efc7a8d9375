/- Two markers side by side. -/
import Derived.Test.YthcimfblmpapeaaMarkCom
namespace Go.Proofs.Ythcimfblmpapeaa
open Go.RowKit
set_option linter.unusedVariables false

theorem sound_new (n room : Nat) (refs : Int → List Int) (F : Int → Prop) : Sound ⟨n, fun _ => false, fun _ => false, [], room, false⟩ (fun _ => false) refs F :=
  ⟨fun i _ h => (by cases h), fun i _ h => (by cases h)⟩
theorem closed_new (n room : Nat) (D : Nat → Bool) (refs : Int → List Int) : Closed ⟨n, fun _ => false, fun _ => false, [], room, false⟩ D refs :=
  fun i _ h => by cases h
theorem sound_shade {x : Mk} {D : Nat → Bool} {refs : Int → List Int} {F : Int → Prop} (h : Sound x D refs F) (b : Int) (hb : F b) : Sound (x.shade b) D refs F :=
  sound_shades [b] x h (fun j hj hjn hd => by
    have hj : (j : Int) = b := by simpa using hj
    exact Rch.root j (by rw [hj]; exact hb) hjn hd)

/-- What holds of a marker on its way: F is all that is ever shaded. -/
structure Way (x : Mk) (k : Nat) (refs : Int → List Int) (F : Int → Prop) : Prop where
  ok : Ok x
  n : x.n = k
  closed : Closed x (fun _ => false) refs
  sound : Sound x (fun _ => false) refs F
theorem Way.new (k : Nat) (room : Nat) (h : 1 ≤ room) (refs : Int → List Int) (F : Int → Prop) : Way ⟨k, fun _ => false, fun _ => false, [], room, false⟩ k refs F :=
  ⟨ok_new k room h, rfl, closed_new _ _ _ _, sound_new _ _ _ _⟩
theorem Way.shade {x : Mk} {k : Nat} {refs : Int → List Int} {F : Int → Prop} (h : Way x k refs F) (b : Int) (hb : F b) : Way (x.shade b) k refs F :=
  ⟨ok_shade h.ok b, (shade_same x b).1.trans h.n, closed_shade h.closed b, sound_shade h.sound b hb⟩
theorem Way.step {x : Mk} {k : Nat} {refs : Int → List Int} {F : Int → Prop} (h : Way x k refs F) : Way (x.step refs) k refs F :=
  ⟨step_ok h.ok refs, (step_n h.ok refs).trans h.n, closed_step h.ok h.closed, sound_step h.ok h.sound⟩
theorem Way.same {x y : Mk} {k : Nat} {refs : Int → List Int} {F : Int → Prop} (hx : Way x k refs F) (hy : Way y k refs F) (dx : x.done = true) (dy : y.done = true)
    (rx : ∀ i : Nat, F i → i < k → x.m i = true) (ry : ∀ i : Nat, F i → i < k → y.m i = true) : packN k x.m = packN k y.m := by
  refine packN_congr (fun i hi => ?_)
  have h1 := final_marks hx.ok hx.closed hx.sound dx (fun i h hn => rx i h (by rw [← hx.n]; exact hn)) i (by rw [hx.n]; exact hi)
  have h2 := final_marks hy.ok hy.closed hy.sound dy (fun i h hn => ry i h (by rw [← hy.n]; exact hn)) i (by rw [hy.n]; exact hi)
  rw [hx.n] at h1
  rw [hy.n] at h2
  rw [Bool.eq_iff_iff]
  exact h1.trans h2.symm

/-- Two markers, at B and at B + 6. -/
structure Two (W : World) (B k : Nat) (refs : Int → List Int) (F : Int → Prop) (x y : Mk) (wr : World) : Prop where
  a : IsMk wr B x
  b : IsMk wr (B + 6) y
  wa : Way x k refs F
  wb : Way y k refs F
  up : Upd (fun _ => False) W wr
  size : B + 12 ≤ wr.heap.size
section
variable {W wr w2 : World} {B k : Nat} {refs : Int → List Int} {F : Int → Prop} {x y z : Mk}
theorem Two.left (hW : W.heap.size ≤ B) (h : Two W B k refs F x y wr) (hI : IsMk w2 B z) (hz : Way z k refs F) (u : Upd (InMk B) wr w2) : Two W B k refs F z y w2 :=
  ⟨hI, h.b.upd u (fun i hi e => by have := e.2; have := hi.1; omega), hz, h.wb, h.up.own u (fun i e => by have := e.1; omega), Nat.le_trans h.size u.size⟩
theorem Two.right (hW : W.heap.size ≤ B) (h : Two W B k refs F x y wr) (hI : IsMk w2 (B + 6) z) (hz : Way z k refs F) (u : Upd (InMk (B + 6)) wr w2) : Two W B k refs F x z w2 :=
  ⟨h.a.upd u (fun i hi e => by have := e.1; have := hi.2; omega), hI, h.wa, hz, h.up.own u (fun i e => by have := e.1; omega), Nat.le_trans h.size u.size⟩
theorem Two.still (h : Two W B k refs F x y wr) (u : Upd (fun _ => False) wr w2) : Two W B k refs F x y w2 :=
  ⟨h.a.still u, h.b.still u, h.wa, h.wb, h.up.trans u, Nat.le_trans h.size u.size⟩
end

def WPost (W : World) (L : Nat) (ws : List Nat) (e : Ending) (w' : World) : Prop :=
  ∃ g c, e = .returned (.slice (some ⟨g, 0, none⟩) L c) ∧ WordsR w' (.slice (some ⟨g, 0, none⟩) L c) ws ∧ Upd (fun _ => False) W w'
theorem words_own {W w' : World} {b g n : Nat} {f : Nat → Bool} (h : MapF w' b g n f) (u : Upd (fun _ => False) W w') : Calls Try.prog 28 #[.pointer (some ⟨b, 0, none⟩)] w' (WPost W ((n + 63) / 64) (packN n f)) :=
  (map_WordsF b g n f w' h).mono fun e w2 ⟨g', c, he, ho, hu⟩ => ⟨g', c, he, ClonePost.words (v := .slice none 0 0) ho, u.trans hu⟩
theorem same_words {W w' : World} {u v : Value} {xs ys : List Nat} (h1 : WordsR w' u xs) (h2 : WordsR w' v ys) (he : xs = ys) (uu : Upd (fun _ => False) W w') : Calls Try.prog 27 #[u, v] w' (RetU W (.bool true)) := by
  have := from_ret (ref_SameWords u v xs ys w' h1 h2) uu
  rw [decide_eq_true he] at this
  exact this
end Go.Proofs.Ythcimfblmpapeaa
