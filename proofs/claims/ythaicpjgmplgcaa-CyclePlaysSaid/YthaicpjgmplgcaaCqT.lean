/- The document's collector: its functions' contracts. -/
import Derived.Test.YthaicpjgmplgcaaCqS
import Derived.Test.YthaicpjgmplgcaaAwake21
import Derived.Test.YthaicpjgmplgcaaRef20
import Derived.Deep.RegionHeld3
import Derived.Deep.DeepCutAuto
import Derived.Deep.CutBlock
-- merged




namespace Go.Proofs.Ythaicpjgmplgcaa
open Go.RowKit Go.ChangeShapes Go.WideShapes
set_option linter.unusedVariables false

/-- The blocks of the marker that a call may turn. -/
def MkT (w : World) (rb gm gs j : Nat) : Prop := j = rb ∨ j = gm ∨ j = gs ∨ ∃ v, w.cell? ⟨rb, 2, none⟩ = some v ∧ v.ownBlock = some j
theorem IsRk.mkt {w : World} {base rb gm gs : Nat} {x : Mk} (h : IsRk w base rb gm gs x) {j : Nat} (hj : MkT w rb gm gs j) : base ≤ j ∧ j < w.heap.size := by
  obtain ⟨g1, g2, g3⟩ := h.ge
  obtain ⟨l1, l2, l3⟩ := h.lt
  rcases hj with e | e | e | ⟨v, hv, e⟩
  · omega
  · omega
  · omega
  · obtain ⟨a, c, h1, h2⟩ := h.st
    rw [h1.cell 2 rfl] at hv
    cases hv
    have := h2.lt j e
    omega
theorem IsRk.mkn {w : World} {base rb gm gs : Nat} {x : Mk} (h : IsRk w base rb gm gs x) : IsRq w (fun j => MkT w rb gm gs j ∨ w.heap.size ≤ j) base rb gm gs x :=
  ⟨h, ⟨Or.inl (Or.inl rfl), Or.inl (Or.inr (Or.inl rfl)), Or.inl (Or.inr (Or.inr (Or.inl rfl))), fun v hv j hj => Or.inl (Or.inr (Or.inr (Or.inr ⟨v, hv, hj⟩))), fun j hj => Or.inr hj⟩⟩
theorem mkn_up {w w' : World} {rb gm gs : Nat} (u : Upd (fun j => MkT w rb gm gs j ∨ w.heap.size ≤ j) w w') : Upd (MkT w rb gm gs) w w' := u.mono (fun j hj e => e.resolve_right (by omega))
def RmPost (w : World) (base rb gm gs : Nat) (y : Mk) (v : Value) (e : Ending) (w' : World) : Prop :=
  e = .returned v ∧ IsRk w' base rb gm gs y ∧ Upd (MkT w rb gm gs) w w' ∧ ∀ j, MkT w' rb gm gs j → MkT w rb gm gs j ∨ w.heap.size ≤ j
theorem Tk.own {w' : World} {T : Nat → Prop} {rb gm gs : Nat} (h : Tk w' T rb gm gs) (j : Nat) (hj : MkT w' rb gm gs j) : T j := by
  rcases hj with e | e | e | ⟨v, hv, e⟩
  · exact e ▸ h.trb
  · exact e ▸ h.tgm
  · exact e ▸ h.tgs
  · exact h.st v hv j e
theorem mkt_back {w w' : World} {rb gm gs : Nat} {S : Nat → Prop} (u : Upd S w w') (hb : rb < w.heap.size) (hs : ¬ S rb) {j : Nat} (h : MkT w' rb gm gs j) : MkT w rb gm gs j := by
  rcases h with e | e | e | ⟨v, hv, e⟩
  · exact Or.inl e
  · exact Or.inr (Or.inl e)
  · exact Or.inr (Or.inr (Or.inl e))
  · refine Or.inr (Or.inr (Or.inr ⟨v, ?_, e⟩))
    have := u.block rb hb hs
    unfold World.cell? at hv ⊢
    rw [← this]
    exact hv
theorem rm_Shade {w : World} {base rb gm gs : Nat} {x : Mk} (h : IsRk w base rb gm gs x) (b : Int) : Calls Try.prog 67 #[.pointer (some ⟨rb, 0, none⟩), .int .i64 b] w (RmPost w base rb gm gs (x.shade b) (.bool (offB x.n x.m b))) :=
  (rq_Shade h.mkn b).mono (fun e w' hh => ⟨hh.1, hh.2.1.rk, mkn_up hh.2.2, hh.2.1.tk.own⟩)
theorem rm_Black {w : World} {base rb gm gs : Nat} {x : Mk} (h : IsRk w base rb gm gs x) (b : Int) : Calls Try.prog 66 #[.pointer (some ⟨rb, 0, none⟩), .int .i64 b] w (RmPost w base rb gm gs (x.black b) (.bool (offB x.n x.m b))) :=
  (rq_Black h.mkn b).mono (fun e w' hh => ⟨hh.1, hh.2.1.rk, mkn_up hh.2.2, hh.2.1.tk.own⟩)
theorem rm_Step {W w : World} {base rb gm gs : Nat} {x : Mk} {v : Value} {tt : List (List Int)} (h : IsRk w base rb gm gs x) (hx : Ok x) (hM : MatIn W v tt) (hW : Below W.heap.size W w) (hB : W.heap.size ≤ base) (hlb : tt.length ≤ 1000 ∧ ∀ l ∈ tt, l.length ≤ 1000) :
    Calls Try.prog 68 #[.pointer (some ⟨rb, 0, none⟩), v] w (RmPost w base rb gm gs (x.step (refsOf tt)) (.bool (!x.done))) := by
  have hz := hW.size
  exact (rq_Step h.mkn hx hM hW (fun j hj => by
    rcases hj with hj | hj
    · have := h.mkt hj
      omega
    · omega) hlb).mono (fun e w' hh => ⟨hh.1, hh.2.1.rk, mkn_up hh.2.2, hh.2.1.tk.own⟩)

/-- The document's collector in block R, its layout in rl, its marker in rb, gm, gs at base or behind. -/
structure IsRc (w : World) (R rl base rb gm gs : Nat) (c : Cy) : Prop where
  hd : ∃ mp, Blk w R [.pointer (some ⟨rl, 0, none⟩), .int .i64 c.room, .int .i64 (c.ph : Int), .int .i64 c.ep, .pointer mp, .int .i64 (c.pg : Int)] 70 ∧ (c.ph ≠ 0 → mp = some ⟨rb, 0, none⟩)
  lay : IsRl w rl c.N
  rk : c.ph ≠ 0 → IsRk w base rb gm gs c.mr
  ne : R < base ∧ rl < base ∧ R ≠ rl
  ok : CyOk c
/-- What a call may turn. -/
def RcT (w : World) (R rb gm gs : Nat) (c : Cy) (j : Nat) : Prop := j = R ∨ (c.ph ≠ 0 ∧ MkT w rb gm gs j)
/-- What it may turn then is what it could turn ahead, or new. -/
def McT (w w' : World) (rb gm gs : Nat) (c d : Cy) : Prop := d.ph ≠ 0 → c.ph ≠ 0 ∧ ∀ j, MkT w' rb gm gs j → MkT w rb gm gs j ∨ w.heap.size ≤ j
theorem McT.refl (w : World) (rb gm gs : Nat) (c : Cy) : McT w w rb gm gs c c := fun h => ⟨h, fun j e => Or.inl e⟩
def RcPost (w : World) (R rl base rb gm gs : Nat) (c d : Cy) (v : Value) (e : Ending) (w' : World) : Prop :=
  e = .returned v ∧ IsRc w' R rl base rb gm gs d ∧ Upd (RcT w R rb gm gs c) w w' ∧ McT w w' rb gm gs c d
section
variable {w w' : World} {R rl base rb gm gs : Nat} {c d : Cy}
theorem IsRc.upd (h : IsRc w R rl base rb gm gs c) {S : Nat → Prop} (u : Upd S w w') (h1 : ¬ S R) (h2 : ¬ S rl) (h3 : ∀ k, base ≤ k → ¬ S k) : IsRc w' R rl base rb gm gs c := by
  obtain ⟨⟨mp, k1, k2⟩, k3, k4, k5, k6⟩ := h
  exact ⟨⟨mp, k1.upd u h1, k2⟩, k3.upd u h2, fun hp => (k4 hp).upd u h3, k5, k6⟩
theorem IsRc.still (h : IsRc w R rl base rb gm gs c) (u : Upd (fun _ => False) w w') : IsRc w' R rl base rb gm gs c := h.upd u (fun x => x) (fun x => x) (fun _ _ x => x)
theorem IsRc.rct (h : IsRc w R rl base rb gm gs c) {j : Nat} (hj : RcT w R rb gm gs c j) : j = R ∨ (base ≤ j ∧ j < w.heap.size) := by
  rcases hj with e | ⟨hp, e⟩
  · exact Or.inl e
  · exact Or.inr ((h.rk hp).mkt e)
theorem up_rm (hp : c.ph ≠ 0) (u : Upd (MkT w rb gm gs) w w') : Upd (RcT w R rb gm gs c) w w' := u.mono (fun _ _ h => Or.inr ⟨hp, h⟩)
theorem IsRc.setMk (h : IsRc w R rl base rb gm gs c) (hp : c.ph ≠ 0) {y : Mk} (hI : IsRk w' base rb gm gs y) (hO : Ok y) (hn : y.n = c.N) (u : Upd (MkT w rb gm gs) w w') : IsRc w' R rl base rb gm gs { c with mr := y } := by
  have hT := fun j => (h.rk hp).mkt (j := j)
  obtain ⟨⟨mp, k1, k2⟩, k3, k4, k5, k6⟩ := h
  obtain ⟨n1, n2, n3⟩ := k5
  exact ⟨⟨mp, k1.upd u (fun e => by have := hT _ e; omega), k2⟩, k3.upd u (fun e => by have := hT _ e; omega), fun _ => hI, ⟨n1, n2, n3⟩, ⟨k6.ph, fun _ => ⟨hO, hn⟩, k6.pg, k6.N⟩⟩
theorem IsRc.setPh (h : IsRc w R rl base rb gm gs c) (hp0 : c.ph ≠ 0) (p : Nat) (hp : p ≤ 3) : IsRc (w.setCell ⟨R, 2, none⟩ (.int .i64 (p : Int))) R rl base rb gm gs { c with ph := p } := by
  obtain ⟨⟨mp, k1, k2⟩, k3, k4, k5, k6⟩ := h
  obtain ⟨n1, n2, n3⟩ := k5
  have u : Upd (fun i => i = R) w (w.setCell ⟨R, 2, none⟩ (.int .i64 (p : Int))) := (Upd.refl _ _).at _ _
  exact ⟨⟨mp, k1.set 2 _, fun _ => k2 hp0⟩, k3.upd u (by omega), fun _ => (k4 hp0).upd u (fun k hk e => by omega), ⟨n1, n2, n3⟩, ⟨hp, fun _ => k6.ok hp0, k6.pg, k6.N⟩⟩
theorem IsRc.setPg (h : IsRc w R rl base rb gm gs c) (p : Nat) (hp : p ≤ 100) : IsRc (w.setCell ⟨R, 5, none⟩ (.int .i64 (p : Int))) R rl base rb gm gs { c with pg := p } := by
  obtain ⟨⟨mp, k1, k2⟩, k3, k4, k5, k6⟩ := h
  obtain ⟨n1, n2, n3⟩ := k5
  have u : Upd (fun i => i = R) w (w.setCell ⟨R, 5, none⟩ (.int .i64 (p : Int))) := (Upd.refl _ _).at _ _
  exact ⟨⟨mp, k1.set 5 _, k2⟩, k3.upd u (by omega), fun h => (k4 h).upd u (fun k hk e => by omega), ⟨n1, n2, n3⟩, ⟨k6.ph, k6.ok, hp, k6.N⟩⟩
theorem up_rc (i : Nat) (v : Value) : Upd (RcT w R rb gm gs c) w' (w'.setCell ⟨R, i, none⟩ v) := (Upd.refl _ _).setCell (fun _ => Or.inl rfl) _
end

set_option maxRecDepth 100000 in
set_option maxHeartbeats 1000000 in
theorem rc_Shade {w : World} {R rl base rb gm gs : Nat} {c : Cy} (h : IsRc w R rl base rb gm gs c) (b : Int) : Calls Try.prog 40 #[.pointer (some ⟨R, 0, none⟩), .int .i64 b] w (RcPost w R rl base rb gm gs c (c.shade b) (.bool (c.shades b))) := by
  obtain ⟨N, room, ph, ep, mk, pg⟩ := c
  have hph := h.ok.ph
  simp only at hph
  have h4 : ph = 0 ∨ ph = 1 ∨ ph = 2 ∨ ph = 3 := by omega
  clear hph
  rcases h4 with rfl | rfl | rfl | rfl
  · have hfin : RcPost w R rl base rb gm gs (⟨N, room, 0, ep, mk, pg⟩ : Cy) ((⟨N, room, 0, ep, mk, pg⟩ : Cy).shade b) (.bool ((⟨N, room, 0, ep, mk, pg⟩ : Cy).shades b)) (.returned (.bool false)) w := ⟨rfl, h, Upd.refl _ _, McT.refl _ _ _ _ _⟩
    obtain ⟨mp, k1, k2⟩ := h.hd
    have c2 := k1.cell 2 rfl
    change w.cell? _ = some (.int .i64 0) at c2
    have Hhfin := Lib.hid hfin; clear hfin
    have Hh := Lib.hid h; clear h
    have Hk1 := Lib.hid k1; clear k1
    go_enter Try.func40, Try.ntmps40
    go_wp2_with fail
    go_ret
    exact Hhfin.out
  · obtain ⟨hO, hn⟩ := h.ok.ok (by simp)
    obtain ⟨mp, k1, k2⟩ := h.hd
    rw [k2 (by simp)] at k1
    have c2 := k1.cell 2 rfl
    change w.cell? _ = some (.int .i64 1) at c2
    have c4 := k1.cell 4 rfl
    have hp : (⟨N, room, 1, ep, mk, pg⟩ : Cy).ph ≠ 0 := by simp
    have hS := rm_Shade (h.rk (by simp)) b
    unfold RmPost at hS
    have hk := fun w' y hI hO hn u => h.setMk hp (w' := w') (y := y) hI hO hn u
    have hsh : (⟨N, room, 1, ep, mk, pg⟩ : Cy).shades b = offB mk.n mk.m b := by unfold Cy.shades; simp
    unfold Cy.shade
    rw [hsh]
    have hOs := ok_shade hO b
    have hns := (shade_same mk b).1.trans hn
    cases hoff : offB mk.n mk.m b
    · have hm : mk.shade b = mk := by unfold Mk.shade; rw [hoff]; rfl
      have hS : Calls Try.prog 67 #[.pointer (some ⟨rb, 0, none⟩), .int .i64 b] w (fun e w' => e = .returned (.bool (offB mk.n mk.m b)) ∧ IsRk w' base rb gm gs (mk.shade b) ∧ Upd (MkT w rb gm gs) w w' ∧ ∀ j, MkT w' rb gm gs j → MkT w rb gm gs j ∨ w.heap.size ≤ j) := hS
      rw [hoff, hm] at hS
      rw [if_neg (by simp)]
      have HhS := Lib.hid hS; clear hS
      have Hhk := Lib.hid hk; clear hk
      have Hh := Lib.hid h; clear h
      have Hk1 := Lib.hid k1; clear k1
      clear hsh hoff hm
      go_enter Try.func40, Try.ntmps40
      go_wp2_with (go_at_call 67; (with_reducible refine HhS.out.mono ?_); rintro e w3 ⟨rfl, hI3, hu3, hf3⟩; have HF := Lib.hid hf3; clear hf3; have Hf := Lib.hid (Hhk.out w3 mk hI3 hO hn hu3); have Hu := Lib.hid hu3; clear hI3 hu3)
      go_ret
      exact ⟨rfl, Hf.out, up_rm hp Hu.out, fun _ => ⟨hp, HF.out⟩⟩
    · have hS : Calls Try.prog 67 #[.pointer (some ⟨rb, 0, none⟩), .int .i64 b] w (fun e w' => e = .returned (.bool (offB mk.n mk.m b)) ∧ IsRk w' base rb gm gs (mk.shade b) ∧ Upd (MkT w rb gm gs) w w' ∧ ∀ j, MkT w' rb gm gs j → MkT w rb gm gs j ∨ w.heap.size ≤ j) := hS
      rw [hoff] at hS
      rw [if_pos rfl]
      generalize mk.shade b = y at *
      have HhS := Lib.hid hS; clear hS
      have Hhk := Lib.hid hk; clear hk
      have Hh := Lib.hid h; clear h
      have Hk1 := Lib.hid k1; clear k1
      clear hsh hoff
      go_enter Try.func40, Try.ntmps40
      go_wp2_with (go_at_call 67; (with_reducible refine HhS.out.mono ?_); rintro e w3 ⟨rfl, hI3, hu3, hf3⟩; have HF := Lib.hid hf3; clear hf3; have Hf := Lib.hid (Hhk.out w3 y hI3 hOs hns hu3); have Hu := Lib.hid hu3; obtain ⟨mp3, k3, -⟩ := Hf.out.hd; have q2 := k3.cell 2 rfl; have q2f := k3.free 2; clear hI3 hu3 k3)
      go_ret
      exact ⟨rfl, Hf.out.setPh (by simp) 1 (by decide), (up_rm hp Hu.out).trans (up_rc 2 _), fun _ => ⟨hp, fun j e => HF.out j (mkt_back ((Upd.refl (fun i => i = R) w3).at 2 (.int .i64 1)) (Hf.out.rk (by simp)).lt.2.2 (fun e => by have := (Hf.out.rk (by simp)).ge.2.2; have := Hf.out.ne.1; omega) e)⟩⟩
  · obtain ⟨hO, hn⟩ := h.ok.ok (by simp)
    obtain ⟨mp, k1, k2⟩ := h.hd
    rw [k2 (by simp)] at k1
    have c2 := k1.cell 2 rfl
    change w.cell? _ = some (.int .i64 2) at c2
    have c4 := k1.cell 4 rfl
    have hp : (⟨N, room, 2, ep, mk, pg⟩ : Cy).ph ≠ 0 := by simp
    have hS := rm_Shade (h.rk (by simp)) b
    unfold RmPost at hS
    have hk := fun w' y hI hO hn u => h.setMk hp (w' := w') (y := y) hI hO hn u
    have hsh : (⟨N, room, 2, ep, mk, pg⟩ : Cy).shades b = offB mk.n mk.m b := by unfold Cy.shades; simp
    unfold Cy.shade
    rw [hsh]
    have hOs := ok_shade hO b
    have hns := (shade_same mk b).1.trans hn
    cases hoff : offB mk.n mk.m b
    · have hm : mk.shade b = mk := by unfold Mk.shade; rw [hoff]; rfl
      have hS : Calls Try.prog 67 #[.pointer (some ⟨rb, 0, none⟩), .int .i64 b] w (fun e w' => e = .returned (.bool (offB mk.n mk.m b)) ∧ IsRk w' base rb gm gs (mk.shade b) ∧ Upd (MkT w rb gm gs) w w' ∧ ∀ j, MkT w' rb gm gs j → MkT w rb gm gs j ∨ w.heap.size ≤ j) := hS
      rw [hoff, hm] at hS
      rw [if_neg (by simp)]
      have HhS := Lib.hid hS; clear hS
      have Hhk := Lib.hid hk; clear hk
      have Hh := Lib.hid h; clear h
      have Hk1 := Lib.hid k1; clear k1
      clear hsh hoff hm
      go_enter Try.func40, Try.ntmps40
      go_wp2_with (go_at_call 67; (with_reducible refine HhS.out.mono ?_); rintro e w3 ⟨rfl, hI3, hu3, hf3⟩; have HF := Lib.hid hf3; clear hf3; have Hf := Lib.hid (Hhk.out w3 mk hI3 hO hn hu3); have Hu := Lib.hid hu3; clear hI3 hu3)
      go_ret
      exact ⟨rfl, Hf.out, up_rm hp Hu.out, fun _ => ⟨hp, HF.out⟩⟩
    · have hS : Calls Try.prog 67 #[.pointer (some ⟨rb, 0, none⟩), .int .i64 b] w (fun e w' => e = .returned (.bool (offB mk.n mk.m b)) ∧ IsRk w' base rb gm gs (mk.shade b) ∧ Upd (MkT w rb gm gs) w w' ∧ ∀ j, MkT w' rb gm gs j → MkT w rb gm gs j ∨ w.heap.size ≤ j) := hS
      rw [hoff] at hS
      rw [if_pos rfl]
      generalize mk.shade b = y at *
      have HhS := Lib.hid hS; clear hS
      have Hhk := Lib.hid hk; clear hk
      have Hh := Lib.hid h; clear h
      have Hk1 := Lib.hid k1; clear k1
      clear hsh hoff
      go_enter Try.func40, Try.ntmps40
      go_wp2_with (go_at_call 67; (with_reducible refine HhS.out.mono ?_); rintro e w3 ⟨rfl, hI3, hu3, hf3⟩; have HF := Lib.hid hf3; clear hf3; have Hf := Lib.hid (Hhk.out w3 y hI3 hOs hns hu3); have Hu := Lib.hid hu3; obtain ⟨mp3, k3, -⟩ := Hf.out.hd; have q2 := k3.cell 2 rfl; have q2f := k3.free 2; clear hI3 hu3 k3)
      go_ret
      exact ⟨rfl, Hf.out.setPh (by simp) 1 (by decide), (up_rm hp Hu.out).trans (up_rc 2 _), fun _ => ⟨hp, fun j e => HF.out j (mkt_back ((Upd.refl (fun i => i = R) w3).at 2 (.int .i64 1)) (Hf.out.rk (by simp)).lt.2.2 (fun e => by have := (Hf.out.rk (by simp)).ge.2.2; have := Hf.out.ne.1; omega) e)⟩⟩
  · have hfin : RcPost w R rl base rb gm gs (⟨N, room, 3, ep, mk, pg⟩ : Cy) ((⟨N, room, 3, ep, mk, pg⟩ : Cy).shade b) (.bool ((⟨N, room, 3, ep, mk, pg⟩ : Cy).shades b)) (.returned (.bool false)) w := ⟨rfl, h, Upd.refl _ _, McT.refl _ _ _ _ _⟩
    obtain ⟨mp, k1, k2⟩ := h.hd
    have c2 := k1.cell 2 rfl
    change w.cell? _ = some (.int .i64 3) at c2
    have Hhfin := Lib.hid hfin; clear hfin
    have Hh := Lib.hid h; clear h
    have Hk1 := Lib.hid k1; clear k1
    go_enter Try.func40, Try.ntmps40
    go_wp2_with fail
    go_ret
    exact Hhfin.out

set_option maxRecDepth 100000 in
set_option maxHeartbeats 1000000 in
theorem rc_Alloc {w : World} {R rl base rb gm gs : Nat} {c : Cy} (h : IsRc w R rl base rb gm gs c) (b : Int) : Calls Try.prog 41 #[.pointer (some ⟨R, 0, none⟩), .int .i64 b] w (RcPost w R rl base rb gm gs c (c.alloc b) (.bool (c.allocs b))) := by
  obtain ⟨N, room, ph, ep, mk, pg⟩ := c
  have hph := h.ok.ph
  simp only at hph
  have h4 : ph = 0 ∨ ph = 1 ∨ ph = 2 ∨ ph = 3 := by omega
  clear hph
  rcases h4 with rfl | rfl | rfl | rfl
  · have hfin : RcPost w R rl base rb gm gs (⟨N, room, 0, ep, mk, pg⟩ : Cy) ((⟨N, room, 0, ep, mk, pg⟩ : Cy).alloc b) (.bool ((⟨N, room, 0, ep, mk, pg⟩ : Cy).allocs b)) (.returned (.bool false)) w := ⟨rfl, h, Upd.refl _ _, McT.refl _ _ _ _ _⟩
    obtain ⟨mp, k1, k2⟩ := h.hd
    have c2 := k1.cell 2 rfl
    change w.cell? _ = some (.int .i64 0) at c2
    have Hhfin := Lib.hid hfin; clear hfin
    have Hh := Lib.hid h; clear h
    have Hk1 := Lib.hid k1; clear k1
    go_enter Try.func41, Try.ntmps41
    go_wp2_with fail
    go_ret
    exact Hhfin.out
  · obtain ⟨hO, hn⟩ := h.ok.ok (by simp)
    obtain ⟨mp, k1, k2⟩ := h.hd
    rw [k2 (by simp)] at k1
    have c2 := k1.cell 2 rfl
    change w.cell? _ = some (.int .i64 1) at c2
    have c4 := k1.cell 4 rfl
    have hp : (⟨N, room, 1, ep, mk, pg⟩ : Cy).ph ≠ 0 := by simp
    have hS := rm_Black (h.rk (by simp)) b
    unfold RmPost at hS
    have hk := fun w' y hI hO hn u => h.setMk hp (w' := w') (y := y) hI hO hn u
    have hsh : (⟨N, room, 1, ep, mk, pg⟩ : Cy).allocs b = offB mk.n mk.m b := by unfold Cy.allocs; simp
    have hal : (⟨N, room, 1, ep, mk, pg⟩ : Cy).alloc b = ⟨N, room, 1, ep, mk.black b, pg⟩ := by unfold Cy.alloc; rw [if_pos hp]
    rw [hsh, hal]
    have hOs := ok_black hO b
    have hns := (black_same mk b).trans hn
    have hS : Calls Try.prog 66 #[.pointer (some ⟨rb, 0, none⟩), .int .i64 b] w (fun e w' => e = .returned (.bool (offB mk.n mk.m b)) ∧ IsRk w' base rb gm gs (mk.black b) ∧ Upd (MkT w rb gm gs) w w' ∧ ∀ j, MkT w' rb gm gs j → MkT w rb gm gs j ∨ w.heap.size ≤ j) := hS
    generalize offB mk.n mk.m b = r at *
    generalize mk.black b = y at *
    have HhS := Lib.hid hS; clear hS
    have Hhk := Lib.hid hk; clear hk
    have Hh := Lib.hid h; clear h
    have Hk1 := Lib.hid k1; clear k1
    clear hsh hal
    go_enter Try.func41, Try.ntmps41
    go_wp2_with (go_at_call 66; (with_reducible refine HhS.out.mono ?_); rintro e w3 ⟨rfl, hI3, hu3, hf3⟩; have HF := Lib.hid hf3; clear hf3; have Hf := Lib.hid (Hhk.out w3 y hI3 hOs hns hu3); have Hu := Lib.hid hu3; clear hI3 hu3)
    go_ret
    exact ⟨rfl, Hf.out, up_rm hp Hu.out, fun _ => ⟨hp, HF.out⟩⟩
  · obtain ⟨hO, hn⟩ := h.ok.ok (by simp)
    obtain ⟨mp, k1, k2⟩ := h.hd
    rw [k2 (by simp)] at k1
    have c2 := k1.cell 2 rfl
    change w.cell? _ = some (.int .i64 2) at c2
    have c4 := k1.cell 4 rfl
    have hp : (⟨N, room, 2, ep, mk, pg⟩ : Cy).ph ≠ 0 := by simp
    have hS := rm_Black (h.rk (by simp)) b
    unfold RmPost at hS
    have hk := fun w' y hI hO hn u => h.setMk hp (w' := w') (y := y) hI hO hn u
    have hsh : (⟨N, room, 2, ep, mk, pg⟩ : Cy).allocs b = offB mk.n mk.m b := by unfold Cy.allocs; simp
    have hal : (⟨N, room, 2, ep, mk, pg⟩ : Cy).alloc b = ⟨N, room, 2, ep, mk.black b, pg⟩ := by unfold Cy.alloc; rw [if_pos hp]
    rw [hsh, hal]
    have hOs := ok_black hO b
    have hns := (black_same mk b).trans hn
    have hS : Calls Try.prog 66 #[.pointer (some ⟨rb, 0, none⟩), .int .i64 b] w (fun e w' => e = .returned (.bool (offB mk.n mk.m b)) ∧ IsRk w' base rb gm gs (mk.black b) ∧ Upd (MkT w rb gm gs) w w' ∧ ∀ j, MkT w' rb gm gs j → MkT w rb gm gs j ∨ w.heap.size ≤ j) := hS
    generalize offB mk.n mk.m b = r at *
    generalize mk.black b = y at *
    have HhS := Lib.hid hS; clear hS
    have Hhk := Lib.hid hk; clear hk
    have Hh := Lib.hid h; clear h
    have Hk1 := Lib.hid k1; clear k1
    clear hsh hal
    go_enter Try.func41, Try.ntmps41
    go_wp2_with (go_at_call 66; (with_reducible refine HhS.out.mono ?_); rintro e w3 ⟨rfl, hI3, hu3, hf3⟩; have HF := Lib.hid hf3; clear hf3; have Hf := Lib.hid (Hhk.out w3 y hI3 hOs hns hu3); have Hu := Lib.hid hu3; clear hI3 hu3)
    go_ret
    exact ⟨rfl, Hf.out, up_rm hp Hu.out, fun _ => ⟨hp, HF.out⟩⟩
  · obtain ⟨hO, hn⟩ := h.ok.ok (by simp)
    obtain ⟨mp, k1, k2⟩ := h.hd
    rw [k2 (by simp)] at k1
    have c2 := k1.cell 2 rfl
    change w.cell? _ = some (.int .i64 3) at c2
    have c4 := k1.cell 4 rfl
    have hp : (⟨N, room, 3, ep, mk, pg⟩ : Cy).ph ≠ 0 := by simp
    have hS := rm_Black (h.rk (by simp)) b
    unfold RmPost at hS
    have hk := fun w' y hI hO hn u => h.setMk hp (w' := w') (y := y) hI hO hn u
    have hsh : (⟨N, room, 3, ep, mk, pg⟩ : Cy).allocs b = offB mk.n mk.m b := by unfold Cy.allocs; simp
    have hal : (⟨N, room, 3, ep, mk, pg⟩ : Cy).alloc b = ⟨N, room, 3, ep, mk.black b, pg⟩ := by unfold Cy.alloc; rw [if_pos hp]
    rw [hsh, hal]
    have hOs := ok_black hO b
    have hns := (black_same mk b).trans hn
    have hS : Calls Try.prog 66 #[.pointer (some ⟨rb, 0, none⟩), .int .i64 b] w (fun e w' => e = .returned (.bool (offB mk.n mk.m b)) ∧ IsRk w' base rb gm gs (mk.black b) ∧ Upd (MkT w rb gm gs) w w' ∧ ∀ j, MkT w' rb gm gs j → MkT w rb gm gs j ∨ w.heap.size ≤ j) := hS
    generalize offB mk.n mk.m b = r at *
    generalize mk.black b = y at *
    have HhS := Lib.hid hS; clear hS
    have Hhk := Lib.hid hk; clear hk
    have Hh := Lib.hid h; clear h
    have Hk1 := Lib.hid k1; clear k1
    clear hsh hal
    go_enter Try.func41, Try.ntmps41
    go_wp2_with (go_at_call 66; (with_reducible refine HhS.out.mono ?_); rintro e w3 ⟨rfl, hI3, hu3, hf3⟩; have HF := Lib.hid hf3; clear hf3; have Hf := Lib.hid (Hhk.out w3 y hI3 hOs hns hu3); have Hu := Lib.hid hu3; clear hI3 hu3)
    go_ret
    exact ⟨rfl, Hf.out, up_rm hp Hu.out, fun _ => ⟨hp, HF.out⟩⟩

set_option maxRecDepth 100000 in
set_option maxHeartbeats 1000000 in
theorem rc_Marked {w : World} {R rl base rb gm gs : Nat} {c : Cy} (h : IsRc w R rl base rb gm gs c) (b : Int) : Calls Try.prog 45 #[.pointer (some ⟨R, 0, none⟩), .int .i64 b] w (Same w (.bool (c.marked b))) := by
  obtain ⟨N, room, ph, ep, mk, pg⟩ := c
  have hph := h.ok.ph
  simp only at hph
  have h4 : ph = 0 ∨ ph = 1 ∨ ph = 2 ∨ ph = 3 := by omega
  clear hph
  rcases h4 with rfl | rfl | rfl | rfl
  · have hfin : Same w (.bool ((⟨N, room, 0, ep, mk, pg⟩ : Cy).marked b)) (.returned (.bool false)) w := ⟨rfl, rfl⟩
    obtain ⟨mp, k1, k2⟩ := h.hd
    have c2 := k1.cell 2 rfl
    change w.cell? _ = some (.int .i64 0) at c2
    have Hhfin := Lib.hid hfin; clear hfin
    have Hh := Lib.hid h; clear h
    have Hk1 := Lib.hid k1; clear k1
    go_enter Try.func45, Try.ntmps45
    go_wp2_with fail
    go_ret
    exact Hhfin.out
  · obtain ⟨hO, hn⟩ := h.ok.ok (by simp)
    obtain ⟨mp, k1, k2⟩ := h.hd
    rw [k2 (by simp)] at k1
    have c2 := k1.cell 2 rfl
    change w.cell? _ = some (.int .i64 1) at c2
    have c4 := k1.cell 4 rfl
    have hp : (⟨N, room, 1, ep, mk, pg⟩ : Cy).ph ≠ 0 := by simp
    have hk := h.rk (by simp)
    obtain ⟨a, c, h1, h2⟩ := hk.st
    have d0 := h1.cell 0 rfl
    have hA := ref_at hk.mm.r b
    have hsh : (⟨N, room, 1, ep, mk, pg⟩ : Cy).marked b = bitI mk.n mk.m b := by unfold Cy.marked; simp
    rw [hsh]
    change w.cell? _ = some (.slice (some ⟨gm, 0, none⟩) mk.n mk.n) at d0
    change Calls Try.prog 53 #[.slice (some ⟨gm, 0, none⟩) mk.n mk.n, .int .i64 b] w (Same w (.bool (bitI mk.n mk.m b))) at hA
    generalize bitI mk.n mk.m b = r at *
    clear hn
    generalize mk.n = q at *
    have HhA := Lib.hid hA; clear hA
    have Hhk := Lib.hid hk; clear hk
    have Hh := Lib.hid h; clear h
    have Hk1 := Lib.hid k1; clear k1
    have Hh1 := Lib.hid h1; clear h1
    have Hh2 := Lib.hid h2; clear h2
    clear hsh
    go_enter Try.func45, Try.ntmps45
    go_wp2_with (go_at_call 53; (with_reducible refine HhA.out.mono ?_); rintro e w3 ⟨rfl, rfl⟩)
    go_ret
    exact ⟨rfl, rfl⟩
  · obtain ⟨hO, hn⟩ := h.ok.ok (by simp)
    obtain ⟨mp, k1, k2⟩ := h.hd
    rw [k2 (by simp)] at k1
    have c2 := k1.cell 2 rfl
    change w.cell? _ = some (.int .i64 2) at c2
    have c4 := k1.cell 4 rfl
    have hp : (⟨N, room, 2, ep, mk, pg⟩ : Cy).ph ≠ 0 := by simp
    have hk := h.rk (by simp)
    obtain ⟨a, c, h1, h2⟩ := hk.st
    have d0 := h1.cell 0 rfl
    have hA := ref_at hk.mm.r b
    have hsh : (⟨N, room, 2, ep, mk, pg⟩ : Cy).marked b = bitI mk.n mk.m b := by unfold Cy.marked; simp
    rw [hsh]
    change w.cell? _ = some (.slice (some ⟨gm, 0, none⟩) mk.n mk.n) at d0
    change Calls Try.prog 53 #[.slice (some ⟨gm, 0, none⟩) mk.n mk.n, .int .i64 b] w (Same w (.bool (bitI mk.n mk.m b))) at hA
    generalize bitI mk.n mk.m b = r at *
    clear hn
    generalize mk.n = q at *
    have HhA := Lib.hid hA; clear hA
    have Hhk := Lib.hid hk; clear hk
    have Hh := Lib.hid h; clear h
    have Hk1 := Lib.hid k1; clear k1
    have Hh1 := Lib.hid h1; clear h1
    have Hh2 := Lib.hid h2; clear h2
    clear hsh
    go_enter Try.func45, Try.ntmps45
    go_wp2_with (go_at_call 53; (with_reducible refine HhA.out.mono ?_); rintro e w3 ⟨rfl, rfl⟩)
    go_ret
    exact ⟨rfl, rfl⟩
  · obtain ⟨hO, hn⟩ := h.ok.ok (by simp)
    obtain ⟨mp, k1, k2⟩ := h.hd
    rw [k2 (by simp)] at k1
    have c2 := k1.cell 2 rfl
    change w.cell? _ = some (.int .i64 3) at c2
    have c4 := k1.cell 4 rfl
    have hp : (⟨N, room, 3, ep, mk, pg⟩ : Cy).ph ≠ 0 := by simp
    have hk := h.rk (by simp)
    obtain ⟨a, c, h1, h2⟩ := hk.st
    have d0 := h1.cell 0 rfl
    have hA := ref_at hk.mm.r b
    have hsh : (⟨N, room, 3, ep, mk, pg⟩ : Cy).marked b = bitI mk.n mk.m b := by unfold Cy.marked; simp
    rw [hsh]
    change w.cell? _ = some (.slice (some ⟨gm, 0, none⟩) mk.n mk.n) at d0
    change Calls Try.prog 53 #[.slice (some ⟨gm, 0, none⟩) mk.n mk.n, .int .i64 b] w (Same w (.bool (bitI mk.n mk.m b))) at hA
    generalize bitI mk.n mk.m b = r at *
    clear hn
    generalize mk.n = q at *
    have HhA := Lib.hid hA; clear hA
    have Hhk := Lib.hid hk; clear hk
    have Hh := Lib.hid h; clear h
    have Hk1 := Lib.hid k1; clear k1
    have Hh1 := Lib.hid h1; clear h1
    have Hh2 := Lib.hid h2; clear h2
    clear hsh
    go_enter Try.func45, Try.ntmps45
    go_wp2_with (go_at_call 53; (with_reducible refine HhA.out.mono ?_); rintro e w3 ⟨rfl, rfl⟩)
    go_ret
    exact ⟨rfl, rfl⟩
end Go.Proofs.Ythaicpjgmplgcaa

/- The document's collector: Begin. -/




namespace Go.Proofs.Ythaicpjgmplgcaa
open Go.RowKit Go.ChangeShapes Go.WideShapes
set_option linter.unusedVariables false

/-- A collection that is being begun. -/
structure Rg (w : World) (R rl base rb gm gs : Nat) (N : Nat) (room ep : Int) (pg : Nat) (x : Mk) (wr : World) : Prop where
  hd : Blk wr R [.pointer (some ⟨rl, 0, none⟩), .int .i64 room, .int .i64 1, .int .i64 (ep + 1), .pointer (some ⟨rb, 0, none⟩), .int .i64 (pg : Int)] 70
  lay : IsRl wr rl N
  rk : IsRk wr base rb gm gs x
  ok : Ok x
  n : x.n = N
  up : Upd (fun j => j = R) w wr
  ge : w.heap.size ≤ base
  lt : R < w.heap.size ∧ rl < w.heap.size
theorem Rg.next {w wr w2 : World} {R rl base rb gm gs : Nat} {N : Nat} {room ep : Int} {pg : Nat} {x y : Mk} (h : Rg w R rl base rb gm gs N room ep pg x wr) (hI : IsRk w2 base rb gm gs y) (hO : Ok y) (hn : y.n = x.n) (u : Upd (MkT wr rb gm gs) wr w2) : Rg w R rl base rb gm gs N room ep pg y w2 := by
  have hT := fun j => h.rk.mkt (j := j)
  have hge := h.ge
  obtain ⟨l1, l2⟩ := h.lt
  exact ⟨h.hd.upd u (fun e => by have := hT _ e; omega), h.lay.upd u (fun e => by have := hT _ e; omega), hI, hO, hn.trans h.n, h.up.own u (fun i e => by have := hT _ e; omega), h.ge, ⟨l1, l2⟩⟩
def BeginR (w : World) (R rl : Nat) (d : Cy) (e : Ending) (w' : World) : Prop :=
  e = .returned (.bool true) ∧ ∃ base rb gm gs, IsRc w' R rl base rb gm gs d ∧ w.heap.size ≤ base ∧ Upd (fun j => j = R) w w'
set_option maxRecDepth 100000 in
set_option maxHeartbeats 1000000 in
theorem rc_Begin_no {w : World} {R rl base rb gm gs : Nat} {c : Cy} (h : IsRc w R rl base rb gm gs c) (hp : c.ph ≠ 0) (v1 v2 : Value) : Calls Try.prog 39 #[.pointer (some ⟨R, 0, none⟩), v1, v2] w (Same w (.bool false)) := by
  obtain ⟨mp, k1, -⟩ := h.hd
  have c2 := k1.cell 2 rfl
  have e1 : ((c.ph : Int) != 0) = true := by simp; omega
  generalize (c.ph : Int) = p at *
  have Hh := Lib.hid h; clear h
  have Hk1 := Lib.hid k1; clear k1
  clear hp
  go_enter Try.func39, Try.ntmps39
  go_wp2
  go_ret
  exact ⟨rfl, rfl⟩
theorem cell_set_blk {w : World} {b b2 i j : Nat} {v x : Value} (h : w.cell? ⟨b2, j, none⟩ = some x) (hne : b ≠ b2) : (w.setCell ⟨b, i, none⟩ v).cell? ⟨b2, j, none⟩ = some x := by
  have u : Upd (fun k => k = b) w (w.setCell ⟨b, i, none⟩ v) := (Upd.refl _ _).at _ _
  have hlt := World.block_lt_of_cell? w _ h
  have hb := u.block b2 hlt (fun e => hne e.symm)
  unfold World.cell? at h ⊢
  rw [hb]
  exact h
def RB (w w' : World) (R rl : Nat) (room : Int) (N : Nat) : Prop := Upd (fun _ => False) w w' ∧ w'.cell? ⟨R, 0, none⟩ = some (.pointer (some ⟨rl, 0, none⟩)) ∧ w'.cell? ⟨R, 1, none⟩ = some (.int .i64 room) ∧ w'.cell? ⟨rl, 18, none⟩ = some (.int .i64 (N : Int))
theorem rb_later {w w' w2 : World} {R rl : Nat} {room : Int} {N : Nat} (h : RB w w' R rl room N) (u : Upd (fun _ => False) w' w2) : RB w w2 R rl room N :=
  ⟨h.1.trans u, (u.none.cell (World.block_lt_of_cell? w' _ h.2.1)).trans h.2.1, (u.none.cell (World.block_lt_of_cell? w' _ h.2.2.1)).trans h.2.2.1, (u.none.cell (World.block_lt_of_cell? w' _ h.2.2.2)).trans h.2.2.2⟩
set_option maxRecDepth 100000 in
set_option maxHeartbeats 2000000 in
theorem rc_Begin {w : World} {R rl base rb gm gs : Nat} {c : Cy} (h : IsRc w R rl base rb gm gs c) (hp : c.ph = 0) (he : 0 ≤ c.ep ∧ c.ep ≤ 1000000) (v1 v2 : Value) (roots black : List Int) (h1 : IntsR w v1 .i64 roots) (h2 : IntsR w v2 .i64 black) (hC : ∀ w', Upd (fun j => j = R) w w' → IntsR w' v1 .i64 roots ∧ IntsR w' v2 .i64 black) (l1 : roots.length ≤ 100000) (l2 : black.length ≤ 100000) :
    Calls Try.prog 39 #[.pointer (some ⟨R, 0, none⟩), v1, v2] w (BeginR w R rl (c.begin_ roots black)) := by
  obtain ⟨N, room, ph, ep, mk, pg⟩ := c
  simp only at hp he
  subst hp
  obtain ⟨⟨mp, k1, -⟩, hL, -, hne, hok⟩ := h
  simp only at k1 hL
  have hN2 : N ≤ 160 := hok.N
  have hrl : rl < w.heap.size := by obtain ⟨l, hB, -⟩ := hL; exact hB.lt
  have hlt := k1.lt
  have c2 := k1.cell 2 rfl
  have c3 := k1.cell 3 rfl
  have f2 := k1.free 2
  have f3 := k1.free 3
  change w.cell? _ = some (.int .i64 0) at c2
  change w.cell? _ = some (.int .i64 ep) at c3
  have k2 := (k1.set 2 (.int .i64 1)).set 3 (.int .i64 (ep + 1))
  have k2 : Blk ((w.setCell ⟨R, 2, none⟩ (.int .i64 1)).setCell ⟨R, 3, none⟩ (.int .i64 (ep + 1))) R [.pointer (some ⟨rl, 0, none⟩), .int .i64 room, .int .i64 1, .int .i64 (ep + 1), .pointer mp, .int .i64 (pg : Int)] 70 := k2
  have u2 : Upd (fun i => i = R) w ((w.setCell ⟨R, 2, none⟩ (.int .i64 1)).setCell ⟨R, 3, none⟩ (.int .i64 (ep + 1))) := ((Upd.refl _ _).at _ _).at _ _
  have hL2 := hL.upd u2 (by have := hne.2.2; omega)
  obtain ⟨va1, vc1, hv1, -⟩ := (show RowsIn w v1 1 roots.length _ from h1)
  obtain ⟨va2, vc2, hv2, -⟩ := (show RowsIn w v2 1 black.length _ from h2)
  subst hv1 hv2
  have l1I : (roots.length : Int) ≤ 100000 := by omega
  have l2I : (black.length : Int) ≤ 100000 := by omega
  have heI : ep ≤ 1000000 := he.2
  have heI0 : 0 ≤ ep := he.1
  have Hk1 := Lib.hid k1; clear k1
  have Hk2 := Lib.hid k2; clear k2
  have Hu2 := Lib.hid u2; clear u2
  have HhL := Lib.hid hL; clear hL
  have HhL2 := Lib.hid hL2; clear hL2
  have Hhne := Lib.hid hne; clear hne
  have Hhok := Lib.hid hok; clear hok
  have Hh1 := Lib.hid h1; clear h1
  have Hh2 := Lib.hid h2; clear h2
  have HhC := Lib.hid hC; clear hC
  have Hhlt := Lib.hid hlt; clear hlt
  have Hhrl := Lib.hid hrl; clear hrl
  have HhN2 := Lib.hid hN2; clear hN2
  clear he
  go_enter Try.func39, Try.ntmps39
  go_wp2_with fail
  obtain ⟨wb, hwb⟩ : ∃ wb, wb = (w.setCell ⟨R, 2, none⟩ (.int .i64 1)).setCell ⟨R, 3, none⟩ (.int .i64 (ep + 1)) := ⟨_, rfl⟩
  rw [← hwb] at Hk2 Hu2 HhL2 ⊢
  clear hwb
  have d0 := Hk2.out.cell 0 rfl
  have d1 := Hk2.out.cell 1 rfl
  have d4 := HhL2.out.cell
  have dd0 : wb.drew.cell? ⟨R, 0, none⟩ = some (.pointer (some ⟨rl, 0, none⟩)) := d0
  have dd1 : wb.drew.cell? ⟨R, 1, none⟩ = some (.int .i64 room) := d1
  have dd4 : wb.drew.cell? ⟨rl, 18, none⟩ = some (.int .i64 (N : Int)) := d4
  have hu0 := (Upd.refl (fun _ => False) wb).drew
  have hnc := fun w' (h : Upd (fun _ => False) wb w') (ca : w'.cell? ⟨R, 0, none⟩ = some (.pointer (some ⟨rl, 0, none⟩))) (cb : w'.cell? ⟨R, 1, none⟩ = some (.int .i64 room)) (cc : w'.cell? ⟨rl, 18, none⟩ = some (.int .i64 (N : Int))) => (rk_New (N : Int) room w').mono (R' := fun e w2 => ∃ rb gm gs, e = .returned (.pointer (some ⟨rb, 0, none⟩)) ∧ (IsRk w2 w'.heap.size rb gm gs (mkNew N room) ∧ wb.heap.size ≤ w'.heap.size ∧ w2.cell? ⟨R, 4, none⟩ = some (.pointer mp) ∧ w2.frozen? ⟨R, 4, none⟩ = false) ∧ RB wb w2 R rl room N) fun e w2 ⟨rb, gm, gs, q1, q2, q3⟩ => ⟨rb, gm, gs, q1, ⟨(by rw [show (max 0 (min (N : Int) 1048576)).toNat = N from by have := HhN2.out; omega] at q2; exact q2), h.size, (Hk2.out.upd (h.trans q3) (fun x => x)).cell 4 rfl, (Hk2.out.upd (h.trans q3) (fun x => x)).free 4⟩, rb_later ⟨h, ca, cb, cc⟩ q3⟩
  unfold RB at hnc
  have Hhnc := Lib.hid hnc; clear hnc
  clear c2 c3 f2 f3
  refine wp_hide (fun Q2 hQ2 => ?_)
  go_region_held3 (fun w' => w'.cell? ⟨R, 0, none⟩ = some (.pointer (some ⟨rl, 0, none⟩)) ∧ w'.cell? ⟨R, 1, none⟩ = some (.int .i64 room) ∧ w'.cell? ⟨rl, 18, none⟩ = some (.int .i64 (N : Int)))
    (((try go_split_ands); first | exact ⟨by assumption, by assumption, by assumption⟩ | exact ⟨cell_set_other hca3 (by decide), cell_set_other hcb3 (by decide), cell_set_blk hcc3 Hhne.out.2.2⟩))
    (((try go_split_ands); (go_at_call 65; (with_reducible refine (Hhnc.out _ (by assumption) (by assumption) (by assumption) (by assumption)).mono ?_); rintro e w3 ⟨rb', gm', gs', rfl, ⟨hI3, hz3, hcm3, hfm3⟩, hu3, hca3, hcb3, hcc3⟩)))
  rw [hQ2.out]
  obtain ⟨bs, hbs⟩ : ∃ bs, bs = wb.drew.heap.size := ⟨_, rfl⟩
  have u3 : Upd (fun i => i = R) w3 (w3.setCell ⟨R, 4, none⟩ (.pointer (some ⟨rb', 0, none⟩))) := (Upd.refl _ _).at _ _
  rw [← hbs] at hI3 hz3
  have hge : w.heap.size ≤ bs := Nat.le_trans Hu2.out.size hz3
  have hlt := Hhlt.out
  have hrl := Hhrl.out
  have hbg : Rg w R rl bs rb' gm' gs' N room ep pg (mkNew N room) (w3.setCell ⟨R, 4, none⟩ (.pointer (some ⟨rb', 0, none⟩))) :=
    ⟨(Hk2.out.upd hu3 (fun x => x)).set 4 _, (HhL2.out.upd hu3 (fun x => x)).upd u3 (fun e => Hhne.out.2.2 e.symm), hI3.upd u3 (fun k hk e => by omega), mkNew_ok N room, rfl, (Hu2.out.trans (hu3.mono (fun _ _ h => h.elim))).trans u3, hge, ⟨hlt, hrl⟩⟩
  generalize w3.setCell ⟨R, 4, none⟩ (.pointer (some ⟨rb', 0, none⟩)) = W1 at *
  clear hQ2 dd0 dd1 dd4 hu0 hI3 hz3 hcm3 hfm3 hu3 hca3 hcb3 hcc3 u3 d0 d1 d4 Hhnc hbs hge hlt hrl Hk2 HhL2 Hu2
  have Hhbg := Lib.hid hbg; clear hbg
  go_upto_block 0 with fail
  go_cut [44] (fun i wx => Rg w R rl bs rb' gm' gs' N room ep pg (black.foldl Mk.black (mkNew N room)) wx)
  case first =>
    go_wp2_with fail
    go_loopw [44] (fun i wr => ∃ j : Nat, i = .int .i64 j ∧ j ≤ black.length ∧ Rg w R rl bs rb' gm' gs' N room ep pg ((black.take j).foldl Mk.black (mkNew N room)) wr) (fun i _ => (black.length - intOf i).toNat)
    case atStart => exact ⟨0, rfl, Nat.zero_le _, Hhbg.out⟩
    case round =>
      obtain ⟨j, rfl, hj, hg⟩ := hrel
      clear Hhbg
      by_cases hjl : j = black.length
      · have e1 : ¬ ((j : Int) < black.length) := by omega
        rw [hjl, List.take_length] at hg
        have Hhg := Lib.hid hg; clear hg
        clear hjl
        go_wp2_with fail
        go_meet
        exact Hhg.out
      · have e1 : (j : Int) < black.length := by omega
        have hj3 : j < black.length := by omega
        obtain ⟨q0, off, hix, hcc⟩ := int_atR (HhC.out wr hg.up).2 hj3
        have hcell := hcc wr (Below.refl _ _)
        have hst : (black.take (j + 1)).foldl Mk.black (mkNew N room) = ((black.take j).foldl Mk.black (mkNew N room)).black (black.getD j 0) := by
          rw [List.take_succ_eq_append_getElem hj3, List.foldl_append]
          simp [List.getD, hj3]
        have hop := rm_Black hg.rk (black.getD j 0)
        unfold RmPost at hop
        have hO := ok_black hg.ok (black.getD j 0)
        have hn := black_same ((black.take j).foldl Mk.black (mkNew N room)) (black.getD j 0)
        have c4 := hg.hd.cell 4 rfl
        rw [← hst] at hop hO hn
        generalize offB ((black.take j).foldl Mk.black (mkNew N room)).n ((black.take j).foldl Mk.black (mkNew N room)).m (black.getD j 0) = r at *
        generalize black.getD j 0 = b at *
        have Hhop := Lib.hid hop; clear hop
        have Hhg := Lib.hid hg; clear hg
        have Hhst := Lib.hid hst; clear hst
        have HhO := Lib.hid hO; clear hO
        have Hhn := Lib.hid hn; clear hn
        clear hjl hcc
        go_wp2_with (go_at_call 66; (with_reducible refine Hhop.out.mono ?_); rintro e w4 ⟨rfl, hI4, hu4, -⟩; have Hg4 := Lib.hid (Rg.next Hhg.out hI4 HhO.out Hhn.out hu4); clear hI4 hu4)
        go_roundw
        case rel => exact ⟨j + 1, by go_num, by omega, Hg4.out⟩
        case measure => simp [intOf]; omega
  case rest =>
    obtain ⟨hg⟩ : Nonempty (Rg w R rl bs rb' gm' gs' N room ep pg (black.foldl Mk.black (mkNew N room)) wc) := ⟨hcut⟩
    clear Hhbg
    have Hhg := Lib.hid hg; clear hg
    go_upto_block 2 with fail
    obtain ⟨x0, hx0⟩ : ∃ x0, black.foldl Mk.black (mkNew N room) = x0 := ⟨_, rfl⟩
    rw [hx0] at Hhg
    have Hhx0 := Lib.hid hx0; clear hx0
    go_cut [57] (fun i wx => Rg w R rl bs rb' gm' gs' N room ep pg (roots.foldl Mk.shade x0) wx)
    case first =>
      go_wp2_with fail
      go_loopw [57] (fun i wr => ∃ j : Nat, i = .int .i64 j ∧ j ≤ roots.length ∧ Rg w R rl bs rb' gm' gs' N room ep pg ((roots.take j).foldl Mk.shade x0) wr) (fun i _ => (roots.length - intOf i).toNat)
      case atStart => exact ⟨0, rfl, Nat.zero_le _, Hhg.out⟩
      case round =>
        obtain ⟨j, rfl, hj, hg⟩ := hrel
        clear Hhg
        by_cases hjl : j = roots.length
        · have e1 : ¬ ((j : Int) < roots.length) := by omega
          rw [hjl, List.take_length] at hg
          have Hhg := Lib.hid hg; clear hg
          clear hjl
          go_wp2_with fail
          go_meet
          exact Hhg.out
        · have e1 : (j : Int) < roots.length := by omega
          have hj3 : j < roots.length := by omega
          obtain ⟨q0, off, hix, hcc⟩ := int_atR (HhC.out wr hg.up).1 hj3
          have hcell := hcc wr (Below.refl _ _)
          have hst : (roots.take (j + 1)).foldl Mk.shade x0 = ((roots.take j).foldl Mk.shade x0).shade (roots.getD j 0) := by
            rw [List.take_succ_eq_append_getElem hj3, List.foldl_append]
            simp [List.getD, hj3]
          have hop := rm_Shade hg.rk (roots.getD j 0)
          unfold RmPost at hop
          have hO := ok_shade hg.ok (roots.getD j 0)
          have hn := (shade_same ((roots.take j).foldl Mk.shade x0) (roots.getD j 0)).1
          have c4 := hg.hd.cell 4 rfl
          rw [← hst] at hop hO hn
          generalize offB ((roots.take j).foldl Mk.shade x0).n ((roots.take j).foldl Mk.shade x0).m (roots.getD j 0) = r at *
          generalize roots.getD j 0 = b at *
          have Hhop := Lib.hid hop; clear hop
          have Hhg := Lib.hid hg; clear hg
          have Hhst := Lib.hid hst; clear hst
          have HhO := Lib.hid hO; clear hO
          have Hhn := Lib.hid hn; clear hn
          clear hjl hcc
          go_wp2_with (go_at_call 67; (with_reducible refine Hhop.out.mono ?_); rintro e w4 ⟨rfl, hI4, hu4, -⟩; have Hg4 := Lib.hid (Rg.next Hhg.out hI4 HhO.out Hhn.out hu4); clear hI4 hu4)
          go_roundw
          case rel => exact ⟨j + 1, by go_num, by omega, Hg4.out⟩
          case measure => simp [intOf]; omega
    case rest =>
      obtain ⟨hg2⟩ : Nonempty (Rg w R rl bs rb' gm' gs' N room ep pg (roots.foldl Mk.shade x0) wc) := ⟨hcut⟩
      clear Hhg
      have Hhg2 := Lib.hid hg2; clear hg2
      go_wp2_with fail
      go_ret
      have hbe : (⟨N, room, 0, ep, mk, pg⟩ : Cy).begin_ roots black = ⟨N, room, 1, ep + 1, roots.foldl Mk.shade (black.foldl Mk.black (mkNew N room)), pg⟩ := rfl
      rw [hbe, Hhx0.out]
      have hok2 := Hhok.out.begin_ roots black
      rw [hbe, Hhx0.out] at hok2
      have hg := Hhg2.out
      have hge := hg.ge
      obtain ⟨p1, p2⟩ := hg.lt
      exact ⟨rfl, bs, rb', gm', gs', ⟨⟨_, hg.hd, fun _ => rfl⟩, hg.lay, fun _ => hg.rk, ⟨by omega, by omega, Hhne.out.2.2⟩, hok2⟩, hg.ge, hg.up⟩

end Go.Proofs.Ythaicpjgmplgcaa

/- The document's collector: its step. -/



namespace Go.Proofs.Ythaicpjgmplgcaa
open Go.RowKit Go.ChangeShapes Go.WideShapes
set_option linter.unusedVariables false

def RcStep (w : World) (R rl base rb gm gs : Nat) (c : Cy) (xs ys : List Int) (d : Cy) (e : Ending) (w' : World) : Prop :=
  ∃ a1 c1 a2 c2, e = .returned (.tuple #[.slice a1 xs.length c1, .slice a2 ys.length c2]) ∧ IntsR w' (.slice a1 xs.length c1) .i64 xs ∧ IntsR w' (.slice a2 ys.length c2) .i64 ys ∧ IsRc w' R rl base rb gm gs d ∧ Upd (RcT w R rb gm gs c) w w' ∧ McT w w' rb gm gs c d
theorem ints_none (w : World) : IntsR w (.slice none 0 0) .i64 [] := ⟨none, 0, rfl, Nat.le_refl _, Nat.zero_le _, fun h => absurd h (Nat.lt_irrefl _)⟩
theorem up_R {w w' : World} {R rb gm gs : Nat} {c : Cy} (u : Upd (fun j => j = R) w w') : Upd (RcT w R rb gm gs c) w w' := u.mono (fun _ _ h => Or.inl h)

set_option maxRecDepth 100000 in
set_option maxHeartbeats 2000000 in
theorem rc_Step {W w : World} {R rl base rb gm gs : Nat} {c : Cy} (h : IsRc w R rl base rb gm gs c) (hpg : c.pg ≤ 50) {v : Value} {tt : List (List Int)} (hM : MatIn W v tt) (hW : Below W.heap.size W w) (hB : W.heap.size ≤ base) (hlb : tt.length ≤ 1000 ∧ ∀ l ∈ tt, l.length ≤ 1000)
    {wv : Value} {ws : List Int} (hws : ∀ w', Upd (fun j => j = R) w w' → IntsR w' wv .i64 ws) (hwl : ws.length ≤ 1000) {pu : Value} {u : Int → Bool} (hu : AtAs w pu u) :
    Calls Try.prog 42 #[.pointer (some ⟨R, 0, none⟩), v, wv, pu] w (RcStep w R rl base rb gm gs c (c.weaks ws) (c.blocks u) (c.step (refsOf tt))) := by
  obtain ⟨ta, tc, htv⟩ := mat_shape hM
  subst htv
  obtain ⟨wa, wc, hwv, -⟩ := (show RowsIn w wv 1 ws.length _ from hws w (Upd.refl _ _))
  subst hwv
  obtain ⟨N, room, ph, ep, mk, pg⟩ := c
  have hph := h.ok.ph
  simp only at hph hpg
  have h4 : ph = 0 ∨ ph = 1 ∨ ph = 2 ∨ ph = 3 := by omega
  clear hph
  rcases h4 with rfl | rfl | rfl | rfl
  · skip
    have hwe : (⟨N, room, 0, ep, mk, pg⟩ : Cy).weaks ws = [] := rfl
    have hbe : (⟨N, room, 0, ep, mk, pg⟩ : Cy).blocks u = [] := rfl
    have hse : (⟨N, room, 0, ep, mk, pg⟩ : Cy).step (refsOf tt) = (⟨N, room, 0, ep, mk, pg⟩ : Cy) := rfl
    rw [hwe, hbe, hse]
    clear hwe hbe hse
    obtain ⟨mp, k1, k2⟩ := h.hd
    have c2 := k1.cell 2 rfl
    change w.cell? _ = some (.int .i64 0) at c2
    have hn := ints_none w
    have Hh := Lib.hid h; clear h
    have Hk1 := Lib.hid k1; clear k1
    have HhM := Lib.hid hM; clear hM
    have HhW := Lib.hid hW; clear hW
    have HhB := Lib.hid hB; clear hB
    have Hhlb := Lib.hid hlb; clear hlb
    have Hhws := Lib.hid hws; clear hws
    have Hhu := Lib.hid hu; clear hu
    have Hhn := Lib.hid hn; clear hn
    clear k2
    go_enter Try.func42, Try.ntmps42
    go_wp2_with fail
    go_ret2
    exact ⟨none, 0, none, 0, rfl, Hhn.out, Hhn.out, Hh.out, Upd.refl _ _, McT.refl _ _ _ _ _⟩
  · skip
    have hwe : (⟨N, room, 1, ep, mk, pg⟩ : Cy).weaks ws = [] := rfl
    have hbe : (⟨N, room, 1, ep, mk, pg⟩ : Cy).blocks u = [] := rfl
    have hse : (⟨N, room, 1, ep, mk, pg⟩ : Cy).step (refsOf tt) = ⟨N, room, if mk.done then 2 else 1, ep, mk.step (refsOf tt), pg⟩ := rfl
    rw [hwe, hbe, hse]
    clear hwe hbe hse
    obtain ⟨hO, hn⟩ := h.ok.ok (by simp)
    have hp : (⟨N, room, 1, ep, mk, pg⟩ : Cy).ph ≠ 0 := by simp
    obtain ⟨mp, k1, k2⟩ := h.hd
    rw [k2 (by simp)] at k1
    have c2 := k1.cell 2 rfl
    change w.cell? _ = some (.int .i64 1) at c2
    have c4 := k1.cell 4 rfl
    have hS := rm_Step (h.rk (by simp)) hO hM hW hB hlb
    unfold RmPost at hS
    have hS : Calls Try.prog 68 #[.pointer (some ⟨rb, 0, none⟩), .slice ta tt.length tc] w (fun e w' => e = .returned (.bool (!mk.done)) ∧ IsRk w' base rb gm gs (mk.step (refsOf tt)) ∧ Upd (MkT w rb gm gs) w w' ∧ ∀ j, MkT w' rb gm gs j → MkT w rb gm gs j ∨ w.heap.size ≤ j) := hS
    have hO2 := step_ok hO (refsOf tt)
    have hn2 := (step_n hO (refsOf tt)).trans hn
    have hk := fun w' y hI hO hn u => h.setMk hp (w' := w') (y := y) hI hO hn u
    generalize mk.step (refsOf tt) = y at *
    generalize hde : mk.done = dn at *
    have Hh := Lib.hid h; clear h
    have Hk1 := Lib.hid k1; clear k1
    have HhM := Lib.hid hM; clear hM
    have HhW := Lib.hid hW; clear hW
    have HhB := Lib.hid hB; clear hB
    have Hhlb := Lib.hid hlb; clear hlb
    have Hhws := Lib.hid hws; clear hws
    have Hhu := Lib.hid hu; clear hu
    have HhS := Lib.hid hS; clear hS
    have Hhk := Lib.hid hk; clear hk
    have HhO2 := Lib.hid hO2; clear hO2
    have Hhn2 := Lib.hid hn2; clear hn2
    clear k2 hde hn
    cases dn
    · rw [if_neg (by simp)]
      go_enter Try.func42, Try.ntmps42
      go_wp2_with (go_at_call 68; (with_reducible refine HhS.out.mono ?_); rintro e w3 ⟨rfl, hI3, hu3, hf3⟩; have HF := Lib.hid hf3; clear hf3; have Hf := Lib.hid (Hhk.out w3 y hI3 HhO2.out Hhn2.out hu3); have Hu3 := Lib.hid hu3; clear hI3 hu3)
      go_ret2
      exact ⟨none, 0, none, 0, rfl, ints_none _, ints_none _, Hf.out, up_rm hp Hu3.out, fun _ => ⟨hp, HF.out⟩⟩
    · rw [if_pos rfl]
      go_enter Try.func42, Try.ntmps42
      go_wp2_with (go_at_call 68; (with_reducible refine HhS.out.mono ?_); rintro e w3 ⟨rfl, hI3, hu3, hf3⟩; have HF := Lib.hid hf3; clear hf3; have Hf := Lib.hid (Hhk.out w3 y hI3 HhO2.out Hhn2.out hu3); have Hu3 := Lib.hid hu3; obtain ⟨mp3, k3, -⟩ := Hf.out.hd; have q2 := k3.cell 2 rfl; have q2f := k3.free 2; clear hI3 hu3 k3)
      go_ret2
      exact ⟨none, 0, none, 0, rfl, ints_none _, ints_none _, Hf.out.setPh (by simp) 2 (by decide), (up_rm hp Hu3.out).trans (up_rc 2 _), fun _ => ⟨hp, fun j e => HF.out j (mkt_back ((Upd.refl (fun i => i = R) w3).at 2 (.int .i64 2)) (Hf.out.rk (by simp)).lt.2.2 (fun e => by have := (Hf.out.rk (by simp)).ge.2.2; have := Hf.out.ne.1; omega) e)⟩⟩
  · skip
    have hwe : (⟨N, room, 2, ep, mk, pg⟩ : Cy).weaks ws = weakL ws (bitI mk.n mk.m) := rfl
    have hbe : (⟨N, room, 2, ep, mk, pg⟩ : Cy).blocks u = [] := rfl
    have hse : (⟨N, room, 2, ep, mk, pg⟩ : Cy).step (refsOf tt) = ⟨N, room, 3, ep, mk, 0⟩ := rfl
    rw [hwe, hbe, hse]
    clear hwe hbe hse
    have hp : (⟨N, room, 2, ep, mk, pg⟩ : Cy).ph ≠ 0 := by simp
    obtain ⟨mp, k1, k2⟩ := h.hd
    rw [k2 (by simp)] at k1
    have c2 := k1.cell 2 rfl
    change w.cell? _ = some (.int .i64 2) at c2
    have f2 := k1.free 2
    have hne := h.ne.2.2
    have hfin : IsRc ((w.setCell ⟨R, 2, none⟩ (.int .i64 3)).setCell ⟨R, 5, none⟩ (.int .i64 0)) R rl base rb gm gs ⟨N, room, 3, ep, mk, 0⟩ := (h.setPh hp 3 (by decide)).setPg 0 (by decide)
    have u2 : Upd (fun i => i = R) w ((w.setCell ⟨R, 2, none⟩ (.int .i64 3)).setCell ⟨R, 5, none⟩ (.int .i64 0)) := ((Upd.refl _ _).at _ _).at _ _
    obtain ⟨mp2, k3, k4⟩ := hfin.hd
    have k4 : mp2 = some ⟨rb, 0, none⟩ := k4 (by simp)
    subst k4
    have c4 := k3.cell 4 rfl
    have hk := hfin.rk (by simp)
    obtain ⟨a, c, h1, h2⟩ := hk.st
    have d0 := h1.cell 0 rfl
    have hW3 := ref_Weak _ ws _ (bitI mk.n mk.m) hwl _ (hws _ u2) (at_bools hk.mm.r)
    unfold RetInts at hW3
    change World.cell? _ _ = some (.slice (some ⟨gm, 0, none⟩) mk.n mk.n) at d0
    have hf5 : (w.setCell ⟨R, 2, none⟩ (.int .i64 3)).frozen? ⟨R, 5, none⟩ = false := (k1.set 2 (.int .i64 3)).free 5
    have f5 := k1.free 5
    have c5 := k1.cell 5 rfl
    generalize hxs : weakL ws (bitI mk.n mk.m) = xs at *
    generalize mk.n = q at *
    have Hh := Lib.hid h; clear h
    have Hk1 := Lib.hid k1; clear k1
    have HhM := Lib.hid hM; clear hM
    have HhW := Lib.hid hW; clear hW
    have HhB := Lib.hid hB; clear hB
    have Hhlb := Lib.hid hlb; clear hlb
    have Hhws := Lib.hid hws; clear hws
    have Hhu := Lib.hid hu; clear hu
    have Hhfin := Lib.hid hfin; clear hfin
    have Hu2 := Lib.hid u2; clear u2
    have HhW3 := Lib.hid hW3; clear hW3
    have Hk3 := Lib.hid k3; clear k3
    have Hhk := Lib.hid hk; clear hk
    have Hh1 := Lib.hid h1; clear h1
    have Hh2 := Lib.hid h2; clear h2
    have Hhxs := Lib.hid hxs; clear hxs
    clear k2
    go_enter Try.func42, Try.ntmps42
    go_wp2_with (go_at_call 26; (with_reducible refine HhW3.out.mono ?_); rintro e w3 ⟨pa, pc, rfl, ho3, hu3⟩; have Ho3 := Lib.hid (ownsRow_intsR ho3); have Hu3 := Lib.hid hu3; clear ho3 hu3)
    go_ret2
    exact ⟨pa, pc, none, 0, rfl, Ho3.out, ints_none _, Hhfin.out.still Hu3.out, up_R (Hu2.out.trans (Hu3.out.mono (fun _ _ h => h.elim))), fun _ => ⟨hp, fun j e => Or.inl (mkt_back (Hu2.out.trans (Hu3.out.mono (fun _ _ h => h.elim))) (Hh.out.rk (by simp)).lt.2.2 (fun e => by have := (Hh.out.rk (by simp)).ge.2.2; have := Hh.out.ne.1; omega) e)⟩⟩
  · skip
    have hwe : (⟨N, room, 3, ep, mk, pg⟩ : Cy).weaks ws = [] := rfl
    have hbe : (⟨N, room, 3, ep, mk, pg⟩ : Cy).blocks u = pageL N u (bitI mk.n mk.m) pg := rfl
    have hse : (⟨N, room, 3, ep, mk, pg⟩ : Cy).step (refsOf tt) = ⟨N, room, if (N + 7) / 8 ≤ pg + 1 then 0 else 3, ep, mk, pg + 1⟩ := rfl
    rw [hwe, hbe, hse]
    clear hwe hbe hse
    obtain ⟨np, hnp⟩ : ∃ np, (if (N + 7) / 8 ≤ pg + 1 then 0 else 3) = np := ⟨_, rfl⟩
    rw [hnp]
    have hp : (⟨N, room, 3, ep, mk, pg⟩ : Cy).ph ≠ 0 := by simp
    obtain ⟨mp, k1, k2⟩ := h.hd
    rw [k2 (by simp)] at k1
    have c2 := k1.cell 2 rfl
    change w.cell? _ = some (.int .i64 3) at c2
    have hN2 : N ≤ 160 := h.ok.N
    have hk := h.rk (by simp)
    obtain ⟨a, c, h1, h2⟩ := hk.st
    have hnN : mk.n = N := (h.ok.ok hp).2
    have hpage := fun w' (k : Upd (fun _ => False) w w') => ref_Page (h.lay.upd k (fun x => x)) (by show N ≤ 200; omega) (hu.later k) (at_bools (hk.still k).mm.r) (pg : Int)
    unfold RetInts at hpage
    have hpgs := fun w' (k : Upd (fun j => j = R) w w') => ref_Pages (h.lay.upd k (fun e => h.ne.2.2 e.symm)) (by show N ≤ 200; omega)
    simp only at hpage hpgs
    have d0 := k1.cell 0 rfl
    have d4 := k1.cell 4 rfl
    have d5 := k1.cell 5 rfl
    have d8 := h1.cell 0 rfl
    change w.cell? _ = some (.slice (some ⟨gm, 0, none⟩) mk.n mk.n) at d8
    change w.cell? _ = some (.int .i64 (pg : Int)) at d5
    have dd0 : w.drew.cell? ⟨R, 0, none⟩ = some (.pointer (some ⟨rl, 0, none⟩)) := d0
    have dd4 : w.drew.cell? ⟨R, 4, none⟩ = some (.pointer (some ⟨rb, 0, none⟩)) := d4
    have dd5 : w.drew.cell? ⟨R, 5, none⟩ = some (.int .i64 (pg : Int)) := d5
    have dd8 : w.drew.cell? ⟨rb, 0, none⟩ = some (.slice (some ⟨gm, 0, none⟩) mk.n mk.n) := d8
    have hu0 := (Upd.refl (fun _ => False) w).drew
    have hcells := fun w' (k : Upd (fun _ => False) w w') => show w'.cell? ⟨R, 0, none⟩ = some (.pointer (some ⟨rl, 0, none⟩)) ∧ w'.cell? ⟨R, 4, none⟩ = some (.pointer (some ⟨rb, 0, none⟩)) ∧ w'.cell? ⟨R, 5, none⟩ = some (.int .i64 (pg : Int)) ∧ w'.cell? ⟨rb, 0, none⟩ = some (.slice (some ⟨gm, 0, none⟩) mk.n mk.n) from ⟨(k1.upd k (fun x => x)).cell 0 rfl, (k1.upd k (fun x => x)).cell 4 rfl, (k1.upd k (fun x => x)).cell 5 rfl, (h1.upd k (fun x => x)).cell 0 rfl⟩
    have hpgI : (pg : Int) ≤ 50 := by omega
    change ∀ w', Upd (fun _ => False) w w' → Calls Try.prog 20 #[.pointer (some ⟨rl, 0, none⟩), pu, .slice (some ⟨gm, 0, none⟩) mk.n mk.n, .int .i64 (pg : Int)] w' _ at hpage
    generalize pageL N u (bitI mk.n mk.m) (pg : Int) = xs at *
    have hbit := hk.mm
    generalize mk.n = q at d8 dd8 hcells hpage
    have Hk1 := Lib.hid k1; clear k1
    have Hh := Lib.hid h; clear h
    have HhM := Lib.hid hM; clear hM
    have HhW := Lib.hid hW; clear hW
    have HhB := Lib.hid hB; clear hB
    have Hhlb := Lib.hid hlb; clear hlb
    have Hhws := Lib.hid hws; clear hws
    have Hhu := Lib.hid hu; clear hu
    have Hhnp := Lib.hid hnp; clear hnp
    have Hhpage := Lib.hid hpage; clear hpage
    have Hhpgs := Lib.hid hpgs; clear hpgs
    have Hhcells := Lib.hid hcells; clear hcells
    have Hhk := Lib.hid hk; clear hk
    have Hh1 := Lib.hid h1; clear h1
    have Hh2 := Lib.hid h2; clear h2
    have Hhbit := Lib.hid hbit; clear hbit
    have HhnN := Lib.hid hnN; clear hnN
    clear k2
    go_enter Try.func42, Try.ntmps42
    go_wp2_with fail
    refine wp_hide (fun Q2 hQ2 => ?_)
    go_region_held3 (fun w' => w'.cell? ⟨R, 0, none⟩ = some (.pointer (some ⟨rl, 0, none⟩)) ∧ w'.cell? ⟨R, 4, none⟩ = some (.pointer (some ⟨rb, 0, none⟩)) ∧ w'.cell? ⟨R, 5, none⟩ = some (.int .i64 (pg : Int)) ∧ w'.cell? ⟨rb, 0, none⟩ = some (.slice (some ⟨gm, 0, none⟩) q q))
      (((try go_split_ands); exact ⟨by assumption, by assumption, by assumption, by assumption⟩))
      (((try go_split_ands); (go_at_call 20; (with_reducible refine (Hhpage.out _ (by assumption)).mono ?_); rintro e w3 ⟨pa, pc, rfl, hpo, hu3⟩; have hu3w := hu0.trans hu3; obtain ⟨ha3, hb3, hc3, hd3⟩ := Hhcells.out w3 hu3w)))
    rw [hQ2.out]
    have k3 := Hk1.out.upd hu3w (fun x => x)
    have hpo := ownsRow_base' hpo hu0.size
    have h3 := Hh.out.still hu3w
    have f5 := k3.free 5
    clear hQ2 dd0 dd4 dd5 dd8 hu0 d0 d4 d5 d8 c2 hu3 Hhpage Hhcells Hhu Hk1
    have k4 := k3.set 5 (.int .i64 ((pg : Int) + 1))
    have u4 : Upd (fun i => i = R) w3 (w3.setCell ⟨R, 5, none⟩ (.int .i64 ((pg : Int) + 1))) := (Upd.refl _ _).at _ _
    have h4 := h3.setPg (pg + 1) (by omega)
    have hlt := h3.hd
    have k1lt : R < w.heap.size := by obtain ⟨mp9, k9, -⟩ := Hh.out.hd; exact k9.lt
    have hpo4 := ownsRow_upd hpo u4 (fun j hj e => by omega)
    have u04 : Upd (fun j => j = R) w (w3.setCell ⟨R, 5, none⟩ (.int .i64 ((pg : Int) + 1))) := (hu3w.mono (fun _ _ h => h.elim)).trans u4
    have h4 : IsRc (w3.setCell ⟨R, 5, none⟩ (.int .i64 ((pg : Int) + 1))) R rl base rb gm gs ⟨N, room, 3, ep, mk, pg + 1⟩ := h4
    have Hk3 := Lib.hid k3; clear k3
    have Hu04 := Lib.hid u04; clear u04
    have Hh3 := Lib.hid h3; clear h3
    have Hh4 := Lib.hid h4; clear h4
    have Hhpo4 := Lib.hid hpo4; clear hpo4
    have Hk4 := Lib.hid k4; clear k4
    clear hpo hu3w u4 hlt
    go_wp2_with fail
    generalize w3.setCell ⟨R, 5, none⟩ (.int .i64 ((pg : Int) + 1)) = W4 at *
    have hk0 := fun (s : Later W4) => show s.val.cell? ⟨R, 0, none⟩ = _ from (Hk4.out.upd s.up (fun x => x)).cell 0 rfl
    have hk5 := fun (s : Later W4) => show s.val.cell? ⟨R, 5, none⟩ = _ from (Hk4.out.upd s.up (fun x => x)).cell 5 rfl
    have hpc := Lib.hid (fun w' (k : Upd (fun _ => False) W4 w') => (Hhpgs.out w' (Hu04.out.trans (k.mono (fun _ _ h => h.elim)))).mono (R' := fun e w2 => e = .returned (.int .i64 (((N + 7) / 8 : Nat) : Int)) ∧ Upd (fun _ => False) W4 w2) fun e w2 ⟨q1, q2⟩ => ⟨q1, q2 ▸ k⟩)
    obtain ⟨P, hPe⟩ : ∃ P, (N + 7) / 8 = P := ⟨_, rfl⟩
    rw [hPe] at hpc
    have hnp := Hhnp.out
    rw [hPe] at hnp
    clear Hhpgs hPe Hhnp
    by_cases hP : P ≤ pg + 1
    · have e1 : (P : Int) ≤ (pg : Int) + 1 := by omega
      rw [if_pos hP] at hnp
      subst hnp
      clear hP
      refine wp_region_later (by kernel_rfl) (by kernel_rfl) ?_
      repeat (go_big_quiet_step ((go_at_call 52; exact calls_later (hpc.out _ (Later.up _)))))
      refine wpQuiet_nil ?_
      intro w4 hw4
      have u5 : Upd (fun _ => False) W4 w4 := by
        obtain ⟨s, rfl⟩ := hw4
        exact s.up
      clear hw4
      clear hk0 hk5
      have k5 := Hk4.out.upd u5 (fun x => x)
      have f2 := k5.free 2
      have c2 := k5.cell 2 rfl
      have hfin := (Hh4.out.still u5).setPh (by simp) 0 (by decide)
      have u6 : Upd (fun i => i = R) w4 (w4.setCell ⟨R, 2, none⟩ (.int .i64 0)) := (Upd.refl _ _).at _ _
      have hpo6 := ownsRow_intsR (ownsRow_upd (ownsRow_upd Hhpo4.out u5 (fun _ _ x => x)) u6 (fun j hj e => by omega))
      have u06 := (Hu04.out.trans (u5.mono (fun _ _ h => h.elim))).trans u6
      have Hhfin := Lib.hid hfin; clear hfin
      have Hhpo6 := Lib.hid hpo6; clear hpo6
      have Hu06 := Lib.hid u06; clear u06
      have Hk5 := Lib.hid k5; clear k5
      clear u6
      go_wp2_with fail
      go_ret2
      exact ⟨none, 0, pa, pc, rfl, ints_none _, Hhpo6.out, Hhfin.out, up_R Hu06.out, fun _ => ⟨hp, fun j e => Or.inl (mkt_back (Hu06.out) (Hh.out.rk (by simp)).lt.2.2 (fun e => by have := (Hh.out.rk (by simp)).ge.2.2; have := Hh.out.ne.1; omega) e)⟩⟩
    · have e1 : ¬ ((P : Int) ≤ (pg : Int) + 1) := by omega
      rw [if_neg hP] at hnp
      subst hnp
      have e2 : decide ((P : Int) ≤ (pg : Int) + 1) = false := by simp; omega
      refine wp_region_later (by kernel_rfl) (by kernel_rfl) ?_
      repeat (go_big_quiet_step ((go_at_call 52; exact calls_later (hpc.out _ (Later.up _)))))
      refine wpQuiet_nil ?_
      intro w4 hw4
      have u5 : Upd (fun _ => False) W4 w4 := by
        obtain ⟨s, rfl⟩ := hw4
        exact s.up
      clear hw4
      clear hk0 hk5
      have hfin := Hh4.out.still u5
      have hpo6 := ownsRow_intsR (ownsRow_upd Hhpo4.out u5 (fun _ _ x => x))
      have u06 := Hu04.out.trans (u5.mono (fun _ _ h => h.elim))
      have Hhfin := Lib.hid hfin; clear hfin
      have Hhpo6 := Lib.hid hpo6; clear hpo6
      have Hu06 := Lib.hid u06; clear u06
      go_wp2_with fail
      go_ret2
      exact ⟨none, 0, pa, pc, rfl, ints_none _, Hhpo6.out, Hhfin.out, up_R Hu06.out, fun _ => ⟨hp, fun j e => Or.inl (mkt_back (Hu06.out) (Hh.out.rk (by simp)).lt.2.2 (fun e => by have := (Hh.out.rk (by simp)).ge.2.2; have := Hh.out.ne.1; omega) e)⟩⟩
end Go.Proofs.Ythaicpjgmplgcaa

