/- Package cycle: its functions' contracts. -/
import Derived.Test.YthaicpjgmplgcaaCycleP
import Derived.Test.YthaicpjgmplgcaaAwake20
import Derived.Deep.RegionHeld3
namespace Go.Proofs.Ythaicpjgmplgcaa
open Go.RowKit Go.ChangeShapes Go.WideShapes
set_option linter.unusedVariables false

/-- A collector in block C, of the layout in block L; its marker's blocks begin at B. -/
structure IsCy (w : World) (C L n0 n1 n2 n3 B : Nat) (c : Cy) : Prop where
  hd : ∃ mp, Blk w C [.pointer (some ⟨L, 0, none⟩), .int .i64 c.room, .int .i64 (c.ph : Int), .int .i64 c.ep, .pointer mp, .int .i64 (c.pg : Int)] 98 ∧ (c.ph ≠ 0 → mp = some ⟨B + 5, 0, none⟩)
  lay : IsLay w L n0 n1 n2 n3
  n : sumN n0 n1 n2 n3 = c.N
  b : n0 ≤ 40 ∧ n1 ≤ 40 ∧ n2 ≤ 40 ∧ n3 ≤ 40
  im : c.ph ≠ 0 → IsMk w B c.mr
  ne : L ≠ C ∧ ¬ InMk B C ∧ ¬ InMk B L
  ok : CyOk c

/-- Its own blocks. -/
def InCy (C B j : Nat) : Prop := j = C ∨ InMk B j
section
variable {w w' : World} {C L n0 n1 n2 n3 B : Nat} {c : Cy}
theorem IsCy.upd (h : IsCy w C L n0 n1 n2 n3 B c) {S : Nat → Prop} (u : Upd S w w') (h1 : ¬ S C) (h2 : ¬ S L) (h3 : ∀ k, InMk B k → ¬ S k) : IsCy w' C L n0 n1 n2 n3 B c := by
  obtain ⟨⟨mp, k1, k2⟩, k3, k4, k5, k6, k7, k8⟩ := h
  exact ⟨⟨mp, k1.upd u h1, k2⟩, k3.upd u h2, k4, k5, fun hp => (k6 hp).upd u h3, k7, k8⟩
theorem IsCy.still (h : IsCy w C L n0 n1 n2 n3 B c) (u : Upd (fun _ => False) w w') : IsCy w' C L n0 n1 n2 n3 B c := h.upd u (fun x => x) (fun x => x) (fun _ _ x => x)
theorem IsCy.lt (h : IsCy w C L n0 n1 n2 n3 B c) : C < w.heap.size := by
  obtain ⟨mp, k1, k2⟩ := h.hd
  exact k1.lt
theorem IsCy.bd (h : IsCy w C L n0 n1 n2 n3 B c) (hp : c.ph ≠ 0) : ∀ j, InCy C B j → j < w.heap.size := fun j hj => by
  rcases hj with rfl | hj
  · exact h.lt
  · have := (h.im hp).lt
    have := hj.2
    omega
end

def CyPost (w : World) (C L n0 n1 n2 n3 B : Nat) (d : Cy) (v : Value) (e : Ending) (w' : World) : Prop :=
  e = .returned v ∧ IsCy w' C L n0 n1 n2 n3 B d ∧ Upd (InCy C B) w w'

theorem cyc_Phase {w : World} {C L n0 n1 n2 n3 B : Nat} {c : Cy} (h : IsCy w C L n0 n1 n2 n3 B c) : Calls Try.prog 35 #[.pointer (some ⟨C, 0, none⟩)] w (Same w (.int .i64 (c.ph : Int))) := by
  obtain ⟨mp, k1, -⟩ := h.hd
  have c2 := k1.cell 2 rfl
  clear h k1
  generalize (c.ph : Int) = p at *
  go_enter Try.func35, Try.ntmps35
  go_wp2
  go_ret
  exact ⟨rfl, rfl⟩
theorem cyc_Epoch {w : World} {C L n0 n1 n2 n3 B : Nat} {c : Cy} (h : IsCy w C L n0 n1 n2 n3 B c) : Calls Try.prog 43 #[.pointer (some ⟨C, 0, none⟩)] w (Same w (.int .i64 c.ep)) := by
  obtain ⟨mp, k1, -⟩ := h.hd
  have c3 := k1.cell 3 rfl
  clear h k1
  go_enter Try.func43, Try.ntmps43
  go_wp2
  go_ret
  exact ⟨rfl, rfl⟩

theorem cyc_New {w : World} {L n0 n1 n2 n3 : Nat} (hL : IsLay w L n0 n1 n2 n3) (hb : n0 ≤ 40 ∧ n1 ≤ 40 ∧ n2 ≤ 40 ∧ n3 ≤ 40) (hlt : L < w.heap.size) (room : Int) (B : Nat) (hB : w.heap.size + 1 ≤ B) :
    Calls Try.prog 32 #[.pointer (some ⟨L, 0, none⟩), .int .i64 room] w (fun e w' => e = .returned (.pointer (some ⟨w.heap.size, 0, none⟩)) ∧ IsCy w' w.heap.size L n0 n1 n2 n3 B ⟨sumN n0 n1 n2 n3, room, 0, 0, mkNew 0 0, 0⟩ ∧ Upd (fun _ => False) w w') := by
  have hn := Blk.new w [.pointer (some ⟨L, 0, none⟩), .int .i64 room, .int .i64 0, .int .i64 0, .pointer none, .int .i64 0] 98
  have u : Upd (fun _ => False) w (w.alloc (.cells #[.pointer (some ⟨L, 0, none⟩), .int .i64 room, .int .i64 0, .int .i64 0, .pointer none, .int .i64 0] 98)) := (Upd.refl _ _).alloc _
  have hfin : IsCy (w.alloc (.cells #[.pointer (some ⟨L, 0, none⟩), .int .i64 room, .int .i64 0, .int .i64 0, .pointer none, .int .i64 0] 98)) w.heap.size L n0 n1 n2 n3 B ⟨sumN n0 n1 n2 n3, room, 0, 0, mkNew 0 0, 0⟩ :=
    ⟨⟨none, hn, fun h => absurd rfl h⟩, hL.upd u (fun x => x), rfl, hb, fun h => absurd rfl h, ⟨by omega, fun h => by have := h.1; omega, fun h => by have := h.1; omega⟩, ⟨by simp, fun h => absurd rfl h, by simp, by show sumN n0 n1 n2 n3 ≤ 160; unfold sumN; omega⟩⟩
  have Hhfin := Lib.hid hfin; clear hfin
  have Hu := Lib.hid u; clear u
  clear hn hL
  go_enter Try.func32, Try.ntmps32
  go_wp2
  go_ret
  exact ⟨rfl, Hhfin.out, Hu.out⟩

theorem IsCy.setMk {w w' : World} {C L n0 n1 n2 n3 B : Nat} {c : Cy} {y : Mk} (h : IsCy w C L n0 n1 n2 n3 B c) (hI : IsMk w' B y) (hO : Ok y) (hn : y.n = c.N) (u : Upd (InMk B) w w') : IsCy w' C L n0 n1 n2 n3 B { c with mr := y } := by
  obtain ⟨⟨mp, k1, k2⟩, k3, k4, k5, k6, k7, k8⟩ := h
  exact ⟨⟨mp, k1.upd u k7.2.1, k2⟩, k3.upd u k7.2.2, k4, k5, fun _ => hI, k7, ⟨k8.ph, fun _ => ⟨hO, hn⟩, k8.pg, k8.N⟩⟩
theorem IsCy.setPh {w : World} {C L n0 n1 n2 n3 B : Nat} {c : Cy} (h : IsCy w C L n0 n1 n2 n3 B c) (hp0 : c.ph ≠ 0) (p : Nat) (hp : p ≤ 3) : IsCy (w.setCell ⟨C, 2, none⟩ (.int .i64 (p : Int))) C L n0 n1 n2 n3 B { c with ph := p } := by
  obtain ⟨⟨mp, k1, k2⟩, k3, k4, k5, k6, k7, k8⟩ := h
  have u : Upd (fun i => i = C) w (w.setCell ⟨C, 2, none⟩ (.int .i64 (p : Int))) := (Upd.refl _ _).at _ _
  exact ⟨⟨mp, k1.set 2 _, fun _ => k2 hp0⟩, k3.upd u k7.1, k4, k5, fun _ => (k6 hp0).upd u (fun k hk e => k7.2.1 (e ▸ hk)), k7, ⟨hp, fun _ => k8.ok hp0, k8.pg, k8.N⟩⟩
theorem up_mk {w w' : World} {C B : Nat} (u : Upd (InMk B) w w') : Upd (InCy C B) w w' := u.mono (fun _ _ h => Or.inr h)
theorem up_hd {w : World} {C B : Nat} (i : Nat) (v : Value) : Upd (InCy C B) w (w.setCell ⟨C, i, none⟩ v) := (Upd.refl _ _).setCell (fun _ => Or.inl rfl) _
theorem up_no {w w' : World} {S : Nat → Prop} (u : Upd (fun _ => False) w w') : Upd S w w' := u.mono (fun _ _ h => h.elim)

set_option maxRecDepth 100000 in
set_option maxHeartbeats 1000000 in
theorem cyc_Shade {w : World} {C L n0 n1 n2 n3 B : Nat} {c : Cy} (h : IsCy w C L n0 n1 n2 n3 B c) (b : Int) :
    Calls Try.prog 37 #[.pointer (some ⟨C, 0, none⟩), .int .i64 b] w (CyPost w C L n0 n1 n2 n3 B (c.shade b) (.bool (c.shades b))) := by
  obtain ⟨N, room, ph, ep, mk, pg⟩ := c
  have hP := cyc_Phase h
  have hph := h.ok.ph
  simp only at hph hP
  have h4 : ph = 0 ∨ ph = 1 ∨ ph = 2 ∨ ph = 3 := by omega
  clear hph
  rcases h4 with rfl | rfl | rfl | rfl
  · have hP : Calls Try.prog 35 #[.pointer (some ⟨C, 0, none⟩)] w (Same w (.int .i64 0)) := hP
    have hfin : CyPost w C L n0 n1 n2 n3 B ((⟨N, room, 0, ep, mk, pg⟩ : Cy).shade b) (.bool ((⟨N, room, 0, ep, mk, pg⟩ : Cy).shades b)) (.returned (.bool false)) w := ⟨rfl, h, Upd.refl _ _⟩
    have HhP := Lib.hid hP; clear hP
    have Hhfin := Lib.hid hfin; clear hfin
    have Hh := Lib.hid h; clear h
    go_enter Try.func37, Try.ntmps37
    go_wp2_with (go_at_call 35; (with_reducible refine HhP.out.mono ?_); rintro e w2 ⟨rfl, rfl⟩)
    go_ret
    exact Hhfin.out
  · have hP : Calls Try.prog 35 #[.pointer (some ⟨C, 0, none⟩)] w (Same w (.int .i64 1)) := hP
    obtain ⟨hO, hn⟩ := h.ok.ok (by simp)
    obtain ⟨mp, k1, k2⟩ := h.hd
    rw [k2 (by simp)] at k1
    have c4 := k1.cell 4 rfl
    have hS := mark_Shade B b mk w (h.im (by simp))
    unfold MkPost at hS
    have hk := fun w' y hI hO hn u => h.setMk (w' := w') (y := y) hI hO hn u
    have hsh : (⟨N, room, 1, ep, mk, pg⟩ : Cy).shades b = offB mk.n mk.m b := by unfold Cy.shades; simp
    unfold Cy.shade
    rw [hsh]
    have hOs := ok_shade hO b
    have hns := (shade_same mk b).1.trans hn
    cases hoff : offB mk.n mk.m b
    · have hm : mk.shade b = mk := by unfold Mk.shade; rw [hoff]; rfl
      rw [hoff, hm] at hS
      rw [if_neg (by simp)]
      have HhP := Lib.hid hP; clear hP
      have HhS := Lib.hid hS; clear hS
      have Hhk := Lib.hid hk; clear hk
      have Hh := Lib.hid h; clear h
      have Hk1 := Lib.hid k1; clear k1
      clear hsh hoff hm
      go_enter Try.func37, Try.ntmps37
      go_wp2_with (first | (go_at_call 35; (with_reducible refine HhP.out.mono ?_); rintro e w2 ⟨rfl, rfl⟩) | (go_at_call 60; (with_reducible refine HhS.out.mono ?_); rintro e w3 ⟨rfl, hI3, hu3, -⟩; have Hf := Lib.hid (Hhk.out w3 mk hI3 hO hn hu3); have Hu := Lib.hid hu3; clear hI3 hu3))
      go_ret
      exact ⟨rfl, Hf.out, up_mk Hu.out⟩
    · rw [hoff] at hS
      rw [if_pos rfl]
      generalize mk.shade b = y at *
      have HhP := Lib.hid hP; clear hP
      have HhS := Lib.hid hS; clear hS
      have Hhk := Lib.hid hk; clear hk
      have Hh := Lib.hid h; clear h
      have Hk1 := Lib.hid k1; clear k1
      clear hsh hoff
      go_enter Try.func37, Try.ntmps37
      go_wp2_with (first | (go_at_call 35; (with_reducible refine HhP.out.mono ?_); rintro e w2 ⟨rfl, rfl⟩) | (go_at_call 60; (with_reducible refine HhS.out.mono ?_); rintro e w3 ⟨rfl, hI3, hu3, -⟩; have Hf := Lib.hid (Hhk.out w3 y hI3 hOs hns hu3); have Hu := Lib.hid hu3; obtain ⟨mp3, k3, -⟩ := Hf.out.hd; have q2 := k3.cell 2 rfl; have q2f := k3.free 2; clear hI3 hu3 k3))
      go_ret
      exact ⟨rfl, Hf.out.setPh (by simp) 1 (by decide), (up_mk Hu.out).trans (up_hd 2 _)⟩
  · have hP : Calls Try.prog 35 #[.pointer (some ⟨C, 0, none⟩)] w (Same w (.int .i64 2)) := hP
    obtain ⟨hO, hn⟩ := h.ok.ok (by simp)
    obtain ⟨mp, k1, k2⟩ := h.hd
    rw [k2 (by simp)] at k1
    have c4 := k1.cell 4 rfl
    have hS := mark_Shade B b mk w (h.im (by simp))
    unfold MkPost at hS
    have hk := fun w' y hI hO hn u => h.setMk (w' := w') (y := y) hI hO hn u
    have hsh : (⟨N, room, 2, ep, mk, pg⟩ : Cy).shades b = offB mk.n mk.m b := by unfold Cy.shades; simp
    unfold Cy.shade
    rw [hsh]
    have hOs := ok_shade hO b
    have hns := (shade_same mk b).1.trans hn
    cases hoff : offB mk.n mk.m b
    · have hm : mk.shade b = mk := by unfold Mk.shade; rw [hoff]; rfl
      rw [hoff, hm] at hS
      rw [if_neg (by simp)]
      have HhP := Lib.hid hP; clear hP
      have HhS := Lib.hid hS; clear hS
      have Hhk := Lib.hid hk; clear hk
      have Hh := Lib.hid h; clear h
      have Hk1 := Lib.hid k1; clear k1
      clear hsh hoff hm
      go_enter Try.func37, Try.ntmps37
      go_wp2_with (first | (go_at_call 35; (with_reducible refine HhP.out.mono ?_); rintro e w2 ⟨rfl, rfl⟩) | (go_at_call 60; (with_reducible refine HhS.out.mono ?_); rintro e w3 ⟨rfl, hI3, hu3, -⟩; have Hf := Lib.hid (Hhk.out w3 mk hI3 hO hn hu3); have Hu := Lib.hid hu3; clear hI3 hu3))
      go_ret
      exact ⟨rfl, Hf.out, up_mk Hu.out⟩
    · rw [hoff] at hS
      rw [if_pos rfl]
      generalize mk.shade b = y at *
      have HhP := Lib.hid hP; clear hP
      have HhS := Lib.hid hS; clear hS
      have Hhk := Lib.hid hk; clear hk
      have Hh := Lib.hid h; clear h
      have Hk1 := Lib.hid k1; clear k1
      clear hsh hoff
      go_enter Try.func37, Try.ntmps37
      go_wp2_with (first | (go_at_call 35; (with_reducible refine HhP.out.mono ?_); rintro e w2 ⟨rfl, rfl⟩) | (go_at_call 60; (with_reducible refine HhS.out.mono ?_); rintro e w3 ⟨rfl, hI3, hu3, -⟩; have Hf := Lib.hid (Hhk.out w3 y hI3 hOs hns hu3); have Hu := Lib.hid hu3; obtain ⟨mp3, k3, -⟩ := Hf.out.hd; have q2 := k3.cell 2 rfl; have q2f := k3.free 2; clear hI3 hu3 k3))
      go_ret
      exact ⟨rfl, Hf.out.setPh (by simp) 1 (by decide), (up_mk Hu.out).trans (up_hd 2 _)⟩
  · have hP : Calls Try.prog 35 #[.pointer (some ⟨C, 0, none⟩)] w (Same w (.int .i64 3)) := hP
    have hfin : CyPost w C L n0 n1 n2 n3 B ((⟨N, room, 3, ep, mk, pg⟩ : Cy).shade b) (.bool ((⟨N, room, 3, ep, mk, pg⟩ : Cy).shades b)) (.returned (.bool false)) w := ⟨rfl, h, Upd.refl _ _⟩
    have HhP := Lib.hid hP; clear hP
    have Hhfin := Lib.hid hfin; clear hfin
    have Hh := Lib.hid h; clear h
    go_enter Try.func37, Try.ntmps37
    go_wp2_with (go_at_call 35; (with_reducible refine HhP.out.mono ?_); rintro e w2 ⟨rfl, rfl⟩)
    go_ret
    exact Hhfin.out

set_option maxRecDepth 100000 in
set_option maxHeartbeats 1000000 in
theorem cyc_Alloc {w : World} {C L n0 n1 n2 n3 B : Nat} {c : Cy} (h : IsCy w C L n0 n1 n2 n3 B c) (b : Int) :
    Calls Try.prog 38 #[.pointer (some ⟨C, 0, none⟩), .int .i64 b] w (CyPost w C L n0 n1 n2 n3 B (c.alloc b) (.bool (c.allocs b))) := by
  obtain ⟨N, room, ph, ep, mk, pg⟩ := c
  have hP := cyc_Phase h
  have hph := h.ok.ph
  simp only at hph hP
  have h4 : ph = 0 ∨ ph = 1 ∨ ph = 2 ∨ ph = 3 := by omega
  clear hph
  rcases h4 with rfl | rfl | rfl | rfl
  · have hP : Calls Try.prog 35 #[.pointer (some ⟨C, 0, none⟩)] w (Same w (.int .i64 0)) := hP
    have hfin : CyPost w C L n0 n1 n2 n3 B ((⟨N, room, 0, ep, mk, pg⟩ : Cy).alloc b) (.bool ((⟨N, room, 0, ep, mk, pg⟩ : Cy).allocs b)) (.returned (.bool false)) w := ⟨rfl, h, Upd.refl _ _⟩
    have HhP := Lib.hid hP; clear hP
    have Hhfin := Lib.hid hfin; clear hfin
    have Hh := Lib.hid h; clear h
    go_enter Try.func38, Try.ntmps38
    go_wp2_with (go_at_call 35; (with_reducible refine HhP.out.mono ?_); rintro e w2 ⟨rfl, rfl⟩)
    go_ret
    exact Hhfin.out
  · have hP : Calls Try.prog 35 #[.pointer (some ⟨C, 0, none⟩)] w (Same w (.int .i64 1)) := hP
    obtain ⟨hO, hn⟩ := h.ok.ok (by simp)
    obtain ⟨mp, k1, k2⟩ := h.hd
    rw [k2 (by simp)] at k1
    have c4 := k1.cell 4 rfl
    have hS := mark_Black B b mk w (h.im (by simp))
    unfold MkPost at hS
    have hk := fun w' hI u => h.setMk (w' := w') (y := mk.black b) hI (ok_black hO b) ((black_same mk b).trans hn) u
    have hsh : (⟨N, room, 1, ep, mk, pg⟩ : Cy).allocs b = offB mk.n mk.m b := by unfold Cy.allocs; simp
    have hal : (⟨N, room, 1, ep, mk, pg⟩ : Cy).alloc b = ⟨N, room, 1, ep, mk.black b, pg⟩ := rfl
    rw [hsh, hal]
    generalize offB mk.n mk.m b = r at *
    generalize mk.black b = y at *
    have HhP := Lib.hid hP; clear hP
    have HhS := Lib.hid hS; clear hS
    have Hhk := Lib.hid hk; clear hk
    have Hh := Lib.hid h; clear h
    have Hk1 := Lib.hid k1; clear k1
    clear hsh hal
    go_enter Try.func38, Try.ntmps38
    go_wp2_with (first | (go_at_call 35; (with_reducible refine HhP.out.mono ?_); rintro e w2 ⟨rfl, rfl⟩) | (go_at_call 59; (with_reducible refine HhS.out.mono ?_); rintro e w3 ⟨rfl, hI3, hu3, -⟩; have Hf := Lib.hid (Hhk.out w3 hI3 hu3); have Hu := Lib.hid hu3; clear hI3 hu3))
    go_ret
    exact ⟨rfl, Hf.out, up_mk Hu.out⟩
  · have hP : Calls Try.prog 35 #[.pointer (some ⟨C, 0, none⟩)] w (Same w (.int .i64 2)) := hP
    obtain ⟨hO, hn⟩ := h.ok.ok (by simp)
    obtain ⟨mp, k1, k2⟩ := h.hd
    rw [k2 (by simp)] at k1
    have c4 := k1.cell 4 rfl
    have hS := mark_Black B b mk w (h.im (by simp))
    unfold MkPost at hS
    have hk := fun w' hI u => h.setMk (w' := w') (y := mk.black b) hI (ok_black hO b) ((black_same mk b).trans hn) u
    have hsh : (⟨N, room, 2, ep, mk, pg⟩ : Cy).allocs b = offB mk.n mk.m b := by unfold Cy.allocs; simp
    have hal : (⟨N, room, 2, ep, mk, pg⟩ : Cy).alloc b = ⟨N, room, 2, ep, mk.black b, pg⟩ := rfl
    rw [hsh, hal]
    generalize offB mk.n mk.m b = r at *
    generalize mk.black b = y at *
    have HhP := Lib.hid hP; clear hP
    have HhS := Lib.hid hS; clear hS
    have Hhk := Lib.hid hk; clear hk
    have Hh := Lib.hid h; clear h
    have Hk1 := Lib.hid k1; clear k1
    clear hsh hal
    go_enter Try.func38, Try.ntmps38
    go_wp2_with (first | (go_at_call 35; (with_reducible refine HhP.out.mono ?_); rintro e w2 ⟨rfl, rfl⟩) | (go_at_call 59; (with_reducible refine HhS.out.mono ?_); rintro e w3 ⟨rfl, hI3, hu3, -⟩; have Hf := Lib.hid (Hhk.out w3 hI3 hu3); have Hu := Lib.hid hu3; clear hI3 hu3))
    go_ret
    exact ⟨rfl, Hf.out, up_mk Hu.out⟩
  · have hP : Calls Try.prog 35 #[.pointer (some ⟨C, 0, none⟩)] w (Same w (.int .i64 3)) := hP
    obtain ⟨hO, hn⟩ := h.ok.ok (by simp)
    obtain ⟨mp, k1, k2⟩ := h.hd
    rw [k2 (by simp)] at k1
    have c4 := k1.cell 4 rfl
    have hS := mark_Black B b mk w (h.im (by simp))
    unfold MkPost at hS
    have hk := fun w' hI u => h.setMk (w' := w') (y := mk.black b) hI (ok_black hO b) ((black_same mk b).trans hn) u
    have hsh : (⟨N, room, 3, ep, mk, pg⟩ : Cy).allocs b = offB mk.n mk.m b := by unfold Cy.allocs; simp
    have hal : (⟨N, room, 3, ep, mk, pg⟩ : Cy).alloc b = ⟨N, room, 3, ep, mk.black b, pg⟩ := rfl
    rw [hsh, hal]
    generalize offB mk.n mk.m b = r at *
    generalize mk.black b = y at *
    have HhP := Lib.hid hP; clear hP
    have HhS := Lib.hid hS; clear hS
    have Hhk := Lib.hid hk; clear hk
    have Hh := Lib.hid h; clear h
    have Hk1 := Lib.hid k1; clear k1
    clear hsh hal
    go_enter Try.func38, Try.ntmps38
    go_wp2_with (first | (go_at_call 35; (with_reducible refine HhP.out.mono ?_); rintro e w2 ⟨rfl, rfl⟩) | (go_at_call 59; (with_reducible refine HhS.out.mono ?_); rintro e w3 ⟨rfl, hI3, hu3, -⟩; have Hf := Lib.hid (Hhk.out w3 hI3 hu3); have Hu := Lib.hid hu3; clear hI3 hu3))
    go_ret
    exact ⟨rfl, Hf.out, up_mk Hu.out⟩

set_option maxRecDepth 100000 in
set_option maxHeartbeats 1000000 in
theorem cyc_Marked {w : World} {C L n0 n1 n2 n3 B : Nat} {c : Cy} (h : IsCy w C L n0 n1 n2 n3 B c) (b : Int) :
    Calls Try.prog 44 #[.pointer (some ⟨C, 0, none⟩), .int .i64 b] w (Same w (.bool (c.marked b))) := by
  obtain ⟨N, room, ph, ep, mk, pg⟩ := c
  have hP := cyc_Phase h
  have hph := h.ok.ph
  simp only at hph hP
  have h4 : ph = 0 ∨ ph = 1 ∨ ph = 2 ∨ ph = 3 := by omega
  clear hph
  rcases h4 with rfl | rfl | rfl | rfl
  · have hP : Calls Try.prog 35 #[.pointer (some ⟨C, 0, none⟩)] w (Same w (.int .i64 0)) := hP
    have hfin : Same w (.bool ((⟨N, room, 0, ep, mk, pg⟩ : Cy).marked b)) (.returned (.bool false)) w := ⟨rfl, rfl⟩
    have HhP := Lib.hid hP; clear hP
    have Hhfin := Lib.hid hfin; clear hfin
    have Hh := Lib.hid h; clear h
    go_enter Try.func44, Try.ntmps44
    go_wp2_with (go_at_call 35; (with_reducible refine HhP.out.mono ?_); rintro e w2 ⟨rfl, rfl⟩)
    go_ret
    exact Hhfin.out
  · have hP : Calls Try.prog 35 #[.pointer (some ⟨C, 0, none⟩)] w (Same w (.int .i64 1)) := hP
    obtain ⟨mp, k1, k2⟩ := h.hd
    rw [k2 (by simp)] at k1
    have c4 := k1.cell 4 rfl
    have hS := mark_Marked B b mk w (h.im (by simp))
    have hsh : (⟨N, room, 1, ep, mk, pg⟩ : Cy).marked b = (decide (0 ≤ b ∧ b < mk.n) && mk.m b.toNat) := by unfold Cy.marked bitI; simp
    rw [hsh]
    generalize (decide (0 ≤ b ∧ b < mk.n) && mk.m b.toNat) = r at *
    have HhP := Lib.hid hP; clear hP
    have HhS := Lib.hid hS; clear hS
    have Hh := Lib.hid h; clear h
    have Hk1 := Lib.hid k1; clear k1
    clear hsh
    go_enter Try.func44, Try.ntmps44
    go_wp2_with (first | (go_at_call 35; (with_reducible refine HhP.out.mono ?_); rintro e w2 ⟨rfl, rfl⟩) | (go_at_call 69; (with_reducible refine HhS.out.mono ?_); rintro e w3 ⟨rfl, rfl⟩))
    go_ret
    exact ⟨rfl, rfl⟩
  · have hP : Calls Try.prog 35 #[.pointer (some ⟨C, 0, none⟩)] w (Same w (.int .i64 2)) := hP
    obtain ⟨mp, k1, k2⟩ := h.hd
    rw [k2 (by simp)] at k1
    have c4 := k1.cell 4 rfl
    have hS := mark_Marked B b mk w (h.im (by simp))
    have hsh : (⟨N, room, 2, ep, mk, pg⟩ : Cy).marked b = (decide (0 ≤ b ∧ b < mk.n) && mk.m b.toNat) := by unfold Cy.marked bitI; simp
    rw [hsh]
    generalize (decide (0 ≤ b ∧ b < mk.n) && mk.m b.toNat) = r at *
    have HhP := Lib.hid hP; clear hP
    have HhS := Lib.hid hS; clear hS
    have Hh := Lib.hid h; clear h
    have Hk1 := Lib.hid k1; clear k1
    clear hsh
    go_enter Try.func44, Try.ntmps44
    go_wp2_with (first | (go_at_call 35; (with_reducible refine HhP.out.mono ?_); rintro e w2 ⟨rfl, rfl⟩) | (go_at_call 69; (with_reducible refine HhS.out.mono ?_); rintro e w3 ⟨rfl, rfl⟩))
    go_ret
    exact ⟨rfl, rfl⟩
  · have hP : Calls Try.prog 35 #[.pointer (some ⟨C, 0, none⟩)] w (Same w (.int .i64 3)) := hP
    obtain ⟨mp, k1, k2⟩ := h.hd
    rw [k2 (by simp)] at k1
    have c4 := k1.cell 4 rfl
    have hS := mark_Marked B b mk w (h.im (by simp))
    have hsh : (⟨N, room, 3, ep, mk, pg⟩ : Cy).marked b = (decide (0 ≤ b ∧ b < mk.n) && mk.m b.toNat) := by unfold Cy.marked bitI; simp
    rw [hsh]
    generalize (decide (0 ≤ b ∧ b < mk.n) && mk.m b.toNat) = r at *
    have HhP := Lib.hid hP; clear hP
    have HhS := Lib.hid hS; clear hS
    have Hh := Lib.hid h; clear h
    have Hk1 := Lib.hid k1; clear k1
    clear hsh
    go_enter Try.func44, Try.ntmps44
    go_wp2_with (first | (go_at_call 35; (with_reducible refine HhP.out.mono ?_); rintro e w2 ⟨rfl, rfl⟩) | (go_at_call 69; (with_reducible refine HhS.out.mono ?_); rintro e w3 ⟨rfl, rfl⟩))
    go_ret
    exact ⟨rfl, rfl⟩
end Go.Proofs.Ythaicpjgmplgcaa
