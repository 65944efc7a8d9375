/- Package cycle: a step. -/
import Derived.Test.YthaicpjgmplgcaaCycle2
namespace Go.Proofs.Ythaicpjgmplgcaa
open Go.RowKit Go.ChangeShapes Go.WideShapes
set_option linter.unusedVariables false

/-- What a step leaves. -/
def CyStep (w : World) (C L n0 n1 n2 n3 B : Nat) (xs ys : List Int) (d : Cy) (e : Ending) (w' : World) : Prop :=
  ∃ a1 c1 a2 c2, e = .returned (.agg #[.slice a1 xs.length c1, .slice a2 ys.length c2]) ∧ w'.ownsRow w.heap.size 3 1 (.slice a1 xs.length c1) xs.length (ints xs) ∧ w'.ownsRow w.heap.size 3 1 (.slice a2 ys.length c2) ys.length (ints ys) ∧ IsCy w' C L n0 n1 n2 n3 B d ∧ Upd (InCy C B) w w'

theorem ownsRow_own {w w' : World} {base : Nat} {e : TypeId} {size : Nat} {v : Value} {n : Nat} {xs : List Value} (h : w.ownsRow base e size v n xs) {S : Nat → Prop} (u : Upd S w w') (hs : ∀ j, v.ownBlock = some j → ¬ S j) : w'.ownsRow base e size v n xs := by
  refine ⟨h.1, ?_⟩
  rcases h.2 with ⟨h0, h1⟩ | ⟨g, cap, cur, hv, hg, hh, r⟩
  · exact Or.inl ⟨h0, h1⟩
  · refine Or.inr ⟨g, cap, cur, hv, hg, ?_, r⟩
    have hlt : g < w.heap.size := (Array.getElem?_eq_some_iff.1 hh).1
    rw [u.block g hlt (hs g (by rw [hv]; rfl))]
    exact hh
theorem IsCy.setK {w : World} {C L n0 n1 n2 n3 B K : Nat} {c : Cy} (h : IsCy w C L n0 n1 n2 n3 B c) (h1 : K ≠ C) (h2 : K ≠ L) (h3 : ¬ InMk B K) (i : Nat) (v : Value) : IsCy (w.setCell ⟨K, i, none⟩ v) C L n0 n1 n2 n3 B c :=
  h.upd ((Upd.refl (fun j => j = K) w).at i v) (fun e => h1 e.symm) (fun e => h2 e.symm) (fun k hk e => h3 (e ▸ hk))
theorem IsCy.ltL {w : World} {C L n0 n1 n2 n3 B : Nat} {c : Cy} (h : IsCy w C L n0 n1 n2 n3 B c) : L < w.heap.size := by
  obtain ⟨v, r, bi, lo, bl, wo, hB, -, -⟩ := h.lay
  exact hB.lt
theorem up_new {w w' : World} {S : Nat → Prop} {K : Nat} (h : Upd S w w') (hK : w.heap.size ≤ K) (i : Nat) (v : Value) : Upd S w (w'.setCell ⟨K, i, none⟩ v) := h.setCell (fun e => absurd e (by show ¬ K < w.heap.size; omega)) v

set_option maxRecDepth 100000 in
set_option maxHeartbeats 2000000 in
theorem cyc_Step {w : World} {C L n0 n1 n2 n3 B : Nat} {c : Cy} (h : IsCy w C L n0 n1 n2 n3 B c) (hpg : c.pg ≤ 50) (hmd : c.ph = 0 → ∀ j, InMk B j → j < w.heap.size) (refs : Int → List Int) (RF : Value) (hrf : RF = .nilFunc ∨ ∃ f vs cs, RF = .func f vs cs)
    (hst : c.ph = 1 → ∀ w', Upd (fun _ => False) w w' → Calls Try.prog 62 #[.pointer (some ⟨B + 5, 0, none⟩), RF] w' (StepPost w' B c.mr refs))
    {wv : Value} {ws : List Int} (hws : ∀ w', Upd (InCy C B) w w' → IntsR w' wv .i64 ws) (hwl : ws.length ≤ 1000) {pu : Value} {u : Int → Bool} (hu : GetsAs w pu u) :
    Calls Try.prog 36 #[.pointer (some ⟨C, 0, none⟩), RF, wv, pu] w (CyStep w C L n0 n1 n2 n3 B (c.weaks ws) (c.blocks u) (c.step refs)) := by
  obtain ⟨K, hK⟩ : ∃ K, K = w.heap.size := ⟨_, rfl⟩
  have hKle : w.heap.size ≤ K := by omega
  have hCK : K ≠ C := by have := h.lt; omega
  have hLK : K ≠ L := by have := h.ltL; omega
  have hBK : ¬ InMk B K := fun e => by
    by_cases hp : c.ph = 0
    · have := hmd hp K e
      omega
    · have := (h.im hp).lt
      have := e.2
      omega
  obtain ⟨W1, hW1⟩ : ∃ W1, W1 = w.alloc (.cells #[.slice none 0 0, .slice none 0 0] 60) := ⟨_, rfl⟩
  have u1 : Upd (fun _ => False) w W1 := by rw [hW1]; exact (Upd.refl _ _).alloc _
  have kb : Blk W1 K [.slice none 0 0, .slice none 0 0] 60 := by rw [hW1, hK]; exact Blk.new _ _ _
  have h1 := h.still u1
  obtain ⟨N, room, ph, ep, mk, pg⟩ := c
  have hP := cyc_Phase h1
  have hph := h.ok.ph
  simp only at hph hP hpg hst
  have h4 : ph = 0 ∨ ph = 1 ∨ ph = 2 ∨ ph = 3 := by omega
  clear hph hmd
  rcases h4 with rfl | rfl | rfl | rfl
  · have hP : Calls Try.prog 35 #[.pointer (some ⟨C, 0, none⟩)] W1 (Same W1 (.int .i64 0)) := hP
    have hwe : (⟨N, room, 0, ep, mk, pg⟩ : Cy).weaks ws = [] := rfl
    have hbl : (⟨N, room, 0, ep, mk, pg⟩ : Cy).blocks u = [] := rfl
    have hse : (⟨N, room, 0, ep, mk, pg⟩ : Cy).step refs = ⟨N, room, 0, ep, mk, pg⟩ := rfl
    rw [hwe, hbl, hse]
    have z0 := kb.cell 0 rfl
    have z1 := kb.cell 1 rfl
    have y0 := kb.free 0
    have y1 := kb.free 1
    have hfin := (h1.setK hCK hLK hBK 0 (.slice none 0 0)).setK hCK hLK hBK 1 (.slice none 0 0)
    have hup : Upd (InCy C B) w ((W1.setCell ⟨K, 0, none⟩ (.slice none 0 0)).setCell ⟨K, 1, none⟩ (.slice none 0 0)) := up_new (up_new (up_no u1) (by omega) _ _) (by omega) _ _
    have HhP := Lib.hid hP; clear hP
    have Hh := Lib.hid h; clear h
    have Hh1 := Lib.hid h1; clear h1
    have Hhst := Lib.hid hst; clear hst
    have Hhws := Lib.hid hws; clear hws
    have Hhu := Lib.hid hu; clear hu
    have Hkb := Lib.hid kb; clear kb
    have Hhfin := Lib.hid hfin; clear hfin
    have Hhup := Lib.hid hup; clear hup
    have Hu1 := Lib.hid u1; clear u1
    clear hwe hbl hse
    go_enter Try.func36, Try.ntmps36
    go_wp2_with fail
    rw [← hW1, ← hK]
    clear hW1 hK
    refine wp_scope_many (fun l a' w' => False) (fun _ _ _ => 0) (fun _ _ _ h => h.elim) ?_
    go_wp2_with (go_at_call 35; (with_reducible refine HhP.out.mono ?_); rintro e w2 ⟨rfl, rfl⟩)
    (try simp only [Exit.jumps])
    refine bodyPost_ret (v := .agg #[.slice none 0 0, .slice none 0 0]) ?_ rfl ?_
    · rw [results_cell1 rfl]
      go_simp
    · exact ⟨none, 0, none, 0, rfl, World.ownsRow_nil _ _ _ _, World.ownsRow_nil _ _ _ _, Hhfin.out, Hhup.out⟩
  · have hP : Calls Try.prog 35 #[.pointer (some ⟨C, 0, none⟩)] W1 (Same W1 (.int .i64 1)) := hP
    obtain ⟨hO, hn⟩ := h.ok.ok (by simp)
    have hwe : (⟨N, room, 1, ep, mk, pg⟩ : Cy).weaks ws = [] := rfl
    have hbl : (⟨N, room, 1, ep, mk, pg⟩ : Cy).blocks u = [] := rfl
    have hse : (⟨N, room, 1, ep, mk, pg⟩ : Cy).step refs = ⟨N, room, if mk.done then 2 else 1, ep, mk.step refs, pg⟩ := rfl
    rw [hwe, hbl, hse]
    have hS := hst rfl W1 u1
    unfold StepPost at hS
    have hO2 := step_ok hO refs
    have hn2 := (step_n hO refs).trans hn
    obtain ⟨mp, k1, k2⟩ := h1.hd
    rw [k2 (by simp)] at k1
    have c4 := k1.cell 4 rfl
    generalize mk.step refs = y at *
    generalize hde : mk.done = dn at *
    have HhP := Lib.hid hP; clear hP
    have Hh := Lib.hid h; clear h
    have Hh1 := Lib.hid h1; clear h1
    have Hhst := Lib.hid hst; clear hst
    have Hhws := Lib.hid hws; clear hws
    have Hhu := Lib.hid hu; clear hu
    have Hkb := Lib.hid kb; clear kb
    have Hu1 := Lib.hid u1; clear u1
    have HhS := Lib.hid hS; clear hS
    have HhO2 := Lib.hid hO2; clear hO2
    have Hhn2 := Lib.hid hn2; clear hn2
    have Hk1 := Lib.hid k1; clear k1
    clear hwe hbl hse hde
    cases dn
    · rw [if_neg (by simp)]
      go_enter Try.func36, Try.ntmps36
      go_wp2_with fail
      rw [← hW1, ← hK]
      clear hW1 hK
      refine wp_scope_many (fun l a' w' => l = 0 ∧ ∃ (u4 u5 u6 u7 u9 u10 u11 u12 u13 u14 u15 u16 u17 u18 u19 u20 u21 u22 u23 u24 u25 u26 u27 u28 u29 u30 u31 u32 u33 u34 u35 u36 u37 u38 u39 u40 u41 u42 u43 u44 u45 u46 : Value), a' = { tmps := #[.pointer (some ⟨C, 0, none⟩), RF, wv, pu, u4, u5, u6, u7, .pointer (some ⟨K, 0, none⟩), u9, u10, u11, u12, u13, u14, u15, u16, u17, u18, u19, u20, u21, u22, u23, u24, u25, u26, u27, u28, u29, u30, u31, u32, u33, u34, u35, u36, u37, u38, u39, u40, u41, u42, u43, u44, u45, u46], defers := [] } ∧ w' = W1) (fun _ _ _ => 0) ?_ ?_
      · rintro l a' w' ⟨rfl, u4, u5, u6, u7, u9, u10, u11, u12, u13, u14, u15, u16, u17, u18, u19, u20, u21, u22, u23, u24, u25, u26, u27, u28, u29, u30, u31, u32, u33, u34, u35, u36, u37, u38, u39, u40, u41, u42, u43, u44, u45, u46, rfl, rfl⟩
        refine ⟨_, rfl, ?_⟩
        go_wp2_with fail
        refine HhS.out.mono ?_
        rintro e w3 ⟨rfl, hI3, hu3⟩
        have q3 := Hkb.out.upd hu3 hBK
        have z0 := q3.cell 0 rfl
        have z1 := q3.cell 1 rfl
        have y0 := q3.free 0
        have y1 := q3.free 1
        have hf3 := Hh1.out.setMk hI3 HhO2.out Hhn2.out hu3
        have hfin := (hf3.setK hCK hLK hBK 0 (.slice none 0 0)).setK hCK hLK hBK 1 (.slice none 0 0)
        have hup : Upd (InCy C B) w ((w3.setCell ⟨K, 0, none⟩ (.slice none 0 0)).setCell ⟨K, 1, none⟩ (.slice none 0 0)) := up_new (up_new ((up_no Hu1.out).trans (up_mk hu3)) (by omega) _ _) (by omega) _ _
        have Hhfin := Lib.hid hfin; clear hfin
        have Hhup := Lib.hid hup; clear hup
        have Hq3 := Lib.hid q3; clear q3
        clear hI3 hu3 hf3
        go_wp2_with fail
        (try simp only [Exit.jumps])
        refine bodyPost_ret (v := .agg #[.slice none 0 0, .slice none 0 0]) ?_ rfl ?_
        · rw [results_cell1 rfl]
          go_simp
        · exact ⟨none, 0, none, 0, rfl, World.ownsRow_nil _ _ _ _, World.ownsRow_nil _ _ _ _, Hhfin.out, Hhup.out⟩
      · go_wp2_with (go_at_call 35; (with_reducible refine HhP.out.mono ?_); rintro e w2 ⟨rfl, rfl⟩)
        (try go_step3)
        exact ⟨rfl, _, _, _, _, _, _, _, _, _, _, _, _, _, _, _, _, _, _, _, _, _, _, _, _, _, _, _, _, _, _, _, _, _, _, _, _, _, _, _, _, _, _, rfl, rfl⟩
    · rw [if_pos rfl]
      go_enter Try.func36, Try.ntmps36
      go_wp2_with fail
      rw [← hW1, ← hK]
      clear hW1 hK
      refine wp_scope_many (fun l a' w' => l = 0 ∧ ∃ (u4 u5 u6 u7 u9 u10 u11 u12 u13 u14 u15 u16 u17 u18 u19 u20 u21 u22 u23 u24 u25 u26 u27 u28 u29 u30 u31 u32 u33 u34 u35 u36 u37 u38 u39 u40 u41 u42 u43 u44 u45 u46 : Value), a' = { tmps := #[.pointer (some ⟨C, 0, none⟩), RF, wv, pu, u4, u5, u6, u7, .pointer (some ⟨K, 0, none⟩), u9, u10, u11, u12, u13, u14, u15, u16, u17, u18, u19, u20, u21, u22, u23, u24, u25, u26, u27, u28, u29, u30, u31, u32, u33, u34, u35, u36, u37, u38, u39, u40, u41, u42, u43, u44, u45, u46], defers := [] } ∧ w' = W1) (fun _ _ _ => 0) ?_ ?_
      · rintro l a' w' ⟨rfl, u4, u5, u6, u7, u9, u10, u11, u12, u13, u14, u15, u16, u17, u18, u19, u20, u21, u22, u23, u24, u25, u26, u27, u28, u29, u30, u31, u32, u33, u34, u35, u36, u37, u38, u39, u40, u41, u42, u43, u44, u45, u46, rfl, rfl⟩
        refine ⟨_, rfl, ?_⟩
        go_wp2_with fail
        refine HhS.out.mono ?_
        rintro e w3 ⟨rfl, hI3, hu3⟩
        have hf3 := Hh1.out.setMk hI3 HhO2.out Hhn2.out hu3
        have hf4 := hf3.setPh (by simp) 2 (by decide)
        have q3 := (Hkb.out.upd hu3 hBK).setOther (p := ⟨C, 2, none⟩) (fun e => hCK e.symm) (.int .i64 ((2 : Nat) : Int))
        have q2 := Hk1.out.upd hu3 Hh1.out.ne.2.1
        have c2 := q2.cell 2 rfl
        have f2 := q2.free 2
        have z0 := q3.cell 0 rfl
        have z1 := q3.cell 1 rfl
        have y0 := q3.free 0
        have y1 := q3.free 1
        rw [show ((2 : Nat) : Int) = 2 from rfl] at z0 z1 y0 y1
        have hfin := (hf4.setK hCK hLK hBK 0 (.slice none 0 0)).setK hCK hLK hBK 1 (.slice none 0 0)
        have hup : Upd (InCy C B) w (((w3.setCell ⟨C, 2, none⟩ (.int .i64 ((2 : Nat) : Int))).setCell ⟨K, 0, none⟩ (.slice none 0 0)).setCell ⟨K, 1, none⟩ (.slice none 0 0)) := up_new (up_new (((up_no Hu1.out).trans (up_mk hu3)).trans (up_hd 2 _)) (by omega) _ _) (by omega) _ _
        have Hhfin := Lib.hid hfin; clear hfin
        have Hhup := Lib.hid hup; clear hup
        have Hq3 := Lib.hid q3; clear q3
        have Hq2 := Lib.hid q2; clear q2
        clear hI3 hu3 hf3 hf4
        go_wp2_with fail
        (try simp only [Exit.jumps])
        refine bodyPost_ret (v := .agg #[.slice none 0 0, .slice none 0 0]) ?_ rfl ?_
        · rw [results_cell1 rfl]
          go_simp
        · exact ⟨none, 0, none, 0, rfl, World.ownsRow_nil _ _ _ _, World.ownsRow_nil _ _ _ _, Hhfin.out, Hhup.out⟩
      · go_wp2_with (go_at_call 35; (with_reducible refine HhP.out.mono ?_); rintro e w2 ⟨rfl, rfl⟩)
        (try go_step3)
        exact ⟨rfl, _, _, _, _, _, _, _, _, _, _, _, _, _, _, _, _, _, _, _, _, _, _, _, _, _, _, _, _, _, _, _, _, _, _, _, _, _, _, _, _, _, _, rfl, rfl⟩
  · have hP : Calls Try.prog 35 #[.pointer (some ⟨C, 0, none⟩)] W1 (Same W1 (.int .i64 2)) := hP
    obtain ⟨hO, hn⟩ := h.ok.ok (by simp)
    have hwe : (⟨N, room, 2, ep, mk, pg⟩ : Cy).weaks ws = weakL ws (bitI mk.n mk.m) := rfl
    have hbl : (⟨N, room, 2, ep, mk, pg⟩ : Cy).blocks u = [] := rfl
    have hse : (⟨N, room, 2, ep, mk, pg⟩ : Cy).step refs = ⟨N, room, 3, ep, mk, 0⟩ := rfl
    rw [hwe, hbl, hse]
    obtain ⟨xs, hxs⟩ : ∃ xs, weakL ws (bitI mk.n mk.m) = xs := ⟨_, rfl⟩
    rw [hxs]
    have Hhxs := Lib.hid hxs; clear hxs
    have hz1 : W1.heap.size = K + 1 := by rw [hW1, hK]; simp
    obtain ⟨mp, k1, k2⟩ := h1.hd
    rw [k2 (by simp)] at k1
    have c2 := k1.cell 2 rfl
    have f2 := k1.free 2
    have c5 := k1.cell 5 rfl
    have f5 := k1.free 5
    have c4 := k1.cell 4 rfl
    have HhP := Lib.hid hP; clear hP
    have Hh := Lib.hid h; clear h
    have Hh1 := Lib.hid h1; clear h1
    have Hhst := Lib.hid hst; clear hst
    have Hhws := Lib.hid hws; clear hws
    have Hhu := Lib.hid hu; clear hu
    have Hkb := Lib.hid kb; clear kb
    have Hu1 := Lib.hid u1; clear u1
    have Hk1 := Lib.hid k1; clear k1
    have Hhn := Lib.hid hn; clear hn
    clear hwe hbl hse
    go_enter Try.func36, Try.ntmps36
    go_wp2_with fail
    rw [← hW1, ← hK]
    clear hW1 hK
    refine wp_scope_many (fun l a' w' => l = 1 ∧ ∃ (u4 u5 u6 u7 u9 u10 u11 u12 u13 u14 u15 u16 u17 u18 u19 u20 u21 u22 u23 u24 u25 u26 u27 u28 u29 u30 u31 u32 u33 u34 u35 u36 u37 u38 u39 u40 u41 u42 u43 u44 u45 u46 : Value), a' = { tmps := #[.pointer (some ⟨C, 0, none⟩), RF, wv, pu, u4, u5, u6, u7, .pointer (some ⟨K, 0, none⟩), u9, u10, u11, u12, u13, u14, u15, u16, u17, u18, u19, u20, u21, u22, u23, u24, u25, u26, u27, u28, u29, u30, u31, u32, u33, u34, u35, u36, u37, u38, u39, u40, u41, u42, u43, u44, u45, u46], defers := [] } ∧ w' = W1) (fun _ _ _ => 0) ?_ ?_
    · rintro l a' w' ⟨rfl, u4, u5, u6, u7, u9, u10, u11, u12, u13, u14, u15, u16, u17, u18, u19, u20, u21, u22, u23, u24, u25, u26, u27, u28, u29, u30, u31, u32, u33, u34, u35, u36, u37, u38, u39, u40, u41, u42, u43, u44, u45, u46, rfl, rfl⟩
      obtain ⟨W1, hW⟩ : ∃ W1 : World, W1 = w' := ⟨_, rfl⟩
      subst hW
      refine ⟨_, rfl, ?_⟩
      go_wp2_with fail
      have hx := (Hh1.out.setPh (by simp) 3 (by decide))
      have k3 := (Hk1.out.set 2 (.int .i64 3)).set 5 (.int .i64 0)
      have u2 : Upd (fun j => j = C) W1 ((W1.setCell ⟨C, 2, none⟩ (.int .i64 3)).setCell ⟨C, 5, none⟩ (.int .i64 0)) := ((Upd.refl _ _).at _ _).at _ _
      have q2 := Hkb.out.upd u2 hCK
      obtain ⟨p1, p2, p3⟩ := Hh1.out.ne
      have hI2 := (Hh1.out.im (by simp)).upd u2 (fun k hk e => p2 (e ▸ hk))
      have hL2 := Hh1.out.lay.upd u2 p1
      have hf2 : IsCy ((W1.setCell ⟨C, 2, none⟩ (.int .i64 3)).setCell ⟨C, 5, none⟩ (.int .i64 0)) C L n0 n1 n2 n3 B ⟨N, room, 3, ep, mk, 0⟩ :=
        ⟨⟨_, k3, fun _ => rfl⟩, hL2, Hh1.out.n, Hh1.out.b, fun _ => hI2, ⟨p1, p2, p3⟩, ⟨by simp, fun _ => ⟨hO, Hhn.out⟩, by simp, Hh1.out.ok.N⟩⟩
      have uw2 : Upd (InCy C B) w ((W1.setCell ⟨C, 2, none⟩ (.int .i64 3)).setCell ⟨C, 5, none⟩ (.int .i64 0)) := (up_no Hu1.out).trans (u2.mono (fun _ _ e => Or.inl e))
      have hz2 : ((W1.setCell ⟨C, 2, none⟩ (.int .i64 3)).setCell ⟨C, 5, none⟩ (.int .i64 0)).heap.size = K + 1 := by simp [hz1]
      generalize (W1.setCell ⟨C, 2, none⟩ (.int .i64 3)).setCell ⟨C, 5, none⟩ (.int .i64 0) = W2 at *
      have hm := mark_Marks B mk W2 hI2
      unfold CopyPost at hm
      have Hhm := Lib.hid hm; clear hm
      have Hhf2 := Lib.hid hf2; clear hf2
      have Huw2 := Lib.hid uw2; clear uw2
      have Hq2 := Lib.hid q2; clear q2
      clear hx k3 u2 hI2 hL2 p1 p2 p3
      refine Hhm.out.mono ?_
      rintro e w3 ⟨mb, mg, rfl, hM3, -, -, hu3⟩
      have hwk := sweep_Weak wv ws _ _ hwl w3 (Hhws.out w3 (Huw2.out.trans (up_no hu3))) (gets_map hM3)
      unfold RetInts at hwk
      rw [Hhxs.out] at hwk
      have Hhwk := Lib.hid hwk; clear hwk
      have Hhu3 := Lib.hid hu3; clear hu3
      clear hM3 Hhm
      go_wp2_with fail
      refine Hhwk.out.mono ?_
      rintro e w4 ⟨pa, pc, rfl, hpo, hu4⟩
      have u24 := Hhu3.out.trans hu4
      have q4 := Hq2.out.upd u24 (fun x => x)
      have z0 := q4.cell 0 rfl
      have z1 := q4.cell 1 rfl
      have y0 := q4.free 0
      have y1 := q4.free 1
      have hs3 := Hhu3.out.size
      have hpo2 := hpo.lt
      have hpo := ownsRow_base' hpo (show w.heap.size ≤ w3.heap.size by omega)
      have uK : Upd (fun j => j = K) w4 ((w4.setCell ⟨K, 0, none⟩ (.slice pa xs.length pc)).setCell ⟨K, 1, none⟩ (.slice none 0 0)) := ((Upd.refl _ _).at _ _).at _ _
      have hpo4 := ownsRow_own hpo uK (fun j hj e => by have := (hpo2 j hj).1; omega)
      have hfin := ((Hhf2.out.still u24).setK hCK hLK hBK 0 (.slice pa xs.length pc)).setK hCK hLK hBK 1 (.slice none 0 0)
      have hup : Upd (InCy C B) w ((w4.setCell ⟨K, 0, none⟩ (.slice pa xs.length pc)).setCell ⟨K, 1, none⟩ (.slice none 0 0)) := up_new (up_new (Huw2.out.trans (up_no u24)) (by omega) _ _) (by omega) _ _
      have Hhfin := Lib.hid hfin; clear hfin
      have Hhup := Lib.hid hup; clear hup
      have Hq4 := Lib.hid q4; clear q4
      have Hhpo4 := Lib.hid hpo4; clear hpo4
      clear hpo hu4 u24 uK Hhwk hpo2
      go_wp2_with fail
      (try simp only [Exit.jumps])
      refine bodyPost_ret (v := .agg #[.slice pa xs.length pc, .slice none 0 0]) ?_ rfl ?_
      · rw [results_cell1 rfl]
        go_simp
      · exact ⟨pa, pc, none, 0, rfl, Hhpo4.out, World.ownsRow_nil _ _ _ _, Hhfin.out, Hhup.out⟩
    · go_wp2_with (go_at_call 35; (with_reducible refine HhP.out.mono ?_); rintro e w2 ⟨rfl, rfl⟩)
      (try go_step3)
      exact ⟨rfl, _, _, _, _, _, _, _, _, _, _, _, _, _, _, _, _, _, _, _, _, _, _, _, _, _, _, _, _, _, _, _, _, _, _, _, _, _, _, _, _, _, _, rfl, rfl⟩
  · have hP : Calls Try.prog 35 #[.pointer (some ⟨C, 0, none⟩)] W1 (Same W1 (.int .i64 3)) := hP
    have hwe : (⟨N, room, 3, ep, mk, pg⟩ : Cy).weaks ws = [] := rfl
    have hse : (⟨N, room, 3, ep, mk, pg⟩ : Cy).step refs = (⟨N, room, 3, ep, mk, pg⟩ : Cy).step (fun _ => []) := rfl
    rw [hwe, hse]
    have hsw := cyc_sweep h1 rfl hpg (hu.later u1)
    unfold CySweep at hsw
    have hz1 : W1.heap.size = K + 1 := by rw [hW1, hK]; simp
    generalize (⟨N, room, 3, ep, mk, pg⟩ : Cy).blocks u = xs at *
    generalize (⟨N, room, 3, ep, mk, pg⟩ : Cy).step (fun _ => []) = d at *
    have HhP := Lib.hid hP; clear hP
    have Hh := Lib.hid h; clear h
    have Hh1 := Lib.hid h1; clear h1
    have Hhst := Lib.hid hst; clear hst
    have Hhws := Lib.hid hws; clear hws
    have Hhu := Lib.hid hu; clear hu
    have Hkb := Lib.hid kb; clear kb
    have Hu1 := Lib.hid u1; clear u1
    have Hhsw := Lib.hid hsw; clear hsw
    clear hwe hse
    go_enter Try.func36, Try.ntmps36
    go_wp2_with fail
    rw [← hW1, ← hK]
    clear hW1 hK
    refine wp_scope_many (fun l a' w' => l = 2 ∧ ∃ (u4 u5 u6 u7 u9 u10 u11 u12 u13 u14 u15 u16 u17 u18 u19 u20 u21 u22 u23 u24 u25 u26 u27 u28 u29 u30 u31 u32 u33 u34 u35 u36 u37 u38 u39 u40 u41 u42 u43 u44 u45 u46 : Value), a' = { tmps := #[.pointer (some ⟨C, 0, none⟩), RF, wv, pu, u4, u5, u6, u7, .pointer (some ⟨K, 0, none⟩), u9, u10, u11, u12, u13, u14, u15, u16, u17, u18, u19, u20, u21, u22, u23, u24, u25, u26, u27, u28, u29, u30, u31, u32, u33, u34, u35, u36, u37, u38, u39, u40, u41, u42, u43, u44, u45, u46], defers := [] } ∧ w' = W1) (fun _ _ _ => 0) ?_ ?_
    · rintro l a' w' ⟨rfl, u4, u5, u6, u7, u9, u10, u11, u12, u13, u14, u15, u16, u17, u18, u19, u20, u21, u22, u23, u24, u25, u26, u27, u28, u29, u30, u31, u32, u33, u34, u35, u36, u37, u38, u39, u40, u41, u42, u43, u44, u45, u46, rfl, rfl⟩
      obtain ⟨W1, hW⟩ : ∃ W1 : World, W1 = w' := ⟨_, rfl⟩
      subst hW
      refine ⟨_, rfl, ?_⟩
      go_wp2_with fail
      refine Hhsw.out.mono ?_
      rintro e w4 ⟨pa, pc, rfl, hpo, hf4, hu4⟩
      have q4 := Hkb.out.upd hu4 hCK
      have z0 := q4.cell 0 rfl
      have z1 := q4.cell 1 rfl
      have y0 := q4.free 0
      have y1 := q4.free 1
      have hpo2 := hpo.lt
      have hpo := ownsRow_base' hpo (show w.heap.size ≤ W1.heap.size by omega)
      have uK : Upd (fun j => j = K) w4 ((w4.setCell ⟨K, 0, none⟩ (.slice none 0 0)).setCell ⟨K, 1, none⟩ (.slice pa xs.length pc)) := ((Upd.refl _ _).at _ _).at _ _
      have hpo4 := ownsRow_own hpo uK (fun j hj e => by have := (hpo2 j hj).1; omega)
      have hfin := (hf4.setK hCK hLK hBK 0 (.slice none 0 0)).setK hCK hLK hBK 1 (.slice pa xs.length pc)
      have hup : Upd (InCy C B) w ((w4.setCell ⟨K, 0, none⟩ (.slice none 0 0)).setCell ⟨K, 1, none⟩ (.slice pa xs.length pc)) := up_new (up_new ((up_no Hu1.out).trans (hu4.mono (fun _ _ e => Or.inl e))) (by omega) _ _) (by omega) _ _
      have Hhfin := Lib.hid hfin; clear hfin
      have Hhup := Lib.hid hup; clear hup
      have Hq4 := Lib.hid q4; clear q4
      have Hhpo4 := Lib.hid hpo4; clear hpo4
      clear hpo hu4 uK Hhsw hpo2 hf4
      go_wp2_with fail
      (try simp only [Exit.jumps])
      refine bodyPost_ret (v := .agg #[.slice none 0 0, .slice pa xs.length pc]) ?_ rfl ?_
      · rw [results_cell1 rfl]
        go_simp
      · exact ⟨none, 0, pa, pc, rfl, World.ownsRow_nil _ _ _ _, Hhpo4.out, Hhfin.out, Hhup.out⟩
    · go_wp2_with (go_at_call 35; (with_reducible refine HhP.out.mono ?_); rintro e w2 ⟨rfl, rfl⟩)
      (try go_step3)
      exact ⟨rfl, _, _, _, _, _, _, _, _, _, _, _, _, _, _, _, _, _, _, _, _, _, _, _, _, _, _, _, _, _, _, _, _, _, _, _, _, _, _, _, _, _, _, rfl, rfl⟩
end Go.Proofs.Ythaicpjgmplgcaa
