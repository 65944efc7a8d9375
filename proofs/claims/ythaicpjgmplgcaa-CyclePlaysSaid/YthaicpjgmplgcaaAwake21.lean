/- Laws of chapter 21: what they share. -/
import Derived.Test.YthaicpjgmplgcaaCycle3
import Derived.Test.YthaicpjgmplgcaaSweepP
namespace Go.Proofs.Ythaicpjgmplgcaa
open Go.RowKit Go.ChangeShapes Go.WideShapes
set_option linter.unusedVariables false

/-- A collector, and a map besides, in the law's own memory. -/
structure CyAt (W : World) (C L n0 n1 n2 n3 B b g : Nat) (f : Nat → Bool) (c : Cy) (w : World) : Prop where
  cy : IsCy w C L n0 n1 n2 n3 B c
  u : MapF w b g c.N f
  nb : ¬ InCy C B b
  ng : ¬ InCy C B g
  up : Upd (fun _ => False) W w
  ge : W.heap.size ≤ C ∧ W.heap.size ≤ B
  lt : ∀ j, InCy C B j → j < w.heap.size
section
variable {W w w' : World} {C L n0 n1 n2 n3 B b g : Nat} {f : Nat → Bool} {c d : Cy}
theorem CyAt.own (h : CyAt W C L n0 n1 n2 n3 B b g f c w) (u : Upd (InCy C B) w w') : Upd (fun _ => False) W w' :=
  h.up.own u (fun i e => by
    rcases e with rfl | e
    · exact h.ge.1
    · have := e.1
      have := h.ge.2
      omega)
theorem CyAt.next (h : CyAt W C L n0 n1 n2 n3 B b g f c w) (hd : IsCy w' C L n0 n1 n2 n3 B d) (hN : d.N = c.N) (u : Upd (InCy C B) w w') : CyAt W C L n0 n1 n2 n3 B b g f d w' :=
  ⟨hd, by rw [hN]; exact h.u.upd u h.nb h.ng, h.nb, h.ng, h.own u, h.ge, fun j hj => Nat.lt_of_lt_of_le (h.lt j hj) u.size⟩
theorem CyAt.still (h : CyAt W C L n0 n1 n2 n3 B b g f c w) (u : Upd (fun _ => False) w w') : CyAt W C L n0 n1 n2 n3 B b g f c w' :=
  h.next (h.cy.still u) rfl (up_no u)
theorem CyAt.gu (h : CyAt W C L n0 n1 n2 n3 B b g f c w) : GetsAs w (.pointer (some ⟨b, 0, none⟩)) (bitI c.N f) := gets_map h.u
end

theorem cy_step_N (c : Cy) (refs : Int → List Int) : (c.step refs).N = c.N := by
  unfold Cy.step
  split
  · rfl
  · split
    · rfl
    · split <;> rfl

/-- A step at which nothing is referred to. -/
theorem cyat_Step_nil {W w : World} {C L n0 n1 n2 n3 B b g : Nat} {f : Nat → Bool} {c : Cy} (h : CyAt W C L n0 n1 n2 n3 B b g f c w) (hpg : c.pg ≤ 50) :
    Calls Try.prog 36 #[.pointer (some ⟨C, 0, none⟩), .nilFunc, .slice none 0 0, .pointer (some ⟨b, 0, none⟩)] w (CyStep w C L n0 n1 n2 n3 B (c.weaks []) (c.blocks (bitI c.N f)) (c.step (fun _ => []))) := by
  refine cyc_Step h.cy hpg (fun _ j hj => h.lt j (Or.inr hj)) (fun _ => []) .nilFunc (Or.inl rfl) (fun hp w' u => ?_) (fun w' u => ?_) (Nat.zero_le _) h.gu
  · obtain ⟨hO, hn⟩ := h.cy.ok.ok (by omega)
    exact mark_Step_nilF B c.mr w' ((h.cy.im (by omega)).still u) hO (by have := h.cy.ok.N; omega)
  · exact ⟨none, 0, rfl, Nat.le_refl _, Nat.zero_le _, fun h => absurd h (Nat.lt_irrefl _)⟩

def cA0 : Cy := ⟨2, 4, 0, 0, mkNew 0 0, 0⟩
def cA1 : Cy := cA0.begin_ [0] []
def cA2 : Cy := cA1.step (fun _ => [])
def cA3 : Cy := cA2.step (fun _ => [])
def cA4 : Cy := cA3.step (fun _ => [])
def cA5 : Cy := cA4.step (fun _ => [])
theorem cA_facts : cA1.ph = 1 ∧ cA2.ph = 1 ∧ cA3.ph = 2 ∧ cA4.ph = 3 ∧ cA5.ph = 0 ∧ cA1.pg = 0 ∧ cA2.pg = 0 ∧ cA3.pg = 0 ∧ cA4.pg = 0 ∧ cA4.blocks (bitI 2 (bitW [3])) = [1] ∧ cA1.N = 2 ∧ cA2.N = 2 ∧ cA3.N = 2 ∧ cA4.N = 2 := by decide

set_option maxRecDepth 100000 in
set_option maxHeartbeats 4000000 in
theorem awake21 (W w : World) (u : Upd (fun _ => False) W w) : Calls Try.prog 30 #[] w (RetU W (.bool true)) := by
  have hc := law_config21 1 w
  have hf1 : fNum 1 = 2 := by unfold fNum; rw [show Go.RowKit.wrap64 ((IntKind.u64.wrap 1).tmod 40) = 1 from by rw [show (1 : Int) = ((1 : Nat) : Int) from rfl]; first | kernel_rfl | (unfold Go.RowKit.wrap64 IntKind.wrap; decide) | (simp [Go.RowKit.wrap64, IntKind.wrap])]; rfl
  rw [hf1] at hc
  unfold cfgV at hc
  obtain ⟨p1, p2, p3, p4, p5, g1, g2, g3, g4, hbl, m1, m2, m3, m4⟩ := cA_facts
  have hc : Calls Try.prog 31 #[.int .i64 1] w (fun e w' => ∃ v, e = .returned (.agg #[v, .int .i64 2, .int .i64 0, .int .i64 0, .int .i64 0, .int .i64 1, .int .i64 0, .int .i64 40]) ∧ MatIn w' v [[1]] ∧ Upd (fun _ => False) w w') := hc
  have Hhc := Lib.hid hc; clear hc
  have Hu := Lib.hid u; clear u
  have Hp1 := Lib.hid p1; clear p1
  have Hp2 := Lib.hid p2; clear p2
  have Hp3 := Lib.hid p3; clear p3
  have Hp4 := Lib.hid p4; clear p4
  have Hp5 := Lib.hid p5; clear p5
  have Hg1 := Lib.hid g1; clear g1
  have Hg2 := Lib.hid g2; clear g2
  have Hg3 := Lib.hid g3; clear g3
  have Hg4 := Lib.hid g4; clear g4
  have Hhbl := Lib.hid hbl; clear hbl
  have Hm1 := Lib.hid m1; clear m1
  have Hm2 := Lib.hid m2; clear m2
  have Hm3 := Lib.hid m3; clear m3
  have Hm4 := Lib.hid m4; clear m4
  clear hf1
  go_enter Try.func30, Try.ntmps30
  go_wp2_with fail
  refine Hhc.out.mono ?_
  rintro e w1 ⟨v, rfl, hM, hu1⟩
  have hl := lay_config (n0 := 2) (n1 := 0) (n2 := 0) (n3 := 0) (by decide) (by decide) (by decide) (by decide) (by decide) hM
  unfold LayPost at hl
  have hl : Calls Try.prog 14 #[.agg #[v, .int .i64 2, .int .i64 0, .int .i64 0, .int .i64 0, .int .i64 1, .int .i64 0, .int .i64 40]] w1 _ := hl
  have u1 := Hu.out.trans hu1
  have Hhl := Lib.hid hl; clear hl
  have Hu1 := Lib.hid u1; clear u1
  clear hu1 hM Hhc
  go_wp2_with fail
  refine Hhl.out.mono ?_
  rintro e w2 ⟨L, rfl, hL, hLz, hu2⟩
  have hn := cyc_New hL ⟨by decide, by decide, by decide, by decide⟩ (by obtain ⟨v, r, bi, lo, bl, wo, hB, -, -⟩ := hL; exact hB.lt) 4 (w2.heap.size + 1) (Nat.le_refl _)
  have hn : Calls Try.prog 32 #[.pointer (some ⟨L, 0, none⟩), .int .i64 4] w2 (fun e w' => e = .returned (.pointer (some ⟨w2.heap.size, 0, none⟩)) ∧ IsCy w' w2.heap.size L 2 0 0 0 (w2.heap.size + 1) cA0 ∧ Upd (fun _ => False) w2 w') := hn
  have u2 := Hu1.out.trans hu2
  have Hhn := Lib.hid hn; clear hn
  have Hu2 := Lib.hid u2; clear u2
  clear hL hLz hu2 Hhl Hu1
  go_wp2_with fail
  refine Hhn.out.mono ?_
  rintro e w3 ⟨rfl, hcy, hu3⟩
  obtain ⟨C, hC⟩ : ∃ C, C = w2.heap.size := ⟨_, rfl⟩
  rw [← hC] at hcy ⊢
  have hCW : W.heap.size ≤ C := by rw [hC]; exact Hu2.out.size
  have u3 := (Hu2.out.trans hu3).alloc (.cells #[.int .i64 0] 3)
  have hcy4 := hcy.still ((Upd.refl (fun _ => False) w3).alloc (.cells #[.int .i64 0] 3))
  have hI0 : IntsR (w3.alloc (.cells #[.int .i64 0] 3)) (.slice (some ⟨w3.heap.size, 0, none⟩) 1 1) .i64 [0] := ownsRow_intsR (base := w3.heap.size) (E := 3) (World.ownsRow_lit w3 #[.int .i64 0] 1 (Nat.le_refl _) (by decide) rfl)
  have hb0 : Blk (w3.alloc (.cells #[.int .i64 0] 3)) w3.heap.size [.int .i64 0] 3 := Blk.new _ _ _
  have hC3 := hcy.lt
  have hnil : ∀ w', IntsR w' (.slice none 0 0) .i64 [] := fun w' => ⟨none, 0, rfl, Nat.le_refl _, Nat.zero_le _, fun h => absurd h (Nat.lt_irrefl _)⟩
  have hone : ∀ w', Blk w' w3.heap.size [.int .i64 0] 3 → IntsR w' (.slice (some ⟨w3.heap.size, 0, none⟩) 1 1) .i64 [0] := fun w' hb => by
    refine ⟨some ⟨w3.heap.size, 0, none⟩, 1, rfl, Nat.le_refl _, by decide, fun _ => ⟨w3.heap.size, 0, rfl, hb.lt, fun p hp j hj => ?_⟩⟩
    have hp : p < 1 := hp
    obtain rfl : p = 0 := by omega
    obtain rfl : j = 0 := by omega
    exact hb.cell 0 rfl
  have hbg := cyc_Begin hcy4 rfl ⟨by decide, by decide⟩ (.slice (some ⟨w3.heap.size, 0, none⟩) 1 1) (.slice none 0 0) [0] [] hI0 (hnil _) (fun w' k => ⟨hone w' (hb0.upd k (by omega)), hnil w'⟩) (by decide) (by decide)
  unfold BeginPost at hbg
  have Hhbg := Lib.hid hbg; clear hbg
  have Hu3 := Lib.hid u3; clear u3
  clear hcy hcy4 hI0 hb0 hone hu3 Hhn Hu2 hC
  go_wp2_with fail
  refine Hhbg.out.mono ?_
  rintro e w4 ⟨rfl, B, hcy4, hBz, hu4⟩
  have hcy4 : IsCy w4 C L 2 0 0 0 B cA1 := hcy4
  have u4 := Hu3.out.own hu4 (fun i e => by rw [e]; exact hCW)
  have hph := cyc_Phase hcy4
  rw [Hp1.out] at hph
  have hph : Calls Try.prog 35 #[.pointer (some ⟨C, 0, none⟩)] w4 (Same w4 (.int .i64 1)) := hph
  have hBW : W.heap.size ≤ B := by have := Hu3.out.size; omega
  have Hhph := Lib.hid hph; clear hph
  have Hhcy4 := Lib.hid hcy4; clear hcy4
  have Hu4 := Lib.hid u4; clear u4
  clear hu4 Hhbg Hu3 hBz
  go_wp2_with (go_at_call 35; (with_reducible refine Hhph.out.mono ?_); rintro e w5 ⟨rfl, rfl⟩)
  have ho1 := map_OfF 2 _ _ _ (words_lit w4 3 (by decide))
  unfold OfPost at ho1
  rw [show (max 0 (min (2 : Int) 1048576)).toNat = 2 from by decide] at ho1
  have k4 : Upd (fun _ => False) w4 (w4.alloc (.cells #[.int .u64 3] 82)) := (Upd.refl _ _).alloc _
  have hcy5 := Hhcy4.out.still k4
  have u5 := Hu4.out.trans k4
  have hbd := Hhcy4.out.bd (by rw [Hp1.out]; decide)
  have hz5 : ∀ o, (w4.alloc o).heap.size = w4.heap.size + 1 := fun o => by simp
  have Hho1 := Lib.hid ho1; clear ho1
  have Hhcy5 := Lib.hid hcy5; clear hcy5
  have Hu5 := Lib.hid u5; clear u5
  clear k4 Hhcy4 Hu4 Hhph
  refine Hho1.out.mono ?_
  rintro e w6 ⟨b, g, rfl, hM, hbz, hgz, hu6⟩
  have hs6 := hu6.size
  rw [hz5] at hbz hgz hs6
  have hat1 : CyAt W C L 2 0 0 0 B b g (bitW [3]) cA1 w6 :=
    ⟨Hhcy5.out.still hu6, hM, fun e => by have := hbd _ e; omega, fun e => by have := hbd _ e; omega, Hu5.out.trans hu6, ⟨hCW, hBW⟩, fun j hj => by have := hbd j hj; omega⟩
  have hs := cyat_Step_nil hat1 (by rw [Hg1.out]; decide)
  unfold CyStep at hs
  have Hhs := Lib.hid hs; clear hs
  have Hhat1 := Lib.hid hat1; clear hat1
  clear hM hu6 hbd hbz hgz hs6 Hhcy5 Hu5 Hho1 hz5
  go_wp2_with fail
  refine Hhs.out.mono ?_
  rintro e w7 ⟨a1, c1, a2, c2, rfl, -, -, hcy7, hu7⟩
  have hat2 : CyAt W C L 2 0 0 0 B b g (bitW [3]) cA2 w7 := Hhat1.out.next hcy7 (cy_step_N _ _) hu7
  have hs := cyat_Step_nil hat2 (by rw [Hg2.out]; decide)
  unfold CyStep at hs
  clear Hhs Hhat1 hcy7 hu7
  have Hhs := Lib.hid hs; clear hs
  have Hhat2 := Lib.hid hat2; clear hat2
  go_wp2_with fail
  refine Hhs.out.mono ?_
  rintro e w8 ⟨a3, c3, a4, c4, rfl, -, -, hcy8, hu8⟩
  have hat3 : CyAt W C L 2 0 0 0 B b g (bitW [3]) cA3 w8 := Hhat2.out.next hcy8 (cy_step_N _ _) hu8
  have hph := cyc_Phase hat3.cy
  rw [Hp3.out] at hph
  have hph : Calls Try.prog 35 #[.pointer (some ⟨C, 0, none⟩)] w8 (Same w8 (.int .i64 2)) := hph
  have hs := cyat_Step_nil hat3 (by rw [Hg3.out]; decide)
  unfold CyStep at hs
  clear Hhs Hhat2 hcy8 hu8
  have Hhs := Lib.hid hs; clear hs
  have Hhat3 := Lib.hid hat3; clear hat3
  have Hhph := Lib.hid hph; clear hph
  go_wp2_with (go_at_call 35; (with_reducible refine Hhph.out.mono ?_); rintro e w5 ⟨rfl, rfl⟩)
  refine Hhs.out.mono ?_
  rintro e w9 ⟨a5, c5, a6, c6, rfl, -, -, hcy9, hu9⟩
  have hat4 : CyAt W C L 2 0 0 0 B b g (bitW [3]) cA4 w9 := Hhat3.out.next hcy9 (cy_step_N _ _) hu9
  have hph := cyc_Phase hat4.cy
  rw [Hp4.out] at hph
  have hph : Calls Try.prog 35 #[.pointer (some ⟨C, 0, none⟩)] w9 (Same w9 (.int .i64 3)) := hph
  have hs := cyat_Step_nil hat4 (by rw [Hg4.out]; decide)
  rw [Hm4.out, Hhbl.out] at hs
  unfold CyStep at hs
  clear Hhs Hhat3 hcy9 hu9 Hhph
  have hs : Calls Try.prog 36 #[.pointer (some ⟨C, 0, none⟩), .nilFunc, .slice none 0 0, .pointer (some ⟨b, 0, none⟩)] w9 (fun e w' => ∃ a1 c1 a2 c2, e = .returned (.agg #[.slice a1 (cA4.weaks []).length c1, .slice a2 1 c2]) ∧ _ ∧ w'.ownsRow w9.heap.size 3 1 (.slice a2 1 c2) 1 (ints [1]) ∧ IsCy w' C L 2 0 0 0 B cA5 ∧ Upd (InCy C B) w9 w') := hs
  have Hhs := Lib.hid hs; clear hs
  have Hhat4 := Lib.hid hat4; clear hat4
  have Hhph := Lib.hid hph; clear hph
  go_wp2_with (go_at_call 35; (with_reducible refine Hhph.out.mono ?_); rintro e w5 ⟨rfl, rfl⟩)
  refine Hhs.out.mono ?_
  rintro e w10 ⟨a7, c7, a8, c8, rfl, -, ho, hcy10, hu10⟩
  have hat5 : CyAt W C L 2 0 0 0 B b g (bitW [3]) cA5 w10 := Hhat4.out.next hcy10 (cy_step_N _ _) hu10
  generalize (cA4.weaks []).length = wl at *
  have ua : Upd (fun _ => False) w10 (w10.alloc (.cells #[.slice a7 wl c7, .slice a8 1 c8] 60)) := (Upd.refl _ _).alloc _
  have hat6 := hat5.still ua
  have hph := cyc_Phase hat6.cy
  rw [Hp5.out] at hph
  have hph : Calls Try.prog 35 #[.pointer (some ⟨C, 0, none⟩)] _ (Same _ (.int .i64 0)) := hph
  have ho := ho.alloc (.cells #[.slice a7 wl c7, .slice a8 1 c8] 60)
  obtain ⟨gq, hix, hgq, -, hcell0, -, hgb⟩ := ownsRow_index ho (P := Try.prog) Try.underlying37 (by kernel_rfl) (by kernel_rfl) (show 0 < 1 by decide)
  have hix : ∀ w', (Instr.indexAt 37 (.slice a8 1 c8) (.int .i64 0)).run Try.prog w' = .ok (.pointer (some ⟨gq, 0, none⟩)) w' := hix
  have hcell : (w10.alloc (.cells #[.slice a7 wl c7, .slice a8 1 c8] 60)).cell? ⟨gq, 0, none⟩ = some (.int .i64 1) := hcell0
  clear Hhs Hhat4 hcy10 hu10 Hhph ho hat5 ua hcell0
  have Hhat6 := Lib.hid hat6; clear hat6
  have Hhph := Lib.hid hph; clear hph
  go_wp2_with (go_at_call 35; (with_reducible refine Hhph.out.mono ?_); rintro e w5 ⟨rfl, rfl⟩)
  go_ret
  exact ⟨rfl, Hhat6.out.up⟩
end Go.Proofs.Ythaicpjgmplgcaa
