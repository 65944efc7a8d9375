/- Phases go on in their order. No condition. -/
import Derived.Test.YthaicpjgmplgcaaCyLaw
import Derived.SizedLaws
import Derived.Deep.DrawnRows
import Derived.Deep.DeepCutAuto
import Derived.Deep.CutBlock
namespace Go.Proofs.Ythaicpjgmplgcaa.cyclePhases
open Go.ChangeShapes Go.WideShapes Go.ChangeAt Go.RowKit
set_option linter.unusedVariables false

def PhStep (W : World) (C L N B b g : Nat) (f : Nat → Bool) (d : Cy) (m1 m2 : Nat) (e : Ending) (w' : World) : Prop :=
  ∃ a1 c1 a2 c2, e = .returned (.agg #[.slice a1 m1 c1, .slice a2 m2 c2]) ∧ CyAt W C L N 0 0 0 B b g f d w'

set_option maxRecDepth 100000 in
set_option maxHeartbeats 4000000 in
theorem walk {W : World} (n : Int) (w0 : (Lit.int .i64 n).wf = true) (ra : Int) (w1 : (Lit.int .i64 ra).wf = true) (tv : Value) (tt : List (List Int)) (ht : MatIn W tv tt ∧ tt.length * 24 ≤ 140737488351232) (wv : Value) (ws : List Int) (hws : IntsIn W wv .i64 ws ∧ ws.length * 8 ≤ 140737488351232) (rv : Value) (rs : List Int) (hrs : IntsIn W rv .i64 rs ∧ rs.length * 8 ≤ 140737488351232) (uv : Value) (us0 : List Int) (hus0 : IntsIn W uv .u64 us0 ∧ us0.length * 8 ≤ 140737488351232) :
    Calls Try.prog 8 #[.int .i64 n, .int .i64 ra, tv, wv, rv, uv] W (LawPost W) := by
  obtain ⟨hM, hMl⟩ := ht
  have hlight := law_light tv tt W hM hMl
  obtain ⟨ta, tc, htv⟩ := mat_shape hM
  subst htv
  obtain ⟨hwsM, hwsl⟩ := hws
  obtain ⟨wsa, wsc, hwsv⟩ := ints_shape hwsM
  subst hwsv
  have hwsI : (ws.length : Int) ≤ 17592186044416 := by omega
  clear hwsl
  obtain ⟨hrsM, hrsl⟩ := hrs
  obtain ⟨rsa, rsc, hrsv⟩ := ints_shape hrsM
  subst hrsv
  have hrsI : (rs.length : Int) ≤ 17592186044416 := by omega
  clear hrsl
  obtain ⟨us, hus, -⟩ := intsIn_words hus0.1
  clear hus0
  clear w0 w1 hMl
  by_cases hgo : lightM tt = true ∧ ws.length ≤ 20 ∧ rs.length ≤ 30
  · obtain ⟨hlt, hwsN, hrsN⟩ := hgo
    rw [hlt] at hlight
    have hlb := light_bounds hlt
    have hwsB : (ws.length : Int) ≤ 20 := by omega
    have hrsB : (rs.length : Int) ≤ 30 := by omega
    have hc := law_config21 n W
    obtain ⟨hN1, hN2⟩ := fNum_le n
    generalize fNum n = N at *
    unfold cfgV at hc
    have hc : Calls Try.prog 31 #[.int .i64 n] W (fun e w' => ∃ v, e = .returned (.agg #[v, .int .i64 N, .int .i64 0, .int .i64 0, .int .i64 0, .int .i64 1, .int .i64 0, .int .i64 40]) ∧ MatIn w' v [[1]] ∧ Upd (fun _ => False) W w') := hc
    have Hhlight := Lib.hid hlight; clear hlight
    have HhM := Lib.hid hM; clear hM
    have Hhlb := Lib.hid hlb; clear hlb
    have Hhus := Lib.hid hus; clear hus
    have HhwsM := Lib.hid hwsM; clear hwsM
    have HhrsM := Lib.hid hrsM; clear hrsM
    have Hhc := Lib.hid hc; clear hc
    clear hlt
    go_enter Try.func8, Try.ntmps8
    go_wp2_with fail
    refine Hhlight.out.mono ?_
    rintro e w' ⟨rfl, rfl⟩
    go_wp2_with fail
    refine Hhc.out.mono ?_
    rintro e w1 ⟨v, rfl, hM1, u1⟩
    have hl := lay_config (n0 := N) (n1 := 0) (n2 := 0) (n3 := 0) hN2 (by decide) (by decide) (by decide) (by omega) hM1
    unfold LayPost at hl
    have hl : Calls Try.prog 14 #[.agg #[v, .int .i64 N, .int .i64 0, .int .i64 0, .int .i64 0, .int .i64 1, .int .i64 0, .int .i64 40]] w1 _ := hl
    have Hhl := Lib.hid hl; clear hl
    have Hu1 := Lib.hid u1; clear u1
    clear hM1 Hhc Hhlight
    go_wp2_with fail
    refine Hhl.out.mono ?_
    rintro e w2 ⟨L, rfl, hL, hLz, hu2⟩
    have hn := cyc_New hL ⟨hN2, by decide, by decide, by decide⟩ (by obtain ⟨v, r, bi, lo, bl, wo, hB, -, -⟩ := hL; exact hB.lt) ra (w2.heap.size + 1) (Nat.le_refl _)
    have hn : Calls Try.prog 32 #[.pointer (some ⟨L, 0, none⟩), .int .i64 ra] w2 (fun e w' => e = .returned (.pointer (some ⟨w2.heap.size, 0, none⟩)) ∧ IsCy w' w2.heap.size L N 0 0 0 (w2.heap.size + 1) ⟨N, ra, 0, 0, mkNew 0 0, 0⟩ ∧ Upd (fun _ => False) w2 w') := hn
    have u2 := Hu1.out.trans hu2
    have Hhn := Lib.hid hn; clear hn
    have Hu2 := Lib.hid u2; clear u2
    clear hL hLz hu2 Hhl Hu1
    go_wp2_with fail
    refine Hhn.out.mono ?_
    rintro e w3 ⟨rfl, hcy, hu3⟩
    obtain ⟨C, hC⟩ : ∃ C, C = w2.heap.size := ⟨_, rfl⟩
    rw [← hC] at hcy ⊢
    have hCW : W.heap.size ≤ C := by rw [hC]; exact Hu2.out.size
    have u3 := Hu2.out.trans hu3
    clear hu3 Hhn Hu2
    have hup : ∀ w', Upd (fun j => j = C) w3 w' → Upd (fun _ => False) W w' := fun w' k => u3.own k (fun i e => by rw [e]; exact hCW)
    have hbg := cyc_Begin hcy rfl ⟨Int.le_refl 0, (by decide : (0 : Int) ≤ 1000000)⟩ (.slice rsa rs.length rsc) (.slice none 0 0) rs [] (HhrsM.out.upd u3.none).1 ⟨none, 0, rfl, Nat.le_refl _, Nat.zero_le _, fun h => absurd h (Nat.lt_irrefl _)⟩ (fun w' k => ⟨(HhrsM.out.upd (hup w' k).none).1, ⟨none, 0, rfl, Nat.le_refl _, Nat.zero_le _, fun h => absurd h (Nat.lt_irrefl _)⟩⟩) (by omega) (by decide)
    rw [begin_is] at hbg
    unfold BeginPost at hbg
    have Hhbg := Lib.hid hbg; clear hbg
    have Hu3 := Lib.hid u3; clear u3
    clear hcy hup hC
    go_wp2_with fail
    refine Hhbg.out.mono ?_
    rintro e w4 ⟨rfl, B, hcy4, hBz, hu4⟩
    have u4 := Hu3.out.own hu4 (fun i e => by rw [e]; exact hCW)
    have hBW : W.heap.size ≤ B := by have := Hu3.out.size; omega
    have hbd := hcy4.bd (by unfold cBeg; simp)
    have hbl : Calls Try.prog 22 #[.pointer (some ⟨L, 0, none⟩)] w4 (RetK w4 (.int .i64 N)) := lay_Blocks L N 0 0 0 hN2 (by decide) (by decide) (by decide) w4 hcy4.lay
    unfold RetK at hbl
    have Hhcy4 := Lib.hid hcy4; clear hcy4
    have Hu4 := Lib.hid u4; clear u4
    have Hhbl := Lib.hid hbl; clear hbl
    have Hhbd := Lib.hid hbd; clear hbd
    clear hu4 Hhbg Hu3 hBz
    go_wp2_with fail
    refine Hhbl.out.mono ?_
    rintro e w5 ⟨rfl, u5⟩
    have hcy5 := Hhcy4.out.still u5
    have u05 := Hu4.out.trans u5
    have hof := map_OfF (N : Int) uv us w5 (Hhus.out.upd u05.none)
    unfold OfPost at hof
    rw [show (max 0 (min (N : Int) 1048576)).toNat = N from by omega] at hof
    have hs5 := u5.size
    have Hhcy5 := Lib.hid hcy5; clear hcy5
    have Hu05 := Lib.hid u05; clear u05
    have Hhof := Lib.hid hof; clear hof
    clear u5 Hhcy4 Hu4 Hhbl
    go_wp2_with fail
    refine Hhof.out.mono ?_
    rintro e w6 ⟨b, g, rfl, hM6, hbz, hgz, hu6⟩
    obtain ⟨P, hP⟩ : ∃ P, (N + 7) / 8 = P := ⟨_, rfl⟩
    have hat : CyAt W C L N 0 0 0 B b g (bitW us) (cBeg N ra 0 (mkNew 0 0) 0 rs []) w6 :=
      ⟨Hhcy5.out.still hu6, hM6, fun e => by have := Hhbd.out _ e; omega, fun e => by have := Hhbd.out _ e; omega, Hu05.out.trans hu6, ⟨hCW, hBW⟩, fun j hj => by have := Hhbd.out j hj; have := hu6.size; omega⟩
    have hrun := cBeg_run (mk := mkNew 0 0) (room := ra) (ep := 0) rs [] hP hN1 (Nat.zero_le P)
    have hpot := cBeg_pot N P ra 0 (mkNew 0 0) 0 rs []
    have hsw : (cBeg N ra 0 (mkNew 0 0) 0 rs []).swept P = 0 := rfl
    have hcN : (cBeg N ra 0 (mkNew 0 0) 0 rs []).N = N := rfl
    have hPB : P ≤ 5 := by omega
    have hPI : (P : Int) ≤ 5 := by omega
    have hpgs : ∀ w' c, CyAt W C L N 0 0 0 B b g (bitW us) c w' → Calls Try.prog 23 #[.pointer (some ⟨L, 0, none⟩)] w' (RetK w' (.int .i64 P)) := fun w' c h => by
      have := lay_Pages L N 0 0 0 hN2 (by decide) (by decide) (by decide) w' h.cy.lay
      have e : (sumN N 0 0 0 + 7) / 8 = P := hP
      rw [e] at this
      exact this
    have hstep : ∀ w w2 c bx, CyAt W C L N 0 0 0 B b g (bitW us) c w → CyRun P c → w2.cell? ⟨bx, 0, none⟩ = some (.slice ta tt.length tc) → w.heap.size ≤ bx → Upd (fun _ => False) w w2 →
        Calls Try.prog 36 #[.pointer (some ⟨C, 0, none⟩), refsFn bx, .slice wsa ws.length wsc, .pointer (some ⟨b, 0, none⟩)] w2 (PhStep W C L N B b g (bitW us) (c.step (refsOf tt)) (c.weaks ws).length (c.blocks (bitI c.N (bitW us))).length) := fun w w2 c bx h hr hc hb u2 => by
      have hpg := hr.pg
      refine (cyat_Step h (by omega) HhM.out Hhlb.out hc hb u2 (fun w' k => (HhwsM.out.upd ((h.up.trans u2).own k (fun i e => by
        rcases e with rfl | e
        · exact h.ge.1
        · have := e.1
          have := h.ge.2
          omega)).none).1) (by omega)).mono ?_
      rintro e w3 ⟨a1, c1, a2, c2, rfl, -, -, h3, u3⟩
      exact ⟨a1, c1, a2, c2, rfl, (h.still u2).next h3 (cy_step_N _ _) u3⟩
    generalize cBeg N ra 0 (mkNew 0 0) 0 rs [] = c0 at *
    have Hhat := Lib.hid hat; clear hat
    have Hhrun := Lib.hid hrun; clear hrun
    have Hhpot := Lib.hid hpot; clear hpot
    have Hhsw := Lib.hid hsw; clear hsw
    have Hhpgs := Lib.hid hpgs; clear hpgs
    have Hhstep := Lib.hid hstep; clear hstep
    have HhcN := Lib.hid hcN; clear hcN
    have HhP := Lib.hid hP; clear hP
    clear hM6 hbz hgz hu6 Hhcy5 Hu05 Hhof Hhbd
    go_upto_block 0 with fail
    go_cut [17] (fun s wx => s = .int .i64 P ∧ ∃ c, CyAt W C L N 0 0 0 B b g (bitW us) c wx)
    case first =>
      go_wp2_with fail
      go_loopw [17, 18] (fun s i wr => ∃ (q : Nat) (c : Cy), i = .int .i64 q ∧ s = .int .i64 (c.swept P) ∧ q + c.pot P ≤ 2 * N + P + 3 ∧ CyRun P c ∧ c.N = N ∧ CyAt W C L N 0 0 0 B b g (bitW us) c wr) (fun _ i _ => (2 * N + P + 4 - intOf i).toNat)
      case atStart => exact ⟨0, c0, rfl, by rw [Hhsw.out]; rfl, by have := Hhpot.out; omega, Hhrun.out, HhcN.out, Hhat.out⟩
      case round =>
        obtain ⟨q, c, rfl, rfl, hq, hr, hcN, hat⟩ := hrel
        clear Hhat Hhrun Hhpot Hhsw HhcN
        have hle := hr.le
        have hph := cyc_Phase hat.cy
        have h4 : c.ph = 0 ∨ c.ph ≠ 0 := by omega
        rcases h4 with e0 | e0
        · have hsw : c.swept P = P := by unfold Cy.swept; rw [e0]; rfl
          rw [hsw]
          rw [e0] at hph
          have hph : Calls Try.prog 35 #[.pointer (some ⟨C, 0, none⟩)] wr (Same wr (.int .i64 0)) := hph
          have Hhph := Lib.hid hph; clear hph
          have Hhat := Lib.hid hat; clear hat
          have Hhr := Lib.hid hr; clear hr
          have Hhq := Lib.hid hq; clear hq
          have HhcN := Lib.hid hcN; clear hcN
          clear hsw e0
          go_wp2_with (go_at_call 35; (with_reducible refine Hhph.out.mono ?_); rintro e w8 ⟨rfl, rfl⟩)
          go_meet
          exact ⟨rfl, c, Hhat.out⟩
        · have hOk := fun h => (hat.cy.ok.ok h).1
          have hr2 := hr.step (refsOf tt)
          have hp2 := hr.pot hOk (refsOf tt) e0
          have hs2 := hr.swept (refsOf tt) e0
          have hq2 : (q + 1) + (c.step (refsOf tt)).pot P ≤ 2 * N + P + 3 := by omega
          have hqI : (q : Int) ≤ 200 := by omega
          have hsI : (c.swept P : Int) ≤ 5 := by
            have := hr.pg
            unfold Cy.swept sweptN
            split <;> omega
          have hN2 : (c.step (refsOf tt)).N = N := (cy_step_N _ _).trans hcN
          have hrf := law_refs ta tt.length tc wr
          unfold RefsPost at hrf
          have hst := fun w2 bx => Hhstep.out wr w2 c bx hat hr
          obtain ⟨m1, hm1⟩ : ∃ m1, (c.weaks ws).length = m1 := ⟨_, rfl⟩
          obtain ⟨m2, hm2⟩ : ∃ m2, (c.blocks (bitI c.N (bitW us))).length = m2 := ⟨_, rfl⟩
          rw [hm1, hm2] at hst
          have hm1z : c.ph ≠ 2 → m1 = 0 := fun h => by rw [← hm1]; unfold Cy.weaks; rw [if_neg h]; rfl
          have hm1B : m1 ≤ 20 := by
            rw [← hm1]
            unfold Cy.weaks
            split
            · exact Nat.le_trans (weakTo_len ws _ _) (by omega)
            · exact Nat.zero_le _
          have hm2z : c.ph ≠ 3 → m2 = 0 := fun h => by rw [← hm2]; unfold Cy.blocks; rw [if_neg h]; rfl
          have hm2B : m2 ≤ 8 := by
            rw [← hm2]
            unfold Cy.blocks
            split
            · exact pageL_len _ _ _ _
            · exact Nat.zero_le _
          have hph2 : ∀ w', CyAt W C L N 0 0 0 B b g (bitW us) (c.step (refsOf tt)) w' → Calls Try.prog 35 #[.pointer (some ⟨C, 0, none⟩)] w' (Same w' (.int .i64 ((c.step (refsOf tt)).ph : Int))) := fun w' h => cyc_Phase h.cy
          have key : (c.ph = 1 ∧ (c.step (refsOf tt)).ph = 1) ∨ (c.ph = 1 ∧ (c.step (refsOf tt)).ph = 2) ∨ (c.ph = 2 ∧ (c.step (refsOf tt)).ph = 3) ∨ (c.ph = 3 ∧ (c.step (refsOf tt)).ph = 3) ∨ (c.ph = 3 ∧ (c.step (refsOf tt)).ph = 0) := by
            have h5 : c.ph = 1 ∨ c.ph = 2 ∨ c.ph = 3 := by omega
            rcases h5 with e | e | e
            · rw [cy_step1 e]
              cases hd : c.mr.done
              · exact Or.inl ⟨e, rfl⟩
              · exact Or.inr (Or.inl ⟨e, rfl⟩)
            · rw [cy_step2 e]
              exact Or.inr (Or.inr (Or.inl ⟨e, rfl⟩))
            · rw [cy_step3 e]
              by_cases hx : c.pages ≤ c.pg + 1
              · exact Or.inr (Or.inr (Or.inr (Or.inr ⟨e, if_pos hx⟩)))
              · exact Or.inr (Or.inr (Or.inr (Or.inl ⟨e, if_neg hx⟩)))
          generalize c.step (refsOf tt) = d at *
          generalize c.swept P = s at *
          clear hOk hp2 hle e0 hm1 hm2
          have Hhat := Lib.hid hat; clear hat
          have Hhr := Lib.hid hr; clear hr
          have Hhr2 := Lib.hid hr2; clear hr2
          have Hhq2 := Lib.hid hq2; clear hq2
          have HhN2 := Lib.hid hN2; clear hN2
          have Hhrf := Lib.hid hrf; clear hrf
          have Hhst := Lib.hid hst; clear hst
          clear hq hcN
          rcases key with ⟨ea, eb⟩ | ⟨ea, eb⟩ | ⟨ea, eb⟩ | ⟨ea, eb⟩ | ⟨ea, eb⟩
          · rw [ea] at hph hs2 hm1z hm2z
            rw [eb] at hph2
            have hph : Calls Try.prog 35 #[.pointer (some ⟨C, 0, none⟩)] wr (Same wr (.int .i64 1)) := hph
            have hph2 : ∀ w', CyAt W C L N 0 0 0 B b g (bitW us) d w' → Calls Try.prog 35 #[.pointer (some ⟨C, 0, none⟩)] w' (Same w' (.int .i64 1)) := hph2
            rw [if_neg (by decide)] at hs2
            obtain rfl : m1 = 0 := hm1z (by decide)
            obtain rfl : m2 = 0 := hm2z (by decide)
            have Hhph := Lib.hid hph; clear hph
            have Hhph2 := Lib.hid hph2; clear hph2
            have Hhs2 := Lib.hid hs2; clear hs2
            clear ea eb hm1z hm2z hm1B hm2B
            go_wp2_with (go_at_call 35; (with_reducible refine Hhph.out.mono ?_); rintro e w8 ⟨rfl, rfl⟩)
            refine Hhrf.out.mono ?_
            rintro e w5 ⟨bx, rfl, hc5, hbx5, hbx5', hu5⟩
            have hs := Hhst.out w5 bx hc5 hbx5 hu5
            unfold PhStep at hs
            have Hhs := Lib.hid hs; clear hs
            clear hc5 hbx5 hbx5' hu5
            go_wp2_with fail
            refine Hhs.out.mono ?_
            rintro e w7 ⟨a1, c1, a2, c2, rfl, hat7⟩
            have hat8 := hat7.still ((Upd.refl (fun _ => False) w7).alloc (.cells #[.slice a1 0 c1, .slice a2 0 c2] 60))
            have hph8 := Hhph2.out _ hat8
            have Hhat8 := Lib.hid hat8; clear hat8
            clear hat7 Hhs Hhrf Hhst
            have hph9 := Lib.hid hph8
            clear hph8
            go_wp2_with (go_at_call 35; (with_reducible refine hph9.out.mono ?_); rintro e w8 ⟨rfl, rfl⟩)
            go_roundw
            case rel => exact ⟨q + 1, d, by go_num, by rw [Hhs2.out]; rfl, Hhq2.out, Hhr2.out, HhN2.out, Hhat8.out⟩
            case measure => have := Hhq2.out; simp [intOf]; omega
          · rw [ea] at hph hs2 hm1z hm2z
            rw [eb] at hph2
            have hph : Calls Try.prog 35 #[.pointer (some ⟨C, 0, none⟩)] wr (Same wr (.int .i64 1)) := hph
            have hph2 : ∀ w', CyAt W C L N 0 0 0 B b g (bitW us) d w' → Calls Try.prog 35 #[.pointer (some ⟨C, 0, none⟩)] w' (Same w' (.int .i64 2)) := hph2
            rw [if_neg (by decide)] at hs2
            obtain rfl : m1 = 0 := hm1z (by decide)
            obtain rfl : m2 = 0 := hm2z (by decide)
            have Hhph := Lib.hid hph; clear hph
            have Hhph2 := Lib.hid hph2; clear hph2
            have Hhs2 := Lib.hid hs2; clear hs2
            clear ea eb hm1z hm2z hm1B hm2B
            go_wp2_with (go_at_call 35; (with_reducible refine Hhph.out.mono ?_); rintro e w8 ⟨rfl, rfl⟩)
            refine Hhrf.out.mono ?_
            rintro e w5 ⟨bx, rfl, hc5, hbx5, hbx5', hu5⟩
            have hs := Hhst.out w5 bx hc5 hbx5 hu5
            unfold PhStep at hs
            have Hhs := Lib.hid hs; clear hs
            clear hc5 hbx5 hbx5' hu5
            go_wp2_with fail
            refine Hhs.out.mono ?_
            rintro e w7 ⟨a1, c1, a2, c2, rfl, hat7⟩
            have hat8 := hat7.still ((Upd.refl (fun _ => False) w7).alloc (.cells #[.slice a1 0 c1, .slice a2 0 c2] 60))
            have hph8 := Hhph2.out _ hat8
            have Hhat8 := Lib.hid hat8; clear hat8
            clear hat7 Hhs Hhrf Hhst
            have hph9 := Lib.hid hph8
            clear hph8
            go_wp2_with (go_at_call 35; (with_reducible refine hph9.out.mono ?_); rintro e w8 ⟨rfl, rfl⟩)
            go_roundw
            case rel => exact ⟨q + 1, d, by go_num, by rw [Hhs2.out]; rfl, Hhq2.out, Hhr2.out, HhN2.out, Hhat8.out⟩
            case measure => have := Hhq2.out; simp [intOf]; omega
          · rw [ea] at hph hs2 hm1z hm2z
            rw [eb] at hph2
            have hph : Calls Try.prog 35 #[.pointer (some ⟨C, 0, none⟩)] wr (Same wr (.int .i64 2)) := hph
            have hph2 : ∀ w', CyAt W C L N 0 0 0 B b g (bitW us) d w' → Calls Try.prog 35 #[.pointer (some ⟨C, 0, none⟩)] w' (Same w' (.int .i64 3)) := hph2
            rw [if_neg (by decide)] at hs2
            obtain rfl : m2 = 0 := hm2z (by decide)
            have hmI : (m1 : Int) ≤ 20 := by omega
            have Hhph := Lib.hid hph; clear hph
            have Hhph2 := Lib.hid hph2; clear hph2
            have Hhs2 := Lib.hid hs2; clear hs2
            clear ea eb hm1z hm2z hm1B hm2B
            have hc0 : ((0 : Int) < m1) ∨ ¬ ((0 : Int) < m1) := by omega
            rcases hc0 with hc0 | hc0
            all_goals
              go_wp2_with (go_at_call 35; (with_reducible refine Hhph.out.mono ?_); rintro e w8 ⟨rfl, rfl⟩)
              refine Hhrf.out.mono ?_
              rintro e w5 ⟨bx, rfl, hc5, hbx5, hbx5', hu5⟩
              have hs := Hhst.out w5 bx hc5 hbx5 hu5
              unfold PhStep at hs
              have Hhs := Lib.hid hs; clear hs
              clear hc5 hbx5 hbx5' hu5
              go_wp2_with fail
              refine Hhs.out.mono ?_
              rintro e w7 ⟨a1, c1, a2, c2, rfl, hat7⟩
              have hat8 := hat7.still ((Upd.refl (fun _ => False) w7).alloc (.cells #[.slice a1 m1 c1, .slice a2 0 c2] 60))
              have hph8 := Hhph2.out _ hat8
              have Hhat8 := Lib.hid hat8; clear hat8
              clear hat7 Hhs Hhrf Hhst
              have hph9 := Lib.hid hph8
              clear hph8
              go_wp2_with (go_at_call 35; (with_reducible refine hph9.out.mono ?_); rintro e w8 ⟨rfl, rfl⟩)
              go_roundw
              case rel => exact ⟨q + 1, d, by go_num, by rw [Hhs2.out]; rfl, Hhq2.out, Hhr2.out, HhN2.out, Hhat8.out⟩
              case measure => have := Hhq2.out; simp [intOf]; omega
          · rw [ea] at hph hs2 hm1z hm2z
            rw [eb] at hph2
            have hph : Calls Try.prog 35 #[.pointer (some ⟨C, 0, none⟩)] wr (Same wr (.int .i64 3)) := hph
            have hph2 : ∀ w', CyAt W C L N 0 0 0 B b g (bitW us) d w' → Calls Try.prog 35 #[.pointer (some ⟨C, 0, none⟩)] w' (Same w' (.int .i64 3)) := hph2
            rw [if_pos rfl] at hs2
            obtain rfl : m1 = 0 := hm1z (by decide)
            have hmI : (m2 : Int) ≤ 8 := by omega
            have hmI8 : ¬ ((8 : Int) < m2) := by omega
            have Hhph := Lib.hid hph; clear hph
            have Hhph2 := Lib.hid hph2; clear hph2
            have Hhs2 := Lib.hid hs2; clear hs2
            clear ea eb hm1z hm2z hm1B hm2B
            have hc0 : ((0 : Int) < m2) ∨ ¬ ((0 : Int) < m2) := by omega
            rcases hc0 with hc0 | hc0
            all_goals
              go_wp2_with (go_at_call 35; (with_reducible refine Hhph.out.mono ?_); rintro e w8 ⟨rfl, rfl⟩)
              refine Hhrf.out.mono ?_
              rintro e w5 ⟨bx, rfl, hc5, hbx5, hbx5', hu5⟩
              have hs := Hhst.out w5 bx hc5 hbx5 hu5
              unfold PhStep at hs
              have Hhs := Lib.hid hs; clear hs
              clear hc5 hbx5 hbx5' hu5
              go_wp2_with fail
              refine Hhs.out.mono ?_
              rintro e w7 ⟨a1, c1, a2, c2, rfl, hat7⟩
              have hat8 := hat7.still ((Upd.refl (fun _ => False) w7).alloc (.cells #[.slice a1 0 c1, .slice a2 m2 c2] 60))
              have hph8 := Hhph2.out _ hat8
              have Hhat8 := Lib.hid hat8; clear hat8
              clear hat7 Hhs Hhrf Hhst
              have hph9 := Lib.hid hph8
              clear hph8
              go_wp2_with (go_at_call 35; (with_reducible refine hph9.out.mono ?_); rintro e w8 ⟨rfl, rfl⟩)
              go_roundw
              case rel => exact ⟨q + 1, d, by go_num, by rw [Hhs2.out]; go_num, Hhq2.out, Hhr2.out, HhN2.out, Hhat8.out⟩
              case measure => have := Hhq2.out; simp [intOf]; omega
          · rw [ea] at hph hs2 hm1z hm2z
            rw [eb] at hph2
            have hph : Calls Try.prog 35 #[.pointer (some ⟨C, 0, none⟩)] wr (Same wr (.int .i64 3)) := hph
            have hph2 : ∀ w', CyAt W C L N 0 0 0 B b g (bitW us) d w' → Calls Try.prog 35 #[.pointer (some ⟨C, 0, none⟩)] w' (Same w' (.int .i64 0)) := hph2
            rw [if_pos rfl] at hs2
            obtain rfl : m1 = 0 := hm1z (by decide)
            have hmI : (m2 : Int) ≤ 8 := by omega
            have hmI8 : ¬ ((8 : Int) < m2) := by omega
            have Hhph := Lib.hid hph; clear hph
            have Hhph2 := Lib.hid hph2; clear hph2
            have Hhs2 := Lib.hid hs2; clear hs2
            clear ea eb hm1z hm2z hm1B hm2B
            have hc0 : ((0 : Int) < m2) ∨ ¬ ((0 : Int) < m2) := by omega
            rcases hc0 with hc0 | hc0
            all_goals
              go_wp2_with (go_at_call 35; (with_reducible refine Hhph.out.mono ?_); rintro e w8 ⟨rfl, rfl⟩)
              refine Hhrf.out.mono ?_
              rintro e w5 ⟨bx, rfl, hc5, hbx5, hbx5', hu5⟩
              have hs := Hhst.out w5 bx hc5 hbx5 hu5
              unfold PhStep at hs
              have Hhs := Lib.hid hs; clear hs
              clear hc5 hbx5 hbx5' hu5
              go_wp2_with fail
              refine Hhs.out.mono ?_
              rintro e w7 ⟨a1, c1, a2, c2, rfl, hat7⟩
              have hat8 := hat7.still ((Upd.refl (fun _ => False) w7).alloc (.cells #[.slice a1 0 c1, .slice a2 m2 c2] 60))
              have hph8 := Hhph2.out _ hat8
              have Hhat8 := Lib.hid hat8; clear hat8
              clear hat7 Hhs Hhrf Hhst
              have hph9 := Lib.hid hph8
              clear hph8
              go_wp2_with (go_at_call 35; (with_reducible refine hph9.out.mono ?_); rintro e w8 ⟨rfl, rfl⟩)
              go_roundw
              case rel => exact ⟨q + 1, d, by go_num, by rw [Hhs2.out]; go_num, Hhq2.out, Hhr2.out, HhN2.out, Hhat8.out⟩
              case measure => have := Hhq2.out; simp [intOf]; omega
    case rest =>
      obtain ⟨rfl, c, hat⟩ := hcut
      have hpq := Hhpgs.out wc c hat
      unfold RetK at hpq
      clear Hhat Hhrun Hhpot Hhsw HhcN
      have Hhat := Lib.hid hat; clear hat
      have Hhpq := Lib.hid hpq; clear hpq
      go_wp2_with fail
      refine Hhpq.out.mono ?_
      rintro e w8 ⟨rfl, u8⟩
      have haw := awake21 W w8 (Hhat.out.up.trans u8)
      have Hhaw := Lib.hid haw; clear haw
      clear Hhpq u8
      go_wp2_with (go_at_call 30; (with_reducible refine Hhaw.out.mono ?_); rintro e w9 ⟨rfl, hu⟩)
      go_ret
      exact ⟨rfl, hu.none⟩
  · have haw := awake21 W W (Upd.refl _ _)
    cases hlt : lightM tt
    · rw [hlt] at hlight
      have Hhlight := Lib.hid hlight; clear hlight
      have Hhaw := Lib.hid haw; clear haw
      clear hM hgo hlt
      go_enter Try.func8, Try.ntmps8
      go_wp2_with (first | (go_at_call 29; (with_reducible refine Hhlight.out.mono ?_); rintro e w2 ⟨rfl, rfl⟩) | (go_at_call 30; (with_reducible refine Hhaw.out.mono ?_); rintro e w2 ⟨rfl, hu⟩))
      go_ret
      exact ⟨rfl, hu.none⟩
    · rw [hlt] at hlight hgo
      have key : ((20 : Int) < ws.length) ∨ (¬ ((20 : Int) < ws.length) ∧ (30 : Int) < rs.length) := by
        have hgo2 : ¬ (ws.length ≤ 20 ∧ rs.length ≤ 30) := fun h => hgo ⟨rfl, h⟩
        omega
      have Hhlight := Lib.hid hlight; clear hlight
      have Hhaw := Lib.hid haw; clear haw
      clear hM hgo hlt
      rcases key with c1 | ⟨c1, c2⟩
      all_goals
        go_enter Try.func8, Try.ntmps8
        go_wp2_with (first | (go_at_call 29; (with_reducible refine Hhlight.out.mono ?_); rintro e w2 ⟨rfl, rfl⟩) | (go_at_call 30; (with_reducible refine Hhaw.out.mono ?_); rintro e w2 ⟨rfl, hu⟩))
        go_ret
        exact ⟨rfl, hu.none⟩

theorem own : ownKnob Try.prog.godebug = none := by kernel_rfl
theorem laidOut : laidOutB Try.prog = true := by kernel_rfl
set_option maxRecDepth 100000 in
theorem lifted (os : Os) (started : os.Started) (H : Type) (enc : TypeId × Value → H) :
    ReturnsInHanded {} Try.checked os 8 .any (Rows.cyclePhasesSpec.pre6 enc Try.prog Try.f8 Rows.cyclePhasesRow.domain false) (Rows.cyclePhasesSpec.post enc Try.prog Try.f8 false true false false) := by
  refine returnsInHanded_of_change_sized (C := Try.checked) own started (by kernel_rfl) Try.func8
    (ChangeSpec.witness6 (enc := enc) (C := Try.checked) false ⟨#[], #[.int .i64 0, .int .i64 0, .slice none 0 0, .slice none 0 0, .slice none 0 0, .slice none 0 0], []⟩ 8 (by kernel_rfl) (by kernel_rfl) (by kernel_rfl) (by kernel_rfl)) ?_
  intro W base args ds gs before hval0 hW _ hsz0 _
  have hsz : (DataW.weightsEach Try.prog (Try.f8.params.toList ++ Rows.cyclePhasesSpec.plain.varTypes Try.prog) (ds ++ gs)).all (· ≤ reachBytes) = true := hsz0
  clear hsz0
  have hval : ∀ (j : Nat) t v, Try.f8.params[j]? = some t → args[j]? = some v → Value.okWide Try.prog W .any base t v := hval0
  have hW' := hW
  obtain ⟨p, q, hA0, hV, rfl, _, _⟩ := hW
  have hA : DataW.TrodAll enc Try.prog W 0 (fun _ => true) true Try.f8.params.toList args.toList ds p := hA0
  rw [Try.params8] at hA hval hsz
  obtain ⟨v0, vs0, d0, ds0, p0, q0, hargs, rfl, rfl, h0, r0⟩ := trodAll_cons hA
  obtain ⟨v1, vs1, d1, ds1, p1, q1, rfl, rfl, rfl, h1, r1⟩ := trodAll_cons r0
  obtain ⟨v2, vs2, d2, ds2, p2, q2, rfl, rfl, rfl, h2, r2⟩ := trodAll_cons r1
  obtain ⟨v3, vs3, d3, ds3, p3, q3, rfl, rfl, rfl, h3, r3⟩ := trodAll_cons r2
  obtain ⟨v4, vs4, d4, ds4, p4, q4, rfl, rfl, rfl, h4, r4⟩ := trodAll_cons r3
  obtain ⟨v5, vs5, d5, ds5, p5, q5, rfl, rfl, rfl, h5, r5⟩ := trodAll_cons r4
  obtain ⟨rfl, rfl, rfl⟩ := trodAll_nil r5
  obtain rfl : args = #[v0, v1, v2, v3, v4, v5] := by cases args; simp_all
  obtain ⟨rfl, rfl⟩ := trodVars_none hV
  clear hA0 hval0
  simp only [List.append_nil] at hW'
  have hlt : ∀ x, (x ∈ p0 ∨ x ∈ p1 ∨ x ∈ p2 ∨ x ∈ p3 ∨ x ∈ p4 ∨ x ∈ p5) → x.block < W.heap.size := fun x hx => by simpa using hW'.lt x (by simpa using hx)
  have k0 : ∀ (W' : World), Below W.heap.size W W' → DataW.Trod enc Try.prog W' 0 (fun b => decide (b < W.heap.size)) true 3 v0 d0 p0 :=
    fun W' hn => Below.trod laidOut (by kernel_rfl) (of_decide_eq_true (by kernel_rfl)) h0 hn (fun x hx => hlt x (Or.inl hx))
  have k1 : ∀ (W' : World), Below W.heap.size W W' → DataW.Trod enc Try.prog W' 0 (fun b => decide (b < W.heap.size)) true 3 v1 d1 p1 :=
    fun W' hn => Below.trod laidOut (by kernel_rfl) (of_decide_eq_true (by kernel_rfl)) h1 hn (fun x hx => hlt x (Or.inr (Or.inl hx)))
  have k2 : ∀ (W' : World), Below W.heap.size W W' → DataW.Trod enc Try.prog W' 0 (fun b => decide (b < W.heap.size)) true 52 v2 d2 p2 :=
    fun W' hn => Below.trod laidOut (by kernel_rfl) (of_decide_eq_true (by kernel_rfl)) h2 hn (fun x hx => hlt x (Or.inr (Or.inr (Or.inl hx))))
  have k3 : ∀ (W' : World), Below W.heap.size W W' → DataW.Trod enc Try.prog W' 0 (fun b => decide (b < W.heap.size)) true 37 v3 d3 p3 :=
    fun W' hn => Below.trod laidOut (by kernel_rfl) (of_decide_eq_true (by kernel_rfl)) h3 hn (fun x hx => hlt x (Or.inr (Or.inr (Or.inr (Or.inl hx)))))
  have k4 : ∀ (W' : World), Below W.heap.size W W' → DataW.Trod enc Try.prog W' 0 (fun b => decide (b < W.heap.size)) true 37 v4 d4 p4 :=
    fun W' hn => Below.trod laidOut (by kernel_rfl) (of_decide_eq_true (by kernel_rfl)) h4 hn (fun x hx => hlt x (Or.inr (Or.inr (Or.inr (Or.inr (Or.inl hx))))))
  have k5 : ∀ (W' : World), Below W.heap.size W W' → DataW.Trod enc Try.prog W' 0 (fun b => decide (b < W.heap.size)) true 23 v5 d5 p5 :=
    fun W' hn => Below.trod laidOut (by kernel_rfl) (of_decide_eq_true (by kernel_rfl)) h5 hn (fun x hx => hlt x (Or.inr (Or.inr (Or.inr (Or.inr (Or.inr (hx)))))))
  obtain ⟨a0, rfl, _, _, w0⟩ := open_int Try.underlying3 (hval 0 3 v0 rfl rfl) h0
  obtain ⟨a1, rfl, _, _, w1⟩ := open_int Try.underlying3 (hval 1 3 v1 rfl rfl) h1
  obtain ⟨x2, hx2⟩ := open_matAt Try.underlying52 Try.underlying37 Try.underlying3 (by kernel_rfl) (by kernel_rfl) (by kernel_rfl) (hval 2 52 v2 rfl rfl) h2 hsz 2 rfl rfl
  obtain ⟨x3, hx3⟩ := open_intsAt (bytes := 8) Try.underlying37 Try.underlying3 (by kernel_rfl) (by kernel_rfl) (hval 3 37 v3 rfl rfl) h3 hsz 3 rfl rfl
  obtain ⟨x4, hx4⟩ := open_intsAt (bytes := 8) Try.underlying37 Try.underlying3 (by kernel_rfl) (by kernel_rfl) (hval 4 37 v4 rfl rfl) h4 hsz 4 rfl rfl
  obtain ⟨x5, hx5⟩ := open_intsAt (bytes := 8) Try.underlying23 Try.underlying82 (by kernel_rfl) (by kernel_rfl) (hval 5 23 v5 rfl rfl) h5 hsz 5 rfl rfl
  refine (walk (W := W) a0 w0 a1 w1 v2 x2 hx2 v3 x3 hx3 v4 x4 hx4 v5 x5 hx5).mono fun e W' ⟨he, hb⟩ => ?_
  subst he
  refine ⟨_, rfl, _, _, _, [], p0 ++ (p1 ++ (p2 ++ (p3 ++ (p4 ++ (p5 ++ ([])))))), [], hW', ?_, ?_, rfl, hb.frame _, fun h => by cases h⟩
  · exact trodAll_cons_mk (shut_bool Try.underlying4 true) trodAll_mk0
  · exact trodAll_cons_mk (k0 _ hb) (trodAll_cons_mk (k1 _ hb) (trodAll_cons_mk (k2 _ hb) (trodAll_cons_mk (k3 _ hb) (trodAll_cons_mk (k4 _ hb) (trodAll_cons_mk (k5 _ hb) (trodAll_mk0))))))

theorem over : Rows.cyclePhasesRow.holds Try.pinned (OpenSpec.ofChange Rows.cyclePhasesSpec) :=
  OpenClaim.holds_of_wide 8 Try.f8 rfl rfl rfl rfl rfl rfl rfl ⟨rfl, rfl, rfl, rfl, rfl⟩ rfl rfl rfl rfl rfl (by kernel_rfl) Try.func8 (by kernel_rfl)
    (of_decide_eq_true (by kernel_rfl)) (by unfold Func.isWrapper; first | (rw [if_pos (by decide +kernel)]; kernel_rfl) | (rw [if_neg (by decide +kernel)]; exact ⟨rfl, rfl⟩))
    (fun os started H enc _ => lifted os started H enc)

/-- The given statement. -/
theorem proved : Rows.CyclePhasesSaid := over
#print axioms proved
end Go.Proofs.Ythaicpjgmplgcaa.cyclePhases
