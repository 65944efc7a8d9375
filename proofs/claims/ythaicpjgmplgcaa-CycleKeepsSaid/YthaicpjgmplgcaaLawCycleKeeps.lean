/- What is Shaded or laid while a collection goes on is not given back by it. No condition. -/
import Derived.Test.YthaicpjgmplgcaaRunA
import Derived.Test.YthaicpjgmplgcaaKeepM
import Derived.SizedLaws
import Derived.Deep.DrawnRows
import Derived.Deep.DeepCutAuto
import Derived.Deep.CutBlock
namespace Go.Proofs.Ythaicpjgmplgcaa.cycleKeeps
open Go.ChangeShapes Go.WideShapes Go.ChangeAt Go.RowKit
set_option linter.unusedVariables false

def KpStep (W : World) (C L N B b g : Nat) (f : Nat → Bool) (d : Cy) (ys : List Int) (w2 : World) (e : Ending) (w' : World) : Prop :=
  ∃ a1 c1 a2 c2, e = .returned (.agg #[.slice a1 0 c1, .slice a2 ys.length c2]) ∧ IntsR w' (.slice a2 ys.length c2) .i64 ys ∧ CyAt W C L N 0 0 0 B b g f d w' ∧ Upd (InCy C B) w2 w'
theorem blocks_rng {c : Cy} {u : Int → Bool} {y : Int} (h : y ∈ c.blocks u) : 0 ≤ y ∧ y < c.N := by
  unfold Cy.blocks at h
  split at h
  · unfold pageL at h
    split at h
    · simp at h
    · exact ⟨(mem_pageTo 8 h).1, (mem_pageTo 8 h).2.1⟩
  · simp at h
theorem i64_wf {n : Int} (h0 : -1000 ≤ n) (h1 : n ≤ 1000) : (Lit.int .i64 n).wf = true := by
  simp only [Lit.wf, Bool.and_eq_true, decide_eq_true_eq]
  rw [show IntKind.i64.min = -9223372036854775808 from by decide, show IntKind.i64.max = 9223372036854775807 from by decide]
  omega

set_option maxRecDepth 100000 in
set_option maxHeartbeats 4000000 in
theorem walk {W : World} (n : Int) (w0 : (Lit.int .i64 n).wf = true) (ra : Int) (w1 : (Lit.int .i64 ra).wf = true) (tv : Value) (tt : List (List Int)) (ht : MatIn W tv tt ∧ tt.length * 24 ≤ 140737488351232) (rv : Value) (rs : List Int) (hrs : IntsIn W rv .i64 rs ∧ rs.length * 8 ≤ 140737488351232) (uv : Value) (us0 : List Int) (hus0 : IntsIn W uv .u64 us0 ∧ us0.length * 8 ≤ 140737488351232) (sv : Value) (sh : List Int) (hsh : IntsIn W sv .i64 sh ∧ sh.length * 8 ≤ 140737488351232) (av : Value) (al : List Int) (hal : IntsIn W av .i64 al ∧ al.length * 8 ≤ 140737488351232) :
    Calls Try.prog 9 #[.int .i64 n, .int .i64 ra, tv, rv, uv, sv, av] W (LawPost W) := by
  obtain ⟨hM, hMl⟩ := ht
  have hlight := law_light tv tt W hM hMl
  obtain ⟨ta, tc, htv⟩ := mat_shape hM
  subst htv
  obtain ⟨hrsM, hrsl⟩ := hrs
  obtain ⟨rsa, rsc, hrsv⟩ := ints_shape hrsM
  subst hrsv
  have hrsI : (rs.length : Int) ≤ 17592186044416 := by omega
  clear hrsl
  obtain ⟨us, hus, -⟩ := intsIn_words hus0.1
  clear hus0
  obtain ⟨hshM, hshl⟩ := hsh
  obtain ⟨sha, shc, hshv⟩ := ints_shape hshM
  subst hshv
  have hshI : (sh.length : Int) ≤ 17592186044416 := by omega
  clear hshl
  obtain ⟨halM, hall⟩ := hal
  obtain ⟨ala, alc, halv⟩ := ints_shape halM
  subst halv
  have halI : (al.length : Int) ≤ 17592186044416 := by omega
  clear hall
  clear w0 w1 hMl
  by_cases hgo : lightM tt = true ∧ rs.length ≤ 30
  · obtain ⟨hlt, hrsN⟩ := hgo
    rw [hlt] at hlight
    have hlb := light_bounds hlt
    have hrsB : (rs.length : Int) ≤ 30 := by omega
    have hc := law_config21 n W
    obtain ⟨hN1, hN2⟩ := fNum_le n
    generalize fNum n = N at *
    unfold cfgV at hc
    replace hc : Calls Try.prog 31 #[.int .i64 n] W (fun e w' => ∃ v, e = .returned (.agg #[v, .int .i64 N, .int .i64 0, .int .i64 0, .int .i64 0, .int .i64 1, .int .i64 0, .int .i64 40]) ∧ MatIn w' v [[1]] ∧ Upd (fun _ => False) W w') := hc
    have Hhlight := Lib.hid hlight; clear hlight
    have HhM := Lib.hid hM; clear hM
    have Hhlb := Lib.hid hlb; clear hlb
    have Hhus := Lib.hid hus; clear hus
    have HhrsM := Lib.hid hrsM; clear hrsM
    have HhshM := Lib.hid hshM; clear hshM
    have HhalM := Lib.hid halM; clear halM
    have Hhc := Lib.hid hc; clear hc
    clear hlt
    go_enter Try.func9, Try.ntmps9
    go_wp2_with fail
    refine Hhlight.out.mono ?_
    rintro e w' ⟨rfl, rfl⟩
    go_wp2_with fail
    refine Hhc.out.mono ?_
    rintro e w1 ⟨v, rfl, hM1, u1⟩
    have hl := lay_config (n0 := N) (n1 := 0) (n2 := 0) (n3 := 0) hN2 (by decide) (by decide) (by decide) (by omega) hM1
    unfold LayPost at hl
    replace hl : Calls Try.prog 14 #[.agg #[v, .int .i64 N, .int .i64 0, .int .i64 0, .int .i64 0, .int .i64 1, .int .i64 0, .int .i64 40]] w1 _ := hl
    have Hhl := Lib.hid hl; clear hl
    have Hu1 := Lib.hid u1; clear u1
    clear hM1 Hhc Hhlight
    go_wp2_with fail
    refine Hhl.out.mono ?_
    rintro e w2 ⟨L, rfl, hL, hLz, hu2⟩
    have hn := cyc_New hL ⟨hN2, by decide, by decide, by decide⟩ (by obtain ⟨v, r, bi, lo, bl, wo, hB, -, -⟩ := hL; exact hB.lt) ra (w2.heap.size + 1) (Nat.le_refl _)
    replace hn : Calls Try.prog 32 #[.pointer (some ⟨L, 0, none⟩), .int .i64 ra] w2 (fun e w' => e = .returned (.pointer (some ⟨w2.heap.size, 0, none⟩)) ∧ IsCy w' w2.heap.size L N 0 0 0 (w2.heap.size + 1) ⟨N, ra, 0, 0, mkNew 0 0, 0⟩ ∧ Upd (fun _ => False) w2 w') := hn
    have u2 := Hu1.out.trans hu2
    have Hhn := Lib.hid hn; clear hn
    have Hu2 := Lib.hid u2; clear u2
    clear hL hLz hu2 Hhl Hu1
    go_wp2_with fail
    refine Hhn.out.mono ?_
    rintro e w3 ⟨rfl, hcy, hu3⟩
    obtain ⟨C, hC⟩ : ∃ C, C = w2.heap.size := ⟨_, rfl⟩
    rw [← hC] at hcy ⊢
    have hCW : W.heap.size ≤ C := by rw [hC]; exact Hu2.out.size
    have u3 := Hu2.out.trans hu3
    clear hu3 Hhn Hu2
    have hup : ∀ w', Upd (fun j => j = C) w3 w' → Upd (fun _ => False) W w' := fun w' k => u3.own k (fun i e => by rw [e]; exact hCW)
    have hbg := cyc_Begin hcy rfl ⟨Int.le_refl 0, (by decide : (0 : Int) ≤ 1000000)⟩ (.slice rsa rs.length rsc) (.slice none 0 0) rs [] (HhrsM.out.upd u3.none).1 ⟨none, 0, rfl, Nat.le_refl _, Nat.zero_le _, fun h => absurd h (Nat.lt_irrefl _)⟩ (fun w' k => ⟨(HhrsM.out.upd (hup w' k).none).1, ⟨none, 0, rfl, Nat.le_refl _, Nat.zero_le _, fun h => absurd h (Nat.lt_irrefl _)⟩⟩) (by omega) (by decide)
    rw [begin_is] at hbg
    unfold BeginPost at hbg
    have Hhbg := Lib.hid hbg; clear hbg
    have Hu3 := Lib.hid u3; clear u3
    clear hcy hup hC
    go_wp2_with fail
    refine Hhbg.out.mono ?_
    rintro e w4 ⟨rfl, B, hcy4, hBz, hu4⟩
    have u4 := Hu3.out.own hu4 (fun i e => by rw [e]; exact hCW)
    have hBW : W.heap.size ≤ B := by have := Hu3.out.size; omega
    have hbd := hcy4.bd (by unfold cBeg; simp)
    have hbl : Calls Try.prog 22 #[.pointer (some ⟨L, 0, none⟩)] w4 (RetK w4 (.int .i64 N)) := lay_Blocks L N 0 0 0 hN2 (by decide) (by decide) (by decide) w4 hcy4.lay
    unfold RetK at hbl
    have Hhcy4 := Lib.hid hcy4; clear hcy4
    have Hu4 := Lib.hid u4; clear u4
    have Hhbl := Lib.hid hbl; clear hbl
    have Hhbd := Lib.hid hbd; clear hbd
    clear hu4 Hhbg Hu3 hBz
    go_wp2_with fail
    refine Hhbl.out.mono ?_
    rintro e w5 ⟨rfl, u5⟩
    have hcy5 := Hhcy4.out.still u5
    have u05 := Hu4.out.trans u5
    have hof := map_OfF (N : Int) uv us w5 (Hhus.out.upd u05.none)
    unfold OfPost at hof
    rw [show (max 0 (min (N : Int) 1048576)).toNat = N from by omega] at hof
    have hs5 := u5.size
    have Hhcy5 := Lib.hid hcy5; clear hcy5
    have Hu05 := Lib.hid u05; clear u05
    have Hhof := Lib.hid hof; clear hof
    clear u5 Hhcy4 Hu4 Hhbl
    go_wp2_with fail
    refine Hhof.out.mono ?_
    rintro e w6 ⟨b, g, rfl, hM6, hbz, hgz, hu6⟩
    obtain ⟨P, hP⟩ : ∃ P, (N + 7) / 8 = P := ⟨_, rfl⟩
    have hat : CyAt W C L N 0 0 0 B b g (bitW us) (cBeg N ra 0 (mkNew 0 0) 0 rs []) w6 :=
      ⟨Hhcy5.out.still hu6, hM6, fun e => by have := Hhbd.out _ e; omega, fun e => by have := Hhbd.out _ e; omega, Hu05.out.trans hu6, ⟨hCW, hBW⟩, fun j hj => by have := Hhbd.out j hj; have := hu6.size; omega⟩
    have hrun := cBeg_run (mk := mkNew 0 0) (room := ra) (ep := 0) rs [] hP hN1 (Nat.zero_le P)
    have hkp : Kept N P [] (cBeg N ra 0 (mkNew 0 0) 0 rs []) := ⟨hrun, hat.cy.ok, rfl, keep_nil _⟩
    have hPB : P ≤ 5 := by omega
    have hlt6 := hat.lts
    have hW6 : W.heap.size ≤ w6.heap.size := hat.up.size
    have hstep : ∀ w w2 c bx S, CyAt W C L N 0 0 0 B b g (bitW us) c w → Kept N P S c → w2.cell? ⟨bx, 0, none⟩ = some (.slice ta tt.length tc) → w.heap.size ≤ bx → Upd (fun _ => False) w w2 →
        Calls Try.prog 36 #[.pointer (some ⟨C, 0, none⟩), refsFn bx, .slice none 0 0, .pointer (some ⟨b, 0, none⟩)] w2 (KpStep W C L N B b g (bitW us) (c.step (refsOf tt)) (c.blocks (bitI N (bitW us))) w2) := fun w w2 c bx S h hk hc hb u2 => by
      have hpg := hk.run.pg
      have hcN := hk.n
      refine (cyat_Step h (by omega) HhM.out Hhlb.out hc hb u2 (ws := []) (fun w' k => ⟨none, 0, rfl, Nat.le_refl _, Nat.zero_le _, fun h => absurd h (Nat.lt_irrefl _)⟩) (by simp)).mono ?_
      rintro e w3 ⟨a1, c1, a2, c2, rfl, -, ho, h3, u3⟩
      rw [weaks_nil, hcN] at *
      exact ⟨a1, c1, a2, c2, rfl, ownsRow_intsR ho, (h.still u2).next h3 (cy_step_N _ _) u3, u3⟩
    generalize cBeg N ra 0 (mkNew 0 0) 0 rs [] = c0 at *
    have hmm := @run_makeMap Try.prog
    have hkm := KMap.new w6
    obtain ⟨bm, hbm⟩ : ∃ bm, w6.heap.size = bm := ⟨_, rfl⟩
    rw [hbm] at hkm hlt6 hW6
    have hat7 := hat.still ((Upd.refl (fun _ => False) w6).alloc (.map #[] 0))
    have Hhat7 := Lib.hid hat7; clear hat7
    have Hhrun := Lib.hid hrun; clear hrun
    have Hhkp := Lib.hid hkp; clear hkp
    have Hhstep := Lib.hid hstep; clear hstep
    have HhP := Lib.hid hP; clear hP
    have Hhkm := Lib.hid hkm; clear hkm
    have Hhlt6 := Lib.hid hlt6; clear hlt6
    have HhW6 := Lib.hid hW6; clear hW6
    clear hat hM6 hbz hgz hu6 Hhcy5 Hu05 Hhof Hhbd
    have Hhbm := Lib.hid hbm; clear hbm
    go_upto_block 0 with fail
    rw [Hhbm.out]
    clear Hhbm hmm
    go_cut [] (fun wx => Upd (fun _ => False) W wx)
    case first =>
      go_wp2_with fail
      go_loopw [20] (fun i wr => ∃ (q : Nat) (c : Cy) (S : List Int), i = .int .i64 q ∧ (30 ≤ q → q + c.pot P ≤ 33 + 2 * N + P) ∧ S.length ≤ 2 * q ∧ Kept N P S c ∧ CyAt W C L N 0 0 0 B b g (bitW us) c wr ∧ KMap wr bm S) (fun i _ => (1002 - intOf i).toNat)
      case atStart => exact ⟨0, c0, [], rfl, fun h => by omega, Nat.le_refl _, Hhkp.out, Hhat7.out, Hhkm.out⟩
      case round =>
        obtain ⟨wo, hwo⟩ : ∃ wo : World, wo = wr := ⟨_, rfl⟩
        subst hwo
        obtain ⟨q, c, S, rfl, hq, hSl, hkp, hat, hkm⟩ := hrel
        clear Hhat7 Hhkp Hhkm Hhrun
        have hph := cyc_Phase hat.cy
        by_cases e0 : c.ph = 0
        · rw [e0] at hph
          have hph : Calls Try.prog 35 #[.pointer (some ⟨C, 0, none⟩)] wo (Same wo (.int .i64 0)) := hph
          have Hhph := Lib.hid hph; clear hph
          have Hhat := Lib.hid hat; clear hat
          have Hhkp := Lib.hid hkp; clear hkp
          have Hhq := Lib.hid hq; clear hq
          have Hhkm := Lib.hid hkm; clear hkm
          have HhSl := Lib.hid hSl; clear hSl
          clear e0
          go_wp2_with (go_at_call 35; (with_reducible refine Hhph.out.mono ?_); rintro e w8 ⟨rfl, rfl⟩)
          go_meet
          exact Hhat.out.up
        · have hle := hkp.run.le
          have hpot := hkp.pot
          have hq200 : q ≤ 200 := by
            rcases Nat.lt_or_ge q 30 with h | h
            · omega
            · have := hq h
              omega
          have hqI : (q : Int) ≤ 200 := by omega
          obtain ⟨p, hpe⟩ : ∃ p, c.ph = p := ⟨_, rfl⟩
          rw [hpe] at hph hle e0
          have hp3 : p = 1 ∨ p = 2 ∨ p = 3 := by omega
          have e1' : ((p : Int) == 0) = false := by simp; omega
          have Hhph := Lib.hid hph; clear hph
          have Hhat := Lib.hid hat; clear hat
          have Hhkp := Lib.hid hkp; clear hkp
          have Hhq := Lib.hid hq; clear hq
          have Hhkm := Lib.hid hkm; clear hkm
          have HhSl := Lib.hid hSl; clear hSl
          have Hhpe := Lib.hid hpe; clear hpe
          have Hhp3 := Lib.hid hp3; clear hp3
          clear hle hpot e0
          go_upto_region 14 with (go_at_call 35; (with_reducible refine Hhph.out.mono ?_); rintro e w8 ⟨rfl, rfl⟩)
          go_cut [83] (fun s wx => s = .bool (decide (q < sh.length ∧ q < 30 ∧ (p = 1 ∨ p = 2))) ∧ CyAt W C L N 0 0 0 B b g (bitW us) c wx ∧ KMap wx bm S)
          case first =>
            by_cases g1 : (q : Int) < sh.length
            · by_cases g2 : (q : Int) < 30
              · rcases Hhp3.out with rfl | rfl | rfl
                · have hph1 := Lib.hid (show Calls Try.prog 35 #[.pointer (some ⟨C, 0, none⟩)] wo (Same wo (.int .i64 1)) from Hhph.out)
                  go_wp2_with (go_at_call 35; (with_reducible refine hph1.out.mono ?_); rintro e w8 ⟨rfl, rfl⟩)
                  go_meet
                  exact ⟨by rw [decide_eq_true ⟨by omega, by omega, by decide⟩], Hhat.out, Hhkm.out⟩
                · have hph1 := Lib.hid (show Calls Try.prog 35 #[.pointer (some ⟨C, 0, none⟩)] wo (Same wo (.int .i64 2)) from Hhph.out)
                  go_wp2_with (go_at_call 35; (with_reducible refine hph1.out.mono ?_); rintro e w8 ⟨rfl, rfl⟩)
                  go_meet
                  exact ⟨by rw [decide_eq_true ⟨by omega, by omega, by decide⟩], Hhat.out, Hhkm.out⟩
                · have hph1 := Lib.hid (show Calls Try.prog 35 #[.pointer (some ⟨C, 0, none⟩)] wo (Same wo (.int .i64 3)) from Hhph.out)
                  go_wp2_with (go_at_call 35; (with_reducible refine hph1.out.mono ?_); rintro e w8 ⟨rfl, rfl⟩)
                  go_meet
                  exact ⟨by rw [decide_eq_false (fun h => absurd h.2.2 (by decide))], Hhat.out, Hhkm.out⟩
              · go_wp2_with fail
                go_meet
                exact ⟨by rw [decide_eq_false (fun h => by omega)], Hhat.out, Hhkm.out⟩
            · go_wp2_with fail
              go_meet
              exact ⟨by rw [decide_eq_false (fun h => by omega)], Hhat.out, Hhkm.out⟩
          case rest =>
            obtain ⟨rfl, hat, hkm⟩ := hcut
            clear Hhat Hhkm Hhph
            obtain ⟨wp, hwp⟩ : ∃ w : World, w = wc := ⟨_, rfl⟩
            subst hwp
            have hnb : ¬ InCy C B bm := fun h => by have := Hhlt6.out bm (Or.inl h); omega
            have hna : ∀ j, InAll C L B b g j → ¬ j = bm := fun j h e => by have := Hhlt6.out j h; omega
            have Hhnb := Lib.hid hnb; clear hnb
            have Hhna := Lib.hid hna; clear hna
            go_upto_if 83 with fail
            go_cut [] (fun wx => ∃ (c1 : Cy) (S1 : List Int), Kept N P S1 c1 ∧ c1.ph ≠ 0 ∧ CyAt W C L N 0 0 0 B b g (bitW us) c1 wx ∧ KMap wx bm S1 ∧ S1.length ≤ 2 * q + 1 ∧ (30 ≤ q → c1 = c))
            case first =>
              have hp0 : c.ph ≠ 0 := by have := Hhpe.out; have := Hhp3.out; omega
              by_cases hB : q < sh.length ∧ q < 30 ∧ (p = 1 ∨ p = 2)
              · rw [decide_eq_true hB]
                obtain ⟨b1, o1, hix, hb1, hc1⟩ := HhshM.out.1.index (P := Try.prog) Try.underlying37 (by kernel_rfl) (by kernel_rfl) hB.1
                rw [Nat.mul_one] at hix hc1
                have hcx : ∀ w', Upd (fun _ => False) W w' → w'.cell? ⟨b1, o1 + q, none⟩ = some (.int .i64 (sh.getD q 0)) := fun w' u => (u.none.cell (p := ⟨b1, o1 + q, none⟩) hb1).trans (hc1 0 (by decide))
                have hwf : (Lit.int .i64 (sh.getD q 0)).wf = true := HhshM.out.2 _ (by simp [List.getD, hB.1])
                have hph12 : c.ph = 1 ∨ c.ph = 2 := by have := Hhpe.out; have := hB.2.2; omega
                have hsI : (q : Int) < sh.length := by omega
                have hk1 := Hhkp.out.shade (sh.getD q 0) hph12
                have hp1 : (c.shade (sh.getD q 0)).ph ≠ 0 := by
                  unfold Cy.shade
                  split
                  · exact (by decide : (1 : Nat) ≠ 0)
                  · exact hp0
                have hx0 := hcx wp hat.up
                have hS0 := HhSl.out
                generalize sh.getD q 0 = x at *
                have hsd := cyc_Shade hat.cy x
                unfold CyPost at hsd
                have hSb : S.length ≤ 100000 := by omega
                have Hhat := Lib.hid hat; clear hat
                have Hhkm := Lib.hid hkm; clear hkm
                have Hhsd := Lib.hid hsd; clear hsd
                have Hhk1 := Lib.hid hk1; clear hk1
                have Hhp1 := Lib.hid hp1; clear hp1
                have HhS0 := Lib.hid hS0; clear hS0
                have Hhwf := Lib.hid hwf; clear hwf
                have Hhcx := Lib.hid hcx; clear hcx
                clear hc1 hph12 hp0
                go_wp2_with (first
                  | (go_at_call 37; (with_reducible refine Hhsd.out.mono ?_); rintro e w8 ⟨rfl, hcy8, hu8⟩; have Hat8 := Lib.hid (Hhat.out.next hcy8 (shade_N c x) hu8); have Hkm8 := Lib.hid (Hhkm.out.upd hu8 Hhnb.out); have hx8 := Hhcx.out w8 Hat8.out.up; clear hcy8 hu8)
                  | (at_mapUpdate; refine wpList_kput rfl _ _ _ rfl bm S Hkm8.out hSb rfl x Hhwf.out rfl rfl ?_; intro w9 hk9 hu9; have Hkm9 := Lib.hid hk9; have Hat9 := Lib.hid (Hat8.out.aside hu9 Hhna.out (fun j e => by have := HhW6.out; omega)); clear hk9 hu9))
                go_meet
                exact ⟨c.shade x, x :: S, Hhk1.out, Hhp1.out, Hat9.out, Hkm9.out, by have := HhS0.out; simp; omega, fun h => by omega⟩
              · rw [decide_eq_false hB]
                have Hhat := Lib.hid hat; clear hat
                have Hhkm := Lib.hid hkm; clear hkm
                go_wp2_with fail
                go_meet
                exact ⟨c, S, Hhkp.out, hp0, Hhat.out, Hhkm.out, by have := HhSl.out; omega, fun _ => rfl⟩
            case rest =>
              obtain ⟨c1, S1, hk1, hp1, hat1, hkm1, hS1, hq1⟩ := hcut
              clear hat hkm
              obtain ⟨wq, hwq⟩ : ∃ w : World, w = wc := ⟨_, rfl⟩
              subst hwq
              have Hhk1 := Lib.hid hk1; clear hk1
              have Hhat1 := Lib.hid hat1; clear hat1
              have Hhkm1 := Lib.hid hkm1; clear hkm1
              have HhS1 := Lib.hid hS1; clear hS1
              have Hhq1 := Lib.hid hq1; clear hq1
              go_upto_region 17 with fail
              go_cut [102] (fun s wx => s = .bool (decide (q < al.length ∧ q < 30)) ∧ CyAt W C L N 0 0 0 B b g (bitW us) c1 wx ∧ KMap wx bm S1)
              case first =>
                by_cases g1 : (q : Int) < al.length
                · by_cases g2 : (q : Int) < 30
                  · go_wp2_with fail
                    go_meet
                    exact ⟨by rw [decide_eq_true ⟨by omega, by omega⟩], Hhat1.out, Hhkm1.out⟩
                  · go_wp2_with fail
                    go_meet
                    exact ⟨by rw [decide_eq_false (fun h => by omega)], Hhat1.out, Hhkm1.out⟩
                · go_wp2_with fail
                  go_meet
                  exact ⟨by rw [decide_eq_false (fun h => by omega)], Hhat1.out, Hhkm1.out⟩
              case rest =>
                obtain ⟨rfl, hat2, hkm2⟩ := hcut
                clear Hhat1 Hhkm1
                obtain ⟨wp2, hwp2⟩ : ∃ w : World, w = wc := ⟨_, rfl⟩
                subst hwp2
                go_upto_if 102 with fail
                go_cut [] (fun wx => ∃ (c2 : Cy) (S2 : List Int), Kept N P S2 c2 ∧ c2.ph ≠ 0 ∧ CyAt W C L N 0 0 0 B b g (bitW us) c2 wx ∧ KMap wx bm S2 ∧ S2.length ≤ 2 * q + 2 ∧ (30 ≤ q → c2 = c))
                case first =>
                  by_cases hB : q < al.length ∧ q < 30
                  · rw [decide_eq_true hB]
                    obtain ⟨b1, o1, hix, hb1, hc1⟩ := HhalM.out.1.index (P := Try.prog) Try.underlying37 (by kernel_rfl) (by kernel_rfl) hB.1
                    rw [Nat.mul_one] at hix hc1
                    have hx0 : wp2.cell? ⟨b1, o1 + q, none⟩ = some (.int .i64 (al.getD q 0)) := (hat2.up.none.cell (p := ⟨b1, o1 + q, none⟩) hb1).trans (hc1 0 (by decide))
                    have hwf : (Lit.int .i64 (al.getD q 0)).wf = true := HhalM.out.2 _ (by simp [List.getD, hB.1])
                    have hsI : (q : Int) < al.length := by omega
                    generalize al.getD q 0 = x at *
                    have hgt := hat2.gu wp2 (Upd.refl _ _) x
                    have hald := cyc_Alloc hat2.cy x
                    unfold CyPost at hald
                    have hSb : S1.length ≤ 100000 := by have := HhS1.out; omega
                    have hphc : ∀ p : Nat, c1.ph = p → Calls Try.prog 35 #[.pointer (some ⟨C, 0, none⟩)] wp2 (Same wp2 (.int .i64 p)) := fun p e => by
                      have := cyc_Phase hat2.cy
                      rw [e] at this
                      exact this
                    have hphd : ∀ p : Nat, c1.ph = p → ∀ w', CyAt W C L N 0 0 0 B b g (bitW us) (c1.alloc x) w' → Calls Try.prog 35 #[.pointer (some ⟨C, 0, none⟩)] w' (Same w' (.int .i64 p)) := fun p e w' h => by
                      have := cyc_Phase h.cy
                      rw [alloc_ph, e] at this
                      exact this
                    have hle1 := Hhk1.out.run.le
                    have h3 : c1.ph = 1 ∨ c1.ph = 2 ∨ c1.ph = 3 := by omega
                    have Hhat2 := Lib.hid hat2; clear hat2
                    have Hhkm2 := Lib.hid hkm2; clear hkm2
                    have Hhald := Lib.hid hald; clear hald
                    have Hhwf := Lib.hid hwf; clear hwf
                    clear hc1 hle1
                    rcases h3 with hpp | hpp | hpp
                    · cases hgb0 : bitI c1.N (bitW us) x with
                      | false =>
                        have hgb : bitI c1.N (bitW us) x = false := hgb0
                        rw [hgb] at hgt
                        have hph1 := Lib.hid (show Calls Try.prog 35 #[.pointer (some ⟨C, 0, none⟩)] wp2 (Same wp2 (.int .i64 1)) from hphc 1 hpp)
                        have hph8 := Lib.hid (fun w' (h : CyAt W C L N 0 0 0 B b g (bitW us) (c1.alloc x) w') => show Calls Try.prog 35 #[.pointer (some ⟨C, 0, none⟩)] w' (Same w' (.int .i64 1)) from hphd 1 hpp w' h)
                        have hpp2 := Lib.hid hpp
                        have Hhgt := Lib.hid hgt; clear hgt
                        clear hpp hgb hphc hphd hgb0
                        go_wp2_with (first
                          | (go_at_call 24; (with_reducible refine Hhgt.out.mono ?_); rintro e w8 ⟨rfl, rfl⟩)
                          | (go_at_call 35; (with_reducible refine hph1.out.mono ?_); rintro e w8 ⟨rfl, rfl⟩)
                          | (go_at_call 38; (with_reducible refine Hhald.out.mono ?_); rintro e w8 ⟨rfl, hcy8, hu8⟩; have Hat8 := Lib.hid (Hhat2.out.next hcy8 (alloc_N c1 x) hu8); have Hkm8 := Lib.hid (Hhkm2.out.upd hu8 Hhnb.out); have Hph9 := Lib.hid (hph8.out w8 Hat8.out); clear hcy8 hu8)
                          | (go_at_call 35; (with_reducible refine Hph9.out.mono ?_); rintro e w9 ⟨rfl, rfl⟩)
                          | (at_mapUpdate; refine wpList_kput rfl _ _ _ rfl bm S1 Hkm8.out hSb rfl x Hhwf.out rfl rfl ?_; intro w10 hk10 hu10; have Hkm9 := Lib.hid hk10; have Hat9 := Lib.hid (Hat8.out.aside hu10 Hhna.out (fun j e => by have := HhW6.out; omega)); clear hk10 hu10))
                        go_meet
                        exact ⟨c1.alloc x, x :: S1, Hhk1.out.laid x hp1, by rw [alloc_ph]; exact hp1, Hat9.out, Hkm9.out, by have := HhS1.out; simp; omega, fun h => by omega⟩
                      | true =>
                        have hgb : bitI c1.N (bitW us) x = true := hgb0
                        rw [hgb] at hgt
                        have hph1 := Lib.hid (show Calls Try.prog 35 #[.pointer (some ⟨C, 0, none⟩)] wp2 (Same wp2 (.int .i64 1)) from hphc 1 hpp)
                        have hph8 := Lib.hid (fun w' (h : CyAt W C L N 0 0 0 B b g (bitW us) (c1.alloc x) w') => show Calls Try.prog 35 #[.pointer (some ⟨C, 0, none⟩)] w' (Same w' (.int .i64 1)) from hphd 1 hpp w' h)
                        have hpp2 := Lib.hid hpp
                        have Hhgt := Lib.hid hgt; clear hgt
                        clear hpp hgb hphc hphd hgb0
                        go_wp2_with (first
                          | (go_at_call 24; (with_reducible refine Hhgt.out.mono ?_); rintro e w8 ⟨rfl, rfl⟩)
                          | (go_at_call 35; (with_reducible refine hph1.out.mono ?_); rintro e w8 ⟨rfl, rfl⟩)
                          | (go_at_call 38; (with_reducible refine Hhald.out.mono ?_); rintro e w8 ⟨rfl, hcy8, hu8⟩; have Hat8 := Lib.hid (Hhat2.out.next hcy8 (alloc_N c1 x) hu8); have Hkm8 := Lib.hid (Hhkm2.out.upd hu8 Hhnb.out); have Hph9 := Lib.hid (hph8.out w8 Hat8.out); clear hcy8 hu8)
                          | (go_at_call 35; (with_reducible refine Hph9.out.mono ?_); rintro e w9 ⟨rfl, rfl⟩)
                          | (at_mapUpdate; refine wpList_kput rfl _ _ _ rfl bm S1 Hkm8.out hSb rfl x Hhwf.out rfl rfl ?_; intro w10 hk10 hu10; have Hkm9 := Lib.hid hk10; have Hat9 := Lib.hid (Hat8.out.aside hu10 Hhna.out (fun j e => by have := HhW6.out; omega)); clear hk10 hu10))
                        go_meet
                        exact ⟨c1.alloc x, x :: S1, Hhk1.out.laid x hp1, by rw [alloc_ph]; exact hp1, Hat9.out, Hkm9.out, by have := HhS1.out; simp; omega, fun h => by omega⟩
                    · cases hgb0 : bitI c1.N (bitW us) x with
                      | false =>
                        have hgb : bitI c1.N (bitW us) x = false := hgb0
                        rw [hgb] at hgt
                        have hph1 := Lib.hid (show Calls Try.prog 35 #[.pointer (some ⟨C, 0, none⟩)] wp2 (Same wp2 (.int .i64 2)) from hphc 2 hpp)
                        have hph8 := Lib.hid (fun w' (h : CyAt W C L N 0 0 0 B b g (bitW us) (c1.alloc x) w') => show Calls Try.prog 35 #[.pointer (some ⟨C, 0, none⟩)] w' (Same w' (.int .i64 2)) from hphd 2 hpp w' h)
                        have hpp2 := Lib.hid hpp
                        have Hhgt := Lib.hid hgt; clear hgt
                        clear hpp hgb hphc hphd hgb0
                        go_wp2_with (first
                          | (go_at_call 24; (with_reducible refine Hhgt.out.mono ?_); rintro e w8 ⟨rfl, rfl⟩)
                          | (go_at_call 35; (with_reducible refine hph1.out.mono ?_); rintro e w8 ⟨rfl, rfl⟩)
                          | (go_at_call 38; (with_reducible refine Hhald.out.mono ?_); rintro e w8 ⟨rfl, hcy8, hu8⟩; have Hat8 := Lib.hid (Hhat2.out.next hcy8 (alloc_N c1 x) hu8); have Hkm8 := Lib.hid (Hhkm2.out.upd hu8 Hhnb.out); have Hph9 := Lib.hid (hph8.out w8 Hat8.out); clear hcy8 hu8)
                          | (go_at_call 35; (with_reducible refine Hph9.out.mono ?_); rintro e w9 ⟨rfl, rfl⟩)
                          | (at_mapUpdate; refine wpList_kput rfl _ _ _ rfl bm S1 Hkm8.out hSb rfl x Hhwf.out rfl rfl ?_; intro w10 hk10 hu10; have Hkm9 := Lib.hid hk10; have Hat9 := Lib.hid (Hat8.out.aside hu10 Hhna.out (fun j e => by have := HhW6.out; omega)); clear hk10 hu10))
                        go_meet
                        exact ⟨c1.alloc x, x :: S1, Hhk1.out.laid x hp1, by rw [alloc_ph]; exact hp1, Hat9.out, Hkm9.out, by have := HhS1.out; simp; omega, fun h => by omega⟩
                      | true =>
                        have hgb : bitI c1.N (bitW us) x = true := hgb0
                        rw [hgb] at hgt
                        have hph1 := Lib.hid (show Calls Try.prog 35 #[.pointer (some ⟨C, 0, none⟩)] wp2 (Same wp2 (.int .i64 2)) from hphc 2 hpp)
                        have hph8 := Lib.hid (fun w' (h : CyAt W C L N 0 0 0 B b g (bitW us) (c1.alloc x) w') => show Calls Try.prog 35 #[.pointer (some ⟨C, 0, none⟩)] w' (Same w' (.int .i64 2)) from hphd 2 hpp w' h)
                        have hpp2 := Lib.hid hpp
                        have Hhgt := Lib.hid hgt; clear hgt
                        clear hpp hgb hphc hphd hgb0
                        go_wp2_with (first
                          | (go_at_call 24; (with_reducible refine Hhgt.out.mono ?_); rintro e w8 ⟨rfl, rfl⟩)
                          | (go_at_call 35; (with_reducible refine hph1.out.mono ?_); rintro e w8 ⟨rfl, rfl⟩)
                          | (go_at_call 38; (with_reducible refine Hhald.out.mono ?_); rintro e w8 ⟨rfl, hcy8, hu8⟩; have Hat8 := Lib.hid (Hhat2.out.next hcy8 (alloc_N c1 x) hu8); have Hkm8 := Lib.hid (Hhkm2.out.upd hu8 Hhnb.out); have Hph9 := Lib.hid (hph8.out w8 Hat8.out); clear hcy8 hu8)
                          | (go_at_call 35; (with_reducible refine Hph9.out.mono ?_); rintro e w9 ⟨rfl, rfl⟩)
                          | (at_mapUpdate; refine wpList_kput rfl _ _ _ rfl bm S1 Hkm8.out hSb rfl x Hhwf.out rfl rfl ?_; intro w10 hk10 hu10; have Hkm9 := Lib.hid hk10; have Hat9 := Lib.hid (Hat8.out.aside hu10 Hhna.out (fun j e => by have := HhW6.out; omega)); clear hk10 hu10))
                        go_meet
                        exact ⟨c1.alloc x, x :: S1, Hhk1.out.laid x hp1, by rw [alloc_ph]; exact hp1, Hat9.out, Hkm9.out, by have := HhS1.out; simp; omega, fun h => by omega⟩
                    · cases hgb0 : bitI c1.N (bitW us) x with
                      | false =>
                        have hgb : bitI c1.N (bitW us) x = false := hgb0
                        rw [hgb] at hgt
                        have hph1 := Lib.hid (show Calls Try.prog 35 #[.pointer (some ⟨C, 0, none⟩)] wp2 (Same wp2 (.int .i64 3)) from hphc 3 hpp)
                        have hph8 := Lib.hid (fun w' (h : CyAt W C L N 0 0 0 B b g (bitW us) (c1.alloc x) w') => show Calls Try.prog 35 #[.pointer (some ⟨C, 0, none⟩)] w' (Same w' (.int .i64 3)) from hphd 3 hpp w' h)
                        have hpp2 := Lib.hid hpp
                        have Hhgt := Lib.hid hgt; clear hgt
                        clear hpp hgb hphc hphd hgb0
                        go_wp2_with (first
                          | (go_at_call 24; (with_reducible refine Hhgt.out.mono ?_); rintro e w8 ⟨rfl, rfl⟩)
                          | (go_at_call 35; (with_reducible refine hph1.out.mono ?_); rintro e w8 ⟨rfl, rfl⟩)
                          | (go_at_call 38; (with_reducible refine Hhald.out.mono ?_); rintro e w8 ⟨rfl, hcy8, hu8⟩; have Hat8 := Lib.hid (Hhat2.out.next hcy8 (alloc_N c1 x) hu8); have Hkm8 := Lib.hid (Hhkm2.out.upd hu8 Hhnb.out); have Hph9 := Lib.hid (hph8.out w8 Hat8.out); clear hcy8 hu8)
                          | (go_at_call 35; (with_reducible refine Hph9.out.mono ?_); rintro e w9 ⟨rfl, rfl⟩))
                        go_meet
                        exact ⟨c1.alloc x, S1, Hhk1.out.alloc x, by rw [alloc_ph]; exact hp1, Hat8.out, Hkm8.out, by have := HhS1.out; omega, fun h => by omega⟩
                      | true =>
                        have hgb : bitI c1.N (bitW us) x = true := hgb0
                        rw [hgb] at hgt
                        have hph1 := Lib.hid (show Calls Try.prog 35 #[.pointer (some ⟨C, 0, none⟩)] wp2 (Same wp2 (.int .i64 3)) from hphc 3 hpp)
                        have hph8 := Lib.hid (fun w' (h : CyAt W C L N 0 0 0 B b g (bitW us) (c1.alloc x) w') => show Calls Try.prog 35 #[.pointer (some ⟨C, 0, none⟩)] w' (Same w' (.int .i64 3)) from hphd 3 hpp w' h)
                        have hpp2 := Lib.hid hpp
                        have Hhgt := Lib.hid hgt; clear hgt
                        clear hpp hgb hphc hphd hgb0
                        go_wp2_with (first
                          | (go_at_call 24; (with_reducible refine Hhgt.out.mono ?_); rintro e w8 ⟨rfl, rfl⟩)
                          | (go_at_call 35; (with_reducible refine hph1.out.mono ?_); rintro e w8 ⟨rfl, rfl⟩))
                        go_meet
                        exact ⟨c1, S1, Hhk1.out, hp1, Hhat2.out, Hhkm2.out, by have := HhS1.out; omega, Hhq1.out⟩
                  · rw [decide_eq_false hB]
                    have Hhat2 := Lib.hid hat2; clear hat2
                    have Hhkm2 := Lib.hid hkm2; clear hkm2
                    go_wp2_with fail
                    go_meet
                    exact ⟨c1, S1, Hhk1.out, hp1, Hhat2.out, Hhkm2.out, by have := HhS1.out; omega, Hhq1.out⟩
                case rest =>
                  obtain ⟨c2, S2, hk2, hp2, hat3, hkm3, hS2, hq2⟩ := hcut
                  clear hat2 hkm2
                  obtain ⟨wr2, hwr2⟩ : ∃ w : World, w = wc := ⟨_, rfl⟩
                  subst hwr2
                  have hr2 := hk2.run.pot (fun h => (hk2.ok.ok h).1) (refsOf tt) hp2
                  have hrun2 := hk2.run.step (refsOf tt)
                  have hN2' := (cy_step_N c2 (refsOf tt)).trans hk2.n
                  have hkeep2 := hk2.keep.step (fun h => (hk2.ok.ok h).1) (refsOf tt)
                  have htold := hk2.told (bitI N (bitW us))
                  have hrng : ∀ y ∈ c2.blocks (bitI N (bitW us)), (Lit.int .i64 y).wf = true := fun y hy => by
                    obtain ⟨h0, h1⟩ := blocks_rng hy
                    rw [hk2.n] at h1
                    exact i64_wf (by omega) (by omega)
                  have hlenb : (c2.blocks (bitI N (bitW us))).length ≤ 8 := by
                    unfold Cy.blocks
                    split
                    · exact pageL_len _ _ _ _
                    · exact Nat.zero_le _
                  have hq3 : 30 ≤ q → (q + 1) + (c2.step (refsOf tt)).pot P ≤ 33 + 2 * N + P := fun h => by
                    have e := hq2 h
                    have := Hhq.out h
                    rw [e] at hr2 ⊢
                    omega
                  have hrf := law_refs ta tt.length tc wr2
                  unfold RefsPost at hrf
                  have hst := fun w2 bx => Hhstep.out wr2 w2 c2 bx S2 hat3 hk2
                  generalize c2.blocks (bitI N (bitW us)) = ys at *
                  generalize c2.step (refsOf tt) = d at *
                  have hysI : (ys.length : Int) ≤ 8 := by omega
                  have Hhat3 := Lib.hid hat3; clear hat3
                  have Hhkm3 := Lib.hid hkm3; clear hkm3
                  have Hhst := Lib.hid hst; clear hst
                  have Hhrf := Lib.hid hrf; clear hrf
                  have Hhr2 := Lib.hid hr2; clear hr2
                  have Hhrun2 := Lib.hid hrun2; clear hrun2
                  have HhN2' := Lib.hid hN2'; clear hN2'
                  have Hhkeep2 := Lib.hid hkeep2; clear hkeep2
                  have Hhtold := Lib.hid htold; clear htold
                  have Hhrng := Lib.hid hrng; clear hrng
                  have Hhq3 := Lib.hid hq3; clear hq3
                  have Hhk2 := Lib.hid hk2; clear hk2
                  have HhS2 := Lib.hid hS2; clear hS2
                  have Hhq2 := Lib.hid hq2; clear hq2
                  clear hlenb
                  go_wp2_with fail
                  refine Hhrf.out.mono ?_
                  rintro e w10 ⟨bx, rfl, hc5, hbx5, hbx5', hu5⟩
                  have hs := Hhst.out w10 bx hc5 hbx5 hu5
                  unfold KpStep at hs
                  have hkm10 := Hhkm3.out.upd hu5 (fun h => h)
                  have Hhs := Lib.hid hs; clear hs
                  have Hhkm10 := Lib.hid hkm10; clear hkm10
                  clear hc5 hbx5 hbx5' hu5 Hhrf Hhst
                  go_wp2_with fail
                  refine Hhs.out.mono ?_
                  rintro e w11 ⟨a1, k1, a2, k2, rfl, hI, hat11, hu11⟩
                  have hkm11 := Hhkm10.out.upd hu11 Hhnb.out
                  have hfd : (Instr.field 60 (.agg #[.slice a1 0 k1, .slice a2 ys.length k2]) 1).run Try.prog w11 = .ok (.slice a2 ys.length k2) w11 := by first | rfl | kernel_rfl
                  have HhI := Lib.hid hI; clear hI
                  have Hhat11 := Lib.hid hat11; clear hat11
                  have Hhkm11 := Lib.hid hkm11; clear hkm11
                  clear hu11 Hhs Hhkm10
                  go_wp2_with fail
                  go_loopw [131] (fun i3 wt => ∃ t : Nat, i3 = .int .i64 t ∧ t ≤ ys.length ∧ wt = w11) (fun i3 _ => (ys.length - intOf i3).toNat)
                  case atStart => exact ⟨0, rfl, Nat.zero_le _, rfl⟩
                  case round =>
                    obtain ⟨t, rfl, ht, rfl⟩ := hrel
                    by_cases hte : t = ys.length
                    · have d1 : ¬ ((t : Int) < ys.length) := by omega
                      clear hte hfd
                      go_wp2_with fail
                      go_roundw
                      case rel => exact ⟨q + 1, d, S2, by go_num, fun h => (by rcases Nat.lt_or_ge q 30 with h1 | h1; (have hk : Kept N P S2 d := ⟨Hhrun2.out, Hhat11.out.cy.ok, HhN2'.out, Hhkeep2.out⟩; have := hk.pot; omega); exact Hhq3.out h1), by have := HhS2.out; omega, ⟨Hhrun2.out, Hhat11.out.cy.ok, HhN2'.out, Hhkeep2.out⟩, Hhat11.out, Hhkm11.out⟩
                      case measure => simp [intOf]; omega
                    · have t1 : t < ys.length := by omega
                      have d1 : (t : Int) < ys.length := by omega
                      obtain ⟨b2, o2, hiy, hb2, hc2⟩ := HhI.out.index (P := Try.prog) Try.underlying37 (by kernel_rfl) (by kernel_rfl) t1
                      rw [Nat.mul_one] at hiy hc2
                      have hx0 : wr.cell? ⟨b2, o2 + t, none⟩ = some (.int .i64 (ys.getD t 0)) := hc2 0 (by decide)
                      have hmem : ys.getD t 0 ∈ ys := by simp [List.getD, t1]
                      have hno := Hhtold.out _ hmem
                      have hwf := Hhrng.out _ hmem
                      generalize ys.getD t 0 = y at *
                      have Hhno := Lib.hid hno; clear hno
                      have Hhwf := Lib.hid hwf; clear hwf
                      clear hc2 hmem hte hfd
                      go_wp2_with (at_lookup; refine wpList_klook rfl _ _ rfl bm S2 Hhkm11.out rfl y Hhwf.out rfl Hhno.out ?_)
                      go_roundw
                      case rel => exact ⟨t + 1, by go_num, by omega, (by first | rfl | trivial)⟩
                      case measure => simp [intOf]; omega
    case rest =>
      have haw := awake21 W _ hcut
      have Hhaw := Lib.hid haw; clear haw
      go_wp2_with (go_at_call 30; (with_reducible refine Hhaw.out.mono ?_); rintro e w9 ⟨rfl, hu⟩)
      go_ret
      exact ⟨rfl, hu.none⟩
  · have haw := awake21 W W (Upd.refl _ _)
    cases hlt : lightM tt
    · rw [hlt] at hlight
      have Hhlight := Lib.hid hlight; clear hlight
      have Hhaw := Lib.hid haw; clear haw
      clear hM hgo hlt
      go_enter Try.func9, Try.ntmps9
      go_wp2_with (first | (go_at_call 29; (with_reducible refine Hhlight.out.mono ?_); rintro e w2 ⟨rfl, rfl⟩) | (go_at_call 30; (with_reducible refine Hhaw.out.mono ?_); rintro e w2 ⟨rfl, hu⟩))
      go_ret
      exact ⟨rfl, hu.none⟩
    · rw [hlt] at hlight hgo
      have key : ((30 : Int) < rs.length) := by
        have hgo2 : ¬ (rs.length ≤ 30) := fun h => hgo ⟨rfl, h⟩
        omega
      have Hhlight := Lib.hid hlight; clear hlight
      have Hhaw := Lib.hid haw; clear haw
      clear hM hgo hlt
      have c1 := key
      clear key
      all_goals
        go_enter Try.func9, Try.ntmps9
        go_wp2_with (first | (go_at_call 29; (with_reducible refine Hhlight.out.mono ?_); rintro e w2 ⟨rfl, rfl⟩) | (go_at_call 30; (with_reducible refine Hhaw.out.mono ?_); rintro e w2 ⟨rfl, hu⟩))
        go_ret
        exact ⟨rfl, hu.none⟩

theorem own : ownKnob Try.prog.godebug = none := by kernel_rfl
theorem laidOut : laidOutB Try.prog = true := by kernel_rfl
set_option maxRecDepth 100000 in
theorem lifted (os : Os) (started : os.Started) (H : Type) (enc : TypeId × Value → H) :
    ReturnsInHanded {} Try.checked os 9 .any (Rows.cycleKeepsSpec.pre6 enc Try.prog Try.f9 Rows.cycleKeepsRow.domain false) (Rows.cycleKeepsSpec.post enc Try.prog Try.f9 false true false false) := by
  refine returnsInHanded_of_change_sized (C := Try.checked) own started (by kernel_rfl) Try.func9
    (ChangeSpec.witness6 (enc := enc) (C := Try.checked) false ⟨#[], #[.int .i64 0, .int .i64 0, .slice none 0 0, .slice none 0 0, .slice none 0 0, .slice none 0 0, .slice none 0 0], []⟩ 8 (by kernel_rfl) (by kernel_rfl) (by kernel_rfl) (by kernel_rfl)) ?_
  intro W base args ds gs before hval0 hW _ hsz0 _
  have hsz : (DataW.weightsEach Try.prog (Try.f9.params.toList ++ Rows.cycleKeepsSpec.plain.varTypes Try.prog) (ds ++ gs)).all (· ≤ reachBytes) = true := hsz0
  clear hsz0
  have hval : ∀ (j : Nat) t v, Try.f9.params[j]? = some t → args[j]? = some v → Value.okWide Try.prog W .any base t v := hval0
  have hW' := hW
  obtain ⟨p, q, hA0, hV, rfl, _, _⟩ := hW
  have hA : DataW.TrodAll enc Try.prog W 0 (fun _ => true) true Try.f9.params.toList args.toList ds p := hA0
  rw [Try.params9] at hA hval hsz
  obtain ⟨v0, vs0, d0, ds0, p0, q0, hargs, rfl, rfl, h0, r0⟩ := trodAll_cons hA
  obtain ⟨v1, vs1, d1, ds1, p1, q1, rfl, rfl, rfl, h1, r1⟩ := trodAll_cons r0
  obtain ⟨v2, vs2, d2, ds2, p2, q2, rfl, rfl, rfl, h2, r2⟩ := trodAll_cons r1
  obtain ⟨v3, vs3, d3, ds3, p3, q3, rfl, rfl, rfl, h3, r3⟩ := trodAll_cons r2
  obtain ⟨v4, vs4, d4, ds4, p4, q4, rfl, rfl, rfl, h4, r4⟩ := trodAll_cons r3
  obtain ⟨v5, vs5, d5, ds5, p5, q5, rfl, rfl, rfl, h5, r5⟩ := trodAll_cons r4
  obtain ⟨v6, vs6, d6, ds6, p6, q6, rfl, rfl, rfl, h6, r6⟩ := trodAll_cons r5
  obtain ⟨rfl, rfl, rfl⟩ := trodAll_nil r6
  obtain rfl : args = #[v0, v1, v2, v3, v4, v5, v6] := by cases args; simp_all
  obtain ⟨rfl, rfl⟩ := trodVars_none hV
  clear hA0 hval0
  simp only [List.append_nil] at hW'
  have hlt : ∀ x, (x ∈ p0 ∨ x ∈ p1 ∨ x ∈ p2 ∨ x ∈ p3 ∨ x ∈ p4 ∨ x ∈ p5 ∨ x ∈ p6) → x.block < W.heap.size := fun x hx => by simpa using hW'.lt x (by simpa using hx)
  have k0 : ∀ (W' : World), Below W.heap.size W W' → DataW.Trod enc Try.prog W' 0 (fun b => decide (b < W.heap.size)) true 3 v0 d0 p0 :=
    fun W' hn => Below.trod laidOut (by kernel_rfl) (of_decide_eq_true (by kernel_rfl)) h0 hn (fun x hx => hlt x (Or.inl hx))
  have k1 : ∀ (W' : World), Below W.heap.size W W' → DataW.Trod enc Try.prog W' 0 (fun b => decide (b < W.heap.size)) true 3 v1 d1 p1 :=
    fun W' hn => Below.trod laidOut (by kernel_rfl) (of_decide_eq_true (by kernel_rfl)) h1 hn (fun x hx => hlt x (Or.inr (Or.inl hx)))
  have k2 : ∀ (W' : World), Below W.heap.size W W' → DataW.Trod enc Try.prog W' 0 (fun b => decide (b < W.heap.size)) true 52 v2 d2 p2 :=
    fun W' hn => Below.trod laidOut (by kernel_rfl) (of_decide_eq_true (by kernel_rfl)) h2 hn (fun x hx => hlt x (Or.inr (Or.inr (Or.inl hx))))
  have k3 : ∀ (W' : World), Below W.heap.size W W' → DataW.Trod enc Try.prog W' 0 (fun b => decide (b < W.heap.size)) true 37 v3 d3 p3 :=
    fun W' hn => Below.trod laidOut (by kernel_rfl) (of_decide_eq_true (by kernel_rfl)) h3 hn (fun x hx => hlt x (Or.inr (Or.inr (Or.inr (Or.inl hx)))))
  have k4 : ∀ (W' : World), Below W.heap.size W W' → DataW.Trod enc Try.prog W' 0 (fun b => decide (b < W.heap.size)) true 23 v4 d4 p4 :=
    fun W' hn => Below.trod laidOut (by kernel_rfl) (of_decide_eq_true (by kernel_rfl)) h4 hn (fun x hx => hlt x (Or.inr (Or.inr (Or.inr (Or.inr (Or.inl hx))))))
  have k5 : ∀ (W' : World), Below W.heap.size W W' → DataW.Trod enc Try.prog W' 0 (fun b => decide (b < W.heap.size)) true 37 v5 d5 p5 :=
    fun W' hn => Below.trod laidOut (by kernel_rfl) (of_decide_eq_true (by kernel_rfl)) h5 hn (fun x hx => hlt x (Or.inr (Or.inr (Or.inr (Or.inr (Or.inr (Or.inl hx)))))))
  have k6 : ∀ (W' : World), Below W.heap.size W W' → DataW.Trod enc Try.prog W' 0 (fun b => decide (b < W.heap.size)) true 37 v6 d6 p6 :=
    fun W' hn => Below.trod laidOut (by kernel_rfl) (of_decide_eq_true (by kernel_rfl)) h6 hn (fun x hx => hlt x (Or.inr (Or.inr (Or.inr (Or.inr (Or.inr (Or.inr (hx))))))))
  obtain ⟨a0, rfl, _, _, w0⟩ := open_int Try.underlying3 (hval 0 3 v0 rfl rfl) h0
  obtain ⟨a1, rfl, _, _, w1⟩ := open_int Try.underlying3 (hval 1 3 v1 rfl rfl) h1
  obtain ⟨x2, hx2⟩ := open_matAt Try.underlying52 Try.underlying37 Try.underlying3 (by kernel_rfl) (by kernel_rfl) (by kernel_rfl) (hval 2 52 v2 rfl rfl) h2 hsz 2 rfl rfl
  obtain ⟨x3, hx3⟩ := open_intsAt (bytes := 8) Try.underlying37 Try.underlying3 (by kernel_rfl) (by kernel_rfl) (hval 3 37 v3 rfl rfl) h3 hsz 3 rfl rfl
  obtain ⟨x4, hx4⟩ := open_intsAt (bytes := 8) Try.underlying23 Try.underlying82 (by kernel_rfl) (by kernel_rfl) (hval 4 23 v4 rfl rfl) h4 hsz 4 rfl rfl
  obtain ⟨x5, hx5⟩ := open_intsAt (bytes := 8) Try.underlying37 Try.underlying3 (by kernel_rfl) (by kernel_rfl) (hval 5 37 v5 rfl rfl) h5 hsz 5 rfl rfl
  obtain ⟨x6, hx6⟩ := open_intsAt (bytes := 8) Try.underlying37 Try.underlying3 (by kernel_rfl) (by kernel_rfl) (hval 6 37 v6 rfl rfl) h6 hsz 6 rfl rfl
  refine (walk (W := W) a0 w0 a1 w1 v2 x2 hx2 v3 x3 hx3 v4 x4 hx4 v5 x5 hx5 v6 x6 hx6).mono fun e W' ⟨he, hb⟩ => ?_
  subst he
  refine ⟨_, rfl, _, _, _, [], p0 ++ (p1 ++ (p2 ++ (p3 ++ (p4 ++ (p5 ++ (p6 ++ ([]))))))), [], hW', ?_, ?_, rfl, hb.frame _, fun h => by cases h⟩
  · exact trodAll_cons_mk (shut_bool Try.underlying4 true) trodAll_mk0
  · exact trodAll_cons_mk (k0 _ hb) (trodAll_cons_mk (k1 _ hb) (trodAll_cons_mk (k2 _ hb) (trodAll_cons_mk (k3 _ hb) (trodAll_cons_mk (k4 _ hb) (trodAll_cons_mk (k5 _ hb) (trodAll_cons_mk (k6 _ hb) (trodAll_mk0)))))))

theorem over : Rows.cycleKeepsRow.holds Try.pinned (OpenSpec.ofChange Rows.cycleKeepsSpec) :=
  OpenClaim.holds_of_wide 9 Try.f9 rfl rfl rfl rfl rfl rfl rfl ⟨rfl, rfl, rfl, rfl, rfl⟩ rfl rfl rfl rfl rfl (by kernel_rfl) Try.func9 (by kernel_rfl)
    (of_decide_eq_true (by kernel_rfl)) (by unfold Func.isWrapper; first | (rw [if_pos (by decide +kernel)]; kernel_rfl) | (rw [if_neg (by decide +kernel)]; exact ⟨rfl, rfl⟩))
    (fun os started H enc _ => lifted os started H enc)

/-- The given statement. -/
theorem proved : Rows.CycleKeepsSaid := over
#print axioms proved
end Go.Proofs.Ythaicpjgmplgcaa.cycleKeeps
