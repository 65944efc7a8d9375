/- Collection behind collection takes the same back. No condition. -/
import Derived.Test.YthaicpjgmplgcaaRunA
import Derived.SizedLaws
import Derived.Deep.DrawnRows
import Derived.Deep.DeepCutAuto
import Derived.Deep.CutBlock
namespace Go.Proofs.Ythaicpjgmplgcaa.cycleAgain
open Go.ChangeShapes Go.WideShapes Go.ChangeAt Go.RowKit
set_option linter.unusedVariables false

def AgStep (W : World) (C L N B b g H : Nat) (f : Nat → Bool) (d : Cy) (ys : List Int) (w2 : World) (e : Ending) (w' : World) : Prop :=
  ∃ a1 c1 a2 c2, e = .returned (.agg #[.slice a1 0 c1, .slice a2 ys.length c2]) ∧ IntsR w' (.slice a2 ys.length c2) .i64 ys ∧ CyAt W C L N 0 0 0 B b g f d w' ∧ Upd (InCy C B) w2 w'

set_option maxRecDepth 100000 in
set_option maxHeartbeats 4000000 in
theorem walk {W : World} (n : Int) (w0 : (Lit.int .i64 n).wf = true) (ra : Int) (w1 : (Lit.int .i64 ra).wf = true) (tv : Value) (tt : List (List Int)) (ht : MatIn W tv tt ∧ tt.length * 24 ≤ 140737488351232) (rv : Value) (rs : List Int) (hrs : IntsIn W rv .i64 rs ∧ rs.length * 8 ≤ 140737488351232) (uv : Value) (us0 : List Int) (hus0 : IntsIn W uv .u64 us0 ∧ us0.length * 8 ≤ 140737488351232) :
    Calls Try.prog 12 #[.int .i64 n, .int .i64 ra, tv, rv, uv] W (LawPost W) := by
  obtain ⟨hM, hMl⟩ := ht
  have hlight := law_light tv tt W hM hMl
  obtain ⟨ta, tc, htv⟩ := mat_shape hM
  subst htv
  obtain ⟨hrsM, hrsl⟩ := hrs
  obtain ⟨rsa, rsc, hrsv⟩ := ints_shape hrsM
  subst hrsv
  have hrsI : (rs.length : Int) ≤ 17592186044416 := by omega
  clear hrsl
  obtain ⟨us, hus, -⟩ := intsIn_words hus0.1
  clear hus0
  clear w0 w1 hMl
  by_cases hgo : lightM tt = true ∧ rs.length ≤ 30
  · obtain ⟨hlt, hrsN⟩ := hgo
    rw [hlt] at hlight
    have hlb := light_bounds hlt
    have hrsB : (rs.length : Int) ≤ 30 := by omega
    have hc := law_config21 n W
    obtain ⟨hN1, hN2⟩ := fNum_le n
    generalize fNum n = N at *
    unfold cfgV at hc
    replace hc : Calls Try.prog 31 #[.int .i64 n] W (fun e w' => ∃ v, e = .returned (.agg #[v, .int .i64 N, .int .i64 0, .int .i64 0, .int .i64 0, .int .i64 1, .int .i64 0, .int .i64 40]) ∧ MatIn w' v [[1]] ∧ Upd (fun _ => False) W w') := hc
    have Hhlight := Lib.hid hlight; clear hlight
    have HhM := Lib.hid hM; clear hM
    have Hhlb := Lib.hid hlb; clear hlb
    have Hhus := Lib.hid hus; clear hus
    have HhrsM := Lib.hid hrsM; clear hrsM
    have Hhc := Lib.hid hc; clear hc
    clear hlt
    go_enter Try.func12, Try.ntmps12
    go_wp2_with fail
    refine Hhlight.out.mono ?_
    rintro e w' ⟨rfl, rfl⟩
    go_wp2_with fail
    refine Hhc.out.mono ?_
    rintro e w1 ⟨v, rfl, hM1, u1⟩
    have hl := lay_config (n0 := N) (n1 := 0) (n2 := 0) (n3 := 0) hN2 (by decide) (by decide) (by decide) (by omega) hM1
    unfold LayPost at hl
    replace hl : Calls Try.prog 14 #[.agg #[v, .int .i64 N, .int .i64 0, .int .i64 0, .int .i64 0, .int .i64 1, .int .i64 0, .int .i64 40]] w1 _ := hl
    have Hhl := Lib.hid hl; clear hl
    have Hu1 := Lib.hid u1; clear u1
    clear hM1 Hhc Hhlight
    go_wp2_with fail
    refine Hhl.out.mono ?_
    rintro e w2 ⟨L, rfl, hL, hLz, hu2⟩
    have hn := cyc_New hL ⟨hN2, by decide, by decide, by decide⟩ (by obtain ⟨v, r, bi, lo, bl, wo, hB, -, -⟩ := hL; exact hB.lt) ra (w2.heap.size + 1) (Nat.le_refl _)
    replace hn : Calls Try.prog 32 #[.pointer (some ⟨L, 0, none⟩), .int .i64 ra] w2 (fun e w' => e = .returned (.pointer (some ⟨w2.heap.size, 0, none⟩)) ∧ IsCy w' w2.heap.size L N 0 0 0 (w2.heap.size + 1) ⟨N, ra, 0, 0, mkNew 0 0, 0⟩ ∧ Upd (fun _ => False) w2 w') := hn
    have u2 := Hu1.out.trans hu2
    have Hhn := Lib.hid hn; clear hn
    have Hu2 := Lib.hid u2; clear u2
    clear hL hLz hu2 Hhl Hu1
    go_wp2_with fail
    refine Hhn.out.mono ?_
    rintro e w3 ⟨rfl, hcy, hu3⟩
    obtain ⟨C, hC⟩ : ∃ C, C = w2.heap.size := ⟨_, rfl⟩
    rw [← hC] at hcy ⊢
    have hCW : W.heap.size ≤ C := by rw [hC]; exact Hu2.out.size
    have u3 := Hu2.out.trans hu3
    clear hu3 Hhn Hu2
    have hcid : Calls Try.prog 22 #[.pointer (some ⟨L, 0, none⟩)] w3 (RetK w3 (.int .i64 N)) := lay_Blocks L N 0 0 0 hN2 (by decide) (by decide) (by decide) w3 hcy.lay
    unfold RetK at hcid
    have hCl := hcy.lt
    have Hhcy := Lib.hid hcy; clear hcy
    have Hu3 := Lib.hid u3; clear u3
    have Hhcid := Lib.hid hcid; clear hcid
    clear hC
    go_wp2_with fail
    refine Hhcid.out.mono ?_
    rintro e w5 ⟨rfl, u5⟩
    have hcy5 := Hhcy.out.still u5
    have u05 := Hu3.out.trans u5
    have hof := map_OfF (N : Int) uv us w5 (Hhus.out.upd u05.none)
    unfold OfPost at hof
    rw [show (max 0 (min (N : Int) 1048576)).toNat = N from by omega] at hof
    have hs5 := u5.size
    have Hhcy5 := Lib.hid hcy5; clear hcy5
    have Hu05 := Lib.hid u05; clear u05
    have Hhof := Lib.hid hof; clear hof
    clear u5 Hhcy Hu3 Hhcid
    go_wp2_with fail
    refine Hhof.out.mono ?_
    rintro e w6 ⟨b, g, rfl, hM6, hbz, hgz, hu6⟩
    obtain ⟨P, hP⟩ : ∃ P, (N + 7) / 8 = P := ⟨_, rfl⟩
    have hid : CyIdle W C L N b g (bitW us) ⟨N, ra, 0, 0, mkNew 0 0, 0⟩ w6 := ⟨⟨_, Hhcy5.out.still hu6⟩, rfl, hM6, ⟨by omega, by omega⟩, Hu05.out.trans hu6, hCW⟩
    have hPB : P ≤ 5 := by omega
    have hst0 : ∃ c : Cy, CyIdle W C L N b g (bitW us) c w6 ∧ c.ep = ((0 : Nat) : Int) ∧ c.pg ≤ P := ⟨_, hid, rfl, Nat.zero_le _⟩
    have hstep : ∀ B w w2 c bx, CyAt W C L N 0 0 0 B b g (bitW us) c w → c.N = N → c.pg ≤ P → w2.cell? ⟨bx, 0, none⟩ = some (.slice ta tt.length tc) → w.heap.size ≤ bx → Upd (fun _ => False) w w2 →
        Calls Try.prog 36 #[.pointer (some ⟨C, 0, none⟩), refsFn bx, .slice none 0 0, .pointer (some ⟨b, 0, none⟩)] w2 (AgStep W C L N B b g w2.heap.size (bitW us) (c.step (refsOf tt)) (c.blocks (bitI N (bitW us))) w2) := fun B w w2 c bx h hcN hpg hc hb u2 => by
      refine (cyat_Step h (by omega) HhM.out Hhlb.out hc hb u2 (ws := []) (fun w' k => ⟨none, 0, rfl, Nat.le_refl _, Nat.zero_le _, fun h => absurd h (Nat.lt_irrefl _)⟩) (by simp)).mono ?_
      rintro e w3 ⟨a1, c1, a2, c2, rfl, -, ho, h3, u3⟩
      rw [weaks_nil, hcN] at *
      exact ⟨a1, c1, a2, c2, rfl, ownsRow_intsR ho, (h.still u2).next h3 (cy_step_N _ _) u3, u3⟩
    have hstep1 : ∀ B w w2 c bx g1, CyAt W C L N 0 0 0 B b g (bitW us) c w → c.ph = 0 → c.pg ≤ P → w2.cell? ⟨bx, 0, none⟩ = some (.slice ta tt.length tc) → w.heap.size ≤ bx → Upd (fun _ => False) w w2 → Blk w2 g1 [.int .i64 1] 3 → w.heap.size ≤ g1 →
        Calls Try.prog 36 #[.pointer (some ⟨C, 0, none⟩), refsFn bx, .slice (some ⟨g1, 0, none⟩) 1 1, .pointer (some ⟨b, 0, none⟩)] w2 (fun e w' => ∃ a1 c1 a2 c2, e = .returned (.agg #[.slice a1 0 c1, .slice a2 0 c2]) ∧ CyAt W C L N 0 0 0 B b g (bitW us) c w') := fun B w w2 c bx g1 h hp hpg hc hb u2 hb1 hg1 => by
      refine (cyat_Step h (by omega) HhM.out Hhlb.out hc hb u2 (ws := [1]) (fun w' k => ?_) (by simp)).mono ?_
      · have hb2 := hb1.upd k (fun e => by have := h.lt g1 e; omega)
        refine ⟨some ⟨g1, 0, none⟩, 1, rfl, Nat.le_refl _, by decide, fun _ => ⟨g1, 0, rfl, hb2.lt, fun p hp j hj => ?_⟩⟩
        have hp : p < 1 := hp
        obtain rfl : p = 0 := by omega
        obtain rfl : j = 0 := by omega
        exact hb2.cell 0 rfl
      · rintro e w3 ⟨a1, c1, a2, c2, rfl, -, ho, h3, u3⟩
        obtain ⟨z1, z2, z3, -⟩ := Cy.at0 hp [1] (bitI c.N (bitW us)) (refsOf tt) 0
        rw [z3] at h3
        rw [z1, z2]
        exact ⟨a1, c1, a2, c2, rfl, (h.still u2).next h3 rfl u3⟩
    have hcol0 := fun (room ep : Int) (mk : Mk) (pg : Nat) (hpg : pg ≤ P) => Col.start (refsOf tt) room ep mk pg rs [] (fun _ => false) [] (bitI N (bitW us)) hP hN1 hpg (fun i hi => by simp)
    have hnx := fun c g w (h : Col N P (refsOf tt) rs (fun _ => false) [] (bitI N (bitW us)) c g w) (hp : c.ph ≠ 0) => h.step hP hp
    have Hhst0 := Lib.hid hst0; clear hst0
    have Hhstep := Lib.hid hstep; clear hstep
    have Hhstep1 := Lib.hid hstep1; clear hstep1
    have HhP := Lib.hid hP; clear hP
    have Hhcol0 := Lib.hid hcol0; clear hcol0
    have Hhnx := Lib.hid hnx; clear hnx
    clear hM6 hbz hgz hu6 hid Hhcy5 Hu05 Hhof
    go_upto_block 0 with fail
    go_cut [] (fun wx => Upd (fun _ => False) W wx)
    case first =>
      go_wp2_with fail
      go_loopw [15, 48] (fun s i wr => ∃ (j : Nat) (fa : Option Addr) (fl fc : Nat) (c : Cy), i = .int .i64 j ∧ j ≤ 2 ∧ s = .slice fa fl fc ∧ CyIdle W C L N b g (bitW us) c wr ∧ c.ep = (j : Int) ∧ c.pg ≤ P ∧ fl ≤ 100 ∧ (1 ≤ j → ∃ c1 g1 l1, Col N P (refsOf tt) rs (fun _ => false) [] (bitI N (bitW us)) c1 g1 l1 ∧ c1.ph = 0 ∧ fl = g1.length)) (fun _ i _ => (2 - intOf i).toNat)
      case atStart =>
        obtain ⟨c, k1, k2, k3⟩ := Hhst0.out
        exact ⟨0, none, 0, 0, c, rfl, by omega, rfl, k1, k2, k3, by omega, fun h => by omega⟩
      case round =>
        obtain ⟨j, fa, fl, fc, c, rfl, hj, rfl, hid, hep, hpg, hfl, hfst⟩ := hrel
        clear Hhst0
        by_cases hj2 : j = 2
        · have e1 : ¬ ((j : Int) < 2) := by omega
          have Hhid := Lib.hid hid; clear hid
          have Hhfst := Lib.hid hfst; clear hfst
          clear hj2 hep hpg
          go_wp2_with fail
          go_meet
          exact Hhid.out.up
        · have e1 : (j : Int) < 2 := by omega
          have hbg := idle_Begin hid ⟨by omega, by omega⟩ (.slice rsa rs.length rsc) rs HhrsM.out (by omega)
          have hcol := Hhcol0.out c.room c.ep c.mr c.pg hpg
          have hpot := cBeg_pot N P c.room c.ep c.mr c.pg rs []
          have he1 : (cBeg N c.room c.ep c.mr c.pg rs []).ep = (j : Int) + 1 := by show c.ep + 1 = _; rw [hep]
          have hph1 : (cBeg N c.room c.ep c.mr c.pg rs []).ph ≠ 0 := (by decide : (1 : Nat) ≠ 0)
          generalize cBeg N c.room c.ep c.mr c.pg rs [] = c0 at *
          unfold IdleBegin at hbg
          have hjI : (j : Int) ≤ 1 := by omega
          have Hhbg := Lib.hid hbg; clear hbg
          have Hhcol := Lib.hid hcol; clear hcol
          have Hhpot := Lib.hid hpot; clear hpot
          have Hhe1 := Lib.hid he1; clear he1
          have Hhph1 := Lib.hid hph1; clear hph1
          have Hhfst := Lib.hid hfst; clear hfst
          clear hid hep hpg hj2
          go_wp2_with fail
          refine Hhbg.out.mono ?_
          rintro e w8 ⟨rfl, B, hat⟩
          have hno := cyc_Begin_no hat.cy Hhph1.out (.slice rsa rs.length rsc) (.slice none 0 0)
          have hepc := cyc_Epoch hat.cy
          rw [Hhe1.out] at hepc
          have Hhat := Lib.hid hat; clear hat
          have Hhno := Lib.hid hno; clear hno
          have Hhepc := Lib.hid hepc; clear hepc
          clear Hhbg
          go_upto_block 2 with (first | (go_at_call 33; (with_reducible refine Hhno.out.mono ?_); rintro e w9 ⟨rfl, rfl⟩) | (go_at_call 43; (with_reducible refine Hhepc.out.mono ?_); rintro e w9 ⟨rfl, rfl⟩))
          clear Hhno Hhepc
          go_cut [17] (fun s wx => ∃ (c : Cy) (gl wl : List Int) (sa : Option Addr) (sc : Nat), s = .slice sa gl.length sc ∧ CyAt W C L N 0 0 0 B b g (bitW us) c wx ∧ Col N P (refsOf tt) rs (fun _ => false) [] (bitI N (bitW us)) c gl wl ∧ c.ph = 0 ∧ c.ep = (j : Int) + 1)
          case first =>
            go_wp2_with fail
            obtain ⟨wb, hwb⟩ : ∃ wb : World, wb = w8 := ⟨_, rfl⟩
            go_loopw [17, 18] (fun s i wr => ∃ (q : Nat) (c : Cy) (gl wl : List Int) (sa : Option Addr) (sc : Nat), i = .int .i64 q ∧ s = .slice sa gl.length sc ∧ wr.ownsRow wb.heap.size 3 1 (.slice sa gl.length sc) gl.length (ints gl) ∧ wb.heap.size ≤ wr.heap.size ∧ q + c.pot P ≤ 2 * N + P + 3 ∧ CyAt W C L N 0 0 0 B b g (bitW us) c wr ∧ Col N P (refsOf tt) rs (fun _ => false) [] (bitI N (bitW us)) c gl wl ∧ c.ep = (j : Int) + 1 ∧ (∀ k, InAll C L B b g k → k < wb.heap.size)) (fun _ i _ => (2 * N + P + 4 - intOf i).toNat)
            case atStart => exact ⟨0, c0, [], [], none, 0, rfl, rfl, World.ownsRow_nil _ _ _ _, by rw [hwb]; exact Nat.le_refl _, by have := Hhpot.out; omega, Hhat.out, Hhcol.out, Hhe1.out, by rw [hwb]; exact Hhat.out.lts⟩
            case round =>
              obtain ⟨q, c, gl, wl, sa, sc, rfl, rfl, ho, hwz, hq, hat, hcol, hepc, hlt⟩ := hrel
              clear Hhat Hhcol Hhpot Hhe1 Hhph1 hwb
              have hph := cyc_Phase hat.cy
              by_cases e0 : c.ph = 0
              · rw [e0] at hph
                have hph : Calls Try.prog 35 #[.pointer (some ⟨C, 0, none⟩)] wr (Same wr (.int .i64 0)) := hph
                have Hhph := Lib.hid hph; clear hph
                have Hhat := Lib.hid hat; clear hat
                have Hhcol := Lib.hid hcol; clear hcol
                have Hhq := Lib.hid hq; clear hq
                have Hhepc := Lib.hid hepc; clear hepc
                have Hho := Lib.hid ho; clear ho
                have Hhwz := Lib.hid hwz; clear hwz
                have Hhlt := Lib.hid hlt; clear hlt
                have He0 := Lib.hid e0; clear e0
                go_wp2_with (go_at_call 35; (with_reducible refine Hhph.out.mono ?_); rintro e w9 ⟨rfl, rfl⟩)
                go_meet
                exact ⟨c, gl, wl, sa, sc, rfl, Hhat.out, Hhcol.out, He0.out, Hhepc.out⟩
              · have hp2 := hcol.run.pot (fun _ => hcol.ok) (refsOf tt) e0
                have hq2 : (q + 1) + (c.step (refsOf tt)).pot P ≤ 2 * N + P + 3 := by omega
                have hqI : (q : Int) ≤ 200 := by omega
                have hcol2 := Hhnx.out c gl wl hcol e0
                have hep2 := (cy_step_ep c (refsOf tt)).trans hepc
                have hl2 := hcol2.len.1
                have hl3 := hcol.len.1
                have hrf := law_refs ta tt.length tc wr
                unfold RefsPost at hrf
                have hst := fun w2 bx => Hhstep.out B wr w2 c bx hat hcol.n hcol.run.pg
                rw [weaks_nil, List.append_nil] at hcol2
                generalize c.blocks (bitI N (bitW us)) = ys at *
                generalize c.step (refsOf tt) = d at *
                have hlen : gl.length + ys.length ≤ 1099511627776 := by rw [List.length_append] at hl2; omega
                have e1' : ((c.ph : Int) == 0) = false := by simp; omega
                generalize (c.ph : Int) = pI at *
                have Hhph := Lib.hid hph; clear hph
                have Hhat := Lib.hid hat; clear hat
                have Hhcol := Lib.hid hcol; clear hcol
                have Hhq2 := Lib.hid hq2; clear hq2
                have Hhepc := Lib.hid hepc; clear hepc
                have Hhep2 := Lib.hid hep2; clear hep2
                have Hho := Lib.hid ho; clear ho
                have Hhwz := Lib.hid hwz; clear hwz
                have Hhlt := Lib.hid hlt; clear hlt
                have Hhrf := Lib.hid hrf; clear hrf
                have Hhst := Lib.hid hst; clear hst
                have Hhcol2 := Lib.hid hcol2; clear hcol2
                clear hp2 hq e0 hl2 hl3
                go_wp2_with (go_at_call 35; (with_reducible refine Hhph.out.mono ?_); rintro e w9 ⟨rfl, rfl⟩)
                refine Hhrf.out.mono ?_
                rintro e w10 ⟨bx, rfl, hc5, hbx5, hbx5', hu5⟩
                have hs := Hhst.out w10 bx hc5 hbx5 hu5
                unfold AgStep at hs
                have ho10 := ownsRow_upd Hho.out hu5 (fun _ _ x => x)
                have hz10 := hu5.size
                have hwz10 : wb.heap.size ≤ w10.heap.size := Nat.le_trans Hhwz.out hz10
                have Hhs := Lib.hid hs; clear hs
                have Hho10 := Lib.hid ho10; clear ho10
                have Hhwz10 := Lib.hid hwz10; clear hwz10
                clear hc5 hbx5 hbx5' hu5 hz10
                go_wp2_with fail
                refine Hhs.out.mono ?_
                rintro e w11 ⟨a1, c1, a2, c2, rfl, hI, hat11, hu11⟩
                have ho11 := ownsRow_upd Hho10.out hu11 (fun k hk e => by have := Hhlt.out k (Or.inl e); omega)
                have hz11 : wb.heap.size ≤ w11.heap.size := Nat.le_trans Hhwz10.out hu11.size
                have hfd : (Instr.field 60 (.agg #[.slice a1 0 c1, .slice a2 ys.length c2]) 1).run Try.prog w11 = .ok (.slice a2 ys.length c2) w11 := by first | rfl | kernel_rfl
                have Hho11 := Lib.hid ho11; clear ho11
                have HhI := Lib.hid hI; clear hI
                have Hhat11 := Lib.hid hat11; clear hat11
                clear hu11 Hhs Hhrf Hhst Hho10 Hhwz10
                go_wp2_with (at_builtin; refine wpList_appendOnto rfl _ _ 37 3 rfl (.int .i64 0) 8 Try.underlying37 infoIntM rfl wb.heap.size _ _ _ rfl Hho11.out a2 ys.length c2 .i64 ys rfl rfl HhI.out hlen (by decide) hz11 ?_; intro a5 c5 w12 ho5 hg5; have Ho5 := Lib.hid ho5; have Hg5 := Lib.hid hg5; clear ho5 hg5)
                have hown : ∀ k, (Value.slice sa gl.length sc).ownBlock = some k → wb.heap.size ≤ k := fun k hk => (Hho11.out.lt k hk).1
                have hat12 := Hhat11.out.aside (S := fun k => wb.heap.size ≤ k) ((Upd.refl _ _).grown Hg5.out (fun k hk _ => hown k hk)) (fun k hk hk2 => by have := Hhlt.out k hk; omega) (fun k hk => Nat.le_trans Hhat.out.ge.1 (Nat.le_trans (Nat.le_of_lt (Hhlt.out C (Or.inl (Or.inl rfl)))) hk))
                have hz12 : wb.heap.size ≤ w12.heap.size := Nat.le_trans hz11 ((Upd.refl (fun k => wb.heap.size ≤ k) w11).grown Hg5.out (fun k hk _ => hown k hk)).size
                have Hhat12 := Lib.hid hat12; clear hat12
                have Hhz12 := Lib.hid hz12; clear hz12
                clear hown hz11
                go_roundw
                case rel => exact ⟨q + 1, d, gl ++ ys, wl, a5, c5, by go_num, by rw [List.length_append], by rw [List.length_append]; have h := Ho5.out; rw [show ints (gl ++ ys) = ints gl ++ ys.map (Value.int .i64) from by simp [ints]]; exact h, Hhz12.out, Hhq2.out, Hhat12.out, Hhcol2.out, Hhep2.out, Hhlt.out⟩
                case measure => have := Hhq2.out; simp [intOf]; omega
          case rest =>
            obtain ⟨c, gl, wl, sa, sc, rfl, hat, hcol, e0, hepc⟩ := hcut
            clear Hhat Hhcol Hhpot Hhe1 Hhph1
            obtain ⟨wr2, hwr2⟩ : ∃ w : World, w = wc := ⟨_, rfl⟩
            subst hwr2
            have hl := hcol.len.1
            have hglI : (gl.length : Int) ≤ 200 := by omega
            have hlen2 : ¬ j = 0 → gl.length = fl := fun hj0 => by
              obtain ⟨c1, g1, l1, k1, k2, k3⟩ := Hhfst.out (by omega)
              rw [k3, Col.same hcol k1 e0 k2]
            have hrf := law_refs ta tt.length tc wr2
            unfold RefsPost at hrf
            have hst := fun w2 bx g1 => Hhstep1.out B wr2 w2 c bx g1 hat e0 hcol.run.pg
            have hpg := hcol.run.pg
            obtain ⟨-, -, -, z4, z5, z6, z7, z8⟩ := Cy.at0 e0 [] (fun _ => false) (fun _ => []) 0
            have hm : ∀ w', CyAt W C L N 0 0 0 B b g (bitW us) c w' → Calls Try.prog 44 #[.pointer (some ⟨C, 0, none⟩), .int .i64 0] w' _ := fun w' h => cyc_Marked h.cy 0
            have hsh : ∀ w', CyAt W C L N 0 0 0 B b g (bitW us) c w' → Calls Try.prog 37 #[.pointer (some ⟨C, 0, none⟩), .int .i64 0] w' _ := fun w' h => cyc_Shade h.cy 0
            have hal : ∀ w', CyAt W C L N 0 0 0 B b g (bitW us) c w' → Calls Try.prog 38 #[.pointer (some ⟨C, 0, none⟩), .int .i64 0] w' _ := fun w' h => cyc_Alloc h.cy 0
            rw [z4] at hm
            rw [z5, z6] at hsh
            rw [z7, z8] at hal
            unfold CyPost at hsh hal
            clear z4 z5 z6 z7 z8
            have hcs : (j = 0) ∨ (j = 1) := by omega
            have hcol3 := Lib.hid hcol
            clear hcol
            have Hhat := Lib.hid hat; clear hat
            have Hhepc := Lib.hid hepc; clear hepc
            have Hhrf := Lib.hid hrf; clear hrf
            have Hhst := Lib.hid hst; clear hst
            have Hhm := Lib.hid hm; clear hm
            have Hhsh := Lib.hid hsh; clear hsh
            have Hhal := Lib.hid hal; clear hal
            have Hhlen2 := Lib.hid hlen2; clear hlen2
            have He0 := Lib.hid e0; clear e0
            have Hhpg := Lib.hid hpg; clear hpg
            rcases hcs with rfl | rfl
            · rw [show ((0 : Nat) : Int) = 0 from rfl]
              go_wp2_with fail
              refine Hhrf.out.mono ?_
              rintro e w10 ⟨bx, rfl, hc5, hbx5, hbx5', hu5⟩
              obtain ⟨w11, hw11⟩ : ∃ w11, w11 = w10.alloc (.cells #[.int .i64 1] 3) := ⟨_, rfl⟩
              have hb1 : Blk w11 w10.heap.size [.int .i64 1] 3 := by rw [hw11]; exact Blk.new _ _ _
              have hu11 : Upd (fun _ => False) w10 w11 := by rw [hw11]; exact (Upd.refl _ _).alloc _
              have hc11 := (hu11.none.cell (World.block_lt_of_cell? w10 _ hc5)).trans hc5
              have hs := Hhst.out w11 bx w10.heap.size hc11 hbx5 (hu5.trans hu11) hb1 hu5.size
              have Hhs := Lib.hid hs; clear hs
              clear hc5 hbx5 hbx5' hu5 hb1 hu11 hc11 Hhrf Hhst
              go_wp2_with fail
              rw [← hw11]
              clear hw11
              refine Hhs.out.mono ?_
              rintro e w12 ⟨a1, c1, a2, c2, rfl, hat12⟩
              obtain ⟨w13, hw13⟩ : ∃ w13, w13 = w12.alloc (.cells #[.slice a1 0 c1, .slice a2 0 c2] 60) := ⟨_, rfl⟩
              have kb : Blk w13 w12.heap.size [.slice a1 0 c1, .slice a2 0 c2] 60 := by rw [hw13]; exact Blk.new _ _ _
              have hat13 : CyAt W C L N 0 0 0 B b g (bitW us) c w13 := by rw [hw13]; exact hat12.still ((Upd.refl _ _).alloc _)
              have z0 := kb.cell 0 rfl
              have z1 := kb.cell 1 rfl
              have hm13 := Hhm.out w13 hat13
              have hs13 := Hhsh.out w13 hat13
              have Hhat13 := Lib.hid hat13; clear hat13
              have Hhm13 := Lib.hid hm13; clear hm13
              have Hhs13 := Lib.hid hs13; clear hs13
              have Hhw13 := Lib.hid hw13; clear hw13
              clear hat12 kb Hhs
              go_wp2_with fail
              rw [← Hhw13.out]
              go_wp2_with (first
                | (go_at_call 44; (with_reducible refine Hhm13.out.mono ?_); rintro e w14 ⟨rfl, rfl⟩)
                | (go_at_call 37; (with_reducible refine Hhs13.out.mono ?_); rintro e w14 ⟨rfl, hcy14, hu14⟩; have Hat14 := Lib.hid (Hhat13.out.next hcy14 rfl hu14); have Hal14 := Lib.hid (Hhal.out w14 Hat14.out); clear hcy14 hu14)
                | (go_at_call 38; (with_reducible refine Hal14.out.mono ?_); rintro e w15 ⟨rfl, hcy15, hu15⟩; have Hat15 := Lib.hid (Hat14.out.next hcy15 rfl hu15); clear hcy15 hu15))
              go_roundw
              case rel => exact ⟨1, sa, gl.length, sc, c, rfl, by decide, rfl, Hat15.out.idle He0.out, Hhepc.out, Hhpg.out, by omega, fun _ => ⟨c, gl, wl, hcol3.out, He0.out, rfl⟩⟩
              case measure => simp [intOf]
            · have hgf := Hhlen2.out (by decide)
              rw [show ((1 : Nat) : Int) = 1 from rfl]
              subst hgf
              go_wp2_with fail
              refine Hhrf.out.mono ?_
              rintro e w10 ⟨bx, rfl, hc5, hbx5, hbx5', hu5⟩
              obtain ⟨w11, hw11⟩ : ∃ w11, w11 = w10.alloc (.cells #[.int .i64 1] 3) := ⟨_, rfl⟩
              have hb1 : Blk w11 w10.heap.size [.int .i64 1] 3 := by rw [hw11]; exact Blk.new _ _ _
              have hu11 : Upd (fun _ => False) w10 w11 := by rw [hw11]; exact (Upd.refl _ _).alloc _
              have hc11 := (hu11.none.cell (World.block_lt_of_cell? w10 _ hc5)).trans hc5
              have hs := Hhst.out w11 bx w10.heap.size hc11 hbx5 (hu5.trans hu11) hb1 hu5.size
              have Hhs := Lib.hid hs; clear hs
              clear hc5 hbx5 hbx5' hu5 hb1 hu11 hc11 Hhrf Hhst
              go_wp2_with fail
              rw [← hw11]
              clear hw11
              refine Hhs.out.mono ?_
              rintro e w12 ⟨a1, c1, a2, c2, rfl, hat12⟩
              obtain ⟨w13, hw13⟩ : ∃ w13, w13 = w12.alloc (.cells #[.slice a1 0 c1, .slice a2 0 c2] 60) := ⟨_, rfl⟩
              have kb : Blk w13 w12.heap.size [.slice a1 0 c1, .slice a2 0 c2] 60 := by rw [hw13]; exact Blk.new _ _ _
              have hat13 : CyAt W C L N 0 0 0 B b g (bitW us) c w13 := by rw [hw13]; exact hat12.still ((Upd.refl _ _).alloc _)
              have z0 := kb.cell 0 rfl
              have z1 := kb.cell 1 rfl
              have hm13 := Hhm.out w13 hat13
              have hs13 := Hhsh.out w13 hat13
              have Hhat13 := Lib.hid hat13; clear hat13
              have Hhm13 := Lib.hid hm13; clear hm13
              have Hhs13 := Lib.hid hs13; clear hs13
              have Hhw13 := Lib.hid hw13; clear hw13
              clear hat12 kb Hhs
              go_wp2_with fail
              rw [← Hhw13.out]
              go_wp2_with (first
                | (go_at_call 44; (with_reducible refine Hhm13.out.mono ?_); rintro e w14 ⟨rfl, rfl⟩)
                | (go_at_call 37; (with_reducible refine Hhs13.out.mono ?_); rintro e w14 ⟨rfl, hcy14, hu14⟩; have Hat14 := Lib.hid (Hhat13.out.next hcy14 rfl hu14); have Hal14 := Lib.hid (Hhal.out w14 Hat14.out); clear hcy14 hu14)
                | (go_at_call 38; (with_reducible refine Hal14.out.mono ?_); rintro e w15 ⟨rfl, hcy15, hu15⟩; have Hat15 := Lib.hid (Hat14.out.next hcy15 rfl hu15); clear hcy15 hu15))
              go_roundw
              case rel => exact ⟨2, fa, gl.length, fc, c, rfl, by decide, rfl, Hat15.out.idle He0.out, Hhepc.out, Hhpg.out, by omega, fun _ => ⟨c, gl, wl, hcol3.out, He0.out, rfl⟩⟩
              case measure => simp [intOf]

    case rest =>
      have haw := awake21 W _ hcut
      have Hhaw := Lib.hid haw; clear haw
      clear Hhst0
      go_wp2_with (go_at_call 30; (with_reducible refine Hhaw.out.mono ?_); rintro e w9 ⟨rfl, hu⟩)
      go_ret
      exact ⟨rfl, hu.none⟩
  · have haw := awake21 W W (Upd.refl _ _)
    cases hlt : lightM tt
    · rw [hlt] at hlight
      have Hhlight := Lib.hid hlight; clear hlight
      have Hhaw := Lib.hid haw; clear haw
      clear hM hgo hlt
      go_enter Try.func12, Try.ntmps12
      go_wp2_with (first | (go_at_call 29; (with_reducible refine Hhlight.out.mono ?_); rintro e w2 ⟨rfl, rfl⟩) | (go_at_call 30; (with_reducible refine Hhaw.out.mono ?_); rintro e w2 ⟨rfl, hu⟩))
      go_ret
      exact ⟨rfl, hu.none⟩
    · rw [hlt] at hlight hgo
      have key : ((30 : Int) < rs.length) := by
        have hgo2 : ¬ (rs.length ≤ 30) := fun h => hgo ⟨rfl, h⟩
        omega
      have Hhlight := Lib.hid hlight; clear hlight
      have Hhaw := Lib.hid haw; clear haw
      clear hM hgo hlt
      have c1 := key
      clear key
      all_goals
        go_enter Try.func12, Try.ntmps12
        go_wp2_with (first | (go_at_call 29; (with_reducible refine Hhlight.out.mono ?_); rintro e w2 ⟨rfl, rfl⟩) | (go_at_call 30; (with_reducible refine Hhaw.out.mono ?_); rintro e w2 ⟨rfl, hu⟩))
        go_ret
        exact ⟨rfl, hu.none⟩

theorem own : ownKnob Try.prog.godebug = none := by kernel_rfl
theorem laidOut : laidOutB Try.prog = true := by kernel_rfl
set_option maxRecDepth 100000 in
theorem lifted (os : Os) (started : os.Started) (H : Type) (enc : TypeId × Value → H) :
    ReturnsInHanded {} Try.checked os 12 .any (Rows.cycleAgainSpec.pre6 enc Try.prog Try.f12 Rows.cycleAgainRow.domain false) (Rows.cycleAgainSpec.post enc Try.prog Try.f12 false true false false) := by
  refine returnsInHanded_of_change_sized (C := Try.checked) own started (by kernel_rfl) Try.func12
    (ChangeSpec.witness6 (enc := enc) (C := Try.checked) false ⟨#[], #[.int .i64 0, .int .i64 0, .slice none 0 0, .slice none 0 0, .slice none 0 0], []⟩ 8 (by kernel_rfl) (by kernel_rfl) (by kernel_rfl) (by kernel_rfl)) ?_
  intro W base args ds gs before hval0 hW _ hsz0 _
  have hsz : (DataW.weightsEach Try.prog (Try.f12.params.toList ++ Rows.cycleAgainSpec.plain.varTypes Try.prog) (ds ++ gs)).all (· ≤ reachBytes) = true := hsz0
  clear hsz0
  have hval : ∀ (j : Nat) t v, Try.f12.params[j]? = some t → args[j]? = some v → Value.okWide Try.prog W .any base t v := hval0
  have hW' := hW
  obtain ⟨p, q, hA0, hV, rfl, _, _⟩ := hW
  have hA : DataW.TrodAll enc Try.prog W 0 (fun _ => true) true Try.f12.params.toList args.toList ds p := hA0
  rw [Try.params12] at hA hval hsz
  obtain ⟨v0, vs0, d0, ds0, p0, q0, hargs, rfl, rfl, h0, r0⟩ := trodAll_cons hA
  obtain ⟨v1, vs1, d1, ds1, p1, q1, rfl, rfl, rfl, h1, r1⟩ := trodAll_cons r0
  obtain ⟨v2, vs2, d2, ds2, p2, q2, rfl, rfl, rfl, h2, r2⟩ := trodAll_cons r1
  obtain ⟨v3, vs3, d3, ds3, p3, q3, rfl, rfl, rfl, h3, r3⟩ := trodAll_cons r2
  obtain ⟨v4, vs4, d4, ds4, p4, q4, rfl, rfl, rfl, h4, r4⟩ := trodAll_cons r3
  obtain ⟨rfl, rfl, rfl⟩ := trodAll_nil r4
  obtain rfl : args = #[v0, v1, v2, v3, v4] := by cases args; simp_all
  obtain ⟨rfl, rfl⟩ := trodVars_none hV
  clear hA0 hval0
  simp only [List.append_nil] at hW'
  have hlt : ∀ x, (x ∈ p0 ∨ x ∈ p1 ∨ x ∈ p2 ∨ x ∈ p3 ∨ x ∈ p4) → x.block < W.heap.size := fun x hx => by simpa using hW'.lt x (by simpa using hx)
  have k0 : ∀ (W' : World), Below W.heap.size W W' → DataW.Trod enc Try.prog W' 0 (fun b => decide (b < W.heap.size)) true 3 v0 d0 p0 :=
    fun W' hn => Below.trod laidOut (by kernel_rfl) (of_decide_eq_true (by kernel_rfl)) h0 hn (fun x hx => hlt x (Or.inl hx))
  have k1 : ∀ (W' : World), Below W.heap.size W W' → DataW.Trod enc Try.prog W' 0 (fun b => decide (b < W.heap.size)) true 3 v1 d1 p1 :=
    fun W' hn => Below.trod laidOut (by kernel_rfl) (of_decide_eq_true (by kernel_rfl)) h1 hn (fun x hx => hlt x (Or.inr (Or.inl hx)))
  have k2 : ∀ (W' : World), Below W.heap.size W W' → DataW.Trod enc Try.prog W' 0 (fun b => decide (b < W.heap.size)) true 52 v2 d2 p2 :=
    fun W' hn => Below.trod laidOut (by kernel_rfl) (of_decide_eq_true (by kernel_rfl)) h2 hn (fun x hx => hlt x (Or.inr (Or.inr (Or.inl hx))))
  have k3 : ∀ (W' : World), Below W.heap.size W W' → DataW.Trod enc Try.prog W' 0 (fun b => decide (b < W.heap.size)) true 37 v3 d3 p3 :=
    fun W' hn => Below.trod laidOut (by kernel_rfl) (of_decide_eq_true (by kernel_rfl)) h3 hn (fun x hx => hlt x (Or.inr (Or.inr (Or.inr (Or.inl hx)))))
  have k4 : ∀ (W' : World), Below W.heap.size W W' → DataW.Trod enc Try.prog W' 0 (fun b => decide (b < W.heap.size)) true 23 v4 d4 p4 :=
    fun W' hn => Below.trod laidOut (by kernel_rfl) (of_decide_eq_true (by kernel_rfl)) h4 hn (fun x hx => hlt x (Or.inr (Or.inr (Or.inr (Or.inr (hx))))))
  obtain ⟨a0, rfl, _, _, w0⟩ := open_int Try.underlying3 (hval 0 3 v0 rfl rfl) h0
  obtain ⟨a1, rfl, _, _, w1⟩ := open_int Try.underlying3 (hval 1 3 v1 rfl rfl) h1
  obtain ⟨x2, hx2⟩ := open_matAt Try.underlying52 Try.underlying37 Try.underlying3 (by kernel_rfl) (by kernel_rfl) (by kernel_rfl) (hval 2 52 v2 rfl rfl) h2 hsz 2 rfl rfl
  obtain ⟨x3, hx3⟩ := open_intsAt (bytes := 8) Try.underlying37 Try.underlying3 (by kernel_rfl) (by kernel_rfl) (hval 3 37 v3 rfl rfl) h3 hsz 3 rfl rfl
  obtain ⟨x4, hx4⟩ := open_intsAt (bytes := 8) Try.underlying23 Try.underlying82 (by kernel_rfl) (by kernel_rfl) (hval 4 23 v4 rfl rfl) h4 hsz 4 rfl rfl
  refine (walk (W := W) a0 w0 a1 w1 v2 x2 hx2 v3 x3 hx3 v4 x4 hx4).mono fun e W' ⟨he, hb⟩ => ?_
  subst he
  refine ⟨_, rfl, _, _, _, [], p0 ++ (p1 ++ (p2 ++ (p3 ++ (p4 ++ ([]))))), [], hW', ?_, ?_, rfl, hb.frame _, fun h => by cases h⟩
  · exact trodAll_cons_mk (shut_bool Try.underlying4 true) trodAll_mk0
  · exact trodAll_cons_mk (k0 _ hb) (trodAll_cons_mk (k1 _ hb) (trodAll_cons_mk (k2 _ hb) (trodAll_cons_mk (k3 _ hb) (trodAll_cons_mk (k4 _ hb) (trodAll_mk0)))))

theorem over : Rows.cycleAgainRow.holds Try.pinned (OpenSpec.ofChange Rows.cycleAgainSpec) :=
  OpenClaim.holds_of_wide 12 Try.f12 rfl rfl rfl rfl rfl rfl rfl ⟨rfl, rfl, rfl, rfl, rfl⟩ rfl rfl rfl rfl rfl (by kernel_rfl) Try.func12 (by kernel_rfl)
    (of_decide_eq_true (by kernel_rfl)) (by unfold Func.isWrapper; first | (rw [if_pos (by decide +kernel)]; kernel_rfl) | (rw [if_neg (by decide +kernel)]; exact ⟨rfl, rfl⟩))
    (fun os started H enc _ => lifted os started H enc)

/-- The given statement. -/
theorem proved : Rows.CycleAgainSaid := over
#print axioms proved
end Go.Proofs.Ythaicpjgmplgcaa.cycleAgain
