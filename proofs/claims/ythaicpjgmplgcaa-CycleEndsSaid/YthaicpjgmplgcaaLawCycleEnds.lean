/- It ends, and takes back just what is not reached. No condition. -/
import Derived.Test.YthaicpjgmplgcaaRunA
import Derived.Test.YthaicpjgmplgcaaEnds
import Derived.Deep.RegionHeld3
import Derived.SizedLaws
import Derived.Deep.DrawnRows
import Derived.Deep.DeepCutAuto
import Derived.Deep.CutBlock
namespace Go.Proofs.Ythaicpjgmplgcaa.cycleEnds
open Go.ChangeShapes Go.WideShapes Go.ChangeAt Go.RowKit
set_option linter.unusedVariables false

set_option maxRecDepth 100000 in
set_option maxHeartbeats 4000000 in
theorem walk {W : World} (n : Int) (w0 : (Lit.int .i64 n).wf = true) (ra : Int) (w1 : (Lit.int .i64 ra).wf = true) (tv : Value) (tt : List (List Int)) (ht : MatIn W tv tt ∧ tt.length * 24 ≤ 140737488351232) (wv : Value) (ws : List Int) (hws : IntsIn W wv .i64 ws ∧ ws.length * 8 ≤ 140737488351232) (rv : Value) (rs : List Int) (hrs : IntsIn W rv .i64 rs ∧ rs.length * 8 ≤ 140737488351232) (kv : Value) (ks : List Int) (hks : IntsIn W kv .i64 ks ∧ ks.length * 8 ≤ 140737488351232) (uv : Value) (us0 : List Int) (hus0 : IntsIn W uv .u64 us0 ∧ us0.length * 8 ≤ 140737488351232) :
    Calls Try.prog 7 #[.int .i64 n, .int .i64 ra, tv, wv, rv, kv, uv] W (LawPost W) := by
  obtain ⟨hM, hMl⟩ := ht
  have hlight := law_light tv tt W hM hMl
  obtain ⟨ta, tc, htv⟩ := mat_shape hM
  subst htv
  obtain ⟨hwsM, hwsl⟩ := hws
  obtain ⟨wsa, wsc, hwsv⟩ := ints_shape hwsM
  subst hwsv
  have hwsI : (ws.length : Int) ≤ 17592186044416 := by omega
  clear hwsl
  obtain ⟨hrsM, hrsl⟩ := hrs
  obtain ⟨rsa, rsc, hrsv⟩ := ints_shape hrsM
  subst hrsv
  have hrsI : (rs.length : Int) ≤ 17592186044416 := by omega
  clear hrsl
  obtain ⟨hksM, hksl⟩ := hks
  obtain ⟨ksa, ksc, hksv⟩ := ints_shape hksM
  subst hksv
  have hksI : (ks.length : Int) ≤ 17592186044416 := by omega
  clear hksl
  obtain ⟨us, hus, -⟩ := intsIn_words hus0.1
  clear hus0
  clear w0 w1 hMl
  by_cases hgo : lightM tt = true ∧ ws.length ≤ 20 ∧ rs.length ≤ 30 ∧ ks.length ≤ 30
  · obtain ⟨hlt, hwsN, hrsN, hksN⟩ := hgo
    rw [hlt] at hlight
    have hlb := light_bounds hlt
    have hwsB : (ws.length : Int) ≤ 20 := by omega
    have hrsB : (rs.length : Int) ≤ 30 := by omega
    have hksB : (ks.length : Int) ≤ 30 := by omega
    have hc := law_config21 n W
    obtain ⟨hN1, hN2⟩ := fNum_le n
    generalize fNum n = N at *
    unfold cfgV at hc
    replace hc : Calls Try.prog 31 #[.int .i64 n] W (fun e w' => ∃ v, e = .returned (.agg #[v, .int .i64 N, .int .i64 0, .int .i64 0, .int .i64 0, .int .i64 1, .int .i64 0, .int .i64 40]) ∧ MatIn w' v [[1]] ∧ Upd (fun _ => False) W w') := hc
    have Hhlight := Lib.hid hlight; clear hlight
    have HhM := Lib.hid hM; clear hM
    have Hhlb := Lib.hid hlb; clear hlb
    have Hhus := Lib.hid hus; clear hus
    have HhwsM := Lib.hid hwsM; clear hwsM
    have HhrsM := Lib.hid hrsM; clear hrsM
    have HhksM := Lib.hid hksM; clear hksM
    have Hhc := Lib.hid hc; clear hc
    clear hlt
    go_enter Try.func7, Try.ntmps7
    go_wp2_with fail
    refine Hhlight.out.mono ?_
    rintro e w' ⟨rfl, rfl⟩
    go_wp2_with fail
    refine Hhc.out.mono ?_
    rintro e w1 ⟨v, rfl, hM1, u1⟩
    have hl := lay_config (n0 := N) (n1 := 0) (n2 := 0) (n3 := 0) hN2 (by decide) (by decide) (by decide) (by omega) hM1
    unfold LayPost at hl
    replace hl : Calls Try.prog 14 #[.agg #[v, .int .i64 N, .int .i64 0, .int .i64 0, .int .i64 0, .int .i64 1, .int .i64 0, .int .i64 40]] w1 _ := hl
    have Hhl := Lib.hid hl; clear hl
    have Hu1 := Lib.hid u1; clear u1
    clear hM1 Hhc Hhlight
    go_wp2_with fail
    refine Hhl.out.mono ?_
    rintro e w2 ⟨L, rfl, hL, hLz, hu2⟩
    have hn := cyc_New hL ⟨hN2, by decide, by decide, by decide⟩ (by obtain ⟨v, r, bi, lo, bl, wo, hB, -, -⟩ := hL; exact hB.lt) ra (w2.heap.size + 1) (Nat.le_refl _)
    replace hn : Calls Try.prog 32 #[.pointer (some ⟨L, 0, none⟩), .int .i64 ra] w2 (fun e w' => e = .returned (.pointer (some ⟨w2.heap.size, 0, none⟩)) ∧ IsCy w' w2.heap.size L N 0 0 0 (w2.heap.size + 1) ⟨N, ra, 0, 0, mkNew 0 0, 0⟩ ∧ Upd (fun _ => False) w2 w') := hn
    have u2 := Hu1.out.trans hu2
    have Hhn := Lib.hid hn; clear hn
    have Hu2 := Lib.hid u2; clear u2
    clear hL hLz hu2 Hhl Hu1
    go_wp2_with fail
    refine Hhn.out.mono ?_
    rintro e w3 ⟨rfl, hcy, hu3⟩
    obtain ⟨C, hC⟩ : ∃ C, C = w2.heap.size := ⟨_, rfl⟩
    rw [← hC] at hcy ⊢
    have hCW : W.heap.size ≤ C := by rw [hC]; exact Hu2.out.size
    have u3 := Hu2.out.trans hu3
    clear hu3 Hhn Hu2
    have hup : ∀ w', Upd (fun j => j = C) w3 w' → Upd (fun _ => False) W w' := fun w' k => u3.own k (fun i e => by rw [e]; exact hCW)
    have hbg := cyc_Begin hcy rfl ⟨Int.le_refl 0, (by decide : (0 : Int) ≤ 1000000)⟩ (.slice rsa rs.length rsc) (.slice ksa ks.length ksc) rs ks (HhrsM.out.upd u3.none).1 (HhksM.out.upd u3.none).1 (fun w' k => ⟨(HhrsM.out.upd (hup w' k).none).1, (HhksM.out.upd (hup w' k).none).1⟩) (by omega) (by omega)
    rw [begin_is] at hbg
    unfold BeginPost at hbg
    have Hhbg := Lib.hid hbg; clear hbg
    have Hu3 := Lib.hid u3; clear u3
    clear hcy hup hC
    go_wp2_with fail
    refine Hhbg.out.mono ?_
    rintro e w4 ⟨rfl, B, hcy4, hBz, hu4⟩
    have u4 := Hu3.out.own hu4 (fun i e => by rw [e]; exact hCW)
    have hBW : W.heap.size ≤ B := by have := Hu3.out.size; omega
    have hbd := hcy4.bd (by unfold cBeg; simp)
    have hbl : Calls Try.prog 22 #[.pointer (some ⟨L, 0, none⟩)] w4 (RetK w4 (.int .i64 N)) := lay_Blocks L N 0 0 0 hN2 (by decide) (by decide) (by decide) w4 hcy4.lay
    unfold RetK at hbl
    have Hhcy4 := Lib.hid hcy4; clear hcy4
    have Hu4 := Lib.hid u4; clear u4
    have Hhbl := Lib.hid hbl; clear hbl
    have Hhbd := Lib.hid hbd; clear hbd
    clear hu4 Hhbg Hu3 hBz
    go_wp2_with fail
    refine Hhbl.out.mono ?_
    rintro e w5 ⟨rfl, u5⟩
    have hcy5 := Hhcy4.out.still u5
    have u05 := Hu4.out.trans u5
    have hof := map_OfF (N : Int) uv us w5 (Hhus.out.upd u05.none)
    unfold OfPost at hof
    rw [show (max 0 (min (N : Int) 1048576)).toNat = N from by omega] at hof
    have hs5 := u5.size
    have Hhcy5 := Lib.hid hcy5; clear hcy5
    have Hu05 := Lib.hid u05; clear u05
    have Hhof := Lib.hid hof; clear hof
    clear u5 Hhcy4 Hu4 Hhbl
    have hN1I : ¬ ((N : Int) < 1) := by omega
    have hN64 : ¬ ((64 : Int) < N) := by omega
    go_wp2_with fail
    refine Hhof.out.mono ?_
    rintro e w6 ⟨b, gg, rfl, hM6, hbz, hgz, hu6⟩
    obtain ⟨P, hP⟩ : ∃ P, (N + 7) / 8 = P := ⟨_, rfl⟩
    have hat : CyAt W C L N 0 0 0 B b gg (bitW us) (cBeg N ra 0 (mkNew 0 0) 0 rs ks) w6 :=
      ⟨Hhcy5.out.still hu6, hM6, fun e => by have := Hhbd.out _ e; omega, fun e => by have := Hhbd.out _ e; omega, Hu05.out.trans hu6, ⟨hCW, hBW⟩, fun j hj => by have := Hhbd.out j hj; have := hu6.size; omega⟩
    have hpot := cBeg_pot N P ra 0 (mkNew 0 0) 0 rs ks
    have hcol := fun D hD => Col.start (refsOf tt) ra 0 (mkNew 0 0) 0 rs ks D ws (bitI N (bitW us)) hP hN1 (Nat.zero_le P) hD
    have hPB : P ≤ 5 := by omega
    have hPI : (P : Int) ≤ 5 := by omega
    have hNI : (N : Int) ≤ 40 := by omega
    have hpgs : ∀ w' c, CyAt W C L N 0 0 0 B b gg (bitW us) c w' → Calls Try.prog 23 #[.pointer (some ⟨L, 0, none⟩)] w' (RetK w' (.int .i64 P)) := fun w' c h => by
      have := lay_Pages L N 0 0 0 hN2 (by decide) (by decide) (by decide) w' h.cy.lay
      have e : (sumN N 0 0 0 + 7) / 8 = P := hP
      rw [e] at this
      exact this
    unfold RetK at hpgs
    generalize cBeg N ra 0 (mkNew 0 0) 0 rs ks = c0 at *
    have hmk := run_make_row' (P := Try.prog) 34 4 (.bool false) 1 Try.underlying34 infoBool rfl .i64 .i64 N (by omega) (by omega)
    obtain ⟨g, hg⟩ : ∃ g, g = w6.heap.size := ⟨_, rfl⟩
    have hq0 := Qs.start (w0 := w6) (k := N) (by omega)
    rw [← hg] at hq0
    have huW := hat.up
    have Hhat := Lib.hid hat; clear hat
    have Hhpot := Lib.hid hpot; clear hpot
    have Hhcol := Lib.hid hcol; clear hcol
    have Hhpgs := Lib.hid hpgs; clear hpgs
    have HhP := Lib.hid hP; clear hP
    have Hhq0 := Lib.hid hq0; clear hq0
    have HhuW := Lib.hid huW; clear huW
    clear hM6 hbz hgz hu6 Hhcy5 Hu05 Hhof Hhbd
    go_upto_block 0 with fail
    rw [← hg]
    have Hhg := Lib.hid hg
    clear hg
    generalize w6.alloc (Obj.cells (madeCells #[Value.bool false] N) 4) = W7 at *
    go_cut [94] (fun i wx => ∃ D, Qs w6 g (g + 1) N D [] (.slice none 0 0) wx ∧ ∀ i, i < N → (D i = true ↔ (i : Int) ∈ ks))
    case first =>
      go_wp2_with fail
      go_loopw [94] (fun i wr => ∃ (j : Nat) (D : Nat → Bool), i = .int .i64 j ∧ j ≤ ks.length ∧ Qs w6 g (g + 1) N D [] (.slice none 0 0) wr ∧ ∀ i, i < N → (D i = true ↔ (i : Int) ∈ ks.take j)) (fun i _ => (ks.length - intOf i).toNat)
      case atStart => exact ⟨0, _, rfl, Nat.zero_le _, Hhq0.out, fun i _ => by simp⟩
      case round =>
        obtain ⟨j, D, rfl, hj, hqs, hD⟩ := hrel
        clear Hhq0
        by_cases hjl : j = ks.length
        · have e1 : ¬ ((j : Int) < ks.length) := by omega
          rw [hjl, List.take_length] at hD
          have Hhqs := Lib.hid hqs; clear hqs
          have HhD := Lib.hid hD; clear hD
          clear hjl
          go_wp2_with fail
          go_meet
          exact ⟨D, Hhqs.out, HhD.out⟩
        · have e1 : (j : Int) < ks.length := by omega
          have hj2 : j < ks.length := by omega
          obtain ⟨b0, off, hix, hcb⟩ := int_at HhksM.out hj2
          have hcell := hcb wr (hqs.inW HhuW.out).none
          have htk : ks.take (j + 1) = ks.take j ++ [ks.getD j 0] := by
            rw [List.take_succ_eq_append_getElem hj2]
            simp [List.getD, hj2]
          generalize ks.getD j 0 = x at *
          have key : (x < 0 ∨ (0 ≤ x ∧ (N : Int) ≤ x)) ∨ (∃ q : Nat, x = q ∧ q < N) := by
            by_cases h0 : x < 0
            · exact Or.inl (Or.inl h0)
            · by_cases h1 : (N : Int) ≤ x
              · exact Or.inl (Or.inr ⟨by omega, h1⟩)
              · exact Or.inr ⟨x.toNat, by omega, by omega⟩
          rcases key with key | ⟨q, hbq, hqk⟩
          · have hD2 : ∀ i, i < N → (D i = true ↔ (i : Int) ∈ ks.take (j + 1)) := fun i hi => by
              rw [htk, hD i hi]
              have : ¬ (i : Int) = x := by omega
              simp [this]
            have Hhqs := Lib.hid hqs; clear hqs
            have HhD2 := Lib.hid hD2; clear hD2
            clear hD htk hcb hjl
            rcases key with c1 | ⟨c1, c2⟩
            · have c3 : decide (0 ≤ x) = false := by simp; omega
              go_wp2_with fail
              go_roundw
              case rel => exact ⟨j + 1, D, by go_num, by omega, Hhqs.out, HhD2.out⟩
              case measure => simp [intOf]; omega
            · have c3 : ¬ (x < (N : Int)) := by omega
              go_wp2_with fail
              go_roundw
              case rel => exact ⟨j + 1, D, by go_num, by omega, Hhqs.out, HhD2.out⟩
              case measure => simp [intOf]; omega
          · subst hbq
            have hqI : (q : Int) < N := by omega
            obtain ⟨hcl, hfz⟩ := hqs.cell hqk
            have hD2 : ∀ i, i < N → (setF D (q : Int) true i = true ↔ (i : Int) ∈ ks.take (j + 1)) := fun i hi => by
              rw [htk, setF_at]
              by_cases e : i = q
              · subst e; simp
              · rw [if_neg (by omega), hD i hi]
                have : ¬ (i : Int) = (q : Int) := by omega
                simp [this]
            have hq2 := hqs.set q
            have Hhqs := Lib.hid hqs; clear hqs
            have HhD2 := Lib.hid hD2; clear hD2
            have Hhq2 := Lib.hid hq2; clear hq2
            clear hD htk hcb hjl
            go_wp2_with fail
            go_roundw
            case rel => exact ⟨j + 1, _, by go_num, by omega, Hhq2.out, HhD2.out⟩
            case measure => simp [intOf]; omega
    case rest =>
      obtain ⟨D, hqs, hD⟩ := hcut
      clear Hhq0
      have hcol0 := Hhcol.out D hD
      have hb2 : B2 N (refsOf tt) rs D D [] 0 := ⟨Bfs.new N (refsOf tt) rs D, fun p hp => absurd hp (Nat.not_lt_zero _)⟩
      clear HhksM Hhcol hD
      have Hhqs := Lib.hid hqs; clear hqs
      have Hhcol0 := Lib.hid hcol0; clear hcol0
      have Hhb2 := Lib.hid hb2; clear hb2
      go_upto_block 2 with fail
      go_cut [23, 111] (fun r i wx => ∃ (In : Nat → Bool) (row : List Int) (ra1 : Option Addr) (rc1 : Nat), r = .slice ra1 row.length rc1 ∧ Qs w6 g (g + 1) N In row r wx ∧ B2 N (refsOf tt) rs D In row rs.length)
      case first =>
        go_wp2_with fail
        go_loopw [23, 111] (fun r i wr => ∃ (j : Nat) (In : Nat → Bool) (row : List Int) (ra1 : Option Addr) (rc1 : Nat), i = .int .i64 j ∧ r = .slice ra1 row.length rc1 ∧ j ≤ rs.length ∧ Qs w6 g (g + 1) N In row (.slice ra1 row.length rc1) wr ∧ B2 N (refsOf tt) rs D In row j) (fun _ i _ => (rs.length - intOf i).toNat)
        case atStart => exact ⟨0, D, [], none, 0, rfl, rfl, Nat.zero_le _, Hhqs.out, Hhb2.out⟩
        case round =>
          obtain ⟨j, In, row, ra1, rc1, rfl, rfl, hj, hqs, hb2⟩ := hrel
          clear Hhqs Hhb2
          by_cases hjl : j = rs.length
          · have e1 : ¬ ((j : Int) < rs.length) := by omega
            rw [hjl] at hb2
            have Hhqs := Lib.hid hqs; clear hqs
            have Hhb2 := Lib.hid hb2; clear hb2
            clear hjl
            go_wp2_with fail
            go_meet
            exact ⟨In, row, ra1, rc1, rfl, Hhqs.out, Hhb2.out⟩
          · have e1 : (j : Int) < rs.length := by omega
            have hj2 : j < rs.length := by omega
            obtain ⟨b0, off, hix, hcb⟩ := int_at HhrsM.out hj2
            have hcell := hcb wr (hqs.inW HhuW.out).none
            obtain ⟨x, hx⟩ : ∃ x, rs.getD j 0 = x := ⟨_, rfl⟩
            have hnx := hb2.next hj2 hx
            have hrl := bfs_few hb2.bfs
            have hl3 : row.length ≤ 1099511627776 := by omega
            rw [hx] at hcell
            clear hx hcb hjl hb2
            have key : (x < 0 ∨ (0 ≤ x ∧ (N : Int) ≤ x)) ∨ (∃ q : Nat, x = q ∧ q < N) := by
              by_cases h0 : x < 0
              · exact Or.inl (Or.inl h0)
              · by_cases h1 : (N : Int) ≤ x
                · exact Or.inl (Or.inr ⟨by omega, h1⟩)
                · exact Or.inr ⟨x.toNat, by omega, by omega⟩
            rcases key with key | ⟨q, hbq, hqk⟩
            · have hno : putOk N In x = false := by unfold putOk; rw [decide_eq_false (by omega)]; rfl
              obtain ⟨p1, p2⟩ := hqs.skip hno
              rw [p1, p2] at hnx
              have Hhqs := Lib.hid hqs; clear hqs
              have Hhnx := Lib.hid hnx; clear hnx
              clear hno p1 p2
              rcases key with c1 | ⟨c1, c2⟩
              · have c3 : decide (0 ≤ x) = false := by simp; omega
                go_wp2_with fail
                go_roundw
                case rel => exact ⟨j + 1, In, row, ra1, rc1, by go_num, rfl, by omega, Hhqs.out, Hhnx.out⟩
                case measure => simp [intOf]; omega
              · have c3 : ¬ (x < (N : Int)) := by omega
                go_wp2_with fail
                go_roundw
                case rel => exact ⟨j + 1, In, row, ra1, rc1, by go_num, rfl, by omega, Hhqs.out, Hhnx.out⟩
                case measure => simp [intOf]; omega
            · subst hbq
              have hqI : (q : Int) < N := by omega
              obtain ⟨hcl, hfz⟩ := hqs.cell hqk
              cases hin : In q
              · rw [hin] at hcl
                obtain ⟨hoS, hbs, hcn⟩ := hqs.facts q
                have Hhqs := Lib.hid hqs; clear hqs
                have Hhnx := Lib.hid hnx; clear hnx
                have Hhin := Lib.hid hin; clear hin
                have HhoS := Lib.hid hoS; clear hoS
                have Hhbs := Lib.hid hbs; clear hbs
                have Hhcn := Lib.hid hcn; clear hcn
                skip
                go_wp2_with (at_builtin; refine wpList_pushL rfl _ _ 37 3 rfl (.int .i64 0) 8 Try.underlying37 infoIntM rfl (g + 1) _ _ _ rfl (HhoS.out.alloc _) wr.heap.size 1 (.int .i64 q) rfl Hhcn.out rfl hl3 (by decide) (Hhbs.out _) ?_; intro g4 c4 w4 ho4 hg4 hl4; have Hq4 := Lib.hid (Qs.put Hhqs.out hqk Hhin.out rfl ho4 hg4); clear ho4 hg4 hl4)
                go_roundw
                case rel => exact ⟨j + 1, putF N In q, row ++ [(q : Int)], some ⟨g4, 0, none⟩, c4, by go_num, by rw [List.length_append]; rfl, by omega, by have h := Hq4.out; rw [putL_new hqk Hhin.out] at h; rw [List.length_append]; exact h, by have h := Hhnx.out; rw [putL_new hqk Hhin.out] at h; exact h⟩
                case measure => simp [intOf]; omega
              · rw [hin] at hcl
                have hno : putOk N In (q : Int) = false := by unfold putOk; rw [Int.toNat_natCast, hin]; simp
                obtain ⟨p1, p2⟩ := hqs.skip hno
                rw [p1, p2] at hnx
                have Hhqs := Lib.hid hqs; clear hqs
                have Hhnx := Lib.hid hnx; clear hnx
                clear hno p1 p2 hin
                go_wp2_with fail
                go_roundw
                case rel => exact ⟨j + 1, In, row, ra1, rc1, by go_num, rfl, by omega, Hhqs.out, Hhnx.out⟩
                case measure => simp [intOf]; omega
      case rest =>
        obtain ⟨In, row, ra1, rc1, rfl, hqs, hb2⟩ := hcut
        have hb3 := hb2.b3
        clear Hhqs Hhb2 HhrsM hb2
        have Hhqs := Lib.hid hqs; clear hqs
        have Hhb3 := Lib.hid hb3; clear hb3
        go_upto_block 4 with fail
        go_cut [23, 26] (fun r i wx => ∃ (In : Nat → Bool) (row : List Int) (ra1 : Option Addr) (rc1 : Nat), r = .slice ra1 row.length rc1 ∧ Qs w6 g (g + 1) N In row r wx ∧ B3 N (refsOf tt) rs D In row row.length)
        case first =>
          go_wp2_with fail
          go_loopw [23, 26] (fun r i wr => ∃ (p : Nat) (In : Nat → Bool) (row : List Int) (ra1 : Option Addr) (rc1 : Nat), i = .int .i64 p ∧ r = .slice ra1 row.length rc1 ∧ Qs w6 g (g + 1) N In row (.slice ra1 row.length rc1) wr ∧ B3 N (refsOf tt) rs D In row p) (fun _ i _ => (N - intOf i).toNat)
          case atStart => exact ⟨0, In, row, ra1, rc1, rfl, rfl, Hhqs.out, Hhb3.out⟩
          case round =>
            clear ra1 rc1 Hhqs Hhb3
            obtain ⟨p, In, row, ra1, rc1, rfl, rfl, hqs, hb3⟩ := hrel
            have hrl := bfs_few hb3.bfs
            have hpl := hb3.le
            by_cases hpr : p = row.length
            · have e1 : ¬ ((p : Int) < row.length) := by omega
              rw [hpr] at hb3
              have Hhqs := Lib.hid hqs; clear hqs
              have Hhb3 := Lib.hid hb3; clear hb3
              clear hpr hpl hrl
              go_wp2_with fail
              go_meet
              exact ⟨In, row, ra1, rc1, rfl, Hhqs.out, Hhb3.out⟩
            · have e1 : (p : Int) < row.length := by omega
              have hpr2 : p < row.length := by omega
              obtain ⟨gr, hix, -, -, hcell0, -, -⟩ := ownsRow_index hqs.own (P := Try.prog) Try.underlying37 (by kernel_rfl) (by kernel_rfl) hpr2
              obtain ⟨r, hrp⟩ : ∃ r, row.getD p 0 = r := ⟨_, rfl⟩
              have hcell : wr.cell? ⟨gr, p, none⟩ = some (.int .i64 r) := by
                rw [hcell0, ← hrp]
                simp [ints, List.getD, hpr2]
              have hp70 : (p : Int) < 70 := by omega
              have hb4 := hb3.into hpr2 hrp
              have Hhqs := Lib.hid hqs; clear hqs
              have Hhb4 := Lib.hid hb4; clear hb4
              clear hpr hcell0 hrp hb3
              have hR := Lib.hid (refs_held2 (wr := wr) (g := gr) (p := p) (r := r) ta tt.length tc)
              have hR1 := Lib.hid (refs1_held2 (wr := wr) (g := gr) (p := p) (r := r) (fun w' u => HhM.out.upd ((Hhqs.out.inW HhuW.out).trans u).none) Hhlb.out)
              have hu0 := Upd.refl (fun _ => False) wr
              go_wp2_with fail
              refine wp_hide (fun Q' hQ' => ?_)
              go_region_held3 (fun w' => Upd (fun _ => False) wr w' ∧ w'.cell? ⟨gr, p, none⟩ = some (.int .i64 r))
                (((try go_split_ands); exact ⟨by first | assumption | exact Upd.drew (by assumption), by assumption⟩))
                (((try go_split_ands); first
                  | (go_at_call 34; refine (hR.out _ (by assumption) (by assumption)).mono ?_; rintro e w2 ⟨bx, rfl, hc2, hu2, hcb2⟩)
                  | (go_at_call 61; refine (hR1.out _ _ (by assumption) (by assumption) (by assumption)).mono ?_; rintro e w3 ⟨va, vc, rfl, ho3, hu23, hu3, hcb3⟩)))
              rw [hQ'.out]
              have hqs3 := Hhqs.out.still hu3
              have hrs := Rs.of (Hhqs.out.still hu2) hu23 ho3
              have hrI : ((refsOf tt r).length : Int) ≤ 1000 := by have := refs_len Hhlb.out r; omega
              clear hQ' hR hR1 hu0 hc2 hu2 hcb2 ho3 hu23 hu3 hcb3 hcell hix Hhqs
              have Hhqs3 := Lib.hid hqs3; clear hqs3
              have Hhrs := Lib.hid hrs; clear hrs
              go_wp2_with fail
              obtain ⟨wo, hwo⟩ : ∃ wo : World, wo = wr := ⟨_, rfl⟩
              subst hwo
              obtain ⟨bs, hbs0⟩ : ∃ bs : Nat, bs = w2.heap.size := ⟨_, rfl⟩
              rw [← hbs0] at Hhrs
              clear hbs0
              go_loopw [23, 151] (fun s i wq => ∃ (z : Nat) (In : Nat → Bool) (row : List Int) (ra1 : Option Addr) (rc1 : Nat), i = .int .i64 z ∧ s = .slice ra1 row.length rc1 ∧ z ≤ (refsOf tt r).length ∧ Qs w6 g (g + 1) N In row (.slice ra1 row.length rc1) wq ∧ B4 N (refsOf tt) rs D In row p z r ∧ Rs g (.slice ra1 row.length rc1) bs (.slice va (refsOf tt r).length vc) (refsOf tt r) wq) (fun _ i _ => ((refsOf tt r).length - intOf i).toNat)
              case atStart => exact ⟨0, In, row, ra1, rc1, rfl, rfl, Nat.zero_le _, Hhqs3.out, Hhb4.out, Hhrs.out⟩
              case round =>
                clear Hhqs3 Hhb4 Hhrs
                clear hrl hpl e1 hpr2
                obtain ⟨z, In, row, ra1, rc1, rfl, rfl, hz, hqs, hb4, hrs⟩ := hrel
                have hrl2 := bfs_few hb4.bfs
                have hlt2 := hb4.lt
                by_cases hzl : z = (refsOf tt r).length
                · have e2 : ¬ ((z : Int) < (refsOf tt r).length) := by omega
                  rw [hzl] at hb4
                  have hb3 := hb4.out
                  have Hhqs := Lib.hid hqs; clear hqs
                  have Hhb3 := Lib.hid hb3; clear hb3
                  clear hzl hrs hb4
                  go_wp2_with fail
                  go_roundw
                  case rel => exact ⟨p + 1, In, row, ra1, rc1, by go_num, rfl, Hhqs.out, Hhb3.out⟩
                  case measure => simp [intOf]; omega
                · have e2 : (z : Int) < (refsOf tt r).length := by omega
                  have hz3 : z < (refsOf tt r).length := by omega
                  obtain ⟨g2, hix2, -, -, hcell2, -, -⟩ := ownsRow_index hrs.rs (P := Try.prog) Try.underlying37 (by kernel_rfl) (by kernel_rfl) hz3
                  obtain ⟨x, hx⟩ : ∃ x, (refsOf tt r).getD z 0 = x := ⟨_, rfl⟩
                  have hcell : wr.cell? ⟨g2, z, none⟩ = some (.int .i64 x) := by
                    rw [hcell2, ← hx]
                    simp [ints, List.getD, hz3]
                  have hnx := hb4.next hz3 hx
                  have hl3 : row.length ≤ 1099511627776 := by omega
                  clear hzl hcell2 hx hb4
                  have key : (x < 0 ∨ (0 ≤ x ∧ (N : Int) ≤ x)) ∨ (∃ q : Nat, x = q ∧ q < N) := by
                    by_cases h0 : x < 0
                    · exact Or.inl (Or.inl h0)
                    · by_cases h1 : (N : Int) ≤ x
                      · exact Or.inl (Or.inr ⟨by omega, h1⟩)
                      · exact Or.inr ⟨x.toNat, by omega, by omega⟩
                  rcases key with key | ⟨q, hbq, hqk⟩
                  · have hno : putOk N In x = false := by unfold putOk; rw [decide_eq_false (by omega)]; rfl
                    obtain ⟨p1, p2⟩ := hqs.skip hno
                    rw [p1, p2] at hnx
                    have Hhqs := Lib.hid hqs; clear hqs
                    have Hhnx := Lib.hid hnx; clear hnx
                    have Hhrs := Lib.hid hrs; clear hrs
                    clear hno p1 p2
                    rcases key with c1 | ⟨c1, c2⟩
                    · have c3 : decide (0 ≤ x) = false := by simp; omega
                      go_wp2_with fail
                      go_roundw
                      case rel => exact ⟨z + 1, In, row, ra1, rc1, by go_num, rfl, by omega, Hhqs.out, Hhnx.out, Hhrs.out⟩
                      case measure => simp [intOf]; omega
                    · have c3 : ¬ (x < (N : Int)) := by omega
                      go_wp2_with fail
                      go_roundw
                      case rel => exact ⟨z + 1, In, row, ra1, rc1, by go_num, rfl, by omega, Hhqs.out, Hhnx.out, Hhrs.out⟩
                      case measure => simp [intOf]; omega
                  · subst hbq
                    have hqI : (q : Int) < N := by omega
                    obtain ⟨hcl, hfz⟩ := hqs.cell hqk
                    cases hin : In q
                    · rw [hin] at hcl
                      obtain ⟨hoS, hbs, hcn⟩ := hqs.facts q
                      have Hhqs := Lib.hid hqs; clear hqs
                      have Hhnx := Lib.hid hnx; clear hnx
                      have Hhin := Lib.hid hin; clear hin
                      have HhoS := Lib.hid hoS; clear hoS
                      have Hhbs := Lib.hid hbs; clear hbs
                      have Hhcn := Lib.hid hcn; clear hcn
                      have Hhrs := Lib.hid hrs; clear hrs
                      skip
                      go_wp2_with (at_builtin; refine wpList_pushL rfl _ _ 37 3 rfl (.int .i64 0) 8 Try.underlying37 infoIntM rfl (g + 1) _ _ _ rfl (HhoS.out.alloc _) wr.heap.size 1 (.int .i64 q) rfl Hhcn.out rfl hl3 (by decide) (Hhbs.out _) ?_; intro g4 c4 w4 ho4 hg4 hl4; have Hq4 := Lib.hid (Qs.put Hhqs.out hqk Hhin.out rfl ho4 hg4); have Hr4 := Lib.hid (Rs.put (n' := row.length + 1) (c' := c4) Hhrs.out rfl hg4 hl4); clear ho4 hg4 hl4)
                      go_roundw
                      case rel => exact ⟨z + 1, putF N In q, row ++ [(q : Int)], some ⟨g4, 0, none⟩, c4, by go_num, by rw [List.length_append]; rfl, by omega, by have h := Hq4.out; rw [putL_new hqk Hhin.out] at h; rw [List.length_append]; exact h, by have h := Hhnx.out; rw [putL_new hqk Hhin.out] at h; exact h, by rw [List.length_append]; exact Hr4.out⟩
                      case measure => simp [intOf]; omega
                    · rw [hin] at hcl
                      have hno : putOk N In (q : Int) = false := by unfold putOk; rw [Int.toNat_natCast, hin]; simp
                      obtain ⟨p1, p2⟩ := hqs.skip hno
                      rw [p1, p2] at hnx
                      have Hhqs := Lib.hid hqs; clear hqs
                      have Hhnx := Lib.hid hnx; clear hnx
                      have Hhrs := Lib.hid hrs; clear hrs
                      clear hno p1 p2 hin
                      go_wp2_with fail
                      go_roundw
                      case rel => exact ⟨z + 1, In, row, ra1, rc1, by go_num, rfl, by omega, Hhqs.out, Hhnx.out, Hhrs.out⟩
                      case measure => simp [intOf]; omega
        case rest =>
          clear ra1 rc1 Hhqs Hhb3
          obtain ⟨In, row, ra1, rc1, rfl, hqs, hb3⟩ := hcut
          have hall := hb3.bfs.all hb3.seen hb3.root
          have h5 := R5.start Hhat.out hqs
          obtain ⟨H, hH⟩ : ∃ H, H = wc.heap.size := ⟨_, rfl⟩
          rw [← hH] at h5
          have hends := fun c gone weak (h : Col N P (refsOf tt) rs D ws (bitI N (bitW us)) c gone weak) e => h.ends e hall
          have hnx := fun c gone weak (h : Col N P (refsOf tt) rs D ws (bitI N (bitW us)) c gone weak) (hp : c.ph ≠ 0) => h.step HhP.out hp
          clear hqs hb3 hall hH
          have Hh5 := Lib.hid h5; clear h5
          have Hhends := Lib.hid hends; clear hends
          have Hhnx := Lib.hid hnx; clear hnx
          go_upto_block 8 with fail
          go_cut [29, 30, 31] (fun v1 v2 s wx => ∃ (c : Cy) (gone weak : List Int) (g1a w1a : Option Addr) (g1c w1c : Nat), v1 = .slice g1a gone.length g1c ∧ v2 = .slice w1a weak.length w1c ∧ R5 W C L N B b gg (bitW us) g N In H c gone weak (.slice g1a gone.length g1c) (.slice w1a weak.length w1c) wx ∧ Col N P (refsOf tt) rs D ws (bitI N (bitW us)) c gone weak ∧ c.ph = 0)
          case first =>
            go_wp2_with fail
            go_loopw [29, 30, 31] (fun v1 v2 s wr => ∃ (q : Nat) (c : Cy) (gone weak : List Int) (g1a w1a : Option Addr) (g1c w1c : Nat), s = .int .i64 q ∧ v1 = .slice g1a gone.length g1c ∧ v2 = .slice w1a weak.length w1c ∧ q + c.pot P ≤ 2 * N + P + 3 ∧ R5 W C L N B b gg (bitW us) g N In H c gone weak (.slice g1a gone.length g1c) (.slice w1a weak.length w1c) wr ∧ Col N P (refsOf tt) rs D ws (bitI N (bitW us)) c gone weak) (fun _ _ s _ => (2 * N + P + 4 - intOf s).toNat)
            case atStart => exact ⟨0, c0, [], [], none, none, 0, 0, rfl, rfl, rfl, by have := Hhpot.out; omega, Hh5.out, Hhcol0.out⟩
            case round =>
              obtain ⟨q, c, gone, weak, g1a, w1a, g1c, w1c, rfl, rfl, rfl, hq, hr, hcol⟩ := hrel
              clear Hh5 Hhpot Hhcol0
              have hph := cyc_Phase hr.cy.cy
              by_cases e0 : c.ph = 0
              · rw [e0] at hph
                replace hph : Calls Try.prog 35 #[.pointer (some ⟨C, 0, none⟩)] wr (Same wr (.int .i64 0)) := hph
                have Hhph := Lib.hid hph; clear hph
                have Hhr := Lib.hid hr; clear hr
                have Hhcol := Lib.hid hcol; clear hcol
                have Hhq := Lib.hid hq; clear hq
                have He0 := Lib.hid e0; clear e0
                go_wp2_with (go_at_call 35; (with_reducible refine Hhph.out.mono ?_); rintro e w9 ⟨rfl, rfl⟩)
                go_meet
                exact ⟨c, gone, weak, g1a, w1a, g1c, w1c, rfl, rfl, Hhr.out, Hhcol.out, He0.out⟩
              · have hp2 := hcol.run.pot (fun _ => hcol.ok) (refsOf tt) e0
                have hq2 : (q + 1) + (c.step (refsOf tt)).pot P ≤ 2 * N + P + 3 := by omega
                have hqI : (q : Int) ≤ 200 := by omega
                have hq3 : (q : Int) + 1 ≤ 2 * (N : Int) + P + 3 := by omega
                have hcol2 := Hhnx.out c gone weak hcol e0
                have hl3 := hcol.len
                have hlx := c.weaks_len ws
                have hly := c.blocks_len (bitI N (bitW us))
                have hxg : (c.weaks ws).length = 0 ∨ gone.length = 0 := by
                  by_cases h2 : c.ph = 2
                  · right
                    have := hcol.gone
                    rw [h2] at this
                    rw [this]
                    rfl
                  · left
                    unfold Cy.weaks
                    rw [if_neg h2]
                    rfl
                have hrf := fun w => law_refs ta tt.length tc w
                unfold RefsPost at hrf
                have hst := fun w2 bx hc hb u2 => en_Step (w2 := w2) (bx := bx) hr.cy hcol.n (by have := hcol.run.pg; omega) HhM.out Hhlb.out hc hb u2 HhwsM.out (by omega)
                have hpq := Hhpgs.out wr c hr.cy
                generalize c.blocks (bitI N (bitW us)) = ys at *
                generalize c.weaks ws = xs at *
                generalize c.step (refsOf tt) = d at *
                have hlen1 : weak.length + xs.length ≤ 1099511627776 := by omega
                have hlen2 : gone.length + ys.length ≤ 1099511627776 := by omega
                have hlI1 : (xs.length : Int) ≤ 100 := by omega
                have hlI2 : (gone.length : Int) ≤ 200 := by omega
                have e1' : ((c.ph : Int) == 0) = false := by simp; omega
                generalize (c.ph : Int) = pI at *
                have Hhph := Lib.hid hph; clear hph
                have Hhr := Lib.hid hr; clear hr
                have Hhcol := Lib.hid hcol; clear hcol
                have Hhq2 := Lib.hid hq2; clear hq2
                have Hhrf := Lib.hid hrf; clear hrf
                have Hhst := Lib.hid hst; clear hst
                have Hhcol2 := Lib.hid hcol2; clear hcol2
                have Hhpq := Lib.hid hpq; clear hpq
                clear hp2 hq e0 hlx hly hl3
                have hxg2 : (¬ ((0 : Int) < xs.length)) ∨ ((0 : Int) < xs.length ∧ ¬ ((0 : Int) < gone.length)) := by omega
                clear hxg
                rcases hxg2 with hx0 | ⟨hx0, hg0⟩
                all_goals
                  go_wp2_with (first | (go_at_call 35; (with_reducible refine Hhph.out.mono ?_); rintro e w9 ⟨rfl, rfl⟩) | (go_at_call 23; (with_reducible refine Hhpq.out.mono ?_); rintro e w8 ⟨rfl, u8⟩; have hrf8 := Hhrf.out w8; have Hu8 := Lib.hid u8; clear u8))
                  refine hrf8.mono ?_
                  rintro e w10 ⟨bx, rfl, hc5, hbx5, hbx5', hu5⟩
                  have hs := Hhst.out w10 bx hc5 (Nat.le_trans Hu8.out.size hbx5) (Hu8.out.trans hu5)
                  unfold EnStep at hs
                  have hr10 := Hhr.out.still (Hu8.out.trans hu5)
                  have Hhs := Lib.hid hs; clear hs
                  have Hhr10 := Lib.hid hr10; clear hr10
                  clear hc5 hbx5 hbx5' hu5 hrf8
                  go_wp2_with fail
                  refine Hhs.out.mono ?_
                  rintro e w11 ⟨a1, c1, a2, c2, rfl, ho1, ho2, hat11, hu11⟩
                  have hr11 := Hhr10.out.step hat11 hu11
                  have kb : Blk (w11.alloc (.cells #[.slice a1 xs.length c1, .slice a2 ys.length c2] 60)) w11.heap.size [.slice a1 xs.length c1, .slice a2 ys.length c2] 60 := Blk.new _ _ _
                  have hu12 : Upd (fun _ => False) w11 (w11.alloc (.cells #[.slice a1 xs.length c1, .slice a2 ys.length c2] 60)) := (Upd.refl _ _).alloc _
                  have hr12 := hr11.still hu12
                  have hI1 : IntsR (w11.alloc (.cells #[.slice a1 xs.length c1, .slice a2 ys.length c2] 60)) (.slice a1 xs.length c1) .i64 xs := ownsRow_intsR (ownsRow_upd ho1 hu12 (fun _ _ x => x))
                  have ho12 := ownsRow_upd ho2 hu12 (fun _ _ x => x)
                  have hown12 := hr12.own
                  have hnew : ∀ j, (Value.slice w1a weak.length w1c).ownBlock = some j → j < w10.heap.size := fun j hj => (Hhr10.out.own.2.lt j hj).2
                  have hz1011 := hu11.size
                  have z0 := kb.cell 0 rfl
                  have z1 := kb.cell 1 rfl
                  have hz1b : ∀ w13, Upd (fun j => (Value.slice w1a weak.length w1c).ownBlock = some j) (w11.alloc (.cells #[.slice a1 xs.length c1, .slice a2 ys.length c2] 60)) w13 → w13.cell? ⟨w11.heap.size, 1, none⟩ = some (.slice a2 ys.length c2) := fun w13 u => by
                    have h1 : ¬ (Value.slice w1a weak.length w1c).ownBlock = some w11.heap.size := fun e => by
                      have := hnew _ e
                      omega
                    exact (kb.upd u h1).cell 1 rfl
                  have Hhr12 := Lib.hid hr12; clear hr12
                  have HhI1 := Lib.hid hI1; clear hI1
                  have Hho12 := Lib.hid ho12; clear ho12
                  have Hhown12 := Lib.hid hown12; clear hown12
                  have Hhnew := Lib.hid hnew; clear hnew
                  have Hhz1b := Lib.hid hz1b; clear hz1b
                  have Hkb := Lib.hid kb; clear kb
                  have Hhz1011 := Lib.hid hz1011; clear hz1011
                  clear hat11 hu11 hr11 ho1 ho2 Hhs Hhrf Hhst Hhr10 hu12
                  go_wp2_with (first
                    | (at_builtin; refine wpList_appendLie rfl _ _ 37 3 rfl (.int .i64 0) 8 Try.underlying37 infoIntM rfl H _ _ _ rfl Hhown12.out.2 a1 xs.length c1 .i64 xs rfl rfl HhI1.out hlen1 (by decide) Hhr12.out.size ?_; intro a5 c5 w13 ho5 hg5 hl5; have Hr13 := Lib.hid (R5.appW Hhr12.out ho5 hg5 hl5); have hu13 : Upd (fun j => (Value.slice w1a weak.length w1c).ownBlock = some j) (w11.alloc (.cells #[.slice a1 xs.length c1, .slice a2 ys.length c2] 60)) w13 := (Upd.refl _ _).grown hg5 (fun j e _ => e); have z1b := Hhz1b.out w13 hu13; have HI2 := Lib.hid (ownsRow_intsR (ownsRow_own Hho12.out hu13 (fun j hj e => by have := (Hho12.out.lt j hj).1; have := Hhnew.out _ e; omega))); have Hown13 := Lib.hid Hr13.out.own; clear ho5 hg5 hl5 hu13)
                    | (at_builtin; refine wpList_appendLie rfl _ _ 37 3 rfl (.int .i64 0) 8 Try.underlying37 infoIntM rfl H _ _ _ rfl Hown13.out.1 a2 ys.length c2 .i64 ys rfl rfl HI2.out hlen2 (by decide) Hr13.out.size ?_; intro a6 c6 w14 ho6 hg6 hl6; have Hr14 := Lib.hid (R5.appG Hr13.out ho6 hg6 hl6); clear ho6 hg6 hl6))
                  go_roundw
                  case rel => exact ⟨q + 1, d, gone ++ ys, weak ++ xs, a6, a5, c6, c5, by go_num, by rw [List.length_append], by rw [List.length_append], Hhq2.out, by rw [List.length_append, List.length_append]; exact Hr14.out, Hhcol2.out⟩
                  case measure => have := Hhq2.out; simp [intOf]; omega
          case rest =>
            obtain ⟨c, gone, weak, g1a, w1a, g1c, w1c, rfl, rfl, hr, hcol, e0⟩ := hcut
            clear Hh5 Hhpot Hhcol0
            obtain ⟨e1, e2⟩ := Hhends.out c gone weak hcol e0
            subst e1 e2
            have hcn := hcol.n
            have hmI : ∀ x : Nat, x < N → bitI N In (x : Int) = In x := fun x hx => by
              unfold bitI
              rw [Int.toNat_natCast, decide_eq_true (by omega)]
              rfl
            have hmO : ∀ x : Int, ¬ (0 ≤ x ∧ x < N) → bitI N In x = false := fun x hx => by
              unfold bitI
              rw [decide_eq_false hx]
              rfl
            have hgu := fun w' (h : R5 W C L N B b gg (bitW us) g N In H c (tk N (bitI N (bitW us)) (bitI N In) N) (weakL ws (bitI N In)) (.slice g1a (tk N (bitI N (bitW us)) (bitI N In) N).length g1c) (.slice w1a (weakL ws (bitI N In)).length w1c) w') (x : Int) => h.cy.gu w' (Upd.refl _ _) x
            rw [hcn] at hgu
            generalize bitI N (bitW us) = U at *
            generalize bitI N In = m at *
            have hlenT := tk_len N U m N
            have hTI : ((tk N U m N).length : Int) ≤ 200 := by omega
            have hlenW := weakTo_len ws m ws.length
            replace hlenW : (weakL ws m).length ≤ ws.length := hlenW
            have hWI : ((weakL ws m).length : Int) ≤ 200 := by omega
            clear e0 hcol hlenT hcn Hhends Hhnx
            have Hhr := Lib.hid hr; clear hr
            have HhmI := Lib.hid hmI; clear hmI
            have HhmO := Lib.hid hmO; clear hmO
            have Hhgu := Lib.hid hgu; clear hgu
            go_upto_block 10 with fail
            go_cut [33] (fun s wx => s = .int .i64 (tk N U m N).length ∧ R5 W C L N B b gg (bitW us) g N In H c (tk N U m N) (weakL ws m) (.slice g1a (tk N U m N).length g1c) (.slice w1a (weakL ws m).length w1c) wx)
            case first =>
              go_wp2_with fail
              go_loopw [33, 214] (fun s i wr => ∃ y : Nat, i = .int .i64 y ∧ y ≤ N ∧ s = .int .i64 (tk N U m y).length ∧ R5 W C L N B b gg (bitW us) g N In H c (tk N U m N) (weakL ws m) (.slice g1a (tk N U m N).length g1c) (.slice w1a (weakL ws m).length w1c) wr) (fun _ i _ => (N - intOf i).toNat)
              case atStart => exact ⟨0, rfl, Nat.zero_le _, rfl, Hhr.out⟩
              case round =>
                obtain ⟨y, rfl, hy, rfl, hr⟩ := hrel
                clear Hhr
                by_cases hyN : y = N
                · have e1 : ¬ ((y : Int) < N) := by omega
                  have Hhr := Lib.hid hr; clear hr
                  subst hyN
                  go_wp2_with fail
                  go_meet
                  exact ⟨rfl, Hhr.out⟩
                · have e1 : (y : Int) < N := by omega
                  have hyN2 : y < N := by omega
                  have hq := Hhgu.out wr hr (y : Int)
                  have hm := HhmI.out y hyN2
                  have hcl := hr.inB.cell y hyN2
                  have hst := tk_succ N U m y
                  have hat := tk_at N U m y hyN2
                  have hT : takeB N U m y = (U y && !m y) := by unfold takeB; rw [decide_eq_true hyN2, Bool.true_and]
                  rw [hT, hm] at hst hat
                  cases t2 : U (y : Int)
                  · rw [t2] at hq hst
                    rw [Bool.false_and, if_neg (by simp), List.append_nil] at hst
                    have Hhq := Lib.hid hq; clear hq
                    have Hhst := Lib.hid hst; clear hst
                    have Hhr := Lib.hid hr; clear hr
                    clear hyN hat hT hm
                    go_wp2_with (go_at_call 24; (with_reducible refine Hhq.out.mono ?_); rintro e w9 ⟨rfl, rfl⟩)
                    go_roundw
                    case rel => exact ⟨y + 1, by go_num, by omega, by rw [Hhst.out], Hhr.out⟩
                    case measure => simp [intOf]; omega
                  · rw [t2] at hq
                    cases t3 : In y
                    · rw [t3] at hcl
                      rw [t2, t3] at hst hat
                      rw [if_pos (by simp)] at hst
                      obtain ⟨k1, k2⟩ := hat rfl
                      obtain ⟨g2, hix2, -, -, hcell2, -, -⟩ := ownsRow_index hr.own.1 (P := Try.prog) Try.underlying37 (by kernel_rfl) (by kernel_rfl) k1
                      have hcell : wr.cell? ⟨g2, (tk N U m y).length, none⟩ = some (.int .i64 y) := by
                        rw [hcell2, ← k2]
                        simp [ints, List.getD, k1]
                      have k3 : (((tk N U m (y + 1)).length : Nat) : Int) = ((tk N U m y).length : Int) + 1 := by rw [hst]; simp
                      have e2 : ¬ ((tk N U m N).length ≤ (tk N U m y).length) := by omega
                      have e3 : ((tk N U m y).length : Int) < (tk N U m N).length := by omega
                      have hl4 := tk_len N U m y
                      have e4 : ((tk N U m y).length : Int) ≤ 200 := by omega
                      generalize (tk N U m y).length = qq at *
                      have Hhq := Lib.hid hq; clear hq
                      have Hhst := Lib.hid hst; clear hst
                      have Hk2 := Lib.hid k2; clear k2
                      have Hk3 := Lib.hid k3; clear k3
                      have Hhr := Lib.hid hr; clear hr
                      clear hyN hat hT hcell2 hl4 hm
                      go_wp2_with (go_at_call 24; (with_reducible refine Hhq.out.mono ?_); rintro e w9 ⟨rfl, rfl⟩)
                      go_roundw
                      case rel => exact ⟨y + 1, by go_num, by omega, by rw [Hk3.out], Hhr.out⟩
                      case measure => simp [intOf]; omega
                    · rw [t3] at hcl
                      rw [t2, t3] at hst
                      rw [if_neg (by simp), List.append_nil] at hst
                      have Hhq := Lib.hid hq; clear hq
                      have Hhst := Lib.hid hst; clear hst
                      have Hhr := Lib.hid hr; clear hr
                      clear hyN hat hT hm
                      go_wp2_with (go_at_call 24; (with_reducible refine Hhq.out.mono ?_); rintro e w9 ⟨rfl, rfl⟩)
                      go_roundw
                      case rel => exact ⟨y + 1, by go_num, by omega, by rw [Hhst.out], Hhr.out⟩
                      case measure => simp [intOf]; omega
            case rest =>
              obtain ⟨rfl, hr⟩ := hcut
              clear Hhr Hhgu
              have Hhr := Lib.hid hr; clear hr
              go_wp2_with fail
              go_loopw [35, 244] (fun s i wr => ∃ z : Nat, i = .int .i64 z ∧ z ≤ ws.length ∧ s = .int .i64 (weakTo ws m z).length ∧ R5 W C L N B b gg (bitW us) g N In H c (tk N U m N) (weakL ws m) (.slice g1a (tk N U m N).length g1c) (.slice w1a (weakL ws m).length w1c) wr) (fun _ i _ => (ws.length - intOf i).toNat)
              case atStart => exact ⟨0, rfl, Nat.zero_le _, rfl, Hhr.out⟩
              case round =>
                obtain ⟨z, rfl, hz, rfl, hr⟩ := hrel
                clear Hhr
                have hlz := weakTo_len ws m z
                by_cases hzl : z = ws.length
                · have e1 : ¬ ((z : Int) < ws.length) := by omega
                  subst hzl
                  rw [show weakTo ws m ws.length = weakL ws m from rfl]
                  have haw := awake21 W wr hr.cy.up
                  have Hhr := Lib.hid hr; clear hr
                  have Hhaw := Lib.hid haw; clear haw
                  go_wp2_with (go_at_call 30; (with_reducible refine Hhaw.out.mono ?_); rintro e w10 ⟨rfl, hu⟩)
                  go_ret
                  exact ⟨rfl, hu.none⟩
                · have e1 : (z : Int) < ws.length := by omega
                  have hz3 : z < ws.length := by omega
                  obtain ⟨b3, off3, hix3, hcc⟩ := int_at HhwsM.out hz3
                  have hcell := hcc wr hr.cy.up.none
                  have hst : weakTo ws m (z + 1) = weakTo ws m z ++ (if decide (0 ≤ ws.getD z 0) && !m (ws.getD z 0) then [(z : Int)] else []) := rfl
                  have hat := weak_at ws m z hz3
                  generalize ws.getD z 0 = x at *
                  have htake : (decide (0 ≤ x) && !m x) = true → ∃ g2, (∀ w', (Instr.indexAt 37 (.slice w1a (weakL ws m).length w1c) (.int .i64 ((weakTo ws m z).length : Int))).run Try.prog w' = .ok (.pointer (some ⟨g2, (weakTo ws m z).length, none⟩)) w') ∧ wr.cell? ⟨g2, (weakTo ws m z).length, none⟩ = some (.int .i64 z) ∧ (((weakTo ws m (z + 1)).length : Nat) : Int) = ((weakTo ws m z).length : Int) + 1 ∧ ((weakTo ws m z).length : Int) < (weakL ws m).length := fun ht => by
                    obtain ⟨k1, k2⟩ := hat ht
                    obtain ⟨g2, hix2, -, -, hcell2, -, -⟩ := ownsRow_index hr.own.2 (P := Try.prog) Try.underlying37 (by kernel_rfl) (by kernel_rfl) k1
                    refine ⟨g2, hix2, ?_, ?_, by omega⟩
                    · rw [hcell2, ← k2]
                      simp [ints, List.getD, k1]
                    · rw [hst, ht]
                      simp
                  have hskip : (decide (0 ≤ x) && !m x) = false → weakTo ws m (z + 1) = weakTo ws m z := fun ht => by
                    rw [hst, ht]
                    simp
                  clear hst hat
                  have key : x < 0 ∨ (0 ≤ x ∧ (N : Int) ≤ x) ∨ (∃ q : Nat, x = q ∧ q < N ∧ In q = true) ∨ (∃ q : Nat, x = q ∧ q < N ∧ In q = false) := by
                    by_cases h0 : x < 0
                    · exact Or.inl h0
                    · by_cases h1 : (N : Int) ≤ x
                      · exact Or.inr (Or.inl ⟨by omega, h1⟩)
                      · cases h2 : In x.toNat
                        · exact Or.inr (Or.inr (Or.inr ⟨x.toNat, by omega, by omega, h2⟩))
                        · exact Or.inr (Or.inr (Or.inl ⟨x.toNat, by omega, by omega, h2⟩))
                  rcases key with h0 | ⟨h0, h1⟩ | ⟨q, rfl, h1, h2⟩ | ⟨q, rfl, h1, h2⟩
                  · have hs := hskip (by rw [decide_eq_false (by omega)]; rfl)
                    have Hhr := Lib.hid hr; clear hr
                    have Hhs := Lib.hid hs; clear hs
                    clear htake hskip hcc hlz hzl
                    go_wp2_with fail
                    go_roundw
                    case rel => exact ⟨z + 1, by go_num, by omega, by rw [Hhs.out], Hhr.out⟩
                    case measure => simp [intOf]; omega
                  · obtain ⟨g2, hix2, hcell5, k3, e3⟩ := htake (by rw [decide_eq_true h0, HhmO.out x (by omega)]; rfl)
                    have e5 : ¬ ((weakL ws m).length ≤ (weakTo ws m z).length) := by omega
                    have e4 : ((weakTo ws m z).length : Int) ≤ 200 := by omega
                    generalize (weakTo ws m z).length = qq at *
                    have Hhr := Lib.hid hr; clear hr
                    have Hk3 := Lib.hid k3; clear k3
                    clear htake hskip hcc hlz hzl
                    go_wp2_with fail
                    go_roundw
                    case rel => exact ⟨z + 1, by go_num, by omega, by rw [Hk3.out], Hhr.out⟩
                    case measure => simp [intOf]; omega
                  · have hs := hskip (by rw [HhmI.out q h1, h2]; simp)
                    have hcl := hr.inB.cell q h1
                    rw [h2] at hcl
                    have hqI : (q : Int) < N := by omega
                    have Hhr := Lib.hid hr; clear hr
                    have Hhs := Lib.hid hs; clear hs
                    clear htake hskip hcc hlz hzl h2
                    go_wp2_with fail
                    go_roundw
                    case rel => exact ⟨z + 1, by go_num, by omega, by rw [Hhs.out], Hhr.out⟩
                    case measure => simp [intOf]; omega
                  · obtain ⟨g2, hix2, hcell5, k3, e3⟩ := htake (by rw [HhmI.out q h1, h2, decide_eq_true (by omega)]; rfl)
                    have hcl := hr.inB.cell q h1
                    rw [h2] at hcl
                    have hqI : (q : Int) < N := by omega
                    have e5 : ¬ ((weakL ws m).length ≤ (weakTo ws m z).length) := by omega
                    have e4 : ((weakTo ws m z).length : Int) ≤ 200 := by omega
                    generalize (weakTo ws m z).length = qq at *
                    have Hhr := Lib.hid hr; clear hr
                    have Hk3 := Lib.hid k3; clear k3
                    clear htake hskip hcc hlz hzl h2
                    go_wp2_with fail
                    go_roundw
                    case rel => exact ⟨z + 1, by go_num, by omega, by rw [Hk3.out], Hhr.out⟩
                    case measure => simp [intOf]; omega
  · have haw := awake21 W W (Upd.refl _ _)
    cases hlt : lightM tt
    · rw [hlt] at hlight
      have Hhlight := Lib.hid hlight; clear hlight
      have Hhaw := Lib.hid haw; clear haw
      clear hM hgo hlt
      go_enter Try.func7, Try.ntmps7
      go_wp2_with (first | (go_at_call 29; (with_reducible refine Hhlight.out.mono ?_); rintro e w2 ⟨rfl, rfl⟩) | (go_at_call 30; (with_reducible refine Hhaw.out.mono ?_); rintro e w2 ⟨rfl, hu⟩))
      go_ret
      exact ⟨rfl, hu.none⟩
    · rw [hlt] at hlight hgo
      have key : ((20 : Int) < ws.length) ∨ (¬ ((20 : Int) < ws.length) ∧ (30 : Int) < rs.length) ∨ (¬ ((20 : Int) < ws.length) ∧ ¬ ((30 : Int) < rs.length) ∧ (30 : Int) < ks.length) := by
        have hgo2 : ¬ (ws.length ≤ 20 ∧ rs.length ≤ 30 ∧ ks.length ≤ 30) := fun h => hgo ⟨rfl, h⟩
        omega
      have Hhlight := Lib.hid hlight; clear hlight
      have Hhaw := Lib.hid haw; clear haw
      clear hM hgo hlt
      rcases key with c1 | ⟨c1, c2⟩ | ⟨c1, c2, c3⟩
      all_goals
        go_enter Try.func7, Try.ntmps7
        go_wp2_with (first | (go_at_call 29; (with_reducible refine Hhlight.out.mono ?_); rintro e w2 ⟨rfl, rfl⟩) | (go_at_call 30; (with_reducible refine Hhaw.out.mono ?_); rintro e w2 ⟨rfl, hu⟩))
        go_ret
        exact ⟨rfl, hu.none⟩

theorem own : ownKnob Try.prog.godebug = none := by kernel_rfl
theorem laidOut : laidOutB Try.prog = true := by kernel_rfl
set_option maxRecDepth 100000 in
theorem lifted (os : Os) (started : os.Started) (H : Type) (enc : TypeId × Value → H) :
    ReturnsInHanded {} Try.checked os 7 .any (Rows.cycleEndsSpec.pre6 enc Try.prog Try.f7 Rows.cycleEndsRow.domain false) (Rows.cycleEndsSpec.post enc Try.prog Try.f7 false true false false) := by
  refine returnsInHanded_of_change_sized (C := Try.checked) own started (by kernel_rfl) Try.func7
    (ChangeSpec.witness6 (enc := enc) (C := Try.checked) false ⟨#[], #[.int .i64 0, .int .i64 0, .slice none 0 0, .slice none 0 0, .slice none 0 0, .slice none 0 0, .slice none 0 0], []⟩ 8 (by kernel_rfl) (by kernel_rfl) (by kernel_rfl) (by kernel_rfl)) ?_
  intro W base args ds gs before hval0 hW _ hsz0 _
  have hsz : (DataW.weightsEach Try.prog (Try.f7.params.toList ++ Rows.cycleEndsSpec.plain.varTypes Try.prog) (ds ++ gs)).all (· ≤ reachBytes) = true := hsz0
  clear hsz0
  have hval : ∀ (j : Nat) t v, Try.f7.params[j]? = some t → args[j]? = some v → Value.okWide Try.prog W .any base t v := hval0
  have hW' := hW
  obtain ⟨p, q, hA0, hV, rfl, _, _⟩ := hW
  have hA : DataW.TrodAll enc Try.prog W 0 (fun _ => true) true Try.f7.params.toList args.toList ds p := hA0
  rw [Try.params7] at hA hval hsz
  obtain ⟨v0, vs0, d0, ds0, p0, q0, hargs, rfl, rfl, h0, r0⟩ := trodAll_cons hA
  obtain ⟨v1, vs1, d1, ds1, p1, q1, rfl, rfl, rfl, h1, r1⟩ := trodAll_cons r0
  obtain ⟨v2, vs2, d2, ds2, p2, q2, rfl, rfl, rfl, h2, r2⟩ := trodAll_cons r1
  obtain ⟨v3, vs3, d3, ds3, p3, q3, rfl, rfl, rfl, h3, r3⟩ := trodAll_cons r2
  obtain ⟨v4, vs4, d4, ds4, p4, q4, rfl, rfl, rfl, h4, r4⟩ := trodAll_cons r3
  obtain ⟨v5, vs5, d5, ds5, p5, q5, rfl, rfl, rfl, h5, r5⟩ := trodAll_cons r4
  obtain ⟨v6, vs6, d6, ds6, p6, q6, rfl, rfl, rfl, h6, r6⟩ := trodAll_cons r5
  obtain ⟨rfl, rfl, rfl⟩ := trodAll_nil r6
  obtain rfl : args = #[v0, v1, v2, v3, v4, v5, v6] := by cases args; simp_all
  obtain ⟨rfl, rfl⟩ := trodVars_none hV
  clear hA0 hval0
  simp only [List.append_nil] at hW'
  have hlt : ∀ x, (x ∈ p0 ∨ x ∈ p1 ∨ x ∈ p2 ∨ x ∈ p3 ∨ x ∈ p4 ∨ x ∈ p5 ∨ x ∈ p6) → x.block < W.heap.size := fun x hx => by simpa using hW'.lt x (by simpa using hx)
  have k0 : ∀ (W' : World), Below W.heap.size W W' → DataW.Trod enc Try.prog W' 0 (fun b => decide (b < W.heap.size)) true 3 v0 d0 p0 :=
    fun W' hn => Below.trod laidOut (by kernel_rfl) (of_decide_eq_true (by kernel_rfl)) h0 hn (fun x hx => hlt x (Or.inl hx))
  have k1 : ∀ (W' : World), Below W.heap.size W W' → DataW.Trod enc Try.prog W' 0 (fun b => decide (b < W.heap.size)) true 3 v1 d1 p1 :=
    fun W' hn => Below.trod laidOut (by kernel_rfl) (of_decide_eq_true (by kernel_rfl)) h1 hn (fun x hx => hlt x (Or.inr (Or.inl hx)))
  have k2 : ∀ (W' : World), Below W.heap.size W W' → DataW.Trod enc Try.prog W' 0 (fun b => decide (b < W.heap.size)) true 52 v2 d2 p2 :=
    fun W' hn => Below.trod laidOut (by kernel_rfl) (of_decide_eq_true (by kernel_rfl)) h2 hn (fun x hx => hlt x (Or.inr (Or.inr (Or.inl hx))))
  have k3 : ∀ (W' : World), Below W.heap.size W W' → DataW.Trod enc Try.prog W' 0 (fun b => decide (b < W.heap.size)) true 37 v3 d3 p3 :=
    fun W' hn => Below.trod laidOut (by kernel_rfl) (of_decide_eq_true (by kernel_rfl)) h3 hn (fun x hx => hlt x (Or.inr (Or.inr (Or.inr (Or.inl hx)))))
  have k4 : ∀ (W' : World), Below W.heap.size W W' → DataW.Trod enc Try.prog W' 0 (fun b => decide (b < W.heap.size)) true 37 v4 d4 p4 :=
    fun W' hn => Below.trod laidOut (by kernel_rfl) (of_decide_eq_true (by kernel_rfl)) h4 hn (fun x hx => hlt x (Or.inr (Or.inr (Or.inr (Or.inr (Or.inl hx))))))
  have k5 : ∀ (W' : World), Below W.heap.size W W' → DataW.Trod enc Try.prog W' 0 (fun b => decide (b < W.heap.size)) true 37 v5 d5 p5 :=
    fun W' hn => Below.trod laidOut (by kernel_rfl) (of_decide_eq_true (by kernel_rfl)) h5 hn (fun x hx => hlt x (Or.inr (Or.inr (Or.inr (Or.inr (Or.inr (Or.inl hx)))))))
  have k6 : ∀ (W' : World), Below W.heap.size W W' → DataW.Trod enc Try.prog W' 0 (fun b => decide (b < W.heap.size)) true 23 v6 d6 p6 :=
    fun W' hn => Below.trod laidOut (by kernel_rfl) (of_decide_eq_true (by kernel_rfl)) h6 hn (fun x hx => hlt x (Or.inr (Or.inr (Or.inr (Or.inr (Or.inr (Or.inr (hx))))))))
  obtain ⟨a0, rfl, _, _, w0⟩ := open_int Try.underlying3 (hval 0 3 v0 rfl rfl) h0
  obtain ⟨a1, rfl, _, _, w1⟩ := open_int Try.underlying3 (hval 1 3 v1 rfl rfl) h1
  obtain ⟨x2, hx2⟩ := open_matAt Try.underlying52 Try.underlying37 Try.underlying3 (by kernel_rfl) (by kernel_rfl) (by kernel_rfl) (hval 2 52 v2 rfl rfl) h2 hsz 2 rfl rfl
  obtain ⟨x3, hx3⟩ := open_intsAt (bytes := 8) Try.underlying37 Try.underlying3 (by kernel_rfl) (by kernel_rfl) (hval 3 37 v3 rfl rfl) h3 hsz 3 rfl rfl
  obtain ⟨x4, hx4⟩ := open_intsAt (bytes := 8) Try.underlying37 Try.underlying3 (by kernel_rfl) (by kernel_rfl) (hval 4 37 v4 rfl rfl) h4 hsz 4 rfl rfl
  obtain ⟨x5, hx5⟩ := open_intsAt (bytes := 8) Try.underlying37 Try.underlying3 (by kernel_rfl) (by kernel_rfl) (hval 5 37 v5 rfl rfl) h5 hsz 5 rfl rfl
  obtain ⟨x6, hx6⟩ := open_intsAt (bytes := 8) Try.underlying23 Try.underlying82 (by kernel_rfl) (by kernel_rfl) (hval 6 23 v6 rfl rfl) h6 hsz 6 rfl rfl
  refine (walk (W := W) a0 w0 a1 w1 v2 x2 hx2 v3 x3 hx3 v4 x4 hx4 v5 x5 hx5 v6 x6 hx6).mono fun e W' ⟨he, hb⟩ => ?_
  subst he
  refine ⟨_, rfl, _, _, _, [], p0 ++ (p1 ++ (p2 ++ (p3 ++ (p4 ++ (p5 ++ (p6 ++ ([]))))))), [], hW', ?_, ?_, rfl, hb.frame _, fun h => by cases h⟩
  · exact trodAll_cons_mk (shut_bool Try.underlying4 true) trodAll_mk0
  · exact trodAll_cons_mk (k0 _ hb) (trodAll_cons_mk (k1 _ hb) (trodAll_cons_mk (k2 _ hb) (trodAll_cons_mk (k3 _ hb) (trodAll_cons_mk (k4 _ hb) (trodAll_cons_mk (k5 _ hb) (trodAll_cons_mk (k6 _ hb) (trodAll_mk0)))))))

theorem over : Rows.cycleEndsRow.holds Try.pinned (OpenSpec.ofChange Rows.cycleEndsSpec) :=
  OpenClaim.holds_of_wide 7 Try.f7 rfl rfl rfl rfl rfl rfl rfl ⟨rfl, rfl, rfl, rfl, rfl⟩ rfl rfl rfl rfl rfl (by kernel_rfl) Try.func7 (by kernel_rfl)
    (of_decide_eq_true (by kernel_rfl)) (by unfold Func.isWrapper; first | (rw [if_pos (by decide +kernel)]; kernel_rfl) | (rw [if_neg (by decide +kernel)]; exact ⟨rfl, rfl⟩))
    (fun os started H enc _ => lifted os started H enc)

/-- The given statement. -/
theorem proved : Rows.CycleEndsSaid := over
#print axioms proved
end Go.Proofs.Ythaicpjgmplgcaa.cycleEnds
