/- References that are moved name the other object, all others what they named. No condition. -/
import Derived.Test.YtcnbcidbbeadcaaVhMo
import Derived.SizedLaws
import Derived.Deep.RegionWith
import Derived.Deep.DeepCutAuto
import Derived.Deep.Cut
import Derived.Deep.CutBlock
namespace Go.Proofs.Ytcnbcidbbeadcaa.vheapMoves
open Go.ChangeShapes Go.WideShapes Go.ChangeAt Go.RowKit Go.Deep
set_option linter.unusedVariables false

set_option maxRecDepth 100000 in
set_option maxHeartbeats 4000000 in
theorem walk {W : World} (lv : Value) (l : List Cal) (hl : CalsIn W lv l) (fr : Int) (wf : (Lit.int .i64 fr).wf = true) (tw : Int) (wt : (Lit.int .i64 tw).wf = true) :
    Calls Try.prog 9 #[lv, .int .i64 fr, .int .i64 tw] W (LawPost W) := by
  have k14 := Lib.hid kinds14
  have hNw := Lib.hid (fun w1 v hm hu => AwSt.new (w := W) (w1 := w1) (v := v) hm hu)
  have hAw := Lib.hid awake14
  obtain ⟨la, lc, rfl, l1⟩ := hl.1.shape
  have HhC := Lib.hid hl.1
  have HhOk := Lib.hid hl.okAt
  clear hl wf
  go_enter Try.func9, Try.ntmps9
  go_upto_block 0 with (first
    | (go_at_call 24; (with_reducible refine (k14.out _).mono ?_); rintro e w1 ⟨v, rfl, hm1, hu1⟩; obtain ⟨va, vc, rfl⟩ := mat_shape hm1; have hN2b := Lib.hid (hNw.out w1 _ hm1 hu1); clear hm1 hu1)
    | (go_at_call 23; (with_reducible refine hN2b.out.mono ?_); rintro e w2 ⟨b, base, kv, rfl, h2⟩; have H2 := Lib.hid (show CaSt W b base kv w2 from ⟨_, h2, KOk.no⟩); clear h2 hN2b))
  clear k14 hNw
  go_cut [8] (fun i wx => CaSt W b base kv wx)
  case first =>
    go_wp2_with fail
    go_loopw [8] (fun i wr => ∃ k : Nat, i = .int .i64 k ∧ k ≤ 60 ∧ k ≤ l.length ∧ CaSt W b base kv wr) (fun i _ => (60 - intOf i).toNat)
    case atStart => exact ⟨0, rfl, Nat.zero_le _, Nat.zero_le _, H2.out⟩
    case round =>
      obtain ⟨k, rfl, hk, hkl, hst⟩ := hrel
      clear H2
      by_cases hk2 : k = l.length ∨ k = 60
      · have key : (¬ ((k : Int) < l.length)) ∨ (((k : Int) < l.length) ∧ ¬ ((k : Int) < 60)) := by omega
        have Hhst := Lib.hid hst; clear hst
        clear hk2
        rcases key with c1 | ⟨c1, c2⟩
        all_goals
          go_wp2_with fail
          go_meet
          exact Hhst.out
      · have c1 : (k : Int) < l.length := by omega
        have c2 : (k : Int) < 60 := by omega
        obtain ⟨b0, off, hix, hc⟩ := HhC.out.at (show k < l.length by omega)
        have hok := HhOk.out k
        obtain ⟨y0, y1, y2, y3, y4, y5, y6, y7⟩ := hc wr hst.up
        generalize l.getD k noCal = cc at *
        obtain ⟨cd, co, cf, ⟨xk, xn, xre, xim, xr⟩⟩ := cc
        simp only at y0 y1 y2 y3 y4 y5 y6 y7
        have hmk := Lib.hid (fun w' (u : Upd (fun _ => False) wr w') => (hst.still u).make cf)
        have hse := Lib.hid (fun w' (u : Upd (fun _ => False) wr w') => show Calls Try.prog 32 #[.pointer (some ⟨b, 0, none⟩), .int .i64 co, .int .i64 cf, .agg #[.int .i64 xk, .int .i64 xn, .int .u64 (xre : Int), .int .u64 (xim : Int), .int .i64 xr]] w' (fun e w' => ∃ n : Int, e = .returned (.int .i64 n) ∧ CaSt W b base kv w') from (hst.still u).set co cf ⟨xk, xn, xre, xim, xr⟩ hok)
        have Hhst := Lib.hid hst; clear hst
        clear hc hk2 hok
        by_cases h0 : cd = 0
        · subst h0
          go_wp2_with (go_at_call 25; (with_reducible refine (hmk.out _ (Upd.refl _ _)).mono ?_); rintro e w3 ⟨r1, r2, rfl, h3⟩; have H3 := Lib.hid h3; clear h3)
          go_roundw
          case rel => exact ⟨k + 1, by go_num, by omega, by omega, H3.out⟩
          case measure => simp [intOf]; omega
        · have e0 : (cd == 0) = false := by rw [beq_eq_false_iff_ne]; exact h0
          by_cases h2 : cd = 2
          · subst h2
            go_wp2_with fail
            go_region_with (go_at_call 32; (with_reducible refine (hse.out _ ((Upd.refl _ _).drew)).mono ?_); rintro e w3 ⟨r1, rfl, h3⟩; have H3 := Lib.hid h3; clear h3)
            all_goals
              go_wp2_with fail
              go_roundw
              case rel => exact ⟨k + 1, by go_num, by omega, by omega, H3.out⟩
              case measure => simp [intOf]; omega
          · have e2 : (cd == 2) = false := by rw [beq_eq_false_iff_ne]; exact h2
            clear h0 h2
            go_wp2_with fail
            go_roundw
            case rel => exact ⟨k + 1, by go_num, by omega, by omega, Hhst.out⟩
            case measure => simp [intOf]; omega
  case rest =>
    clear H2 HhC HhOk
    obtain ⟨o, hst, hko⟩ := hcut.st
    obtain ⟨F, hp⟩ := hst.hp
    have hup := Lib.hid hst.up
    have hlow : W.heap.size ≤ base := by have := hst.lo; have := hp.low; omega
    clear hcut hst hko
    have hq : I64 tw := wf_i64 wt
    have hall := Lib.hid (vh_All hp)
    have hal : (allV o).length ≤ 64 := allTo_len o 64
    have h15 := Lib.hid (refsV_len (o := o) hp.few)
    have hrefs := Lib.hid (fun w' (u : Upd (fun _ => False) wc w') x => vh_Refs (hp.still u) x)
    have hcat := Lib.hid (cntL_at fr o)
    have hmove := Lib.hid (fun w' (u : Upd (fun _ => False) wc w') => vh_Move (hp.still u) fr tw hq)
    have hrow := Lib.hid (fun i (hi : i < 64) j (e : (F i).ownBlock = some j) => show W.heap.size ≤ j ∧ j < wc.heap.size from by have := (hp.row i hi).lt j e; omega)
    have hrv := Lib.hid (fun x hx => refsV_mvL fr tw o x hx)
    have hlen2 := Lib.hid (allV_mvL fr tw o (allV o))
    clear hp hq
    generalize mvL fr tw o (allV o) = o2 at *
    generalize allV o = al at *
    go_wp2_with (go_at_call 33; (with_reducible refine hall.out.mono ?_); rintro e wa ⟨aa, ac, rfl, hoa, hua⟩)
    have hw0 : WsSt wc (.slice aa al.length ac) al [] [] (.slice none 0 0) wa := ⟨World.ownsRow_nil _ _ _ _, fun i hi => absurd hi (by simp), fun w' u => ownsRow_intsR (ownsRow_upd hoa u (fun j hj e => by
      rcases e with e | e
      · cases e
      · omega)), hua⟩
    clear hoa hua hall
    go_loopw [10, 11, 72] (fun wv n i wr => ∃ (m c : Nat) (hv : List Value) (oa : Option Addr) (oc : Nat), i = .int .i64 m ∧ m ≤ al.length ∧ n = .int .i64 c ∧ c = cntL fr o (al.take m) ∧ c ≤ m * 15 ∧ wv = .slice oa ((al.take m).map (refsV o)).length oc ∧ WsSt wc (.slice aa al.length ac) al ((al.take m).map (refsV o)) hv (.slice oa ((al.take m).map (refsV o)).length oc) wr) (fun _ _ i _ => (al.length - intOf i).toNat)
    case atStart => exact ⟨0, 0, [], none, 0, rfl, Nat.zero_le _, rfl, rfl, Nat.le_refl _, rfl, hw0⟩
    case round =>
      obtain ⟨m, c, hv, oa, oc, rfl, hm, rfl, hc, hc15, rfl, hst⟩ := hrel
      clear hw0
      by_cases hm2 : m = al.length
      · have e0 : ¬ ((m : Int) < al.length) := by omega
        rw [hm2, List.take_length] at hst hc
        have htl : (List.map (refsV o) (List.take m al)).length = (al.map (refsV o)).length := by rw [hm2, List.take_length]
        rw [htl]
        have hT := Lib.hid hst.table
        have htt := Lib.hid (fun i (hi : i < al.length) => show (al.map (refsV o)).getD i [] = refsV o (al.getD i 0) from by simp [List.getD, hi])
        have hmt := Lib.hid (show ∀ x ∈ al, refsV o2 x = (refsV o x).map (mvI fr tw) from hrv.out)
        have hmv := hmove.out wr hst.up
        subst hc
        have hmv := Lib.hid hmv
        have hus := Lib.hid hst.up
        generalize hTT : al.map (refsV o) = TT at *
        have hTl : TT.length = al.length := by rw [← hTT]; simp
        generalize cntL fr o al = cc at *
        clear hst hm2 hmove hrefs hcat hTT htl
        go_wp2_with (first
          | (go_at_call 38; (with_reducible refine hmv.out.mono ?_); rintro e w6 ⟨rfl, hp6, hu6⟩; have Hp6 := Lib.hid hp6; have L6 := vh_Len hp6; rw [hlen2.out] at L6; have L6 := Lib.hid L6; have Hu6 := Lib.hid (show Upd (fun j => W.heap.size ≤ j ∧ j < wc.heap.size) _ w6 from hu6.mono (fun j hj e => by obtain ⟨i, hi, e⟩ := e; exact hrow.out i hi j e)); clear hp6 hu6)
          | (go_at_call 27; (with_reducible refine L6.out.mono ?_); rintro e w7 ⟨rfl, hu7⟩; have Hp7 := Lib.hid (Hp6.out.still hu7); have Hu7 := Lib.hid (Hu6.out.trans (hu7.mono (fun _ _ x => x.elim))); clear hu7))
        obtain ⟨ws, hws⟩ : ∃ ws : World, ws = wr := ⟨_, rfl⟩
        subst hws
        go_loopw [111] (fun i wr => ∃ k : Nat, i = .int .i64 k ∧ k ≤ al.length ∧ Upd (fun _ => False) w7 wr) (fun i _ => (al.length - intOf i).toNat)
        case atStart => exact ⟨0, rfl, Nat.zero_le _, Upd.refl _ _⟩
        case round =>
          obtain ⟨k, rfl, hk, hu8⟩ := hrel
          have hT8 := hT.out wr ((Hu7.out.trans (hu8.mono (fun _ _ x => x.elim))).mono (fun j _ e => e.2))
          by_cases hk2 : k = al.length
          · have e0 : ¬ ((k : Int) < al.length) := by omega
            have Hu9 := Lib.hid (show Upd (fun _ => False) W wr from (hup.out.trans hus.out).own (Hu7.out.trans (hu8.mono (fun _ _ x => x.elim))) (fun j e => e.1))
            clear hT8 hk2 hu8
            go_wp2_with (go_at_call 28; (with_reducible refine (hAw.out _).mono ?_); rintro e w9 ⟨rfl, hu9⟩)
            go_ret
            exact ⟨rfl, (Hu9.out.trans hu9).none⟩
          · have hk3 : k < al.length := by omega
            have e0 : (k : Int) < al.length := by omega
            obtain ⟨hM8, hI8⟩ := hT8
            obtain ⟨b1, o1, hix, hb1, hy⟩ := RowsIn.index (P := Try.prog) hI8 Try.underlying52 (by kernel_rfl) (by kernel_rfl) hk3
            simp only [Nat.mul_one] at hix hy
            have hy0 := hy 0 (by decide)
            simp only [Nat.add_zero] at hy0
            change wr.cell? _ = some (.int .i64 (al.getD k 0)) at hy0
            obtain ⟨H, hR, hrows⟩ := hM8
            obtain ⟨b2, o2', hix2, hb2, hy2⟩ := RowsIn.index (P := Try.prog) hR Try.underlying62 (by kernel_rfl) (by kernel_rfl) (show k < TT.length by omega)
            simp only [Nat.mul_one] at hix2 hy2
            rw [hTl] at hix2
            have hy20 := hy2 0 (by decide)
            simp only [Nat.add_zero] at hy20
            have hrk := hrows k (by omega)
            rw [htt.out k hk3] at hrk
            have hxm : al.getD k 0 ∈ al := by
              have : al.getD k 0 = al[k] := by simp [List.getD, hk3]
              rw [this]
              exact List.getElem_mem hk3
            have hrf := vh_Refs (Hp7.out.still hu8) (al.getD k 0)
            rw [hmt.out _ hxm] at hrf
            have h15k := h15.out (al.getD k 0)
            generalize al.getD k 0 = x at *
            generalize refsV o x = rs at *
            obtain ⟨fa, fc, hfe⟩ : ∃ fa fc, H k = .slice fa rs.length fc := by
              obtain ⟨fa, fc, h1, -⟩ := hrk
              exact ⟨fa, fc, h1⟩
            have hrfl : (rs.map (mvI fr tw)).length = rs.length := by simp
            have hrg := Lib.hid (fun t (ht : t < rs.length) => show (rs.map (mvI fr tw)).getD t 0 = mvI fr tw (rs.getD t 0) from by simp [List.getD, ht])
            generalize rs.map (mvI fr tw) = qs at *
            have hy20 : wr.cell? ⟨b2, o2' + k, none⟩ = some (H k) := hy20
            rw [hfe] at hrk hy20
            have hrkS := Lib.hid (fun w' (u : Upd (fun _ => False) wr w') => ints_upd hrk u)
            have hc2S := Lib.hid (fun w' (u : Upd (fun _ => False) wr w') => (u.none.cell (p := ⟨b2, o2' + k, none⟩) hb2).trans hy20)
            have hu8h := Lib.hid hu8
            have hrf := Lib.hid hrf
            have hrs15 : (rs.length : Int) ≤ 15 := by omega
            have e9 : ((rs.length : Int) != (rs.length : Int)) = false := by simp
            clear hy hy2 hI8 hR hrows hrk hxm hk2 hu8 hfe
            obtain ⟨wz, hwz⟩ : ∃ wz : World, wz = wr := ⟨_, rfl⟩
            subst hwz
            go_wp2_with (go_at_call 37; (with_reducible refine hrf.out.mono ?_); rintro e w9 ⟨ra, rc, rfl, ho9, hu9⟩; have c9 := hc2S.out w9 hu9; rw [hrfl]; have I9 := Lib.hid (show IntsR w9 (.slice ra rs.length rc) .i64 qs from by rw [← hrfl]; exact ownsRow_intsR ho9); have Hu9 := Lib.hid hu9; clear ho9 hu9)
            go_loopw [129] (fun i wr => ∃ t : Nat, i = .int .i64 t ∧ t ≤ rs.length ∧ Upd (fun _ => False) w9 wr) (fun i _ => (rs.length - intOf i).toNat)
            case atStart => exact ⟨0, rfl, Nat.zero_le _, Upd.refl _ _⟩
            case round =>
              obtain ⟨t, rfl, ht, hu10⟩ := hrel
              clear c9
              by_cases ht2 : t = rs.length
              · have d1 : ¬ (t : Int) < rs.length := by omega
                have Hhu10 := Lib.hid hu10; clear hu10
                clear ht2
                go_wp2_with fail
                go_roundw
                case rel => exact ⟨k + 1, by go_num, by omega, hu8h.out.trans (Hu9.out.trans Hhu10.out)⟩
                case measure => simp [intOf]; omega
              · have ht3 : t < rs.length := by omega
                have d1 : (t : Int) < rs.length := by omega
                have c10 := hc2S.out wr (Hu9.out.trans hu10)
                obtain ⟨b4, o4, hix4, hb4, hy4⟩ := RowsIn.index (P := Try.prog) (hrkS.out wr (Hu9.out.trans hu10)) Try.underlying52 (by kernel_rfl) (by kernel_rfl) ht3
                have I10 := ints_upd I9.out hu10
                rw [← hrfl] at I10
                obtain ⟨b5, o5, hix5, hb5, hy5⟩ := RowsIn.index (P := Try.prog) I10 Try.underlying52 (by kernel_rfl) (by kernel_rfl) (show t < qs.length by omega)
                rw [hrfl] at hix5
                simp only [Nat.mul_one] at hix4 hy4 hix5 hy5
                have y4 := hy4 0 (by decide)
                have y5 := hy5 0 (by decide)
                simp only [Nat.add_zero] at y4 y5
                change wr.cell? _ = some (.int .i64 (rs.getD t 0)) at y4
                change wr.cell? _ = some (.int .i64 (qs.getD t 0)) at y5
                rw [hrg.out t ht3] at y5
                generalize rs.getD t 0 = y at *
                unfold mvI at y5
                have Hhu10 := Lib.hid hu10; clear hu10
                clear hy4 hy5 I10 ht2
                by_cases hyf : y = fr
                · subst hyf
                  rw [if_pos rfl] at y5
                  have e10 : (tw != tw) = false := by simp
                  go_wp2_with fail
                  go_roundw
                  case rel => exact ⟨t + 1, by go_num, by omega, Hhu10.out⟩
                  case measure => simp [intOf]; omega
                · rw [if_neg hyf] at y5
                  have e10 : (y != y) = false := by simp
                  have e11 : (y == fr) = false := by rw [beq_eq_false_iff_ne]; exact hyf
                  clear hyf
                  go_wp2_with fail
                  go_roundw
                  case rel => exact ⟨t + 1, by go_num, by omega, Hhu10.out⟩
                  case measure => simp [intOf]; omega
      · have hm3 : m < al.length := by omega
        have e0 : (m : Int) < al.length := by omega
        have hal0 := hst.al wr (Upd.refl _ _)
        obtain ⟨b1, o1, hix, hb1, hy⟩ := RowsIn.index (P := Try.prog) hal0 Try.underlying52 (by kernel_rfl) (by kernel_rfl) hm3
        simp only [Nat.mul_one] at hix hy
        have hy0 := hy 0 (by decide)
        simp only [Nat.add_zero] at hy0
        change wr.cell? _ = some (.int .i64 (al.getD m 0)) at hy0
        have htk : al.take (m + 1) = al.take m ++ [al.getD m 0] := by
          rw [List.take_succ_eq_append_getElem hm3]
          simp [List.getD, hm3]
        have hxm : al.getD m 0 ∈ al := by
          have : al.getD m 0 = al[m] := by simp [List.getD, hm3]
          rw [this]
          exact List.getElem_mem hm3
        have hcn := hcat.out (al.take m) _ hxm
        rw [← htk] at hcn
        have htn : (al.take (m + 1)).map (refsV o) = (al.take m).map (refsV o) ++ [refsV o (al.getD m 0)] := by rw [htk, List.map_append]; rfl
        have hrf := hrefs.out wr hst.up (al.getD m 0)
        have h15k := h15.out (al.getD m 0)
        have htl : ((al.take m).map (refsV o)).length ≤ 64 := by simp; omega
        generalize hcE : cntL fr o (al.take (m + 1)) = cn at *
        generalize htE : (al.take (m + 1)).map (refsV o) = tn at *
        generalize al.getD m 0 = x at *
        generalize refsV o x = rs at *
        generalize (al.take m).map (refsV o) = tt at *
        have hn := Lib.hid (fun w3 w4 w5 a c g' c' ho3 u3 u4 ho5 hg5 hl5 => hst.next (w3 := w3) (w4 := w4) (w5 := w5) (a := a) (c := c) (xs := rs) (g' := g') (c' := c') ho3 u3 u4 ho5 hg5 hl5)
        have hoS := Lib.hid (fun w3 (u : Upd (fun _ => False) wr w3) o => ((hst.still u).own).alloc o)
        have hsz := Lib.hid hst.up.size
        have hrf := Lib.hid hrf
        have hk0 : tt.length ≤ 1099511627776 := by omega
        have hrs15 : (rs.length : Int) ≤ 15 := by omega
        have Hhc := Lib.hid hc; clear hc
        have Hhcn := Lib.hid hcn; clear hcn
        have Hhtn := Lib.hid htn; clear htn
        have HhcE := Lib.hid hcE; clear hcE
        have HhtE := Lib.hid htE; clear htE
        clear hal0 hy hst hm2 htk hxm hrefs hcat hmove hrv hlen2
        obtain ⟨wz, hwz⟩ : ∃ wz : World, wz = wr := ⟨_, rfl⟩
        subst hwz
        go_wp2_with (first
          | (go_at_call 37; (with_reducible refine hrf.out.mono ?_); rintro e w3 ⟨ra, rc, rfl, ho3, hu3⟩; have cN3 := (Blk.new w3 [.slice ra rs.length rc] 52).cell 0 rfl; have Ho3 := Lib.hid ho3; have Hu3 := Lib.hid hu3; clear ho3 hu3)
          | (at_builtin; refine wpList_pushL rfl _ _ 62 52 rfl (.slice none 0 0) 24 Try.underlying62 infoSl rfl wc.heap.size _ _ _ rfl (hoS.out w3 Hu3.out _) w3.heap.size 1 (.slice ra rs.length rc) rfl cN3 rfl hk0 (by decide) (by have := hsz.out; have := Hu3.out.size; simp; omega) ?_; intro g4 c4 w4 ho4 hg4 hl4; have Hn4 := Lib.hid (hn.out w3 _ w4 ra rc g4 c4 Ho3.out Hu3.out ((Upd.refl _ _).alloc _) ho4 hg4 hl4); clear ho4 hg4 hl4))
        go_loopw [11, 85] (fun n i wr => ∃ (t d : Nat), i = .int .i64 t ∧ t ≤ rs.length ∧ n = .int .i64 d ∧ d = c + cntI fr (rs.take t) ∧ d ≤ c + t ∧ Upd (fun _ => False) w4 wr) (fun _ i _ => (rs.length - intOf i).toNat)
        case atStart => exact ⟨0, c, rfl, Nat.zero_le _, rfl, by simp [cntI], Nat.le_refl _, Upd.refl _ _⟩
        case round =>
          obtain ⟨t, d, rfl, ht, rfl, hd, hdl, hu5⟩ := hrel
          by_cases ht2 : t = rs.length
          · have d1 : ¬ (t : Int) < rs.length := by omega
            have hdn : d = cn := by rw [hd, ht2, List.take_length, Hhcn.out, Hhc.out]
            have Hhu5 := Lib.hid hu5; clear hu5
            have Hhdn := Lib.hid hdn; clear hdn
            clear ht2 hd
            go_wp2_with fail
            go_roundw
            case rel => exact ⟨m + 1, d, _, some ⟨g4, 0, none⟩, c4, by go_num, by omega, rfl, by rw [HhcE.out]; exact Hhdn.out, by omega, by rw [HhtE.out, Hhtn.out]; simp, by rw [HhtE.out, Hhtn.out]; exact Hn4.out.1.still Hhu5.out⟩
            case measure => simp [intOf]; omega
          · have ht3 : t < rs.length := by omega
            have d1 : (t : Int) < rs.length := by omega
            obtain ⟨b2, o2', hix2, hb2, hy2⟩ := RowsIn.index (P := Try.prog) (ints_upd Hn4.out.2 hu5) Try.underlying52 (by kernel_rfl) (by kernel_rfl) ht3
            simp only [Nat.mul_one] at hix2 hy2
            have y2 := hy2 0 (by decide)
            simp only [Nat.add_zero] at y2
            change wr.cell? _ = some (.int .i64 (rs.getD t 0)) at y2
            have htk2 : rs.take (t + 1) = rs.take t ++ [rs.getD t 0] := by
              rw [List.take_succ_eq_append_getElem ht3]
              simp [List.getD, ht3]
            have hcs := cntI_snoc fr (rs.take t) (rs.getD t 0)
            rw [← htk2] at hcs
            generalize rs.getD t 0 = y at *
            have Hhu5 := Lib.hid hu5; clear hu5
            have Hhd := Lib.hid hd; clear hd
            clear hy2 htk2 ht2
            by_cases hyf : y = fr
            · subst hyf
              rw [if_pos rfl] at hcs
              have w1 : IntKind.i64.wrap ((d : Int) + 1) = ((d + 1 : Nat) : Int) := by rw [IntKind.wrap_i64]; omega
              have Hhcs := Lib.hid hcs; clear hcs
              go_wp2_with fail
              go_roundw
              case rel => exact ⟨t + 1, d + 1, by go_num, by omega, by first | rfl | (rw [w1]) | go_num, by rw [Hhcs.out, Hhd.out]; omega, by omega, Hhu5.out⟩
              case measure => simp [intOf]; omega
            · rw [if_neg hyf] at hcs
              have e11 : (y == fr) = false := by rw [beq_eq_false_iff_ne]; exact hyf
              have Hhcs := Lib.hid hcs; clear hcs
              clear hyf
              go_wp2_with fail
              go_roundw
              case rel => exact ⟨t + 1, d, by go_num, by omega, rfl, by rw [Hhcs.out, Hhd.out]; rfl, by omega, Hhu5.out⟩
              case measure => simp [intOf]; omega

theorem own : ownKnob Try.prog.godebug = none := by kernel_rfl
theorem laidOut : laidOutB Try.prog = true := by kernel_rfl
set_option maxRecDepth 100000 in
theorem lifted (os : Os) (started : os.Started) (H : Type) (enc : TypeId × Value → H) :
    ReturnsInHanded {} Try.checked os 9 .any (Rows.vheapMovesSpec.pre6 enc Try.prog Try.f9 Rows.vheapMovesRow.domain false) (Rows.vheapMovesSpec.post enc Try.prog Try.f9 false true false false) := by
  refine returnsInHanded_of_change_sized (C := Try.checked) own started (by kernel_rfl) Try.func9
    (ChangeSpec.witness6 (enc := enc) (C := Try.checked) false ⟨#[], #[.slice none 0 0, .int .i64 0, .int .i64 0], []⟩ 8 (by kernel_rfl) (by kernel_rfl) (by kernel_rfl) (by kernel_rfl)) ?_
  intro W base args ds gs before hval0 hW _ hsz0 _
  have hsz : (DataW.weightsEach Try.prog (Try.f9.params.toList ++ Rows.vheapMovesSpec.plain.varTypes Try.prog) (ds ++ gs)).all (· ≤ reachBytes) = true := hsz0
  clear hsz0
  have hval : ∀ (j : Nat) t v, Try.f9.params[j]? = some t → args[j]? = some v → Value.okWide Try.prog W .any base t v := hval0
  have hW' := hW
  obtain ⟨p, q, hA0, hV, rfl, _, _⟩ := hW
  have hA : DataW.TrodAll enc Try.prog W 0 (fun _ => true) true Try.f9.params.toList args.toList ds p := hA0
  rw [Try.params9] at hA hval hsz
  obtain ⟨v0, vs0, d0, ds0, p0, q0, hargs, rfl, rfl, h0, r0⟩ := trodAll_cons hA
  obtain ⟨v1, vs1, d1, ds1, p1, q1, rfl, rfl, rfl, h1, r1⟩ := trodAll_cons r0
  obtain ⟨v2, vs2, d2, ds2, p2, q2, rfl, rfl, rfl, h2, r2⟩ := trodAll_cons r1
  obtain ⟨rfl, rfl, rfl⟩ := trodAll_nil r2
  obtain rfl : args = #[v0, v1, v2] := by cases args; simp_all
  obtain ⟨rfl, rfl⟩ := trodVars_none hV
  clear hA0 hval0
  simp only [List.append_nil] at hW'
  have hlt : ∀ x, (x ∈ p0 ∨ x ∈ p1 ∨ x ∈ p2) → x.block < W.heap.size := fun x hx => by simpa using hW'.lt x (by simpa using hx)
  have k0 : ∀ (W' : World), Below W.heap.size W W' → DataW.Trod enc Try.prog W' 0 (fun b => decide (b < W.heap.size)) true 51 v0 d0 p0 :=
    fun W' hn => Below.trod laidOut (by kernel_rfl) (of_decide_eq_true (by kernel_rfl)) h0 hn (fun x hx => hlt x (Or.inl hx))
  have k1 : ∀ (W' : World), Below W.heap.size W W' → DataW.Trod enc Try.prog W' 0 (fun b => decide (b < W.heap.size)) true 3 v1 d1 p1 :=
    fun W' hn => Below.trod laidOut (by kernel_rfl) (of_decide_eq_true (by kernel_rfl)) h1 hn (fun x hx => hlt x (Or.inr (Or.inl hx)))
  have k2 : ∀ (W' : World), Below W.heap.size W W' → DataW.Trod enc Try.prog W' 0 (fun b => decide (b < W.heap.size)) true 3 v2 d2 p2 :=
    fun W' hn => Below.trod laidOut (by kernel_rfl) (of_decide_eq_true (by kernel_rfl)) h2 hn (fun x hx => hlt x (Or.inr (Or.inr (hx))))
  obtain ⟨x0, hx0⟩ := open_cals (hval 0 51 v0 rfl rfl) h0 hsz 0 rfl rfl
  obtain ⟨a1, rfl, _, _, w1⟩ := open_int Try.underlying3 (hval 1 3 v1 rfl rfl) h1
  obtain ⟨a2, rfl, _, _, w2⟩ := open_int Try.underlying3 (hval 2 3 v2 rfl rfl) h2
  refine (walk (W := W) v0 x0 hx0 a1 w1 a2 w2).mono fun e W' ⟨he, hb⟩ => ?_
  subst he
  refine ⟨_, rfl, _, _, _, [], p0 ++ (p1 ++ (p2 ++ ([]))), [], hW', ?_, ?_, rfl, hb.frame _, fun h => by cases h⟩
  · exact trodAll_cons_mk (shut_bool Try.underlying4 true) trodAll_mk0
  · exact trodAll_cons_mk (k0 _ hb) (trodAll_cons_mk (k1 _ hb) (trodAll_cons_mk (k2 _ hb) (trodAll_mk0)))

theorem over : Rows.vheapMovesRow.holds Try.pinned (OpenSpec.ofChange Rows.vheapMovesSpec) :=
  OpenClaim.holds_of_wide 9 Try.f9 rfl rfl rfl rfl rfl rfl rfl ⟨rfl, rfl, rfl, rfl, rfl⟩ rfl rfl rfl rfl rfl (by kernel_rfl) Try.func9 (by kernel_rfl)
    (of_decide_eq_true (by kernel_rfl)) (by unfold Func.isWrapper; first | (rw [if_pos (by decide +kernel)]; kernel_rfl) | (rw [if_neg (by decide +kernel)]; exact ⟨rfl, rfl⟩))
    (fun os started H enc _ => lifted os started H enc)

/-- The given statement. -/
theorem proved : Rows.VheapMovesSaid := over
#print axioms proved
end Go.Proofs.Ytcnbcidbbeadcaa.vheapMoves
