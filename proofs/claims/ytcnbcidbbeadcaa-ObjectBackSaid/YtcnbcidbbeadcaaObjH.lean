/- Words as an object: the document's Decode. -/
import Derived.Test.YtcnbcidbbeadcaaObjG
namespace Go.Proofs.Ytcnbcidbbeadcaa
open Go.RowKit Go.Deep
set_option linter.unusedVariables false

set_option maxRecDepth 100000 in
set_option maxHeartbeats 4000000 in
theorem ref_Decode (v wv : Value) (ks : List (List Int)) (ws : List Nat) (w : World) (hM : MatIn w v ks) (hW : WordsR w wv ws) :
    Calls Try.prog 30 #[v, wv] w (RetDec w (decO ks ws)) := by
  obtain ⟨r, hr⟩ : ∃ r, decO ks ws = r := ⟨_, rfl⟩
  rw [hr]
  have hof := Lib.hid (fun k => ref_kindOf v ks k w hM)
  cases ws with
  | nil =>
    obtain ⟨va, vc, rfl, -⟩ := hW.1
    have hr2 : r = (0, [], 0, 8) := hr.symm
    have fin := Lib.hid (retDec_no (w := w) (w' := w) hr2 (Upd.refl _ _))
    clear hr hr2 hW hof
    go_enter Try.func30, Try.ntmps30
    go_wp2
    refine bodyPost_ret (results_tmp4 rfl _ _ _) rfl ?_
    exact fin.out
  | cons h rest =>
    obtain ⟨va, vc, rfl, hc1, hc2, hrow⟩ := hW.1
    obtain ⟨b0, o0, rfl, hb0, hcell⟩ := hrow (by simp)
    have hc0 : w.cell? ⟨b0, o0, none⟩ = some (.int .u64 (h : Int)) := hcell 0 (by simp) 0 (by decide)
    have hlt : h < 2 ^ 64 := hW.2 h (by simp)
    obtain ⟨n, hn⟩ : ∃ n, (h :: rest).length = n := ⟨_, rfl⟩
    have hn0 : 0 < n := by rw [← hn]; simp
    have hnl : (n : Int) ≤ 9223372036854775807 := by unfold maxLen at hc2; omega
    have hne : ((n : Int) == 0) = false := by rw [beq_eq_false_iff_ne]; omega
    have hpr := ref_parse h w hlt
    unfold decO at hr
    simp only [hn] at hr
    have HW := Lib.hid hW
    rw [hn] at HW
    rw [hn]
    clear hW hcell hc1 hc2
    have Hhn := Lib.hid hn; clear hn
    by_cases hH : IsHead h
    · rw [if_pos hH] at hr
      unfold parseV at hpr
      rw [if_pos hH] at hpr
      have hof := hof.out (getN h 0 4 : Nat)
      obtain ⟨k, hk⟩ : ∃ k, getN h 0 4 = k := ⟨_, rfl⟩
      obtain ⟨wd, hwd⟩ : ∃ wd, getN h 4 5 = wd := ⟨_, rfl⟩
      obtain ⟨ep, hep⟩ : ∃ ep, getN h 9 32 = ep := ⟨_, rfl⟩
      rw [hk] at hpr hr hof
      rw [hwd] at hpr hr
      rw [hep] at hpr hr
      clear hk hwd hep hH
      have hpr := Lib.hid hpr
      cases ho : ofK ks k with
      | none =>
        rw [ho] at hof hr
        simp only at hr
        have hof := Lib.hid (hof.mono (fun e w' h => retOf_none h))
        have fin := Lib.hid (fun w' (u : Upd (fun _ => False) w w') => retDec_no hr.symm u)
        clear ho hr
        go_enter Try.func30, Try.ntmps30
        go_wp2_with (first
          | (go_at_call 65; (with_reducible refine hpr.out.mono ?_); rintro e w1 ⟨rfl, rfl⟩)
          | (go_at_call 51; (with_reducible refine hof.out.mono ?_); rintro e w2 ⟨rfl, hu2⟩; have HU2 := Lib.hid hu2; clear hu2))
        refine bodyPost_ret (results_tmp4 rfl _ _ _) rfl ?_
        exact fin.out _ (HU2.out.alloc _)
      | some f =>
        rw [ho] at hof hr
        simp only at hr
        have hof := Lib.hid (hof.mono (fun e w' h => retOf_some h))
        have hMay := (ofK_some ho).2.2.2.1
        have hkw := Lib.hid (fun v' w' h => ref_KindWords v' f w' h)
        have hko := Lib.hid (fun i v' w' h => ref_Offset v' f i w' h)
        have hkp := (mayK_facts f hMay).2.2.2
        have hf15 := (mayK_facts f hMay).2.1
        clear ho
        by_cases hwk : wd = kW f
        · subst hwk
          have hwk2 : ((kW f : Int) != (kW f : Int)) = false := by simp
          by_cases hwn : n < kW f
          · rw [if_pos (Or.inr hwn)] at hr
            have fin := Lib.hid (fun w' (u : Upd (fun _ => False) w w') => retDec_no hr.symm u)
            have hwn1 : (n : Int) < kW f := by omega
            clear hr hMay hkp hf15
            generalize kW f = wd at *
            go_enter Try.func30, Try.ntmps30
            go_wp2_with (first
              | (go_at_call 65; (with_reducible refine hpr.out.mono ?_); rintro e w1 ⟨rfl, rfl⟩)
              | (go_at_call 51; (with_reducible refine hof.out.mono ?_); rintro e w2 ⟨va, vc', rfl, hV, hu2⟩; have HU2 := Lib.hid hu2; have HV2 := Lib.hid (ints_upd hV ((Upd.refl (fun _ => False) w2).alloc (.cells #[.slice va f.length vc'] 68))); clear hu2 hV)
              | (go_at_call 52; (with_reducible refine (hkw.out _ _ HV2.out).mono ?_); rintro e w4 ⟨rfl, hu4⟩; have HU4 := Lib.hid ((HU2.out.alloc _).trans hu4); clear hu4))
            refine bodyPost_ret (results_tmp4 rfl _ _ _) rfl ?_
            exact fin.out _ HU4.out
          · rw [if_neg (by omega)] at hr
            have hwn1 : ¬ (n : Int) < kW f := by omega
            have hwn2 : kW f ≤ n := by omega
            obtain ⟨wd, hwd⟩ : ∃ wd, kW f = wd := ⟨_, rfl⟩
            rw [hwd] at hkw hpr hwk2 hwn1 hwn2
            have Hhr := Lib.hid hr; clear hr
            have Hhwd := Lib.hid hwd; clear hwd
            have hl15 : (f.length : Int) ≤ 15 := by omega
            go_enter Try.func30, Try.ntmps30
            go_wp2_with (first
              | (go_at_call 65; (with_reducible refine hpr.out.mono ?_); rintro e w1 ⟨rfl, rfl⟩)
              | (go_at_call 51; (with_reducible refine hof.out.mono ?_); rintro e w2 ⟨va, vc', rfl, hV, hu2⟩; have HU2 := Lib.hid hu2; have HV2 := Lib.hid (ints_upd hV ((Upd.refl (fun _ => False) w2).alloc (.cells #[.slice va f.length vc'] 68))); clear hu2 hV)
              | (go_at_call 52; (with_reducible refine (hkw.out _ _ HV2.out).mono ?_); rintro e w4 ⟨rfl, hu4⟩; have HU4 := Lib.hid ((HU2.out.alloc _).trans hu4); have HV4 := Lib.hid (ints_upd HV2.out hu4); have hT4 := (Blk.new w2 [.slice va f.length vc'] 68).upd hu4 (fun h => h); have HT4 := Lib.hid hT4; have d4 := hT4.cell 0 rfl; clear hu4 hT4))
            go_loopw [14, 58] (fun o i wr => ∃ (j : Nat) (oa : Option Addr) (oc : Nat) (xs : List Val), o = .slice oa j oc ∧ i = .int .i64 j ∧ j ≤ f.length ∧ vofTo f (h :: rest) j = some xs ∧ wr.ownsRow w4.heap.size 26 5 (.slice oa j oc) j (cellsV xs) ∧ Upd (fun _ => False) w4 wr) (fun _ i _ => (f.length - intOf i).toNat)
            case atStart => exact ⟨0, none, 0, [], rfl, rfl, Nat.zero_le _, rfl, World.ownsRow_nil _ _ _ _, Upd.refl _ _⟩
            case round =>
              clear d4 hwn1 hwn
              (try (rename ¬ n < wd => hxx; clear hxx))
              have Hhwn2 := Lib.hid hwn2; clear hwn2
              obtain ⟨j, oa, oc, xs, rfl, rfl, hj, hxs, ho, hu⟩ := hrel
              have hxl := vofTo_len hxs
              by_cases hje : j = f.length
              · have e1 : ¬ ((j : Int) < f.length) := by omega
                have hr1 : r = ((k : Int), xs, ep, 0) := by
                  have := Hhr.out
                  rw [← hje, hxs] at this
                  exact this.symm
                have fin : RetDec w r (.returned (.tuple #[.int .i64 k, .slice oa j oc, .int .u64 ep, .int .i64 0])) wr := by
                  rw [hr1, ← hxl]
                  rw [← hxl] at ho
                  exact ⟨HU4.out.trans hu, oa, oc, rfl, ownsRow_vals ho⟩
                have Hfin := Lib.hid fin; clear fin
                clear ho hxs hu hje hr1 hxl
                go_wp2
                refine bodyPost_ret (results_tmp4 rfl _ _ _) rfl ?_
                exact Hfin.out
              · have hjl : j < f.length := by omega
                have d1 : (j : Int) < f.length := by omega
                obtain ⟨b1, of1, hix, hb1, hc⟩ := HV4.out.index (P := Try.prog) Try.underlying52 (by kernel_rfl) (by kernel_rfl) hjl
                simp only [Nat.mul_one] at hix hc
                have hcq : wr.cell? ⟨b1, of1 + j, none⟩ = some (.int .i64 (f.getD j 0)) := (hu.none.cell (p := ⟨b1, of1 + j, none⟩) hb1).trans (hc 0 (by decide))
                have HTr := Lib.hid (HT4.out.upd hu (fun h => h))
                have dr := HTr.out.cell 0 rfl
                have hVr := Lib.hid (fun w' (u : Upd (fun _ => False) wr w') => ints_upd HV4.out (hu.trans u))
                have U0r := HU4.out.trans hu
                have hnx := off_next hjl
                have hp1 := off_at hMay hjl
                have hle : 1 + sumW (f.take (j + 1)) ≤ wd := by
                  rw [← Hhwd.out, kW_eq f (mayK_facts f hMay).2.2.2.1]
                  have := sumW_mono f (j + 1) (by omega)
                  omega
                have hpart : fieldW f (h :: rest) j = ((h :: rest).drop (1 + sumW (f.take j))).take (fw (f.getD j 0)) := rfl
                have hsome := fun x => vofTo_succ (x := x) hxs
                have hnone := vofTo_fail hxs
                have hp2 : j + 1 < f.length → offK f ((j : Int) + 1) = ((1 + sumW (f.take (j + 1)) : Nat) : Int) := fun h => off_at (j := j + 1) hMay h
                have hp3 : ¬ j + 1 < f.length → wd = 1 + sumW (f.take (j + 1)) := fun h => by rw [← Hhwd.out]; exact (off_last hMay (by omega)).symm
                have hfb := fw_le (f.getD j 0)
                have hf1 : 1 ≤ fw (f.getD j 0) := by
                  have := okW_get f j hjl (mayK_facts f hMay).2.2.1
                  omega
                generalize f.getD j 0 = q at *
                generalize 1 + sumW (f.take (j + 1)) = p2 at *
                generalize 1 + sumW (f.take j) = p at *
                generalize hfw : fieldW f (h :: rest) j = us at *
                have hvo := fun w' (u : Upd (fun _ => False) w w') => ref_ValueOf q _ us w' (hpart ▸ (WordsR.part HW.out (i := p) (m := fw q) (by have := Hhwn2.out; omega)).upd u.none)
                have hpp : (p : Int) ≤ p2 := by omega
                have hpn : (p2 : Int) ≤ n := by have := Hhwn2.out; omega
                have hvc : (n : Int) ≤ vc := by
                  obtain ⟨a, cap, e, g2, -⟩ := HW.out.1
                  cases e
                  have := Hhn.out
                  omega
                have hpv : (p2 : Int) ≤ vc := by omega
                have hpv2 : p2 ≤ vc := by omega
                have hm : fw q = p2 - p := by omega
                have hfq : fw q ≠ 0 := by omega
                have hp30 : p ≤ 100 := by have := Hhwd.out; omega
                have hpc : p < vc := by omega
                have hpc2 : ¬ vc = p := by omega
                have hpc3 : ¬ vc - p = 0 := by omega
                rw [hm] at hvo
                clear hp2 hp3
                have hko1 := Lib.hid (fun v' w' h => hp1 ▸ hko.out j v' w' h)
                clear hc hnx hpart
                have Hhm := Lib.hid hm; clear hm
                have Hhfq := Lib.hid hfq; clear hfq
                have Hhfb := Lib.hid hfb; clear hfb
                have Hhu := Lib.hid hu; clear hu
                have HU0r := Lib.hid U0r; clear U0r
                have Hho := Lib.hid ho; clear ho
                clear hpn
                have hszr := (Hhu.out).size
                have hj48 : j ≤ 1048576 := by omega
                have hrow : ∀ k, (Value.slice oa j oc).ownBlock = some k → w4.heap.size ≤ k := by
                  intro k e
                  rcases Nat.eq_zero_or_pos j with h0 | h0
                  · have hz := Hho.out.2
                    rcases hz with ⟨hz, -⟩ | ⟨g, cap, cur, hv, hg, -⟩
                    · rw [hz] at e
                      cases e
                    · rw [hv] at e
                      have : g = k := by simpa [Value.ownBlock] using e
                      omega
                  · exact ownBlock_le Hho.out h0 e
                cases hv : vof q us with
                | none =>
                  rw [hv] at hvo
                  have hvo := (show ∀ w', _ → Calls Try.prog 66 #[.int .i64 q, .slice (some ⟨b0, o0 + p, none⟩) (p2 - p) (vc - p)] w' (RetU w' (.tuple #[.agg #[.int .i64 0, .int .i64 0, .int .u64 0, .int .u64 0, .int .i64 0], .bool false])) from hvo)
                  have hrn : r = (0, [], 0, 8) := by
                    have := Hhr.out
                    rw [hnone hv f.length hjl] at this
                    exact this.symm
                  have fin := Lib.hid (fun w' (u : Upd (fun _ => False) w w') => retDec_no hrn u)
                  clear hsome hnone hv hrow hrn
                  by_cases hq : q = 2
                  · subst hq
                    obtain rfl : p2 = p + 2 := by
                      have : fw 2 = 2 := by decide
                      have := Hhm.out
                      omega
                    rw [show p + 2 - p = 2 from by omega] at hvo
                    have hvo := Lib.hid hvo
                    have hp64 : (p : Int) ≤ 1000 := by omega
                    go_wp2_with (first
                      | (go_at_call 55; (with_reducible refine (hko1.out _ _ (hVr.out _ (Upd.refl _ _))).mono ?_); rintro e w5 ⟨rfl, hu5⟩; have Hu5 := Lib.hid hu5; clear hu5)
                      | (go_at_call 66; (with_reducible refine (hvo.out _ (HU0r.out.trans Hu5.out)).mono ?_); rintro e w7 ⟨rfl, hu7⟩; have Hu7 := Lib.hid (Hu5.out.trans hu7); clear hu7))
                    refine bodyPost_ret (results_tmp4 rfl _ _ _) rfl ?_
                    exact fin.out _ ((HU0r.out.trans Hu7.out).alloc _)
                  · have hq2 : (q == 2) = false := by rw [beq_eq_false_iff_ne]; exact hq
                    obtain rfl : p2 = p + 1 := by
                      have : fw q = 1 := by
                        have h1 := Hhfq.out
                        unfold fw at h1 ⊢
                        split
                        · rfl
                        · rename_i h2
                          rw [if_neg h2, if_neg hq] at h1
                          exact absurd rfl h1
                      have := Hhm.out
                      omega
                    rw [show p + 1 - p = 1 from by omega] at hvo
                    have hvo := Lib.hid hvo
                    have hp64 : (p : Int) ≤ 1000 := by omega
                    go_wp2_with (first
                      | (go_at_call 55; (with_reducible refine (hko1.out _ _ (hVr.out _ (Upd.refl _ _))).mono ?_); rintro e w5 ⟨rfl, hu5⟩; have Hu5 := Lib.hid hu5; clear hu5)
                      | (go_at_call 66; (with_reducible refine (hvo.out _ (HU0r.out.trans Hu5.out)).mono ?_); rintro e w7 ⟨rfl, hu7⟩; have Hu7 := Lib.hid (Hu5.out.trans hu7); clear hu7))
                    refine bodyPost_ret (results_tmp4 rfl _ _ _) rfl ?_
                    exact fin.out _ ((HU0r.out.trans Hu7.out).alloc _)
                | some x =>
                  rw [hv] at hvo
                  have hws2 := hsome x hv
                  have Hxs2 := Lib.hid hws2
                  have Hxc := Lib.hid (show cellsV [x] = x.cells ++ [] from rfl)
                  clear hsome hnone hv hws2
                  obtain ⟨xa, xn, re, im, rr⟩ := x
                  have hvo := (show ∀ w', _ → Calls Try.prog 66 #[.int .i64 q, .slice (some ⟨b0, o0 + p, none⟩) (p2 - p) (vc - p)] w' (RetU w' (.tuple #[.agg #[.int .i64 xa, .int .i64 xn, .int .u64 (re : Int), .int .u64 (im : Int), .int .i64 rr], .bool true])) from hvo)
                  have hone : ∀ u ∈ ([.int .i64 xa, .int .i64 xn, .int .u64 (re : Int), .int .u64 (im : Int), .int .i64 rr] : List Value), u.oneCell' = true := by
                    intro u hu
                    simp only [List.mem_cons, List.not_mem_nil, or_false] at hu
                    rcases hu with rfl | rfl | rfl | rfl | rfl <;> rfl
                  by_cases hq : q = 2
                  · subst hq
                    obtain rfl : p2 = p + 2 := by
                      have : fw 2 = 2 := by decide
                      have := Hhm.out
                      omega
                    rw [show p + 2 - p = 2 from by omega] at hvo
                    have hvo := Lib.hid hvo
                    have hp64 : (p : Int) ≤ 1000 := by omega
                    go_wp2_with (first
                      | (go_at_call 55; (with_reducible refine (hko1.out _ _ (hVr.out _ (Upd.refl _ _))).mono ?_); rintro e w5 ⟨rfl, hu5⟩; have Hu5 := Lib.hid hu5; clear hu5)
                      | (go_at_call 66; (with_reducible refine (hvo.out _ (HU0r.out.trans Hu5.out)).mono ?_); rintro e w7 ⟨rfl, hu7⟩; have Hu7 := Lib.hid (Hu5.out.trans hu7); have hal7 : Upd (fun _ => False) wr ((w7.alloc (.cells #[.int .i64 xa, .int .i64 xn, .int .u64 (re : Int), .int .u64 (im : Int), .int .i64 rr] 26)).alloc (.cells #[.int .i64 xa, .int .i64 xn, .int .u64 (re : Int), .int .u64 (im : Int), .int .i64 rr] 26)) := ((Hu7.out).alloc _).alloc _; have Hal7 := Lib.hid hal7; have Ho7 := Lib.hid (ownsRow_keep Hho.out hal7); have hz7 := Nat.le_trans hszr hal7.size; have hcl7 := Lib.hid (heap_two w7 (.cells #[.int .i64 xa, .int .i64 xn, .int .u64 (re : Int), .int .u64 (im : Int), .int .i64 rr] 26) [.int .i64 xa, .int .i64 xn, .int .u64 (re : Int), .int .u64 (im : Int), .int .i64 rr] 26); clear hu7 hal7)
                      | (at_builtin; refine wpList_pushN rfl _ _ 23 26 rfl (.agg #[.int .i64 0, .int .i64 0, .int .u64 0, .int .u64 0, .int .i64 0]) 5 40 (by decide) Try.underlying23 infoVal rfl w4.heap.size _ _ _ rfl Ho7.out _ 1 [.int .i64 xa, .int .i64 xn, .int .u64 (re : Int), .int .u64 (im : Int), .int .i64 rr] rfl rfl 26 (0, 0) hcl7.out hone hj48 (by decide) hz7 ?_; intro oa' oc' w8 ho8 hg8; have HE8 := Lib.hid (And.intro ho8 hg8); clear ho8 hg8))
                    go_roundw
                    case rel =>
                      have u8 := (Hhu.out.trans Hal7.out).grown HE8.out.2 (fun k e hk => absurd hk (by have := hrow k e; omega))
                      exact ⟨j + 1, oa', oc', xs ++ [⟨xa, xn, re, im, rr⟩], rfl, by go_num, by omega, Hxs2.out, by rw [← cellsV_append]; exact HE8.out.1, u8⟩
                    case measure => simp [intOf]; omega
                  · have hq2 : (q == 2) = false := by rw [beq_eq_false_iff_ne]; exact hq
                    obtain rfl : p2 = p + 1 := by
                      have : fw q = 1 := by
                        have h1 := Hhfq.out
                        unfold fw at h1 ⊢
                        split
                        · rfl
                        · rename_i h2
                          rw [if_neg h2, if_neg hq] at h1
                          exact absurd rfl h1
                      have := Hhm.out
                      omega
                    rw [show p + 1 - p = 1 from by omega] at hvo
                    have hvo := Lib.hid hvo
                    have hp64 : (p : Int) ≤ 1000 := by omega
                    go_wp2_with (first
                      | (go_at_call 55; (with_reducible refine (hko1.out _ _ (hVr.out _ (Upd.refl _ _))).mono ?_); rintro e w5 ⟨rfl, hu5⟩; have Hu5 := Lib.hid hu5; clear hu5)
                      | (go_at_call 66; (with_reducible refine (hvo.out _ (HU0r.out.trans Hu5.out)).mono ?_); rintro e w7 ⟨rfl, hu7⟩; have Hu7 := Lib.hid (Hu5.out.trans hu7); have hal7 : Upd (fun _ => False) wr ((w7.alloc (.cells #[.int .i64 xa, .int .i64 xn, .int .u64 (re : Int), .int .u64 (im : Int), .int .i64 rr] 26)).alloc (.cells #[.int .i64 xa, .int .i64 xn, .int .u64 (re : Int), .int .u64 (im : Int), .int .i64 rr] 26)) := ((Hu7.out).alloc _).alloc _; have Hal7 := Lib.hid hal7; have Ho7 := Lib.hid (ownsRow_keep Hho.out hal7); have hz7 := Nat.le_trans hszr hal7.size; have hcl7 := Lib.hid (heap_two w7 (.cells #[.int .i64 xa, .int .i64 xn, .int .u64 (re : Int), .int .u64 (im : Int), .int .i64 rr] 26) [.int .i64 xa, .int .i64 xn, .int .u64 (re : Int), .int .u64 (im : Int), .int .i64 rr] 26); clear hu7 hal7)
                      | (at_builtin; refine wpList_pushN rfl _ _ 23 26 rfl (.agg #[.int .i64 0, .int .i64 0, .int .u64 0, .int .u64 0, .int .i64 0]) 5 40 (by decide) Try.underlying23 infoVal rfl w4.heap.size _ _ _ rfl Ho7.out _ 1 [.int .i64 xa, .int .i64 xn, .int .u64 (re : Int), .int .u64 (im : Int), .int .i64 rr] rfl rfl 26 (0, 0) hcl7.out hone hj48 (by decide) hz7 ?_; intro oa' oc' w8 ho8 hg8; have HE8 := Lib.hid (And.intro ho8 hg8); clear ho8 hg8))
                    go_roundw
                    case rel =>
                      have u8 := (Hhu.out.trans Hal7.out).grown HE8.out.2 (fun k e hk => absurd hk (by have := hrow k e; omega))
                      exact ⟨j + 1, oa', oc', xs ++ [⟨xa, xn, re, im, rr⟩], rfl, by go_num, by omega, Hxs2.out, by rw [← cellsV_append]; exact HE8.out.1, u8⟩
                    case measure => simp [intOf]; omega
        · rw [if_pos (Or.inl hwk)] at hr
          have hwk2 : ((kW f : Int) != (wd : Int)) = true := by rw [bne_iff_ne]; omega
          have fin := Lib.hid (fun w' (u : Upd (fun _ => False) w w') => retDec_no hr.symm u)
          clear hr hMay hkp hf15 hwk
          generalize kW f = kw at *
          go_enter Try.func30, Try.ntmps30
          go_wp2_with (first
            | (go_at_call 65; (with_reducible refine hpr.out.mono ?_); rintro e w1 ⟨rfl, rfl⟩)
            | (go_at_call 51; (with_reducible refine hof.out.mono ?_); rintro e w2 ⟨va, vc', rfl, hV, hu2⟩; have HU2 := Lib.hid hu2; have HV2 := Lib.hid (ints_upd hV ((Upd.refl (fun _ => False) w2).alloc (.cells #[.slice va f.length vc'] 68))); clear hu2 hV)
            | (go_at_call 52; (with_reducible refine (hkw.out _ _ HV2.out).mono ?_); rintro e w4 ⟨rfl, hu4⟩; have HU4 := Lib.hid ((HU2.out.alloc _).trans hu4); clear hu4))
          refine bodyPost_ret (results_tmp4 rfl _ _ _) rfl ?_
          exact fin.out _ HU4.out
    · rw [if_neg hH] at hr
      unfold parseV at hpr
      rw [if_neg hH] at hpr
      have hpr := Lib.hid hpr
      have fin := Lib.hid (fun w' (u : Upd (fun _ => False) w w') => retDec_no hr.symm u)
      clear hr hH hof
      go_enter Try.func30, Try.ntmps30
      go_wp2_with (go_at_call 65; (with_reducible refine hpr.out.mono ?_); rintro e w1 ⟨rfl, rfl⟩)
      refine bodyPost_ret (results_tmp4 rfl _ _ _) rfl ?_
      exact fin.out _ (Upd.refl _ _)
end Go.Proofs.Ytcnbcidbbeadcaa
