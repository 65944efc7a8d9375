/- An object as words: the document's Encode. -/
import Derived.Test.YtcnbcidbbeadcaaObjE
namespace Go.Proofs.Ytcnbcidbbeadcaa
open Go.RowKit Go.Deep
set_option linter.unusedVariables false
set_option maxRecDepth 100000 in
set_option maxHeartbeats 2000000 in
theorem ref_Encode (v fv : Value) (ks : List (List Int)) (k : Int) (xs : List Val) (ep : Nat) (hep : ep < 2 ^ 64) (hxs : ∀ x ∈ xs, x.ok) (w : World) (hM : MatIn w v ks) (hF : ValsR w fv xs) :
    Calls Try.prog 18 #[v, .int .i64 k, fv, .int .u64 ep] w (RetEnc w (encO ks k xs ep)) := by
  have hr : encO ks k xs ep = match ofK ks k with
    | none => ([], 3)
    | some f => if xs.length ≠ f.length then ([], 4) else match vwTo f xs f.length with
      | none => ([], 3)
      | some ws => (makeN k.toNat (kW f) ep :: ws, 0) := rfl
  generalize encO ks k xs ep = r at *
  have hof := ref_kindOf v ks k w hM
  have hFX := Lib.hid hF
  obtain ⟨fa, fc, rfl, hfc1, hfc2, -⟩ := hF
  have hx1 : (xs.length : Int) ≤ 9223372036854775807 := by unfold maxLen at hfc2; omega
  clear hM hfc1 hfc2
  cases ho : ofK ks k with
  | none =>
    rw [ho] at hof hr
    simp only at hr
    subst hr
    have hof := Lib.hid (hof.mono (fun e w' h => retOf_none h))
    clear ho
    go_enter Try.func18, Try.ntmps18
    go_wp2_with (go_at_call 51; (with_reducible refine hof.out.mono ?_); rintro e w2 ⟨rfl, hu2⟩)
    go_ret2
    exact retEnc_none ((by assumption : Upd (fun _ => False) w _).alloc _)
  | some f =>
    rw [ho] at hof hr
    simp only at hr
    have hof := Lib.hid (hof.mono (fun e w' h => retOf_some h))
    obtain ⟨k0, -, k16, hMay, -⟩ := ofK_some ho
    obtain ⟨hf0, hf15, hok, hkp, hk16⟩ := mayK_facts f hMay
    have l1 : (f.length : Int) ≤ 15 := by omega
    clear ho hMay hok
    by_cases hl : xs.length = f.length
    · rw [if_neg (fun h => h hl)] at hr
      have hl1 : ((xs.length : Int) != f.length) = false := by rw [bne_eq_false_iff_eq]; omega
      obtain ⟨kn, rfl⟩ : ∃ kn : Nat, k = kn := ⟨k.toNat, by omega⟩
      rw [show (kn : Int).toNat = kn from by omega] at hr
      have hmk := Lib.hid (fun w' => ref_header kn (kW f) ep w' (by omega) (by omega) hk16 hep)
      have hkw := Lib.hid (fun v' w' h => ref_KindWords v' f w' h)
      have hml := makeN_lt kn (kW f) ep
      have hval := Lib.hid (fun q (j : Nat) w' => ref_ValueWords q (xs.getD j zeroV) (by
        by_cases hj : j < xs.length
        · have : xs.getD j zeroV = xs[j] := by simp [List.getD, hj]
          rw [this]
          exact hxs _ (List.getElem_mem hj)
        · have : xs.getD j zeroV = zeroV := by simp [List.getD, hj]
          rw [this]
          exact zeroV_ok) w')
      have hlt := Lib.hid (fun j ws (h : vwTo f xs j = some ws) => vwTo_lt hxs h)
      generalize kW f = kw at *
      generalize makeN kn kw ep = hd at *
      have hlen := Lib.hid (fun j ws (hj : j ≤ f.length) (h : vwTo f xs j = some ws) => show ws.length ≤ 30 from by
        have h1 := vwTo_len hj h
        have h2 := sumW_take_le f j
        omega)
      clear k0 k16 hkp hk16 hep hxs
      have Hhr := Lib.hid hr; clear hr
      have Hhl := Lib.hid hl; clear hl
      go_enter Try.func18, Try.ntmps18
      go_wp2_with (first
        | (go_at_call 51; (with_reducible refine hof.out.mono ?_); rintro e w2 ⟨va, vc, rfl, hV, hu2⟩; have HV := Lib.hid hV; have Hu2 := Lib.hid hu2; have HV3 := Lib.hid (ints_upd hV ((Upd.refl (fun _ => False) w2).alloc (.cells #[.slice va f.length vc] 68))); clear hV hu2)
        | (go_at_call 52; (with_reducible refine (hkw.out _ _ HV3.out).mono ?_); rintro e w4 ⟨rfl, hu4⟩; have Hu4 := Lib.hid hu4; clear hu4)
        | (go_at_call 22; (with_reducible refine (hmk.out _).mono ?_); rintro e w5 ⟨rfl, rfl⟩; have Hst := Lib.hid (EncSt.start (hd := hd) Hu2.out HV.out Hu4.out rfl)))
      go_loopw [12, 39] (fun o i wr => ∃ (j : Nat) (ws : List Nat) (oa : Option Addr) (oc n : Nat), o = .slice oa n oc ∧ i = .int .i64 j ∧ j ≤ f.length ∧ vwTo f xs j = some ws ∧ EncSt w wr w2.heap.size f hd ws oa oc n) (fun _ i _ => (f.length - intOf i).toNat)
      case atStart => exact ⟨0, [], _, _, _, rfl, rfl, Nat.zero_le _, rfl, Hst.out⟩
      case round =>
        obtain ⟨j, ws, oa, oc, n, rfl, rfl, hj, hws, w3, va', vc', U3, hB, hV, U2, hn, hown⟩ := hrel
        clear Hst HV3 HV Hu4 Hu2
        by_cases hje : j = f.length
        · have e1 : ¬ ((j : Int) < xs.length) := by have := Hhl.out; omega
          have fin : RetEnc w r (.returned (.tuple #[.slice oa n oc, .int .i64 0])) wr := by
            subst hje
            rw [Hhr.out, hws]
            refine ⟨U3.trans U2, oa, oc, by rw [hn]; rfl, ?_⟩
            subst hn
            exact ownsRow_words (ws := hd :: ws) hown (by
              intro y hy
              rcases List.mem_cons.1 hy with rfl | hy
              · exact hml
              · exact hlt.out _ _ hws y hy)
          clear hown hB hV U3 U2 hje hn
          have Hfin := Lib.hid fin; clear fin
          go_wp2
          go_ret2
          exact Hfin.out
        · have hjl : j < f.length := by omega
          have hjx : j < xs.length := by have := Hhl.out; omega
          have d1 : (j : Int) < f.length := by omega
          have d2 : (j : Int) < xs.length := by have := Hhl.out; omega
          have hBr := hB.upd U2 (fun h => h)
          have cB := hBr.cell 0 rfl
          have hBl := hBr.lt
          obtain ⟨b0, off, hix, hb0, hc⟩ := hV.index (P := Try.prog) Try.underlying52 (by kernel_rfl) (by kernel_rfl) hjl
          simp only [Nat.mul_one] at hix hc
          have hcq : wr.cell? ⟨b0, off + j, none⟩ = some (.int .i64 (f.getD j 0)) := (U2.none.cell (p := ⟨b0, off + j, none⟩) hb0).trans (hc 0 (by decide))
          have hb0' : b0 < wr.heap.size := Nat.lt_of_lt_of_le hb0 U2.size
          obtain ⟨b1, of1, hiy, hb1, hy⟩ := hFX.out.index (P := Try.prog) Try.underlying23 (by kernel_rfl) (by kernel_rfl) hjx
          have U02 := U3.trans U2
          have y0 := (U02.none.cell (p := ⟨b1, of1 + j * 5 + 0, none⟩) hb1).trans (hy 0 (by decide))
          have y1 := (U02.none.cell (p := ⟨b1, of1 + j * 5 + 1, none⟩) hb1).trans (hy 1 (by decide))
          have y2 := (U02.none.cell (p := ⟨b1, of1 + j * 5 + 2, none⟩) hb1).trans (hy 2 (by decide))
          have y3 := (U02.none.cell (p := ⟨b1, of1 + j * 5 + 3, none⟩) hb1).trans (hy 3 (by decide))
          have y4 := (U02.none.cell (p := ⟨b1, of1 + j * 5 + 4, none⟩) hb1).trans (hy 4 (by decide))
          simp only [Nat.add_zero] at y0
          have hvj := hval.out (f.getD j 0) j
          have hsome := fun us => vwTo_succ (us := us) hws
          have hnone := vwTo_fail hws
          generalize f.getD j 0 = q at *
          generalize xs.getD j zeroV = x at *
          generalize of1 + j * 5 = o1 at *
          have hln := hlen.out j ws hj hws
          have hcl : ∃ a n re im rr, x = ⟨a, n, re, im, rr⟩ := ⟨_, _, _, _, _, rfl⟩
          obtain ⟨xa, xn, re, im, rr, rfl⟩ := hcl
          change wr.cell? _ = some (.int .i64 xa) at y0
          change wr.cell? _ = some (.int .i64 xn) at y1
          change wr.cell? _ = some (.int .u64 (re : Int)) at y2
          change wr.cell? _ = some (.int .u64 (im : Int)) at y3
          change wr.cell? _ = some (.int .i64 rr) at y4
          change ∀ w', Calls _ _ #[.int .i64 q, .agg #[.int .i64 xa, .int .i64 xn, .int .u64 (re : Int), .int .u64 (im : Int), .int .i64 rr]] w' _ at hvj
          have hal : Upd (fun _ => False) wr (wr.alloc (.cells #[.int .i64 xa, .int .i64 xn, .int .u64 (re : Int), .int .u64 (im : Int), .int .i64 rr] 26)).drew := ((Upd.refl _ _).alloc _).drew
          have cB2 := (hal.none.cell (p := ⟨w2.heap.size, 0, none⟩) hBl).trans cB
          have hcq2 := (hal.none.cell (p := ⟨b0, off + j, none⟩) hb0').trans hcq
          generalize hxe : (⟨xa, xn, re, im, rr⟩ : Val) = x at *
          clear hxe hc hy hjx
          have hrow : ∀ k, (Value.slice oa n oc).ownBlock = some k → w3.heap.size ≤ k := fun k e => ownBlock_le hown (by omega) e
          cases hv : vw q x with
          | none =>
            rw [hv] at hvj
            have hvj := Lib.hid (fun w' => (hvj w').mono (fun e w'' h => retVW_inv_none h))
            have hrn : r = ([], 3) := by rw [Hhr.out, hnone hv f.length hjl]
            have fin := Lib.hid (fun w' (u : Upd (fun _ => False) w w') => show RetEnc w r (.returned (.tuple #[.slice none 0 0, .int .i64 3])) w' from hrn ▸ retEnc_none u)
            clear hrow hown hv hsome hnone hws hB hV U3 U2 hln hn hrn hBr
            have HU02 := Lib.hid U02; clear U02
            have Hhal := Lib.hid hal; clear hal
            go_wp2_with fail
            go_region_with (go_at_call 53; (with_reducible refine (hvj.out _).mono ?_); rintro e w4 ⟨rfl, hu4⟩)
            all_goals go_wp2
            all_goals go_ret2
            all_goals exact fin.out _ ((HU02.out.trans Hhal.out).trans (by assumption))
          | some us =>
            rw [hv] at hvj
            have hvj := Lib.hid (fun w' => (hvj w').mono (fun e w'' h => retVW_inv_some h))
            have hws2 := hsome us hv
            have hlu : us.length ≤ 30 := by
              have := hlen.out (j + 1) _ hjl hws2
              rw [List.length_append] at this
              omega
            have hcap : n + us.length ≤ 1099511627776 := by omega
            have hszz := U2.size
            have hEA := Lib.hid (fun w4 w5 oa' oc' (h6 : Upd (fun _ => False) wr w4) hg ho => EncSt.append (hd := hd) (w4 := w4) (w5 := w5) (us := us) (oa' := oa') (oc' := oc') U3 hB hV U2 hn h6 hrow hg ho)
            clear hv hsome hnone hws hB hV U3 U02 hln hrow hn hje hBr
            have Hhown := Lib.hid hown; clear hown
            have HU2 := Lib.hid U2; clear U2
            have Hhws2 := Lib.hid hws2; clear hws2
            have Hhal := Lib.hid hal; clear hal
            go_wp2_with fail
            go_region_with (go_at_call 53; (with_reducible refine (hvj.out _).mono ?_); rintro e w4 ⟨g, c, rfl, hW, hu4⟩; have hu4' : Upd (fun _ => False) wr w4 := Hhal.out.trans hu4; have HW := Lib.hid hW.ints; have Ho4 := Lib.hid (ownsRow_keep Hhown.out hu4'); have hz4 := Nat.le_trans hszz hu4'.size; clear hW hu4)
            all_goals go_wp2_with (at_builtin; refine wpList_appendOnto rfl _ _ 29 24 rfl (.int .u64 0) 8 Try.underlying29 infoU64 rfl w3.heap.size _ _ _ rfl Ho4.out _ us.length c .u64 _ (List.length_map _).symm rfl HW.out hcap (by decide) hz4 ?_; intro oa' oc' w5 ho5 hg5; have HE := Lib.hid (hEA.out w4 w5 oa' oc' hu4' hg5 ho5); clear ho5 hg5)
            all_goals go_roundw
            all_goals first
              | exact ⟨j + 1, ws ++ us, oa', oc', n + us.length, rfl, by go_num, by omega, Hhws2.out, HE.out⟩
              | (simp [intOf]; omega)
    · rw [if_pos hl] at hr
      subst hr
      have hl1 : ((xs.length : Int) != f.length) = true := by rw [bne_iff_ne]; omega
      clear hl hf0 hf15 hkp hk16
      go_enter Try.func18, Try.ntmps18
      go_wp2_with (go_at_call 51; (with_reducible refine hof.out.mono ?_); rintro e w2 ⟨va, vc, rfl, hV, hu2⟩)
      go_ret2
      exact retEnc_none ((by assumption : Upd (fun _ => False) w _).alloc _)
end Go.Proofs.Ytcnbcidbbeadcaa
