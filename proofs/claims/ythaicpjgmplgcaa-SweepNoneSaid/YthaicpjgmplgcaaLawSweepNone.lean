/- Where all that is used is marked nothing is told; where nothing is marked all that is used; of weak roots those that are none never. No condition. -/
import Derived.Test.YthaicpjgmplgcaaSweepP
import Derived.SizedLaws
import Derived.Deep.DrawnRows
import Derived.Deep.DeepCutAuto
import Derived.Deep.CutBlock
namespace Go.Proofs.Ythaicpjgmplgcaa.sweepNone
open Go.ChangeShapes Go.WideShapes Go.ChangeAt Go.RowKit
set_option linter.unusedVariables false

set_option maxRecDepth 100000 in
set_option maxHeartbeats 2000000 in
theorem walk {W : World} (nv : Value) (x : Int × Int × Int × Int) (hnv : Arr4 W nv x) (v1 : Value) (xs : List Int) (hx : IntsIn W v1 .u64 xs ∧ xs.length * 8 ≤ 140737488351232) (v2 : Value) (ws : List Int) (hw : IntsIn W v2 .i64 ws ∧ ws.length * 8 ≤ 140737488351232) :
    Calls Try.prog 6 #[nv, v1, v2] W (LawPost W) := by
  obtain ⟨us, hus, -⟩ := intsIn_words hx.1
  obtain ⟨hw, hwl⟩ := hw
  obtain ⟨va, vc, hv2⟩ := ints_shape hw
  subst hv2
  have hlI : (ws.length : Int) ≤ 17592186044416 := by omega
  obtain ⟨x0, x1, x2, x3⟩ := x
  unfold Arr4 at hnv
  subst hnv
  simp only
  obtain ⟨Wb, hWb⟩ : ∃ Wb, Wb = W.alloc (.cells #[.int .i64 x0, .int .i64 x1, .int .i64 x2, .int .i64 x3] 22) := ⟨_, rfl⟩
  have ub : Upd (fun _ => False) W Wb := by rw [hWb]; exact (Upd.refl _ _).alloc _
  have hc := law_config20 x0 x1 x2 x3 Wb
  unfold ConfigPost cfgV at hc
  have Hhc := Lib.hid hc; clear hc
  have Hhus := Lib.hid hus; clear hus
  have Hhw := Lib.hid hw; clear hw
  have Hub := Lib.hid ub; clear ub
  clear hx
  go_enter Try.func6, Try.ntmps6
  go_wp2_with fail
  rw [← hWb]
  refine Hhc.out.mono ?_
  rintro e w1 ⟨v, n0, n1, n2, n3, rfl, h0, h1, h2, h3, hs, hM, hu1⟩
  have hl := lay_config h0 h1 h2 h3 hs hM
  unfold LayPost at hl
  have u1 := Hub.out.trans hu1
  have Hhl := Lib.hid hl; clear hl
  have Hu1 := Lib.hid u1; clear u1
  clear hu1 hM
  go_wp2_with fail
  refine Hhl.out.mono ?_
  rintro e w2 ⟨L, rfl, hL, hLz, hu2⟩
  have u2 := Hu1.out.trans hu2
  have HhL := Lib.hid hL; clear hL
  have Hu2 := Lib.hid u2; clear u2
  clear hu2 hLz Hu1 Hhl
  by_cases h40 : 40 < ws.length
  · have e1 : (40 : Int) < ws.length := by omega
    have haw := awake20 W w2 Hu2.out
    have Hhaw := Lib.hid haw; clear haw
    go_wp2_with (go_at_call 21; (with_reducible refine Hhaw.out.mono ?_); rintro e w9 ⟨rfl, hu⟩)
    go_ret
    exact ⟨rfl, hu.none⟩
  · have e1 : ¬ ((40 : Int) < ws.length) := by omega
    have h1000 : ws.length ≤ 1000 := by omega
    have e2 : (ws.length : Int) ≤ 40 := by omega
    obtain ⟨N, hN⟩ : ∃ N, sumN n0 n1 n2 n3 = N := ⟨_, rfl⟩
    have hN2 : N ≤ 160 := by rw [← hN]; unfold sumN; omega
    have hN2I : (N : Int) ≤ 160 := by omega
    have hbl : ∀ w', Upd (fun _ => False) w2 w' → Calls Try.prog 22 #[.pointer (some ⟨L, 0, none⟩)] w' (RetK w' (.int .i64 N)) := fun w' u' => by
      have := lay_Blocks L n0 n1 n2 n3 h0 h1 h2 h3 w' (HhL.out.upd u' (fun x => x))
      rw [hN] at this
      exact this
    unfold RetK at hbl
    have hb2 := hbl w2 (Upd.refl _ _)
    have Hhb2 := Lib.hid hb2; clear hb2
    have Hhbl := Lib.hid hbl; clear hbl
    clear h40
    go_wp2_with fail
    refine Hhb2.out.mono ?_
    rintro e w4 ⟨rfl, u4⟩
    have hof := map_OfF (N : Int) v1 us w4 (Hhus.out.upd (Hu2.out.trans u4).none)
    unfold OfPost at hof
    rw [show (max 0 (min (N : Int) 1048576)).toNat = N from by omega] at hof
    have Hhof := Lib.hid hof; clear hof
    have Hu4 := Lib.hid u4; clear u4
    clear Hhb2
    go_wp2_with fail
    refine Hhof.out.mono ?_
    rintro e w5 ⟨b1, g1, rfl, hM1, -, -, u5⟩
    have u25 := Hu4.out.trans u5
    have hpg : Calls Try.prog 23 #[.pointer (some ⟨L, 0, none⟩)] w5 (RetK w5 (.int .i64 (((sumN n0 n1 n2 n3 + 7) / 8 : Nat) : Int))) := lay_Pages L n0 n1 n2 n3 h0 h1 h2 h3 w5 (HhL.out.upd u25 (fun x => x))
    obtain ⟨P, hP⟩ : ∃ P, (N + 7) / 8 = P := ⟨_, rfl⟩
    rw [hN, hP] at hpg
    unfold RetK at hpg
    have hP2I : (P : Int) ≤ 20 := by omega
    have Hhpg := Lib.hid hpg; clear hpg
    have Hu25 := Lib.hid u25; clear u25
    have HhM1 := Lib.hid hM1; clear hM1
    clear u5 Hhof Hu4
    go_wp2_with fail
    refine Hhpg.out.mono ?_
    rintro e w6 ⟨rfl, u6⟩
    have u26 := Hu25.out.trans u6
    have hM6 := HhM1.out.upd u6 (fun x => x) (fun x => x)
    have hp1 := fun w' (k : Upd (fun _ => False) w6 w') p => sweep_Page (HhL.out.upd (u26.trans k) (fun x => x)) h0 h1 h2 h3 (gets_map (hM6.upd k (fun x => x) (fun x => x))) (gets_map (hM6.upd k (fun x => x) (fun x => x))) p
    have hp2 := fun w' (k : Upd (fun _ => False) w6 w') b2 g2 (h : MapF w' b2 g2 N (fun _ => false)) p => sweep_Page (HhL.out.upd (u26.trans k) (fun x => x)) h0 h1 h2 h3 (gets_map (hM6.upd k (fun x => x) (fun x => x))) (gets_map h) p
    have hbl6 := fun w' (k : Upd (fun _ => False) w6 w') => Hhbl.out w' (u26.trans k)
    have hnew := fun w' => map_New (N : Int) w'
    rw [show (max 0 (min (N : Int) 1048576)).toNat = N from by omega] at hnew
    have hcnt := fun w' (k : Upd (fun _ => False) w6 w') => map_CountF b1 g1 N (bitW us) w' (hM6.upd k (fun x => x) (fun x => x))
    rw [hN] at hp1 hp2
    have hp1 : ∀ w' (k : Upd (fun _ => False) w6 w') p, Calls Try.prog 18 #[.pointer (some ⟨L, 0, none⟩), .pointer (some ⟨b1, 0, none⟩), .pointer (some ⟨b1, 0, none⟩), .int .i64 p] w' (RetInts w' []) := fun w' k p => by
      have := hp1 w' k p
      rw [page_none] at this
      exact this
    have u06 := Hu2.out.trans u26
    unfold RetInts at hp1 hp2
    have hm0 : ∀ b, bitI N (fun _ => false) b = false := fun b => by unfold bitI; simp
    have Hhp1 := Lib.hid hp1; clear hp1
    have Hhp2 := Lib.hid hp2; clear hp2
    have Hhbl6 := Lib.hid hbl6; clear hbl6
    have Hhnew := Lib.hid hnew; clear hnew
    have Hhcnt := Lib.hid hcnt; clear hcnt
    have Hu06 := Lib.hid u06; clear u06
    have HhP := Lib.hid hP; clear hP
    have Hhm0 := Lib.hid hm0; clear hm0
    clear u6 u26 hM6 Hhpg HhM1 Hu25 Hhbl h0 h1 h2 h3 hs hN Hhc hWb Hub
    generalize hUe : bitI N (bitW us) = u at *
    generalize hMe : bitI N (fun _ => false) = m at *
    have HhUe := Lib.hid hUe; clear hUe
    have HhMe := Lib.hid hMe; clear hMe
    go_upto_block 0 with fail
    go_cut [10] (fun k wx => k = .int .i64 (tk N u m N).length ∧ Upd (fun _ => False) w6 wx)
    case first =>
      go_wp2_with fail
      go_loopw [45, 10] (fun i k wr => ∃ q : Nat, i = .int .i64 q ∧ q ≤ P ∧ k = .int .i64 (tk N u m (q * 8)).length ∧ Upd (fun _ => False) w6 wr) (fun i _ _ => (P - intOf i).toNat)
      case atStart => exact ⟨0, rfl, Nat.zero_le _, rfl, Upd.refl _ _⟩
      case round =>
        obtain ⟨q, rfl, hq, rfl, hu⟩ := hrel
        by_cases hqP : q = P
        · have e1 : ¬ ((q : Int) < P) := by omega
          have hall : tk N u m (q * 8) = tk N u m N := by
            rw [hqP, ← HhP.out, Nat.mul_comm]
            exact tk_all N u m
          rw [hall]
          have Hhu := Lib.hid hu; clear hu
          clear hqP hall
          go_wp2_with fail
          go_meet
          exact ⟨rfl, Hhu.out⟩
        · have e1 : (q : Int) < P := by omega
          have hpl : pageL N u m (q : Int) = pageTo N u m q 8 := by
            unfold pageL
            rw [if_neg (by have := HhP.out; omega), Int.toNat_natCast]
          have htk := tk_page N u m q 8
          have hst : (((tk N u m ((q + 1) * 8)).length : Nat) : Int) = ((tk N u m (q * 8)).length : Int) + (pageTo N u m q 8).length := by
            rw [show (q + 1) * 8 = q * 8 + 8 from by omega, ← htk, List.length_append]
            simp
          have hl1 := tk_len N u m (q * 8)
          have hl2 := pageTo_len N u m q 8
          have hl1I : ((tk N u m (q * 8)).length : Int) ≤ 400 := by omega
          have hl2I : ((pageTo N u m q 8).length : Int) ≤ 8 := by omega
          have ha := Hhp1.out wr hu (q : Int)
          have hb := fun w' k b2 g2 h => Hhp2.out w' k b2 g2 h (q : Int)
          rw [hpl] at hb
          generalize pageTo N u m q 8 = ps at *
          generalize (tk N u m (q * 8)).length = tl at *
          have hbb := fun w' k => Hhbl6.out w' k
          have hnn := fun w' => Hhnew.out w'
          have Hha := Lib.hid ha; clear ha
          have Hhb := Lib.hid hb; clear hb
          have Hhbb := Lib.hid hbb; clear hbb
          have Hhnn := Lib.hid hnn; clear hnn
          have Hhu := Lib.hid hu; clear hu
          have Hhst := Lib.hid hst; clear hst
          clear hqP hpl htk hl1 hl2
          go_wp2_with fail
          refine Hha.out.mono ?_
          rintro e w8 ⟨pa, pc, rfl, hpo, u8⟩
          have Hu8 := Lib.hid (Hhu.out.trans u8)
          have hb8 := Hhbb.out w8 Hu8.out
          have hpc : ([] : List Int).length = 0 := rfl
          simp only [hpc]
          have Hhb8 := Lib.hid hb8; clear hb8
          clear hpo u8
          go_wp2_with fail
          refine Hhb8.out.mono ?_
          rintro e w9 ⟨rfl, u9⟩
          have Hu9 := Lib.hid (Hu8.out.trans u9)
          have hn9 := Hhnn.out w9
          have Hhn9 := Lib.hid hn9; clear hn9
          clear u9
          go_wp2_with fail
          refine Hhn9.out.mono ?_
          rintro e w10 ⟨rfl, hMn, u10, -⟩
          have Hu10 := Lib.hid (Hu9.out.trans u10)
          have hp10 := Hhb.out w10 Hu10.out _ _ hMn
          have Hhp10 := Lib.hid hp10; clear hp10
          clear u10 hMn
          go_wp2_with fail
          refine Hhp10.out.mono ?_
          rintro e w11 ⟨qa, qc, rfl, hqo, u11⟩
          have Hu11 := Lib.hid (Hu10.out.trans u11)
          clear hqo u11
          go_wp2_with fail
          go_roundw
          case rel => exact ⟨q + 1, by go_num, by omega, by rw [Hhst.out], Hu11.out⟩
          case measure => simp [intOf]; omega
    case rest =>
      obtain ⟨rfl, hu⟩ := hcut
      have hI : IntsR wc (.slice va ws.length vc) .i64 ws := ints_upd (show IntsR W _ .i64 ws from Hhw.out.1) (Hu06.out.trans hu)
      have hwk := sweep_Weak _ ws _ _ h1000 wc hI (gets_nil wc)
      unfold RetInts at hwk
      have hl1 := tk_len N u m N
      have hl1I : ((tk N u m N).length : Int) ≤ 400 := by omega
      have hcn : (tk N u m N).length = countN (bitW us) N := by
        rw [← HhUe.out]
        exact tk_count N (bitW us) m Hhm0.out N (Nat.le_refl _)
      have Hhu := Lib.hid hu; clear hu
      have Hhwk := Lib.hid hwk; clear hwk
      have Hhcn := Lib.hid hcn; clear hcn
      clear hI hl1
      go_wp2_with fail
      refine Hhwk.out.mono ?_
      rintro e w8 ⟨pa, pc, rfl, hpo, u8⟩
      have Hu8 := Lib.hid (Hhu.out.trans u8)
      have hlw2 : (weakL ws fun _ => false).length ≤ ws.length := weakTo_len ws _ _
      have Hhpo := Lib.hid hpo; clear hpo
      clear u8 Hhwk
      go_wp2_with fail
      go_loop [70, 12] (fun i c => ∃ z : Nat, i = .int .i64 z ∧ z ≤ ws.length ∧ c = .int .i64 (weakTo ws (fun _ => false) z).length) (fun i _ => (ws.length - intOf i).toNat)
      case atStart => exact ⟨0, rfl, Nat.zero_le _, rfl⟩
      case round =>
        obtain ⟨z, rfl, hz, rfl⟩ := hrel
        have hlz := weakTo_len ws (fun _ => false) z
        by_cases hzl : z = ws.length
        · have e1 : ¬ ((z : Int) < ws.length) := by omega
          subst hzl
          have hct := Hhcnt.out w8 Hu8.out
          unfold RetU at hct
          rw [← Hhcn.out] at hct
          have haw := fun w' (k : Upd (fun _ => False) w8 w') => awake20 W w' ((Hu06.out.trans Hu8.out).trans k)
          rw [show weakTo ws (fun _ => false) ws.length = weakL ws (fun _ => false) from rfl]
          have Hhct := Lib.hid hct; clear hct
          have Hhaw := Lib.hid haw; clear haw
          go_wp2_with (first
            | (go_at_call 28; (with_reducible refine Hhct.out.mono ?_); rintro e w9 ⟨rfl, hu9⟩)
            | (go_at_call 21; (with_reducible refine (Hhaw.out _ (by assumption)).mono ?_); rintro e w10 ⟨rfl, hu⟩))
          go_ret
          exact ⟨rfl, hu.none⟩
        · have e1 : (z : Int) < ws.length := by omega
          have hz3 : z < ws.length := by omega
          obtain ⟨b3, off3, hix3, hcc⟩ := int_at Hhw.out hz3
          have hcell := hcc w8 (Hu06.out.trans Hu8.out).none
          have hst : weakTo ws (fun _ => false) (z + 1) = weakTo ws (fun _ => false) z ++ (if decide (0 ≤ ws.getD z 0) && !false then [(z : Int)] else []) := rfl
          have hat := weak_at ws (fun _ => false) z hz3
          generalize ws.getD z 0 = b at *
          by_cases t1 : b < 0
          · rw [decide_eq_false (by omega), Bool.false_and, if_neg (by simp), List.append_nil] at hst
            have Hhst := Lib.hid hst; clear hst
            clear hzl hcc hat hlz
            go_wp2_with fail
            go_round
            case rel => exact ⟨z + 1, by go_num, by omega, by rw [Hhst.out]⟩
            case measure => simp [intOf]; omega
          · rw [decide_eq_true (by omega)] at hst hat
            rw [if_pos (by simp)] at hst
            obtain ⟨k1, k2⟩ := hat (by simp)
            obtain ⟨g2, hix2, -, -, hcell2, -, -⟩ := ownsRow_index Hhpo.out (P := Try.prog) Try.underlying37 (by kernel_rfl) (by kernel_rfl) k1
            have hcell5 : w8.cell? ⟨g2, (weakTo ws (fun _ => false) z).length, none⟩ = some (.int .i64 z) := by
              rw [hcell2, ← k2]
              simp [ints, List.getD, k1]
            have k3 : (((weakTo ws (fun _ => false) (z + 1)).length : Nat) : Int) = ((weakTo ws (fun _ => false) z).length : Int) + 1 := by rw [hst]; simp
            have e5 : ¬ ((weakL ws fun _ => false).length ≤ (weakTo ws (fun _ => false) z).length) := by omega
            have e3 : ((weakTo ws (fun _ => false) z).length : Int) < (weakL ws fun _ => false).length := by omega
            have e4 : ((weakTo ws (fun _ => false) z).length : Int) ≤ 200 := by omega
            generalize (weakTo ws (fun _ => false) z).length = q at *
            have Hhst := Lib.hid hst; clear hst
            have Hk2 := Lib.hid k2; clear k2
            have Hk3 := Lib.hid k3; clear k3
            clear hzl hat hcell2 hcc hlz
            go_wp2_with fail
            go_round
            case rel => exact ⟨z + 1, by go_num, by omega, by rw [Hk3.out]⟩
            case measure => simp [intOf]; omega

theorem own : ownKnob Try.prog.godebug = none := by kernel_rfl
theorem laidOut : laidOutB Try.prog = true := by kernel_rfl
set_option maxRecDepth 100000 in
theorem lifted (os : Os) (started : os.Started) (H : Type) (enc : TypeId × Value → H) :
    ReturnsInHanded {} Try.checked os 6 .any (Rows.sweepNoneSpec.pre6 enc Try.prog Try.f6 Rows.sweepNoneRow.domain false) (Rows.sweepNoneSpec.post enc Try.prog Try.f6 false true false false) := by
  refine returnsInHanded_of_change_sized (C := Try.checked) own started (by kernel_rfl) Try.func6
    (ChangeSpec.witness6 (enc := enc) (C := Try.checked) false ⟨#[], #[.agg #[.int .i64 0, .int .i64 0, .int .i64 0, .int .i64 0], .slice none 0 0, .slice none 0 0], []⟩ 8 (by kernel_rfl) (by kernel_rfl) (by kernel_rfl) (by kernel_rfl)) ?_
  intro W base args ds gs before hval0 hW _ hsz0 _
  have hsz : (DataW.weightsEach Try.prog (Try.f6.params.toList ++ Rows.sweepNoneSpec.plain.varTypes Try.prog) (ds ++ gs)).all (· ≤ reachBytes) = true := hsz0
  clear hsz0
  have hval : ∀ (j : Nat) t v, Try.f6.params[j]? = some t → args[j]? = some v → Value.okWide Try.prog W .any base t v := hval0
  have hW' := hW
  obtain ⟨p, q, hA0, hV, rfl, _, _⟩ := hW
  have hA : DataW.TrodAll enc Try.prog W 0 (fun _ => true) true Try.f6.params.toList args.toList ds p := hA0
  rw [Try.params6] at hA hval hsz
  obtain ⟨v0, vs0, d0, ds0, p0, q0, hargs, rfl, rfl, h0, r0⟩ := trodAll_cons hA
  obtain ⟨v1, vs1, d1, ds1, p1, q1, rfl, rfl, rfl, h1, r1⟩ := trodAll_cons r0
  obtain ⟨v2, vs2, d2, ds2, p2, q2, rfl, rfl, rfl, h2, r2⟩ := trodAll_cons r1
  obtain ⟨rfl, rfl, rfl⟩ := trodAll_nil r2
  obtain rfl : args = #[v0, v1, v2] := by cases args; simp_all
  obtain ⟨rfl, rfl⟩ := trodVars_none hV
  clear hA0 hval0
  simp only [List.append_nil] at hW'
  have hlt : ∀ x, (x ∈ p0 ∨ x ∈ p1 ∨ x ∈ p2) → x.block < W.heap.size := fun x hx => by simpa using hW'.lt x (by simpa using hx)
  have k0 : ∀ (W' : World), Below W.heap.size W W' → DataW.Trod enc Try.prog W' 0 (fun b => decide (b < W.heap.size)) true 22 v0 d0 p0 :=
    fun W' hn => Below.trod laidOut (by kernel_rfl) (of_decide_eq_true (by kernel_rfl)) h0 hn (fun x hx => hlt x (Or.inl hx))
  have k1 : ∀ (W' : World), Below W.heap.size W W' → DataW.Trod enc Try.prog W' 0 (fun b => decide (b < W.heap.size)) true 23 v1 d1 p1 :=
    fun W' hn => Below.trod laidOut (by kernel_rfl) (of_decide_eq_true (by kernel_rfl)) h1 hn (fun x hx => hlt x (Or.inr (Or.inl hx)))
  have k2 : ∀ (W' : World), Below W.heap.size W W' → DataW.Trod enc Try.prog W' 0 (fun b => decide (b < W.heap.size)) true 37 v2 d2 p2 :=
    fun W' hn => Below.trod laidOut (by kernel_rfl) (of_decide_eq_true (by kernel_rfl)) h2 hn (fun x hx => hlt x (Or.inr (Or.inr (hx))))
  obtain ⟨x0, hx0⟩ := open_arr4At Try.underlying22 Try.underlying3 (by kernel_rfl) (by kernel_rfl) (hval 0 22 v0 rfl rfl) h0 hsz 0 rfl rfl
  obtain ⟨x1, hx1⟩ := open_intsAt (bytes := 8) Try.underlying23 Try.underlying82 (by kernel_rfl) (by kernel_rfl) (hval 1 23 v1 rfl rfl) h1 hsz 1 rfl rfl
  obtain ⟨x2, hx2⟩ := open_intsAt (bytes := 8) Try.underlying37 Try.underlying3 (by kernel_rfl) (by kernel_rfl) (hval 2 37 v2 rfl rfl) h2 hsz 2 rfl rfl
  refine (walk (W := W) v0 x0 hx0 v1 x1 hx1 v2 x2 hx2).mono fun e W' ⟨he, hb⟩ => ?_
  subst he
  refine ⟨_, rfl, _, _, _, [], p0 ++ (p1 ++ (p2 ++ ([]))), [], hW', ?_, ?_, rfl, hb.frame _, fun h => by cases h⟩
  · exact trodAll_cons_mk (shut_bool Try.underlying4 true) trodAll_mk0
  · exact trodAll_cons_mk (k0 _ hb) (trodAll_cons_mk (k1 _ hb) (trodAll_cons_mk (k2 _ hb) (trodAll_mk0)))

theorem over : Rows.sweepNoneRow.holds Try.pinned (OpenSpec.ofChange Rows.sweepNoneSpec) :=
  OpenClaim.holds_of_wide 6 Try.f6 rfl rfl rfl rfl rfl rfl rfl ⟨rfl, rfl, rfl, rfl, rfl⟩ rfl rfl rfl rfl rfl (by kernel_rfl) Try.func6 (by kernel_rfl)
    (of_decide_eq_true (by kernel_rfl)) (by unfold Func.isWrapper; first | (rw [if_pos (by decide +kernel)]; kernel_rfl) | (rw [if_neg (by decide +kernel)]; exact ⟨rfl, rfl⟩))
    (fun os started H enc _ => lifted os started H enc)

/-- The given statement. -/
theorem proved : Rows.SweepNoneSaid := over
#print axioms proved
end Go.Proofs.Ythaicpjgmplgcaa.sweepNone
