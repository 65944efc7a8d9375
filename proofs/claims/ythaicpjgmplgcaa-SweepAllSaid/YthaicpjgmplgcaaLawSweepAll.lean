/- Over all pages each block that is used and not marked is told once, in order, and no other. No condition. -/
import Derived.Test.YthaicpjgmplgcaaSweepP
import Derived.SizedLaws
import Derived.Deep.DrawnRows
import Derived.Deep.DeepCutAuto
import Derived.Deep.CutBlock
namespace Go.Proofs.Ythaicpjgmplgcaa.sweepAll
open Go.ChangeShapes Go.WideShapes Go.ChangeAt Go.RowKit
set_option linter.unusedVariables false

structure Lo (W : World) (L n0 n1 n2 n3 : Nat) (pu pm : Value) (u m : Int → Bool) (w : World) : Prop where
  lay : IsLay w L n0 n1 n2 n3
  gu : GetsAs w pu u
  gm : GetsAs w pm m
  up : Upd (fun _ => False) W w
theorem Lo.still {W w w' : World} {L n0 n1 n2 n3 : Nat} {pu pm : Value} {u m : Int → Bool} (h : Lo W L n0 n1 n2 n3 pu pm u m w) (k : Upd (fun _ => False) w w') : Lo W L n0 n1 n2 n3 pu pm u m w' :=
  ⟨h.lay.upd k (fun x => x), h.gu.later k, h.gm.later k, h.up.trans k⟩

set_option maxRecDepth 100000 in
set_option maxHeartbeats 2000000 in
theorem walk {W : World} (nv : Value) (x : Int × Int × Int × Int) (hnv : Arr4 W nv x) (v1 : Value) (xs : List Int) (hx : IntsIn W v1 .u64 xs ∧ xs.length * 8 ≤ 140737488351232) (v2 : Value) (ys : List Int) (hy : IntsIn W v2 .u64 ys ∧ ys.length * 8 ≤ 140737488351232) :
    Calls Try.prog 4 #[nv, v1, v2] W (LawPost W) := by
  obtain ⟨us, hus, -⟩ := intsIn_words hx.1
  obtain ⟨ms, hms, -⟩ := intsIn_words hy.1
  obtain ⟨x0, x1, x2, x3⟩ := x
  unfold Arr4 at hnv
  subst hnv
  simp only
  obtain ⟨Wb, hWb⟩ : ∃ Wb, Wb = W.alloc (.cells #[.int .i64 x0, .int .i64 x1, .int .i64 x2, .int .i64 x3] 22) := ⟨_, rfl⟩
  have ub : Upd (fun _ => False) W Wb := by rw [hWb]; exact (Upd.refl _ _).alloc _
  have hc := law_config20 x0 x1 x2 x3 Wb
  unfold ConfigPost cfgV at hc
  have Hhc := Lib.hid hc; clear hc
  have Hhus := Lib.hid hus; clear hus
  have Hhms := Lib.hid hms; clear hms
  have Hub := Lib.hid ub; clear ub
  clear hx hy
  go_enter Try.func4, Try.ntmps4
  go_wp2_with fail
  rw [← hWb]
  refine Hhc.out.mono ?_
  rintro e w1 ⟨v, n0, n1, n2, n3, rfl, h0, h1, h2, h3, hs, hM, hu1⟩
  have hl := lay_config h0 h1 h2 h3 hs hM
  unfold LayPost at hl
  have u1 := Hub.out.trans hu1
  have Hhl := Lib.hid hl; clear hl
  have Hu1 := Lib.hid u1; clear u1
  clear hu1 hM
  go_wp2_with fail
  refine Hhl.out.mono ?_
  rintro e w2 ⟨L, rfl, hL, hLz, hu2⟩
  obtain ⟨N, hN⟩ : ∃ N, sumN n0 n1 n2 n3 = N := ⟨_, rfl⟩
  have hN1 : 1 ≤ N := by rw [← hN]; unfold sumN; omega
  have hN2 : N ≤ 160 := by rw [← hN]; unfold sumN; omega
  have hN1I : ¬ ((N : Int) < 1) := by omega
  have hN2I : (N : Int) ≤ 160 := by omega
  have hbl : ∀ w', Upd (fun _ => False) w2 w' → Calls Try.prog 22 #[.pointer (some ⟨L, 0, none⟩)] w' (RetK w' (.int .i64 N)) := fun w' u' => by
    have := lay_Blocks L n0 n1 n2 n3 h0 h1 h2 h3 w' (hL.upd u' (fun x => x))
    rw [hN] at this
    exact this
  unfold RetK at hbl
  have hb1 := hbl w2 (Upd.refl _ _)
  have u2 := Hu1.out.trans hu2
  have HhL := Lib.hid hL; clear hL
  have Hu2 := Lib.hid u2; clear u2
  have Hhbl := Lib.hid hbl; clear hbl
  have Hhb1 := Lib.hid hb1; clear hb1
  have HhN := Lib.hid hN; clear hN
  clear hu2 hLz Hu1 Hhl
  go_wp2_with fail
  refine Hhb1.out.mono ?_
  rintro e w3 ⟨rfl, u3⟩
  have hb2 := Hhbl.out w3 u3
  have Hhb2 := Lib.hid hb2; clear hb2
  have Hu3 := Lib.hid u3; clear u3
  clear Hhb1
  go_wp2_with fail
  refine Hhb2.out.mono ?_
  rintro e w4 ⟨rfl, u4⟩
  have u24 := Hu3.out.trans u4
  have hof := map_OfF (N : Int) v1 us w4 (Hhus.out.upd (Hu2.out.trans u24).none)
  unfold OfPost at hof
  rw [show (max 0 (min (N : Int) 1048576)).toNat = N from by omega] at hof
  have Hhof := Lib.hid hof; clear hof
  have Hu24 := Lib.hid u24; clear u24
  clear u4 Hhb2 Hu3
  go_wp2_with fail
  refine Hhof.out.mono ?_
  rintro e w5 ⟨b1, g1, rfl, hM1, -, -, u5⟩
  have u25 := Hu24.out.trans u5
  have hb3 := Hhbl.out w5 u25
  have Hhb3 := Lib.hid hb3; clear hb3
  have Hu25 := Lib.hid u25; clear u25
  have HhM1 := Lib.hid hM1; clear hM1
  clear u5 Hhof Hu24
  go_wp2_with fail
  refine Hhb3.out.mono ?_
  rintro e w6 ⟨rfl, u6⟩
  have u26 := Hu25.out.trans u6
  have hof := map_OfF (N : Int) v2 ms w6 (Hhms.out.upd (Hu2.out.trans u26).none)
  unfold OfPost at hof
  rw [show (max 0 (min (N : Int) 1048576)).toNat = N from by omega] at hof
  have hM2 := HhM1.out.upd u6 (fun x => x) (fun x => x)
  have Hhof := Lib.hid hof; clear hof
  have Hu26 := Lib.hid u26; clear u26
  have HhM2 := Lib.hid hM2; clear hM2
  clear u6 Hhb3 Hu25 HhM1
  go_wp2_with fail
  refine Hhof.out.mono ?_
  rintro e w7 ⟨b2, g2, rfl, hM3, -, -, u7⟩
  have u27 := Hu26.out.trans u7
  have hlo : Lo W L n0 n1 n2 n3 (.pointer (some ⟨b1, 0, none⟩)) (.pointer (some ⟨b2, 0, none⟩)) (bitI N (bitW us)) (bitI N (bitW ms)) w7 :=
    ⟨HhL.out.upd u27 (fun x => x), gets_map (HhM2.out.upd u7 (fun x => x) (fun x => x)), gets_map hM3, Hu2.out.trans u27⟩
  generalize Value.pointer (some ⟨b1, 0, none⟩) = pu at *
  generalize Value.pointer (some ⟨b2, 0, none⟩) = pm at *
  generalize bitI N (bitW us) = u at *
  generalize bitI N (bitW ms) = m at *
  have hrow := RowAt.nil w7 w7 (Upd.refl _ _)
  have hblk := fun w' (h : Lo W L n0 n1 n2 n3 pu pm u m w') => lay_Blocks L n0 n1 n2 n3 h0 h1 h2 h3 w' h.lay
  have hpgs := fun w' (h : Lo W L n0 n1 n2 n3 pu pm u m w') => lay_Pages L n0 n1 n2 n3 h0 h1 h2 h3 w' h.lay
  have hpage := fun w' p (h : Lo W L n0 n1 n2 n3 pu pm u m w') => sweep_Page h.lay h0 h1 h2 h3 h.gu h.gm p
  rw [HhN.out] at hblk hpgs hpage
  unfold RetK at hblk hpgs
  unfold RetInts at hpage
  obtain ⟨P, hP⟩ : ∃ P, (N + 7) / 8 = P := ⟨_, rfl⟩
  have hP2 : P ≤ 20 := by omega
  have hP2I : (P : Int) ≤ 20 := by omega
  rw [hP] at hpgs
  have Hhlo := Lib.hid hlo; clear hlo
  have Hhrow := Lib.hid hrow; clear hrow
  have Hhblk := Lib.hid hblk; clear hblk
  have Hhpgs := Lib.hid hpgs; clear hpgs
  have Hhpage := Lib.hid hpage; clear hpage
  have HhP := Lib.hid hP; clear hP
  clear HhM2 HhL HhN Hhbl hM3 u7 Hhof Hu2 Hu26 Hhus Hhms u27 Hhc Hub hWb h0 h1 h2 h3 hs
  go_upto_block 0 with fail
  go_cut [11] (fun s wx => RowAt w7 wx (tk N u m N) s)
  case first =>
    go_wp2_with fail
    go_loopw [12, 11] (fun i s wr => ∃ j : Nat, i = .int .i64 ((j : Int) - 1) ∧ j ≤ P + 2 ∧ RowAt w7 wr (tk N u m (8 * min (j - 1) P)) s) (fun i _ _ => (P + 1 - intOf i).toNat)
    case atStart => exact ⟨0, rfl, by omega, by simpa [tk] using Hhrow.out⟩
    case round =>
      obtain ⟨j, rfl, hj, hr⟩ := hrel
      clear Hhrow
      have hlo := Hhlo.out.still hr.up
      have hq := Hhpgs.out wr hlo
      by_cases hjP : j = P + 2
      · have e1 : ¬ ((j : Int) - 1 ≤ P) := by omega
        have hall : tk N u m (8 * min (j - 1) P) = tk N u m N := by
          rw [show min (j - 1) P = P from by omega, ← HhP.out]
          exact tk_all N u m
        rw [hall] at hr
        obtain ⟨sa, sc, hsv, -⟩ := id hr
        subst hsv
        have Hhlo := Lib.hid hlo; clear hlo
        have Hhr := Lib.hid hr; clear hr
        have Hhq := Lib.hid hq; clear hq
        clear hjP hall
        go_wp2_with (go_at_call 23; (with_reducible refine Hhq.out.mono ?_); rintro e w8 ⟨rfl, u8⟩)
        go_meet
        exact Hhr.out.still u8
      · have e1 : (j : Int) - 1 ≤ P := by omega
        have hnx := tk_next N u m j (by rw [HhP.out]; omega)
        rw [HhP.out] at hnx
        obtain ⟨sa, sc, hsv, -⟩ := id hr
        subst hsv
        have hl1 := tk_len N u m (8 * min (j - 1) P)
        have hl2 := pageL_len N u m ((j : Int) - 1)
        generalize tk N u m (8 * min (j - 1) P) = gs at *
        have hpc := fun w' h => Hhpage.out w' ((j : Int) - 1) h
        generalize pageL N u m ((j : Int) - 1) = ps at *
        have hl3 : gs.length + ps.length ≤ 1099511627776 := by omega
        have Hhlo := Lib.hid hlo; clear hlo
        have Hhr := Lib.hid hr; clear hr
        have Hhq := Lib.hid hq; clear hq
        have Hhnx := Lib.hid hnx; clear hnx
        have Hhpc := Lib.hid hpc; clear hpc
        clear hjP hl1 hl2
        go_wp2_with (first
          | (go_at_call 23; (with_reducible refine Hhq.out.mono ?_); rintro e w8 ⟨rfl, u8⟩; have Hr8 := Lib.hid (Hhr.out.still u8); have hpp := Hhpc.out w8 (Hhlo.out.still u8); clear u8)
          | (go_at_call 18; (with_reducible refine hpp.mono ?_); rintro e w9 ⟨pa, pc, rfl, hpo, u9⟩; have Hr9 := Lib.hid (Hr8.out.still u9); have Hpi := Lib.hid (show IntsR w9 (.slice pa ps.length pc) .i64 ps from ownsRow_intsR hpo); obtain ⟨sa9, sc9, hse9, ho9, -, hsz9⟩ := id Hr9.out; cases hse9; have Ho9 := Lib.hid ho9; clear hpo u9 ho9)
          | (at_builtin; refine wpList_appendOnto rfl _ _ 37 3 rfl (.int .i64 0) 8 Try.underlying37 infoIntM rfl w7.heap.size _ _ _ rfl Ho9.out pa ps.length pc .i64 ps rfl rfl Hpi.out hl3 (by decide) hsz9 ?_; intro a5 c5 w5 ho5 hg5; have Hr5 := Lib.hid (Hr9.out.app ho5 hg5); clear ho5 hg5))
        go_roundw
        case rel => exact ⟨j + 1, by go_num, by omega, by rw [show j + 1 - 1 = j from by omega, ← Hhnx.out]; exact Hr5.out⟩
        case measure => simp [intOf]; omega
  case rest =>
    obtain ⟨hr⟩ : Nonempty (RowAt w7 wc (tk N u m N) _) := ⟨hcut⟩
    clear Hhrow Hhpage Hhpgs
    have hlo := Hhlo.out.still hr.up
    have hb5 := Hhblk.out wc hlo
    have hlen := tk_len N u m N
    obtain ⟨sa, sc, hsv, hso, -, -⟩ := id hr
    subst hsv
    have hTI : ((tk N u m N).length : Int) ≤ 200 := by omega
    have Hhr := Lib.hid hr; clear hr
    have Hhlo := Lib.hid hlo; clear hlo
    have Hhb5 := Lib.hid hb5; clear hb5
    have Hhso := Lib.hid hso; clear hso
    go_wp2_with fail
    refine Hhb5.out.mono ?_
    rintro e w8 ⟨rfl, u8⟩
    have hlo8 := Hhlo.out.still u8
    have hso8 := ownsRow_upd Hhso.out u8 (fun _ _ x => x)
    have Hhlo8 := Lib.hid hlo8; clear hlo8
    have Hhso8 := Lib.hid hso8; clear hso8
    clear u8 Hhr Hhb5 Hhso
    go_wp2_with fail
    go_loop [55, 13] (fun i c => ∃ b : Nat, i = .int .i64 b ∧ b ≤ N ∧ c = .int .i64 (tk N u m b).length) (fun i _ => (N - intOf i).toNat)
    case atStart => exact ⟨0, rfl, Nat.zero_le _, rfl⟩
    case round =>
      obtain ⟨b, rfl, hb, rfl⟩ := hrel
      by_cases hbN : b = N
      · have e1 : ¬ ((b : Int) < N) := by omega
        have haw := awake20 W w8 Hhlo8.out.up
        subst hbN
        have Hhaw := Lib.hid haw; clear haw
        go_wp2_with (go_at_call 21; (with_reducible refine Hhaw.out.mono ?_); rintro e w9 ⟨rfl, hu⟩)
        go_ret
        exact ⟨rfl, hu.none⟩
      · have e1 : (b : Int) < N := by omega
        have hbN2 : b < N := by omega
        have hgu := Hhlo8.out.gu w8 (Upd.refl _ _) (b : Int)
        have hgm := Hhlo8.out.gm w8 (Upd.refl _ _) (b : Int)
        have hst := tk_succ N u m b
        have hat := tk_at N u m b hbN2
        have hT : takeB N u m b = (u b && !m b) := by unfold takeB; rw [decide_eq_true hbN2, Bool.true_and]
        rw [hT] at hst hat
        cases t2 : u (b : Int)
        · rw [t2] at hgu hst
          rw [Bool.false_and, if_neg (by simp), List.append_nil] at hst
          have Hhgu := Lib.hid hgu; clear hgu
          have Hhgm := Lib.hid hgm; clear hgm
          have Hhst := Lib.hid hst; clear hst
          clear hbN hat hT
          go_wp2_with (go_at_call 24; (with_reducible refine Hhgu.out.mono ?_); rintro e w9 ⟨rfl, rfl⟩)
          go_round
          case rel => exact ⟨b + 1, by go_num, by omega, by rw [Hhst.out]⟩
          case measure => simp [intOf]; omega
        · cases t3 : m (b : Int)
          · rw [t2] at hgu
            rw [t3] at hgm
            rw [t2, t3] at hst hat
            rw [if_pos (by simp)] at hst
            obtain ⟨k1, k2⟩ := hat rfl
            obtain ⟨g2, hix2, -, -, hcell2, -, -⟩ := ownsRow_index Hhso8.out (P := Try.prog) Try.underlying37 (by kernel_rfl) (by kernel_rfl) k1
            have hcell : w8.cell? ⟨g2, (tk N u m b).length, none⟩ = some (.int .i64 b) := by
              rw [hcell2, ← k2]
              simp [ints, List.getD, k1]
            have k3 : (((tk N u m (b + 1)).length : Nat) : Int) = ((tk N u m b).length : Int) + 1 := by rw [hst]; simp
            have e2 : ¬ ((tk N u m N).length ≤ (tk N u m b).length) := by omega
            have e3 : ((tk N u m b).length : Int) < (tk N u m N).length := by omega
            have hl4 := tk_len N u m b
            have e4 : ((tk N u m b).length : Int) ≤ 200 := by omega
            generalize (tk N u m b).length = q at *
            have Hhgu := Lib.hid hgu; clear hgu
            have Hhgm := Lib.hid hgm; clear hgm
            have Hhst := Lib.hid hst; clear hst
            have Hk2 := Lib.hid k2; clear k2
            have Hk3 := Lib.hid k3; clear k3
            clear hbN hat hT hcell2 hl4
            go_wp2_with (go_at_call 24; first | ((with_reducible refine Hhgu.out.mono ?_); rintro e w9 ⟨rfl, rfl⟩) | ((with_reducible refine Hhgm.out.mono ?_); rintro e w9 ⟨rfl, rfl⟩))
            go_round
            case rel => exact ⟨b + 1, by go_num, by omega, by rw [Hk3.out]⟩
            case measure => simp [intOf]; omega
          · rw [t2] at hgu
            rw [t3] at hgm
            rw [t2, t3] at hst
            rw [if_neg (by simp), List.append_nil] at hst
            have Hhgu := Lib.hid hgu; clear hgu
            have Hhgm := Lib.hid hgm; clear hgm
            have Hhst := Lib.hid hst; clear hst
            clear hbN hat hT
            go_wp2_with (go_at_call 24; first | ((with_reducible refine Hhgu.out.mono ?_); rintro e w9 ⟨rfl, rfl⟩) | ((with_reducible refine Hhgm.out.mono ?_); rintro e w9 ⟨rfl, rfl⟩))
            go_round
            case rel => exact ⟨b + 1, by go_num, by omega, by rw [Hhst.out]⟩
            case measure => simp [intOf]; omega

theorem own : ownKnob Try.prog.godebug = none := by kernel_rfl
theorem laidOut : laidOutB Try.prog = true := by kernel_rfl
set_option maxRecDepth 100000 in
theorem lifted (os : Os) (started : os.Started) (H : Type) (enc : TypeId × Value → H) :
    ReturnsInHanded {} Try.checked os 4 .any (Rows.sweepAllSpec.pre6 enc Try.prog Try.f4 Rows.sweepAllRow.domain false) (Rows.sweepAllSpec.post enc Try.prog Try.f4 false true false false) := by
  refine returnsInHanded_of_change_sized (C := Try.checked) own started (by kernel_rfl) Try.func4
    (ChangeSpec.witness6 (enc := enc) (C := Try.checked) false ⟨#[], #[.agg #[.int .i64 0, .int .i64 0, .int .i64 0, .int .i64 0], .slice none 0 0, .slice none 0 0], []⟩ 8 (by kernel_rfl) (by kernel_rfl) (by kernel_rfl) (by kernel_rfl)) ?_
  intro W base args ds gs before hval0 hW _ hsz0 _
  have hsz : (DataW.weightsEach Try.prog (Try.f4.params.toList ++ Rows.sweepAllSpec.plain.varTypes Try.prog) (ds ++ gs)).all (· ≤ reachBytes) = true := hsz0
  clear hsz0
  have hval : ∀ (j : Nat) t v, Try.f4.params[j]? = some t → args[j]? = some v → Value.okWide Try.prog W .any base t v := hval0
  have hW' := hW
  obtain ⟨p, q, hA0, hV, rfl, _, _⟩ := hW
  have hA : DataW.TrodAll enc Try.prog W 0 (fun _ => true) true Try.f4.params.toList args.toList ds p := hA0
  rw [Try.params4] at hA hval hsz
  obtain ⟨v0, vs0, d0, ds0, p0, q0, hargs, rfl, rfl, h0, r0⟩ := trodAll_cons hA
  obtain ⟨v1, vs1, d1, ds1, p1, q1, rfl, rfl, rfl, h1, r1⟩ := trodAll_cons r0
  obtain ⟨v2, vs2, d2, ds2, p2, q2, rfl, rfl, rfl, h2, r2⟩ := trodAll_cons r1
  obtain ⟨rfl, rfl, rfl⟩ := trodAll_nil r2
  obtain rfl : args = #[v0, v1, v2] := by cases args; simp_all
  obtain ⟨rfl, rfl⟩ := trodVars_none hV
  clear hA0 hval0
  simp only [List.append_nil] at hW'
  have hlt : ∀ x, (x ∈ p0 ∨ x ∈ p1 ∨ x ∈ p2) → x.block < W.heap.size := fun x hx => by simpa using hW'.lt x (by simpa using hx)
  have k0 : ∀ (W' : World), Below W.heap.size W W' → DataW.Trod enc Try.prog W' 0 (fun b => decide (b < W.heap.size)) true 22 v0 d0 p0 :=
    fun W' hn => Below.trod laidOut (by kernel_rfl) (of_decide_eq_true (by kernel_rfl)) h0 hn (fun x hx => hlt x (Or.inl hx))
  have k1 : ∀ (W' : World), Below W.heap.size W W' → DataW.Trod enc Try.prog W' 0 (fun b => decide (b < W.heap.size)) true 23 v1 d1 p1 :=
    fun W' hn => Below.trod laidOut (by kernel_rfl) (of_decide_eq_true (by kernel_rfl)) h1 hn (fun x hx => hlt x (Or.inr (Or.inl hx)))
  have k2 : ∀ (W' : World), Below W.heap.size W W' → DataW.Trod enc Try.prog W' 0 (fun b => decide (b < W.heap.size)) true 23 v2 d2 p2 :=
    fun W' hn => Below.trod laidOut (by kernel_rfl) (of_decide_eq_true (by kernel_rfl)) h2 hn (fun x hx => hlt x (Or.inr (Or.inr (hx))))
  obtain ⟨x0, hx0⟩ := open_arr4At Try.underlying22 Try.underlying3 (by kernel_rfl) (by kernel_rfl) (hval 0 22 v0 rfl rfl) h0 hsz 0 rfl rfl
  obtain ⟨x1, hx1⟩ := open_intsAt (bytes := 8) Try.underlying23 Try.underlying82 (by kernel_rfl) (by kernel_rfl) (hval 1 23 v1 rfl rfl) h1 hsz 1 rfl rfl
  obtain ⟨x2, hx2⟩ := open_intsAt (bytes := 8) Try.underlying23 Try.underlying82 (by kernel_rfl) (by kernel_rfl) (hval 2 23 v2 rfl rfl) h2 hsz 2 rfl rfl
  refine (walk (W := W) v0 x0 hx0 v1 x1 hx1 v2 x2 hx2).mono fun e W' ⟨he, hb⟩ => ?_
  subst he
  refine ⟨_, rfl, _, _, _, [], p0 ++ (p1 ++ (p2 ++ ([]))), [], hW', ?_, ?_, rfl, hb.frame _, fun h => by cases h⟩
  · exact trodAll_cons_mk (shut_bool Try.underlying4 true) trodAll_mk0
  · exact trodAll_cons_mk (k0 _ hb) (trodAll_cons_mk (k1 _ hb) (trodAll_cons_mk (k2 _ hb) (trodAll_mk0)))

theorem over : Rows.sweepAllRow.holds Try.pinned (OpenSpec.ofChange Rows.sweepAllSpec) :=
  OpenClaim.holds_of_wide 4 Try.f4 rfl rfl rfl rfl rfl rfl rfl ⟨rfl, rfl, rfl, rfl, rfl⟩ rfl rfl rfl rfl rfl (by kernel_rfl) Try.func4 (by kernel_rfl)
    (of_decide_eq_true (by kernel_rfl)) (by unfold Func.isWrapper; first | (rw [if_pos (by decide +kernel)]; kernel_rfl) | (rw [if_neg (by decide +kernel)]; exact ⟨rfl, rfl⟩))
    (fun os started H enc _ => lifted os started H enc)

/-- The given statement. -/
theorem proved : Rows.SweepAllSaid := over
#print axioms proved
end Go.Proofs.Ythaicpjgmplgcaa.sweepAll
