/- Any bits, any page. No condition. -/
import Derived.Test.YthaicpjgmplgcaaRefLay
import Derived.Test.YthaicpjgmplgcaaSweepP
import Derived.SizedLaws
import Derived.Deep.DrawnRows
namespace Go.Proofs.Ythaicpjgmplgcaa.sweepPages
open Go.ChangeShapes Go.WideShapes Go.ChangeAt Go.RowKit
set_option linter.unusedVariables false

def Of200 (w : World) (us : List Nat) (e : Ending) (w' : World) : Prop :=
  ∃ b g, e = .returned (.pointer (some ⟨b, 0, none⟩)) ∧ MapF w' b g 200 (bitW us) ∧ w.heap.size ≤ b ∧ w.heap.size ≤ g ∧ Upd (fun _ => False) w w'
theorem of200 (v : Value) (us : List Nat) (w : World) (h : WordsR w v us) : Calls Try.prog 19 #[.int .i64 200, v] w (Of200 w us) := by
  have hm := map_OfF 200 v us w h
  unfold OfPost at hm
  rw [show (max 0 (min (200 : Int) 1048576)).toNat = 200 from by decide] at hm
  exact hm

/-- What holds ahead of the comparisons. -/
structure Lo (W : World) (L R n0 n1 n2 n3 : Nat) (v1 v2 b1 b2 : Value) (us ms : List Nat) (w : World) : Prop where
  lay : IsLay w L n0 n1 n2 n3
  rl : IsRl w R (sumN n0 n1 n2 n3)
  u : WordsR w v1 us
  m : WordsR w v2 ms
  bu : BoolsR w b1 200 (bitW us)
  bm : BoolsR w b2 200 (bitW ms)
  up : Upd (fun _ => False) W w
theorem Lo.still {W w w' : World} {L R n0 n1 n2 n3 : Nat} {v1 v2 b1 b2 : Value} {us ms : List Nat} (h : Lo W L R n0 n1 n2 n3 v1 v2 b1 b2 us ms w) (k : Upd (fun _ => False) w w') : Lo W L R n0 n1 n2 n3 v1 v2 b1 b2 us ms w' :=
  ⟨h.lay.upd k (fun x => x), h.rl.upd k (fun x => x), h.u.upd k.none, h.m.upd k.none, h.bu.upd k.none, h.bm.upd k.none, h.up.trans k⟩

set_option maxRecDepth 100000 in
set_option maxHeartbeats 4000000 in
theorem walk {W : World} (nv : Value) (x : Int × Int × Int × Int) (hnv : Arr4 W nv x) (v1 : Value) (xs : List Int) (hx : IntsIn W v1 .u64 xs ∧ xs.length * 8 ≤ 140737488351232) (v2 : Value) (ys : List Int) (hy : IntsIn W v2 .u64 ys ∧ ys.length * 8 ≤ 140737488351232) (p : Int) (wp : (Lit.int .i64 p).wf = true) :
    Calls Try.prog 3 #[nv, v1, v2, .int .i64 p] W (LawPost W) := by
  obtain ⟨us, hus, -⟩ := intsIn_words hx.1
  obtain ⟨ms, hms, -⟩ := intsIn_words hy.1
  obtain ⟨x0, x1, x2, x3⟩ := x
  unfold Arr4 at hnv
  subst hnv
  simp only
  obtain ⟨Wb, hWb⟩ : ∃ Wb, Wb = W.alloc (.cells #[.int .i64 x0, .int .i64 x1, .int .i64 x2, .int .i64 x3] 22) := ⟨_, rfl⟩
  have ub : Upd (fun _ => False) W Wb := by rw [hWb]; exact (Upd.refl _ _).alloc _
  have hc := law_config20 x0 x1 x2 x3 Wb
  unfold ConfigPost cfgV at hc
  have Hhc := Lib.hid hc; clear hc
  have Hhus := Lib.hid hus; clear hus
  have Hhms := Lib.hid hms; clear hms
  have Hub := Lib.hid ub; clear ub
  clear hx hy wp
  go_enter Try.func3, Try.ntmps3
  go_wp2_with fail
  rw [← hWb]
  refine Hhc.out.mono ?_
  rintro e w1 ⟨v, n0, n1, n2, n3, rfl, h0, h1, h2, h3, hs, hM, hu1⟩
  obtain ⟨va, vc, hve⟩ := mat_shape hM
  have hl1 : ([[1]] : List (List Int)).length = 1 := rfl
  rw [hl1] at hve
  subst hve
  obtain ⟨w2, hw2⟩ : ∃ w2, w2 = w1.alloc (.cells #[.slice va 1 vc, .int .i64 n0, .int .i64 n1, .int .i64 n2, .int .i64 n3, .int .i64 1, .int .i64 0, .int .i64 40] 26) := ⟨_, rfl⟩
  have k12 : Upd (fun _ => False) w1 w2 := by rw [hw2]; exact (Upd.refl _ _).alloc _
  have hcb : Blk w2 w1.heap.size [.slice va 1 vc, .int .i64 n0, .int .i64 n1, .int .i64 n2, .int .i64 n3, .int .i64 1, .int .i64 0, .int .i64 40] 26 := by rw [hw2]; exact Blk.new _ _ _
  have hl := lay_config h0 h1 h2 h3 hs (hM.upd k12.none)
  have hrl := fun w' => ref_Lay va vc n0 n1 n2 n3 h0 h1 h2 h3 w'
  unfold LayPost at hl
  unfold RlPost cfgV at hrl
  have u02 := (Hub.out.trans hu1).trans k12
  have Hhl := Lib.hid hl; clear hl
  have Hu02 := Lib.hid u02; clear u02
  have Hhcb := Lib.hid hcb; clear hcb
  have Hhrl := Lib.hid hrl; clear hrl
  clear hu1 hM k12 Hub hWb Hhc
  go_wp2_with fail
  rw [← hw2]
  refine Hhl.out.mono ?_
  rintro e w3 ⟨L, rfl, hL, -, u3⟩
  have hcb3 := Hhcb.out.upd u3 (fun x => x)
  have d0 := hcb3.cell 0 rfl
  have d1 := hcb3.cell 1 rfl
  have d2 := hcb3.cell 2 rfl
  have d3 := hcb3.cell 3 rfl
  have d4 := hcb3.cell 4 rfl
  have d5 := hcb3.cell 5 rfl
  have d6 := hcb3.cell 6 rfl
  have d7 := hcb3.cell 7 rfl
  have hr3 := Hhrl.out w3
  have u03 := Hu02.out.trans u3
  have HhL := Lib.hid hL; clear hL
  have Hu03 := Lib.hid u03; clear u03
  have Hhr3 := Lib.hid hr3; clear hr3
  clear u3 hcb3 Hhcb Hhl Hhrl hw2 Hu02
  go_wp2_with fail
  refine Hhr3.out.mono ?_
  rintro e w4 ⟨R, rfl, hR, -, u4⟩
  have hL4 := HhL.out.upd u4 (fun x => x)
  have u04 := Hu03.out.trans u4
  have hun := ref_Unpack 200 200 v1 us w4 (Hhus.out.upd u04.none) (by decide)
  unfold UnpackPost at hun
  have HhL4 := Lib.hid hL4; clear hL4
  have HhR := Lib.hid hR; clear hR
  have Hu04 := Lib.hid u04; clear u04
  have Hhun := Lib.hid hun; clear hun
  clear d0 d1 d2 d3 d4 d5 d6 d7 u4 HhL Hhr3 Hu03
  go_wp2_with fail
  refine Hhun.out.mono ?_
  rintro e w5 ⟨g1, c1, rfl, hB1, u5⟩
  have hL5 := HhL4.out.upd u5 (fun x => x)
  have hR5 := HhR.out.upd u5 (fun x => x)
  have u05 := Hu04.out.trans u5
  clear Hhun
  have hun := ref_Unpack 200 200 v2 ms w5 (Hhms.out.upd u05.none) (by decide)
  unfold UnpackPost at hun
  have hB1 := hB1.r
  have HhL5 := Lib.hid hL5; clear hL5
  have HhR5 := Lib.hid hR5; clear hR5
  have Hu05 := Lib.hid u05; clear u05
  have Hhun := Lib.hid hun; clear hun
  have HhB1 := Lib.hid hB1; clear hB1
  clear u5 HhL4 HhR Hu04
  go_wp2_with fail
  refine Hhun.out.mono ?_
  rintro e w6 ⟨g2, c2, rfl, hB2, u6⟩
  have u06 := Hu05.out.trans u6
  have hlo : Lo W L R n0 n1 n2 n3 v1 v2 (.slice (some ⟨g1, 0, none⟩) 200 c1) (.slice (some ⟨g2, 0, none⟩) 200 c2) us ms w6 :=
    ⟨HhL5.out.upd u6 (fun x => x), HhR5.out.upd u6 (fun x => x), Hhus.out.upd u06.none, Hhms.out.upd u06.none, HhB1.out.upd u6.none, hB2.r, u06⟩
  clear HhL5 HhR5 HhB1 hB2 u6 Hhun Hu05 u06 Hhus Hhms
  have cof1 := fun w' (h : Lo W L R n0 n1 n2 n3 v1 v2 (.slice (some ⟨g1, 0, none⟩) 200 c1) (.slice (some ⟨g2, 0, none⟩) 200 c2) us ms w') => of200 v1 us w' h.u
  have cof2 := fun w' (h : Lo W L R n0 n1 n2 n3 v1 v2 (.slice (some ⟨g1, 0, none⟩) 200 c1) (.slice (some ⟨g2, 0, none⟩) 200 c2) us ms w') => of200 v2 ms w' h.m
  have cpage := fun w' (h : Lo W L R n0 n1 n2 n3 v1 v2 (.slice (some ⟨g1, 0, none⟩) 200 c1) (.slice (some ⟨g2, 0, none⟩) 200 c2) us ms w') pu pm u m (gu : GetsAs w' pu u) (gm : GetsAs w' pm m) => sweep_Page h.lay h0 h1 h2 h3 gu gm p
  have cref := fun w' (h : Lo W L R n0 n1 n2 n3 v1 v2 (.slice (some ⟨g1, 0, none⟩) 200 c1) (.slice (some ⟨g2, 0, none⟩) 200 c2) us ms w') => ref_Page h.rl (by unfold sumN; omega) (at_bools h.bu) (at_bools h.bm) p
  have crefn := fun w' (h : Lo W L R n0 n1 n2 n3 v1 v2 (.slice (some ⟨g1, 0, none⟩) 200 c1) (.slice (some ⟨g2, 0, none⟩) 200 c2) us ms w') => ref_Page h.rl (by unfold sumN; omega) (at_bools h.bu) (at_nil w') p
  have hpnil : pageL (sumN n0 n1 n2 n3) (fun _ => false) (fun _ => false) p = [] := page_none _ _ p
  unfold Of200 at cof1 cof2
  unfold RetInts at cpage cref crefn
  have Hhlo := Lib.hid hlo; clear hlo
  have Hcof1 := Lib.hid cof1; clear cof1
  have Hcof2 := Lib.hid cof2; clear cof2
  have Hcpage := Lib.hid cpage; clear cpage
  have Hcref := Lib.hid cref; clear cref
  have Hcrefn := Lib.hid crefn; clear crefn
  have Hhpnil := Lib.hid hpnil; clear hpnil
  clear h0 h1 h2 h3 hs
  have hc := Hcof1.out w6 Hhlo.out
  have Hhc := Lib.hid hc; clear hc
  go_wp2_with fail
  refine Hhc.out.mono ?_
  rintro e w7 ⟨b1, q1, rfl, hM1, -, -, u7⟩
  have hlo7 := Hhlo.out.still u7
  have HM1 := Lib.hid hM1
  have Hhlo7 := Lib.hid hlo7; clear hlo7
  clear Hhc Hhlo u7 hM1
  have hc := Hcof2.out w7 Hhlo7.out
  have Hhc := Lib.hid hc; clear hc
  go_wp2_with fail
  refine Hhc.out.mono ?_
  rintro e w8 ⟨b2, q2, rfl, hM2, -, -, u8⟩
  have hlo8 := Hhlo7.out.still u8
  have HN1 := Lib.hid (HM1.out.upd u8 (fun x => x) (fun x => x))
  have HM2 := Lib.hid hM2
  have Hhlo8 := Lib.hid hlo8; clear hlo8
  clear Hhc Hhlo7 u8 hM2 HM1
  have hc := Hcpage.out w8 Hhlo8.out _ _ _ _ (gets_map HN1.out) (gets_map HM2.out)
  have Hhc := Lib.hid hc; clear hc
  go_wp2_with fail
  refine Hhc.out.mono ?_
  rintro e w9 ⟨a1, c3, rfl, ho, u9⟩
  have hlo9 := Hhlo8.out.still u9
  have HI1 := Lib.hid (show IntsR w9 _ .i64 _ from ownsRow_intsR ho)
  have Hhlo9 := Lib.hid hlo9; clear hlo9
  clear Hhc Hhlo8 u9 ho HN1 HM2
  have hc := Hcref.out w9 Hhlo9.out
  have Hhc := Lib.hid hc; clear hc
  go_wp2_with fail
  refine Hhc.out.mono ?_
  rintro e w10 ⟨a2, c4, rfl, ho, u10⟩
  have hlo10 := Hhlo9.out.still u10
  have HI1b := Lib.hid (ints_upd HI1.out u10)
  have HI2 := Lib.hid (show IntsR w10 _ .i64 _ from ownsRow_intsR ho)
  have Hhlo10 := Lib.hid hlo10; clear hlo10
  clear Hhc Hhlo9 u10 ho HI1
  have hc := ref_SameInts _ _ _ _ w10 HI1b.out HI2.out
  rw [decide_eq_true rfl] at hc
  unfold RetK at hc
  have Hhc := Lib.hid hc; clear hc
  clear HI1b HI2
  go_wp2_with fail
  refine Hhc.out.mono ?_
  rintro e w11 ⟨rfl, u11⟩
  have hlo11 := Hhlo10.out.still u11
  have Hhlo11 := Lib.hid hlo11; clear hlo11
  clear Hhc Hhlo10 u11
  have hc := Hcof1.out w11 Hhlo11.out
  have Hhc := Lib.hid hc; clear hc
  go_wp2_with fail
  refine Hhc.out.mono ?_
  rintro e w12 ⟨b3, q3, rfl, hM1, -, -, u12⟩
  have hlo12 := Hhlo11.out.still u12
  have HM1 := Lib.hid hM1
  have Hhlo12 := Lib.hid hlo12; clear hlo12
  clear Hhc Hhlo11 u12 hM1
  have hc := Hcpage.out w12 Hhlo12.out _ _ _ _ (gets_map HM1.out) (gets_nil w12)
  have Hhc := Lib.hid hc; clear hc
  go_wp2_with fail
  refine Hhc.out.mono ?_
  rintro e w13 ⟨a3, c5, rfl, ho, u13⟩
  have hlo13 := Hhlo12.out.still u13
  have HI1 := Lib.hid (show IntsR w13 _ .i64 _ from ownsRow_intsR ho)
  have Hhlo13 := Lib.hid hlo13; clear hlo13
  clear Hhc Hhlo12 u13 ho HM1
  have hc := Hcrefn.out w13 Hhlo13.out
  have Hhc := Lib.hid hc; clear hc
  go_wp2_with fail
  refine Hhc.out.mono ?_
  rintro e w14 ⟨a4, c6, rfl, ho, u14⟩
  have hlo14 := Hhlo13.out.still u14
  have HI1b := Lib.hid (ints_upd HI1.out u14)
  have HI2 := Lib.hid (show IntsR w14 _ .i64 _ from ownsRow_intsR ho)
  have Hhlo14 := Lib.hid hlo14; clear hlo14
  clear Hhc Hhlo13 u14 ho HI1
  have hc := ref_SameInts _ _ _ _ w14 HI1b.out HI2.out
  rw [decide_eq_true rfl] at hc
  unfold RetK at hc
  have Hhc := Lib.hid hc; clear hc
  clear HI1b HI2
  go_wp2_with fail
  refine Hhc.out.mono ?_
  rintro e w15 ⟨rfl, u15⟩
  have hlo15 := Hhlo14.out.still u15
  have Hhlo15 := Lib.hid hlo15; clear hlo15
  clear Hhc Hhlo14 u15
  have hc := Hcpage.out w15 Hhlo15.out _ _ _ _ (gets_nil w15) (gets_nil w15)
  rw [Hhpnil.out] at hc
  have hc : Calls Try.prog _ _ w15 (fun e w' => ∃ a c, e = .returned (.slice a 0 c) ∧ w'.ownsRow w15.heap.size 3 1 (.slice a 0 c) 0 (ints []) ∧ Upd (fun _ => False) w15 w') := hc
  have Hhc := Lib.hid hc; clear hc
  go_wp2_with fail
  refine Hhc.out.mono ?_
  rintro e w16 ⟨a5, c7, rfl, -, u16⟩
  have hlo16 := Hhlo15.out.still u16
  have Hhlo16 := Lib.hid hlo16; clear hlo16
  clear Hhc Hhlo15 u16
  have hc := Hcof1.out w16 Hhlo16.out
  have Hhc := Lib.hid hc; clear hc
  go_wp2_with fail
  refine Hhc.out.mono ?_
  rintro e w17 ⟨b4, q4, rfl, hM1, -, -, u17⟩
  have hlo17 := Hhlo16.out.still u17
  have HM1 := Lib.hid hM1
  have Hhlo17 := Lib.hid hlo17; clear hlo17
  clear Hhc Hhlo16 u17 hM1
  have hc := sweep_Page_nil w17 (gets_map HM1.out) (gets_nil w17) p
  unfold RetInts at hc
  have hc : Calls Try.prog _ _ w17 (fun e w' => ∃ a c, e = .returned (.slice a 0 c) ∧ w'.ownsRow w17.heap.size 3 1 (.slice a 0 c) 0 (ints []) ∧ Upd (fun _ => False) w17 w') := hc
  have Hhc := Lib.hid hc; clear hc
  go_wp2_with fail
  refine Hhc.out.mono ?_
  rintro e w18 ⟨a6, c8, rfl, -, u18⟩
  have haw := awake20 W w18 (Hhlo17.out.up.trans u18)
  have Hhaw := Lib.hid haw; clear haw
  clear Hhc u18
  go_wp2_with (go_at_call 21; (with_reducible refine Hhaw.out.mono ?_); rintro e w99 ⟨rfl, hu⟩)
  go_ret
  exact ⟨rfl, hu.none⟩

theorem own : ownKnob Try.prog.godebug = none := by kernel_rfl
theorem laidOut : laidOutB Try.prog = true := by kernel_rfl
set_option maxRecDepth 100000 in
theorem lifted (os : Os) (started : os.Started) (H : Type) (enc : TypeId × Value → H) :
    ReturnsInHanded {} Try.checked os 3 .any (Rows.sweepPagesSpec.pre6 enc Try.prog Try.f3 Rows.sweepPagesRow.domain false) (Rows.sweepPagesSpec.post enc Try.prog Try.f3 false true false false) := by
  refine returnsInHanded_of_change_sized (C := Try.checked) own started (by kernel_rfl) Try.func3
    (ChangeSpec.witness6 (enc := enc) (C := Try.checked) false ⟨#[], #[.agg #[.int .i64 0, .int .i64 0, .int .i64 0, .int .i64 0], .slice none 0 0, .slice none 0 0, .int .i64 0], []⟩ 8 (by kernel_rfl) (by kernel_rfl) (by kernel_rfl) (by kernel_rfl)) ?_
  intro W base args ds gs before hval0 hW _ hsz0 _
  have hsz : (DataW.weightsEach Try.prog (Try.f3.params.toList ++ Rows.sweepPagesSpec.plain.varTypes Try.prog) (ds ++ gs)).all (· ≤ reachBytes) = true := hsz0
  clear hsz0
  have hval : ∀ (j : Nat) t v, Try.f3.params[j]? = some t → args[j]? = some v → Value.okWide Try.prog W .any base t v := hval0
  have hW' := hW
  obtain ⟨p, q, hA0, hV, rfl, _, _⟩ := hW
  have hA : DataW.TrodAll enc Try.prog W 0 (fun _ => true) true Try.f3.params.toList args.toList ds p := hA0
  rw [Try.params3] at hA hval hsz
  obtain ⟨v0, vs0, d0, ds0, p0, q0, hargs, rfl, rfl, h0, r0⟩ := trodAll_cons hA
  obtain ⟨v1, vs1, d1, ds1, p1, q1, rfl, rfl, rfl, h1, r1⟩ := trodAll_cons r0
  obtain ⟨v2, vs2, d2, ds2, p2, q2, rfl, rfl, rfl, h2, r2⟩ := trodAll_cons r1
  obtain ⟨v3, vs3, d3, ds3, p3, q3, rfl, rfl, rfl, h3, r3⟩ := trodAll_cons r2
  obtain ⟨rfl, rfl, rfl⟩ := trodAll_nil r3
  obtain rfl : args = #[v0, v1, v2, v3] := by cases args; simp_all
  obtain ⟨rfl, rfl⟩ := trodVars_none hV
  clear hA0 hval0
  simp only [List.append_nil] at hW'
  have hlt : ∀ x, (x ∈ p0 ∨ x ∈ p1 ∨ x ∈ p2 ∨ x ∈ p3) → x.block < W.heap.size := fun x hx => by simpa using hW'.lt x (by simpa using hx)
  have k0 : ∀ (W' : World), Below W.heap.size W W' → DataW.Trod enc Try.prog W' 0 (fun b => decide (b < W.heap.size)) true 22 v0 d0 p0 :=
    fun W' hn => Below.trod laidOut (by kernel_rfl) (of_decide_eq_true (by kernel_rfl)) h0 hn (fun x hx => hlt x (Or.inl hx))
  have k1 : ∀ (W' : World), Below W.heap.size W W' → DataW.Trod enc Try.prog W' 0 (fun b => decide (b < W.heap.size)) true 23 v1 d1 p1 :=
    fun W' hn => Below.trod laidOut (by kernel_rfl) (of_decide_eq_true (by kernel_rfl)) h1 hn (fun x hx => hlt x (Or.inr (Or.inl hx)))
  have k2 : ∀ (W' : World), Below W.heap.size W W' → DataW.Trod enc Try.prog W' 0 (fun b => decide (b < W.heap.size)) true 23 v2 d2 p2 :=
    fun W' hn => Below.trod laidOut (by kernel_rfl) (of_decide_eq_true (by kernel_rfl)) h2 hn (fun x hx => hlt x (Or.inr (Or.inr (Or.inl hx))))
  have k3 : ∀ (W' : World), Below W.heap.size W W' → DataW.Trod enc Try.prog W' 0 (fun b => decide (b < W.heap.size)) true 3 v3 d3 p3 :=
    fun W' hn => Below.trod laidOut (by kernel_rfl) (of_decide_eq_true (by kernel_rfl)) h3 hn (fun x hx => hlt x (Or.inr (Or.inr (Or.inr (hx)))))
  obtain ⟨x0, hx0⟩ := open_arr4At Try.underlying22 Try.underlying3 (by kernel_rfl) (by kernel_rfl) (hval 0 22 v0 rfl rfl) h0 hsz 0 rfl rfl
  obtain ⟨x1, hx1⟩ := open_intsAt (bytes := 8) Try.underlying23 Try.underlying82 (by kernel_rfl) (by kernel_rfl) (hval 1 23 v1 rfl rfl) h1 hsz 1 rfl rfl
  obtain ⟨x2, hx2⟩ := open_intsAt (bytes := 8) Try.underlying23 Try.underlying82 (by kernel_rfl) (by kernel_rfl) (hval 2 23 v2 rfl rfl) h2 hsz 2 rfl rfl
  obtain ⟨a3, rfl, _, _, w3⟩ := open_int Try.underlying3 (hval 3 3 v3 rfl rfl) h3
  refine (walk (W := W) v0 x0 hx0 v1 x1 hx1 v2 x2 hx2 a3 w3).mono fun e W' ⟨he, hb⟩ => ?_
  subst he
  refine ⟨_, rfl, _, _, _, [], p0 ++ (p1 ++ (p2 ++ (p3 ++ ([])))), [], hW', ?_, ?_, rfl, hb.frame _, fun h => by cases h⟩
  · exact trodAll_cons_mk (shut_bool Try.underlying4 true) trodAll_mk0
  · exact trodAll_cons_mk (k0 _ hb) (trodAll_cons_mk (k1 _ hb) (trodAll_cons_mk (k2 _ hb) (trodAll_cons_mk (k3 _ hb) (trodAll_mk0))))

theorem over : Rows.sweepPagesRow.holds Try.pinned (OpenSpec.ofChange Rows.sweepPagesSpec) :=
  OpenClaim.holds_of_wide 3 Try.f3 rfl rfl rfl rfl rfl rfl rfl ⟨rfl, rfl, rfl, rfl, rfl⟩ rfl rfl rfl rfl rfl (by kernel_rfl) Try.func3 (by kernel_rfl)
    (of_decide_eq_true (by kernel_rfl)) (by unfold Func.isWrapper; first | (rw [if_pos (by decide +kernel)]; kernel_rfl) | (rw [if_neg (by decide +kernel)]; exact ⟨rfl, rfl⟩))
    (fun os started H enc _ => lifted os started H enc)

/-- The given statement. -/
theorem proved : Rows.SweepPagesSaid := over
#print axioms proved
end Go.Proofs.Ythaicpjgmplgcaa.sweepPages
