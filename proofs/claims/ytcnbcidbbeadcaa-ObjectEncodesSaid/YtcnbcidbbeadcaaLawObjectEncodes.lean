/- Any object as words; any field of it. No condition. -/
import Derived.Test.YtcnbcidbbeadcaaObjR
import Derived.Test.YtcnbcidbbeadcaaAw11
import Derived.SizedLaws
import Derived.Deep.DrawnRows
namespace Go.Proofs.Ytcnbcidbbeadcaa.objectEncodes
open Go.ChangeShapes Go.WideShapes Go.ChangeAt Go.RowKit
set_option linter.unusedVariables false

theorem same_ws {w : World} {u v : Value} {ws : List Nat} (h1 : WordsR w u ws) (h2 : WordsR w v ws) : Calls Try.prog 21 #[u, v] w (RetU w (.bool true)) := by
  have := ref_SameWords u v ws ws w h1 h2
  rwa [decide_eq_true rfl] at this

set_option maxRecDepth 100000 in
set_option maxHeartbeats 2000000 in
theorem walk {W : World} (kv : Value) (ks : List (List Int)) (hks : MatIn W kv ks ∧ ks.length * 24 ≤ 140737488351232) (k : Int) (wk : (Lit.int .i64 k).wf = true) (fv : Value) (xs : List Val) (hxs : ValsIn W fv xs)
    (epI : Int) (we : (Lit.int .u64 epI).wf = true) (i : Int) (wi : (Lit.int .i64 i).wf = true) (xv : Value) (x : Val) (hx : xv = x.v ∧ x.ok) :
    Calls Try.prog 3 #[kv, .int .i64 k, fv, .int .u64 epI, .int .i64 i, xv] W (LawPost W) := by
  obtain ⟨rfl, hok⟩ := hx
  obtain ⟨ep, rfl, hep⟩ := wf_u64 we
  obtain ⟨hF, hoks⟩ := hxs
  have hM := hks.1
  clear hks wk we wi
  have hE := Lib.hid (fun w' (u : Upd (fun _ => False) W w') => object_Encode kv fv ks k xs ep hep hoks w' (hM.upd u.none) (hF.upd u.none))
  have hE2 := Lib.hid (fun w' (u : Upd (fun _ => False) W w') => ref_Encode kv fv ks k xs ep hep hoks w' (hM.upd u.none) (hF.upd u.none))
  have hD := fun w' (u : Upd (fun _ => False) W w') => object_Field kv ks k i x hok w' (hM.upd u.none)
  have hD2 := fun w' (u : Upd (fun _ => False) W w') => ref_FieldWords kv ks k i x hok w' (hM.upd u.none)
  obtain ⟨fa, fc, rfl, hfc1, hfc2, -⟩ := hF
  have hx1 : (xs.length : Int) ≤ 9223372036854775807 := by unfold maxLen at hfc2; omega
  clear hfc1 hfc2 hoks hok
  unfold RetEnc at hE hE2
  unfold RetFld at hD hD2
  generalize encO ks k xs ep = r at *
  generalize fldO ks k i x = q at *
  obtain ⟨ws, m⟩ := r
  obtain ⟨at1, us, m1⟩ := q
  simp only at hE hE2 hD hD2
  have s1 : (m == m) = true := by simp
  have s2 : (m1 == m1) = true := by simp
  have s3 : (at1 == at1) = true := by simp
  obtain ⟨xa, xn, re, im, rr⟩ := x
  change ∀ w', _ → Calls _ _ #[kv, .int .i64 k, .int .i64 i, .agg #[.int .i64 xa, .int .i64 xn, .int .u64 (re : Int), .int .u64 (im : Int), .int .i64 rr]] w' _ at hD
  change ∀ w', _ → Calls _ _ #[kv, .int .i64 k, .int .i64 i, .agg #[.int .i64 xa, .int .i64 xn, .int .u64 (re : Int), .int .u64 (im : Int), .int .i64 rr]] w' _ at hD2
  show Calls _ _ #[kv, .int .i64 k, .slice fa xs.length fc, .int .u64 (ep : Int), .int .i64 i, .agg #[.int .i64 xa, .int .i64 xn, .int .u64 (re : Int), .int .u64 (im : Int), .int .i64 rr]] _ _
  have hu1 : Upd (fun _ => False) W (W.alloc (.cells #[.int .i64 xa, .int .i64 xn, .int .u64 (re : Int), .int .u64 (im : Int), .int .i64 rr] 26)) := (Upd.refl _ _).alloc _
  have hB := Blk.new W [.int .i64 xa, .int .i64 xn, .int .u64 (re : Int), .int .u64 (im : Int), .int .i64 rr] 26
  have hl := Lib.hid (light11 kv ks _ (hM.upd hu1.none))
  have Hhu1 := Lib.hid hu1; clear hu1
  have HhB := Lib.hid hB; clear hB
  have HhD := Lib.hid hD; clear hD
  have HhD2 := Lib.hid hD2; clear hD2
  clear hM
  go_enter Try.func3, Try.ntmps3
  go_wp2_with fail
  refine hl.out.mono ?_
  rintro e w2 ⟨b, rfl, hu2⟩
  have HU2 := Lib.hid (Hhu1.out.trans hu2)
  have HB2 := Lib.hid (HhB.out.upd hu2 (fun h => h))
  clear hu2
  cases b with
  | false =>
    go_wp2_with (go_at_call 16; (with_reducible refine (awake11 _).mono ?_); rintro e w3 ⟨rfl, hu3⟩; have HU3 := Lib.hid (HU2.out.trans hu3); clear hu3)
    go_ret
    exact ⟨rfl, Upd.none HU3.out⟩
  | true =>
    by_cases h40 : (40 : Int) < xs.length
    · go_wp2_with (go_at_call 16; (with_reducible refine (awake11 _).mono ?_); rintro e w3 ⟨rfl, hu3⟩; have HU3 := Lib.hid (HU2.out.trans hu3); clear hu3)
      go_ret
      exact ⟨rfl, Upd.none HU3.out⟩
    · go_wp2_with (first
        | (go_at_call 17; (with_reducible refine (hE.out _ HU2.out).mono ?_); rintro e w3 ⟨hu3, va3, vc3, rfl, hW3⟩; have Hu3 := Lib.hid hu3; have HW3 := Lib.hid hW3; clear hu3 hW3)
        | (go_at_call 18; (with_reducible refine (hE2.out _ (HU2.out.trans Hu3.out)).mono ?_); rintro e w4 ⟨hu4, va4, vc4, rfl, hW4⟩; have Hu4 := Lib.hid hu4; have HW4 := Lib.hid hW4; have hT4 := HB2.out.upd (Hu3.out.trans hu4) (fun h => h); have c40 := hT4.cell 0 rfl; have c41 := hT4.cell 1 rfl; have c42 := hT4.cell 2 rfl; have c43 := hT4.cell 3 rfl; have c44 := hT4.cell 4 rfl; have HT4 := Lib.hid hT4; clear hT4 hu4 hW4)
        | (go_at_call 19; (with_reducible refine (HhD.out _ ((HU2.out.trans Hu3.out).trans Hu4.out)).mono ?_); rintro e w5 ⟨hu5, va5, vc5, rfl, hW5⟩; have Hu5 := Lib.hid hu5; have HW5 := Lib.hid hW5; have hT5 := HT4.out.upd hu5 (fun h => h); have c50 := hT5.cell 0 rfl; have c51 := hT5.cell 1 rfl; have c52 := hT5.cell 2 rfl; have c53 := hT5.cell 3 rfl; have c54 := hT5.cell 4 rfl; clear hT5 hu5 hW5)
        | (go_at_call 20; (with_reducible refine (HhD2.out _ (((HU2.out.trans Hu3.out).trans Hu4.out).trans Hu5.out)).mono ?_); rintro e w6 ⟨hu6, va6, vc6, rfl, hW6⟩; have Hu6 := Lib.hid hu6; have HW6 := Lib.hid hW6; clear hu6 hW6)
        | (go_at_call 21; (with_reducible refine (same_ws (HW3.out.upd ((Hu4.out.trans Hu5.out).trans Hu6.out).none) (HW4.out.upd (Hu5.out.trans Hu6.out).none)).mono ?_); rintro e w7 ⟨rfl, hu7⟩; have Hu7 := Lib.hid hu7; clear hu7)
        | (go_at_call 21; (with_reducible refine (same_ws (HW5.out.upd (Hu6.out.trans Hu7.out).none) (HW6.out.upd Hu7.out.none)).mono ?_); rintro e w8 ⟨rfl, hu8⟩; have Hu8 := Lib.hid hu8; clear hu8)
        | (go_at_call 16; (with_reducible refine (awake11 _).mono ?_); rintro e w9 ⟨rfl, hu9⟩; have Hu9 := Lib.hid hu9; clear hu9))
      go_ret
      exact ⟨rfl, Upd.none (((((((HU2.out.trans Hu3.out).trans Hu4.out).trans Hu5.out).trans Hu6.out).trans Hu7.out).trans Hu8.out).trans Hu9.out)⟩

theorem own : ownKnob Try.prog.godebug = none := by kernel_rfl
theorem laidOut : laidOutB Try.prog = true := by kernel_rfl
set_option maxRecDepth 100000 in
theorem lifted (os : Os) (started : os.Started) (H : Type) (enc : TypeId × Value → H) :
    ReturnsInHanded {} Try.checked os 3 .any (Rows.objectEncodesSpec.pre6 enc Try.prog Try.f3 Rows.objectEncodesRow.domain false) (Rows.objectEncodesSpec.post enc Try.prog Try.f3 false true false false) := by
  refine returnsInHanded_of_change_sized (C := Try.checked) own started (by kernel_rfl) Try.func3
    (ChangeSpec.witness6 (enc := enc) (C := Try.checked) false ⟨#[], #[.slice none 0 0, .int .i64 0, .slice none 0 0, .int .u64 0, .int .i64 0, .agg #[.int .i64 0, .int .i64 0, .int .u64 0, .int .u64 0, .int .i64 0]], []⟩ 8 (by kernel_rfl) (by kernel_rfl) (by kernel_rfl) (by kernel_rfl)) ?_
  intro W base args ds gs before hval0 hW _ hsz0 _
  have hsz : (DataW.weightsEach Try.prog (Try.f3.params.toList ++ Rows.objectEncodesSpec.plain.varTypes Try.prog) (ds ++ gs)).all (· ≤ reachBytes) = true := hsz0
  clear hsz0
  have hval : ∀ (j : Nat) t v, Try.f3.params[j]? = some t → args[j]? = some v → Value.okWide Try.prog W .any base t v := hval0
  have hW' := hW
  obtain ⟨p, q, hA0, hV, rfl, _, _⟩ := hW
  have hA : DataW.TrodAll enc Try.prog W 0 (fun _ => true) true Try.f3.params.toList args.toList ds p := hA0
  rw [Try.params3] at hA hval hsz
  obtain ⟨v0, vs0, d0, ds0, p0, q0, hargs, rfl, rfl, h0, r0⟩ := trodAll_cons hA
  obtain ⟨v1, vs1, d1, ds1, p1, q1, rfl, rfl, rfl, h1, r1⟩ := trodAll_cons r0
  obtain ⟨v2, vs2, d2, ds2, p2, q2, rfl, rfl, rfl, h2, r2⟩ := trodAll_cons r1
  obtain ⟨v3, vs3, d3, ds3, p3, q3, rfl, rfl, rfl, h3, r3⟩ := trodAll_cons r2
  obtain ⟨v4, vs4, d4, ds4, p4, q4, rfl, rfl, rfl, h4, r4⟩ := trodAll_cons r3
  obtain ⟨v5, vs5, d5, ds5, p5, q5, rfl, rfl, rfl, h5, r5⟩ := trodAll_cons r4
  obtain ⟨rfl, rfl, rfl⟩ := trodAll_nil r5
  obtain rfl : args = #[v0, v1, v2, v3, v4, v5] := by cases args; simp_all
  obtain ⟨rfl, rfl⟩ := trodVars_none hV
  clear hA0 hval0
  simp only [List.append_nil] at hW'
  have hlt : ∀ x, (x ∈ p0 ∨ x ∈ p1 ∨ x ∈ p2 ∨ x ∈ p3 ∨ x ∈ p4 ∨ x ∈ p5) → x.block < W.heap.size := fun x hx => by simpa using hW'.lt x (by simpa using hx)
  have k0 : ∀ (W' : World), Below W.heap.size W W' → DataW.Trod enc Try.prog W' 0 (fun b => decide (b < W.heap.size)) true 22 v0 d0 p0 :=
    fun W' hn => Below.trod laidOut (by kernel_rfl) (of_decide_eq_true (by kernel_rfl)) h0 hn (fun x hx => hlt x (Or.inl hx))
  have k1 : ∀ (W' : World), Below W.heap.size W W' → DataW.Trod enc Try.prog W' 0 (fun b => decide (b < W.heap.size)) true 3 v1 d1 p1 :=
    fun W' hn => Below.trod laidOut (by kernel_rfl) (of_decide_eq_true (by kernel_rfl)) h1 hn (fun x hx => hlt x (Or.inr (Or.inl hx)))
  have k2 : ∀ (W' : World), Below W.heap.size W W' → DataW.Trod enc Try.prog W' 0 (fun b => decide (b < W.heap.size)) true 23 v2 d2 p2 :=
    fun W' hn => Below.trod laidOut (by kernel_rfl) (of_decide_eq_true (by kernel_rfl)) h2 hn (fun x hx => hlt x (Or.inr (Or.inr (Or.inl hx))))
  have k3 : ∀ (W' : World), Below W.heap.size W W' → DataW.Trod enc Try.prog W' 0 (fun b => decide (b < W.heap.size)) true 24 v3 d3 p3 :=
    fun W' hn => Below.trod laidOut (by kernel_rfl) (of_decide_eq_true (by kernel_rfl)) h3 hn (fun x hx => hlt x (Or.inr (Or.inr (Or.inr (Or.inl hx)))))
  have k4 : ∀ (W' : World), Below W.heap.size W W' → DataW.Trod enc Try.prog W' 0 (fun b => decide (b < W.heap.size)) true 3 v4 d4 p4 :=
    fun W' hn => Below.trod laidOut (by kernel_rfl) (of_decide_eq_true (by kernel_rfl)) h4 hn (fun x hx => hlt x (Or.inr (Or.inr (Or.inr (Or.inr (Or.inl hx))))))
  have k5 : ∀ (W' : World), Below W.heap.size W W' → DataW.Trod enc Try.prog W' 0 (fun b => decide (b < W.heap.size)) true 26 v5 d5 p5 :=
    fun W' hn => Below.trod laidOut (by kernel_rfl) (of_decide_eq_true (by kernel_rfl)) h5 hn (fun x hx => hlt x (Or.inr (Or.inr (Or.inr (Or.inr (Or.inr (hx)))))))
  obtain ⟨x0, hx0⟩ := open_kindsAt (k := 0) _ Try.underlying22 Try.underlying68 (by kernel_rfl) (by decide) (by kernel_rfl) (by kernel_rfl) rfl Try.underlying52 Try.underlying3 (by kernel_rfl) (hval 0 22 v0 rfl rfl) h0 hsz 0 rfl rfl
  obtain ⟨a1, rfl, _, _, w1⟩ := open_int Try.underlying3 (hval 1 3 v1 rfl rfl) h1
  obtain ⟨x2, hx2⟩ := open_valsAt _ _ _ _ _ Try.underlying23 Try.underlying26 (by kernel_rfl) (by decide) (by kernel_rfl) (by kernel_rfl) rfl rfl rfl rfl rfl Try.underlying3 Try.underlying2 Try.underlying24 Try.underlying24 Try.underlying3 (hval 2 23 v2 rfl rfl) h2 hsz 2 rfl rfl
  obtain ⟨a3, rfl, _, _, w3⟩ := open_int Try.underlying24 (hval 3 24 v3 rfl rfl) h3
  obtain ⟨a4, rfl, _, _, w4⟩ := open_int Try.underlying3 (hval 4 3 v4 rfl rfl) h4
  obtain ⟨x5, hx5⟩ := open_valAt _ _ _ _ _ Try.underlying26 (by kernel_rfl) (by decide) (by kernel_rfl) rfl rfl rfl rfl rfl Try.underlying3 Try.underlying2 Try.underlying24 Try.underlying24 Try.underlying3 (hval 5 26 v5 rfl rfl) h5 hsz 5 rfl rfl
  refine (walk (W := W) v0 x0 hx0 a1 w1 v2 x2 hx2 a3 w3 a4 w4 v5 x5 hx5).mono fun e W' ⟨he, hb⟩ => ?_
  subst he
  refine ⟨_, rfl, _, _, _, [], p0 ++ (p1 ++ (p2 ++ (p3 ++ (p4 ++ (p5 ++ ([])))))), [], hW', ?_, ?_, rfl, hb.frame _, fun h => by cases h⟩
  · exact trodAll_cons_mk (shut_bool Try.underlying4 true) trodAll_mk0
  · exact trodAll_cons_mk (k0 _ hb) (trodAll_cons_mk (k1 _ hb) (trodAll_cons_mk (k2 _ hb) (trodAll_cons_mk (k3 _ hb) (trodAll_cons_mk (k4 _ hb) (trodAll_cons_mk (k5 _ hb) (trodAll_mk0))))))

theorem over : Rows.objectEncodesRow.holds Try.pinned (OpenSpec.ofChange Rows.objectEncodesSpec) :=
  OpenClaim.holds_of_wide 3 Try.f3 rfl rfl rfl rfl rfl rfl rfl ⟨rfl, rfl, rfl, rfl, rfl⟩ rfl rfl rfl rfl rfl (by kernel_rfl) Try.func3 (by kernel_rfl)
    (of_decide_eq_true (by kernel_rfl)) (by unfold Func.isWrapper; first | (rw [if_pos (by decide +kernel)]; kernel_rfl) | (rw [if_neg (by decide +kernel)]; exact ⟨rfl, rfl⟩))
    (fun os started H enc _ => lifted os started H enc)

/-- The given statement. -/
theorem proved : Rows.ObjectEncodesSaid := over
#print axioms proved
end Go.Proofs.Ytcnbcidbbeadcaa.objectEncodes
