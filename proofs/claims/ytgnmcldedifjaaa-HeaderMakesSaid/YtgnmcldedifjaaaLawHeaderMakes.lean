/- Any header is made, any word is read, moved and checked as the reference does it. No condition. -/
import Derived.Test.YtgnmcldedifjaaaAwake9
import Derived.SizedLaws
namespace Go.Proofs.Ytgnmcldedifjaaa.headerMakes
open Go.ChangeShapes Go.WideShapes Go.ChangeAt Go.RowKit
set_option linter.unusedVariables false

set_option maxRecDepth 100000 in
set_option maxHeartbeats 1000000 in
theorem walk {W : World} (k : Int) (w0 : (Lit.int .i64 k).wf = true) (n : Int) (w1 : (Lit.int .i64 n).wf = true) (e : Int) (w2 : (Lit.int .u64 e).wf = true) (x : Int) (w3 : (Lit.int .u64 x).wf = true) (o : Int) (w4 : (Lit.int .u64 o).wf = true) :
    Calls Try.prog 6 #[.int .i64 k, .int .i64 n, .int .u64 e, .int .u64 x, .int .u64 o] W (LawPost W) := by
  obtain ⟨e, rfl, he⟩ := nat_of_u64 w2
  obtain ⟨x, rfl, hx⟩ := nat_of_u64 w3
  obtain ⟨o, rfl, ho⟩ := nat_of_u64 w4
  have hA := Lib.hid (fun (w' : World) (u : Upd (fun _ => False) W w') => awake9 W w' u)
  have hu0 : Upd (fun _ => False) W W := Upd.refl _ _
  have h1 := fun (w' : World) => header_parse x w' hx
  have h2 := fun (w' : World) => ref_parse x w' hx
  have h3 := Lib.hid (fun (w' : World) => header_check x w' hx)
  have h4 := Lib.hid (fun (w' : World) => ref_check x w' hx)
  have h5 := fun (w' : World) (u : Upd (fun _ => False) W w') => retFrom (header_epoch x o w' hx ho) u
  have hm : ∃ v : Nat, (∀ (w' : World) (u : Upd (fun _ => False) W w'), Calls Try.prog 13 #[.int .i64 k, .int .i64 n, .int .u64 e] w' (Ret W (.int .u64 v))) ∧ (∀ (w' : World) (u : Upd (fun _ => False) W w'), Calls Try.prog 18 #[.int .i64 k, .int .i64 n, .int .u64 e] w' (Ret W (.int .u64 v))) := by
    by_cases hv : 0 ≤ k ∧ k ≤ 15 ∧ 1 ≤ n ∧ n ≤ 16
    · obtain ⟨k, rfl⟩ := Int.eq_ofNat_of_zero_le hv.1
      obtain ⟨n, rfl⟩ := Int.eq_ofNat_of_zero_le (show 0 ≤ n by omega)
      exact ⟨makeN k n e, fun w' u => retFrom (header_make k n e w' (by omega) (by omega) (by omega) he) u, fun w' u => (ref_header k n e w' (by omega) (by omega) (by omega) he).mono fun e w2 ⟨h, h'⟩ => ⟨h, h' ▸ u⟩⟩
    · exact ⟨0, fun w' u => (header_make_no k n e w' hv).mono fun e w2 ⟨h, h'⟩ => ⟨h, h' ▸ u⟩, fun w' u => (ref_header_no k n e w' hv).mono fun e w2 ⟨h, h'⟩ => ⟨h, h' ▸ u⟩⟩
  obtain ⟨v, h6, h7⟩ := hm
  by_cases hh : IsHead x
  · have ea : epochN x o = makeN (getN x 0 4) (getN x 4 5) o := if_pos hh
    rw [ea] at h5
    rw [parse_yes x hh] at h1 h2
    have h8 := fun (w' : World) (u : Upd (fun _ => False) W w') => show Calls Try.prog 18 #[.int .i64 (getN x 0 4), .int .i64 (getN x 4 5), .int .u64 o] w' (Ret W (.int .u64 (makeN (getN x 0 4) (getN x 4 5) o))) from (ref_header (getN x 0 4) (getN x 4 5) o w' (get_lt x 0 4) hh.1 hh.2.1 ho).mono fun e w2 ⟨h, h'⟩ => ⟨h, h' ▸ u⟩
    generalize makeN (getN x 0 4) (getN x 4 5) o = z at *
    have Hh1 := Lib.hid h1; clear h1
    have Hh2 := Lib.hid h2; clear h2
    have Hh5 := Lib.hid h5; clear h5
    have Hh6 := Lib.hid h6; clear h6
    have Hh7 := Lib.hid h7; clear h7
    have Hh8 := Lib.hid h8; clear h8
    clear w0 w1 w2 w3 w4 hx he ho hh ea
    go_enter Try.func6, Try.ntmps6
    go_wp2_with (first | (go_at_call 14; (first | (with_reducible refine (Hh1.out _).mono ?_)); rintro e w' ⟨rfl, rfl⟩) | (go_at_call 17; (first | (with_reducible refine (Hh2.out _).mono ?_)); rintro e w' ⟨rfl, rfl⟩) | (go_at_call 13; (first | (with_reducible refine (Hh6.out _ (by assumption)).mono ?_)); rintro e w' ⟨rfl, hu⟩) | (go_at_call 18; (first | (with_reducible refine (Hh7.out _ (by assumption)).mono ?_) | (with_reducible refine (Hh8.out _ (by assumption)).mono ?_)); rintro e w' ⟨rfl, hu⟩) | (go_at_call 19; (first | (with_reducible refine (Hh5.out _ (by assumption)).mono ?_)); rintro e w' ⟨rfl, hu⟩) | (go_at_call 16; (first | (with_reducible refine (h3.out _).mono ?_)); rintro e w' ⟨rfl, rfl⟩) | (go_at_call 20; (first | (with_reducible refine (h4.out _).mono ?_)); rintro e w' ⟨rfl, rfl⟩) | (go_at_call 15; (first | (with_reducible refine (hA.out _ (by assumption)).mono ?_)); rintro e w' ⟨rfl, hu⟩))
    go_ret
    exact ⟨rfl, Upd.none (by assumption)⟩
  · have ea : epochN x o = 0 := if_neg hh
    rw [ea] at h5
    have h5 : ∀ (w' : World) (u : Upd (fun _ => False) W w'), Calls Try.prog 19 #[.int .u64 x, .int .u64 o] w' (Ret W (.int .u64 0)) := h5
    rw [parse_none x hh] at h1 h2
    have Hh1 := Lib.hid h1; clear h1
    have Hh2 := Lib.hid h2; clear h2
    have Hh5 := Lib.hid h5; clear h5
    have Hh6 := Lib.hid h6; clear h6
    have Hh7 := Lib.hid h7; clear h7
    clear w0 w1 w2 w3 w4 hx he ho hh ea
    go_enter Try.func6, Try.ntmps6
    go_wp2_with (first | (go_at_call 14; (first | (with_reducible refine (Hh1.out _).mono ?_)); rintro e w' ⟨rfl, rfl⟩) | (go_at_call 17; (first | (with_reducible refine (Hh2.out _).mono ?_)); rintro e w' ⟨rfl, rfl⟩) | (go_at_call 13; (first | (with_reducible refine (Hh6.out _ (by assumption)).mono ?_)); rintro e w' ⟨rfl, hu⟩) | (go_at_call 18; (first | (with_reducible refine (Hh7.out _ (by assumption)).mono ?_)); rintro e w' ⟨rfl, hu⟩) | (go_at_call 19; (first | (with_reducible refine (Hh5.out _ (by assumption)).mono ?_)); rintro e w' ⟨rfl, hu⟩) | (go_at_call 16; (first | (with_reducible refine (h3.out _).mono ?_)); rintro e w' ⟨rfl, rfl⟩) | (go_at_call 20; (first | (with_reducible refine (h4.out _).mono ?_)); rintro e w' ⟨rfl, rfl⟩) | (go_at_call 15; (first | (with_reducible refine (hA.out _ (by assumption)).mono ?_)); rintro e w' ⟨rfl, hu⟩))
    go_ret
    exact ⟨rfl, Upd.none (by assumption)⟩

theorem own : ownKnob Try.prog.godebug = none := by kernel_rfl
theorem laidOut : laidOutB Try.prog = true := by kernel_rfl
set_option maxRecDepth 100000 in
theorem lifted (os : Os) (started : os.Started) (H : Type) (enc : TypeId × Value → H) :
    ReturnsInHanded {} Try.checked os 6 .any (Rows.headerMakesSpec.pre6 enc Try.prog Try.f6 Rows.headerMakesRow.domain false) (Rows.headerMakesSpec.post enc Try.prog Try.f6 false true false false) := by
  refine returnsInHanded_of_change_sized (C := Try.checked) own started (by kernel_rfl) Try.func6
    (ChangeSpec.witness6 (enc := enc) (C := Try.checked) false ⟨#[], #[.int .i64 0, .int .i64 0, .int .u64 0, .int .u64 0, .int .u64 0], []⟩ 8 (by kernel_rfl) (by kernel_rfl) (by kernel_rfl) (by kernel_rfl)) ?_
  intro W base args ds gs before hval0 hW _ hsz0 _
  have hsz : (DataW.weightsEach Try.prog (Try.f6.params.toList ++ Rows.headerMakesSpec.plain.varTypes Try.prog) (ds ++ gs)).all (· ≤ reachBytes) = true := hsz0
  clear hsz0
  have hval : ∀ (j : Nat) t v, Try.f6.params[j]? = some t → args[j]? = some v → Value.okWide Try.prog W .any base t v := hval0
  have hW' := hW
  obtain ⟨p, q, hA0, hV, rfl, _, _⟩ := hW
  have hA : DataW.TrodAll enc Try.prog W 0 (fun _ => true) true Try.f6.params.toList args.toList ds p := hA0
  rw [Try.params6] at hA hval hsz
  obtain ⟨v0, vs0, d0, ds0, p0, q0, hargs, rfl, rfl, h0, r0⟩ := trodAll_cons hA
  obtain ⟨v1, vs1, d1, ds1, p1, q1, rfl, rfl, rfl, h1, r1⟩ := trodAll_cons r0
  obtain ⟨v2, vs2, d2, ds2, p2, q2, rfl, rfl, rfl, h2, r2⟩ := trodAll_cons r1
  obtain ⟨v3, vs3, d3, ds3, p3, q3, rfl, rfl, rfl, h3, r3⟩ := trodAll_cons r2
  obtain ⟨v4, vs4, d4, ds4, p4, q4, rfl, rfl, rfl, h4, r4⟩ := trodAll_cons r3
  obtain ⟨rfl, rfl, rfl⟩ := trodAll_nil r4
  obtain rfl : args = #[v0, v1, v2, v3, v4] := by cases args; simp_all
  obtain ⟨rfl, rfl⟩ := trodVars_none hV
  clear hA0 hval0
  simp only [List.append_nil] at hW'
  have hlt : ∀ x, (x ∈ p0 ∨ x ∈ p1 ∨ x ∈ p2 ∨ x ∈ p3 ∨ x ∈ p4) → x.block < W.heap.size := fun x hx => by simpa using hW'.lt x (by simpa using hx)
  have k0 : ∀ (W' : World), Below W.heap.size W W' → DataW.Trod enc Try.prog W' 0 (fun b => decide (b < W.heap.size)) true 3 v0 d0 p0 :=
    fun W' hn => Below.trod laidOut (by kernel_rfl) (of_decide_eq_true (by kernel_rfl)) h0 hn (fun x hx => hlt x (Or.inl hx))
  have k1 : ∀ (W' : World), Below W.heap.size W W' → DataW.Trod enc Try.prog W' 0 (fun b => decide (b < W.heap.size)) true 3 v1 d1 p1 :=
    fun W' hn => Below.trod laidOut (by kernel_rfl) (of_decide_eq_true (by kernel_rfl)) h1 hn (fun x hx => hlt x (Or.inr (Or.inl hx)))
  have k2 : ∀ (W' : World), Below W.heap.size W W' → DataW.Trod enc Try.prog W' 0 (fun b => decide (b < W.heap.size)) true 22 v2 d2 p2 :=
    fun W' hn => Below.trod laidOut (by kernel_rfl) (of_decide_eq_true (by kernel_rfl)) h2 hn (fun x hx => hlt x (Or.inr (Or.inr (Or.inl hx))))
  have k3 : ∀ (W' : World), Below W.heap.size W W' → DataW.Trod enc Try.prog W' 0 (fun b => decide (b < W.heap.size)) true 22 v3 d3 p3 :=
    fun W' hn => Below.trod laidOut (by kernel_rfl) (of_decide_eq_true (by kernel_rfl)) h3 hn (fun x hx => hlt x (Or.inr (Or.inr (Or.inr (Or.inl hx)))))
  have k4 : ∀ (W' : World), Below W.heap.size W W' → DataW.Trod enc Try.prog W' 0 (fun b => decide (b < W.heap.size)) true 22 v4 d4 p4 :=
    fun W' hn => Below.trod laidOut (by kernel_rfl) (of_decide_eq_true (by kernel_rfl)) h4 hn (fun x hx => hlt x (Or.inr (Or.inr (Or.inr (Or.inr (hx))))))
  obtain ⟨a0, rfl, _, _, w0⟩ := open_int Try.underlying3 (hval 0 3 v0 rfl rfl) h0
  obtain ⟨a1, rfl, _, _, w1⟩ := open_int Try.underlying3 (hval 1 3 v1 rfl rfl) h1
  obtain ⟨a2, rfl, _, _, w2⟩ := open_int Try.underlying22 (hval 2 22 v2 rfl rfl) h2
  obtain ⟨a3, rfl, _, _, w3⟩ := open_int Try.underlying22 (hval 3 22 v3 rfl rfl) h3
  obtain ⟨a4, rfl, _, _, w4⟩ := open_int Try.underlying22 (hval 4 22 v4 rfl rfl) h4
  refine (walk (W := W) a0 w0 a1 w1 a2 w2 a3 w3 a4 w4).mono fun e W' ⟨he, hb⟩ => ?_
  subst he
  refine ⟨_, rfl, _, _, _, [], p0 ++ (p1 ++ (p2 ++ (p3 ++ (p4 ++ ([]))))), [], hW', ?_, ?_, rfl, hb.frame _, fun h => by cases h⟩
  · exact trodAll_cons_mk (shut_bool Try.underlying4 true) trodAll_mk0
  · exact trodAll_cons_mk (k0 _ hb) (trodAll_cons_mk (k1 _ hb) (trodAll_cons_mk (k2 _ hb) (trodAll_cons_mk (k3 _ hb) (trodAll_cons_mk (k4 _ hb) (trodAll_mk0)))))

theorem over : Rows.headerMakesRow.holds Try.pinned (OpenSpec.ofChange Rows.headerMakesSpec) :=
  OpenClaim.holds_of_wide 6 Try.f6 rfl rfl rfl rfl rfl rfl rfl ⟨rfl, rfl, rfl, rfl, rfl⟩ rfl rfl rfl rfl rfl (by kernel_rfl) Try.func6 (by kernel_rfl)
    (of_decide_eq_true (by kernel_rfl)) (by unfold Func.isWrapper; first | (rw [if_pos (by decide +kernel)]; kernel_rfl) | (rw [if_neg (by decide +kernel)]; exact ⟨rfl, rfl⟩))
    (fun os started H enc _ => lifted os started H enc)

/-- The given statement. -/
theorem proved : Rows.HeaderMakesSaid := over
#print axioms proved
end Go.Proofs.Ytgnmcldedifjaaa.headerMakes
