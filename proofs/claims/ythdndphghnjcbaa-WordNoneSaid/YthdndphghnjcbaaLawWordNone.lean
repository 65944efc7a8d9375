/- Where there are no such bits nothing is told and nothing changes. No condition. -/
import Derived.Test.YthdndphghnjcbaaAwake2
import Derived.SizedLaws
namespace Go.Proofs.Ythdndphghnjcbaa.wordNone
open Go.ChangeShapes Go.WideShapes Go.ChangeAt Go.RowKit
set_option linter.unusedVariables false

set_option maxRecDepth 100000 in
set_option maxHeartbeats 1000000 in
theorem walk (a0 : Int) (w0 : (Lit.int .u64 a0).wf = true) (a1 : Int) (w1 : (Lit.int .u64 a1).wf = true) (f : Int) (w2 : (Lit.int .i64 f).wf = true) (n : Int) (w3 : (Lit.int .i64 n).wf = true) (W : World) :
    Calls Try.prog 10 #[.int .u64 a0, .int .u64 a1, .int .i64 f, .int .i64 n] W (LawPost W) := by
  obtain ⟨x, rfl, hx⟩ := nat_of_u64 w0
  obtain ⟨v, rfl, hv⟩ := nat_of_u64 w1
  have h5 := Lib.hid (awake2 W)
  by_cases h : OkF f n
  · unfold OkF at h
    obtain ⟨b1, b2, b3, b4⟩ := h
    have b5 : f ≤ 64 := by omega
    have b6 : n ≤ 64 - f := by omega
    clear w0 w1 w2 w3
    go_enter Try.func10, Try.ntmps10
    go_wp2_with (go_at_call 27; (with_reducible refine h5.out.mono ?_); rintro e w' ⟨rfl, rfl⟩)
    go_ret
    exact ⟨rfl, Below.refl _ _⟩
  · have h1 := Lib.hid (word_get_no x f n W h)
    have h2 := Lib.hid (word_set_no x f n v W h)
    have h3 := Lib.hid (show Calls Try.prog 25 #[.int .u64 x, .int .i64 5, .int .i64 0, .int .u64 v] W (Same W (.int .u64 x)) from by
      have := word_set x 5 0 v W hx (by decide)
      rw [setN_zero] at this
      exact this)
    have key : (f < 0) ∨ (0 ≤ f ∧ n < 0) ∨ (0 ≤ f ∧ 0 ≤ n ∧ 64 < f) ∨ (0 ≤ f ∧ 0 ≤ n ∧ f ≤ 64 ∧ 64 - f < n) := by
      unfold OkF at h
      omega
    clear w0 w1 w2 w3 h hx hv
    rcases key with c | ⟨c1, c⟩ | ⟨c1, c2, c⟩ | ⟨c1, c2, c3, c⟩
    all_goals
      go_enter Try.func10, Try.ntmps10
      go_wp2_with (first | (go_at_call 23; (first | (with_reducible refine h1.out.mono ?_)); rintro e w' ⟨rfl, rfl⟩) | (go_at_call 25; (first | (with_reducible refine h2.out.mono ?_) | (with_reducible refine h3.out.mono ?_)); rintro e w' ⟨rfl, rfl⟩) | (go_at_call 27; (with_reducible refine h5.out.mono ?_); rintro e w' ⟨rfl, rfl⟩))
      go_ret
      exact ⟨rfl, Below.refl _ _⟩

theorem own : ownKnob Try.prog.godebug = none := by kernel_rfl
theorem laidOut : laidOutB Try.prog = true := by kernel_rfl
set_option maxRecDepth 100000 in
theorem lifted (os : Os) (started : os.Started) (H : Type) (enc : TypeId × Value → H) :
    ReturnsInHanded {} Try.checked os 10 .any (Rows.wordNoneSpec.pre6 enc Try.prog Try.f10 Rows.wordNoneRow.domain false) (Rows.wordNoneSpec.post enc Try.prog Try.f10 false true false false) := by
  refine returnsInHanded_of_change_sized (C := Try.checked) own started (by kernel_rfl) Try.func10
    (ChangeSpec.witness6 (enc := enc) (C := Try.checked) false ⟨#[], #[.int .u64 0, .int .u64 0, .int .i64 0, .int .i64 0], []⟩ 8 (by kernel_rfl) (by kernel_rfl) (by kernel_rfl) (by kernel_rfl)) ?_
  intro W base args ds gs before hval0 hW _ hsz0 _
  have hsz : (DataW.weightsEach Try.prog (Try.f10.params.toList ++ Rows.wordNoneSpec.plain.varTypes Try.prog) (ds ++ gs)).all (· ≤ reachBytes) = true := hsz0
  clear hsz0
  have hval : ∀ (j : Nat) t v, Try.f10.params[j]? = some t → args[j]? = some v → Value.okWide Try.prog W .any base t v := hval0
  have hW' := hW
  obtain ⟨p, q, hA0, hV, rfl, _, _⟩ := hW
  have hA : DataW.TrodAll enc Try.prog W 0 (fun _ => true) true Try.f10.params.toList args.toList ds p := hA0
  rw [Try.params10] at hA hval hsz
  obtain ⟨v0, vs0, d0, ds0, p0, q0, hargs, rfl, rfl, h0, r0⟩ := trodAll_cons hA
  obtain ⟨v1, vs1, d1, ds1, p1, q1, rfl, rfl, rfl, h1, r1⟩ := trodAll_cons r0
  obtain ⟨v2, vs2, d2, ds2, p2, q2, rfl, rfl, rfl, h2, r2⟩ := trodAll_cons r1
  obtain ⟨v3, vs3, d3, ds3, p3, q3, rfl, rfl, rfl, h3, r3⟩ := trodAll_cons r2
  obtain ⟨rfl, rfl, rfl⟩ := trodAll_nil r3
  obtain rfl : args = #[v0, v1, v2, v3] := by cases args; simp_all
  obtain ⟨rfl, rfl⟩ := trodVars_none hV
  clear hA0 hval0
  simp only [List.append_nil] at hW'
  have hlt : ∀ x, (x ∈ p0 ∨ x ∈ p1 ∨ x ∈ p2 ∨ x ∈ p3) → x.block < W.heap.size := fun x hx => by simpa using hW'.lt x (by simpa using hx)
  have k0 : ∀ (W' : World), Below W.heap.size W W' → DataW.Trod enc Try.prog W' 0 (fun b => decide (b < W.heap.size)) true 25 v0 d0 p0 :=
    fun W' hn => Below.trod laidOut (by kernel_rfl) (of_decide_eq_true (by kernel_rfl)) h0 hn (fun x hx => hlt x (Or.inl hx))
  have k1 : ∀ (W' : World), Below W.heap.size W W' → DataW.Trod enc Try.prog W' 0 (fun b => decide (b < W.heap.size)) true 25 v1 d1 p1 :=
    fun W' hn => Below.trod laidOut (by kernel_rfl) (of_decide_eq_true (by kernel_rfl)) h1 hn (fun x hx => hlt x (Or.inr (Or.inl hx)))
  have k2 : ∀ (W' : World), Below W.heap.size W W' → DataW.Trod enc Try.prog W' 0 (fun b => decide (b < W.heap.size)) true 3 v2 d2 p2 :=
    fun W' hn => Below.trod laidOut (by kernel_rfl) (of_decide_eq_true (by kernel_rfl)) h2 hn (fun x hx => hlt x (Or.inr (Or.inr (Or.inl hx))))
  have k3 : ∀ (W' : World), Below W.heap.size W W' → DataW.Trod enc Try.prog W' 0 (fun b => decide (b < W.heap.size)) true 3 v3 d3 p3 :=
    fun W' hn => Below.trod laidOut (by kernel_rfl) (of_decide_eq_true (by kernel_rfl)) h3 hn (fun x hx => hlt x (Or.inr (Or.inr (Or.inr (hx)))))
  obtain ⟨a0, rfl, _, _, w0⟩ := open_int Try.underlying25 (hval 0 25 v0 rfl rfl) h0
  obtain ⟨a1, rfl, _, _, w1⟩ := open_int Try.underlying25 (hval 1 25 v1 rfl rfl) h1
  obtain ⟨a2, rfl, _, _, w2⟩ := open_int Try.underlying3 (hval 2 3 v2 rfl rfl) h2
  obtain ⟨a3, rfl, _, _, w3⟩ := open_int Try.underlying3 (hval 3 3 v3 rfl rfl) h3
  refine (walk a0 w0 a1 w1 a2 w2 a3 w3 W).mono fun e W' ⟨he, hb⟩ => ?_
  subst he
  refine ⟨_, rfl, _, _, _, [], p0 ++ (p1 ++ (p2 ++ (p3 ++ ([])))), [], hW', ?_, ?_, rfl, hb.frame _, fun h => by cases h⟩
  · exact trodAll_cons_mk (shut_bool Try.underlying4 true) trodAll_mk0
  · exact trodAll_cons_mk (k0 _ hb) (trodAll_cons_mk (k1 _ hb) (trodAll_cons_mk (k2 _ hb) (trodAll_cons_mk (k3 _ hb) (trodAll_mk0))))

theorem over : Rows.wordNoneRow.holds Try.pinned (OpenSpec.ofChange Rows.wordNoneSpec) :=
  OpenClaim.holds_of_wide 10 Try.f10 rfl rfl rfl rfl rfl rfl rfl ⟨rfl, rfl, rfl, rfl, rfl⟩ rfl rfl rfl rfl rfl (by kernel_rfl) Try.func10 (by kernel_rfl)
    (of_decide_eq_true (by kernel_rfl)) (by unfold Func.isWrapper; first | (rw [if_pos (by decide +kernel)]; kernel_rfl) | (rw [if_neg (by decide +kernel)]; exact ⟨rfl, rfl⟩))
    (fun os started H enc _ => lifted os started H enc)

/-- The given statement. -/
theorem proved : Rows.WordNoneSaid := over
#print axioms proved
end Go.Proofs.Ythdndphghnjcbaa.wordNone
