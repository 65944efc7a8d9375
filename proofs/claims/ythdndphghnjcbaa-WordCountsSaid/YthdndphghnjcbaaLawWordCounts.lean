/- For any word the counts, the lowest bit and the conversions are the reference's. No condition. -/
import Derived.Test.YthdndphghnjcbaaAwake2
import Derived.SizedLaws
namespace Go.Proofs.Ythdndphghnjcbaa.wordCounts
open Go.ChangeShapes Go.WideShapes Go.ChangeAt Go.RowKit
set_option linter.unusedVariables false

set_option maxRecDepth 100000 in
set_option maxHeartbeats 1000000 in
theorem walk (a0 : Int) (w0 : (Lit.int .u64 a0).wf = true) (n : Int) (w1 : (Lit.int .i64 n).wf = true) (W : World) :
    Calls Try.prog 13 #[.int .u64 a0, .int .i64 n] W (LawPost W) := by
  obtain ⟨a, rfl, ha⟩ := nat_of_u64 w0
  obtain ⟨x, hx, hx2⟩ := u64_of n
  obtain ⟨n1, n2⟩ := bounds_i64 w1
  have hback : wrap64 (x : Int) = n := by rw [← hx]; exact wrap_back n n1 n2
  have h5 := Lib.hid (awake2 W)
  have h1 := Lib.hid (word_ones a W ha)
  have h2 := Lib.hid (ref_ones a W ha)
  have h3 := Lib.hid (word_lowest a W ha)
  have h4 := Lib.hid (ref_lowest a W ha)
  have h6 := Lib.hid (show Calls Try.prog 32 #[.int .i64 n] W (Same W (.int .u64 x)) from by
    have := word_int n W
    rw [hx] at this
    exact this)
  have h7 := Lib.hid (word_toInt a W)
  have h8 := Lib.hid (show Calls Try.prog 33 #[.int .u64 x] W (Same W (.int .i64 n)) from by
    have := word_toInt x W
    rw [hback] at this
    exact this)
  clear w0 w1 ha hx2 n1 n2 hback
  go_enter Try.func13, Try.ntmps13
  go_wp2_with (first | (go_at_call 28; (first | (with_reducible refine h1.out.mono ?_)); rintro e w' ⟨rfl, rfl⟩) | (go_at_call 30; (first | (with_reducible refine h2.out.mono ?_)); rintro e w' ⟨rfl, rfl⟩) | (go_at_call 29; (first | (with_reducible refine h3.out.mono ?_)); rintro e w' ⟨rfl, rfl⟩) | (go_at_call 31; (first | (with_reducible refine h4.out.mono ?_)); rintro e w' ⟨rfl, rfl⟩) | (go_at_call 32; (first | (with_reducible refine h6.out.mono ?_)); rintro e w' ⟨rfl, rfl⟩) | (go_at_call 33; (first | (with_reducible refine h7.out.mono ?_) | (with_reducible refine h8.out.mono ?_)); rintro e w' ⟨rfl, rfl⟩) | (go_at_call 27; (with_reducible refine h5.out.mono ?_); rintro e w' ⟨rfl, rfl⟩))
  go_ret
  exact ⟨rfl, Below.refl _ _⟩

theorem own : ownKnob Try.prog.godebug = none := by kernel_rfl
theorem laidOut : laidOutB Try.prog = true := by kernel_rfl
set_option maxRecDepth 100000 in
theorem lifted (os : Os) (started : os.Started) (H : Type) (enc : TypeId × Value → H) :
    ReturnsInHanded {} Try.checked os 13 .any (Rows.wordCountsSpec.pre6 enc Try.prog Try.f13 Rows.wordCountsRow.domain false) (Rows.wordCountsSpec.post enc Try.prog Try.f13 false true false false) := by
  refine returnsInHanded_of_change_sized (C := Try.checked) own started (by kernel_rfl) Try.func13
    (ChangeSpec.witness6 (enc := enc) (C := Try.checked) false ⟨#[], #[.int .u64 0, .int .i64 0], []⟩ 8 (by kernel_rfl) (by kernel_rfl) (by kernel_rfl) (by kernel_rfl)) ?_
  intro W base args ds gs before hval0 hW _ hsz0 _
  have hsz : (DataW.weightsEach Try.prog (Try.f13.params.toList ++ Rows.wordCountsSpec.plain.varTypes Try.prog) (ds ++ gs)).all (· ≤ reachBytes) = true := hsz0
  clear hsz0
  have hval : ∀ (j : Nat) t v, Try.f13.params[j]? = some t → args[j]? = some v → Value.okWide Try.prog W .any base t v := hval0
  have hW' := hW
  obtain ⟨p, q, hA0, hV, rfl, _, _⟩ := hW
  have hA : DataW.TrodAll enc Try.prog W 0 (fun _ => true) true Try.f13.params.toList args.toList ds p := hA0
  rw [Try.params13] at hA hval hsz
  obtain ⟨v0, vs0, d0, ds0, p0, q0, hargs, rfl, rfl, h0, r0⟩ := trodAll_cons hA
  obtain ⟨v1, vs1, d1, ds1, p1, q1, rfl, rfl, rfl, h1, r1⟩ := trodAll_cons r0
  obtain ⟨rfl, rfl, rfl⟩ := trodAll_nil r1
  obtain rfl : args = #[v0, v1] := by cases args; simp_all
  obtain ⟨rfl, rfl⟩ := trodVars_none hV
  clear hA0 hval0
  simp only [List.append_nil] at hW'
  have hlt : ∀ x, (x ∈ p0 ∨ x ∈ p1) → x.block < W.heap.size := fun x hx => by simpa using hW'.lt x (by simpa using hx)
  have k0 : ∀ (W' : World), Below W.heap.size W W' → DataW.Trod enc Try.prog W' 0 (fun b => decide (b < W.heap.size)) true 25 v0 d0 p0 :=
    fun W' hn => Below.trod laidOut (by kernel_rfl) (of_decide_eq_true (by kernel_rfl)) h0 hn (fun x hx => hlt x (Or.inl hx))
  have k1 : ∀ (W' : World), Below W.heap.size W W' → DataW.Trod enc Try.prog W' 0 (fun b => decide (b < W.heap.size)) true 2 v1 d1 p1 :=
    fun W' hn => Below.trod laidOut (by kernel_rfl) (of_decide_eq_true (by kernel_rfl)) h1 hn (fun x hx => hlt x (Or.inr (hx)))
  obtain ⟨a0, rfl, _, _, w0⟩ := open_int Try.underlying25 (hval 0 25 v0 rfl rfl) h0
  obtain ⟨a1, rfl, _, _, w1⟩ := open_int Try.underlying2 (hval 1 2 v1 rfl rfl) h1
  refine (walk a0 w0 a1 w1 W).mono fun e W' ⟨he, hb⟩ => ?_
  subst he
  refine ⟨_, rfl, _, _, _, [], p0 ++ (p1 ++ ([])), [], hW', ?_, ?_, rfl, hb.frame _, fun h => by cases h⟩
  · exact trodAll_cons_mk (shut_bool Try.underlying4 true) trodAll_mk0
  · exact trodAll_cons_mk (k0 _ hb) (trodAll_cons_mk (k1 _ hb) (trodAll_mk0))

theorem over : Rows.wordCountsRow.holds Try.pinned (OpenSpec.ofChange Rows.wordCountsSpec) :=
  OpenClaim.holds_of_wide 13 Try.f13 rfl rfl rfl rfl rfl rfl rfl ⟨rfl, rfl, rfl, rfl, rfl⟩ rfl rfl rfl rfl rfl (by kernel_rfl) Try.func13 (by kernel_rfl)
    (of_decide_eq_true (by kernel_rfl)) (by unfold Func.isWrapper; first | (rw [if_pos (by decide +kernel)]; kernel_rfl) | (rw [if_neg (by decide +kernel)]; exact ⟨rfl, rfl⟩))
    (fun os started H enc _ => lifted os started H enc)

/-- The given statement. -/
theorem proved : Rows.WordCountsSaid := over
#print axioms proved
end Go.Proofs.Ythdndphghnjcbaa.wordCounts
