/- The lowest bit is 1 and all below it are 0; without it there is one bit less and the lowest is higher. No condition. -/
import Derived.Test.YthdndphghnjcbaaAwake2
import Derived.SizedLaws
namespace Go.Proofs.Ythdndphghnjcbaa.wordLowests
open Go.ChangeShapes Go.WideShapes Go.ChangeAt Go.RowKit
set_option linter.unusedVariables false

set_option maxRecDepth 100000 in
set_option maxHeartbeats 1000000 in
theorem walk (a0 : Int) (w0 : (Lit.int .u64 a0).wf = true) (W : World) :
    Calls Try.prog 12 #[.int .u64 a0] W (LawPost W) := by
  obtain ⟨a, rfl, ha⟩ := nat_of_u64 w0
  have h5 := Lib.hid (awake2 W)
  have h1 := Lib.hid (word_lowest a W ha)
  have h2 := Lib.hid (word_ones a W ha)
  by_cases h0 : a = 0
  · subst h0
    rw [lowN_zero] at h1
    rw [onesN_zero] at h2
    have h1 : Hid (Calls Try.prog 29 #[.int .u64 0] W (Same W (.int .i64 64))) := h1
    have h2 : Hid (Calls Try.prog 28 #[.int .u64 0] W (Same W (.int .i64 0))) := h2
    clear w0 ha
    show Calls Try.prog 12 #[.int .u64 0] W (LawPost W)
    go_enter Try.func12, Try.ntmps12
    go_wp2_with (first | (go_at_call 29; (first | (with_reducible refine h1.out.mono ?_)); rintro e w' ⟨rfl, rfl⟩) | (go_at_call 28; (first | (with_reducible refine h2.out.mono ?_)); rintro e w' ⟨rfl, rfl⟩) | (go_at_call 27; (with_reducible refine h5.out.mono ?_); rintro e w' ⟨rfl, rfl⟩))
    go_ret
    exact ⟨rfl, Below.refl _ _⟩
  · have hk := lowN_lt a ha h0
    have hx : a &&& (a - 1) < 2 ^ 64 := Nat.and_lt_two_pow _ (by omega)
    have h3 := Lib.hid (show Calls Try.prog 25 #[.int .u64 a, .int .i64 (lowN a), .int .i64 1, .int .u64 0] W (Same W (.int .u64 (a &&& (a - 1) : Nat))) from by
      have := word_set a (lowN a) 1 0 W ha (by omega)
      rw [set_low a ha h0] at this
      exact this)
    have h4 := Lib.hid (show Calls Try.prog 23 #[.int .u64 a, .int .i64 (lowN a), .int .i64 1] W (Same W (.int .u64 1)) from by
      have := word_get a (lowN a) 1 W ha (by omega)
      rw [get_low a ha h0] at this
      exact this)
    have h6 := Lib.hid (show Calls Try.prog 23 #[.int .u64 a, .int .i64 0, .int .i64 (lowN a)] W (Same W (.int .u64 0)) from by
      have := word_get a 0 (lowN a) W ha (by omega)
      rw [get_below_low a] at this
      exact this)
    have h7 := Lib.hid (word_ones _ W hx)
    have h8 := Lib.hid (word_lowest _ W hx)
    have b1 := onesN_le a
    have s1 : ((onesN (a &&& (a - 1)) : Int) == (onesN a : Int) - 1) = true := by
      have := onesN_pred a h0 ha
      simp
      omega
    have s2 : lowN a < lowN (a &&& (a - 1)) := low_higher a ha h0
    have s3 : (lowN a : Int) < lowN (a &&& (a - 1)) := by omega
    have s4 : ((a : Int) == 0) = false := by simp; omega
    clear w0 ha hx h0
    generalize a &&& (a - 1) = y at *
    generalize lowN a = i at *
    generalize lowN y = j at *
    go_enter Try.func12, Try.ntmps12
    go_wp2_with (first | (go_at_call 29; (first | (with_reducible refine h1.out.mono ?_) | (with_reducible refine h8.out.mono ?_)); rintro e w' ⟨rfl, rfl⟩) | (go_at_call 28; (first | (with_reducible refine h2.out.mono ?_) | (with_reducible refine h7.out.mono ?_)); rintro e w' ⟨rfl, rfl⟩) | (go_at_call 25; (first | (with_reducible refine h3.out.mono ?_)); rintro e w' ⟨rfl, rfl⟩) | (go_at_call 23; (first | (with_reducible refine h4.out.mono ?_) | (with_reducible refine h6.out.mono ?_)); rintro e w' ⟨rfl, rfl⟩) | (go_at_call 27; (with_reducible refine h5.out.mono ?_); rintro e w' ⟨rfl, rfl⟩))
    go_ret
    exact ⟨rfl, Below.refl _ _⟩

theorem own : ownKnob Try.prog.godebug = none := by kernel_rfl
theorem laidOut : laidOutB Try.prog = true := by kernel_rfl
set_option maxRecDepth 100000 in
theorem lifted (os : Os) (started : os.Started) (H : Type) (enc : TypeId × Value → H) :
    ReturnsInHanded {} Try.checked os 12 .any (Rows.wordLowestsSpec.pre6 enc Try.prog Try.f12 Rows.wordLowestsRow.domain false) (Rows.wordLowestsSpec.post enc Try.prog Try.f12 false true false false) := by
  refine returnsInHanded_of_change_sized (C := Try.checked) own started (by kernel_rfl) Try.func12
    (ChangeSpec.witness6 (enc := enc) (C := Try.checked) false ⟨#[], #[.int .u64 0], []⟩ 8 (by kernel_rfl) (by kernel_rfl) (by kernel_rfl) (by kernel_rfl)) ?_
  intro W base args ds gs before hval0 hW _ hsz0 _
  have hsz : (DataW.weightsEach Try.prog (Try.f12.params.toList ++ Rows.wordLowestsSpec.plain.varTypes Try.prog) (ds ++ gs)).all (· ≤ reachBytes) = true := hsz0
  clear hsz0
  have hval : ∀ (j : Nat) t v, Try.f12.params[j]? = some t → args[j]? = some v → Value.okWide Try.prog W .any base t v := hval0
  have hW' := hW
  obtain ⟨p, q, hA0, hV, rfl, _, _⟩ := hW
  have hA : DataW.TrodAll enc Try.prog W 0 (fun _ => true) true Try.f12.params.toList args.toList ds p := hA0
  rw [Try.params12] at hA hval hsz
  obtain ⟨v0, vs0, d0, ds0, p0, q0, hargs, rfl, rfl, h0, r0⟩ := trodAll_cons hA
  obtain ⟨rfl, rfl, rfl⟩ := trodAll_nil r0
  obtain rfl : args = #[v0] := by cases args; simp_all
  obtain ⟨rfl, rfl⟩ := trodVars_none hV
  clear hA0 hval0
  simp only [List.append_nil] at hW'
  have hlt : ∀ x, (x ∈ p0) → x.block < W.heap.size := fun x hx => by simpa using hW'.lt x (by simpa using hx)
  have k0 : ∀ (W' : World), Below W.heap.size W W' → DataW.Trod enc Try.prog W' 0 (fun b => decide (b < W.heap.size)) true 25 v0 d0 p0 :=
    fun W' hn => Below.trod laidOut (by kernel_rfl) (of_decide_eq_true (by kernel_rfl)) h0 hn (fun x hx => hlt x (hx))
  obtain ⟨a0, rfl, _, _, w0⟩ := open_int Try.underlying25 (hval 0 25 v0 rfl rfl) h0
  refine (walk a0 w0 W).mono fun e W' ⟨he, hb⟩ => ?_
  subst he
  refine ⟨_, rfl, _, _, _, [], p0 ++ ([]), [], hW', ?_, ?_, rfl, hb.frame _, fun h => by cases h⟩
  · exact trodAll_cons_mk (shut_bool Try.underlying4 true) trodAll_mk0
  · exact trodAll_cons_mk (k0 _ hb) (trodAll_mk0)

theorem over : Rows.wordLowestsRow.holds Try.pinned (OpenSpec.ofChange Rows.wordLowestsSpec) :=
  OpenClaim.holds_of_wide 12 Try.f12 rfl rfl rfl rfl rfl rfl rfl ⟨rfl, rfl, rfl, rfl, rfl⟩ rfl rfl rfl rfl rfl (by kernel_rfl) Try.func12 (by kernel_rfl)
    (of_decide_eq_true (by kernel_rfl)) (by unfold Func.isWrapper; first | (rw [if_pos (by decide +kernel)]; kernel_rfl) | (rw [if_neg (by decide +kernel)]; exact ⟨rfl, rfl⟩))
    (fun os started H enc _ => lifted os started H enc)

/-- The given statement. -/
theorem proved : Rows.WordLowestsSaid := over
#print axioms proved
end Go.Proofs.Ythdndphghnjcbaa.wordLowests
