/- Of no marker each answer is that of nothing. No condition. -/
import Derived.Test.YthcimfblmpapeaaAwake19
import Derived.SizedLaws
namespace Go.Proofs.Ythcimfblmpapeaa.markNil
open Go.ChangeShapes Go.WideShapes Go.ChangeAt Go.RowKit
set_option linter.unusedVariables false

set_option maxRecDepth 100000 in
set_option maxHeartbeats 1000000 in
theorem walk {W : World} (x : Int) (w0 : (Lit.int .i64 x).wf = true) :
    Calls Try.prog 14 #[.int .i64 x] W (LawPost W) := by
  have h := mark_nil x W
  have h1 := Lib.hid h.1
  have h2 := Lib.hid h.2.1
  have h3 := Lib.hid h.2.2.1
  have h4 := Lib.hid h.2.2.2.1
  have h5 := Lib.hid h.2.2.2.2
  have h6 := Lib.hid (awake19 W W (Upd.refl _ _))
  have h7 := Lib.hid (mark_Step_none .nilFunc W)
  clear h w0
  go_enter Try.func14, Try.ntmps14
  go_wp2_with (first
    | (go_at_call 36; (with_reducible refine h1.out.mono ?_); rintro e w' ⟨rfl, rfl⟩)
    | (go_at_call 34; (with_reducible refine h2.out.mono ?_); rintro e w' ⟨rfl, rfl⟩)
    | (go_at_call 38; (with_reducible refine h7.out.mono ?_); rintro e w' ⟨rfl, rfl⟩)
    | (go_at_call 40; (with_reducible refine h3.out.mono ?_); rintro e w' ⟨rfl, rfl⟩)
    | (go_at_call 39; (with_reducible refine h4.out.mono ?_); rintro e w' ⟨rfl, rfl⟩)
    | (go_at_call 41; (with_reducible refine h5.out.mono ?_); rintro e w' ⟨rfl, rfl⟩)
    | (go_at_call 32; (with_reducible refine h6.out.mono ?_); rintro e w' ⟨rfl, u1⟩))
  go_ret
  exact ⟨rfl, u1.none⟩

theorem own : ownKnob Try.prog.godebug = none := by kernel_rfl
theorem laidOut : laidOutB Try.prog = true := by kernel_rfl
set_option maxRecDepth 100000 in
theorem lifted (os : Os) (started : os.Started) (H : Type) (enc : TypeId × Value → H) :
    ReturnsInHanded {} Try.checked os 14 .any (Rows.markNilSpec.pre6 enc Try.prog Try.f14 Rows.markNilRow.domain false) (Rows.markNilSpec.post enc Try.prog Try.f14 false true false false) := by
  refine returnsInHanded_of_change_sized (C := Try.checked) own started (by kernel_rfl) Try.func14
    (ChangeSpec.witness6 (enc := enc) (C := Try.checked) false ⟨#[], #[.int .i64 0], []⟩ 8 (by kernel_rfl) (by kernel_rfl) (by kernel_rfl) (by kernel_rfl)) ?_
  intro W base args ds gs before hval0 hW _ hsz0 _
  have hsz : (DataW.weightsEach Try.prog (Try.f14.params.toList ++ Rows.markNilSpec.plain.varTypes Try.prog) (ds ++ gs)).all (· ≤ reachBytes) = true := hsz0
  clear hsz0
  have hval : ∀ (j : Nat) t v, Try.f14.params[j]? = some t → args[j]? = some v → Value.okWide Try.prog W .any base t v := hval0
  have hW' := hW
  obtain ⟨p, q, hA0, hV, rfl, _, _⟩ := hW
  have hA : DataW.TrodAll enc Try.prog W 0 (fun _ => true) true Try.f14.params.toList args.toList ds p := hA0
  rw [Try.params14] at hA hval hsz
  obtain ⟨v0, vs0, d0, ds0, p0, q0, hargs, rfl, rfl, h0, r0⟩ := trodAll_cons hA
  obtain ⟨rfl, rfl, rfl⟩ := trodAll_nil r0
  obtain rfl : args = #[v0] := by cases args; simp_all
  obtain ⟨rfl, rfl⟩ := trodVars_none hV
  clear hA0 hval0
  simp only [List.append_nil] at hW'
  have hlt : ∀ x, (x ∈ p0) → x.block < W.heap.size := fun x hx => by simpa using hW'.lt x (by simpa using hx)
  have k0 : ∀ (W' : World), Below W.heap.size W W' → DataW.Trod enc Try.prog W' 0 (fun b => decide (b < W.heap.size)) true 3 v0 d0 p0 :=
    fun W' hn => Below.trod laidOut (by kernel_rfl) (of_decide_eq_true (by kernel_rfl)) h0 hn (fun x hx => hlt x (hx))
  obtain ⟨a0, rfl, _, _, w0⟩ := open_int Try.underlying3 (hval 0 3 v0 rfl rfl) h0
  refine (walk (W := W) a0 w0).mono fun e W' ⟨he, hb⟩ => ?_
  subst he
  refine ⟨_, rfl, _, _, _, [], p0 ++ ([]), [], hW', ?_, ?_, rfl, hb.frame _, fun h => by cases h⟩
  · exact trodAll_cons_mk (shut_bool Try.underlying4 true) trodAll_mk0
  · exact trodAll_cons_mk (k0 _ hb) (trodAll_mk0)

theorem over : Rows.markNilRow.holds Try.pinned (OpenSpec.ofChange Rows.markNilSpec) :=
  OpenClaim.holds_of_wide 14 Try.f14 rfl rfl rfl rfl rfl rfl rfl ⟨rfl, rfl, rfl, rfl, rfl⟩ rfl rfl rfl rfl rfl (by kernel_rfl) Try.func14 (by kernel_rfl)
    (of_decide_eq_true (by kernel_rfl)) (by unfold Func.isWrapper; first | (rw [if_pos (by decide +kernel)]; kernel_rfl) | (rw [if_neg (by decide +kernel)]; exact ⟨rfl, rfl⟩))
    (fun os started H enc _ => lifted os started H enc)

/-- The given statement. -/
theorem proved : Rows.MarkNilSaid := over
#print axioms proved
end Go.Proofs.Ythcimfblmpapeaa.markNil
