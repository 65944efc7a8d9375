/- What is read is what makes it: any word that is a header is made of its parts. No condition. -/
import Derived.Test.YtgnmcldedifjaaaAwake9
import Derived.SizedLaws
namespace Go.Proofs.Ytgnmcldedifjaaa.headerTold
open Go.ChangeShapes Go.WideShapes Go.ChangeAt Go.RowKit
set_option linter.unusedVariables false

set_option maxRecDepth 100000 in
set_option maxHeartbeats 1000000 in
theorem walk {W : World} (x : Int) (w0 : (Lit.int .u64 x).wf = true) :
    Calls Try.prog 5 #[.int .u64 x] W (LawPost W) := by
  obtain ⟨x, rfl, hx⟩ := nat_of_u64 w0
  have hA := Lib.hid (fun (w' : World) (u : Upd (fun _ => False) W w') => awake9 W w' u)
  have hu0 : Upd (fun _ => False) W W := Upd.refl _ _
  have h2 := fun (w' : World) => header_parse x w' hx
  by_cases hh : IsHead x
  · rw [parse_yes x hh] at h2
    have h1 := Lib.hid (fun (w' : World) (u : Upd (fun _ => False) W w') => retFrom (header_make (getN x 0 4) (getN x 4 5) (getN x 9 32) w' (get_lt x 0 4) hh.1 hh.2.1 (Nat.lt_trans (get_lt x 9 32) (by decide))) u)
    rw [make_of_parse x hx hh] at h1
    have h3 := Lib.hid (fun (w' : World) => header_check x w' hx)
    have e1 : (x : Int) / 72057594037927936 = ((chkN x : Nat) : Int) := by
      rw [check_high x hx hh]
      omega
    have Hh2 := Lib.hid h2; clear h2
    clear w0 hx hh
    go_enter Try.func5, Try.ntmps5
    go_wp2_with (first | (go_at_call 13; (first | (with_reducible refine (h1.out _ (by assumption)).mono ?_)); rintro e w' ⟨rfl, hu⟩) | (go_at_call 14; (first | (with_reducible refine (Hh2.out _).mono ?_)); rintro e w' ⟨rfl, rfl⟩) | (go_at_call 16; (first | (with_reducible refine (h3.out _).mono ?_)); rintro e w' ⟨rfl, rfl⟩) | (go_at_call 15; (first | (with_reducible refine (hA.out _ (by assumption)).mono ?_)); rintro e w' ⟨rfl, hu⟩))
    go_ret
    exact ⟨rfl, Upd.none (by assumption)⟩
  · rw [parse_none x hh] at h2
    have Hh2 := Lib.hid h2; clear h2
    clear w0 hx hh
    go_enter Try.func5, Try.ntmps5
    go_wp2_with (first | (go_at_call 14; (first | (with_reducible refine (Hh2.out _).mono ?_)); rintro e w' ⟨rfl, rfl⟩) | (go_at_call 15; (first | (with_reducible refine (hA.out _ (by assumption)).mono ?_)); rintro e w' ⟨rfl, hu⟩))
    go_ret
    exact ⟨rfl, Upd.none (by assumption)⟩

theorem own : ownKnob Try.prog.godebug = none := by kernel_rfl
theorem laidOut : laidOutB Try.prog = true := by kernel_rfl
set_option maxRecDepth 100000 in
theorem lifted (os : Os) (started : os.Started) (H : Type) (enc : TypeId × Value → H) :
    ReturnsInHanded {} Try.checked os 5 .any (Rows.headerToldSpec.pre6 enc Try.prog Try.f5 Rows.headerToldRow.domain false) (Rows.headerToldSpec.post enc Try.prog Try.f5 false true false false) := by
  refine returnsInHanded_of_change_sized (C := Try.checked) own started (by kernel_rfl) Try.func5
    (ChangeSpec.witness6 (enc := enc) (C := Try.checked) false ⟨#[], #[.int .u64 0], []⟩ 8 (by kernel_rfl) (by kernel_rfl) (by kernel_rfl) (by kernel_rfl)) ?_
  intro W base args ds gs before hval0 hW _ hsz0 _
  have hsz : (DataW.weightsEach Try.prog (Try.f5.params.toList ++ Rows.headerToldSpec.plain.varTypes Try.prog) (ds ++ gs)).all (· ≤ reachBytes) = true := hsz0
  clear hsz0
  have hval : ∀ (j : Nat) t v, Try.f5.params[j]? = some t → args[j]? = some v → Value.okWide Try.prog W .any base t v := hval0
  have hW' := hW
  obtain ⟨p, q, hA0, hV, rfl, _, _⟩ := hW
  have hA : DataW.TrodAll enc Try.prog W 0 (fun _ => true) true Try.f5.params.toList args.toList ds p := hA0
  rw [Try.params5] at hA hval hsz
  obtain ⟨v0, vs0, d0, ds0, p0, q0, hargs, rfl, rfl, h0, r0⟩ := trodAll_cons hA
  obtain ⟨rfl, rfl, rfl⟩ := trodAll_nil r0
  obtain rfl : args = #[v0] := by cases args; simp_all
  obtain ⟨rfl, rfl⟩ := trodVars_none hV
  clear hA0 hval0
  simp only [List.append_nil] at hW'
  have hlt : ∀ x, (x ∈ p0) → x.block < W.heap.size := fun x hx => by simpa using hW'.lt x (by simpa using hx)
  have k0 : ∀ (W' : World), Below W.heap.size W W' → DataW.Trod enc Try.prog W' 0 (fun b => decide (b < W.heap.size)) true 22 v0 d0 p0 :=
    fun W' hn => Below.trod laidOut (by kernel_rfl) (of_decide_eq_true (by kernel_rfl)) h0 hn (fun x hx => hlt x (hx))
  obtain ⟨a0, rfl, _, _, w0⟩ := open_int Try.underlying22 (hval 0 22 v0 rfl rfl) h0
  refine (walk (W := W) a0 w0).mono fun e W' ⟨he, hb⟩ => ?_
  subst he
  refine ⟨_, rfl, _, _, _, [], p0 ++ ([]), [], hW', ?_, ?_, rfl, hb.frame _, fun h => by cases h⟩
  · exact trodAll_cons_mk (shut_bool Try.underlying4 true) trodAll_mk0
  · exact trodAll_cons_mk (k0 _ hb) (trodAll_mk0)

theorem over : Rows.headerToldRow.holds Try.pinned (OpenSpec.ofChange Rows.headerToldSpec) :=
  OpenClaim.holds_of_wide 5 Try.f5 rfl rfl rfl rfl rfl rfl rfl ⟨rfl, rfl, rfl, rfl, rfl⟩ rfl rfl rfl rfl rfl (by kernel_rfl) Try.func5 (by kernel_rfl)
    (of_decide_eq_true (by kernel_rfl)) (by unfold Func.isWrapper; first | (rw [if_pos (by decide +kernel)]; kernel_rfl) | (rw [if_neg (by decide +kernel)]; exact ⟨rfl, rfl⟩))
    (fun os started H enc _ => lifted os started H enc)

/-- The given statement. -/
theorem proved : Rows.HeaderToldSaid := over
#print axioms proved
end Go.Proofs.Ytgnmcldedifjaaa.headerTold
