/- Any word as a kind: as the reference has it. No condition. -/
import Derived.Test.YtgnmcldedifjaaaRefParse
import Derived.SizedLaws
import Derived.Deep.RegionHeld3
import Derived.Deep.DrawnRows
namespace Go.Proofs.Ytgnmcldedifjaaa.kindParses
open Go.ChangeShapes Go.WideShapes Go.ChangeAt Go.RowKit
set_option linter.unusedVariables false
attribute [local go_sem ↓] Go.wp_at_zero Go.wp_at_succ

set_option maxRecDepth 100000 in
set_option maxHeartbeats 2000000 in
theorem walk {W : World} (x : Int) (w0 : (Lit.int .u64 x).wf = true) :
    Calls Try.prog 10 #[.int .u64 x] W (LawPost W) := by
  obtain ⟨x, rfl, hx⟩ : ∃ y : Nat, x = y ∧ y < 2 ^ 64 := by
    obtain ⟨h1, h2⟩ := bounds_u64 w0
    exact ⟨x.toNat, by omega, by omega⟩
  have hA := Lib.hid (fun (w' : World) (u : Upd (fun _ => False) W w') => awake8 W w' u)
  have h1 := Lib.hid (fun (w' : World) => kind_Parse x w' hx)
  have h2 := Lib.hid (fun (w' : World) => ref_ParseKind x w' hx)
  unfold RetParse at h1 h2
  generalize (parseK x).isSome = b at *
  generalize (parseK x).getD [] = f at *
  clear w0 hx
  go_enter Try.func10, Try.ntmps10
  go_wp2_with fail
  refine (h1.out _).mono ?_
  rintro e w1 ⟨v1, rfl, hi1, hu1⟩
  have Hhi1 := Lib.hid hi1
  obtain ⟨a1, c1, rfl, -⟩ := hi1
  have Hhu1 := Lib.hid hu1; clear hu1
  go_wp2_with fail
  refine (h2.out _).mono ?_
  rintro e w2 ⟨v2, rfl, hi2, hu2⟩
  have hi2' := hi2
  obtain ⟨a2, c2, rfl, -⟩ := hi2'
  have hu3 := hu2.alloc (.cells #[.slice a2 f.length c2] 38)
  have hc1 : (w2.alloc (.cells #[.slice a2 f.length c2] 38)).cell? ⟨w1.heap.size, 0, none⟩ = some (.slice a1 f.length c1) := (hu3.none.cell (p := ⟨w1.heap.size, 0, none⟩) (by simp)).trans (World.cell?_alloc_new w1 #[.slice a1 f.length c1] _ 0)
  have hi1 : IntsR (w2.alloc (.cells #[.slice a2 f.length c2] 38)) (.slice a1 f.length c1) .i64 f := ints_upd (ints_upd Hhi1.out ((Upd.refl _ _).alloc _)) hu3
  have hi2 := ints_upd hi2 ((Upd.refl (fun _ => False) w2).alloc (.cells #[.slice a2 f.length c2] 38))
  have hs := ref_SameKind (.slice a1 f.length c1) (.slice a2 f.length c2) f f _ hi1 hi2
  rw [show decide (f = f) = true from by simp] at hs
  have hs := Lib.hid hs
  have hu4 := (Hhu1.out.alloc (.cells #[.slice a1 f.length c1] 38)).trans hu3
  clear hi1 hi2 hu2 hu3
  cases b <;>
  · go_wp2_with (first | (go_at_call 30; (with_reducible refine hs.out.mono ?_); rintro e w3 ⟨rfl, hu5⟩; have hu6 := hu4.trans hu5) | (go_at_call 21; (with_reducible refine (hA.out _ (by assumption)).mono ?_); rintro e w4 ⟨rfl, hu7⟩))
    go_ret
    exact ⟨rfl, Upd.none (by assumption)⟩

theorem own : ownKnob Try.prog.godebug = none := by kernel_rfl
theorem laidOut : laidOutB Try.prog = true := by kernel_rfl
set_option maxRecDepth 100000 in
theorem lifted (os : Os) (started : os.Started) (H : Type) (enc : TypeId × Value → H) :
    ReturnsInHanded {} Try.checked os 10 .any (Rows.kindParsesSpec.pre6 enc Try.prog Try.f10 Rows.kindParsesRow.domain false) (Rows.kindParsesSpec.post enc Try.prog Try.f10 false true false false) := by
  refine returnsInHanded_of_change_sized (C := Try.checked) own started (by kernel_rfl) Try.func10
    (ChangeSpec.witness6 (enc := enc) (C := Try.checked) false ⟨#[], #[.int .u64 0], []⟩ 8 (by kernel_rfl) (by kernel_rfl) (by kernel_rfl) (by kernel_rfl)) ?_
  intro W base args ds gs before hval0 hW _ hsz0 _
  have hsz : (DataW.weightsEach Try.prog (Try.f10.params.toList ++ Rows.kindParsesSpec.plain.varTypes Try.prog) (ds ++ gs)).all (· ≤ reachBytes) = true := hsz0
  clear hsz0
  have hval : ∀ (j : Nat) t v, Try.f10.params[j]? = some t → args[j]? = some v → Value.okWide Try.prog W .any base t v := hval0
  have hW' := hW
  obtain ⟨p, q, hA0, hV, rfl, _, _⟩ := hW
  have hA : DataW.TrodAll enc Try.prog W 0 (fun _ => true) true Try.f10.params.toList args.toList ds p := hA0
  rw [Try.params10] at hA hval hsz
  obtain ⟨v0, vs0, d0, ds0, p0, q0, hargs, rfl, rfl, h0, r0⟩ := trodAll_cons hA
  obtain ⟨rfl, rfl, rfl⟩ := trodAll_nil r0
  obtain rfl : args = #[v0] := by cases args; simp_all
  obtain ⟨rfl, rfl⟩ := trodVars_none hV
  clear hA0 hval0
  simp only [List.append_nil] at hW'
  have hlt : ∀ x, (x ∈ p0) → x.block < W.heap.size := fun x hx => by simpa using hW'.lt x (by simpa using hx)
  have k0 : ∀ (W' : World), Below W.heap.size W W' → DataW.Trod enc Try.prog W' 0 (fun b => decide (b < W.heap.size)) true 22 v0 d0 p0 :=
    fun W' hn => Below.trod laidOut (by kernel_rfl) (of_decide_eq_true (by kernel_rfl)) h0 hn (fun x hx => hlt x (hx))
  obtain ⟨a0, rfl, _, _, w0⟩ := open_int Try.underlying22 (hval 0 22 v0 rfl rfl) h0
  refine (walk (W := W) a0 w0).mono fun e W' ⟨he, hb⟩ => ?_
  subst he
  refine ⟨_, rfl, _, _, _, [], p0 ++ ([]), [], hW', ?_, ?_, rfl, hb.frame _, fun h => by cases h⟩
  · exact trodAll_cons_mk (shut_bool Try.underlying4 true) trodAll_mk0
  · exact trodAll_cons_mk (k0 _ hb) (trodAll_mk0)

theorem over : Rows.kindParsesRow.holds Try.pinned (OpenSpec.ofChange Rows.kindParsesSpec) :=
  OpenClaim.holds_of_wide 10 Try.f10 rfl rfl rfl rfl rfl rfl rfl ⟨rfl, rfl, rfl, rfl, rfl⟩ rfl rfl rfl rfl rfl (by kernel_rfl) Try.func10 (by kernel_rfl)
    (of_decide_eq_true (by kernel_rfl)) (by unfold Func.isWrapper; first | (rw [if_pos (by decide +kernel)]; kernel_rfl) | (rw [if_neg (by decide +kernel)]; exact ⟨rfl, rfl⟩))
    (fun os started H enc _ => lifted os started H enc)

/-- The given statement. -/
theorem proved : Rows.KindParsesSaid := over
#print axioms proved
end Go.Proofs.Ytgnmcldedifjaaa.kindParses
