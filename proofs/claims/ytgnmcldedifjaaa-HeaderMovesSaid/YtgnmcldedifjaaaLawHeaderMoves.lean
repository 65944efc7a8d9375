/- A header moved to another epoch and back is the same; one that is none stays none. No condition. -/
import Derived.Test.YtgnmcldedifjaaaAwake9
import Derived.SizedLaws
namespace Go.Proofs.Ytgnmcldedifjaaa.headerMoves
open Go.ChangeShapes Go.WideShapes Go.ChangeAt Go.RowKit
set_option linter.unusedVariables false

set_option maxRecDepth 100000 in
set_option maxHeartbeats 1000000 in
theorem walk {W : World} (x : Int) (w0 : (Lit.int .u64 x).wf = true) (a : Int) (w1 : (Lit.int .u64 a).wf = true) (b : Int) (w2 : (Lit.int .u64 b).wf = true) :
    Calls Try.prog 7 #[.int .u64 x, .int .u64 a, .int .u64 b] W (LawPost W) := by
  obtain ⟨x, rfl, hx⟩ := nat_of_u64 w0
  obtain ⟨a, rfl, ha⟩ := nat_of_u64 w1
  obtain ⟨b, rfl, hb⟩ := nat_of_u64 w2
  have hA := Lib.hid (fun (w' : World) (u : Upd (fun _ => False) W w') => awake9 W w' u)
  have hu0 : Upd (fun _ => False) W W := Upd.refl _ _
  have h2 := fun (w' : World) => header_parse x w' hx
  have h3 := fun (w' : World) (u : Upd (fun _ => False) W w') => retFrom (header_epoch x a w' hx ha) u
  by_cases hh : IsHead x
  · have k1 := get_lt x 0 4
    have k2 := get_lt x 4 5
    have k3 := get_lt x 9 32
    have ea : epochN x a = makeN (getN x 0 4) (getN x 4 5) a := if_pos hh
    have eb : epochN x b = makeN (getN x 0 4) (getN x 4 5) b := if_pos hh
    have hy := makeN_lt (getN x 0 4) (getN x 4 5) a
    have hyh := make_isHead (getN x 0 4) (getN x 4 5) a hh.1 hh.2.1
    have h4 := fun (w' : World) => header_parse (makeN (getN x 0 4) (getN x 4 5) a) w' hy
    rw [parse_make _ _ _ k1 hh.1 hh.2.1] at h4
    have ex : epochN (makeN (getN x 0 4) (getN x 4 5) a) (getN x 9 32) = x := by
      unfold epochN
      rw [if_pos hyh, make_kind _ _ _ k1, make_words _ _ _ k2]
      exact make_of_parse x hx hh
    have ey : epochN (makeN (getN x 0 4) (getN x 4 5) a) b = makeN (getN x 0 4) (getN x 4 5) b := by
      unfold epochN
      rw [if_pos hyh, make_kind _ _ _ k1, make_words _ _ _ k2]
    have h5 := fun (w' : World) (u : Upd (fun _ => False) W w') => retFrom (header_epoch (makeN (getN x 0 4) (getN x 4 5) a) (getN x 9 32) w' hy (Nat.lt_trans k3 (by decide))) u
    have h6 := fun (w' : World) (u : Upd (fun _ => False) W w') => retFrom (header_epoch (makeN (getN x 0 4) (getN x 4 5) a) b w' hy hb) u
    have h7 := fun (w' : World) (u : Upd (fun _ => False) W w') => retFrom (header_epoch x b w' hx hb) u
    rw [parse_yes x hh] at h2
    rw [ea] at h3
    rw [ex] at h5
    rw [ey] at h6
    rw [eb] at h7
    have e1 := and32 a ha
    clear ea eb ex ey hyh hy k1 k2 k3 hx ha hb hh w0 w1 w2
    generalize makeN (getN x 0 4) (getN x 4 5) a = y at *
    generalize makeN (getN x 0 4) (getN x 4 5) b = z at *
    have Hh2 := Lib.hid h2; clear h2
    have Hh3 := Lib.hid h3; clear h3
    have Hh4 := Lib.hid h4; clear h4
    have Hh5 := Lib.hid h5; clear h5
    have Hh6 := Lib.hid h6; clear h6
    have Hh7 := Lib.hid h7; clear h7
    go_enter Try.func7, Try.ntmps7
    go_wp2_with (first | (go_at_call 14; (first | (with_reducible refine (Hh2.out _).mono ?_) | (with_reducible refine (Hh4.out _).mono ?_)); rintro e w' ⟨rfl, rfl⟩) | (go_at_call 19; (first | (with_reducible refine (Hh3.out _ (by assumption)).mono ?_) | (with_reducible refine (Hh5.out _ (by assumption)).mono ?_) | (with_reducible refine (Hh6.out _ (by assumption)).mono ?_) | (with_reducible refine (Hh7.out _ (by assumption)).mono ?_)); rintro e w' ⟨rfl, hu⟩) | (go_at_call 15; (first | (with_reducible refine (hA.out _ (by assumption)).mono ?_)); rintro e w' ⟨rfl, hu⟩))
    go_ret
    exact ⟨rfl, Upd.none (by assumption)⟩
  · rw [parse_none x hh] at h2
    have ea : epochN x a = 0 := if_neg hh
    rw [ea] at h3
    have h3 : ∀ (w' : World) (u : Upd (fun _ => False) W w'), Calls Try.prog 19 #[.int .u64 x, .int .u64 a] w' (Ret W (.int .u64 0)) := h3
    have Hh2 := Lib.hid h2; clear h2
    have Hh3 := Lib.hid h3; clear h3
    clear w0 w1 w2 hx ha hb hh ea
    go_enter Try.func7, Try.ntmps7
    go_wp2_with (first | (go_at_call 14; (first | (with_reducible refine (Hh2.out _).mono ?_)); rintro e w' ⟨rfl, rfl⟩) | (go_at_call 19; (first | (with_reducible refine (Hh3.out _ (by assumption)).mono ?_)); rintro e w' ⟨rfl, hu⟩) | (go_at_call 15; (first | (with_reducible refine (hA.out _ (by assumption)).mono ?_)); rintro e w' ⟨rfl, hu⟩))
    go_ret
    exact ⟨rfl, Upd.none (by assumption)⟩

theorem own : ownKnob Try.prog.godebug = none := by kernel_rfl
theorem laidOut : laidOutB Try.prog = true := by kernel_rfl
set_option maxRecDepth 100000 in
theorem lifted (os : Os) (started : os.Started) (H : Type) (enc : TypeId × Value → H) :
    ReturnsInHanded {} Try.checked os 7 .any (Rows.headerMovesSpec.pre6 enc Try.prog Try.f7 Rows.headerMovesRow.domain false) (Rows.headerMovesSpec.post enc Try.prog Try.f7 false true false false) := by
  refine returnsInHanded_of_change_sized (C := Try.checked) own started (by kernel_rfl) Try.func7
    (ChangeSpec.witness6 (enc := enc) (C := Try.checked) false ⟨#[], #[.int .u64 0, .int .u64 0, .int .u64 0], []⟩ 8 (by kernel_rfl) (by kernel_rfl) (by kernel_rfl) (by kernel_rfl)) ?_
  intro W base args ds gs before hval0 hW _ hsz0 _
  have hsz : (DataW.weightsEach Try.prog (Try.f7.params.toList ++ Rows.headerMovesSpec.plain.varTypes Try.prog) (ds ++ gs)).all (· ≤ reachBytes) = true := hsz0
  clear hsz0
  have hval : ∀ (j : Nat) t v, Try.f7.params[j]? = some t → args[j]? = some v → Value.okWide Try.prog W .any base t v := hval0
  have hW' := hW
  obtain ⟨p, q, hA0, hV, rfl, _, _⟩ := hW
  have hA : DataW.TrodAll enc Try.prog W 0 (fun _ => true) true Try.f7.params.toList args.toList ds p := hA0
  rw [Try.params7] at hA hval hsz
  obtain ⟨v0, vs0, d0, ds0, p0, q0, hargs, rfl, rfl, h0, r0⟩ := trodAll_cons hA
  obtain ⟨v1, vs1, d1, ds1, p1, q1, rfl, rfl, rfl, h1, r1⟩ := trodAll_cons r0
  obtain ⟨v2, vs2, d2, ds2, p2, q2, rfl, rfl, rfl, h2, r2⟩ := trodAll_cons r1
  obtain ⟨rfl, rfl, rfl⟩ := trodAll_nil r2
  obtain rfl : args = #[v0, v1, v2] := by cases args; simp_all
  obtain ⟨rfl, rfl⟩ := trodVars_none hV
  clear hA0 hval0
  simp only [List.append_nil] at hW'
  have hlt : ∀ x, (x ∈ p0 ∨ x ∈ p1 ∨ x ∈ p2) → x.block < W.heap.size := fun x hx => by simpa using hW'.lt x (by simpa using hx)
  have k0 : ∀ (W' : World), Below W.heap.size W W' → DataW.Trod enc Try.prog W' 0 (fun b => decide (b < W.heap.size)) true 22 v0 d0 p0 :=
    fun W' hn => Below.trod laidOut (by kernel_rfl) (of_decide_eq_true (by kernel_rfl)) h0 hn (fun x hx => hlt x (Or.inl hx))
  have k1 : ∀ (W' : World), Below W.heap.size W W' → DataW.Trod enc Try.prog W' 0 (fun b => decide (b < W.heap.size)) true 22 v1 d1 p1 :=
    fun W' hn => Below.trod laidOut (by kernel_rfl) (of_decide_eq_true (by kernel_rfl)) h1 hn (fun x hx => hlt x (Or.inr (Or.inl hx)))
  have k2 : ∀ (W' : World), Below W.heap.size W W' → DataW.Trod enc Try.prog W' 0 (fun b => decide (b < W.heap.size)) true 22 v2 d2 p2 :=
    fun W' hn => Below.trod laidOut (by kernel_rfl) (of_decide_eq_true (by kernel_rfl)) h2 hn (fun x hx => hlt x (Or.inr (Or.inr (hx))))
  obtain ⟨a0, rfl, _, _, w0⟩ := open_int Try.underlying22 (hval 0 22 v0 rfl rfl) h0
  obtain ⟨a1, rfl, _, _, w1⟩ := open_int Try.underlying22 (hval 1 22 v1 rfl rfl) h1
  obtain ⟨a2, rfl, _, _, w2⟩ := open_int Try.underlying22 (hval 2 22 v2 rfl rfl) h2
  refine (walk (W := W) a0 w0 a1 w1 a2 w2).mono fun e W' ⟨he, hb⟩ => ?_
  subst he
  refine ⟨_, rfl, _, _, _, [], p0 ++ (p1 ++ (p2 ++ ([]))), [], hW', ?_, ?_, rfl, hb.frame _, fun h => by cases h⟩
  · exact trodAll_cons_mk (shut_bool Try.underlying4 true) trodAll_mk0
  · exact trodAll_cons_mk (k0 _ hb) (trodAll_cons_mk (k1 _ hb) (trodAll_cons_mk (k2 _ hb) (trodAll_mk0)))

theorem over : Rows.headerMovesRow.holds Try.pinned (OpenSpec.ofChange Rows.headerMovesSpec) :=
  OpenClaim.holds_of_wide 7 Try.f7 rfl rfl rfl rfl rfl rfl rfl ⟨rfl, rfl, rfl, rfl, rfl⟩ rfl rfl rfl rfl rfl (by kernel_rfl) Try.func7 (by kernel_rfl)
    (of_decide_eq_true (by kernel_rfl)) (by unfold Func.isWrapper; first | (rw [if_pos (by decide +kernel)]; kernel_rfl) | (rw [if_neg (by decide +kernel)]; exact ⟨rfl, rfl⟩))
    (fun os started H enc _ => lifted os started H enc)

/-- The given statement. -/
theorem proved : Rows.HeaderMovesSaid := over
#print axioms proved
end Go.Proofs.Ytgnmcldedifjaaa.headerMoves
