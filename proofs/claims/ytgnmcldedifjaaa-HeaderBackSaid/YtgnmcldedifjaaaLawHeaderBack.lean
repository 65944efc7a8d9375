/- A header is read as it was made; with any one bit turned it is none. No condition. -/
import Derived.Test.YtgnmcldedifjaaaAwake9
import Derived.SizedLaws
namespace Go.Proofs.Ytgnmcldedifjaaa.headerBack
open Go.ChangeShapes Go.WideShapes Go.ChangeAt Go.RowKit
set_option linter.unusedVariables false

set_option maxRecDepth 100000 in
set_option maxHeartbeats 1000000 in
theorem walk {W : World} (k : Int) (w0 : (Lit.int .i64 k).wf = true) (n : Int) (w1 : (Lit.int .i64 n).wf = true) (e : Int) (w2 : (Lit.int .u64 e).wf = true) (b : Int) (w3 : (Lit.int .i64 b).wf = true) :
    Calls Try.prog 3 #[.int .i64 k, .int .i64 n, .int .u64 e, .int .i64 b] W (LawPost W) := by
  obtain ⟨e, rfl, he⟩ := nat_of_u64 w2
  obtain ⟨K, hK, hK2⟩ := rem_nat k 16 (by decide) (by decide)
  obtain ⟨M, hM, hM2⟩ := rem_nat n 16 (by decide) (by decide)
  obtain ⟨N, hN⟩ : ∃ N : Nat, (M : Int) + 1 = N := ⟨M + 1, by omega⟩
  obtain ⟨B, hB, hB2⟩ := rem_u64 b 64 (by decide)
  have hx := makeN_lt K N e
  have hh := make_isHead K N e (by omega) (by omega)
  have hA := Lib.hid (fun (w' : World) (u : Upd (fun _ => False) W w') => awake9 W w' u)
  have hu0 : Upd (fun _ => False) W W := Upd.refl _ _
  have h1 := Lib.hid (fun (w' : World) (u : Upd (fun _ => False) W w') => retFrom (header_make K N e w' (by omega) (by omega) (by omega) he) u)
  have h2 := Lib.hid (fun (w' : World) => header_parse (makeN K N e) w' hx)
  rw [parse_make K N e (by omega) (by omega) (by omega)] at h2
  have h3 := Lib.hid (fun (w' : World) => header_parse (makeN K N e ^^^ 2 ^ B) w' (Nat.xor_lt_two_pow hx (Nat.pow_lt_pow_right (by decide) (by omega))))
  rw [parse_none _ (flip_noHead _ B hh (by omega))] at h3
  have h4 := Lib.hid (fun (w' : World) => show Calls Try.prog 14 #[.int .u64 0] w' (Same w' (.tuple #[.int .i64 0, .int .i64 0, .int .u64 0, .bool false])) from by
    have := header_parse 0 w' (by decide)
    rw [parse_none _ zero_noHead] at this
    exact this)
  have e1 := and32 e he
  have e2 : bits .xor .u64 ((makeN K N e : Nat) : Int) (IntKind.u64.wrap (2 ^ B)) = ((makeN K N e ^^^ 2 ^ B : Nat) : Int) := by
    have hp : 2 ^ B < 2 ^ 64 := Nat.pow_lt_pow_right (by decide) (by omega)
    rw [show ((2 : Int) ^ B) = ((2 ^ B : Nat) : Int) from by simp, u64wrap_id _ hp, u64xor _ _ hx hp]
  clear w0 w1 w2 w3 hx hh he
  generalize makeN K N e = x at *
  generalize x ^^^ 2 ^ B = y at *
  go_enter Try.func3, Try.ntmps3
  go_wp2_with (first | (go_at_call 13; (first | (with_reducible refine (h1.out _ (by assumption)).mono ?_)); rintro e w' ⟨rfl, hu⟩) | (go_at_call 14; (first | (with_reducible refine (h2.out _).mono ?_) | (with_reducible refine (h3.out _).mono ?_) | (with_reducible refine (h4.out _).mono ?_)); rintro e w' ⟨rfl, rfl⟩) | (go_at_call 15; (first | (with_reducible refine (hA.out _ (by assumption)).mono ?_)); rintro e w' ⟨rfl, hu⟩))
  go_ret
  exact ⟨rfl, Upd.none (by assumption)⟩

theorem own : ownKnob Try.prog.godebug = none := by kernel_rfl
theorem laidOut : laidOutB Try.prog = true := by kernel_rfl
set_option maxRecDepth 100000 in
theorem lifted (os : Os) (started : os.Started) (H : Type) (enc : TypeId × Value → H) :
    ReturnsInHanded {} Try.checked os 3 .any (Rows.headerBackSpec.pre6 enc Try.prog Try.f3 Rows.headerBackRow.domain false) (Rows.headerBackSpec.post enc Try.prog Try.f3 false true false false) := by
  refine returnsInHanded_of_change_sized (C := Try.checked) own started (by kernel_rfl) Try.func3
    (ChangeSpec.witness6 (enc := enc) (C := Try.checked) false ⟨#[], #[.int .i64 0, .int .i64 0, .int .u64 0, .int .i64 0], []⟩ 8 (by kernel_rfl) (by kernel_rfl) (by kernel_rfl) (by kernel_rfl)) ?_
  intro W base args ds gs before hval0 hW _ hsz0 _
  have hsz : (DataW.weightsEach Try.prog (Try.f3.params.toList ++ Rows.headerBackSpec.plain.varTypes Try.prog) (ds ++ gs)).all (· ≤ reachBytes) = true := hsz0
  clear hsz0
  have hval : ∀ (j : Nat) t v, Try.f3.params[j]? = some t → args[j]? = some v → Value.okWide Try.prog W .any base t v := hval0
  have hW' := hW
  obtain ⟨p, q, hA0, hV, rfl, _, _⟩ := hW
  have hA : DataW.TrodAll enc Try.prog W 0 (fun _ => true) true Try.f3.params.toList args.toList ds p := hA0
  rw [Try.params3] at hA hval hsz
  obtain ⟨v0, vs0, d0, ds0, p0, q0, hargs, rfl, rfl, h0, r0⟩ := trodAll_cons hA
  obtain ⟨v1, vs1, d1, ds1, p1, q1, rfl, rfl, rfl, h1, r1⟩ := trodAll_cons r0
  obtain ⟨v2, vs2, d2, ds2, p2, q2, rfl, rfl, rfl, h2, r2⟩ := trodAll_cons r1
  obtain ⟨v3, vs3, d3, ds3, p3, q3, rfl, rfl, rfl, h3, r3⟩ := trodAll_cons r2
  obtain ⟨rfl, rfl, rfl⟩ := trodAll_nil r3
  obtain rfl : args = #[v0, v1, v2, v3] := by cases args; simp_all
  obtain ⟨rfl, rfl⟩ := trodVars_none hV
  clear hA0 hval0
  simp only [List.append_nil] at hW'
  have hlt : ∀ x, (x ∈ p0 ∨ x ∈ p1 ∨ x ∈ p2 ∨ x ∈ p3) → x.block < W.heap.size := fun x hx => by simpa using hW'.lt x (by simpa using hx)
  have k0 : ∀ (W' : World), Below W.heap.size W W' → DataW.Trod enc Try.prog W' 0 (fun b => decide (b < W.heap.size)) true 3 v0 d0 p0 :=
    fun W' hn => Below.trod laidOut (by kernel_rfl) (of_decide_eq_true (by kernel_rfl)) h0 hn (fun x hx => hlt x (Or.inl hx))
  have k1 : ∀ (W' : World), Below W.heap.size W W' → DataW.Trod enc Try.prog W' 0 (fun b => decide (b < W.heap.size)) true 3 v1 d1 p1 :=
    fun W' hn => Below.trod laidOut (by kernel_rfl) (of_decide_eq_true (by kernel_rfl)) h1 hn (fun x hx => hlt x (Or.inr (Or.inl hx)))
  have k2 : ∀ (W' : World), Below W.heap.size W W' → DataW.Trod enc Try.prog W' 0 (fun b => decide (b < W.heap.size)) true 22 v2 d2 p2 :=
    fun W' hn => Below.trod laidOut (by kernel_rfl) (of_decide_eq_true (by kernel_rfl)) h2 hn (fun x hx => hlt x (Or.inr (Or.inr (Or.inl hx))))
  have k3 : ∀ (W' : World), Below W.heap.size W W' → DataW.Trod enc Try.prog W' 0 (fun b => decide (b < W.heap.size)) true 3 v3 d3 p3 :=
    fun W' hn => Below.trod laidOut (by kernel_rfl) (of_decide_eq_true (by kernel_rfl)) h3 hn (fun x hx => hlt x (Or.inr (Or.inr (Or.inr (hx)))))
  obtain ⟨a0, rfl, _, _, w0⟩ := open_int Try.underlying3 (hval 0 3 v0 rfl rfl) h0
  obtain ⟨a1, rfl, _, _, w1⟩ := open_int Try.underlying3 (hval 1 3 v1 rfl rfl) h1
  obtain ⟨a2, rfl, _, _, w2⟩ := open_int Try.underlying22 (hval 2 22 v2 rfl rfl) h2
  obtain ⟨a3, rfl, _, _, w3⟩ := open_int Try.underlying3 (hval 3 3 v3 rfl rfl) h3
  refine (walk (W := W) a0 w0 a1 w1 a2 w2 a3 w3).mono fun e W' ⟨he, hb⟩ => ?_
  subst he
  refine ⟨_, rfl, _, _, _, [], p0 ++ (p1 ++ (p2 ++ (p3 ++ ([])))), [], hW', ?_, ?_, rfl, hb.frame _, fun h => by cases h⟩
  · exact trodAll_cons_mk (shut_bool Try.underlying4 true) trodAll_mk0
  · exact trodAll_cons_mk (k0 _ hb) (trodAll_cons_mk (k1 _ hb) (trodAll_cons_mk (k2 _ hb) (trodAll_cons_mk (k3 _ hb) (trodAll_mk0))))

theorem over : Rows.headerBackRow.holds Try.pinned (OpenSpec.ofChange Rows.headerBackSpec) :=
  OpenClaim.holds_of_wide 3 Try.f3 rfl rfl rfl rfl rfl rfl rfl ⟨rfl, rfl, rfl, rfl, rfl⟩ rfl rfl rfl rfl rfl (by kernel_rfl) Try.func3 (by kernel_rfl)
    (of_decide_eq_true (by kernel_rfl)) (by unfold Func.isWrapper; first | (rw [if_pos (by decide +kernel)]; kernel_rfl) | (rw [if_neg (by decide +kernel)]; exact ⟨rfl, rfl⟩))
    (fun os started H enc _ => lifted os started H enc)

/-- The given statement. -/
theorem proved : Rows.HeaderBackSaid := over
#print axioms proved
end Go.Proofs.Ytgnmcldedifjaaa.headerBack
