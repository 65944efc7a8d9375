/- Headers of unlike kinds, words, epochs are unlike; they are made as one where all are the same. No condition. -/
import Derived.Test.YtgnmcldedifjaaaAwake9
import Derived.SizedLaws
namespace Go.Proofs.Ytgnmcldedifjaaa.headerApart
open Go.ChangeShapes Go.WideShapes Go.ChangeAt Go.RowKit
set_option linter.unusedVariables false

set_option maxRecDepth 100000 in
set_option maxHeartbeats 1000000 in
theorem walk {W : World} (a : Int) (w0 : (Lit.int .i64 a).wf = true) (b : Int) (w1 : (Lit.int .i64 b).wf = true) (m : Int) (w2 : (Lit.int .i64 m).wf = true) (n : Int) (w3 : (Lit.int .i64 n).wf = true)
    (e : Int) (w4 : (Lit.int .u64 e).wf = true) (f : Int) (w5 : (Lit.int .u64 f).wf = true) :
    Calls Try.prog 4 #[.int .i64 a, .int .i64 b, .int .i64 m, .int .i64 n, .int .u64 e, .int .u64 f] W (LawPost W) := by
  obtain ⟨e, rfl, he⟩ := nat_of_u64 w4
  obtain ⟨f, rfl, hf⟩ := nat_of_u64 w5
  obtain ⟨A, hA1, hA2⟩ := rem_nat a 16 (by decide) (by decide)
  obtain ⟨B, hB1, hB2⟩ := rem_nat b 16 (by decide) (by decide)
  obtain ⟨M0, hM1, hM2⟩ := rem_nat m 16 (by decide) (by decide)
  obtain ⟨N0, hN1, hN2⟩ := rem_nat n 16 (by decide) (by decide)
  obtain ⟨M, hM⟩ : ∃ N : Nat, (M0 : Int) + 1 = N := ⟨M0 + 1, by omega⟩
  obtain ⟨N, hN⟩ : ∃ N : Nat, (N0 : Int) + 1 = N := ⟨N0 + 1, by omega⟩
  have hA := Lib.hid (fun (w' : World) (u : Upd (fun _ => False) W w') => awake9 W w' u)
  have hu0 : Upd (fun _ => False) W W := Upd.refl _ _
  have h1 := Lib.hid (fun (w' : World) (u : Upd (fun _ => False) W w') => retFrom (header_make A M e w' (by omega) (by omega) (by omega) he) u)
  have h2 := Lib.hid (fun (w' : World) (u : Upd (fun _ => False) W w') => retFrom (header_make B N f w' (by omega) (by omega) (by omega) hf) u)
  have e1 : IntKind.u32.wrap (e : Int) = ((e % 2 ^ 32 : Nat) : Int) := by rw [IntKind.wrap_u32]; omega
  have e2 : IntKind.u32.wrap (f : Int) = ((f % 2 ^ 32 : Nat) : Int) := by rw [IntKind.wrap_u32]; omega
  have hq := make_eq A B M N e f (by omega) (by omega) (by omega) (by omega)
  generalize e % 2 ^ 32 = e' at *
  generalize f % 2 ^ 32 = f' at *
  generalize makeN A M e = x at *
  generalize makeN B N f = y at *
  clear w0 w1 w2 w3 w4 w5 he hf
  have key : (((A : Int) == B) = false ∧ ((x : Int) == y) = false) ∨ (((A : Int) == B) = true ∧ ((M : Int) == N) = false ∧ ((x : Int) == y) = false) ∨ (((A : Int) == B) = true ∧ ((M : Int) == N) = true ∧ ((e' : Int) == f') = false ∧ ((x : Int) == y) = false) ∨
      (((A : Int) == B) = true ∧ ((M : Int) == N) = true ∧ ((e' : Int) == f') = true ∧ ((x : Int) == y) = true) := by
    by_cases c1 : A = B
    · by_cases c2 : M = N
      · by_cases c3 : e' = f'
        · have hxy := hq.2 ⟨c1, c2, c3⟩
          subst c1 c2 c3 hxy
          simp
        · have hxy : x ≠ y := fun h => c3 (hq.1 h).2.2
          subst c1 c2
          simp
          omega
      · have hxy : x ≠ y := fun h => c2 (hq.1 h).2.1
        subst c1
        simp
        omega
    · have hxy : x ≠ y := fun h => c1 (hq.1 h).1
      simp
      omega
  clear hq
  rcases key with ⟨c1, c4⟩ | ⟨c1, c2, c4⟩ | ⟨c1, c2, c3, c4⟩ | ⟨c1, c2, c3, c4⟩
  all_goals
    go_enter Try.func4, Try.ntmps4
    go_wp2_with (first | (go_at_call 13; (first | (with_reducible refine (h1.out _ (by assumption)).mono ?_) | (with_reducible refine (h2.out _ (by assumption)).mono ?_)); rintro e w' ⟨rfl, hu⟩) | (go_at_call 15; (first | (with_reducible refine (hA.out _ (by assumption)).mono ?_)); rintro e w' ⟨rfl, hu⟩))
    go_ret
    exact ⟨rfl, Upd.none (by assumption)⟩

theorem own : ownKnob Try.prog.godebug = none := by kernel_rfl
theorem laidOut : laidOutB Try.prog = true := by kernel_rfl
set_option maxRecDepth 100000 in
theorem lifted (os : Os) (started : os.Started) (H : Type) (enc : TypeId × Value → H) :
    ReturnsInHanded {} Try.checked os 4 .any (Rows.headerApartSpec.pre6 enc Try.prog Try.f4 Rows.headerApartRow.domain false) (Rows.headerApartSpec.post enc Try.prog Try.f4 false true false false) := by
  refine returnsInHanded_of_change_sized (C := Try.checked) own started (by kernel_rfl) Try.func4
    (ChangeSpec.witness6 (enc := enc) (C := Try.checked) false ⟨#[], #[.int .i64 0, .int .i64 0, .int .i64 0, .int .i64 0, .int .u64 0, .int .u64 0], []⟩ 8 (by kernel_rfl) (by kernel_rfl) (by kernel_rfl) (by kernel_rfl)) ?_
  intro W base args ds gs before hval0 hW _ hsz0 _
  have hsz : (DataW.weightsEach Try.prog (Try.f4.params.toList ++ Rows.headerApartSpec.plain.varTypes Try.prog) (ds ++ gs)).all (· ≤ reachBytes) = true := hsz0
  clear hsz0
  have hval : ∀ (j : Nat) t v, Try.f4.params[j]? = some t → args[j]? = some v → Value.okWide Try.prog W .any base t v := hval0
  have hW' := hW
  obtain ⟨p, q, hA0, hV, rfl, _, _⟩ := hW
  have hA : DataW.TrodAll enc Try.prog W 0 (fun _ => true) true Try.f4.params.toList args.toList ds p := hA0
  rw [Try.params4] at hA hval hsz
  obtain ⟨v0, vs0, d0, ds0, p0, q0, hargs, rfl, rfl, h0, r0⟩ := trodAll_cons hA
  obtain ⟨v1, vs1, d1, ds1, p1, q1, rfl, rfl, rfl, h1, r1⟩ := trodAll_cons r0
  obtain ⟨v2, vs2, d2, ds2, p2, q2, rfl, rfl, rfl, h2, r2⟩ := trodAll_cons r1
  obtain ⟨v3, vs3, d3, ds3, p3, q3, rfl, rfl, rfl, h3, r3⟩ := trodAll_cons r2
  obtain ⟨v4, vs4, d4, ds4, p4, q4, rfl, rfl, rfl, h4, r4⟩ := trodAll_cons r3
  obtain ⟨v5, vs5, d5, ds5, p5, q5, rfl, rfl, rfl, h5, r5⟩ := trodAll_cons r4
  obtain ⟨rfl, rfl, rfl⟩ := trodAll_nil r5
  obtain rfl : args = #[v0, v1, v2, v3, v4, v5] := by cases args; simp_all
  obtain ⟨rfl, rfl⟩ := trodVars_none hV
  clear hA0 hval0
  simp only [List.append_nil] at hW'
  have hlt : ∀ x, (x ∈ p0 ∨ x ∈ p1 ∨ x ∈ p2 ∨ x ∈ p3 ∨ x ∈ p4 ∨ x ∈ p5) → x.block < W.heap.size := fun x hx => by simpa using hW'.lt x (by simpa using hx)
  have k0 : ∀ (W' : World), Below W.heap.size W W' → DataW.Trod enc Try.prog W' 0 (fun b => decide (b < W.heap.size)) true 3 v0 d0 p0 :=
    fun W' hn => Below.trod laidOut (by kernel_rfl) (of_decide_eq_true (by kernel_rfl)) h0 hn (fun x hx => hlt x (Or.inl hx))
  have k1 : ∀ (W' : World), Below W.heap.size W W' → DataW.Trod enc Try.prog W' 0 (fun b => decide (b < W.heap.size)) true 3 v1 d1 p1 :=
    fun W' hn => Below.trod laidOut (by kernel_rfl) (of_decide_eq_true (by kernel_rfl)) h1 hn (fun x hx => hlt x (Or.inr (Or.inl hx)))
  have k2 : ∀ (W' : World), Below W.heap.size W W' → DataW.Trod enc Try.prog W' 0 (fun b => decide (b < W.heap.size)) true 3 v2 d2 p2 :=
    fun W' hn => Below.trod laidOut (by kernel_rfl) (of_decide_eq_true (by kernel_rfl)) h2 hn (fun x hx => hlt x (Or.inr (Or.inr (Or.inl hx))))
  have k3 : ∀ (W' : World), Below W.heap.size W W' → DataW.Trod enc Try.prog W' 0 (fun b => decide (b < W.heap.size)) true 3 v3 d3 p3 :=
    fun W' hn => Below.trod laidOut (by kernel_rfl) (of_decide_eq_true (by kernel_rfl)) h3 hn (fun x hx => hlt x (Or.inr (Or.inr (Or.inr (Or.inl hx)))))
  have k4 : ∀ (W' : World), Below W.heap.size W W' → DataW.Trod enc Try.prog W' 0 (fun b => decide (b < W.heap.size)) true 22 v4 d4 p4 :=
    fun W' hn => Below.trod laidOut (by kernel_rfl) (of_decide_eq_true (by kernel_rfl)) h4 hn (fun x hx => hlt x (Or.inr (Or.inr (Or.inr (Or.inr (Or.inl hx))))))
  have k5 : ∀ (W' : World), Below W.heap.size W W' → DataW.Trod enc Try.prog W' 0 (fun b => decide (b < W.heap.size)) true 22 v5 d5 p5 :=
    fun W' hn => Below.trod laidOut (by kernel_rfl) (of_decide_eq_true (by kernel_rfl)) h5 hn (fun x hx => hlt x (Or.inr (Or.inr (Or.inr (Or.inr (Or.inr (hx)))))))
  obtain ⟨a0, rfl, _, _, w0⟩ := open_int Try.underlying3 (hval 0 3 v0 rfl rfl) h0
  obtain ⟨a1, rfl, _, _, w1⟩ := open_int Try.underlying3 (hval 1 3 v1 rfl rfl) h1
  obtain ⟨a2, rfl, _, _, w2⟩ := open_int Try.underlying3 (hval 2 3 v2 rfl rfl) h2
  obtain ⟨a3, rfl, _, _, w3⟩ := open_int Try.underlying3 (hval 3 3 v3 rfl rfl) h3
  obtain ⟨a4, rfl, _, _, w4⟩ := open_int Try.underlying22 (hval 4 22 v4 rfl rfl) h4
  obtain ⟨a5, rfl, _, _, w5⟩ := open_int Try.underlying22 (hval 5 22 v5 rfl rfl) h5
  refine (walk (W := W) a0 w0 a1 w1 a2 w2 a3 w3 a4 w4 a5 w5).mono fun e W' ⟨he, hb⟩ => ?_
  subst he
  refine ⟨_, rfl, _, _, _, [], p0 ++ (p1 ++ (p2 ++ (p3 ++ (p4 ++ (p5 ++ ([])))))), [], hW', ?_, ?_, rfl, hb.frame _, fun h => by cases h⟩
  · exact trodAll_cons_mk (shut_bool Try.underlying4 true) trodAll_mk0
  · exact trodAll_cons_mk (k0 _ hb) (trodAll_cons_mk (k1 _ hb) (trodAll_cons_mk (k2 _ hb) (trodAll_cons_mk (k3 _ hb) (trodAll_cons_mk (k4 _ hb) (trodAll_cons_mk (k5 _ hb) (trodAll_mk0))))))

theorem over : Rows.headerApartRow.holds Try.pinned (OpenSpec.ofChange Rows.headerApartSpec) :=
  OpenClaim.holds_of_wide 4 Try.f4 rfl rfl rfl rfl rfl rfl rfl ⟨rfl, rfl, rfl, rfl, rfl⟩ rfl rfl rfl rfl rfl (by kernel_rfl) Try.func4 (by kernel_rfl)
    (of_decide_eq_true (by kernel_rfl)) (by unfold Func.isWrapper; first | (rw [if_pos (by decide +kernel)]; kernel_rfl) | (rw [if_neg (by decide +kernel)]; exact ⟨rfl, rfl⟩))
    (fun os started H enc _ => lifted os started H enc)

/-- The given statement. -/
theorem proved : Rows.HeaderApartSaid := over
#print axioms proved
end Go.Proofs.Ytgnmcldedifjaaa.headerApart
