/- What is set is got, and nothing else of the word changes. No condition. -/
import Derived.Test.YthdndphghnjcbaaAwake2
import Derived.SizedLaws
namespace Go.Proofs.Ythdndphghnjcbaa.wordBack
open Go.ChangeShapes Go.WideShapes Go.ChangeAt Go.RowKit
set_option linter.unusedVariables false

set_option maxRecDepth 100000 in
set_option maxHeartbeats 1000000 in
theorem walk (a0 : Int) (w0 : (Lit.int .u64 a0).wf = true) (a1 : Int) (w1 : (Lit.int .u64 a1).wf = true) (f : Int) (w2 : (Lit.int .i64 f).wf = true) (n : Int) (w3 : (Lit.int .i64 n).wf = true)
    (o : Int) (w4 : (Lit.int .i64 o).wf = true) (k : Int) (w5 : (Lit.int .i64 k).wf = true) (W : World) :
    Calls Try.prog 8 #[.int .u64 a0, .int .u64 a1, .int .i64 f, .int .i64 n, .int .i64 o, .int .i64 k] W (LawPost W) := by
  obtain ⟨x, rfl, hx⟩ := nat_of_u64 w0
  obtain ⟨v, rfl, hv⟩ := nat_of_u64 w1
  obtain ⟨F, hF, hF2⟩ := rem_nat f 65 (by decide) (by decide)
  obtain ⟨N, hN, hN2⟩ := rem_nat n 65 (by decide) (by decide)
  obtain ⟨O, hO, hO2⟩ := rem_nat o 64 (by decide) (by decide)
  obtain ⟨K, hK, hK2⟩ := rem_nat k 64 (by decide) (by decide)
  obtain ⟨K', hK'⟩ : ∃ K' : Nat, (K : Int) + 1 = K' := ⟨K + 1, by omega⟩
  clear w0 w1 w2 w3 w4 w5
  have h5 := Lib.hid (awake2 W)
  obtain ⟨m, hm, hcase⟩ : ∃ m : Nat, F + m ≤ 64 ∧ ((wrap64 ((IntKind.u64.wrap n).tmod 65) = (m : Int) ∧ (F : Int) + m ≤ 64) ∨ (wrap64 ((IntKind.u64.wrap n).tmod 65) = (N : Int) ∧ 64 < (F : Int) + N ∧ (64 : Int) - F = m)) := by
    by_cases h : F + N ≤ 64
    · exact ⟨N, h, Or.inl ⟨hN, by omega⟩⟩
    · exact ⟨64 - F, by omega, Or.inr ⟨hN, by omega, by omega⟩⟩
  clear hN
  have h1 := Lib.hid (word_set x F m v W hx hm)
  have h2 := Lib.hid (show Calls Try.prog 23 #[.int .u64 (setN x F m v), .int .i64 F, .int .i64 m] W (Same W (.int .u64 (v % 2 ^ m : Nat))) from by
    have := word_get (setN x F m v) F m W (set_lt _ _ _ _ hx hm) hm
    rw [get_set_same _ _ _ _ hm] at this
    exact this)
  have h3 := Lib.hid (word_get x F m W hx hm)
  have h4 := Lib.hid (show Calls Try.prog 25 #[.int .u64 (setN x F m v), .int .i64 F, .int .i64 m, .int .u64 (getN x F m)] W (Same W (.int .u64 x)) from by
    have := word_set (setN x F m v) F m (getN x F m) W (set_lt _ _ _ _ hx hm) hm
    rw [set_set_back _ _ _ _ hx hm] at this
    exact this)
  have hb := and_ones v m hv (by omega)
  have hm1 : (m : Int) ≤ 64 := by omega
  have hK3 := Lib.hid hK'
  have h67 := Lib.hid (show O + K' ≤ 64 → (O + K' ≤ F ∨ F + m ≤ O) → Calls Try.prog 23 #[.int .u64 (setN x F m v), .int .i64 O, .int .i64 K'] W (Same W (.int .u64 (getN x O K'))) ∧ Calls Try.prog 23 #[.int .u64 x, .int .i64 O, .int .i64 K'] W (Same W (.int .u64 (getN x O K'))) from by
    intro h1 h2
    have := word_get (setN x F m v) O K' W (set_lt _ _ _ _ hx hm) h1
    rw [get_set_other _ _ _ _ _ _ hm h2] at this
    exact ⟨this, word_get x O K' W hx h1⟩)
  clear hx hv
  have hK'b : K' ≤ 64 := by omega
  rcases hcase with ⟨c1, c2⟩ | ⟨c1, c2, c3⟩
  all_goals
    go_enter Try.func8, Try.ntmps8
    go_wp2_with (go_at_call 25; (with_reducible refine h1.out.mono ?_); rintro e w' ⟨rfl, rfl⟩)
    go_loop [14, 35] (fun q i => ∃ j : Nat, j ≤ m ∧ i = .int .i64 j ∧ q = .int .u64 (2 ^ j - 1 : Nat)) (fun _ i => (64 - intOf i).toNat)
    case atStart => exact ⟨0, by omega, rfl, rfl⟩
    case round =>
      obtain ⟨j, hj, rfl, rfl⟩ := hrel
      by_cases hjm : j = m
      · rw [hjm]
        have e0 : ¬ ((m : Int) < m) := by omega
        by_cases d1 : (O : Int) + K' ≤ 64
        · by_cases d2 : (O : Int) + K' ≤ F
          · have h6 := h67.out (by omega) (Or.inl (by omega))
            have h7 := Lib.hid h6.1
            have h8 := Lib.hid h6.2
            clear h6 h67 hj hjm
            go_wp2_with (first | (go_at_call 23; (first | (with_reducible refine h2.out.mono ?_) | (with_reducible refine h3.out.mono ?_) | (with_reducible refine h7.out.mono ?_) | (with_reducible refine h8.out.mono ?_)); rintro e w' ⟨rfl, rfl⟩) | (go_at_call 25; (with_reducible refine h4.out.mono ?_); rintro e w' ⟨rfl, rfl⟩) | (go_at_call 27; (with_reducible refine h5.out.mono ?_); rintro e w' ⟨rfl, rfl⟩))
            all_goals (go_ret; exact ⟨rfl, Below.refl _ _⟩)
          · have d2' : (F : Int) < O + K' := by omega
            by_cases d3 : (F : Int) + m ≤ O
            · have h6 := h67.out (by omega) (Or.inr (by omega))
              have h7 := Lib.hid h6.1
              have h8 := Lib.hid h6.2
              clear h6 h67 hj hjm
              go_wp2_with (first | (go_at_call 23; (first | (with_reducible refine h2.out.mono ?_) | (with_reducible refine h3.out.mono ?_) | (with_reducible refine h7.out.mono ?_) | (with_reducible refine h8.out.mono ?_)); rintro e w' ⟨rfl, rfl⟩) | (go_at_call 25; (with_reducible refine h4.out.mono ?_); rintro e w' ⟨rfl, rfl⟩) | (go_at_call 27; (with_reducible refine h5.out.mono ?_); rintro e w' ⟨rfl, rfl⟩))
              all_goals (go_ret; exact ⟨rfl, Below.refl _ _⟩)
            · have d3' : (O : Int) < F + m := by omega
              clear h67 hj hjm
              go_wp2_with (first | (go_at_call 23; (first | (with_reducible refine h2.out.mono ?_) | (with_reducible refine h3.out.mono ?_)); rintro e w' ⟨rfl, rfl⟩) | (go_at_call 25; (with_reducible refine h4.out.mono ?_); rintro e w' ⟨rfl, rfl⟩) | (go_at_call 27; (with_reducible refine h5.out.mono ?_); rintro e w' ⟨rfl, rfl⟩))
              all_goals (go_ret; exact ⟨rfl, Below.refl _ _⟩)
        · have d1' : (64 : Int) < O + K' := by omega
          clear h67 hj hjm
          go_wp2_with (first | (go_at_call 23; (first | (with_reducible refine h2.out.mono ?_) | (with_reducible refine h3.out.mono ?_)); rintro e w' ⟨rfl, rfl⟩) | (go_at_call 25; (with_reducible refine h4.out.mono ?_); rintro e w' ⟨rfl, rfl⟩) | (go_at_call 27; (with_reducible refine h5.out.mono ?_); rintro e w' ⟨rfl, rfl⟩))
          all_goals (go_ret; exact ⟨rfl, Below.refl _ _⟩)
      · have b1 : (j : Int) < m := by omega
        have hg := Lib.hid (ones_grow j (by omega))
        go_wp2
        rw [hg.out]
        exact ⟨⟨j + 1, by omega, rfl, rfl⟩, by simp [intOf]; omega⟩

theorem own : ownKnob Try.prog.godebug = none := by kernel_rfl
theorem laidOut : laidOutB Try.prog = true := by kernel_rfl
set_option maxRecDepth 100000 in
theorem lifted (os : Os) (started : os.Started) (H : Type) (enc : TypeId × Value → H) :
    ReturnsInHanded {} Try.checked os 8 .any (Rows.wordBackSpec.pre6 enc Try.prog Try.f8 Rows.wordBackRow.domain false) (Rows.wordBackSpec.post enc Try.prog Try.f8 false true false false) := by
  refine returnsInHanded_of_change_sized (C := Try.checked) own started (by kernel_rfl) Try.func8
    (ChangeSpec.witness6 (enc := enc) (C := Try.checked) false ⟨#[], #[.int .u64 0, .int .u64 0, .int .i64 0, .int .i64 0, .int .i64 0, .int .i64 0], []⟩ 8 (by kernel_rfl) (by kernel_rfl) (by kernel_rfl) (by kernel_rfl)) ?_
  intro W base args ds gs before hval0 hW _ hsz0 _
  have hsz : (DataW.weightsEach Try.prog (Try.f8.params.toList ++ Rows.wordBackSpec.plain.varTypes Try.prog) (ds ++ gs)).all (· ≤ reachBytes) = true := hsz0
  clear hsz0
  have hval : ∀ (j : Nat) t v, Try.f8.params[j]? = some t → args[j]? = some v → Value.okWide Try.prog W .any base t v := hval0
  have hW' := hW
  obtain ⟨p, q, hA0, hV, rfl, _, _⟩ := hW
  have hA : DataW.TrodAll enc Try.prog W 0 (fun _ => true) true Try.f8.params.toList args.toList ds p := hA0
  rw [Try.params8] at hA hval hsz
  obtain ⟨v0, vs0, d0, ds0, p0, q0, hargs, rfl, rfl, h0, r0⟩ := trodAll_cons hA
  obtain ⟨v1, vs1, d1, ds1, p1, q1, rfl, rfl, rfl, h1, r1⟩ := trodAll_cons r0
  obtain ⟨v2, vs2, d2, ds2, p2, q2, rfl, rfl, rfl, h2, r2⟩ := trodAll_cons r1
  obtain ⟨v3, vs3, d3, ds3, p3, q3, rfl, rfl, rfl, h3, r3⟩ := trodAll_cons r2
  obtain ⟨v4, vs4, d4, ds4, p4, q4, rfl, rfl, rfl, h4, r4⟩ := trodAll_cons r3
  obtain ⟨v5, vs5, d5, ds5, p5, q5, rfl, rfl, rfl, h5, r5⟩ := trodAll_cons r4
  obtain ⟨rfl, rfl, rfl⟩ := trodAll_nil r5
  obtain rfl : args = #[v0, v1, v2, v3, v4, v5] := by cases args; simp_all
  obtain ⟨rfl, rfl⟩ := trodVars_none hV
  clear hA0 hval0
  simp only [List.append_nil] at hW'
  have hlt : ∀ x, (x ∈ p0 ∨ x ∈ p1 ∨ x ∈ p2 ∨ x ∈ p3 ∨ x ∈ p4 ∨ x ∈ p5) → x.block < W.heap.size := fun x hx => by simpa using hW'.lt x (by simpa using hx)
  have k0 : ∀ (W' : World), Below W.heap.size W W' → DataW.Trod enc Try.prog W' 0 (fun b => decide (b < W.heap.size)) true 25 v0 d0 p0 :=
    fun W' hn => Below.trod laidOut (by kernel_rfl) (of_decide_eq_true (by kernel_rfl)) h0 hn (fun x hx => hlt x (Or.inl hx))
  have k1 : ∀ (W' : World), Below W.heap.size W W' → DataW.Trod enc Try.prog W' 0 (fun b => decide (b < W.heap.size)) true 25 v1 d1 p1 :=
    fun W' hn => Below.trod laidOut (by kernel_rfl) (of_decide_eq_true (by kernel_rfl)) h1 hn (fun x hx => hlt x (Or.inr (Or.inl hx)))
  have k2 : ∀ (W' : World), Below W.heap.size W W' → DataW.Trod enc Try.prog W' 0 (fun b => decide (b < W.heap.size)) true 3 v2 d2 p2 :=
    fun W' hn => Below.trod laidOut (by kernel_rfl) (of_decide_eq_true (by kernel_rfl)) h2 hn (fun x hx => hlt x (Or.inr (Or.inr (Or.inl hx))))
  have k3 : ∀ (W' : World), Below W.heap.size W W' → DataW.Trod enc Try.prog W' 0 (fun b => decide (b < W.heap.size)) true 3 v3 d3 p3 :=
    fun W' hn => Below.trod laidOut (by kernel_rfl) (of_decide_eq_true (by kernel_rfl)) h3 hn (fun x hx => hlt x (Or.inr (Or.inr (Or.inr (Or.inl hx)))))
  have k4 : ∀ (W' : World), Below W.heap.size W W' → DataW.Trod enc Try.prog W' 0 (fun b => decide (b < W.heap.size)) true 3 v4 d4 p4 :=
    fun W' hn => Below.trod laidOut (by kernel_rfl) (of_decide_eq_true (by kernel_rfl)) h4 hn (fun x hx => hlt x (Or.inr (Or.inr (Or.inr (Or.inr (Or.inl hx))))))
  have k5 : ∀ (W' : World), Below W.heap.size W W' → DataW.Trod enc Try.prog W' 0 (fun b => decide (b < W.heap.size)) true 3 v5 d5 p5 :=
    fun W' hn => Below.trod laidOut (by kernel_rfl) (of_decide_eq_true (by kernel_rfl)) h5 hn (fun x hx => hlt x (Or.inr (Or.inr (Or.inr (Or.inr (Or.inr (hx)))))))
  obtain ⟨a0, rfl, _, _, w0⟩ := open_int Try.underlying25 (hval 0 25 v0 rfl rfl) h0
  obtain ⟨a1, rfl, _, _, w1⟩ := open_int Try.underlying25 (hval 1 25 v1 rfl rfl) h1
  obtain ⟨a2, rfl, _, _, w2⟩ := open_int Try.underlying3 (hval 2 3 v2 rfl rfl) h2
  obtain ⟨a3, rfl, _, _, w3⟩ := open_int Try.underlying3 (hval 3 3 v3 rfl rfl) h3
  obtain ⟨a4, rfl, _, _, w4⟩ := open_int Try.underlying3 (hval 4 3 v4 rfl rfl) h4
  obtain ⟨a5, rfl, _, _, w5⟩ := open_int Try.underlying3 (hval 5 3 v5 rfl rfl) h5
  refine (walk a0 w0 a1 w1 a2 w2 a3 w3 a4 w4 a5 w5 W).mono fun e W' ⟨he, hb⟩ => ?_
  subst he
  refine ⟨_, rfl, _, _, _, [], p0 ++ (p1 ++ (p2 ++ (p3 ++ (p4 ++ (p5 ++ ([])))))), [], hW', ?_, ?_, rfl, hb.frame _, fun h => by cases h⟩
  · exact trodAll_cons_mk (shut_bool Try.underlying4 true) trodAll_mk0
  · exact trodAll_cons_mk (k0 _ hb) (trodAll_cons_mk (k1 _ hb) (trodAll_cons_mk (k2 _ hb) (trodAll_cons_mk (k3 _ hb) (trodAll_cons_mk (k4 _ hb) (trodAll_cons_mk (k5 _ hb) (trodAll_mk0))))))

theorem over : Rows.wordBackRow.holds Try.pinned (OpenSpec.ofChange Rows.wordBackSpec) :=
  OpenClaim.holds_of_wide 8 Try.f8 rfl rfl rfl rfl rfl rfl rfl ⟨rfl, rfl, rfl, rfl, rfl⟩ rfl rfl rfl rfl rfl (by kernel_rfl) Try.func8 (by kernel_rfl)
    (of_decide_eq_true (by kernel_rfl)) (by unfold Func.isWrapper; first | (rw [if_pos (by decide +kernel)]; kernel_rfl) | (rw [if_neg (by decide +kernel)]; exact ⟨rfl, rfl⟩))
    (fun os started H enc _ => lifted os started H enc)

/-- The given statement. -/
theorem proved : Rows.WordBackSaid := over
#print axioms proved
end Go.Proofs.Ythdndphghnjcbaa.wordBack
