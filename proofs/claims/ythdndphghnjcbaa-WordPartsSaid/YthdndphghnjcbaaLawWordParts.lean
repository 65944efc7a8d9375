/- A word put together of two parts is it, wherever it is parted. No condition. -/
import Derived.Test.YthdndphghnjcbaaAwake2
import Derived.SizedLaws
namespace Go.Proofs.Ythdndphghnjcbaa.wordParts
open Go.ChangeShapes Go.WideShapes Go.ChangeAt Go.RowKit
set_option linter.unusedVariables false

set_option maxRecDepth 100000 in
set_option maxHeartbeats 1000000 in
theorem walk (a0 : Int) (w0 : (Lit.int .u64 a0).wf = true) (f : Int) (w2 : (Lit.int .i64 f).wf = true) (W : World) :
    Calls Try.prog 9 #[.int .u64 a0, .int .i64 f] W (LawPost W) := by
  obtain ⟨x, rfl, hx⟩ := nat_of_u64 w0
  obtain ⟨F, hF, hF2⟩ := rem_nat f 65 (by decide) (by decide)
  have h5 := Lib.hid (awake2 W)
  obtain ⟨G, hG⟩ : ∃ G : Nat, (64 : Int) - F = G := ⟨64 - F, by omega⟩
  have b0 : F + G ≤ 64 := by omega
  have b1 : 0 + F ≤ 64 := by omega
  have z : ∀ n : Nat, (Value.int .i64 ((0 : Nat) : Int)) = Value.int .i64 0 := fun _ => rfl
  have h1 := Lib.hid (show Calls Try.prog 23 #[.int .u64 x, .int .i64 0, .int .i64 F] W (Same W (.int .u64 (getN x 0 F))) from word_get x 0 F W hx b1)
  have h2 := Lib.hid (show Calls Try.prog 25 #[.int .u64 0, .int .i64 0, .int .i64 F, .int .u64 (getN x 0 F)] W (Same W (.int .u64 (setN 0 0 F (getN x 0 F)))) from word_set 0 0 F (getN x 0 F) W (by decide) b1)
  have h3 := Lib.hid (word_get x F G W hx b0)
  have e : setN (setN 0 0 F (getN x 0 F)) F G (getN x F G) = x := by
    have l1 := set_lt 0 0 F (getN x 0 F) (by decide) b1
    refine eq_of_bits64 _ _ (set_lt _ _ _ _ l1 b0) hx (fun i hi => ?_)
    rw [tb_set _ _ _ _ _ b0, tb_set _ _ _ _ _ b1, tb_get, tb_get]
    by_cases h : F ≤ i
    · rw [if_pos ⟨h, by omega⟩, show decide (i - F < G) = true from by simp; omega, Bool.true_and]
      congr 1
      omega
    · rw [if_neg (by omega), if_pos (by omega), show decide (i - 0 < F) = true from by simp; omega, Bool.true_and]
      congr 1
      omega
  have h4 := Lib.hid (show Calls Try.prog 25 #[.int .u64 (setN 0 0 F (getN x 0 F)), .int .i64 F, .int .i64 G, .int .u64 (getN x F G)] W (Same W (.int .u64 x)) from by
    have := word_set (setN 0 0 F (getN x 0 F)) F G (getN x F G) W (set_lt _ _ _ _ (by decide) b1) b0
    rw [e] at this
    exact this)
  have h6 := Lib.hid (show Calls Try.prog 23 #[.int .u64 x, .int .i64 0, .int .i64 64] W (Same W (.int .u64 x)) from by
    have := word_get x 0 64 W hx (by decide)
    rw [get_all x hx] at this
    exact this)
  clear w0 w2 hx z e
  go_enter Try.func9, Try.ntmps9
  go_wp2_with (first | (go_at_call 23; (first | (with_reducible refine h1.out.mono ?_) | (with_reducible refine h3.out.mono ?_) | (with_reducible refine h6.out.mono ?_)); rintro e w' ⟨rfl, rfl⟩) | (go_at_call 25; (first | (with_reducible refine h2.out.mono ?_) | (with_reducible refine h4.out.mono ?_)); rintro e w' ⟨rfl, rfl⟩) | (go_at_call 27; (with_reducible refine h5.out.mono ?_); rintro e w' ⟨rfl, rfl⟩))
  go_ret
  exact ⟨rfl, Below.refl _ _⟩

theorem own : ownKnob Try.prog.godebug = none := by kernel_rfl
theorem laidOut : laidOutB Try.prog = true := by kernel_rfl
set_option maxRecDepth 100000 in
theorem lifted (os : Os) (started : os.Started) (H : Type) (enc : TypeId × Value → H) :
    ReturnsInHanded {} Try.checked os 9 .any (Rows.wordPartsSpec.pre6 enc Try.prog Try.f9 Rows.wordPartsRow.domain false) (Rows.wordPartsSpec.post enc Try.prog Try.f9 false true false false) := by
  refine returnsInHanded_of_change_sized (C := Try.checked) own started (by kernel_rfl) Try.func9
    (ChangeSpec.witness6 (enc := enc) (C := Try.checked) false ⟨#[], #[.int .u64 0, .int .i64 0], []⟩ 8 (by kernel_rfl) (by kernel_rfl) (by kernel_rfl) (by kernel_rfl)) ?_
  intro W base args ds gs before hval0 hW _ hsz0 _
  have hsz : (DataW.weightsEach Try.prog (Try.f9.params.toList ++ Rows.wordPartsSpec.plain.varTypes Try.prog) (ds ++ gs)).all (· ≤ reachBytes) = true := hsz0
  clear hsz0
  have hval : ∀ (j : Nat) t v, Try.f9.params[j]? = some t → args[j]? = some v → Value.okWide Try.prog W .any base t v := hval0
  have hW' := hW
  obtain ⟨p, q, hA0, hV, rfl, _, _⟩ := hW
  have hA : DataW.TrodAll enc Try.prog W 0 (fun _ => true) true Try.f9.params.toList args.toList ds p := hA0
  rw [Try.params9] at hA hval hsz
  obtain ⟨v0, vs0, d0, ds0, p0, q0, hargs, rfl, rfl, h0, r0⟩ := trodAll_cons hA
  obtain ⟨v1, vs1, d1, ds1, p1, q1, rfl, rfl, rfl, h1, r1⟩ := trodAll_cons r0
  obtain ⟨rfl, rfl, rfl⟩ := trodAll_nil r1
  obtain rfl : args = #[v0, v1] := by cases args; simp_all
  obtain ⟨rfl, rfl⟩ := trodVars_none hV
  clear hA0 hval0
  simp only [List.append_nil] at hW'
  have hlt : ∀ x, (x ∈ p0 ∨ x ∈ p1) → x.block < W.heap.size := fun x hx => by simpa using hW'.lt x (by simpa using hx)
  have k0 : ∀ (W' : World), Below W.heap.size W W' → DataW.Trod enc Try.prog W' 0 (fun b => decide (b < W.heap.size)) true 25 v0 d0 p0 :=
    fun W' hn => Below.trod laidOut (by kernel_rfl) (of_decide_eq_true (by kernel_rfl)) h0 hn (fun x hx => hlt x (Or.inl hx))
  have k1 : ∀ (W' : World), Below W.heap.size W W' → DataW.Trod enc Try.prog W' 0 (fun b => decide (b < W.heap.size)) true 3 v1 d1 p1 :=
    fun W' hn => Below.trod laidOut (by kernel_rfl) (of_decide_eq_true (by kernel_rfl)) h1 hn (fun x hx => hlt x (Or.inr (hx)))
  obtain ⟨a0, rfl, _, _, w0⟩ := open_int Try.underlying25 (hval 0 25 v0 rfl rfl) h0
  obtain ⟨a1, rfl, _, _, w1⟩ := open_int Try.underlying3 (hval 1 3 v1 rfl rfl) h1
  refine (walk a0 w0 a1 w1 W).mono fun e W' ⟨he, hb⟩ => ?_
  subst he
  refine ⟨_, rfl, _, _, _, [], p0 ++ (p1 ++ ([])), [], hW', ?_, ?_, rfl, hb.frame _, fun h => by cases h⟩
  · exact trodAll_cons_mk (shut_bool Try.underlying4 true) trodAll_mk0
  · exact trodAll_cons_mk (k0 _ hb) (trodAll_cons_mk (k1 _ hb) (trodAll_mk0))

theorem over : Rows.wordPartsRow.holds Try.pinned (OpenSpec.ofChange Rows.wordPartsSpec) :=
  OpenClaim.holds_of_wide 9 Try.f9 rfl rfl rfl rfl rfl rfl rfl ⟨rfl, rfl, rfl, rfl, rfl⟩ rfl rfl rfl rfl rfl (by kernel_rfl) Try.func9 (by kernel_rfl)
    (of_decide_eq_true (by kernel_rfl)) (by unfold Func.isWrapper; first | (rw [if_pos (by decide +kernel)]; kernel_rfl) | (rw [if_neg (by decide +kernel)]; exact ⟨rfl, rfl⟩))
    (fun os started H enc _ => lifted os started H enc)

/-- The given statement. -/
theorem proved : Rows.WordPartsSaid := over
#print axioms proved
end Go.Proofs.Ythdndphghnjcbaa.wordParts
