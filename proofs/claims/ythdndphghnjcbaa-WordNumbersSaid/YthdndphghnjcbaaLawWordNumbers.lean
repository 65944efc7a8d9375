/- A number below 0 has the highest bit, others have not; its bits put together are it. No condition. -/
import Derived.Test.YthdndphghnjcbaaAwake2
import Derived.SizedLaws
namespace Go.Proofs.Ythdndphghnjcbaa.wordNumbers
open Go.ChangeShapes Go.WideShapes Go.ChangeAt Go.RowKit
set_option linter.unusedVariables false

set_option maxRecDepth 100000 in
set_option maxHeartbeats 1000000 in
theorem walk (n : Int) (w1 : (Lit.int .i64 n).wf = true) (W : World) :
    Calls Try.prog 14 #[.int .i64 n] W (LawPost W) := by
  obtain ⟨x, hx, hx2⟩ := u64_of n
  obtain ⟨n1, n2⟩ := bounds_i64 w1
  have hback : wrap64 (x : Int) = n := by rw [← hx]; exact wrap_back n n1 n2
  have h5 := Lib.hid (awake2 W)
  have h6 := Lib.hid (show Calls Try.prog 32 #[.int .i64 n] W (Same W (.int .u64 x)) from by
    have := word_int n W
    rw [hx] at this
    exact this)
  have h8 := Lib.hid (show Calls Try.prog 33 #[.int .u64 x] W (Same W (.int .i64 n)) from by
    have := word_toInt x W
    rw [hback] at this
    exact this)
  have h9 := Lib.hid (show Calls Try.prog 32 #[.int .i64 (-1)] W (Same W (.int .u64 18446744073709551615)) from word_int (-1) W)
  have h10 := Lib.hid (show Calls Try.prog 28 #[.int .u64 18446744073709551615] W (Same W (.int .i64 64)) from word_ones 18446744073709551615 W (by decide))
  have hg := fun (k : Nat) (hk : k < 64) => word_get x k 1 W hx2 (by omega)
  have hr := fun (k : Nat) => num_round x k
  have hg2 := Lib.hid hg
  have hr2 := Lib.hid hr
  have hlt := get_lt x 63 1
  have h63 := Lib.hid (show Calls Try.prog 23 #[.int .u64 x, .int .i64 63, .int .i64 1] W (Same W (.int .u64 (getN x 63 1))) from hg 63 (by decide))
  have hall := Lib.hid (get_all x hx2)
  have hneg : ((getN x 63 1 : Int) == 1) = decide (n < 0) := by
    rw [get_one]
    rw [IntKind.wrap_u64] at hx
    rw [Bool.eq_iff_iff]
    simp
    omega
  clear w1 hx hx2 n1 n2 hback hg hr
  go_enter Try.func14, Try.ntmps14
  go_wp2_with (first | (go_at_call 32; (first | (with_reducible refine h6.out.mono ?_) | (with_reducible refine h9.out.mono ?_)); rintro e w' ⟨rfl, rfl⟩))
  go_loop [4, 5] (fun v i => ∃ k : Nat, k ≤ 64 ∧ i = .int .i64 ((k : Int) - 1) ∧ v = .int .u64 (getN x k (64 - k))) (fun _ i => (intOf i + 1).toNat)
  case atStart => exact ⟨64, Nat.le_refl _, rfl, by simp [getN, Nat.mod_one]⟩
  case round =>
    obtain ⟨k, hk, rfl, rfl⟩ := hrel
    by_cases h0 : k = 0
    · subst h0
      rw [hall.out]
      go_wp2_with (first | (go_at_call 32; (first | (with_reducible refine h6.out.mono ?_) | (with_reducible refine h9.out.mono ?_)); rintro e w' ⟨rfl, rfl⟩) | (go_at_call 23; (first | (with_reducible refine h63.out.mono ?_)); rintro e w' ⟨rfl, rfl⟩) | (go_at_call 33; (first | (with_reducible refine h8.out.mono ?_)); rintro e w' ⟨rfl, rfl⟩) | (go_at_call 28; (first | (with_reducible refine h10.out.mono ?_)); rintro e w' ⟨rfl, rfl⟩) | (go_at_call 27; (with_reducible refine h5.out.mono ?_); rintro e w' ⟨rfl, rfl⟩))
      all_goals (go_ret; exact ⟨rfl, Below.refl _ _⟩)
    · have b1 : 0 ≤ (k : Int) - 1 := by omega
      have b2 : (k : Int) ≤ 64 := by omega
      have g1 := Lib.hid (show Calls Try.prog 23 #[.int .u64 x, .int .i64 ((k - 1 : Nat) : Int), .int .i64 1] W (Same W (.int .u64 (getN x (k - 1) 1))) from hg2.out (k - 1) (by omega))
      have g2 := Lib.hid (hr2.out k (by omega) hk)
      have ek : ((k : Int) - 1) = ((k - 1 : Nat) : Int) := by omega
      rw [ek]
      go_wp2_with (first | (go_at_call 23; (first | (with_reducible refine g1.out.mono ?_)); rintro e w' ⟨rfl, rfl⟩))
      rw [g2.out]
      exact ⟨⟨k - 1, by omega, rfl, rfl⟩, by simp [intOf]⟩

theorem own : ownKnob Try.prog.godebug = none := by kernel_rfl
theorem laidOut : laidOutB Try.prog = true := by kernel_rfl
set_option maxRecDepth 100000 in
theorem lifted (os : Os) (started : os.Started) (H : Type) (enc : TypeId × Value → H) :
    ReturnsInHanded {} Try.checked os 14 .any (Rows.wordNumbersSpec.pre6 enc Try.prog Try.f14 Rows.wordNumbersRow.domain false) (Rows.wordNumbersSpec.post enc Try.prog Try.f14 false true false false) := by
  refine returnsInHanded_of_change_sized (C := Try.checked) own started (by kernel_rfl) Try.func14
    (ChangeSpec.witness6 (enc := enc) (C := Try.checked) false ⟨#[], #[.int .i64 0], []⟩ 8 (by kernel_rfl) (by kernel_rfl) (by kernel_rfl) (by kernel_rfl)) ?_
  intro W base args ds gs before hval0 hW _ hsz0 _
  have hsz : (DataW.weightsEach Try.prog (Try.f14.params.toList ++ Rows.wordNumbersSpec.plain.varTypes Try.prog) (ds ++ gs)).all (· ≤ reachBytes) = true := hsz0
  clear hsz0
  have hval : ∀ (j : Nat) t v, Try.f14.params[j]? = some t → args[j]? = some v → Value.okWide Try.prog W .any base t v := hval0
  have hW' := hW
  obtain ⟨p, q, hA0, hV, rfl, _, _⟩ := hW
  have hA : DataW.TrodAll enc Try.prog W 0 (fun _ => true) true Try.f14.params.toList args.toList ds p := hA0
  rw [Try.params14] at hA hval hsz
  obtain ⟨v0, vs0, d0, ds0, p0, q0, hargs, rfl, rfl, h0, r0⟩ := trodAll_cons hA
  obtain ⟨rfl, rfl, rfl⟩ := trodAll_nil r0
  obtain rfl : args = #[v0] := by cases args; simp_all
  obtain ⟨rfl, rfl⟩ := trodVars_none hV
  clear hA0 hval0
  simp only [List.append_nil] at hW'
  have hlt : ∀ x, (x ∈ p0) → x.block < W.heap.size := fun x hx => by simpa using hW'.lt x (by simpa using hx)
  have k0 : ∀ (W' : World), Below W.heap.size W W' → DataW.Trod enc Try.prog W' 0 (fun b => decide (b < W.heap.size)) true 2 v0 d0 p0 :=
    fun W' hn => Below.trod laidOut (by kernel_rfl) (of_decide_eq_true (by kernel_rfl)) h0 hn (fun x hx => hlt x (hx))
  obtain ⟨a0, rfl, _, _, w0⟩ := open_int Try.underlying2 (hval 0 2 v0 rfl rfl) h0
  refine (walk a0 w0 W).mono fun e W' ⟨he, hb⟩ => ?_
  subst he
  refine ⟨_, rfl, _, _, _, [], p0 ++ ([]), [], hW', ?_, ?_, rfl, hb.frame _, fun h => by cases h⟩
  · exact trodAll_cons_mk (shut_bool Try.underlying4 true) trodAll_mk0
  · exact trodAll_cons_mk (k0 _ hb) (trodAll_mk0)

theorem over : Rows.wordNumbersRow.holds Try.pinned (OpenSpec.ofChange Rows.wordNumbersSpec) :=
  OpenClaim.holds_of_wide 14 Try.f14 rfl rfl rfl rfl rfl rfl rfl ⟨rfl, rfl, rfl, rfl, rfl⟩ rfl rfl rfl rfl rfl (by kernel_rfl) Try.func14 (by kernel_rfl)
    (of_decide_eq_true (by kernel_rfl)) (by unfold Func.isWrapper; first | (rw [if_pos (by decide +kernel)]; kernel_rfl) | (rw [if_neg (by decide +kernel)]; exact ⟨rfl, rfl⟩))
    (fun os started H enc _ => lifted os started H enc)

/-- The given statement. -/
theorem proved : Rows.WordNumbersSaid := over
#print axioms proved
end Go.Proofs.Ythdndphghnjcbaa.wordNumbers
