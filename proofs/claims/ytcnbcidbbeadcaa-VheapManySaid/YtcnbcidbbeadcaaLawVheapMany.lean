/- As many objects as there is room for, and one more; the least place is taken first. No condition. -/
import Derived.Test.YtcnbcidbbeadcaaVhPl
import Derived.SizedLaws
namespace Go.Proofs.Ytcnbcidbbeadcaa.vheapMany
open Go.ChangeShapes Go.WideShapes Go.ChangeAt Go.RowKit
set_option linter.unusedVariables false
attribute [local go_sem] ite_min ite_max

set_option maxRecDepth 100000 in
set_option maxHeartbeats 2000000 in
theorem walk {W : World} (n : Int) (wn : (Lit.int .i64 n).wf = true) (gone : Int) (wg : (Lit.int .i64 gone).wf = true) :
    Calls Try.prog 5 #[.int .i64 n, .int .i64 gone] W (LawPost W) := by
  obtain ⟨N, hN, hN2⟩ := rem_nat n 8 (by decide) (by decide)
  obtain ⟨G, hG, hG2⟩ := rem_nat gone 60 (by decide) (by decide)
  have hN3 : wrap64 (60 + (N : Int)) = ((60 + N : Nat) : Int) := by unfold wrap64; omega
  have k14 := Lib.hid kinds14
  have hNw := Lib.hid (fun w1 v hm hu => AwSt.new (w := W) (w1 := w1) (v := v) hm hu)
  have hAw := Lib.hid awake14
  clear wn wg
  go_enter Try.func5, Try.ntmps5
  go_wp2_with (first
    | (go_at_call 24; (with_reducible refine (k14.out _).mono ?_); rintro e w1 ⟨v, rfl, hm1, hu1⟩; obtain ⟨va, vc, rfl⟩ := mat_shape hm1; have hN2b := Lib.hid (hNw.out w1 _ hm1 hu1); clear hm1 hu1)
    | (go_at_call 23; (with_reducible refine hN2b.out.mono ?_); rintro e w2 ⟨b, base, kv, rfl, h2⟩; have H2 := Lib.hid h2; clear h2 hN2b))
  have hN4 : N < 8 := by omega
  have hG4 : G < 60 := by omega
  go_loopw [4, 19] (fun r i wr => ∃ k : Nat, k ≤ 60 + N ∧ r = .bool false ∧ i = .int .i64 k ∧ AwSt W b base kv (manyO k) wr) (fun _ i _ => (60 + N - intOf i).toNat)
  case atStart => exact ⟨0, Nat.zero_le _, rfl, rfl, by rw [manyO_zero]; exact H2.out⟩
  case round =>
    obtain ⟨k, hk, rfl, rfl, hst⟩ := hrel
    clear H2
    by_cases hk2 : k = 60 + N
    · have e0 : ¬ ((k : Int) < 60 + (N : Int)) := by omega
      obtain ⟨hg1, o', hg2, hg3⟩ := many_gone k G hG4 (by omega)
      have hrm := hst.remove (-1 - (G : Int))
      rw [hg1] at hrm
      have hrm := Lib.hid hrm
      have hmk := fun wr (h : AwSt W b base kv (removeV (manyO k) (-1 - (G : Int))) wr) => h.make 1
      rw [hg2] at hmk
      have hmk := Lib.hid hmk
      have hln := fun wr (h : AwSt W b base kv o' wr) => h.len
      rw [hg3, show (k : Int) = 60 + (N : Int) from by omega] at hln
      have hln := Lib.hid hln
      clear hst hg1 hg2 hg3
      go_wp2_with (first
        | (go_at_call 26; (with_reducible refine hrm.out.mono ?_); rintro e w3 ⟨rfl, h3⟩; have M3 := Lib.hid (hmk.out w3 h3); clear h3)
        | (go_at_call 25; (with_reducible refine M3.out.mono ?_); rintro e w4 ⟨rfl, h4⟩; have L4 := Lib.hid (hln.out w4 h4); have H4 := Lib.hid h4; clear h4)
        | (go_at_call 27; (with_reducible refine L4.out.mono ?_); rintro e w5 ⟨rfl, hu5⟩; have H5 := Lib.hid (H4.out.still hu5); clear hu5)
        | (go_at_call 28; (with_reducible refine (hAw.out _).mono ?_); rintro e w6 ⟨rfl, hu6⟩; have H6 := Lib.hid (H5.out.up.trans hu6); clear hu6))
      go_ret
      exact ⟨rfl, H6.out.none⟩
    · have e0 : ((k : Int) < 60 + (N : Int)) := by omega
      have hmk := hst.make 0
      rw [many_make] at hmk
      by_cases h64 : k < 64
      · rw [if_pos h64, if_pos h64] at hmk
        have e1 : (k : Int) < 64 := by omega
        have hmk := Lib.hid hmk
        clear hst hk2
        go_wp2_with (go_at_call 25; (with_reducible refine hmk.out.mono ?_); rintro e w3 ⟨rfl, h3⟩; have H3 := Lib.hid h3; clear h3)
        go_roundw
        case rel => exact ⟨.bool false, _, _, _, .int .i64 ((k + 1 : Nat) : Int), ⟨k + 1, by omega, rfl, rfl, H3.out⟩, rfl, rfl, rfl, rfl, by go_num⟩
        case measure => simp [intOf]; omega
      · rw [if_neg h64, if_neg h64] at hmk
        have e1 : ¬ (k : Int) < 64 := by omega
        have hmk := Lib.hid hmk
        clear hst hk2
        go_wp2_with (go_at_call 25; (with_reducible refine hmk.out.mono ?_); rintro e w3 ⟨rfl, h3⟩; have H3 := Lib.hid h3; clear h3)
        go_roundw
        case rel => exact ⟨.bool false, _, _, _, .int .i64 ((k + 1 : Nat) : Int), ⟨k + 1, by omega, rfl, rfl, H3.out⟩, rfl, rfl, rfl, rfl, by go_num⟩
        case measure => simp [intOf]; omega

theorem own : ownKnob Try.prog.godebug = none := by kernel_rfl
theorem laidOut : laidOutB Try.prog = true := by kernel_rfl
set_option maxRecDepth 100000 in
theorem lifted (os : Os) (started : os.Started) (H : Type) (enc : TypeId × Value → H) :
    ReturnsInHanded {} Try.checked os 5 .any (Rows.vheapManySpec.pre6 enc Try.prog Try.f5 Rows.vheapManyRow.domain false) (Rows.vheapManySpec.post enc Try.prog Try.f5 false true false false) := by
  refine returnsInHanded_of_change_sized (C := Try.checked) own started (by kernel_rfl) Try.func5
    (ChangeSpec.witness6 (enc := enc) (C := Try.checked) false ⟨#[], #[.int .i64 0, .int .i64 0], []⟩ 8 (by kernel_rfl) (by kernel_rfl) (by kernel_rfl) (by kernel_rfl)) ?_
  intro W base args ds gs before hval0 hW _ hsz0 _
  have hsz : (DataW.weightsEach Try.prog (Try.f5.params.toList ++ Rows.vheapManySpec.plain.varTypes Try.prog) (ds ++ gs)).all (· ≤ reachBytes) = true := hsz0
  clear hsz0
  have hval : ∀ (j : Nat) t v, Try.f5.params[j]? = some t → args[j]? = some v → Value.okWide Try.prog W .any base t v := hval0
  have hW' := hW
  obtain ⟨p, q, hA0, hV, rfl, _, _⟩ := hW
  have hA : DataW.TrodAll enc Try.prog W 0 (fun _ => true) true Try.f5.params.toList args.toList ds p := hA0
  rw [Try.params5] at hA hval hsz
  obtain ⟨v0, vs0, d0, ds0, p0, q0, hargs, rfl, rfl, h0, r0⟩ := trodAll_cons hA
  obtain ⟨v1, vs1, d1, ds1, p1, q1, rfl, rfl, rfl, h1, r1⟩ := trodAll_cons r0
  obtain ⟨rfl, rfl, rfl⟩ := trodAll_nil r1
  obtain rfl : args = #[v0, v1] := by cases args; simp_all
  obtain ⟨rfl, rfl⟩ := trodVars_none hV
  clear hA0 hval0
  simp only [List.append_nil] at hW'
  have hlt : ∀ x, (x ∈ p0 ∨ x ∈ p1) → x.block < W.heap.size := fun x hx => by simpa using hW'.lt x (by simpa using hx)
  have k0 : ∀ (W' : World), Below W.heap.size W W' → DataW.Trod enc Try.prog W' 0 (fun b => decide (b < W.heap.size)) true 3 v0 d0 p0 :=
    fun W' hn => Below.trod laidOut (by kernel_rfl) (of_decide_eq_true (by kernel_rfl)) h0 hn (fun x hx => hlt x (Or.inl hx))
  have k1 : ∀ (W' : World), Below W.heap.size W W' → DataW.Trod enc Try.prog W' 0 (fun b => decide (b < W.heap.size)) true 3 v1 d1 p1 :=
    fun W' hn => Below.trod laidOut (by kernel_rfl) (of_decide_eq_true (by kernel_rfl)) h1 hn (fun x hx => hlt x (Or.inr (hx)))
  obtain ⟨a0, rfl, _, _, w0⟩ := open_int Try.underlying3 (hval 0 3 v0 rfl rfl) h0
  obtain ⟨a1, rfl, _, _, w1⟩ := open_int Try.underlying3 (hval 1 3 v1 rfl rfl) h1
  refine (walk (W := W) a0 w0 a1 w1).mono fun e W' ⟨he, hb⟩ => ?_
  subst he
  refine ⟨_, rfl, _, _, _, [], p0 ++ (p1 ++ ([])), [], hW', ?_, ?_, rfl, hb.frame _, fun h => by cases h⟩
  · exact trodAll_cons_mk (shut_bool Try.underlying4 true) trodAll_mk0
  · exact trodAll_cons_mk (k0 _ hb) (trodAll_cons_mk (k1 _ hb) (trodAll_mk0))

theorem over : Rows.vheapManyRow.holds Try.pinned (OpenSpec.ofChange Rows.vheapManySpec) :=
  OpenClaim.holds_of_wide 5 Try.f5 rfl rfl rfl rfl rfl rfl rfl ⟨rfl, rfl, rfl, rfl, rfl⟩ rfl rfl rfl rfl rfl (by kernel_rfl) Try.func5 (by kernel_rfl)
    (of_decide_eq_true (by kernel_rfl)) (by unfold Func.isWrapper; first | (rw [if_pos (by decide +kernel)]; kernel_rfl) | (rw [if_neg (by decide +kernel)]; exact ⟨rfl, rfl⟩))
    (fun os started H enc _ => lifted os started H enc)

/-- The given statement. -/
theorem proved : Rows.VheapManySaid := over
#print axioms proved
end Go.Proofs.Ytcnbcidbbeadcaa.vheapMany
