/- Any words as an object. No condition. -/
import Derived.Test.YtcnbcidbbeadcaaObjQ
import Derived.Test.YtcnbcidbbeadcaaAw11
import Derived.SizedLaws
import Derived.Deep.DrawnRows
namespace Go.Proofs.Ytcnbcidbbeadcaa.objectDecodes
open Go.ChangeShapes Go.WideShapes Go.ChangeAt Go.RowKit Go.Deep
set_option linter.unusedVariables false

theorem ints_words {w : World} {v : Value} {xs : List Int} (h : IntsIn w v .u64 xs) : ∃ ws : List Nat, WordsR w v ws := by
  obtain ⟨hr, hx⟩ := h
  have each : ∀ i, i < xs.length → ∃ y : Nat, xs.getD i 0 = y ∧ y < 2 ^ 64 := by
    intro i hi
    have := hx (xs.getD i 0) (by simp [List.getD, hi])
    exact wf_u64 this
  obtain ⟨Z, hZ⟩ := choose_lt each
  refine ⟨(List.range xs.length).map Z, ?_, ?_⟩
  · rw [List.length_map, List.length_range]
    obtain ⟨a, cap, g1, g2, g3, g4⟩ := hr
    refine ⟨a, cap, g1, g2, g3, fun hn => ?_⟩
    obtain ⟨b, off, k1, k2, k3⟩ := g4 hn
    refine ⟨b, off, k1, k2, fun i hi j hj => ?_⟩
    rw [k3 i hi j hj]
    show some (Value.int .u64 (xs.getD i 0)) = some (Value.int .u64 ((((List.range xs.length).map Z).getD i 0 : Nat) : Int))
    rw [(hZ i hi).1]
    simp [List.getD, hi]
  · intro y hy
    simp only [List.mem_map, List.mem_range] at hy
    obtain ⟨i, hi, rfl⟩ := hy
    exact (hZ i hi).2

set_option maxRecDepth 100000 in
set_option maxHeartbeats 4000000 in
theorem walk {W : World} (kv : Value) (ks : List (List Int)) (hks : MatIn W kv ks ∧ ks.length * 24 ≤ 140737488351232) (wv : Value) (wi : List Int) (hwi : IntsIn W wv .u64 wi ∧ wi.length * 8 ≤ 140737488351232) :
    Calls Try.prog 6 #[kv, wv] W (LawPost W) := by
  obtain ⟨ws, hW⟩ := ints_words hwi.1
  have hM := hks.1
  clear hks hwi
  have hwlt := hW.2
  have hD := Lib.hid (fun w' (u : Upd (fun _ => False) W w') => object_Decode kv wv ks ws w' (hM.upd u.none) (hW.upd u.none))
  have hD2 := Lib.hid (fun w' (u : Upd (fun _ => False) W w') => ref_Decode kv wv ks ws w' (hM.upd u.none) (hW.upd u.none))
  have hl := Lib.hid (light11 kv ks _ hM)
  have HM := Lib.hid hM
  have HW := Lib.hid hW
  obtain ⟨va, vc, rfl, hc1, hc2, -⟩ := hW.1
  have hx1 : (ws.length : Int) ≤ 9223372036854775807 := by unfold maxLen at hc2; omega
  have hcs := Lib.hid (decO_cases ks ws hwlt)
  have Hhwlt := Lib.hid hwlt; clear hwlt
  clear hc1 hc2 hW hM
  go_enter Try.func6, Try.ntmps6
  go_wp2_with fail
  refine hl.out.mono ?_
  rintro e w2 ⟨b, rfl, hu2⟩
  have HU2 := Lib.hid hu2
  clear hu2
  cases b with
  | false =>
    go_wp2_with (go_at_call 16; (with_reducible refine (awake11 _).mono ?_); rintro e w3 ⟨rfl, hu3⟩; have HU3 := Lib.hid (HU2.out.trans hu3); clear hu3)
    go_ret
    exact ⟨rfl, Upd.none HU3.out⟩
  | true =>
    by_cases h40 : (40 : Int) < ws.length
    · go_wp2_with (go_at_call 16; (with_reducible refine (awake11 _).mono ?_); rintro e w3 ⟨rfl, hu3⟩; have HU3 := Lib.hid (HU2.out.trans hu3); clear hu3)
      go_ret
      exact ⟨rfl, Upd.none HU3.out⟩
    · have hsame : sameVs (decO ks ws).2.1 (decO ks ws).2.1 = true := by
        rcases hcs.out with h | ⟨k, f, xs, ep, h, ho, hl, hv, -⟩
        · rw [h]
          rfl
        · rw [h]
          exact vofTo_same hv Hhwlt.out
      have hsv := Lib.hid (fun u v w' h1 h2 => (ref_SameValues u v _ _ w' h1 h2).mono (fun e w'' h => show e = .returned (.bool true) ∧ Upd (fun _ => False) w' w'' from ⟨by rw [← hsame]; exact h.1, h.2⟩))
      clear hsame hcs
      unfold RetDec at hD hD2
      generalize decO ks ws = r at *
      obtain ⟨k, xs, ep, m⟩ := r
      simp only at hD hD2 hsv
      have s1 : (m == m) = true := by simp
      have s2 : (k == k) = true := by simp
      have s3 : ((ep : Int) == (ep : Int)) = true := by simp
      go_wp2_with (first
        | (go_at_call 29; (with_reducible refine (hD.out _ HU2.out).mono ?_); rintro e w3 ⟨hu3, va3, vc3, rfl, hV3⟩; have Hu3 := Lib.hid hu3; have HV3 := Lib.hid hV3; clear hu3 hV3)
        | (go_at_call 30; (with_reducible refine (hD2.out _ (HU2.out.trans Hu3.out)).mono ?_); rintro e w4 ⟨hu4, va4, vc4, rfl, hV4⟩; have Hu4 := Lib.hid hu4; have HV4 := Lib.hid hV4; have HV34 := Lib.hid (HV3.out.upd hu4.none); clear hu4 hV4)
        | (go_at_call 31; (with_reducible refine (hsv.out _ _ _ HV34.out HV4.out).mono ?_); rintro e w5 ⟨rfl, hu5⟩; have Hu5 := Lib.hid hu5; clear hu5)
        | (go_at_call 16; (with_reducible refine (awake11 _).mono ?_); rintro e w6 ⟨rfl, hu6⟩; have Hu6 := Lib.hid hu6; clear hu6))
      go_ret
      exact ⟨rfl, Upd.none ((((HU2.out.trans Hu3.out).trans Hu4.out).trans Hu5.out).trans Hu6.out)⟩
theorem own : ownKnob Try.prog.godebug = none := by kernel_rfl
theorem laidOut : laidOutB Try.prog = true := by kernel_rfl
set_option maxRecDepth 100000 in
theorem lifted (os : Os) (started : os.Started) (H : Type) (enc : TypeId × Value → H) :
    ReturnsInHanded {} Try.checked os 6 .any (Rows.objectDecodesSpec.pre6 enc Try.prog Try.f6 Rows.objectDecodesRow.domain false) (Rows.objectDecodesSpec.post enc Try.prog Try.f6 false true false false) := by
  refine returnsInHanded_of_change_sized (C := Try.checked) own started (by kernel_rfl) Try.func6
    (ChangeSpec.witness6 (enc := enc) (C := Try.checked) false ⟨#[], #[.slice none 0 0, .slice none 0 0], []⟩ 8 (by kernel_rfl) (by kernel_rfl) (by kernel_rfl) (by kernel_rfl)) ?_
  intro W base args ds gs before hval0 hW _ hsz0 _
  have hsz : (DataW.weightsEach Try.prog (Try.f6.params.toList ++ Rows.objectDecodesSpec.plain.varTypes Try.prog) (ds ++ gs)).all (· ≤ reachBytes) = true := hsz0
  clear hsz0
  have hval : ∀ (j : Nat) t v, Try.f6.params[j]? = some t → args[j]? = some v → Value.okWide Try.prog W .any base t v := hval0
  have hW' := hW
  obtain ⟨p, q, hA0, hV, rfl, _, _⟩ := hW
  have hA : DataW.TrodAll enc Try.prog W 0 (fun _ => true) true Try.f6.params.toList args.toList ds p := hA0
  rw [Try.params6] at hA hval hsz
  obtain ⟨v0, vs0, d0, ds0, p0, q0, hargs, rfl, rfl, h0, r0⟩ := trodAll_cons hA
  obtain ⟨v1, vs1, d1, ds1, p1, q1, rfl, rfl, rfl, h1, r1⟩ := trodAll_cons r0
  obtain ⟨rfl, rfl, rfl⟩ := trodAll_nil r1
  obtain rfl : args = #[v0, v1] := by cases args; simp_all
  obtain ⟨rfl, rfl⟩ := trodVars_none hV
  clear hA0 hval0
  simp only [List.append_nil] at hW'
  have hlt : ∀ x, (x ∈ p0 ∨ x ∈ p1) → x.block < W.heap.size := fun x hx => by simpa using hW'.lt x (by simpa using hx)
  have k0 : ∀ (W' : World), Below W.heap.size W W' → DataW.Trod enc Try.prog W' 0 (fun b => decide (b < W.heap.size)) true 22 v0 d0 p0 :=
    fun W' hn => Below.trod laidOut (by kernel_rfl) (of_decide_eq_true (by kernel_rfl)) h0 hn (fun x hx => hlt x (Or.inl hx))
  have k1 : ∀ (W' : World), Below W.heap.size W W' → DataW.Trod enc Try.prog W' 0 (fun b => decide (b < W.heap.size)) true 29 v1 d1 p1 :=
    fun W' hn => Below.trod laidOut (by kernel_rfl) (of_decide_eq_true (by kernel_rfl)) h1 hn (fun x hx => hlt x (Or.inr (hx)))
  obtain ⟨x0, hx0⟩ := open_kindsAt (k := 0) _ Try.underlying22 Try.underlying68 (by kernel_rfl) (by decide) (by kernel_rfl) (by kernel_rfl) rfl Try.underlying52 Try.underlying3 (by kernel_rfl) (hval 0 22 v0 rfl rfl) h0 hsz 0 rfl rfl
  obtain ⟨x1, hx1⟩ := open_intsAt (bytes := 8) Try.underlying29 Try.underlying24 (by kernel_rfl) (by kernel_rfl) (hval 1 29 v1 rfl rfl) h1 hsz 1 rfl rfl
  refine (walk (W := W) v0 x0 hx0 v1 x1 hx1).mono fun e W' ⟨he, hb⟩ => ?_
  subst he
  refine ⟨_, rfl, _, _, _, [], p0 ++ (p1 ++ ([])), [], hW', ?_, ?_, rfl, hb.frame _, fun h => by cases h⟩
  · exact trodAll_cons_mk (shut_bool Try.underlying4 true) trodAll_mk0
  · exact trodAll_cons_mk (k0 _ hb) (trodAll_cons_mk (k1 _ hb) (trodAll_mk0))

theorem over : Rows.objectDecodesRow.holds Try.pinned (OpenSpec.ofChange Rows.objectDecodesSpec) :=
  OpenClaim.holds_of_wide 6 Try.f6 rfl rfl rfl rfl rfl rfl rfl ⟨rfl, rfl, rfl, rfl, rfl⟩ rfl rfl rfl rfl rfl (by kernel_rfl) Try.func6 (by kernel_rfl)
    (of_decide_eq_true (by kernel_rfl)) (by unfold Func.isWrapper; first | (rw [if_pos (by decide +kernel)]; kernel_rfl) | (rw [if_neg (by decide +kernel)]; exact ⟨rfl, rfl⟩))
    (fun os started H enc _ => lifted os started H enc)

/-- The given statement. -/
theorem proved : Rows.ObjectDecodesSaid := over
#print axioms proved
end Go.Proofs.Ytcnbcidbbeadcaa.objectDecodes
