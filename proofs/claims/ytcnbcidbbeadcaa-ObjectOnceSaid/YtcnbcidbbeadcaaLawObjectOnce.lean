/- Words that are an object are the words of what is read of them. No condition. -/
import Derived.Test.YtcnbcidbbeadcaaObjQ
import Derived.Test.YtcnbcidbbeadcaaAw11
import Derived.SizedLaws
import Derived.Deep.DrawnRows
namespace Go.Proofs.Ytcnbcidbbeadcaa.objectOnce
open Go.ChangeShapes Go.WideShapes Go.ChangeAt Go.RowKit Go.Deep
set_option linter.unusedVariables false

theorem ints_words {w : World} {v : Value} {xs : List Int} (h : IntsIn w v .u64 xs) : ∃ ws : List Nat, WordsR w v ws := by
  obtain ⟨hr, hx⟩ := h
  have each : ∀ i, i < xs.length → ∃ y : Nat, xs.getD i 0 = y ∧ y < 2 ^ 64 := by
    intro i hi
    have := hx (xs.getD i 0) (by simp [List.getD, hi])
    exact wf_u64 this
  obtain ⟨Z, hZ⟩ := choose_lt each
  refine ⟨(List.range xs.length).map Z, ?_, ?_⟩
  · rw [List.length_map, List.length_range]
    obtain ⟨a, cap, g1, g2, g3, g4⟩ := hr
    refine ⟨a, cap, g1, g2, g3, fun hn => ?_⟩
    obtain ⟨b, off, k1, k2, k3⟩ := g4 hn
    refine ⟨b, off, k1, k2, fun i hi j hj => ?_⟩
    rw [k3 i hi j hj]
    show some (Value.int .u64 (xs.getD i 0)) = some (Value.int .u64 ((((List.range xs.length).map Z).getD i 0 : Nat) : Int))
    rw [(hZ i hi).1]
    simp [List.getD, hi]
  · intro y hy
    simp only [List.mem_map, List.mem_range] at hy
    obtain ⟨i, hi, rfl⟩ := hy
    exact (hZ i hi).2

set_option maxRecDepth 100000 in
set_option maxHeartbeats 4000000 in
theorem walk {W : World} (kv : Value) (ks : List (List Int)) (hks : MatIn W kv ks ∧ ks.length * 24 ≤ 140737488351232) (wv : Value) (wi : List Int) (hwi : IntsIn W wv .u64 wi ∧ wi.length * 8 ≤ 140737488351232) :
    Calls Try.prog 7 #[kv, wv] W (LawPost W) := by
  obtain ⟨ws, hW⟩ := ints_words hwi.1
  have hM := hks.1
  clear hks hwi
  have hwlt := hW.2
  have hD := Lib.hid (fun w' (u : Upd (fun _ => False) W w') => object_Decode kv wv ks ws w' (hM.upd u.none) (hW.upd u.none))
  have hD2 := Lib.hid (fun w' (u : Upd (fun _ => False) W w') => ref_Decode kv wv ks ws w' (hM.upd u.none) (hW.upd u.none))
  have hl := Lib.hid (light11 kv ks _ hM)
  have HM := Lib.hid hM
  have HW := Lib.hid hW
  obtain ⟨va, vc, rfl, hc1, hc2, -⟩ := hW.1
  have hx1 : (ws.length : Int) ≤ 9223372036854775807 := by unfold maxLen at hc2; omega
  have hcs := Lib.hid (decO_cases ks ws hwlt)
  have Hhwlt := Lib.hid hwlt; clear hwlt
  clear hc1 hc2 hW hM
  go_enter Try.func7, Try.ntmps7
  go_wp2_with fail
  refine hl.out.mono ?_
  rintro e w2 ⟨b, rfl, hu2⟩
  have HU2 := Lib.hid hu2
  clear hu2
  cases b with
  | false =>
    go_wp2_with (go_at_call 16; (with_reducible refine (awake11 _).mono ?_); rintro e w3 ⟨rfl, hu3⟩; have HU3 := Lib.hid (HU2.out.trans hu3); clear hu3)
    go_ret
    exact ⟨rfl, Upd.none HU3.out⟩
  | true =>
    by_cases h40 : (40 : Int) < ws.length
    · go_wp2_with (go_at_call 16; (with_reducible refine (awake11 _).mono ?_); rintro e w3 ⟨rfl, hu3⟩; have HU3 := Lib.hid (HU2.out.trans hu3); clear hu3)
      go_ret
      exact ⟨rfl, Upd.none HU3.out⟩
    · clear hD2
      go_wp2_with fail
      refine (hD.out _ HU2.out).mono ?_
      rintro e w3 ⟨hu3, va3, vc3, rfl, hV3⟩
      have HU3 := Lib.hid (HU2.out.trans hu3)
      have HV3 := Lib.hid hV3
      clear hu3 hV3 hD hl
      rcases hcs.out with h | ⟨k, f, xs, ep, h, ho, hl, hv, hep, h0, hm, hk16⟩
      · rw [h]
        clear h hcs
        go_wp2_with (go_at_call 16; (with_reducible refine (awake11 _).mono ?_); rintro e w4 ⟨rfl, hu4⟩; have HU4 := Lib.hid (HU3.out.trans hu4); clear hu4)
        go_ret
        exact ⟨rfl, Upd.none HU4.out⟩
      · rw [h] at HV3
        rw [h]
        have henc := dec_enc Hhwlt.out ho hl hv h0 hm
        have hoks := vofTo_ok hv Hhwlt.out
        have hE := object_Encode kv _ ks k xs ep hep hoks w3 (HM.out.upd HU3.out.none) HV3.out
        rw [henc] at hE
        unfold RetEnc at hE
        simp only at hE
        obtain ⟨n, hn⟩ : ∃ n, (ws.take (kW f)).length = n := ⟨_, rfl⟩
        have hnl : n ≤ ws.length := by rw [← hn, List.length_take]; omega
        have hget : ∀ t, t < n → (ws.take (kW f)).getD t 0 = ws.getD t 0 := by
          intro t ht
          have : t < kW f := by rw [← hn, List.length_take] at ht; omega
          simp [List.getD, this]
        rw [hn] at hE
        have hE := Lib.hid hE
        have e1 : ¬ ((ws.length : Int) < n) := by omega
        clear h hcs ho hl hv hep h0 hm hk16 henc hoks
        generalize xs.length = xl at *
        have Hhn := Lib.hid hn; clear hn
        have Hhget := Lib.hid hget; clear hget
        go_wp2_with (go_at_call 17; (with_reducible refine hE.out.mono ?_); rintro e w4 ⟨hu4, va4, vc4, rfl, hW4⟩; have HU4 := Lib.hid (HU3.out.trans hu4); have HW4 := Lib.hid hW4; clear hu4 hW4)
        go_loopw [60] (fun i wr => ∃ t : Nat, i = .int .i64 t ∧ t ≤ n ∧ Upd (fun _ => False) w4 wr) (fun i _ => (n - intOf i).toNat)
        case atStart => exact ⟨0, rfl, Nat.zero_le _, Upd.refl _ _⟩
        case round =>
          obtain ⟨t, rfl, ht, hu⟩ := hrel
          by_cases hte : t = n
          · have d1 : ¬ ((t : Int) < n) := by omega
            have Hhu := Lib.hid hu; clear hu
            clear hte
            go_wp2_with (go_at_call 16; (with_reducible refine (awake11 _).mono ?_); rintro e w5 ⟨rfl, hu5⟩; have HU5 := Lib.hid hu5; clear hu5)
            go_ret
            exact ⟨rfl, Upd.none ((HU4.out.trans Hhu.out).trans HU5.out)⟩
          · have d1 : (t : Int) < n := by omega
            have t1 : t < (ws.take (kW f)).length := by have := Hhn.out; omega
            have t2 : t < ws.length := by omega
            have d2 : (t : Int) < ws.length := by omega
            obtain ⟨b2, o2, hi2, hb2, hc2⟩ := HW4.out.1.index (P := Try.prog) Try.underlying29 (by kernel_rfl) (by kernel_rfl) (i := t) t1
            obtain ⟨b3, o3, hi3, hb3, hc3⟩ := HW.out.1.index (P := Try.prog) Try.underlying29 (by kernel_rfl) (by kernel_rfl) t2
            rw [Nat.mul_one] at hi2 hc2 hi3 hc3
            have hc2 : wr.cell? ⟨b2, o2 + t, none⟩ = some (.int .u64 ((ws.getD t 0 : Nat) : Int)) := (hu.none.cell (p := ⟨b2, o2 + t, none⟩) hb2).trans ((hc2 0 (by decide)).trans (by rw [Hhget.out t (by omega)]))
            have hc3 : wr.cell? ⟨b3, o3 + t, none⟩ = some (.int .u64 ((ws.getD t 0 : Nat) : Int)) := ((HU4.out.trans hu).none.cell (p := ⟨b3, o3 + t, none⟩) hb3).trans (hc3 0 (by decide))
            generalize o2 + t = o2 at *
            generalize o3 + t = o3 at *
            generalize ws.getD t 0 = y at *
            have hyy : ((y : Int) != (y : Int)) = false := by simp
            clear hte t1 t2
            have Hhu := Lib.hid hu; clear hu
            go_wp2
            go_quiet (fail)
            go_wp2
            go_roundw
            case rel => exact ⟨t + 1, by go_num, by omega, Hhu.out.drewN _⟩
            case measure => simp [intOf]; omega
theorem own : ownKnob Try.prog.godebug = none := by kernel_rfl
theorem laidOut : laidOutB Try.prog = true := by kernel_rfl
set_option maxRecDepth 100000 in
theorem lifted (os : Os) (started : os.Started) (H : Type) (enc : TypeId × Value → H) :
    ReturnsInHanded {} Try.checked os 7 .any (Rows.objectOnceSpec.pre6 enc Try.prog Try.f7 Rows.objectOnceRow.domain false) (Rows.objectOnceSpec.post enc Try.prog Try.f7 false true false false) := by
  refine returnsInHanded_of_change_sized (C := Try.checked) own started (by kernel_rfl) Try.func7
    (ChangeSpec.witness6 (enc := enc) (C := Try.checked) false ⟨#[], #[.slice none 0 0, .slice none 0 0], []⟩ 8 (by kernel_rfl) (by kernel_rfl) (by kernel_rfl) (by kernel_rfl)) ?_
  intro W base args ds gs before hval0 hW _ hsz0 _
  have hsz : (DataW.weightsEach Try.prog (Try.f7.params.toList ++ Rows.objectOnceSpec.plain.varTypes Try.prog) (ds ++ gs)).all (· ≤ reachBytes) = true := hsz0
  clear hsz0
  have hval : ∀ (j : Nat) t v, Try.f7.params[j]? = some t → args[j]? = some v → Value.okWide Try.prog W .any base t v := hval0
  have hW' := hW
  obtain ⟨p, q, hA0, hV, rfl, _, _⟩ := hW
  have hA : DataW.TrodAll enc Try.prog W 0 (fun _ => true) true Try.f7.params.toList args.toList ds p := hA0
  rw [Try.params7] at hA hval hsz
  obtain ⟨v0, vs0, d0, ds0, p0, q0, hargs, rfl, rfl, h0, r0⟩ := trodAll_cons hA
  obtain ⟨v1, vs1, d1, ds1, p1, q1, rfl, rfl, rfl, h1, r1⟩ := trodAll_cons r0
  obtain ⟨rfl, rfl, rfl⟩ := trodAll_nil r1
  obtain rfl : args = #[v0, v1] := by cases args; simp_all
  obtain ⟨rfl, rfl⟩ := trodVars_none hV
  clear hA0 hval0
  simp only [List.append_nil] at hW'
  have hlt : ∀ x, (x ∈ p0 ∨ x ∈ p1) → x.block < W.heap.size := fun x hx => by simpa using hW'.lt x (by simpa using hx)
  have k0 : ∀ (W' : World), Below W.heap.size W W' → DataW.Trod enc Try.prog W' 0 (fun b => decide (b < W.heap.size)) true 22 v0 d0 p0 :=
    fun W' hn => Below.trod laidOut (by kernel_rfl) (of_decide_eq_true (by kernel_rfl)) h0 hn (fun x hx => hlt x (Or.inl hx))
  have k1 : ∀ (W' : World), Below W.heap.size W W' → DataW.Trod enc Try.prog W' 0 (fun b => decide (b < W.heap.size)) true 29 v1 d1 p1 :=
    fun W' hn => Below.trod laidOut (by kernel_rfl) (of_decide_eq_true (by kernel_rfl)) h1 hn (fun x hx => hlt x (Or.inr (hx)))
  obtain ⟨x0, hx0⟩ := open_kindsAt (k := 0) _ Try.underlying22 Try.underlying68 (by kernel_rfl) (by decide) (by kernel_rfl) (by kernel_rfl) rfl Try.underlying52 Try.underlying3 (by kernel_rfl) (hval 0 22 v0 rfl rfl) h0 hsz 0 rfl rfl
  obtain ⟨x1, hx1⟩ := open_intsAt (bytes := 8) Try.underlying29 Try.underlying24 (by kernel_rfl) (by kernel_rfl) (hval 1 29 v1 rfl rfl) h1 hsz 1 rfl rfl
  refine (walk (W := W) v0 x0 hx0 v1 x1 hx1).mono fun e W' ⟨he, hb⟩ => ?_
  subst he
  refine ⟨_, rfl, _, _, _, [], p0 ++ (p1 ++ ([])), [], hW', ?_, ?_, rfl, hb.frame _, fun h => by cases h⟩
  · exact trodAll_cons_mk (shut_bool Try.underlying4 true) trodAll_mk0
  · exact trodAll_cons_mk (k0 _ hb) (trodAll_cons_mk (k1 _ hb) (trodAll_mk0))

theorem over : Rows.objectOnceRow.holds Try.pinned (OpenSpec.ofChange Rows.objectOnceSpec) :=
  OpenClaim.holds_of_wide 7 Try.f7 rfl rfl rfl rfl rfl rfl rfl ⟨rfl, rfl, rfl, rfl, rfl⟩ rfl rfl rfl rfl rfl (by kernel_rfl) Try.func7 (by kernel_rfl)
    (of_decide_eq_true (by kernel_rfl)) (by unfold Func.isWrapper; first | (rw [if_pos (by decide +kernel)]; kernel_rfl) | (rw [if_neg (by decide +kernel)]; exact ⟨rfl, rfl⟩))
    (fun os started H enc _ => lifted os started H enc)

/-- The given statement. -/
theorem proved : Rows.ObjectOnceSaid := over
#print axioms proved
end Go.Proofs.Ytcnbcidbbeadcaa.objectOnce
