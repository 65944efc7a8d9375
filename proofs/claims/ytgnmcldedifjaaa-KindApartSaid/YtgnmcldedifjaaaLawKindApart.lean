/- Two kinds that may be have one word just if they are the same. No condition. -/
import Derived.Test.YtgnmcldedifjaaaAwake8
import Derived.SizedLaws
import Derived.Deep.RegionHeld3
import Derived.Deep.DrawnRows
namespace Go.Proofs.Ytgnmcldedifjaaa.kindApart
open Go.ChangeShapes Go.WideShapes Go.ChangeAt Go.RowKit
set_option linter.unusedVariables false
attribute [local go_sem ↓] Go.wp_at_zero Go.wp_at_succ

set_option maxRecDepth 100000 in
set_option maxHeartbeats 2000000 in
theorem walk {W : World} (u : Value) (f : List Int) (hx : IntsIn W u .i64 f ∧ f.length * 8 ≤ 140737488351232) (v : Value) (g : List Int) (hy : IntsIn W v .i64 g ∧ g.length * 8 ≤ 140737488351232) :
    Calls Try.prog 9 #[u, v] W (LawPost W) := by
  have hX := hx.1.1
  have hY := hy.1.1
  have hX' := Lib.hid hX
  have hY' := Lib.hid hY
  obtain ⟨a, ca, rfl, -⟩ := hX
  obtain ⟨b, cb, rfl, -⟩ := hY
  have hA := Lib.hid (fun (w' : World) (u : Upd (fun _ => False) W w') => awake8 W w' u)
  have hu0 : Upd (fun _ => False) W W := Upd.refl _ _
  clear hx hy
  by_cases h40 : 40 < f.length
  · have c1 : (40 : Int) < f.length := by omega
    go_enter Try.func9, Try.ntmps9
    go_wp2_with (go_at_call 21; (first | (with_reducible refine (hA.out _ (by assumption)).mono ?_)); rintro e w2 ⟨rfl, hu⟩)
    go_ret
    exact ⟨rfl, Upd.none (by assumption)⟩
  · have c1 : ¬ (40 : Int) < f.length := by omega
    by_cases h41 : 40 < g.length
    · have c2 : (40 : Int) < g.length := by omega
      go_enter Try.func9, Try.ntmps9
      go_wp2_with (go_at_call 21; (first | (with_reducible refine (hA.out _ (by assumption)).mono ?_)); rintro e w2 ⟨rfl, hu⟩)
      go_ret
      exact ⟨rfl, Upd.none (by assumption)⟩
    · have c2 : ¬ (40 : Int) < g.length := by omega
      have c3 := Lib.hid (two_kinds W (.slice a f.length ca) (.slice b g.length cb) 38)
      go_enter Try.func9, Try.ntmps9
      go_wp2_with fail
      generalize hva : Value.slice a f.length ca = va at *
      generalize hvb : Value.slice b g.length cb = vb at *
      obtain ⟨hw, hca, hcb⟩ := c3.out
      have hX := ints_upd hX'.out hw
      have hY := ints_upd hY'.out hw
      clear c3 hX' hY'
      generalize (W.alloc (.cells #[va] 38)).alloc (.cells #[vb] 38) = W1 at *
      generalize W.heap.size = A at *
      generalize hB : A + 1 = B at *
      have hMa := Lib.hid (fun (w' : World) (h : Upd (fun _ => False) W1 w') => show _ → _ → _ from fun ha hb => k2 (A := ⟨A, 0, none⟩) (B := ⟨B, 0, none⟩) (va := va) (vb := vb) (kind_May va f w' (ints_upd hX h)) h ha hb)
      have hMb := Lib.hid (fun (w' : World) (h : Upd (fun _ => False) W1 w') => show _ → _ → _ from fun ha hb => k2 (A := ⟨A, 0, none⟩) (B := ⟨B, 0, none⟩) (va := va) (vb := vb) (kind_May vb g w' (ints_upd hY h)) h ha hb)
      have hu1 : Upd (fun _ => False) W1 W1 := Upd.refl _ _
      have hA2 := Lib.hid (fun (w' : World) (h : Upd (fun _ => False) W1 w') => show _ → _ → _ from fun ha hb => k2 (A := ⟨A, 0, none⟩) (B := ⟨B, 0, none⟩) (va := va) (vb := vb) (awake8 w' w' (Upd.refl _ _)) h ha hb)
      have hWa := Lib.hid (fun (w' : World) (h : Upd (fun _ => False) W1 w') => show _ → _ → _ from fun ha hb => k2 (A := ⟨A, 0, none⟩) (B := ⟨B, 0, none⟩) (va := va) (vb := vb) (kind_Word va f w' (ints_upd hX h)) h ha hb)
      have hWb := Lib.hid (fun (w' : World) (h : Upd (fun _ => False) W1 w') => show _ → _ → _ from fun ha hb => k2 (A := ⟨A, 0, none⟩) (B := ⟨B, 0, none⟩) (va := va) (vb := vb) (kind_Word vb g w' (ints_upd hY h)) h ha hb)
      have hSa := Lib.hid (fun (w' : World) (h : Upd (fun _ => False) W1 w') => show _ → _ → _ from fun ha hb => k2 (A := ⟨A, 0, none⟩) (B := ⟨B, 0, none⟩) (va := va) (vb := vb) (kind_Same va vb f g w' (ints_upd hX h) (ints_upd hY h)) h ha hb)
      have hSb := Lib.hid (fun (w' : World) (h : Upd (fun _ => False) W1 w') => show _ → _ → _ from fun ha hb => k2 (A := ⟨A, 0, none⟩) (B := ⟨B, 0, none⟩) (va := va) (vb := vb) (kind_Same vb va g f w' (ints_upd hY h) (ints_upd hX h)) h ha hb)
      have hinj : MayK f = true → MayK g = true → ((wordK f : Int) == (wordK g : Int)) = decide (f = g) := by
        intro h1 h2
        by_cases e : f = g
        · subst e
          simp
        · have : (wordK f : Int) ≠ wordK g := fun e' => e (by rw [← fields_word f h1, ← fields_word g h2, show wordK f = wordK g by omega])
          simp [e, this]
      have hcomm : decide (g = f) = decide (f = g) := by simp [eq_comm]
      rw [hcomm] at hSb
      clear hcomm
      generalize (wordK f : Int) = x at *
      generalize (wordK g : Int) = y at *
      generalize decide (f = g) = s at *
      generalize hm1 : MayK f = m1 at *
      generalize hm2 : MayK g = m2 at *
      refine (hMa.out _ hu1 hca hcb).mono ?_
      rintro e w2 ⟨rfl, hu2, hca2, hcb2⟩
      clear hca hcb hX hY hm1 hm2
      cases m1
      · go_wp2_with (go_at_call 21; (first | (with_reducible refine (hA2.out _ (by assumption) (by assumption) (by assumption)).mono ?_)); rintro e w2 ⟨rfl, hu, hca, hcb⟩)
        go_ret
        exact ⟨rfl, Upd.none (hw.trans (by assumption))⟩
      · go_wp2_with fail
        refine (hMb.out _ hu2 hca2 hcb2).mono ?_
        rintro e w3 ⟨rfl, hu3, hca3, hcb3⟩
        cases m2
        · go_wp2_with (go_at_call 21; (first | (with_reducible refine (hA2.out _ (by assumption) (by assumption) (by assumption)).mono ?_)); rintro e w2 ⟨rfl, hu, hca, hcb⟩)
          go_ret
          exact ⟨rfl, Upd.none (hw.trans (by assumption))⟩
        · have hxy := hinj (by simp) (by simp)
          clear hinj hu2 hca2 hcb2 hMa hMb hu1
          cases s <;>
          · go_wp2_with fail
            go_region_held3 (fun w' => Upd (fun _ => False) W1 w' ∧ w'.cell? ⟨A, 0, none⟩ = some va ∧ w'.cell? ⟨B, 0, none⟩ = some vb)
              (((try go_split_ands); exact ⟨by first | assumption | exact Upd.drew (by assumption), by assumption, by assumption⟩))
              (((try go_split_ands); first
              | (go_at_call_of 25 (Value.agg #[va]); refine (hWa.out _ (by assumption) (by assumption) (by assumption)).mono ?_; rintro e w2 ⟨rfl, hu, hca, hcb⟩)
              | (go_at_call_of 25 (Value.agg #[vb]); refine (hWb.out _ (by assumption) (by assumption) (by assumption)).mono ?_; rintro e w2 ⟨rfl, hu, hca, hcb⟩)
              | (go_at_call_of 27 (Value.agg #[va]); refine (hSa.out _ (by assumption) (by assumption) (by assumption)).mono ?_; rintro e w2 ⟨rfl, hu, hca, hcb⟩)
              | (go_at_call_of 27 (Value.agg #[vb]); refine (hSb.out _ (by assumption) (by assumption) (by assumption)).mono ?_; rintro e w2 ⟨rfl, hu, hca, hcb⟩)
              | (go_at_call 21; refine (hA2.out _ (by assumption) (by assumption) (by assumption)).mono ?_; rintro e w2 ⟨rfl, hu, hca, hcb⟩)))
            all_goals go_wp2
            all_goals go_ret
            all_goals trace_state
            all_goals exact ⟨rfl, Upd.none (hw.trans (by assumption))⟩

theorem own : ownKnob Try.prog.godebug = none := by kernel_rfl
theorem laidOut : laidOutB Try.prog = true := by kernel_rfl
set_option maxRecDepth 100000 in
theorem lifted (os : Os) (started : os.Started) (H : Type) (enc : TypeId × Value → H) :
    ReturnsInHanded {} Try.checked os 9 .any (Rows.kindApartSpec.pre6 enc Try.prog Try.f9 Rows.kindApartRow.domain false) (Rows.kindApartSpec.post enc Try.prog Try.f9 false true false false) := by
  refine returnsInHanded_of_change_sized (C := Try.checked) own started (by kernel_rfl) Try.func9
    (ChangeSpec.witness6 (enc := enc) (C := Try.checked) false ⟨#[], #[.slice none 0 0, .slice none 0 0], []⟩ 8 (by kernel_rfl) (by kernel_rfl) (by kernel_rfl) (by kernel_rfl)) ?_
  intro W base args ds gs before hval0 hW _ hsz0 _
  have hsz : (DataW.weightsEach Try.prog (Try.f9.params.toList ++ Rows.kindApartSpec.plain.varTypes Try.prog) (ds ++ gs)).all (· ≤ reachBytes) = true := hsz0
  clear hsz0
  have hval : ∀ (j : Nat) t v, Try.f9.params[j]? = some t → args[j]? = some v → Value.okWide Try.prog W .any base t v := hval0
  have hW' := hW
  obtain ⟨p, q, hA0, hV, rfl, _, _⟩ := hW
  have hA : DataW.TrodAll enc Try.prog W 0 (fun _ => true) true Try.f9.params.toList args.toList ds p := hA0
  rw [Try.params9] at hA hval hsz
  obtain ⟨v0, vs0, d0, ds0, p0, q0, hargs, rfl, rfl, h0, r0⟩ := trodAll_cons hA
  obtain ⟨v1, vs1, d1, ds1, p1, q1, rfl, rfl, rfl, h1, r1⟩ := trodAll_cons r0
  obtain ⟨rfl, rfl, rfl⟩ := trodAll_nil r1
  obtain rfl : args = #[v0, v1] := by cases args; simp_all
  obtain ⟨rfl, rfl⟩ := trodVars_none hV
  clear hA0 hval0
  simp only [List.append_nil] at hW'
  have hlt : ∀ x, (x ∈ p0 ∨ x ∈ p1) → x.block < W.heap.size := fun x hx => by simpa using hW'.lt x (by simpa using hx)
  have k0 : ∀ (W' : World), Below W.heap.size W W' → DataW.Trod enc Try.prog W' 0 (fun b => decide (b < W.heap.size)) true 36 v0 d0 p0 :=
    fun W' hn => Below.trod laidOut (by kernel_rfl) (of_decide_eq_true (by kernel_rfl)) h0 hn (fun x hx => hlt x (Or.inl hx))
  have k1 : ∀ (W' : World), Below W.heap.size W W' → DataW.Trod enc Try.prog W' 0 (fun b => decide (b < W.heap.size)) true 36 v1 d1 p1 :=
    fun W' hn => Below.trod laidOut (by kernel_rfl) (of_decide_eq_true (by kernel_rfl)) h1 hn (fun x hx => hlt x (Or.inr (hx)))
  obtain ⟨x0, hx0⟩ := open_intsAt (bytes := 8) Try.underlying36 Try.underlying3 (by kernel_rfl) (by kernel_rfl) (hval 0 36 v0 rfl rfl) h0 hsz 0 rfl rfl
  obtain ⟨x1, hx1⟩ := open_intsAt (bytes := 8) Try.underlying36 Try.underlying3 (by kernel_rfl) (by kernel_rfl) (hval 1 36 v1 rfl rfl) h1 hsz 1 rfl rfl
  refine (walk (W := W) v0 x0 hx0 v1 x1 hx1).mono fun e W' ⟨he, hb⟩ => ?_
  subst he
  refine ⟨_, rfl, _, _, _, [], p0 ++ (p1 ++ ([])), [], hW', ?_, ?_, rfl, hb.frame _, fun h => by cases h⟩
  · exact trodAll_cons_mk (shut_bool Try.underlying4 true) trodAll_mk0
  · exact trodAll_cons_mk (k0 _ hb) (trodAll_cons_mk (k1 _ hb) (trodAll_mk0))

theorem over : Rows.kindApartRow.holds Try.pinned (OpenSpec.ofChange Rows.kindApartSpec) :=
  OpenClaim.holds_of_wide 9 Try.f9 rfl rfl rfl rfl rfl rfl rfl ⟨rfl, rfl, rfl, rfl, rfl⟩ rfl rfl rfl rfl rfl (by kernel_rfl) Try.func9 (by kernel_rfl)
    (of_decide_eq_true (by kernel_rfl)) (by unfold Func.isWrapper; first | (rw [if_pos (by decide +kernel)]; kernel_rfl) | (rw [if_neg (by decide +kernel)]; exact ⟨rfl, rfl⟩))
    (fun os started H enc _ => lifted os started H enc)

/-- The given statement. -/
theorem proved : Rows.KindApartSaid := over
#print axioms proved
end Go.Proofs.Ytgnmcldedifjaaa.kindApart
