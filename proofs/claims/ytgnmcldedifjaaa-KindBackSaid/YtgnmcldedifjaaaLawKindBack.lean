/- A kind is its word; its fields stand behind one another, the last one within its words; what it has at first fits. No condition. -/
import Derived.Test.YtgnmcldedifjaaaRefParse
import Derived.Test.YtgnmcldedifjaaaBackP
import Derived.SizedLaws
import Derived.Deep.RegionHeld3
import Derived.Deep.DrawnRows
namespace Go.Proofs.Ytgnmcldedifjaaa.kindBack
open Go.ChangeShapes Go.WideShapes Go.ChangeAt Go.RowKit
set_option linter.unusedVariables false
attribute [local go_sem ↓] Go.wp_at_zero Go.wp_at_succ

set_option maxRecDepth 100000 in
set_option maxHeartbeats 2000000 in
theorem walk {W : World} (u : Value) (f : List Int) (hx : IntsIn W u .i64 f ∧ f.length * 8 ≤ 140737488351232) :
    Calls Try.prog 12 #[u] W (LawPost W) := by
  have hX := hx.1.1
  have hX' := Lib.hid hX
  obtain ⟨a, ca, rfl, -⟩ := hX
  have hA := Lib.hid (fun (w' : World) (u : Upd (fun _ => False) W w') => awake8 W w' u)
  have hu0 : Upd (fun _ => False) W W := Upd.refl _ _
  clear hx
  by_cases h40 : 100 < f.length
  · have c1 : (100 : Int) < f.length := by omega
    go_enter Try.func12, Try.ntmps12
    go_wp2_with (go_at_call 21; (first | (with_reducible refine (hA.out _ (by assumption)).mono ?_)); rintro e w2 ⟨rfl, hu⟩)
    go_ret
    exact ⟨rfl, Upd.none (by assumption)⟩
  · have c1 : ¬ (100 : Int) < f.length := by omega
    have hw : Upd (fun _ => False) W (W.alloc (.cells #[(.slice a f.length ca)] 38)) := hu0.alloc _
    have hca : (W.alloc (.cells #[(.slice a f.length ca)] 38)).cell? ⟨W.heap.size, 0, none⟩ = some (.slice a f.length ca) := (Blk.new W [(.slice a f.length ca)] 38).cell 0 rfl
    have hX := ints_upd hX'.out hw
    have Hhw := Lib.hid hw; clear hw
    have Hhca := Lib.hid hca; clear hca
    have HhX := Lib.hid hX; clear hX
    go_enter Try.func12, Try.ntmps12
    go_wp2_with fail
    have hw := Hhw.out
    have hca := Hhca.out
    have hX := HhX.out
    clear Hhw Hhca HhX hA hu0 h40
    generalize W.alloc (.cells #[(.slice a f.length ca)] 38) = W1 at *
    generalize W.heap.size = A at *
    have hM := Lib.hid (fun (w' : World) (h : Upd (fun _ => False) W1 w') => show _ → _ from fun ha => k2 (A := ⟨A, 0, none⟩) (B := ⟨A, 0, none⟩) (va := (.slice a f.length ca)) (vb := (.slice a f.length ca)) (kind_May _ f w' (ints_upd hX h)) h ha ha)
    have hD := Lib.hid (fun (w' : World) (h : Upd (fun _ => False) W1 w') => show _ → _ from fun ha => k2 (A := ⟨A, 0, none⟩) (B := ⟨A, 0, none⟩) (va := (.slice a f.length ca)) (vb := (.slice a f.length ca)) (kind_Word _ f w' (ints_upd hX h)) h ha ha)
    have hA2 := Lib.hid (fun (w' : World) (h : Upd (fun _ => False) W1 w') => show _ → _ from fun ha => k2 (A := ⟨A, 0, none⟩) (B := ⟨A, 0, none⟩) (va := (.slice a f.length ca)) (vb := (.slice a f.length ca)) (awake8 w' w' (Upd.refl _ _)) h ha ha)
    have hu1 : Upd (fun _ => False) W1 W1 := Upd.refl _ _
    cases hm : MayK f with
    | false =>
      rw [hm] at hM
      have e0 : wordK f = 0 := by unfold wordK; rw [hm]; rfl
      rw [e0] at hD
      clear hX e0 hm
      go_wp2_with (first
        | (go_at_call 22; (with_reducible refine (hM.out _ (by assumption) (by assumption)).mono ?_); rintro e w2 ⟨rfl, hu, hca, -⟩)
        | (go_at_call 25; (with_reducible refine (hD.out _ (by assumption) (by assumption)).mono ?_); rintro e w2 ⟨rfl, hu, hca, -⟩)
        | (go_at_call 21; (with_reducible refine (hA2.out _ (by assumption) (by assumption)).mono ?_); rintro e w2 ⟨rfl, hu, hca, -⟩))
      go_ret
      exact ⟨rfl, Upd.none (hw.trans (by assumption))⟩
    | true =>
      rw [hm] at hM
      have hdec := parse_word f hm
      have hlen : f.length ≤ 15 := (mayK_facts f hm).2.1
      have hP := Lib.hid (fun (w' : World) (h : Upd (fun _ => False) W1 w') => show w'.cell? ⟨A, 0, none⟩ = some (.slice a f.length ca) → Calls Try.prog 28 #[.int .u64 (wordK f)] w' (fun e w2 => ∃ a' c', e = .returned (.tuple #[.agg #[.slice a' f.length c'], .bool true]) ∧ IntsR w2 (.slice a' f.length c') .i64 f ∧ Upd (fun _ => False) W1 w2 ∧ w2.cell? ⟨A, 0, none⟩ = some (.slice a f.length ca)) from
        fun ha => (kind_Parse (wordK f) w' (wordK_lt f)).mono fun e w2 ⟨v, he, hi, hu⟩ => by
          rw [hdec] at he hi
          have hi' := hi
          obtain ⟨a', c', rfl, -⟩ := hi
          exact ⟨a', c', he, hi', h.trans hu, (hu.none.cell (World.block_lt_of_cell? w' _ ha)).trans ha⟩)
      have Hm := Lib.hid hm
      have HX := Lib.hid hX
      clear hX hm hdec
      go_wp2_with fail
      refine (hM.out _ hu1 hca).mono ?_
      rintro e w2 ⟨rfl, hu2, hca2, -⟩
      go_wp2_with fail
      refine (hD.out _ hu2 hca2).mono ?_
      rintro e w3 ⟨rfl, hu3, hca3, -⟩
      go_wp2_with fail
      refine (hP.out _ hu3 hca3).mono ?_
      rintro e w4 ⟨a', c', rfl, hi4, hu4, hca4⟩
      clear hca hca2 hca3 hu2 hu3 hP hD hM hu1
      have hu5 := (Upd.refl (fun _ => False) w4).alloc (.cells #[.slice a' f.length c'] 38)
      have hi5 := ints_upd hi4 hu5
      have hj5 := ints_upd HX.out (hu4.trans hu5)
      have hca5 := (hu5.none.cell (p := ⟨A, 0, none⟩) (World.block_lt_of_cell? w4 _ hca4)).trans hca4
      have hw5 := hw.trans (hu4.trans hu5)
      clear hi4 hca4 hu4 hu5 HX hw
      have Hhi5 := Lib.hid hi5; clear hi5
      have Hhj5 := Lib.hid hj5; clear hj5
      have Hhw5 := Lib.hid hw5; clear hw5
      go_wp2_with fail
      have hi := Hhi5.out
      have hX := Hhj5.out
      have hw := Hhw5.out
      clear Hhi5 Hhj5 Hhw5 hA2
      generalize w4.alloc (.cells #[.slice a' f.length c'] 38) = W2 at *
      have hS := Lib.hid (fun (w' : World) (h : Upd (fun _ => False) W2 w') => show _ → _ from fun ha => k2 (A := ⟨A, 0, none⟩) (B := ⟨A, 0, none⟩) (va := (.slice a f.length ca)) (vb := (.slice a f.length ca)) (by
        have := kind_Same (.slice a f.length ca) (.slice a' f.length c') f f w' (ints_upd hX h) (ints_upd hi h)
        rw [show decide (f = f) = true from by simp] at this
        exact this) h ha ha)
      have hO := Lib.hid (fun (w' : World) (h : Upd (fun _ => False) W2 w') => show _ → _ from fun ha => k2 (A := ⟨A, 0, none⟩) (B := ⟨A, 0, none⟩) (va := (.slice a f.length ca)) (vb := (.slice a f.length ca)) (by
        have := kind_Offset (.slice a f.length ca) f 0 w' (ints_upd hX h)
        rw [off_first f Hm.out] at this
        exact this) h ha ha)
      have hu6 : Upd (fun _ => False) W2 W2 := Upd.refl _ _
      refine (hS.out _ hu6 hca5).mono ?_
      rintro e w6 ⟨rfl, hu7, hca6, -⟩
      clear hca5 hu6
      have HX := Lib.hid hX
      clear hi hX
      go_wp2_with (go_at_call 24; (with_reducible refine (hO.out _ (by assumption) (by assumption)).mono ?_); rintro e w2 ⟨rfl, hu, hca, -⟩)
      have hu8 : Upd (fun _ => False) W2 w2 := by assumption
      have hca8 : w2.cell? ⟨A, 0, none⟩ = some (.slice a f.length ca) := by assumption
      refine (kind_Zero _ f w2 (ints_upd HX.out hu8) hlen).mono ?_
      rintro e w7 ⟨za, zc, rfl, hoz, huz⟩
      have hca7 := (huz.none.cell (p := ⟨A, 0, none⟩) (World.block_lt_of_cell? w2 _ hca8)).trans hca8
      have hX := ints_upd HX.out (hu8.trans huz)
      have hw := hw.trans (hu8.trans huz)
      clear HX hS hO hu8 hca8 hu7 hca6 huz hu hca
      have HhX := Lib.hid hX; clear hX
      have Hhw := Lib.hid hw; clear hw
      have Hhoz := Lib.hid hoz; clear hoz
      go_wp2
      have hw7 := Upd.refl (fun _ => False) w7
      go_loopw [7, 53] (fun p i wr => ∃ k : Nat, k ≤ f.length ∧ i = .int .i64 k ∧ p = .int .i64 ((1 + sumW (f.take k) : Nat) : Int) ∧ Upd (fun _ => False) w7 wr ∧ wr.cell? ⟨A, 0, none⟩ = some (.slice a f.length ca)) (fun _ i _ => (f.length - intOf i).toNat)
      case atStart => exact ⟨0, Nat.zero_le _, rfl, by simp [sumW], hw7, hca7⟩
      case round =>
        obtain ⟨k, hk, rfl, hp, hu, hcr⟩ := hrel
        obtain ⟨q, hq⟩ : ∃ q : Nat, q = 1 + sumW (f.take k) := ⟨_, rfl⟩
        rw [← hq] at hp
        subst hp
        by_cases hkl : k = f.length
        · have d1 : ¬ ((k : Int) < f.length) := by omega
          obtain ⟨he, h16⟩ := off_end f Hm.out
          have hqk : kW f = q := by rw [hq, hkl, he]
          have hq16 : (q : Int) ≤ 16 := by omega
          have hWd := Lib.hid (fun (w' : World) (h : Upd (fun _ => False) w7 w') => show _ → _ from fun ha => k2 (A := ⟨A, 0, none⟩) (B := ⟨A, 0, none⟩) (va := (.slice a f.length ca)) (vb := (.slice a f.length ca)) (kind_Words _ f w' (ints_upd HhX.out h)) h ha ha)
          have hA7 := Lib.hid (fun (w' : World) (h : Upd (fun _ => False) w7 w') => show _ → _ from fun ha => k2 (A := ⟨A, 0, none⟩) (B := ⟨A, 0, none⟩) (va := (.slice a f.length ca)) (vb := (.slice a f.length ca)) (awake8 w' w' (Upd.refl _ _)) h ha ha)
          rw [hqk] at hWd
          clear he h16 hqk hq hca7
          go_wp2_with (first
            | (go_at_call 23; (with_reducible refine (hWd.out _ (by assumption) (by assumption)).mono ?_); rintro e w2 ⟨rfl, hu, hca, -⟩)
            | (go_at_call 21; (with_reducible refine (hA7.out _ (by assumption) (by assumption)).mono ?_); rintro e w2 ⟨rfl, hu, hca, -⟩))
          go_ret
          exact ⟨rfl, Upd.none (Hhw.out.trans (by assumption))⟩
        · have d1 : (k : Int) < f.length := by omega
          have d1' : k < f.length := by omega
          have hqo : offK f (k : Int) = q := by rw [off_is f Hm.out k d1', hq]; omega
          have hq31 : (q : Int) ≤ 31 := by
            have := sumW_take_le f k
            omega
          have hsn := sumW_snoc f k d1'
          have hfx := okW_get f k d1' (mayK_facts f Hm.out).2.2.1
          obtain ⟨b0, off, hix, hb0, hc⟩ := HhX.out.index (P := Try.prog) Try.underlying36 (by kernel_rfl) (by kernel_rfl) d1'
          simp only [Nat.mul_one] at hix hc
          have hc0 : wr.cell? ⟨b0, off + k, none⟩ = some (.int .i64 (f.getD k 0)) := (hu.none.cell (p := ⟨b0, off + k, none⟩) hb0).trans (hc 0 (by decide))
          obtain ⟨g, hiz, -, hgl, hzc⟩ := ownsRow_rowIndex Hhoz.out (P := Try.prog) Try.underlying50 (by kernel_rfl) (by kernel_rfl) d1'
          have hz : ∀ (j : Nat) (v : Value), j < 5 → (valK (f.getD k 0))[j]? = some v → ∀ w', Upd (fun _ => False) w7 w' → w'.cell? ⟨g, k * 5 + j, none⟩ = some v := fun j v hj hv w' h => (h.none.cell (p := ⟨g, k * 5 + j, none⟩) hgl).trans ((hzc j hj).trans ((zeroTo_get f f.length k j d1' hj).trans hv))
          have hOk := Lib.hid (fun (w' : World) (h : Upd (fun _ => False) w7 w') => show _ → _ from fun ha => k2 (A := ⟨A, 0, none⟩) (B := ⟨A, 0, none⟩) (va := (.slice a f.length ca)) (vb := (.slice a f.length ca)) (by
            have := kind_Offset _ f (k : Int) w' (ints_upd HhX.out h)
            rw [hqo] at this
            exact this) h ha ha)
          have hFk := Lib.hid (fun (w' : World) (h : Upd (fun _ => False) w7 w') => show _ → _ from fun ha => k2 (A := ⟨A, 0, none⟩) (B := ⟨A, 0, none⟩) (va := (.slice a f.length ca)) (vb := (.slice a f.length ca)) (kind_Fits _ f k w' (ints_upd HhX.out h) d1' hfx) h ha ha)
          have hn : ((1 + sumW (f.take (k + 1)) : Nat) : Int) = q + fw (f.getD k 0) := by rw [hsn, hq]; omega
          have hz0 := hz 0 _ (by decide) rfl
          have hz1 := hz 1 _ (by decide) rfl
          have hz2 := hz 2 _ (by decide) rfl
          have hz3 := hz 3 _ (by decide) rfl
          have hz4 := hz 4 _ (by decide) rfl
          generalize kindK (f.getD k 0) = c at *
          have hcA := fun (w' : World) (h : Upd (fun _ => False) w7 w') => (h.none.cell (p := ⟨A, 0, none⟩) (World.block_lt_of_cell? w7 _ hca7)).trans hca7
          have hall := Lib.hid (fun (w' : World) (h : Upd (fun _ => False) w7 w') => show Upd (fun _ => False) w7 w' ∧ w'.cell? ⟨A, 0, none⟩ = some (.slice a f.length ca) ∧ w'.cell? ⟨g, k * 5, none⟩ = some (.int .i64 c) ∧ w'.cell? ⟨g, k * 5 + 1, none⟩ = some (.int .i64 0) ∧ w'.cell? ⟨g, k * 5 + 2, none⟩ = some (.int .u64 0) ∧ w'.cell? ⟨g, k * 5 + 3, none⟩ = some (.int .u64 0) ∧ w'.cell? ⟨g, k * 5 + 4, none⟩ = some (.int .i64 0) from ⟨h, hcA w' h, hz0 w' h, hz1 w' h, hz2 w' h, hz3 w' h, hz4 w' h⟩)
          have hd := fw_cases _ hfx
          generalize f.getD k 0 = x at *
          clear hz hz0 hz1 hz2 hz3 hz4 hcA hzc hc hkl hqo hsn hfx hq hca7 hw7
          by_cases h2 : x = 2
          · subst h2
            have Hn := Lib.hid (show ((1 + sumW (f.take (k + 1)) : Nat) : Int) = (q : Int) + 2 from by rw [hn]; rfl)
            clear hn hd
            go_wp2
            refine wp_hide (fun Q' hQ' => ?_)
            go_region_held3 (fun w' => Upd (fun _ => False) w7 w' ∧ w'.cell? ⟨A, 0, none⟩ = some (.slice a f.length ca) ∧ w'.cell? ⟨g, k * 5, none⟩ = some (.int .i64 c) ∧ w'.cell? ⟨g, k * 5 + 1, none⟩ = some (.int .i64 0) ∧ w'.cell? ⟨g, k * 5 + 2, none⟩ = some (.int .u64 0) ∧ w'.cell? ⟨g, k * 5 + 3, none⟩ = some (.int .u64 0) ∧ w'.cell? ⟨g, k * 5 + 4, none⟩ = some (.int .i64 0))
              ((refine hall.out _ ?_; first | assumption | exact Upd.drew (by assumption)))
              (((try go_split_ands); first
                | (go_at_call 24; (with_reducible refine (hOk.out _ (by assumption) (by assumption)).mono ?_); rintro e w2 ⟨rfl, hu, hca, -⟩)
                | (go_at_call 37; (with_reducible refine (hFk.out _ (by assumption) (by assumption)).mono ?_); rintro e w2 ⟨rfl, hu, hca, -⟩)))
            rw [hQ'.out]
            go_wp2
            go_roundw
            case rel => exact ⟨k + 1, by omega, by go_num, by congr 1; have := Hn.out; omega, by assumption, by assumption⟩
            case measure => simp [intOf]; omega
          · have e2 : (x == 2) = false := by simp [h2]
            have Hn := Lib.hid (show ((1 + sumW (f.take (k + 1)) : Nat) : Int) = (q : Int) + 1 from by
              rw [hn]
              rcases hd with rfl | rfl | rfl
              · rfl
              · exact absurd rfl h2
              · rfl)
            clear hn hd h2
            go_wp2
            refine wp_hide (fun Q' hQ' => ?_)
            go_region_held3 (fun w' => Upd (fun _ => False) w7 w' ∧ w'.cell? ⟨A, 0, none⟩ = some (.slice a f.length ca) ∧ w'.cell? ⟨g, k * 5, none⟩ = some (.int .i64 c) ∧ w'.cell? ⟨g, k * 5 + 1, none⟩ = some (.int .i64 0) ∧ w'.cell? ⟨g, k * 5 + 2, none⟩ = some (.int .u64 0) ∧ w'.cell? ⟨g, k * 5 + 3, none⟩ = some (.int .u64 0) ∧ w'.cell? ⟨g, k * 5 + 4, none⟩ = some (.int .i64 0))
              ((refine hall.out _ ?_; first | assumption | exact Upd.drew (by assumption)))
              (((try go_split_ands); first
                | (go_at_call 24; (with_reducible refine (hOk.out _ (by assumption) (by assumption)).mono ?_); rintro e w2 ⟨rfl, hu, hca, -⟩)
                | (go_at_call 37; (with_reducible refine (hFk.out _ (by assumption) (by assumption)).mono ?_); rintro e w2 ⟨rfl, hu, hca, -⟩)))
            rw [hQ'.out]
            go_wp2
            go_roundw
            case rel => exact ⟨k + 1, by omega, by go_num, by congr 1; have := Hn.out; omega, by assumption, by assumption⟩
            case measure => simp [intOf]; omega

theorem own : ownKnob Try.prog.godebug = none := by kernel_rfl
theorem laidOut : laidOutB Try.prog = true := by kernel_rfl
set_option maxRecDepth 100000 in
theorem lifted (os : Os) (started : os.Started) (H : Type) (enc : TypeId × Value → H) :
    ReturnsInHanded {} Try.checked os 12 .any (Rows.kindBackSpec.pre6 enc Try.prog Try.f12 Rows.kindBackRow.domain false) (Rows.kindBackSpec.post enc Try.prog Try.f12 false true false false) := by
  refine returnsInHanded_of_change_sized (C := Try.checked) own started (by kernel_rfl) Try.func12
    (ChangeSpec.witness6 (enc := enc) (C := Try.checked) false ⟨#[], #[.slice none 0 0], []⟩ 8 (by kernel_rfl) (by kernel_rfl) (by kernel_rfl) (by kernel_rfl)) ?_
  intro W base args ds gs before hval0 hW _ hsz0 _
  have hsz : (DataW.weightsEach Try.prog (Try.f12.params.toList ++ Rows.kindBackSpec.plain.varTypes Try.prog) (ds ++ gs)).all (· ≤ reachBytes) = true := hsz0
  clear hsz0
  have hval : ∀ (j : Nat) t v, Try.f12.params[j]? = some t → args[j]? = some v → Value.okWide Try.prog W .any base t v := hval0
  have hW' := hW
  obtain ⟨p, q, hA0, hV, rfl, _, _⟩ := hW
  have hA : DataW.TrodAll enc Try.prog W 0 (fun _ => true) true Try.f12.params.toList args.toList ds p := hA0
  rw [Try.params12] at hA hval hsz
  obtain ⟨v0, vs0, d0, ds0, p0, q0, hargs, rfl, rfl, h0, r0⟩ := trodAll_cons hA
  obtain ⟨rfl, rfl, rfl⟩ := trodAll_nil r0
  obtain rfl : args = #[v0] := by cases args; simp_all
  obtain ⟨rfl, rfl⟩ := trodVars_none hV
  clear hA0 hval0
  simp only [List.append_nil] at hW'
  have hlt : ∀ x, (x ∈ p0) → x.block < W.heap.size := fun x hx => by simpa using hW'.lt x (by simpa using hx)
  have k0 : ∀ (W' : World), Below W.heap.size W W' → DataW.Trod enc Try.prog W' 0 (fun b => decide (b < W.heap.size)) true 36 v0 d0 p0 :=
    fun W' hn => Below.trod laidOut (by kernel_rfl) (of_decide_eq_true (by kernel_rfl)) h0 hn (fun x hx => hlt x (hx))
  obtain ⟨x0, hx0⟩ := open_intsAt (bytes := 8) Try.underlying36 Try.underlying3 (by kernel_rfl) (by kernel_rfl) (hval 0 36 v0 rfl rfl) h0 hsz 0 rfl rfl
  refine (walk (W := W) v0 x0 hx0).mono fun e W' ⟨he, hb⟩ => ?_
  subst he
  refine ⟨_, rfl, _, _, _, [], p0 ++ ([]), [], hW', ?_, ?_, rfl, hb.frame _, fun h => by cases h⟩
  · exact trodAll_cons_mk (shut_bool Try.underlying4 true) trodAll_mk0
  · exact trodAll_cons_mk (k0 _ hb) (trodAll_mk0)

theorem over : Rows.kindBackRow.holds Try.pinned (OpenSpec.ofChange Rows.kindBackSpec) :=
  OpenClaim.holds_of_wide 12 Try.f12 rfl rfl rfl rfl rfl rfl rfl ⟨rfl, rfl, rfl, rfl, rfl⟩ rfl rfl rfl rfl rfl (by kernel_rfl) Try.func12 (by kernel_rfl)
    (of_decide_eq_true (by kernel_rfl)) (by unfold Func.isWrapper; first | (rw [if_pos (by decide +kernel)]; kernel_rfl) | (rw [if_neg (by decide +kernel)]; exact ⟨rfl, rfl⟩))
    (fun os started H enc _ => lifted os started H enc)

/-- The given statement. -/
theorem proved : Rows.KindBackSaid := over
#print axioms proved
end Go.Proofs.Ytgnmcldedifjaaa.kindBack
