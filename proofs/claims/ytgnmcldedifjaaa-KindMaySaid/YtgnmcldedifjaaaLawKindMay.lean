/- Any fields: may it be; its words, places, references, as a word: as the reference has them. No condition. -/
import Derived.Test.YtgnmcldedifjaaaRefParse
import Derived.SizedLaws
import Derived.Deep.RegionHeld3
import Derived.Deep.DrawnRows
namespace Go.Proofs.Ytgnmcldedifjaaa.kindMay
open Go.ChangeShapes Go.WideShapes Go.ChangeAt Go.RowKit
set_option linter.unusedVariables false
attribute [local go_sem ↓] Go.wp_at_zero Go.wp_at_succ

set_option maxRecDepth 100000 in
set_option maxHeartbeats 2000000 in
theorem walk {W : World} (u : Value) (f : List Int) (hx : IntsIn W u .i64 f ∧ f.length * 8 ≤ 140737488351232) (v : Value) (g : List Int) (hy : IntsIn W v .i64 g ∧ g.length * 8 ≤ 140737488351232) (i : Int) (w0 : (Lit.int .i64 i).wf = true) :
    Calls Try.prog 11 #[u, v, .int .i64 i] W (LawPost W) := by
  have hX := hx.1.1
  have hY := hy.1.1
  have hX' := Lib.hid hX
  have hY' := Lib.hid hY
  obtain ⟨a, ca, rfl, -⟩ := hX
  obtain ⟨b, cb, rfl, -⟩ := hY
  have hA := Lib.hid (fun (w' : World) (u : Upd (fun _ => False) W w') => awake8 W w' u)
  have hu0 : Upd (fun _ => False) W W := Upd.refl _ _
  clear hx hy w0
  by_cases h40 : 100 < f.length
  · have c1 : (100 : Int) < f.length := by omega
    go_enter Try.func11, Try.ntmps11
    go_wp2_with (go_at_call 21; (first | (with_reducible refine (hA.out _ (by assumption)).mono ?_)); rintro e w2 ⟨rfl, hu⟩)
    go_ret
    exact ⟨rfl, Upd.none (by assumption)⟩
  · have c1 : ¬ (100 : Int) < f.length := by omega
    by_cases h41 : 100 < g.length
    · have c2 : (100 : Int) < g.length := by omega
      go_enter Try.func11, Try.ntmps11
      go_wp2_with (go_at_call 21; (first | (with_reducible refine (hA.out _ (by assumption)).mono ?_)); rintro e w2 ⟨rfl, hu⟩)
      go_ret
      exact ⟨rfl, Upd.none (by assumption)⟩
    · have c2 : ¬ (100 : Int) < g.length := by omega
      have c3 := Lib.hid (two_kinds W (.slice a f.length ca) (.slice b g.length cb) 38)
      go_enter Try.func11, Try.ntmps11
      go_wp2_with fail
      obtain ⟨hw, hca, hcb⟩ := c3.out
      have hX := ints_upd hX'.out hw
      have hY := ints_upd hY'.out hw
      clear c3 hX' hY' hA hu0
      generalize (W.alloc (.cells #[.slice a f.length ca] 38)).alloc (.cells #[.slice b g.length cb] 38) = W1 at *
      generalize W.heap.size = A at *
      generalize hB : A + 1 = B at *
      obtain ⟨va, hva⟩ : ∃ x, x = Value.slice a f.length ca := ⟨_, rfl⟩
      obtain ⟨vb, hvb⟩ : ∃ x, x = Value.slice b g.length cb := ⟨_, rfl⟩
      rw [← hva] at hca hX
      rw [← hvb] at hcb hY
      clear hB
      have Hhva := Lib.hid hva; clear hva
      have Hhvb := Lib.hid hvb; clear hvb
      have hO := Lib.hid (fun (j : Int) (w' : World) (h : Upd (fun _ => False) W1 w') => kind_Offset va f j w' (ints_upd hX h))
      have hP := Lib.hid (fun (j : Int) (w' : World) (h : Upd (fun _ => False) W1 w') => ref_Offset va f j w' (ints_upd hX h))
      have hZ := Lib.hid hX
      have hZ2 := Lib.hid hY
      have hlA := World.block_lt_of_cell? W1 _ hca
      have hlB := World.block_lt_of_cell? W1 _ hcb
      have hcA := Lib.hid (fun (w' : World) (h : Upd (fun _ => False) W1 w') => show w'.cell? ⟨A, 0, none⟩ = some va from (h.none.cell (p := ⟨A, 0, none⟩) hlA).trans hca)
      have hcB := Lib.hid (fun (w' : World) (h : Upd (fun _ => False) W1 w') => show w'.cell? ⟨B, 0, none⟩ = some vb from (h.none.cell (p := ⟨B, 0, none⟩) hlB).trans hcb)
      clear hX hY
      go_loopw [9, 27] (fun o i wr => ∃ (k : Nat) (oa : Option Addr) (oc : Nat), k ≤ f.length ∧ i = .int .i64 k ∧ o = .slice oa (refsTo f k).length oc ∧ wr.ownsRow W1.heap.size 3 1 (.slice oa (refsTo f k).length oc) (refsTo f k).length ((refsTo f k).map (Value.int .i64)) ∧ Upd (fun _ => False) W1 wr ∧ W1.heap.size ≤ wr.heap.size ∧ wr.cell? ⟨A, 0, none⟩ = some va ∧ wr.cell? ⟨B, 0, none⟩ = some vb) (fun _ i _ => (f.length - intOf i).toNat)
      case atStart => exact ⟨0, none, 0, Nat.zero_le _, rfl, rfl, World.ownsRow_nil _ _ _ _, Upd.refl _ _, Nat.le_refl _, hca, hcb⟩
      case round =>
        obtain ⟨k, oa, oc, hk, rfl, rfl, ho, hu, hz, hca2, hcb2⟩ := hrel
        clear hca hcb
        by_cases hkl : k = f.length
        · have d1 : ¬ ((k : Int) < f.length) := by omega
          subst hkl
          have hI0 : IntsR wr (.slice oa (refsTo f f.length).length oc) .i64 (refsK f) := ownsRow_intsR ho
          generalize Value.slice oa (refsTo f f.length).length oc = rs at *
          have hZr := ints_upd hZ.out hu
          have hYr := ints_upd hZ2.out hu
          have h1 := Lib.hid (fun (w' : World) (h : Upd (fun _ => False) wr w') => show _ → _ → _ from fun ha hb => k2 (A := ⟨A, 0, none⟩) (B := ⟨B, 0, none⟩) (va := va) (vb := vb) (kind_May va f w' (ints_upd hZr h)) h ha hb)
          have h2 := Lib.hid (fun (w' : World) (h : Upd (fun _ => False) wr w') => show _ → _ → _ from fun ha hb => k2 (A := ⟨A, 0, none⟩) (B := ⟨B, 0, none⟩) (va := va) (vb := vb) (ref_MayKind va f w' (ints_upd hZr h)) h ha hb)
          have h3 := Lib.hid (fun (w' : World) (h : Upd (fun _ => False) wr w') => show _ → _ → _ from fun ha hb => k2 (A := ⟨A, 0, none⟩) (B := ⟨B, 0, none⟩) (va := va) (vb := vb) (kind_Words va f w' (ints_upd hZr h)) h ha hb)
          have h4 := Lib.hid (fun (w' : World) (h : Upd (fun _ => False) wr w') => show _ → _ → _ from fun ha hb => k2 (A := ⟨A, 0, none⟩) (B := ⟨B, 0, none⟩) (va := va) (vb := vb) (ref_KindWords va f w' (ints_upd hZr h)) h ha hb)
          have h5 := Lib.hid (fun (w' : World) (h : Upd (fun _ => False) wr w') => show _ → _ → _ from fun ha hb => k2 (A := ⟨A, 0, none⟩) (B := ⟨B, 0, none⟩) (va := va) (vb := vb) (kind_Offset va f i w' (ints_upd hZr h)) h ha hb)
          have h6 := Lib.hid (fun (w' : World) (h : Upd (fun _ => False) wr w') => show _ → _ → _ from fun ha hb => k2 (A := ⟨A, 0, none⟩) (B := ⟨B, 0, none⟩) (va := va) (vb := vb) (ref_Offset va f i w' (ints_upd hZr h)) h ha hb)
          have h7 := Lib.hid (fun (w' : World) (h : Upd (fun _ => False) wr w') => show _ → _ → _ from fun ha hb => k2 (A := ⟨A, 0, none⟩) (B := ⟨B, 0, none⟩) (va := va) (vb := vb) (kind_Word va f w' (ints_upd hZr h)) h ha hb)
          have h8 := Lib.hid (fun (w' : World) (h : Upd (fun _ => False) wr w') => show _ → _ → _ from fun ha hb => k2 (A := ⟨A, 0, none⟩) (B := ⟨B, 0, none⟩) (va := va) (vb := vb) (ref_KindWord va f w' (ints_upd hZr h)) h ha hb)
          have h9 := Lib.hid (fun (w' : World) (h : Upd (fun _ => False) wr w') => show _ → _ → _ from fun ha hb => k2 (A := ⟨A, 0, none⟩) (B := ⟨B, 0, none⟩) (va := va) (vb := vb) (kind_Same va vb f g w' (ints_upd hZr h) (ints_upd hYr h)) h ha hb)
          have h10 := Lib.hid (fun (w' : World) (h : Upd (fun _ => False) wr w') => show _ → _ → _ from fun ha hb => k2 (A := ⟨A, 0, none⟩) (B := ⟨B, 0, none⟩) (va := va) (vb := vb) (ref_SameKind va vb f g w' (ints_upd hZr h) (ints_upd hYr h)) h ha hb)
          have h11 := Lib.hid (fun (w' : World) (h : Upd (fun _ => False) wr w') => show _ → _ → _ from fun ha hb => k2 (A := ⟨A, 0, none⟩) (B := ⟨B, 0, none⟩) (va := va) (vb := vb) (kind_Same va va f f w' (ints_upd hZr h) (ints_upd hZr h)) h ha hb)
          have h12 := Lib.hid (fun (w' : World) (h : Upd (fun _ => False) wr w') => show _ → _ → _ from fun ha hb => k2 (A := ⟨A, 0, none⟩) (B := ⟨B, 0, none⟩) (va := va) (vb := vb) (awake8 w' w' (Upd.refl _ _)) h ha hb)
          rw [show decide (f = f) = true from by simp] at h11
          have h13 := Lib.hid (fun (w' : World) (h : Upd (fun _ => False) wr w') => show _ → _ → Calls Try.prog 26 #[.agg #[va]] w' (fun e w2 => ∃ v, e = .returned v ∧ IntsR w2 v .i64 (refsK f) ∧ Upd (fun _ => False) wr w2 ∧ w2.cell? ⟨A, 0, none⟩ = some va ∧ w2.cell? ⟨B, 0, none⟩ = some vb) from
            fun ha hb => (kind_Refs va f w' (ints_upd hZr h) (by omega)).mono fun e w2 ⟨v, he, ho, u⟩ => ⟨v, he, ownsRow_intsR ho, h.trans u, (u.none.cell (World.block_lt_of_cell? w' _ ha)).trans ha, (u.none.cell (World.block_lt_of_cell? w' _ hb)).trans hb⟩)
          have h14 := Lib.hid (fun (w' : World) (v : Value) (hv : IntsR w' v .i64 (refsK f)) (h : Upd (fun _ => False) wr w') => show _ → _ → Calls Try.prog 34 #[v, rs] w' (K2 wr ⟨A, 0, none⟩ va ⟨B, 0, none⟩ vb (.bool true)) from
            fun ha hb => k2 (by
              have := ref_SameInts v rs (refsK f) (refsK f) w' hv (ints_upd hI0 h)
              rw [show decide (refsK f = refsK f) = true from by simp] at this
              exact this) h ha hb)
          generalize refsK f = rf at *
          generalize MayK f = m at *
          generalize (kW f : Int) = q at *
          generalize offK f i = o at *
          generalize (wordK f : Int) = x at *
          generalize decide (f = g) = s at *
          have r4 := Upd.refl (fun _ => False) wr
          have HhI0 := Lib.hid hI0; clear hI0
          have Hho := Lib.hid ho; clear ho
          have Hhu := Lib.hid hu; clear hu
          clear hZr hYr
          go_wp2
          refine wp_hide (fun Q' hQ' => ?_)
          go_region_held3 (fun w' => Upd (fun _ => False) wr w' ∧ w'.cell? ⟨A, 0, none⟩ = some va ∧ w'.cell? ⟨B, 0, none⟩ = some vb)
            (((try go_split_ands); exact ⟨by first | assumption | exact Upd.drew (by assumption), by assumption, by assumption⟩))
            (((try go_split_ands); first
            | (go_at_call 22; (with_reducible refine (h1.out _ (by assumption) (by assumption) (by assumption)).mono ?_); rintro e w2 ⟨rfl, hu, hca, hcb⟩)
            | (go_at_call 32; (with_reducible refine (h2.out _ (by assumption) (by assumption) (by assumption)).mono ?_); rintro e w2 ⟨rfl, hu, hca, hcb⟩)
            | (go_at_call 23; (with_reducible refine (h3.out _ (by assumption) (by assumption) (by assumption)).mono ?_); rintro e w2 ⟨rfl, hu, hca, hcb⟩)
            | (go_at_call 33; (with_reducible refine (h4.out _ (by assumption) (by assumption) (by assumption)).mono ?_); rintro e w2 ⟨rfl, hu, hca, hcb⟩)
            | (go_at_call 24; (with_reducible refine (h5.out _ (by assumption) (by assumption) (by assumption)).mono ?_); rintro e w2 ⟨rfl, hu, hca, hcb⟩)
            | (go_at_call 31; (with_reducible refine (h6.out _ (by assumption) (by assumption) (by assumption)).mono ?_); rintro e w2 ⟨rfl, hu, hca, hcb⟩)
            | (go_at_call 25; (with_reducible refine (h7.out _ (by assumption) (by assumption) (by assumption)).mono ?_); rintro e w2 ⟨rfl, hu, hca, hcb⟩)
            | (go_at_call 35; (with_reducible refine (h8.out _ (by assumption) (by assumption) (by assumption)).mono ?_); rintro e w2 ⟨rfl, hu, hca, hcb⟩)
            | (go_at_call 27; (with_reducible refine (h9.out _ (by assumption) (by assumption) (by assumption)).mono ?_); rintro e w2 ⟨rfl, hu, hca, hcb⟩)
            | (go_at_call 30; (with_reducible refine (h10.out _ (by assumption) (by assumption) (by assumption)).mono ?_); rintro e w2 ⟨rfl, hu, hca, hcb⟩)
            | (go_at_call 27; (with_reducible refine (h11.out _ (by assumption) (by assumption) (by assumption)).mono ?_); rintro e w2 ⟨rfl, hu, hca, hcb⟩)
            | (go_at_call 21; (with_reducible refine (h12.out _ (by assumption) (by assumption) (by assumption)).mono ?_); rintro e w2 ⟨rfl, hu, hca, hcb⟩)
            | (go_at_call 26; (with_reducible refine (h13.out _ (by assumption) (by assumption) (by assumption)).mono ?_); rintro e w2 ⟨v, rfl, hv, hu, hca, hcb⟩)
            | (go_at_call 34; (with_reducible refine (h14.out _ _ (by assumption) (by assumption) (by assumption) (by assumption)).mono ?_); rintro e w2 ⟨rfl, hu, hca, hcb⟩)))
          rw [hQ'.out]
          go_wp2
          go_ret
          exact ⟨rfl, Upd.none (hw.trans (Hhu.out.trans (by assumption)))⟩
        · have d1 : (k : Int) < f.length := by omega
          have d1' : k < f.length := by omega
          have hX0 := hZ.out
          rw [Hhva.out] at hX0
          obtain ⟨b0, off, hix, hb0, hc⟩ := hX0.index (P := Try.prog) Try.underlying36 (by kernel_rfl) (by kernel_rfl) d1'
          simp only [Nat.mul_one] at hix hc
          have hc0 : wr.cell? ⟨b0, off + k, none⟩ = some (.int .i64 (f.getD k 0)) := (hu.none.cell (p := ⟨b0, off + k, none⟩) hb0).trans (hc 0 (by decide))
          have hrl := refsTo_len f k
          have hrl2 : (refsTo f k).length ≤ 1099511627776 := by omega
          have hst : refsTo f (k + 1) = refsTo f k ++ (if f.getD k 0 = 3 then [(k : Int)] else []) := rfl
          have hOk := Lib.hid (hO.out (k : Int))
          have hPk := Lib.hid (hP.out (k : Int))
          generalize offK f (k : Int) = y at *
          generalize f.getD k 0 = x at *
          clear hX0 hkl hc
          by_cases hx : x = 3
          · subst hx
            rw [if_pos rfl] at hst
            have Hho := Lib.hid ho; clear ho
            have Hhst := Lib.hid hst; clear hst
            have Hhu := Lib.hid hu; clear hu
            go_wp2_with (at_builtin; refine wpList_push rfl _ _ 36 3 rfl (.int .i64 0) 8 Try.underlying36 infoInt rfl W1.heap.size _ _ _ rfl (Hho.out.alloc _) wr.heap.size 1 (.int .i64 k) rfl (World.cell?_alloc_new _ #[.int .i64 k] _ 0) rfl hrl2 (by decide) hz ?_; intro oa' oc' w4 ho4 hg4)
            have u4 : Upd (fun _ => False) W1 w4 := (Hhu.out.alloc (.cells #[.int .i64 k] 3)).grown hg4 (fun j e hj => absurd ((Hho.out.lt j e).1) (by omega))
            have hca4 := hcA.out w4 u4
            have hcb4 := hcB.out w4 u4
            have hO4 := Lib.hid (fun (w' : World) (h : Upd (fun _ => False) w4 w') => show _ → _ → _ from fun ha hb => k2 (A := ⟨A, 0, none⟩) (B := ⟨B, 0, none⟩) (va := va) (vb := vb) (hOk.out w' (u4.trans h)) h ha hb)
            have hP4 := Lib.hid (fun (w' : World) (h : Upd (fun _ => False) w4 w') => show _ → _ → _ from fun ha hb => k2 (A := ⟨A, 0, none⟩) (B := ⟨B, 0, none⟩) (va := va) (vb := vb) (hPk.out w' (u4.trans h)) h ha hb)
            have r4 := Upd.refl (fun _ => False) w4
            have U4 := Lib.hid u4
            clear u4
            refine wp_hide (fun Q' hQ' => ?_)
            go_region_held3 (fun w' => Upd (fun _ => False) w4 w' ∧ w'.cell? ⟨A, 0, none⟩ = some va ∧ w'.cell? ⟨B, 0, none⟩ = some vb)
              (((try go_split_ands); exact ⟨by first | assumption | exact Upd.drew (by assumption), by assumption, by assumption⟩))
              (((try go_split_ands); first
              | (go_at_call 24; refine (hO4.out _ (by assumption) (by assumption) (by assumption)).mono ?_; rintro e w2 ⟨rfl, hu, hca, hcb⟩)
              | (go_at_call 31; refine (hP4.out _ (by assumption) (by assumption) (by assumption)).mono ?_; rintro e w2 ⟨rfl, hu, hca, hcb⟩)))
            rw [hQ'.out]
            go_wp2
            go_roundw
            case rel =>
              have hu6 : Upd (fun _ => False) w4 w2 := by assumption
              refine ⟨k + 1, oa', oc', by omega, by go_num, by rw [Hhst.out, List.length_append]; rfl, ?_, U4.out.trans hu6, (U4.out.trans hu6).size, by assumption, by assumption⟩
              rw [Hhst.out, List.length_append, List.map_append]
              exact ownsRow_upd ho4 hu6 (fun _ _ h => h)
            case measure => simp [intOf]; omega
          · have e3 : (x == 3) = false := by simp [hx]
            rw [if_neg hx, List.append_nil] at hst
            have Hho := Lib.hid ho; clear ho
            have Hhst := Lib.hid hst; clear hst
            have Hhu := Lib.hid hu; clear hu
            clear hx
            have hO4 := Lib.hid (fun (w' : World) (h : Upd (fun _ => False) wr w') => show _ → _ → _ from fun ha hb => k2 (A := ⟨A, 0, none⟩) (B := ⟨B, 0, none⟩) (va := va) (vb := vb) (hOk.out w' (Hhu.out.trans h)) h ha hb)
            have hP4 := Lib.hid (fun (w' : World) (h : Upd (fun _ => False) wr w') => show _ → _ → _ from fun ha hb => k2 (A := ⟨A, 0, none⟩) (B := ⟨B, 0, none⟩) (va := va) (vb := vb) (hPk.out w' (Hhu.out.trans h)) h ha hb)
            have r4 := Upd.refl (fun _ => False) wr
            go_wp2
            refine wp_hide (fun Q' hQ' => ?_)
            go_region_held3 (fun w' => Upd (fun _ => False) wr w' ∧ w'.cell? ⟨A, 0, none⟩ = some va ∧ w'.cell? ⟨B, 0, none⟩ = some vb)
              (((try go_split_ands); exact ⟨by first | assumption | exact Upd.drew (by assumption), by assumption, by assumption⟩))
              (((try go_split_ands); first
              | (go_at_call 24; refine (hO4.out _ (by assumption) (by assumption) (by assumption)).mono ?_; rintro e w2 ⟨rfl, hu, hca, hcb⟩)
              | (go_at_call 31; refine (hP4.out _ (by assumption) (by assumption) (by assumption)).mono ?_; rintro e w2 ⟨rfl, hu, hca, hcb⟩)))
            rw [hQ'.out]
            go_wp2
            go_roundw
            case rel =>
              have hu6 : Upd (fun _ => False) wr w2 := by assumption
              refine ⟨k + 1, oa, oc, by omega, by go_num, by rw [Hhst.out], ?_, Hhu.out.trans hu6, (Hhu.out.trans hu6).size, by assumption, by assumption⟩
              rw [Hhst.out]
              exact ownsRow_upd Hho.out hu6 (fun _ _ h => h)
            case measure => simp [intOf]; omega

theorem own : ownKnob Try.prog.godebug = none := by kernel_rfl
theorem laidOut : laidOutB Try.prog = true := by kernel_rfl
set_option maxRecDepth 100000 in
theorem lifted (os : Os) (started : os.Started) (H : Type) (enc : TypeId × Value → H) :
    ReturnsInHanded {} Try.checked os 11 .any (Rows.kindMaySpec.pre6 enc Try.prog Try.f11 Rows.kindMayRow.domain false) (Rows.kindMaySpec.post enc Try.prog Try.f11 false true false false) := by
  refine returnsInHanded_of_change_sized (C := Try.checked) own started (by kernel_rfl) Try.func11
    (ChangeSpec.witness6 (enc := enc) (C := Try.checked) false ⟨#[], #[.slice none 0 0, .slice none 0 0, .int .i64 0], []⟩ 8 (by kernel_rfl) (by kernel_rfl) (by kernel_rfl) (by kernel_rfl)) ?_
  intro W base args ds gs before hval0 hW _ hsz0 _
  have hsz : (DataW.weightsEach Try.prog (Try.f11.params.toList ++ Rows.kindMaySpec.plain.varTypes Try.prog) (ds ++ gs)).all (· ≤ reachBytes) = true := hsz0
  clear hsz0
  have hval : ∀ (j : Nat) t v, Try.f11.params[j]? = some t → args[j]? = some v → Value.okWide Try.prog W .any base t v := hval0
  have hW' := hW
  obtain ⟨p, q, hA0, hV, rfl, _, _⟩ := hW
  have hA : DataW.TrodAll enc Try.prog W 0 (fun _ => true) true Try.f11.params.toList args.toList ds p := hA0
  rw [Try.params11] at hA hval hsz
  obtain ⟨v0, vs0, d0, ds0, p0, q0, hargs, rfl, rfl, h0, r0⟩ := trodAll_cons hA
  obtain ⟨v1, vs1, d1, ds1, p1, q1, rfl, rfl, rfl, h1, r1⟩ := trodAll_cons r0
  obtain ⟨v2, vs2, d2, ds2, p2, q2, rfl, rfl, rfl, h2, r2⟩ := trodAll_cons r1
  obtain ⟨rfl, rfl, rfl⟩ := trodAll_nil r2
  obtain rfl : args = #[v0, v1, v2] := by cases args; simp_all
  obtain ⟨rfl, rfl⟩ := trodVars_none hV
  clear hA0 hval0
  simp only [List.append_nil] at hW'
  have hlt : ∀ x, (x ∈ p0 ∨ x ∈ p1 ∨ x ∈ p2) → x.block < W.heap.size := fun x hx => by simpa using hW'.lt x (by simpa using hx)
  have k0 : ∀ (W' : World), Below W.heap.size W W' → DataW.Trod enc Try.prog W' 0 (fun b => decide (b < W.heap.size)) true 36 v0 d0 p0 :=
    fun W' hn => Below.trod laidOut (by kernel_rfl) (of_decide_eq_true (by kernel_rfl)) h0 hn (fun x hx => hlt x (Or.inl hx))
  have k1 : ∀ (W' : World), Below W.heap.size W W' → DataW.Trod enc Try.prog W' 0 (fun b => decide (b < W.heap.size)) true 36 v1 d1 p1 :=
    fun W' hn => Below.trod laidOut (by kernel_rfl) (of_decide_eq_true (by kernel_rfl)) h1 hn (fun x hx => hlt x (Or.inr (Or.inl hx)))
  have k2 : ∀ (W' : World), Below W.heap.size W W' → DataW.Trod enc Try.prog W' 0 (fun b => decide (b < W.heap.size)) true 3 v2 d2 p2 :=
    fun W' hn => Below.trod laidOut (by kernel_rfl) (of_decide_eq_true (by kernel_rfl)) h2 hn (fun x hx => hlt x (Or.inr (Or.inr (hx))))
  obtain ⟨x0, hx0⟩ := open_intsAt (bytes := 8) Try.underlying36 Try.underlying3 (by kernel_rfl) (by kernel_rfl) (hval 0 36 v0 rfl rfl) h0 hsz 0 rfl rfl
  obtain ⟨x1, hx1⟩ := open_intsAt (bytes := 8) Try.underlying36 Try.underlying3 (by kernel_rfl) (by kernel_rfl) (hval 1 36 v1 rfl rfl) h1 hsz 1 rfl rfl
  obtain ⟨a2, rfl, _, _, w2⟩ := open_int Try.underlying3 (hval 2 3 v2 rfl rfl) h2
  refine (walk (W := W) v0 x0 hx0 v1 x1 hx1 a2 w2).mono fun e W' ⟨he, hb⟩ => ?_
  subst he
  refine ⟨_, rfl, _, _, _, [], p0 ++ (p1 ++ (p2 ++ ([]))), [], hW', ?_, ?_, rfl, hb.frame _, fun h => by cases h⟩
  · exact trodAll_cons_mk (shut_bool Try.underlying4 true) trodAll_mk0
  · exact trodAll_cons_mk (k0 _ hb) (trodAll_cons_mk (k1 _ hb) (trodAll_cons_mk (k2 _ hb) (trodAll_mk0)))

theorem over : Rows.kindMayRow.holds Try.pinned (OpenSpec.ofChange Rows.kindMaySpec) :=
  OpenClaim.holds_of_wide 11 Try.f11 rfl rfl rfl rfl rfl rfl rfl ⟨rfl, rfl, rfl, rfl, rfl⟩ rfl rfl rfl rfl rfl (by kernel_rfl) Try.func11 (by kernel_rfl)
    (of_decide_eq_true (by kernel_rfl)) (by unfold Func.isWrapper; first | (rw [if_pos (by decide +kernel)]; kernel_rfl) | (rw [if_neg (by decide +kernel)]; exact ⟨rfl, rfl⟩))
    (fun os started H enc _ => lifted os started H enc)

/-- The given statement. -/
theorem proved : Rows.KindMaySaid := over
#print axioms proved
end Go.Proofs.Ytgnmcldedifjaaa.kindMay
