/- In the end what is marked is shut: all that a marked one refers to is marked, but what a black one does. No condition. -/
import Derived.Test.YthcimfblmpapeaaMarkCom
import Derived.SizedLaws
import Derived.Deep.DrawnRows
import Derived.Deep.DeepCutAuto
import Derived.Deep.CutBlock
namespace Go.Proofs.Ythcimfblmpapeaa.markShuts
open Go.ChangeShapes Go.WideShapes Go.ChangeAt Go.RowKit
set_option linter.unusedVariables false
attribute [local go_sem] ite_min ite_max

/-- The marker and the row of the dark ones. -/
def St (W : World) (B k : Nat) (x : Mk) (D : Nat → Bool) (gd cd : Nat) (wr : World) : Prop :=
  IsMk wr B x ∧ Ok x ∧ x.n = k ∧ BoolsAt (B + 6) wr gd cd k D ∧ Upd (fun _ => False) W wr ∧ B + 6 ≤ wr.heap.size
theorem St.of {W wr w2 : World} {B k gd cd : Nat} {x y : Mk} {D : Nat → Bool} (hW : W.heap.size ≤ B) (h : St W B k x D gd cd wr) (hI : IsMk w2 B y) (hO : Ok y) (hn : y.n = x.n) (u : Upd (InMk B) wr w2) : St W B k y D gd cd w2 := by
  obtain ⟨h1, h2, h3, h4, h5, h6⟩ := h
  exact ⟨hI, hO, hn.trans h3, h4.upd u (fun e => by have := e.2; have := h4.lt.1; omega), h5.own u (fun i e => by have := e.1; omega), Nat.le_trans h6 u.size⟩
theorem St.still {W wr w2 : World} {B k gd cd : Nat} {x : Mk} {D : Nat → Bool} (h : St W B k x D gd cd wr) (u : Upd (fun _ => False) wr w2) : St W B k x D gd cd w2 := by
  obtain ⟨h1, h2, h3, h4, h5, h6⟩ := h
  exact ⟨h1.still u, h2, h3, h4.upd u (fun x => x), h5.trans u, Nat.le_trans h6 u.size⟩
theorem St.set {W w2 : World} {B k gd cd : Nat} {y : Mk} {D : Nat → Bool} (hW : W.heap.size ≤ B) (h : St W B k y D gd cd w2) (j : Nat) : St W B k y (setF D j true) gd cd (w2.setCell ⟨gd, j, none⟩ (.bool true)) := by
  obtain ⟨h1, h2, h3, h4, h5, h6⟩ := h
  have u : Upd (fun i => i = gd) w2 (w2.setCell ⟨gd, j, none⟩ (.bool true)) := (Upd.refl _ _).at _ _
  have hg := h4.lt.1
  exact ⟨h1.upd u (fun i hi e => by have := hi.2; omega), h2, h3, h4.set j true, h5.own u (fun i e => by omega), by simp; omega⟩
theorem black_on (x : Mk) (b : Int) (h : offB x.n x.m b = true) : (x.black b).s = setF x.s b true := by
  unfold Mk.black
  rw [if_pos h]
theorem black_off (x : Mk) (b : Int) (h : offB x.n x.m b = false) : x.black b = x := by
  unfold Mk.black
  rw [if_neg (by rw [h]; simp)]

set_option maxRecDepth 100000 in
set_option maxHeartbeats 2000000 in
theorem walk {W : World} (n : Int) (w0 : (Lit.int .i64 n).wf = true) (room : Int) (w1 : (Lit.int .i64 room).wf = true) (tv : Value) (tt : List (List Int)) (ht : MatIn W tv tt ∧ tt.length * 24 ≤ 140737488351232)
    (fv : Value) (fr : List Int) (hf : IntsIn W fv .i64 fr ∧ fr.length * 8 ≤ 140737488351232) (bv : Value) (bl : List Int) (hb : IntsIn W bv .i64 bl ∧ bl.length * 8 ≤ 140737488351232) :
    Calls Try.prog 11 #[.int .i64 n, .int .i64 room, tv, fv, bv] W (LawPost W) := by
  obtain ⟨hM, hMl⟩ := ht
  obtain ⟨hF, hFl⟩ := hf
  obtain ⟨hB, hBl⟩ := hb
  have hlight := law_light tv tt W hM hMl
  obtain ⟨ta, tc, htv⟩ := mat_shape hM
  obtain ⟨fa, fc, hfv⟩ := ints_shape hF
  obtain ⟨ba, bc, hbv⟩ := ints_shape hB
  subst htv hfv hbv
  have hfI : (fr.length : Int) ≤ 17592186044416 := by omega
  have hbI : (bl.length : Int) ≤ 17592186044416 := by omega
  clear w0 w1 hMl hFl hBl
  by_cases hgo : lightM tt = true ∧ fr.length ≤ 40 ∧ bl.length ≤ 40
  · obtain ⟨hlt, hf40, hb40⟩ := hgo
    rw [hlt] at hlight
    have hlb := light_bounds hlt
    have f40 : (fr.length : Int) ≤ 40 := by omega
    have b40 : (bl.length : Int) ≤ 40 := by omega
    obtain ⟨kI, hkI⟩ : ∃ kI, kI = max 0 (min n 60) := ⟨_, rfl⟩
    obtain ⟨k, hk⟩ : ∃ k : Nat, (k : Int) = kI := ⟨kI.toNat, by omega⟩
    have hnew := mark_New kI room W
    unfold NewPost at hnew
    rw [show (max 0 (min kI 1048576)).toNat = k from by omega] at hnew
    have hk60 : (k : Int) ≤ 60 := by omega
    have hmk := run_make_row' (P := Try.prog) 36 4 (.bool false) 1 Try.underlying36 infoBool rfl .i64 .i64 k (by omega) (by omega)
    have Hhlight := Lib.hid hlight; clear hlight
    have HhM := Lib.hid hM; clear hM
    have HhF := Lib.hid hF; clear hF
    have HhB := Lib.hid hB; clear hB
    have Hhlb := Lib.hid hlb; clear hlb
    have Hhnew := Lib.hid hnew; clear hnew
    clear hlt hf40 hb40
    go_enter Try.func11, Try.ntmps11
    go_wp2_with fail
    refine Hhlight.out.mono ?_
    rintro e w' ⟨rfl, rfl⟩
    go_wp2_with fail
    rw [← hkI]
    refine Hhnew.out.mono ?_
    rintro e w1 ⟨rfl, hI, hu1, hz1⟩
    rw [← hk]
    obtain ⟨B, hBe⟩ : ∃ B, B = W.heap.size := ⟨_, rfl⟩
    rw [← hBe] at hI hz1 ⊢
    have hBW : W.heap.size ≤ B := by omega
    have hmb := made_bools w1 k (by omega)
    rw [hz1] at hmb
    have ua : Upd (fun _ => False) w1 (w1.alloc (.cells (madeCells #[.bool false] k) 4)) := (Upd.refl _ _).alloc _
    have hst0 : St W B k ⟨k, fun _ => false, fun _ => false, [], roomOf room, false⟩ (fun _ => false) (B + 6) k (w1.alloc (.cells (madeCells #[.bool false] k) 4)) :=
      ⟨hI.still ua, ok_new k _ (roomOf_pos room), rfl, hmb, hu1.trans ua, by simp; omega⟩
    clear hkI hk hI hu1 Hhlight Hhnew hmb ua
    have hz1 : w1.heap.size = B + 6 := hz1
    have Hhst0 := Lib.hid hst0; clear hst0
    have HhBW := Lib.hid hBW; clear hBW
    have HhBe := Lib.hid hBe; clear hBe
    go_upto_block 0 with fail
    clear hmk
    go_cut [45] (fun i wx => ∃ (x : Mk) (D : Nat → Bool), St W B k x D (B + 6) k wx ∧ ∀ i, i < k → x.s i = true → D i = true)
    case first =>
      go_wp2_with fail
      have Hhz1 := Lib.hid hz1; clear hz1
      go_loopw [45] (fun i wr => ∃ (j : Nat) (x : Mk) (D : Nat → Bool), i = .int .i64 j ∧ j ≤ bl.length ∧ St W B k x D (B + 6) k wr ∧ ∀ i, i < k → x.s i = true → D i = true) (fun i _ => (bl.length - intOf i).toNat)
      case atStart => exact ⟨0, _, _, rfl, Nat.zero_le _, Hhst0.out, fun i _ h => by cases h⟩
      case round =>
        obtain ⟨j, x, D, rfl, hj, hst, hinv⟩ := hrel
        clear Hhst0
        by_cases hjl : j = bl.length
        · have e1 : ¬ ((j : Int) < bl.length) := by omega
          have Hhst := Lib.hid hst; clear hst
          have Hhinv := Lib.hid hinv; clear hinv
          clear hjl
          go_wp2_with fail
          go_meet
          exact ⟨x, D, Hhst.out, Hhinv.out⟩
        · have e1 : (j : Int) < bl.length := by omega
          obtain ⟨b0, off, hix, hcb⟩ := int_at HhB.out (j := j) (by omega)
          have hcell := hcb wr hst.2.2.2.2.1.none
          generalize bl.getD j 0 = b at *
          have hop := mark_Black B b x wr hst.1
          unfold MkPost at hop
          have hO := ok_black hst.2.1 b
          have hyn := black_same x b
          cases hoff : offB x.n x.m b
          · rw [hoff, black_off x b hoff] at hop
            have Hhop := Lib.hid hop; clear hop
            have Hhst := Lib.hid hst; clear hst
            have Hhinv := Lib.hid hinv; clear hinv
            have HhO := Lib.hid hO; clear hO
            have Hhyn := Lib.hid hyn; clear hyn
            have Hhoff := Lib.hid hoff; clear hoff
            clear hjl hcb
            go_wp2_with (go_at_call 34; (with_reducible refine Hhop.out.mono ?_); rintro e w2 ⟨rfl, hI2, hu2, hz2⟩; have Hs2 := Lib.hid (St.of HhBW.out Hhst.out hI2 Hhst.out.2.1 rfl hu2); clear hI2 hu2 hz2)
            go_roundw
            case rel => exact ⟨j + 1, x, D, by go_num, by omega, Hs2.out, Hhinv.out⟩
            case measure => simp [intOf]; omega
          · obtain ⟨b1, b2, -⟩ := (offB_iff _ _ _).1 hoff
            rw [hst.2.2.1] at b2
            obtain ⟨q, rfl⟩ : ∃ q : Nat, b = q := ⟨b.toNat, by omega⟩
            have hs' := black_on x (q : Int) hoff
            have hinv2 : ∀ i, i < k → (x.black (q : Int)).s i = true → setF D q true i = true := fun i hi hsi => by
              rw [hs', setF_at] at hsi
              rw [setF_at]
              split
              · rfl
              · rename_i hne
                rw [if_neg hne] at hsi
                exact hinv i hi hsi
            rw [hoff] at hop
            generalize x.black (q : Int) = y at *
            have hqk : q < k := by omega
            have Hhop := Lib.hid hop; clear hop
            have Hhst := Lib.hid hst; clear hst
            have Hhinv2 := Lib.hid hinv2; clear hinv2
            have HhO := Lib.hid hO; clear hO
            have Hhyn := Lib.hid hyn; clear hyn
            have Hhoff := Lib.hid hoff; clear hoff
            have Hhs' := Lib.hid hs'; clear hs'
            have Hhqk := Lib.hid hqk; clear hqk
            clear hjl hcb hinv
            go_wp2_with (go_at_call 34; (with_reducible refine Hhop.out.mono ?_); rintro e w2 ⟨rfl, hI2, hu2, hz2⟩; have Hs2 := Lib.hid (St.of HhBW.out Hhst.out hI2 HhO.out Hhyn.out hu2); have hfr := World.ownsRow.frozenAt Hs2.out.2.2.2.1 q; obtain ⟨yv, hcl⟩ : ∃ yv, w2.cell? ⟨B + 6, q, none⟩ = some yv := ⟨_, Hs2.out.2.2.2.1.cell q Hhqk.out⟩; clear hI2 hu2 hz2)
            go_roundw
            case rel => exact ⟨j + 1, y, setF D q true, by go_num, by omega, St.set HhBW.out Hs2.out q, Hhinv2.out⟩
            case measure => simp [intOf]; omega
    case rest =>
      obtain ⟨x1, D, hst, hinv⟩ := hcut
      have hcl : Closed x1 D (refsOf tt) := fun i hi hs hd => by
        rw [hinv i (by rw [← hst.2.2.1]; exact hi) hs] at hd
        cases hd
      clear Hhst0 hinv HhB
      have Hhst := Lib.hid hst; clear hst
      have Hhcl := Lib.hid hcl; clear hcl
      have Hhz1 := Lib.hid hz1; clear hz1
      go_upto_block 2 with fail
      go_cut [58] (fun i wx => ∃ x : Mk, St W B k x D (B + 6) k wx ∧ Closed x D (refsOf tt))
      case first =>
        go_wp2_with fail
        go_loopw [58] (fun i wr => ∃ (j : Nat) (x : Mk), i = .int .i64 j ∧ j ≤ fr.length ∧ St W B k x D (B + 6) k wr ∧ Closed x D (refsOf tt)) (fun i _ => (fr.length - intOf i).toNat)
        case atStart => exact ⟨0, _, rfl, Nat.zero_le _, Hhst.out, Hhcl.out⟩
        case round =>
          obtain ⟨j, x, rfl, hj, hs, hc⟩ := hrel
          clear Hhst Hhcl
          by_cases hjl : j = fr.length
          · have e1 : ¬ ((j : Int) < fr.length) := by omega
            have Hhs := Lib.hid hs; clear hs
            have Hhc := Lib.hid hc; clear hc
            clear hjl
            go_wp2_with fail
            go_meet
            exact ⟨x, Hhs.out, Hhc.out⟩
          · have e1 : (j : Int) < fr.length := by omega
            obtain ⟨b0, off, hix, hcb⟩ := int_at HhF.out (j := j) (by omega)
            have hcell := hcb wr hs.2.2.2.2.1.none
            generalize fr.getD j 0 = b at *
            have hop := mark_Shade B b x wr hs.1
            unfold MkPost at hop
            have hO := ok_shade hs.2.1 b
            have hyn := (shade_same x b).1
            have hcy := closed_shade hc b
            generalize offB x.n x.m b = ofb at *
            generalize x.shade b = y at *
            have Hhop := Lib.hid hop; clear hop
            have Hhs := Lib.hid hs; clear hs
            have HhO := Lib.hid hO; clear hO
            have Hhyn := Lib.hid hyn; clear hyn
            have Hhcy := Lib.hid hcy; clear hcy
            clear hjl hcb hc
            go_wp2_with (go_at_call 36; (with_reducible refine Hhop.out.mono ?_); rintro e w2 ⟨rfl, hI2, hu2, hz2⟩; have Hs2 := Lib.hid (St.of HhBW.out Hhs.out hI2 HhO.out Hhyn.out hu2); clear hI2 hu2 hz2)
            go_roundw
            case rel => exact ⟨j + 1, y, by go_num, by omega, Hs2.out, Hhcy.out⟩
            case measure => simp [intOf]; omega
      case rest =>
        obtain ⟨x2, hst2, hcl2⟩ := hcut
        clear Hhst Hhcl HhF
        have Hhst2 := Lib.hid hst2; clear hst2
        have Hhcl2 := Lib.hid hcl2; clear hcl2
        go_upto_block 4 with fail
        go_cut [17] (fun i wx => ∃ x : Mk, St W B k x D (B + 6) k wx ∧ Closed x D (refsOf tt) ∧ x.done = true)
        case first =>
          go_wp2_with fail
          go_loopw [17] (fun i wr => ∃ (j : Nat) (x : Mk), i = .int .i64 j ∧ j + x.phi ≤ 2 * k + 1 ∧ St W B k x D (B + 6) k wr ∧ Closed x D (refsOf tt)) (fun i _ => (2 * k + 2 - intOf i).toNat)
          case atStart => exact ⟨0, _, rfl, by have h1 := phi_le x2; have h2 := Hhst2.out.2.2.1; omega, Hhst2.out, Hhcl2.out⟩
          case round =>
            obtain ⟨j, x, rfl, hj, hs, hc⟩ := hrel
            clear Hhst2 Hhcl2
            have hjI : (j : Int) ≤ 200 := by omega
            have hrf := law_refs ta tt.length tc wr
            unfold RefsPost at hrf
            have Hhrf := Lib.hid hrf; clear hrf
            have Hhs := Lib.hid hs; clear hs
            have Hhc := Lib.hid hc; clear hc
            go_wp2_with fail
            refine Hhrf.out.mono ?_
            rintro e w2 ⟨bx, rfl, hc2, hbx, hbx2, hu2⟩
            have hS := step_table Hhs.out.1 Hhs.out.2.1 (by rw [Hhs.out.2.2.1]; omega) HhBW.out HhM.out Hhs.out.2.2.2.2.1 Hhs.out.2.2.2.2.2 hc2 hbx hu2 Hhlb.out
            unfold StepPost at hS
            have hs2 := Hhs.out.still hu2
            have hy := step_ok hs2.2.1 (refsOf tt)
            have hyn := step_n hs2.2.1 (refsOf tt)
            have hcy := closed_step hs2.2.1 Hhc.out
            cases hd : x.done
            · have hph := step_phi hs2.2.1 (refsOf tt) hd
              rw [hd] at hS
              have hno : ¬ (4 * (k : Int) + 9 < (j : Int)) := by omega
              have hj2 : (j + 1) + (x.step (refsOf tt)).phi ≤ 2 * k + 1 := by omega
              generalize x.step (refsOf tt) = y at *
              have hj3 : j + 1 ≤ 2 * k + 1 := by omega
              have HhS := Lib.hid hS; clear hS
              have Hhs2 := Lib.hid hs2; clear hs2
              have Hhy := Lib.hid hy; clear hy
              have Hhyn := Lib.hid hyn; clear hyn
              have Hhcy := Lib.hid hcy; clear hcy
              have Hhph := Lib.hid hph; clear hph
              have Hhd := Lib.hid hd; clear hd
              have Hhj2 := Lib.hid hj2; clear hj2
              have Hhj3 := Lib.hid hj3; clear hj3
              have Hhj := Lib.hid hj; clear hj
              clear hc2 hbx hbx2 hu2
              go_wp2_with (go_at_call 38; (with_reducible refine HhS.out.mono ?_); rintro e w3 ⟨rfl, hI3, hu3⟩; have Hs3 := Lib.hid (St.of HhBW.out Hhs2.out hI3 Hhy.out Hhyn.out hu3); clear hI3 hu3)
              go_roundw
              case rel => exact ⟨j + 1, y, by go_num, Hhj2.out, Hs3.out, Hhcy.out⟩
              case measure => simp [intOf]; have := Hhj3.out; omega
            · rw [hd, step_done hd] at hS
              have HhS := Lib.hid hS; clear hS
              have Hhs2 := Lib.hid hs2; clear hs2
              have Hhd := Lib.hid hd; clear hd
              have Hhy := Lib.hid hy; clear hy
              have Hhyn := Lib.hid hyn; clear hyn
              have Hhcy := Lib.hid hcy; clear hcy
              have Hhj := Lib.hid hj; clear hj
              clear hc2 hbx hbx2 hu2
              go_wp2_with (go_at_call 38; (with_reducible refine HhS.out.mono ?_); rintro e w3 ⟨rfl, hI3, hu3⟩; have Hs3 := Lib.hid (St.of HhBW.out Hhs2.out hI3 Hhs2.out.2.1 rfl hu3); clear hI3 hu3)
              go_meet
              exact ⟨x, Hs3.out, Hhc.out, Hhd.out⟩
        case rest =>
          obtain ⟨x, hs, hc, hd⟩ := hcut
          clear Hhst2 Hhcl2
          have Hhs := Lib.hid hs; clear hs
          have Hhc := Lib.hid hc; clear hc
          have Hhd := Lib.hid hd; clear hd
          go_wp2_with fail
          go_loopw [78] (fun i wr => ∃ q : Nat, i = .int .i64 q ∧ q ≤ k ∧ St W B k x D (B + 6) k wr) (fun i _ => (k - intOf i).toNat)
          case atStart => exact ⟨0, rfl, Nat.zero_le _, Hhs.out⟩
          case round =>
            obtain ⟨q, rfl, hq, hsr⟩ := hrel
            clear Hhs
            by_cases hqk : q = k
            · have e1 : ¬ ((q : Int) < k) := by omega
              have haw := awake19 W wr hsr.2.2.2.2.1
              have Hhaw := Lib.hid haw; clear haw
              clear hsr hqk
              go_wp2_with (go_at_call 32; (with_reducible refine Hhaw.out.mono ?_); rintro e w2 ⟨rfl, hu⟩)
              go_ret
              exact ⟨rfl, hu.none⟩
            · have e1 : (q : Int) < k := by omega
              have hq2 : q < k := by omega
              have hM1 := marked_is hsr.1 (b := (q : Int)) (r := x.m q) (by rw [hsr.2.2.1, decide_eq_true (by omega), Bool.true_and, Int.toNat_natCast])
              have hDc := hsr.2.2.2.1.cell q hq2
              cases hm : x.m q
              · rw [hm] at hM1
                have HhM1 := Lib.hid hM1; clear hM1
                have Hhsr := Lib.hid hsr; clear hsr
                have Hhm := Lib.hid hm; clear hm
                clear hqk
                go_wp2_with (go_at_call 39; (with_reducible refine HhM1.out.mono ?_); rintro e w2 ⟨rfl, rfl⟩)
                go_roundw
                case rel => exact ⟨q + 1, by go_num, by omega, Hhsr.out⟩
                case measure => simp [intOf]; omega
              · rw [hm] at hM1
                cases hDq : D q
                · rw [hDq] at hDc
                  have hsq : x.s q = true := by
                    cases hsq : x.s q
                    · obtain ⟨hl, ho⟩ := (done_iff x).1 Hhd.out
                      have := hsr.2.1.full ho q (by rw [hsr.2.2.1]; exact hq2) hm hsq
                      rw [hl] at this
                      cases this
                    · rfl
                  have hall : ∀ r ∈ refsOf tt (q : Int), 0 ≤ r → r < k → x.m r.toNat = true := fun r hr h0 h1 => Hhc.out q (by rw [hsr.2.2.1]; exact hq2) hsq hDq r hr h0 (by rw [hsr.2.2.1]; exact h1)
                  have hrl := refs_len Hhlb.out (q : Int)
                  have hrf := law_refs ta tt.length tc wr
                  unfold RefsPost refsFn at hrf
                  have HhM1 := Lib.hid hM1; clear hM1
                  have Hhsr := Lib.hid hsr; clear hsr
                  have Hhm := Lib.hid hm; clear hm
                  have HhDq := Lib.hid hDq; clear hDq
                  have Hhrf := Lib.hid hrf; clear hrf
                  have Hhsq := Lib.hid hsq; clear hsq
                  clear hqk
                  go_wp2_with (first | (go_at_call 39; (with_reducible refine HhM1.out.mono ?_); rintro e w2 ⟨rfl, rfl⟩) | (go_at_call 37; (with_reducible refine Hhrf.out.mono ?_); rintro e w2 ⟨bx, rfl, hc2, hbx, hbx2, hu2⟩))
                  have hs2 := Hhsr.out.still hu2
                  have hcall := law_refs1 (q : Int) _ _ tt w2 hc2 (HhM.out.upd hs2.2.2.2.2.1.none) Hhlb.out.1 Hhlb.out.2
                  have hz2 := hs2.2.2.2.2.2
                  generalize refsOf tt (q : Int) = rs at *
                  have Hhs2 := Lib.hid hs2; clear hs2
                  have Hhu2 := Lib.hid hu2; clear hu2
                  have Hhc2 := Lib.hid hc2; clear hc2
                  have Hhall := Lib.hid hall; clear hall
                  clear hbx hbx2
                  go_wp2_with fail
                  refine hcall.mono ?_
                  rintro e w3 ⟨v, rfl, ho, hu3⟩
                  obtain ⟨va, vc, rfl⟩ := ownsRow_shape ho
                  have hs3 := Hhs2.out.still hu3
                  have hrI : (rs.length : Int) ≤ 1000 := by omega
                  have Hho := Lib.hid ho; clear ho
                  have Hhs3 := Lib.hid hs3; clear hs3
                  have Hhu3 := Lib.hid hu3; clear hu3
                  clear hcall Hhs2
                  go_wp2_with fail
                  obtain ⟨wo, hwo⟩ : ∃ wo : World, wo = wr := ⟨_, rfl⟩
                  subst hwo
                  go_loopw [96] (fun i wr2 => ∃ z : Nat, i = .int .i64 z ∧ z ≤ rs.length ∧ St W B k x D (B + 6) k wr2 ∧ wr2.ownsRow w2.heap.size 3 1 (.slice va rs.length vc) rs.length (ints rs)) (fun i _ => (rs.length - intOf i).toNat)
                  case atStart => exact ⟨0, rfl, Nat.zero_le _, Hhs3.out, Hho.out⟩
                  case round =>
                    obtain ⟨z, rfl, hz, hs4, ho4⟩ := hrel
                    by_cases hzl : z = rs.length
                    · have e2 : ¬ ((z : Int) < rs.length) := by omega
                      have Hhs4 := Lib.hid hs4; clear hs4
                      clear ho4 hzl
                      go_wp2_with fail
                      go_roundw
                      case rel => exact ⟨q + 1, by go_num, by omega, Hhs4.out⟩
                      case measure => simp [intOf]; omega
                    · have e2 : (z : Int) < rs.length := by omega
                      have hz3 : z < rs.length := by omega
                      obtain ⟨g, hix, -, -, hcell0, -, -⟩ := ownsRow_index ho4 (P := Try.prog) Try.underlying50 (by kernel_rfl) (by kernel_rfl) hz3
                      have hcell : wr.cell? ⟨g, z, none⟩ = some (.int .i64 (rs.getD z 0)) := by
                        rw [hcell0]
                        simp [ints, List.getD, hz3]
                      have hmem : rs.getD z 0 ∈ rs := by simp [List.getD, hz3]
                      have hal := Hhall.out _ hmem
                      generalize rs.getD z 0 = r at *
                      have key : r < 0 ∨ (0 ≤ r ∧ (k : Int) ≤ r) ∨ (0 ≤ r ∧ r < k) := by omega
                      rcases key with c1 | ⟨c1, c2⟩ | ⟨c1, c2⟩
                      · have Hhs4 := Lib.hid hs4; clear hs4
                        have Hho4 := Lib.hid ho4; clear ho4
                        clear hcell0 hzl hmem hal
                        go_wp2_with fail
                        go_roundw
                        case rel => exact ⟨z + 1, by go_num, by omega, Hhs4.out, Hho4.out⟩
                        case measure => simp [intOf]; omega
                      · have Hhs4 := Lib.hid hs4; clear hs4
                        have Hho4 := Lib.hid ho4; clear ho4
                        clear hcell0 hzl hmem hal
                        go_wp2_with fail
                        go_roundw
                        case rel => exact ⟨z + 1, by go_num, by omega, Hhs4.out, Hho4.out⟩
                        case measure => simp [intOf]; omega
                      · have hMr := marked_is hs4.1 (b := r) (r := true) (by rw [hs4.2.2.1, decide_eq_true (by omega), Bool.true_and]; exact hal c1 c2)
                        have Hhs4 := Lib.hid hs4; clear hs4
                        have Hho4 := Lib.hid ho4; clear ho4
                        have HhMr := Lib.hid hMr; clear hMr
                        clear hcell0 hzl hmem hal
                        go_wp2_with (go_at_call 39; (with_reducible refine HhMr.out.mono ?_); rintro e w5 ⟨rfl, rfl⟩)
                        go_roundw
                        case rel => exact ⟨z + 1, by go_num, by omega, Hhs4.out, Hho4.out⟩
                        case measure => simp [intOf]; omega
                · rw [hDq] at hDc
                  have HhM1 := Lib.hid hM1; clear hM1
                  have Hhsr := Lib.hid hsr; clear hsr
                  have Hhm := Lib.hid hm; clear hm
                  have HhDq := Lib.hid hDq; clear hDq
                  clear hqk
                  go_wp2_with (go_at_call 39; (with_reducible refine HhM1.out.mono ?_); rintro e w2 ⟨rfl, rfl⟩)
                  go_roundw
                  case rel => exact ⟨q + 1, by go_num, by omega, Hhsr.out⟩
                  case measure => simp [intOf]; omega
  · have haw := awake19 W W (Upd.refl _ _)
    cases hlt : lightM tt
    · rw [hlt] at hlight
      have Hhlight := Lib.hid hlight; clear hlight
      have Hhaw := Lib.hid haw; clear haw
      clear hM hF hB hgo hlt
      go_enter Try.func11, Try.ntmps11
      go_wp2_with (first | (go_at_call 31; (with_reducible refine Hhlight.out.mono ?_); rintro e w2 ⟨rfl, rfl⟩) | (go_at_call 32; (with_reducible refine Hhaw.out.mono ?_); rintro e w2 ⟨rfl, hu⟩))
      go_ret
      exact ⟨rfl, hu.none⟩
    · rw [hlt] at hlight hgo
      have key : ((40 : Int) < fr.length) ∨ (¬ ((40 : Int) < fr.length) ∧ (40 : Int) < bl.length) := by
        by_cases h1 : fr.length ≤ 40
        · by_cases h2 : bl.length ≤ 40
          · exact absurd ⟨rfl, h1, h2⟩ hgo
          · exact Or.inr ⟨by omega, by omega⟩
        · exact Or.inl (by omega)
      have Hhlight := Lib.hid hlight; clear hlight
      have Hhaw := Lib.hid haw; clear haw
      clear hM hF hB hgo hlt
      rcases key with c1 | ⟨c1, c2⟩
      all_goals
        go_enter Try.func11, Try.ntmps11
        go_wp2_with (first | (go_at_call 31; (with_reducible refine Hhlight.out.mono ?_); rintro e w2 ⟨rfl, rfl⟩) | (go_at_call 32; (with_reducible refine Hhaw.out.mono ?_); rintro e w2 ⟨rfl, hu⟩))
        go_ret
        exact ⟨rfl, hu.none⟩

theorem own : ownKnob Try.prog.godebug = none := by kernel_rfl
theorem laidOut : laidOutB Try.prog = true := by kernel_rfl
set_option maxRecDepth 100000 in
theorem lifted (os : Os) (started : os.Started) (H : Type) (enc : TypeId × Value → H) :
    ReturnsInHanded {} Try.checked os 11 .any (Rows.markShutsSpec.pre6 enc Try.prog Try.f11 Rows.markShutsRow.domain false) (Rows.markShutsSpec.post enc Try.prog Try.f11 false true false false) := by
  refine returnsInHanded_of_change_sized (C := Try.checked) own started (by kernel_rfl) Try.func11
    (ChangeSpec.witness6 (enc := enc) (C := Try.checked) false ⟨#[], #[.int .i64 0, .int .i64 0, .slice none 0 0, .slice none 0 0, .slice none 0 0], []⟩ 8 (by kernel_rfl) (by kernel_rfl) (by kernel_rfl) (by kernel_rfl)) ?_
  intro W base args ds gs before hval0 hW _ hsz0 _
  have hsz : (DataW.weightsEach Try.prog (Try.f11.params.toList ++ Rows.markShutsSpec.plain.varTypes Try.prog) (ds ++ gs)).all (· ≤ reachBytes) = true := hsz0
  clear hsz0
  have hval : ∀ (j : Nat) t v, Try.f11.params[j]? = some t → args[j]? = some v → Value.okWide Try.prog W .any base t v := hval0
  have hW' := hW
  obtain ⟨p, q, hA0, hV, rfl, _, _⟩ := hW
  have hA : DataW.TrodAll enc Try.prog W 0 (fun _ => true) true Try.f11.params.toList args.toList ds p := hA0
  rw [Try.params11] at hA hval hsz
  obtain ⟨v0, vs0, d0, ds0, p0, q0, hargs, rfl, rfl, h0, r0⟩ := trodAll_cons hA
  obtain ⟨v1, vs1, d1, ds1, p1, q1, rfl, rfl, rfl, h1, r1⟩ := trodAll_cons r0
  obtain ⟨v2, vs2, d2, ds2, p2, q2, rfl, rfl, rfl, h2, r2⟩ := trodAll_cons r1
  obtain ⟨v3, vs3, d3, ds3, p3, q3, rfl, rfl, rfl, h3, r3⟩ := trodAll_cons r2
  obtain ⟨v4, vs4, d4, ds4, p4, q4, rfl, rfl, rfl, h4, r4⟩ := trodAll_cons r3
  obtain ⟨rfl, rfl, rfl⟩ := trodAll_nil r4
  obtain rfl : args = #[v0, v1, v2, v3, v4] := by cases args; simp_all
  obtain ⟨rfl, rfl⟩ := trodVars_none hV
  clear hA0 hval0
  simp only [List.append_nil] at hW'
  have hlt : ∀ x, (x ∈ p0 ∨ x ∈ p1 ∨ x ∈ p2 ∨ x ∈ p3 ∨ x ∈ p4) → x.block < W.heap.size := fun x hx => by simpa using hW'.lt x (by simpa using hx)
  have k0 : ∀ (W' : World), Below W.heap.size W W' → DataW.Trod enc Try.prog W' 0 (fun b => decide (b < W.heap.size)) true 3 v0 d0 p0 :=
    fun W' hn => Below.trod laidOut (by kernel_rfl) (of_decide_eq_true (by kernel_rfl)) h0 hn (fun x hx => hlt x (Or.inl hx))
  have k1 : ∀ (W' : World), Below W.heap.size W W' → DataW.Trod enc Try.prog W' 0 (fun b => decide (b < W.heap.size)) true 3 v1 d1 p1 :=
    fun W' hn => Below.trod laidOut (by kernel_rfl) (of_decide_eq_true (by kernel_rfl)) h1 hn (fun x hx => hlt x (Or.inr (Or.inl hx)))
  have k2 : ∀ (W' : World), Below W.heap.size W W' → DataW.Trod enc Try.prog W' 0 (fun b => decide (b < W.heap.size)) true 49 v2 d2 p2 :=
    fun W' hn => Below.trod laidOut (by kernel_rfl) (of_decide_eq_true (by kernel_rfl)) h2 hn (fun x hx => hlt x (Or.inr (Or.inr (Or.inl hx))))
  have k3 : ∀ (W' : World), Below W.heap.size W W' → DataW.Trod enc Try.prog W' 0 (fun b => decide (b < W.heap.size)) true 50 v3 d3 p3 :=
    fun W' hn => Below.trod laidOut (by kernel_rfl) (of_decide_eq_true (by kernel_rfl)) h3 hn (fun x hx => hlt x (Or.inr (Or.inr (Or.inr (Or.inl hx)))))
  have k4 : ∀ (W' : World), Below W.heap.size W W' → DataW.Trod enc Try.prog W' 0 (fun b => decide (b < W.heap.size)) true 50 v4 d4 p4 :=
    fun W' hn => Below.trod laidOut (by kernel_rfl) (of_decide_eq_true (by kernel_rfl)) h4 hn (fun x hx => hlt x (Or.inr (Or.inr (Or.inr (Or.inr (hx))))))
  obtain ⟨a0, rfl, _, _, w0⟩ := open_int Try.underlying3 (hval 0 3 v0 rfl rfl) h0
  obtain ⟨a1, rfl, _, _, w1⟩ := open_int Try.underlying3 (hval 1 3 v1 rfl rfl) h1
  obtain ⟨x2, hx2⟩ := open_matAt Try.underlying49 Try.underlying50 Try.underlying3 (by kernel_rfl) (by kernel_rfl) (by kernel_rfl) (hval 2 49 v2 rfl rfl) h2 hsz 2 rfl rfl
  obtain ⟨x3, hx3⟩ := open_intsAt (bytes := 8) Try.underlying50 Try.underlying3 (by kernel_rfl) (by kernel_rfl) (hval 3 50 v3 rfl rfl) h3 hsz 3 rfl rfl
  obtain ⟨x4, hx4⟩ := open_intsAt (bytes := 8) Try.underlying50 Try.underlying3 (by kernel_rfl) (by kernel_rfl) (hval 4 50 v4 rfl rfl) h4 hsz 4 rfl rfl
  refine (walk (W := W) a0 w0 a1 w1 v2 x2 hx2 v3 x3 hx3 v4 x4 hx4).mono fun e W' ⟨he, hb⟩ => ?_
  subst he
  refine ⟨_, rfl, _, _, _, [], p0 ++ (p1 ++ (p2 ++ (p3 ++ (p4 ++ ([]))))), [], hW', ?_, ?_, rfl, hb.frame _, fun h => by cases h⟩
  · exact trodAll_cons_mk (shut_bool Try.underlying4 true) trodAll_mk0
  · exact trodAll_cons_mk (k0 _ hb) (trodAll_cons_mk (k1 _ hb) (trodAll_cons_mk (k2 _ hb) (trodAll_cons_mk (k3 _ hb) (trodAll_cons_mk (k4 _ hb) (trodAll_mk0)))))

theorem over : Rows.markShutsRow.holds Try.pinned (OpenSpec.ofChange Rows.markShutsSpec) :=
  OpenClaim.holds_of_wide 11 Try.f11 rfl rfl rfl rfl rfl rfl rfl ⟨rfl, rfl, rfl, rfl, rfl⟩ rfl rfl rfl rfl rfl (by kernel_rfl) Try.func11 (by kernel_rfl)
    (of_decide_eq_true (by kernel_rfl)) (by unfold Func.isWrapper; first | (rw [if_pos (by decide +kernel)]; kernel_rfl) | (rw [if_neg (by decide +kernel)]; exact ⟨rfl, rfl⟩))
    (fun os started H enc _ => lifted os started H enc)

/-- The given statement. -/
theorem proved : Rows.MarkShutsSaid := over
#print axioms proved
end Go.Proofs.Ythcimfblmpapeaa.markShuts
