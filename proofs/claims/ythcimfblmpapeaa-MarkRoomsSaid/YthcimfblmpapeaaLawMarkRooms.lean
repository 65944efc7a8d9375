/- How little room the stack has makes no difference to what is marked in the end. No condition. -/
import Derived.Test.YthcimfblmpapeaaMarkTwo
import Derived.SizedLaws
import Derived.Deep.DrawnRows
import Derived.Deep.DeepCutAuto
import Derived.Deep.CutBlock
namespace Go.Proofs.Ythcimfblmpapeaa.markRooms
open Go.ChangeShapes Go.WideShapes Go.ChangeAt Go.RowKit
set_option linter.unusedVariables false
attribute [local go_sem] ite_min ite_max

set_option maxRecDepth 100000 in
set_option maxHeartbeats 2000000 in
theorem walk {W : World} (n : Int) (w0 : (Lit.int .i64 n).wf = true) (ra : Int) (w1 : (Lit.int .i64 ra).wf = true) (rb : Int) (w2 : (Lit.int .i64 rb).wf = true) (tv : Value) (tt : List (List Int)) (ht : MatIn W tv tt ∧ tt.length * 24 ≤ 140737488351232)
    (fv : Value) (fr : List Int) (hf : IntsIn W fv .i64 fr ∧ fr.length * 8 ≤ 140737488351232) :
    Calls Try.prog 12 #[.int .i64 n, .int .i64 ra, .int .i64 rb, tv, fv] W (LawPost W) := by
  obtain ⟨hM, hMl⟩ := ht
  obtain ⟨hF, hFl⟩ := hf
  have hlight := law_light tv tt W hM hMl
  obtain ⟨ta, tc, htv⟩ := mat_shape hM
  obtain ⟨fa, fc, hfv⟩ := ints_shape hF
  subst htv hfv
  have hfI : (fr.length : Int) ≤ 17592186044416 := by omega
  clear w0 w1 w2 hMl hFl
  by_cases hgo : lightM tt = true ∧ fr.length ≤ 40
  · obtain ⟨hlt, hf40⟩ := hgo
    rw [hlt] at hlight
    have hlb := light_bounds hlt
    have f40 : (fr.length : Int) ≤ 40 := by omega
    obtain ⟨kI, hkI⟩ : ∃ kI, kI = max 0 (min n 60) := ⟨_, rfl⟩
    obtain ⟨k, hk⟩ : ∃ k : Nat, (k : Int) = kI := ⟨kI.toNat, by omega⟩
    have hmx : (max 0 (min kI 1048576)).toNat = k := by omega
    have hnew := mark_New kI ra W
    have hnew2 := fun w => mark_New kI rb w
    unfold NewPost at hnew hnew2
    rw [hmx] at hnew hnew2
    have hk60 : (k : Int) ≤ 60 := by omega
    have Hhlight := Lib.hid hlight; clear hlight
    have HhM := Lib.hid hM; clear hM
    have HhF := Lib.hid hF; clear hF
    have Hhlb := Lib.hid hlb; clear hlb
    have Hhnew := Lib.hid hnew; clear hnew
    have Hhnew2 := Lib.hid hnew2; clear hnew2
    clear hlt hf40 hmx
    go_enter Try.func12, Try.ntmps12
    go_wp2_with fail
    refine Hhlight.out.mono ?_
    rintro e w' ⟨rfl, rfl⟩
    go_wp2_with fail
    rw [← hkI]
    clear hkI
    refine Hhnew.out.mono ?_
    rintro e w1 ⟨rfl, hI1, hu1, hz1⟩
    obtain ⟨B, hBe⟩ : ∃ B, B = W.heap.size := ⟨_, rfl⟩
    rw [← hBe] at hI1 hz1 ⊢
    have hBW : W.heap.size ≤ B := by omega
    have hn2 := Hhnew2.out w1
    rw [hz1] at hn2
    have HhI1 := Lib.hid hI1; clear hI1
    have Hhu1 := Lib.hid hu1; clear hu1
    have Hhz1 := Lib.hid hz1; clear hz1
    have HhBe := Lib.hid hBe; clear hBe
    have HhBW := Lib.hid hBW; clear hBW
    clear Hhnew2 Hhnew Hhlight
    go_wp2_with fail
    refine hn2.mono ?_
    rintro e w2 ⟨rfl, hI2, hu2, hz2⟩
    rw [← hk]
    have hst0 : Two W B k (refsOf tt) (· ∈ fr) ⟨k, fun _ => false, fun _ => false, [], roomOf ra, false⟩ ⟨k, fun _ => false, fun _ => false, [], roomOf rb, false⟩ w2 :=
      ⟨HhI1.out.still hu2, hI2, Way.new k _ (roomOf_pos ra) _ _, Way.new k _ (roomOf_pos rb) _ _, Hhu1.out.trans hu2, by omega⟩
    clear hn2 HhI1 hI2 hu2 hz2 hk
    have Hhst0 := Lib.hid hst0; clear hst0
    go_upto_block 0 with fail
    go_cut [38] (fun i wx => ∃ x y : Mk, Two W B k (refsOf tt) (· ∈ fr) x y wx ∧ ∀ i : Nat, (i : Int) ∈ fr → i < k → x.m i = true ∧ y.m i = true)
    case first =>
      go_wp2_with fail
      go_loopw [38] (fun i wr => ∃ (j : Nat) (x y : Mk), i = .int .i64 j ∧ j ≤ fr.length ∧ Two W B k (refsOf tt) (· ∈ fr) x y wr ∧ ∀ i : Nat, (i : Int) ∈ fr.take j → i < k → x.m i = true ∧ y.m i = true) (fun i _ => (fr.length - intOf i).toNat)
      case atStart => exact ⟨0, _, _, rfl, Nat.zero_le _, Hhst0.out, fun i h => by cases h⟩
      case round =>
        obtain ⟨j, x, y, rfl, hj, hs, hr⟩ := hrel
        clear Hhst0
        by_cases hjl : j = fr.length
        · have e1 : ¬ ((j : Int) < fr.length) := by omega
          rw [hjl, List.take_length] at hr
          have Hhs := Lib.hid hs; clear hs
          have Hhr := Lib.hid hr; clear hr
          clear hjl
          go_wp2_with fail
          go_meet
          exact ⟨x, y, Hhs.out, Hhr.out⟩
        · have e1 : (j : Int) < fr.length := by omega
          have hj2 : j < fr.length := by omega
          obtain ⟨b0, off, hix, hcb⟩ := int_at HhF.out hj2
          have hcell := hcb wr hs.up.none
          have hmem : fr.getD j 0 ∈ fr := by simp [List.getD, hj2]
          have htk : fr.take (j + 1) = fr.take j ++ [fr.getD j 0] := by
            rw [List.take_succ_eq_append_getElem hj2]
            simp [List.getD, hj2]
          generalize fr.getD j 0 = b at *
          have hr2 : ∀ i : Nat, (i : Int) ∈ fr.take (j + 1) → i < k → (x.shade b).m i = true ∧ (y.shade b).m i = true := fun i hi hik => by
            rw [htk] at hi
            rcases List.mem_append.1 hi with hi | hi
            · obtain ⟨q1, q2⟩ := hr i hi hik
              exact ⟨shade_mono x b i q1, shade_mono y b i q2⟩
            · have hi : (i : Int) = b := by simpa using hi
              subst hi
              have m1 := shade_marks x (i : Int) (by omega) (by rw [hs.wa.n]; omega)
              have m2 := shade_marks y (i : Int) (by omega) (by rw [hs.wb.n]; omega)
              exact ⟨by simpa using m1, by simpa using m2⟩
          have hop := mark_Shade B b x wr hs.a
          unfold MkPost at hop
          have hwx := hs.wa.shade b hmem
          have hwy := hs.wb.shade b hmem
          have Hhop := Lib.hid hop; clear hop
          have Hhs := Lib.hid hs; clear hs
          have Hhwx := Lib.hid hwx; clear hwx
          have Hhwy := Lib.hid hwy; clear hwy
          have Hhr2 := Lib.hid hr2; clear hr2
          have Hhmem := Lib.hid hmem; clear hmem
          have Hhtk := Lib.hid htk; clear htk
          clear hjl hcb hr
          go_wp2_with fail
          refine Hhop.out.mono ?_
          rintro e w3 ⟨rfl, hI3, hu3, hz3⟩
          have hs3 := Two.left HhBW.out Hhs.out hI3 Hhwx.out hu3
          have hop2 := mark_Shade (B + 6) b y w3 hs3.b
          unfold MkPost at hop2
          have Hhop2 := Lib.hid hop2; clear hop2
          have Hhs3 := Lib.hid hs3; clear hs3
          clear hI3 hu3 hz3 Hhop
          go_wp2_with fail
          refine Hhop2.out.mono ?_
          rintro e w4 ⟨rfl, hI4, hu4, hz4⟩
          have hs4 := Two.right HhBW.out Hhs3.out hI4 Hhwy.out hu4
          have Hhs4 := Lib.hid hs4; clear hs4
          clear hI4 hu4 hz4 Hhop2
          go_wp2_with fail
          go_roundw
          case rel => exact ⟨j + 1, _, _, by go_num, by omega, Hhs4.out, Hhr2.out⟩
          case measure => simp [intOf]; omega
    case rest =>
      obtain ⟨x1, y1, hs1, hr1⟩ := hcut
      clear Hhst0 HhF
      have Hhs1 := Lib.hid hs1; clear hs1
      have Hhr1 := Lib.hid hr1; clear hr1
      have i0 : ∀ w, (Instr.index 63 (.agg #[.pointer (some ⟨B + 5, 0, none⟩), .pointer (some ⟨B + 6 + 5, 0, none⟩)]) (.int .i64 0)).run Try.prog w = .ok (.pointer (some ⟨B + 5, 0, none⟩)) w := fun _ => by kernel_rfl
      have i1 : ∀ w, (Instr.index 63 (.agg #[.pointer (some ⟨B + 5, 0, none⟩), .pointer (some ⟨B + 6 + 5, 0, none⟩)]) (.int .i64 1)).run Try.prog w = .ok (.pointer (some ⟨B + 6 + 5, 0, none⟩)) w := fun _ => by kernel_rfl
      go_wp2_with fail
      go_loopw [52] (fun i wr => ∃ (j : Nat) (x y : Mk), i = .int .i64 j ∧ j ≤ 2 ∧ Two W B k (refsOf tt) (· ∈ fr) x y wr ∧ (∀ i : Nat, (i : Int) ∈ fr → i < k → x.m i = true ∧ y.m i = true) ∧ (1 ≤ j → x.done = true) ∧ (2 ≤ j → y.done = true)) (fun i _ => (2 - intOf i).toNat)
      case atStart => exact ⟨0, _, _, rfl, by omega, Hhs1.out, Hhr1.out, fun h => by omega, fun h => by omega⟩
      case round =>
        obtain ⟨j, x, y, rfl, hj, hs, hr, hdx, hdy⟩ := hrel
        clear Hhs1 Hhr1
        have jc : j = 0 ∨ j = 1 ∨ j = 2 := by omega
        rcases jc with rfl | rfl | rfl
        · clear hdx hdy hj
          have Hhs := Lib.hid hs; clear hs
          have Hhr := Lib.hid hr; clear hr
          rw [show ((0 : Nat) : Int) = 0 from rfl]
          go_wp2_with fail
          obtain ⟨wo, hwo⟩ : ∃ wo : World, wo = wr := ⟨_, rfl⟩
          subst hwo
          go_loopw [17] (fun c wr => ∃ (q : Nat) (z : Mk), c = .int .i64 q ∧ q + z.phi ≤ 2 * k + 1 ∧ Two W B k (refsOf tt) (· ∈ fr) z y wr ∧ (∀ i : Nat, (i : Int) ∈ fr → i < k → z.m i = true ∧ y.m i = true)) (fun c _ => (2 * k + 2 - intOf c).toNat)
          case atStart => exact ⟨0, x, rfl, by have h1 := phi_le x; have h2 := Hhs.out.wa.n; omega, Hhs.out, Hhr.out⟩
          case round =>
            obtain ⟨q, z, rfl, hq, hs2, hr2⟩ := hrel
            clear Hhs Hhr
            have hqI : (q : Int) ≤ 200 := by omega
            have hrf := law_refs ta tt.length tc wr
            unfold RefsPost at hrf
            have Hhrf := Lib.hid hrf; clear hrf
            have Hhs2 := Lib.hid hs2; clear hs2
            have Hhr2 := Lib.hid hr2; clear hr2
            go_wp2_with fail
            refine Hhrf.out.mono ?_
            rintro e w3 ⟨bx, rfl, hc2, hbx, hbx2, hu2⟩
            have hS := step_table (B := B) Hhs2.out.a Hhs2.out.wa.ok (by rw [Hhs2.out.wa.n]; omega) (by have := HhBW.out; omega) HhM.out Hhs2.out.up (by have := Hhs2.out.size; omega) hc2 hbx hu2 Hhlb.out
            unfold StepPost at hS
            have hs3 := Hhs2.out.still hu2
            have hwz := hs3.wa.step
            cases hd : z.done
            · have hph := step_phi hs3.wa.ok (refsOf tt) hd
              have hr3 : ∀ i : Nat, (i : Int) ∈ fr → i < k → (z.step (refsOf tt)).m i = true ∧ y.m i = true := fun i h1 h2 => by
                obtain ⟨q1, q2⟩ := Hhr2.out i h1 h2
                exact ⟨step_mono hs3.wa.ok _ i q1, q2⟩
              rw [hd] at hS
              have hno : ¬ (4 * (k : Int) + 9 < (q : Int)) := by omega
              have hq2 : (q + 1) + (z.step (refsOf tt)).phi ≤ 2 * k + 1 := by omega
              generalize z.step (refsOf tt) = z2 at *
              have hq3 : q + 1 ≤ 2 * k + 1 := by omega
              have HhS := Lib.hid hS; clear hS
              have Hhs3 := Lib.hid hs3; clear hs3
              have Hhwz := Lib.hid hwz; clear hwz
              have Hhph := Lib.hid hph; clear hph
              have Hhd := Lib.hid hd; clear hd
              have Hhq2 := Lib.hid hq2; clear hq2
              have Hhq3 := Lib.hid hq3; clear hq3
              have Hhq := Lib.hid hq; clear hq
              have Hhr3 := Lib.hid hr3; clear hr3
              clear hc2 hbx hbx2 hu2
              go_wp2_with (go_at_call 38; (with_reducible refine HhS.out.mono ?_); rintro e w4 ⟨rfl, hI4, hu4⟩; have Hs4 := Lib.hid (Two.left HhBW.out Hhs3.out hI4 Hhwz.out hu4); clear hI4 hu4)
              go_roundw
              case rel => exact ⟨q + 1, z2, by go_num, Hhq2.out, Hs4.out, Hhr3.out⟩
              case measure => simp [intOf]; have := Hhq3.out; omega
            · rw [hd, step_done hd] at hS
              have HhS := Lib.hid hS; clear hS
              have Hhs3 := Lib.hid hs3; clear hs3
              have Hhwz := Lib.hid hwz; clear hwz
              have Hhd := Lib.hid hd; clear hd
              have Hhq := Lib.hid hq; clear hq
              clear hc2 hbx hbx2 hu2
              go_wp2_with fail
              refine HhS.out.mono ?_
              rintro e w4 ⟨rfl, hI4, hu4⟩
              have hs4 := Two.left HhBW.out Hhs3.out hI4 Hhs2.out.wa hu4
              have hDn := mark_Done B z w4 hs4.a
              rw [Hhd.out] at hDn
              have Hhs4 := Lib.hid hs4; clear hs4
              have HhDn := Lib.hid hDn; clear hDn
              clear hI4 hu4 HhS
              go_wp2_with (go_at_call 40; (with_reducible refine HhDn.out.mono ?_); rintro e w5 ⟨rfl, rfl⟩)
              go_roundw
              case rel => exact ⟨1, z, y, by go_num, by omega, Hhs4.out, Hhr2.out, fun _ => Hhd.out, fun h => by omega⟩
              case measure => simp [intOf]
        · have Hdx := Lib.hid (hdx (Nat.le_refl 1))
          clear hdx hdy hj
          have Hhs := Lib.hid hs; clear hs
          have Hhr := Lib.hid hr; clear hr
          rw [show ((1 : Nat) : Int) = 1 from rfl]
          go_wp2_with fail
          obtain ⟨wo, hwo⟩ : ∃ wo : World, wo = wr := ⟨_, rfl⟩
          subst hwo
          go_loopw [17] (fun c wr => ∃ (q : Nat) (z : Mk), c = .int .i64 q ∧ q + z.phi ≤ 2 * k + 1 ∧ Two W B k (refsOf tt) (· ∈ fr) x z wr ∧ (∀ i : Nat, (i : Int) ∈ fr → i < k → x.m i = true ∧ z.m i = true)) (fun c _ => (2 * k + 2 - intOf c).toNat)
          case atStart => exact ⟨0, y, rfl, by have h1 := phi_le y; have h2 := Hhs.out.wb.n; omega, Hhs.out, Hhr.out⟩
          case round =>
            obtain ⟨q, z, rfl, hq, hs2, hr2⟩ := hrel
            clear Hhs Hhr
            have hqI : (q : Int) ≤ 200 := by omega
            have hrf := law_refs ta tt.length tc wr
            unfold RefsPost at hrf
            have Hhrf := Lib.hid hrf; clear hrf
            have Hhs2 := Lib.hid hs2; clear hs2
            have Hhr2 := Lib.hid hr2; clear hr2
            go_wp2_with fail
            refine Hhrf.out.mono ?_
            rintro e w3 ⟨bx, rfl, hc2, hbx, hbx2, hu2⟩
            have hS := step_table (B := (B + 6)) Hhs2.out.b Hhs2.out.wb.ok (by rw [Hhs2.out.wb.n]; omega) (by have := HhBW.out; omega) HhM.out Hhs2.out.up (by have := Hhs2.out.size; omega) hc2 hbx hu2 Hhlb.out
            unfold StepPost at hS
            have hs3 := Hhs2.out.still hu2
            have hwz := hs3.wb.step
            cases hd : z.done
            · have hph := step_phi hs3.wb.ok (refsOf tt) hd
              have hr3 : ∀ i : Nat, (i : Int) ∈ fr → i < k → x.m i = true ∧ (z.step (refsOf tt)).m i = true := fun i h1 h2 => by
                obtain ⟨q1, q2⟩ := Hhr2.out i h1 h2
                exact ⟨q1, step_mono hs3.wb.ok _ i q2⟩
              rw [hd] at hS
              have hno : ¬ (4 * (k : Int) + 9 < (q : Int)) := by omega
              have hq2 : (q + 1) + (z.step (refsOf tt)).phi ≤ 2 * k + 1 := by omega
              generalize z.step (refsOf tt) = z2 at *
              have hq3 : q + 1 ≤ 2 * k + 1 := by omega
              have HhS := Lib.hid hS; clear hS
              have Hhs3 := Lib.hid hs3; clear hs3
              have Hhwz := Lib.hid hwz; clear hwz
              have Hhph := Lib.hid hph; clear hph
              have Hhd := Lib.hid hd; clear hd
              have Hhq2 := Lib.hid hq2; clear hq2
              have Hhq3 := Lib.hid hq3; clear hq3
              have Hhq := Lib.hid hq; clear hq
              have Hhr3 := Lib.hid hr3; clear hr3
              clear hc2 hbx hbx2 hu2
              go_wp2_with (go_at_call 38; (with_reducible refine HhS.out.mono ?_); rintro e w4 ⟨rfl, hI4, hu4⟩; have Hs4 := Lib.hid (Two.right HhBW.out Hhs3.out hI4 Hhwz.out hu4); clear hI4 hu4)
              go_roundw
              case rel => exact ⟨q + 1, z2, by go_num, Hhq2.out, Hs4.out, Hhr3.out⟩
              case measure => simp [intOf]; have := Hhq3.out; omega
            · rw [hd, step_done hd] at hS
              have HhS := Lib.hid hS; clear hS
              have Hhs3 := Lib.hid hs3; clear hs3
              have Hhwz := Lib.hid hwz; clear hwz
              have Hhd := Lib.hid hd; clear hd
              have Hhq := Lib.hid hq; clear hq
              clear hc2 hbx hbx2 hu2
              go_wp2_with fail
              refine HhS.out.mono ?_
              rintro e w4 ⟨rfl, hI4, hu4⟩
              have hs4 := Two.right HhBW.out Hhs3.out hI4 Hhs2.out.wb hu4
              have hDn := mark_Done (B + 6) z w4 hs4.b
              rw [Hhd.out] at hDn
              have Hhs4 := Lib.hid hs4; clear hs4
              have HhDn := Lib.hid hDn; clear hDn
              clear hI4 hu4 HhS
              go_wp2_with (go_at_call 40; (with_reducible refine HhDn.out.mono ?_); rintro e w5 ⟨rfl, rfl⟩)
              go_roundw
              case rel => exact ⟨2, x, z, by go_num, by omega, Hhs4.out, Hhr2.out, fun _ => Hdx.out, fun _ => Hhd.out⟩
              case measure => simp [intOf]
        · have dx := hdx (by omega)
          have dy := hdy (by omega)
          have hsame := hs.wa.same hs.wb dx dy (fun i h1 h2 => (hr i h1 h2).1) (fun i h1 h2 => (hr i h1 h2).2)
          clear hdx hdy hr hj i0 i1
          have hMx := mark_Marks B x wr hs.a
          rw [hs.wa.n] at hMx
          have Hhsame := Lib.hid hsame; clear hsame
          have Hhs := Lib.hid hs; clear hs
          have Hdx := Lib.hid dx; clear dx
          have Hdy := Lib.hid dy; clear dy
          go_wp2_with fail
          refine hMx.mono ?_
          rintro e w3 ⟨b3, g3, rfl, hM3, -, -, hu3⟩
          have hW3 := words_own hM3 (Upd.refl _ _)
          have HhM3 := Lib.hid hM3; clear hM3
          have Hhu3 := Lib.hid hu3; clear hu3
          clear hMx
          go_wp2_with fail
          refine hW3.mono ?_
          rintro e w4 ⟨g4, c4, rfl, hw4, hu4⟩
          have hs4 := (Hhs.out.still Hhu3.out).still hu4
          have hMy := mark_Marks (B + 6) y w4 hs4.b
          rw [hs4.wb.n] at hMy
          have Hhw4 := Lib.hid hw4; clear hw4
          have Hhs4 := Lib.hid hs4; clear hs4
          clear hW3 hu4
          go_wp2_with fail
          refine hMy.mono ?_
          rintro e w5 ⟨b5, g5, rfl, hM5, -, -, hu5⟩
          have hW5 := words_own hM5 (Upd.refl _ _)
          have hs5 := Hhs4.out.still hu5
          have hw5 := Hhw4.out.upd hu5.none
          have HhM5 := Lib.hid hM5; clear hM5
          have Hhs5 := Lib.hid hs5; clear hs5
          have Hhw5 := Lib.hid hw5; clear hw5
          clear hMy hu5
          go_wp2_with fail
          refine hW5.mono ?_
          rintro e w6 ⟨g6, c6, rfl, hw6, hu6⟩
          have hs6 := Hhs5.out.still hu6
          have hSm := same_words (Hhw5.out.upd hu6.none) hw6 Hhsame.out (Upd.refl (fun _ => False) w6)
          have Hhs6 := Lib.hid hs6; clear hs6
          clear hW5 hw6 hu6
          go_wp2_with fail
          refine hSm.mono ?_
          rintro e w7 ⟨rfl, hu7⟩
          have haw := awake19 W w7 (Hhs6.out.up.trans hu7)
          have Hhaw := Lib.hid haw; clear haw
          clear hSm hu7
          go_wp2_with (go_at_call 32; (with_reducible refine Hhaw.out.mono ?_); rintro e w8 ⟨rfl, hu⟩)
          go_ret
          exact ⟨rfl, hu.none⟩
  · have haw := awake19 W W (Upd.refl _ _)
    cases hlt : lightM tt
    · rw [hlt] at hlight
      have Hhlight := Lib.hid hlight; clear hlight
      have Hhaw := Lib.hid haw; clear haw
      clear hM hF hgo hlt
      go_enter Try.func12, Try.ntmps12
      go_wp2_with (first | (go_at_call 31; (with_reducible refine Hhlight.out.mono ?_); rintro e w2 ⟨rfl, rfl⟩) | (go_at_call 32; (with_reducible refine Hhaw.out.mono ?_); rintro e w2 ⟨rfl, hu⟩))
      go_ret
      exact ⟨rfl, hu.none⟩
    · rw [hlt] at hlight hgo
      have c1 : (40 : Int) < fr.length := by
        by_cases h1 : fr.length ≤ 40
        · exact absurd ⟨rfl, h1⟩ hgo
        · omega
      have Hhlight := Lib.hid hlight; clear hlight
      have Hhaw := Lib.hid haw; clear haw
      clear hM hF hgo hlt
      go_enter Try.func12, Try.ntmps12
      go_wp2_with (first | (go_at_call 31; (with_reducible refine Hhlight.out.mono ?_); rintro e w2 ⟨rfl, rfl⟩) | (go_at_call 32; (with_reducible refine Hhaw.out.mono ?_); rintro e w2 ⟨rfl, hu⟩))
      go_ret
      exact ⟨rfl, hu.none⟩

theorem own : ownKnob Try.prog.godebug = none := by kernel_rfl
theorem laidOut : laidOutB Try.prog = true := by kernel_rfl
set_option maxRecDepth 100000 in
theorem lifted (os : Os) (started : os.Started) (H : Type) (enc : TypeId × Value → H) :
    ReturnsInHanded {} Try.checked os 12 .any (Rows.markRoomsSpec.pre6 enc Try.prog Try.f12 Rows.markRoomsRow.domain false) (Rows.markRoomsSpec.post enc Try.prog Try.f12 false true false false) := by
  refine returnsInHanded_of_change_sized (C := Try.checked) own started (by kernel_rfl) Try.func12
    (ChangeSpec.witness6 (enc := enc) (C := Try.checked) false ⟨#[], #[.int .i64 0, .int .i64 0, .int .i64 0, .slice none 0 0, .slice none 0 0], []⟩ 8 (by kernel_rfl) (by kernel_rfl) (by kernel_rfl) (by kernel_rfl)) ?_
  intro W base args ds gs before hval0 hW _ hsz0 _
  have hsz : (DataW.weightsEach Try.prog (Try.f12.params.toList ++ Rows.markRoomsSpec.plain.varTypes Try.prog) (ds ++ gs)).all (· ≤ reachBytes) = true := hsz0
  clear hsz0
  have hval : ∀ (j : Nat) t v, Try.f12.params[j]? = some t → args[j]? = some v → Value.okWide Try.prog W .any base t v := hval0
  have hW' := hW
  obtain ⟨p, q, hA0, hV, rfl, _, _⟩ := hW
  have hA : DataW.TrodAll enc Try.prog W 0 (fun _ => true) true Try.f12.params.toList args.toList ds p := hA0
  rw [Try.params12] at hA hval hsz
  obtain ⟨v0, vs0, d0, ds0, p0, q0, hargs, rfl, rfl, h0, r0⟩ := trodAll_cons hA
  obtain ⟨v1, vs1, d1, ds1, p1, q1, rfl, rfl, rfl, h1, r1⟩ := trodAll_cons r0
  obtain ⟨v2, vs2, d2, ds2, p2, q2, rfl, rfl, rfl, h2, r2⟩ := trodAll_cons r1
  obtain ⟨v3, vs3, d3, ds3, p3, q3, rfl, rfl, rfl, h3, r3⟩ := trodAll_cons r2
  obtain ⟨v4, vs4, d4, ds4, p4, q4, rfl, rfl, rfl, h4, r4⟩ := trodAll_cons r3
  obtain ⟨rfl, rfl, rfl⟩ := trodAll_nil r4
  obtain rfl : args = #[v0, v1, v2, v3, v4] := by cases args; simp_all
  obtain ⟨rfl, rfl⟩ := trodVars_none hV
  clear hA0 hval0
  simp only [List.append_nil] at hW'
  have hlt : ∀ x, (x ∈ p0 ∨ x ∈ p1 ∨ x ∈ p2 ∨ x ∈ p3 ∨ x ∈ p4) → x.block < W.heap.size := fun x hx => by simpa using hW'.lt x (by simpa using hx)
  have k0 : ∀ (W' : World), Below W.heap.size W W' → DataW.Trod enc Try.prog W' 0 (fun b => decide (b < W.heap.size)) true 3 v0 d0 p0 :=
    fun W' hn => Below.trod laidOut (by kernel_rfl) (of_decide_eq_true (by kernel_rfl)) h0 hn (fun x hx => hlt x (Or.inl hx))
  have k1 : ∀ (W' : World), Below W.heap.size W W' → DataW.Trod enc Try.prog W' 0 (fun b => decide (b < W.heap.size)) true 3 v1 d1 p1 :=
    fun W' hn => Below.trod laidOut (by kernel_rfl) (of_decide_eq_true (by kernel_rfl)) h1 hn (fun x hx => hlt x (Or.inr (Or.inl hx)))
  have k2 : ∀ (W' : World), Below W.heap.size W W' → DataW.Trod enc Try.prog W' 0 (fun b => decide (b < W.heap.size)) true 3 v2 d2 p2 :=
    fun W' hn => Below.trod laidOut (by kernel_rfl) (of_decide_eq_true (by kernel_rfl)) h2 hn (fun x hx => hlt x (Or.inr (Or.inr (Or.inl hx))))
  have k3 : ∀ (W' : World), Below W.heap.size W W' → DataW.Trod enc Try.prog W' 0 (fun b => decide (b < W.heap.size)) true 49 v3 d3 p3 :=
    fun W' hn => Below.trod laidOut (by kernel_rfl) (of_decide_eq_true (by kernel_rfl)) h3 hn (fun x hx => hlt x (Or.inr (Or.inr (Or.inr (Or.inl hx)))))
  have k4 : ∀ (W' : World), Below W.heap.size W W' → DataW.Trod enc Try.prog W' 0 (fun b => decide (b < W.heap.size)) true 50 v4 d4 p4 :=
    fun W' hn => Below.trod laidOut (by kernel_rfl) (of_decide_eq_true (by kernel_rfl)) h4 hn (fun x hx => hlt x (Or.inr (Or.inr (Or.inr (Or.inr (hx))))))
  obtain ⟨a0, rfl, _, _, w0⟩ := open_int Try.underlying3 (hval 0 3 v0 rfl rfl) h0
  obtain ⟨a1, rfl, _, _, w1⟩ := open_int Try.underlying3 (hval 1 3 v1 rfl rfl) h1
  obtain ⟨a2, rfl, _, _, w2⟩ := open_int Try.underlying3 (hval 2 3 v2 rfl rfl) h2
  obtain ⟨x3, hx3⟩ := open_matAt Try.underlying49 Try.underlying50 Try.underlying3 (by kernel_rfl) (by kernel_rfl) (by kernel_rfl) (hval 3 49 v3 rfl rfl) h3 hsz 3 rfl rfl
  obtain ⟨x4, hx4⟩ := open_intsAt (bytes := 8) Try.underlying50 Try.underlying3 (by kernel_rfl) (by kernel_rfl) (hval 4 50 v4 rfl rfl) h4 hsz 4 rfl rfl
  refine (walk (W := W) a0 w0 a1 w1 a2 w2 v3 x3 hx3 v4 x4 hx4).mono fun e W' ⟨he, hb⟩ => ?_
  subst he
  refine ⟨_, rfl, _, _, _, [], p0 ++ (p1 ++ (p2 ++ (p3 ++ (p4 ++ ([]))))), [], hW', ?_, ?_, rfl, hb.frame _, fun h => by cases h⟩
  · exact trodAll_cons_mk (shut_bool Try.underlying4 true) trodAll_mk0
  · exact trodAll_cons_mk (k0 _ hb) (trodAll_cons_mk (k1 _ hb) (trodAll_cons_mk (k2 _ hb) (trodAll_cons_mk (k3 _ hb) (trodAll_cons_mk (k4 _ hb) (trodAll_mk0)))))

theorem over : Rows.markRoomsRow.holds Try.pinned (OpenSpec.ofChange Rows.markRoomsSpec) :=
  OpenClaim.holds_of_wide 12 Try.f12 rfl rfl rfl rfl rfl rfl rfl ⟨rfl, rfl, rfl, rfl, rfl⟩ rfl rfl rfl rfl rfl (by kernel_rfl) Try.func12 (by kernel_rfl)
    (of_decide_eq_true (by kernel_rfl)) (by unfold Func.isWrapper; first | (rw [if_pos (by decide +kernel)]; kernel_rfl) | (rw [if_neg (by decide +kernel)]; exact ⟨rfl, rfl⟩))
    (fun os started H enc _ => lifted os started H enc)

/-- The given statement. -/
theorem proved : Rows.MarkRoomsSaid := over
#print axioms proved
end Go.Proofs.Ythcimfblmpapeaa.markRooms
