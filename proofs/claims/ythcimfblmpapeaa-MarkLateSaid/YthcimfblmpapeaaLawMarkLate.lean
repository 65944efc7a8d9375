/- What is shaded while it goes on is marked with all that it reaches, as if it had been shaded at first. No condition. -/
import Derived.Test.YthcimfblmpapeaaMarkTwo
import Derived.SizedLaws
import Derived.Deep.DrawnRows
import Derived.Deep.DeepCutAuto
import Derived.Deep.CutBlock
namespace Go.Proofs.Ythcimfblmpapeaa.markLate
open Go.ChangeShapes Go.WideShapes Go.ChangeAt Go.RowKit
set_option linter.unusedVariables false
attribute [local go_sem] ite_min ite_max

set_option maxRecDepth 100000 in
set_option maxHeartbeats 2000000 in
theorem walk {W : World} (n : Int) (w0 : (Lit.int .i64 n).wf = true) (ra : Int) (w1 : (Lit.int .i64 ra).wf = true) (tv : Value) (tt : List (List Int)) (ht : MatIn W tv tt ∧ tt.length * 24 ≤ 140737488351232)
    (fv : Value) (fr : List Int) (hf : IntsIn W fv .i64 fr ∧ fr.length * 8 ≤ 140737488351232) (lv : Value) (la : List Int) (hl : IntsIn W lv .i64 la ∧ la.length * 8 ≤ 140737488351232) :
    Calls Try.prog 13 #[.int .i64 n, .int .i64 ra, tv, fv, lv] W (LawPost W) := by
  obtain ⟨hM, hMl⟩ := ht
  obtain ⟨hF, hFl⟩ := hf
  obtain ⟨hL, hLl⟩ := hl
  have hlight := law_light tv tt W hM hMl
  obtain ⟨ta, tc, htv⟩ := mat_shape hM
  obtain ⟨fa, fc, hfv⟩ := ints_shape hF
  obtain ⟨lla, llc, hlv⟩ := ints_shape hL
  subst htv hfv hlv
  have hfI : (fr.length : Int) ≤ 17592186044416 := by omega
  have hlI : (la.length : Int) ≤ 17592186044416 := by omega
  clear w0 w1 hMl hFl hLl
  by_cases hgo : lightM tt = true ∧ fr.length ≤ 30 ∧ la.length ≤ 30
  · obtain ⟨hlt, hf40, hl40⟩ := hgo
    rw [hlt] at hlight
    have hlb := light_bounds hlt
    have f40 : (fr.length : Int) ≤ 30 := by omega
    have l40 : (la.length : Int) ≤ 30 := by omega
    obtain ⟨kI, hkI⟩ : ∃ kI, kI = max 0 (min n 60) := ⟨_, rfl⟩
    obtain ⟨k, hk⟩ : ∃ k : Nat, (k : Int) = kI := ⟨kI.toNat, by omega⟩
    have hmx : (max 0 (min kI 1048576)).toNat = k := by omega
    have hnew := mark_New kI ra W
    have hnew2 := fun w => mark_New kI ra w
    unfold NewPost at hnew hnew2
    rw [hmx] at hnew hnew2
    have hk60 : (k : Int) ≤ 60 := by omega
    have Hhlight := Lib.hid hlight; clear hlight
    have HhM := Lib.hid hM; clear hM
    have HhF := Lib.hid hF; clear hF
    have HhL := Lib.hid hL; clear hL
    have Hhlb := Lib.hid hlb; clear hlb
    have Hhnew := Lib.hid hnew; clear hnew
    have Hhnew2 := Lib.hid hnew2; clear hnew2
    clear hlt hf40 hl40 hmx
    go_enter Try.func13, Try.ntmps13
    go_wp2_with fail
    refine Hhlight.out.mono ?_
    rintro e w' ⟨rfl, rfl⟩
    go_wp2_with fail
    rw [← hkI]
    clear hkI
    refine Hhnew.out.mono ?_
    rintro e w1 ⟨rfl, hI1, hu1, hz1⟩
    obtain ⟨B, hBe⟩ : ∃ B, B = W.heap.size := ⟨_, rfl⟩
    rw [← hBe] at hI1 hz1 ⊢
    have hBW : W.heap.size ≤ B := by omega
    have hn2 := Hhnew2.out w1
    rw [hz1] at hn2
    have HhI1 := Lib.hid hI1; clear hI1
    have Hhu1 := Lib.hid hu1; clear hu1
    have Hhz1 := Lib.hid hz1; clear hz1
    have HhBe := Lib.hid hBe; clear hBe
    have HhBW := Lib.hid hBW; clear hBW
    clear Hhnew2 Hhnew Hhlight
    go_wp2_with fail
    refine hn2.mono ?_
    rintro e w2 ⟨rfl, hI2, hu2, hz2⟩
    rw [← hk]
    have hst0 : Two W B k (refsOf tt) (fun b => b ∈ fr ∨ b ∈ la) ⟨k, fun _ => false, fun _ => false, [], roomOf ra, false⟩ ⟨k, fun _ => false, fun _ => false, [], roomOf ra, false⟩ w2 :=
      ⟨HhI1.out.still hu2, hI2, Way.new k _ (roomOf_pos ra) _ _, Way.new k _ (roomOf_pos ra) _ _, Hhu1.out.trans hu2, by omega⟩
    clear hn2 HhI1 hI2 hu2 hz2 hk
    have Hhst0 := Lib.hid hst0; clear hst0
    go_upto_block 0 with fail
    go_cut [43] (fun i wx => ∃ x y : Mk, Two W B k (refsOf tt) (fun b => b ∈ fr ∨ b ∈ la) x y wx ∧ ∀ i : Nat, (i : Int) ∈ fr → i < k → x.m i = true ∧ y.m i = true)
    case first =>
      go_wp2_with fail
      go_loopw [43] (fun i wr => ∃ (j : Nat) (x y : Mk), i = .int .i64 j ∧ j ≤ fr.length ∧ Two W B k (refsOf tt) (fun b => b ∈ fr ∨ b ∈ la) x y wr ∧ ∀ i : Nat, (i : Int) ∈ fr.take j → i < k → x.m i = true ∧ y.m i = true) (fun i _ => (fr.length - intOf i).toNat)
      case atStart => exact ⟨0, _, _, rfl, Nat.zero_le _, Hhst0.out, fun i h => by cases h⟩
      case round =>
        obtain ⟨j, x, y, rfl, hj, hs, hr⟩ := hrel
        clear Hhst0
        by_cases hjl : j = fr.length
        · have e1 : ¬ ((j : Int) < fr.length) := by omega
          rw [hjl, List.take_length] at hr
          have Hhs := Lib.hid hs; clear hs
          have Hhr := Lib.hid hr; clear hr
          clear hjl
          go_wp2_with fail
          go_meet
          exact ⟨x, y, Hhs.out, Hhr.out⟩
        · have e1 : (j : Int) < fr.length := by omega
          have hj2 : j < fr.length := by omega
          obtain ⟨b0, off, hix, hcb⟩ := int_at HhF.out hj2
          have hcell := hcb wr hs.up.none
          have hmem : fr.getD j 0 ∈ fr := by simp [List.getD, hj2]
          have htk : fr.take (j + 1) = fr.take j ++ [fr.getD j 0] := by
            rw [List.take_succ_eq_append_getElem hj2]
            simp [List.getD, hj2]
          generalize fr.getD j 0 = b at *
          have hr2 : ∀ i : Nat, (i : Int) ∈ fr.take (j + 1) → i < k → (x.shade b).m i = true ∧ (y.shade b).m i = true := fun i hi hik => by
            rw [htk] at hi
            rcases List.mem_append.1 hi with hi | hi
            · obtain ⟨q1, q2⟩ := hr i hi hik
              exact ⟨shade_mono x b i q1, shade_mono y b i q2⟩
            · have hi : (i : Int) = b := by simpa using hi
              subst hi
              have m1 := shade_marks x (i : Int) (by omega) (by rw [hs.wa.n]; omega)
              have m2 := shade_marks y (i : Int) (by omega) (by rw [hs.wb.n]; omega)
              exact ⟨by simpa using m1, by simpa using m2⟩
          have hop := mark_Shade B b x wr hs.a
          unfold MkPost at hop
          have hwx := hs.wa.shade b (Or.inl hmem)
          have hwy := hs.wb.shade b (Or.inl hmem)
          have Hhop := Lib.hid hop; clear hop
          have Hhs := Lib.hid hs; clear hs
          have Hhwx := Lib.hid hwx; clear hwx
          have Hhwy := Lib.hid hwy; clear hwy
          have Hhr2 := Lib.hid hr2; clear hr2
          have Hhmem := Lib.hid hmem; clear hmem
          have Hhtk := Lib.hid htk; clear htk
          clear hjl hcb hr
          go_wp2_with fail
          refine Hhop.out.mono ?_
          rintro e w3 ⟨rfl, hI3, hu3, hz3⟩
          have hs3 := Two.left HhBW.out Hhs.out hI3 Hhwx.out hu3
          have hop2 := mark_Shade (B + 6) b y w3 hs3.b
          unfold MkPost at hop2
          have Hhop2 := Lib.hid hop2; clear hop2
          have Hhs3 := Lib.hid hs3; clear hs3
          clear hI3 hu3 hz3 Hhop
          go_wp2_with fail
          refine Hhop2.out.mono ?_
          rintro e w4 ⟨rfl, hI4, hu4, hz4⟩
          have hs4 := Two.right HhBW.out Hhs3.out hI4 Hhwy.out hu4
          have Hhs4 := Lib.hid hs4; clear hs4
          clear hI4 hu4 hz4 Hhop2
          go_wp2_with fail
          go_roundw
          case rel => exact ⟨j + 1, _, _, by go_num, by omega, Hhs4.out, Hhr2.out⟩
          case measure => simp [intOf]; omega
    case rest =>
      obtain ⟨x1, y1, hs1, hr1⟩ := hcut
      clear Hhst0 HhF
      have Hhs1 := Lib.hid hs1; clear hs1
      have Hhr1 := Lib.hid hr1; clear hr1
      go_upto_block 2 with fail
      go_cut [56] (fun i wx => ∃ y : Mk, Two W B k (refsOf tt) (fun b => b ∈ fr ∨ b ∈ la) x1 y wx ∧ ∀ i : Nat, ((i : Int) ∈ fr ∨ (i : Int) ∈ la) → i < k → y.m i = true)
      case first =>
        go_wp2_with fail
        go_loopw [56] (fun i wr => ∃ (j : Nat) (y : Mk), i = .int .i64 j ∧ j ≤ la.length ∧ Two W B k (refsOf tt) (fun b => b ∈ fr ∨ b ∈ la) x1 y wr ∧ ∀ i : Nat, ((i : Int) ∈ fr ∨ (i : Int) ∈ la.take j) → i < k → y.m i = true) (fun i _ => (la.length - intOf i).toNat)
        case atStart => exact ⟨0, _, rfl, Nat.zero_le _, Hhs1.out, fun i h hi => by
          rcases h with h | h
          · exact (Hhr1.out i h hi).2
          · cases h⟩
        case round =>
          obtain ⟨j, y, rfl, hj, hs, hr⟩ := hrel
          clear Hhs1
          by_cases hjl : j = la.length
          · have e1 : ¬ ((j : Int) < la.length) := by omega
            rw [hjl, List.take_length] at hr
            have Hhs := Lib.hid hs; clear hs
            have Hhr := Lib.hid hr; clear hr
            clear hjl
            go_wp2_with fail
            go_meet
            exact ⟨y, Hhs.out, Hhr.out⟩
          · have e1 : (j : Int) < la.length := by omega
            have hj2 : j < la.length := by omega
            obtain ⟨b0, off, hix, hcb⟩ := int_at HhL.out hj2
            have hcell := hcb wr hs.up.none
            have hmem : la.getD j 0 ∈ la := by simp [List.getD, hj2]
            have htk : la.take (j + 1) = la.take j ++ [la.getD j 0] := by
              rw [List.take_succ_eq_append_getElem hj2]
              simp [List.getD, hj2]
            generalize la.getD j 0 = b at *
            have hr2 : ∀ i : Nat, ((i : Int) ∈ fr ∨ (i : Int) ∈ la.take (j + 1)) → i < k → (y.shade b).m i = true := fun i hi hik => by
              rw [htk] at hi
              rcases hi with hi | hi
              · exact shade_mono y b i (hr i (Or.inl hi) hik)
              · rcases List.mem_append.1 hi with hi | hi
                · exact shade_mono y b i (hr i (Or.inr hi) hik)
                · have hi : (i : Int) = b := by simpa using hi
                  subst hi
                  have m2 := shade_marks y (i : Int) (by omega) (by rw [hs.wb.n]; omega)
                  simpa using m2
            have hop := mark_Shade (B + 6) b y wr hs.b
            unfold MkPost at hop
            have hwy := hs.wb.shade b (Or.inr hmem)
            have Hhop := Lib.hid hop; clear hop
            have Hhs := Lib.hid hs; clear hs
            have Hhwy := Lib.hid hwy; clear hwy
            have Hhr2 := Lib.hid hr2; clear hr2
            have Hhmem := Lib.hid hmem; clear hmem
            have Hhtk := Lib.hid htk; clear htk
            clear hjl hcb hr
            go_wp2_with fail
            refine Hhop.out.mono ?_
            rintro e w4 ⟨rfl, hI4, hu4, hz4⟩
            have hs4 := Two.right HhBW.out Hhs.out hI4 Hhwy.out hu4
            have Hhs4 := Lib.hid hs4; clear hs4
            clear hI4 hu4 hz4 Hhop
            go_wp2_with fail
            go_roundw
            case rel => exact ⟨j + 1, _, by go_num, by omega, Hhs4.out, Hhr2.out⟩
            case measure => simp [intOf]; omega
      case rest =>
        obtain ⟨y2, hs2, hr2⟩ := hcut
        have hrx : ∀ i : Nat, (i : Int) ∈ fr → i < k → x1.m i = true := fun i h hi => (Hhr1.out i h hi).1
        clear Hhs1 Hhr1
        have Hhs2 := Lib.hid hs2; clear hs2
        have Hhr2 := Lib.hid hr2; clear hr2
        have Hhrx := Lib.hid hrx; clear hrx
        go_upto_block 4 with fail
        go_cut [17] (fun i wx => ∃ x y : Mk, Two W B k (refsOf tt) (fun b => b ∈ fr ∨ b ∈ la) x y wx ∧ (∀ i : Nat, ((i : Int) ∈ fr ∨ (i : Int) ∈ la) → i < k → x.m i = true ∧ y.m i = true) ∧ x.done = true ∧ y.done = true)
        case first =>
          go_wp2_with fail
          go_loopw [17] (fun c wr => ∃ (q : Nat) (x y : Mk), c = .int .i64 q ∧ q ≤ 6 * k + 50 ∧ Two W B k (refsOf tt) (fun b => b ∈ fr ∨ b ∈ la) x y wr ∧ (∀ i : Nat, ((i : Int) ∈ fr ∨ (i : Int) ∈ la) → i < k → y.m i = true) ∧ (∀ i : Nat, ((i : Int) ∈ fr ∨ (i : Int) ∈ la.take q) → i < k → x.m i = true) ∧ (30 ≤ q → x.done = true ∨ q + x.phi ≤ 2 * k + 31) ∧ (y.done = true ∨ q + y.phi ≤ 2 * k + 1)) (fun c _ => (6 * k + 51 - intOf c).toNat)
          case atStart => exact ⟨0, _, _, rfl, Nat.zero_le _, Hhs2.out, Hhr2.out, (fun i h hi => (h.elim (fun h => Hhrx.out i h hi) (fun h => (by cases h)))), fun h => (by omega), Or.inr (by have h1 := phi_le y2; have h2 := Hhs2.out.wb.n; omega)⟩
          case round =>
            obtain ⟨q, x, y, rfl, hq, hs, hry, hrx, hdx, hdy⟩ := hrel
            clear Hhs2 Hhr2 Hhrx
            by_cases hqe : q = 6 * k + 50
            · have e1 : ¬ ((q : Int) < 6 * (k : Int) + 50) := by omega
              have dx : x.done = true := by
                rcases hdx (by omega) with h | h
                · exact h
                · omega
              have dy : y.done = true := by
                rcases hdy with h | h
                · exact h
                · omega
              have hall : ∀ i : Nat, ((i : Int) ∈ fr ∨ (i : Int) ∈ la) → i < k → x.m i = true ∧ y.m i = true := fun i h hi => by
                refine ⟨hrx i ?_ hi, hry i h hi⟩
                rw [List.take_of_length_le (by omega)]
                exact h
              have Hhs := Lib.hid hs; clear hs
              have Hhall := Lib.hid hall; clear hall
              have Hdx := Lib.hid dx; clear dx
              have Hdy := Lib.hid dy; clear dy
              clear hqe hdx hdy hrx hry
              go_wp2_with fail
              go_meet
              exact ⟨x, y, Hhs.out, Hhall.out, Hdx.out, Hdy.out⟩
            · have e1 : (q : Int) < 6 * (k : Int) + 50 := by omega
              have hqI : (q : Int) ≤ 500 := by omega
              by_cases hql : q < la.length
              · have e2 : (q : Int) < la.length := by omega
                obtain ⟨b0, off, hix, hcb⟩ := int_at HhL.out hql
                have hcell := hcb wr hs.up.none
                have hmem : la.getD q 0 ∈ la := by simp [List.getD, hql]
                have htk : la.take (q + 1) = la.take q ++ [la.getD q 0] := by
                  rw [List.take_succ_eq_append_getElem hql]
                  simp [List.getD, hql]
                generalize la.getD q 0 = b at *
                have hx2 : ∀ i : Nat, ((i : Int) ∈ fr ∨ (i : Int) ∈ la.take (q + 1)) → i < k → (x.shade b).m i = true := fun i hi hik => by
                  rw [htk] at hi
                  rcases hi with hi | hi
                  · exact shade_mono x b i (hrx i (Or.inl hi) hik)
                  · rcases List.mem_append.1 hi with hi | hi
                    · exact shade_mono x b i (hrx i (Or.inr hi) hik)
                    · have hi : (i : Int) = b := by simpa using hi
                      subst hi
                      have m2 := shade_marks x (i : Int) (by omega) (by rw [hs.wa.n]; omega)
                      simpa using m2
                have hop := mark_Shade B b x wr hs.a
                unfold MkPost at hop
                have hwx := hs.wa.shade b (Or.inr hmem)
                have hlate : 30 ≤ q + 1 → (x.shade b).done = true ∨ q + (x.shade b).phi ≤ 2 * k + 31 := fun h => Or.inr (by have h1 := phi_le (x.shade b); have h2 := hwx.n; omega)
                generalize x.shade b = z at *
                have Hhop := Lib.hid hop; clear hop
                have Hhs := Lib.hid hs; clear hs
                have Hhwx := Lib.hid hwx; clear hwx
                have Hhx2 := Lib.hid hx2; clear hx2
                have Hhmem := Lib.hid hmem; clear hmem
                have Hhtk := Lib.hid htk; clear htk
                have Hhry := Lib.hid hry; clear hry
                have Hhdy := Lib.hid hdy; clear hdy
                have Hhlate := Lib.hid hlate; clear hlate
                clear hcb hrx hdx hqe
                go_wp2_with fail
                refine Hhop.out.mono ?_
                rintro e w3 ⟨rfl, hI3, hu3, hz3⟩
                have hs3 := Two.left HhBW.out Hhs.out hI3 Hhwx.out hu3
                have Hhs3 := Lib.hid hs3; clear hs3
                clear hI3 hu3 hz3 Hhop
                have hrf := law_refs ta tt.length tc w3
                unfold RefsPost at hrf
                have Hhrf := Lib.hid hrf; clear hrf
                go_wp2_with fail
                refine Hhrf.out.mono ?_
                rintro e w5 ⟨bx, rfl, hc5, hbx5, hbx5', hu5⟩
                have hS := step_table (B := B) Hhs3.out.a Hhs3.out.wa.ok (by rw [Hhs3.out.wa.n]; omega) HhBW.out HhM.out Hhs3.out.up (by have := Hhs3.out.size; omega) hc5 hbx5 hu5 Hhlb.out
                unfold StepPost at hS
                have hs5 := Hhs3.out.still hu5
                have hwz := hs5.wa.step
                have hph5 : 30 ≤ q + 1 → (z.step (refsOf tt)).done = true ∨ (q + 1) + (z.step (refsOf tt)).phi ≤ 2 * k + 31 := fun h => by
                  cases hd : z.done
                  · have h1 := step_phi hs5.wa.ok (refsOf tt) hd
                    rcases Hhlate.out h with h2 | h2
                    · rw [hd] at h2; cases h2
                    · exact Or.inr (by omega)
                  · exact Or.inl (by rw [step_done hd]; exact hd)
                have hx5 : ∀ i : Nat, ((i : Int) ∈ fr ∨ (i : Int) ∈ la.take (q + 1)) → i < k → (z.step (refsOf tt)).m i = true := fun i hi hik => step_mono hs5.wa.ok _ i (Hhx2.out i hi hik)
                generalize z.step (refsOf tt) = x5 at *
                generalize (!z.done) = bd5 at *
                have HhS := Lib.hid hS; clear hS
                have Hhs5 := Lib.hid hs5; clear hs5
                have Hhwz := Lib.hid hwz; clear hwz
                have Hhph5 := Lib.hid hph5; clear hph5
                have Hhx5 := Lib.hid hx5; clear hx5
                clear hc5 hbx5 hbx5' hu5 Hhrf
                go_wp2_with fail
                refine HhS.out.mono ?_
                rintro e w6 ⟨rfl, hI6, hu6⟩
                have hs6 := Two.left HhBW.out Hhs5.out hI6 Hhwz.out hu6
                have hrf2 := law_refs ta tt.length tc w6
                unfold RefsPost at hrf2
                have Hhs6 := Lib.hid hs6; clear hs6
                have Hhrf2 := Lib.hid hrf2; clear hrf2
                clear hI6 hu6 HhS
                go_wp2_with fail
                refine Hhrf2.out.mono ?_
                rintro e w7 ⟨by7, rfl, hc7, hbx7, hbx7', hu7⟩
                have hS7 := step_table (B := B + 6) Hhs6.out.b Hhs6.out.wb.ok (by rw [Hhs6.out.wb.n]; omega) (by have := HhBW.out; omega) HhM.out Hhs6.out.up (by have := Hhs6.out.size; omega) hc7 hbx7 hu7 Hhlb.out
                unfold StepPost at hS7
                have hs7 := Hhs6.out.still hu7
                have hwy7 := hs7.wb.step
                have hph7 : (y.step (refsOf tt)).done = true ∨ (q + 1) + (y.step (refsOf tt)).phi ≤ 2 * k + 1 := by
                  cases hd : y.done
                  · have h1 := step_phi hs7.wb.ok (refsOf tt) hd
                    rcases Hhdy.out with h2 | h2
                    · rw [hd] at h2; cases h2
                    · exact Or.inr (by omega)
                  · exact Or.inl (by rw [step_done hd]; exact hd)
                have hy7 : ∀ i : Nat, ((i : Int) ∈ fr ∨ (i : Int) ∈ la) → i < k → (y.step (refsOf tt)).m i = true := fun i hi hik => step_mono hs7.wb.ok _ i (Hhry.out i hi hik)
                generalize y.step (refsOf tt) = y7 at *
                generalize (!y.done) = bd7 at *
                have HhS7 := Lib.hid hS7; clear hS7
                have Hhs7 := Lib.hid hs7; clear hs7
                have Hhwy7 := Lib.hid hwy7; clear hwy7
                have Hhph7 := Lib.hid hph7; clear hph7
                have Hhy7 := Lib.hid hy7; clear hy7
                clear hc7 hbx7 hbx7' hu7 Hhrf2
                go_wp2_with fail
                refine HhS7.out.mono ?_
                rintro e w8 ⟨rfl, hI8, hu8⟩
                have hs8 := Two.right HhBW.out Hhs7.out hI8 Hhwy7.out hu8
                have Hhs8 := Lib.hid hs8; clear hs8
                clear hI8 hu8 HhS7
                go_wp2_with fail
                go_roundw
                case rel => exact ⟨q + 1, x5, y7, by go_num, by omega, Hhs8.out, Hhy7.out, Hhx5.out, Hhph5.out, Hhph7.out⟩
                case measure => simp [intOf]; omega
              · have e2 : ¬ (q : Int) < la.length := by omega
                have hx2 : ∀ i : Nat, ((i : Int) ∈ fr ∨ (i : Int) ∈ la.take (q + 1)) → i < k → x.m i = true := fun i hi hik => by
                  refine hrx i ?_ hik
                  rw [List.take_of_length_le (by omega)] at hi ⊢
                  exact hi
                have hlate : 30 ≤ q + 1 → x.done = true ∨ q + x.phi ≤ 2 * k + 31 := fun h => by
                  by_cases h30 : 30 ≤ q
                  · exact hdx h30
                  · exact Or.inr (by have h1 := phi_le x; have h2 := hs.wa.n; omega)
                obtain ⟨z, hz⟩ : ∃ z, x = z := ⟨_, rfl⟩
                obtain ⟨w3, hw3⟩ : ∃ w3, wr = w3 := ⟨_, rfl⟩
                subst hz hw3
                have hs3 := hs
                have Hhs3 := Lib.hid hs3; clear hs3
                have Hhx2 := Lib.hid hx2; clear hx2
                have Hhry := Lib.hid hry; clear hry
                have Hhdy := Lib.hid hdy; clear hdy
                have Hhlate := Lib.hid hlate; clear hlate
                clear hs hrx hdx hqe
                have hrf := law_refs ta tt.length tc wr
                unfold RefsPost at hrf
                have Hhrf := Lib.hid hrf; clear hrf
                go_wp2_with fail
                refine Hhrf.out.mono ?_
                rintro e w5 ⟨bx, rfl, hc5, hbx5, hbx5', hu5⟩
                have hS := step_table (B := B) Hhs3.out.a Hhs3.out.wa.ok (by rw [Hhs3.out.wa.n]; omega) HhBW.out HhM.out Hhs3.out.up (by have := Hhs3.out.size; omega) hc5 hbx5 hu5 Hhlb.out
                unfold StepPost at hS
                have hs5 := Hhs3.out.still hu5
                have hwz := hs5.wa.step
                have hph5 : 30 ≤ q + 1 → (x.step (refsOf tt)).done = true ∨ (q + 1) + (x.step (refsOf tt)).phi ≤ 2 * k + 31 := fun h => by
                  cases hd : x.done
                  · have h1 := step_phi hs5.wa.ok (refsOf tt) hd
                    rcases Hhlate.out h with h2 | h2
                    · rw [hd] at h2; cases h2
                    · exact Or.inr (by omega)
                  · exact Or.inl (by rw [step_done hd]; exact hd)
                have hx5 : ∀ i : Nat, ((i : Int) ∈ fr ∨ (i : Int) ∈ la.take (q + 1)) → i < k → (x.step (refsOf tt)).m i = true := fun i hi hik => step_mono hs5.wa.ok _ i (Hhx2.out i hi hik)
                generalize x.step (refsOf tt) = x5 at *
                generalize (!x.done) = bd5 at *
                have HhS := Lib.hid hS; clear hS
                have Hhs5 := Lib.hid hs5; clear hs5
                have Hhwz := Lib.hid hwz; clear hwz
                have Hhph5 := Lib.hid hph5; clear hph5
                have Hhx5 := Lib.hid hx5; clear hx5
                clear hc5 hbx5 hbx5' hu5 Hhrf
                go_wp2_with fail
                refine HhS.out.mono ?_
                rintro e w6 ⟨rfl, hI6, hu6⟩
                have hs6 := Two.left HhBW.out Hhs5.out hI6 Hhwz.out hu6
                have hrf2 := law_refs ta tt.length tc w6
                unfold RefsPost at hrf2
                have Hhs6 := Lib.hid hs6; clear hs6
                have Hhrf2 := Lib.hid hrf2; clear hrf2
                clear hI6 hu6 HhS
                go_wp2_with fail
                refine Hhrf2.out.mono ?_
                rintro e w7 ⟨by7, rfl, hc7, hbx7, hbx7', hu7⟩
                have hS7 := step_table (B := B + 6) Hhs6.out.b Hhs6.out.wb.ok (by rw [Hhs6.out.wb.n]; omega) (by have := HhBW.out; omega) HhM.out Hhs6.out.up (by have := Hhs6.out.size; omega) hc7 hbx7 hu7 Hhlb.out
                unfold StepPost at hS7
                have hs7 := Hhs6.out.still hu7
                have hwy7 := hs7.wb.step
                have hph7 : (y.step (refsOf tt)).done = true ∨ (q + 1) + (y.step (refsOf tt)).phi ≤ 2 * k + 1 := by
                  cases hd : y.done
                  · have h1 := step_phi hs7.wb.ok (refsOf tt) hd
                    rcases Hhdy.out with h2 | h2
                    · rw [hd] at h2; cases h2
                    · exact Or.inr (by omega)
                  · exact Or.inl (by rw [step_done hd]; exact hd)
                have hy7 : ∀ i : Nat, ((i : Int) ∈ fr ∨ (i : Int) ∈ la) → i < k → (y.step (refsOf tt)).m i = true := fun i hi hik => step_mono hs7.wb.ok _ i (Hhry.out i hi hik)
                generalize y.step (refsOf tt) = y7 at *
                generalize (!y.done) = bd7 at *
                have HhS7 := Lib.hid hS7; clear hS7
                have Hhs7 := Lib.hid hs7; clear hs7
                have Hhwy7 := Lib.hid hwy7; clear hwy7
                have Hhph7 := Lib.hid hph7; clear hph7
                have Hhy7 := Lib.hid hy7; clear hy7
                clear hc7 hbx7 hbx7' hu7 Hhrf2
                go_wp2_with fail
                refine HhS7.out.mono ?_
                rintro e w8 ⟨rfl, hI8, hu8⟩
                have hs8 := Two.right HhBW.out Hhs7.out hI8 Hhwy7.out hu8
                have Hhs8 := Lib.hid hs8; clear hs8
                clear hI8 hu8 HhS7
                go_wp2_with fail
                go_roundw
                case rel => exact ⟨q + 1, x5, y7, by go_num, by omega, Hhs8.out, Hhy7.out, Hhx5.out, Hhph5.out, Hhph7.out⟩
                case measure => simp [intOf]; omega
        case rest =>
          obtain ⟨x, y, hs, hr, dx, dy⟩ := hcut
          clear Hhs2 Hhr2 Hhrx HhL
          obtain ⟨wr, hwr⟩ : ∃ wr, wr = wc := ⟨_, rfl⟩
          subst hwr
          have hsame := hs.wa.same hs.wb dx dy (fun i h1 h2 => (hr i h1 h2).1) (fun i h1 h2 => (hr i h1 h2).2)
          have hDx := mark_Done B x wr hs.a
          have hDy := mark_Done (B + 6) y wr hs.b
          rw [dx] at hDx
          rw [dy] at hDy
          have HhDx := Lib.hid hDx; clear hDx
          have HhDy := Lib.hid hDy; clear hDy
          clear hr
          have hMx := mark_Marks B x wr hs.a
          rw [hs.wa.n] at hMx
          have Hhsame := Lib.hid hsame; clear hsame
          have Hhs := Lib.hid hs; clear hs
          have Hdx := Lib.hid dx; clear dx
          have Hdy := Lib.hid dy; clear dy
          go_wp2_with (first | (go_at_call 40; first | ((with_reducible refine HhDx.out.mono ?_); rintro e w9 ⟨rfl, rfl⟩) | ((with_reducible refine HhDy.out.mono ?_); rintro e w9 ⟨rfl, rfl⟩)))
          refine hMx.mono ?_
          rintro e w3 ⟨b3, g3, rfl, hM3, -, -, hu3⟩
          have hW3 := words_own hM3 (Upd.refl _ _)
          have HhM3 := Lib.hid hM3; clear hM3
          have Hhu3 := Lib.hid hu3; clear hu3
          clear hMx
          go_wp2_with fail
          refine hW3.mono ?_
          rintro e w4 ⟨g4, c4, rfl, hw4, hu4⟩
          have hs4 := (Hhs.out.still Hhu3.out).still hu4
          have hMy := mark_Marks (B + 6) y w4 hs4.b
          rw [hs4.wb.n] at hMy
          have Hhw4 := Lib.hid hw4; clear hw4
          have Hhs4 := Lib.hid hs4; clear hs4
          clear hW3 hu4
          go_wp2_with fail
          refine hMy.mono ?_
          rintro e w5 ⟨b5, g5, rfl, hM5, -, -, hu5⟩
          have hW5 := words_own hM5 (Upd.refl _ _)
          have hs5 := Hhs4.out.still hu5
          have hw5 := Hhw4.out.upd hu5.none
          have HhM5 := Lib.hid hM5; clear hM5
          have Hhs5 := Lib.hid hs5; clear hs5
          have Hhw5 := Lib.hid hw5; clear hw5
          clear hMy hu5
          go_wp2_with fail
          refine hW5.mono ?_
          rintro e w6 ⟨g6, c6, rfl, hw6, hu6⟩
          have hs6 := Hhs5.out.still hu6
          have hSm := same_words (Hhw5.out.upd hu6.none) hw6 Hhsame.out (Upd.refl (fun _ => False) w6)
          have Hhs6 := Lib.hid hs6; clear hs6
          clear hW5 hw6 hu6
          go_wp2_with fail
          refine hSm.mono ?_
          rintro e w7 ⟨rfl, hu7⟩
          have haw := awake19 W w7 (Hhs6.out.up.trans hu7)
          have Hhaw := Lib.hid haw; clear haw
          clear hSm hu7
          go_wp2_with (go_at_call 32; (with_reducible refine Hhaw.out.mono ?_); rintro e w8 ⟨rfl, hu⟩)
          go_ret
          exact ⟨rfl, hu.none⟩
  · have haw := awake19 W W (Upd.refl _ _)
    cases hlt : lightM tt
    · rw [hlt] at hlight
      have Hhlight := Lib.hid hlight; clear hlight
      have Hhaw := Lib.hid haw; clear haw
      clear hM hF hL hgo hlt
      go_enter Try.func13, Try.ntmps13
      go_wp2_with (first | (go_at_call 31; (with_reducible refine Hhlight.out.mono ?_); rintro e w2 ⟨rfl, rfl⟩) | (go_at_call 32; (with_reducible refine Hhaw.out.mono ?_); rintro e w2 ⟨rfl, hu⟩))
      go_ret
      exact ⟨rfl, hu.none⟩
    · rw [hlt] at hlight hgo
      have key : ((30 : Int) < fr.length) ∨ (¬ ((30 : Int) < fr.length) ∧ (30 : Int) < la.length) := by
        by_cases h1 : fr.length ≤ 30
        · by_cases h2 : la.length ≤ 30
          · exact absurd ⟨rfl, h1, h2⟩ hgo
          · exact Or.inr ⟨by omega, by omega⟩
        · exact Or.inl (by omega)
      have Hhlight := Lib.hid hlight; clear hlight
      have Hhaw := Lib.hid haw; clear haw
      clear hM hF hL hgo hlt
      rcases key with c1 | ⟨c1, c2⟩
      all_goals
        go_enter Try.func13, Try.ntmps13
        go_wp2_with (first | (go_at_call 31; (with_reducible refine Hhlight.out.mono ?_); rintro e w2 ⟨rfl, rfl⟩) | (go_at_call 32; (with_reducible refine Hhaw.out.mono ?_); rintro e w2 ⟨rfl, hu⟩))
        go_ret
        exact ⟨rfl, hu.none⟩

theorem own : ownKnob Try.prog.godebug = none := by kernel_rfl
theorem laidOut : laidOutB Try.prog = true := by kernel_rfl
set_option maxRecDepth 100000 in
theorem lifted (os : Os) (started : os.Started) (H : Type) (enc : TypeId × Value → H) :
    ReturnsInHanded {} Try.checked os 13 .any (Rows.markLateSpec.pre6 enc Try.prog Try.f13 Rows.markLateRow.domain false) (Rows.markLateSpec.post enc Try.prog Try.f13 false true false false) := by
  refine returnsInHanded_of_change_sized (C := Try.checked) own started (by kernel_rfl) Try.func13
    (ChangeSpec.witness6 (enc := enc) (C := Try.checked) false ⟨#[], #[.int .i64 0, .int .i64 0, .slice none 0 0, .slice none 0 0, .slice none 0 0], []⟩ 8 (by kernel_rfl) (by kernel_rfl) (by kernel_rfl) (by kernel_rfl)) ?_
  intro W base args ds gs before hval0 hW _ hsz0 _
  have hsz : (DataW.weightsEach Try.prog (Try.f13.params.toList ++ Rows.markLateSpec.plain.varTypes Try.prog) (ds ++ gs)).all (· ≤ reachBytes) = true := hsz0
  clear hsz0
  have hval : ∀ (j : Nat) t v, Try.f13.params[j]? = some t → args[j]? = some v → Value.okWide Try.prog W .any base t v := hval0
  have hW' := hW
  obtain ⟨p, q, hA0, hV, rfl, _, _⟩ := hW
  have hA : DataW.TrodAll enc Try.prog W 0 (fun _ => true) true Try.f13.params.toList args.toList ds p := hA0
  rw [Try.params13] at hA hval hsz
  obtain ⟨v0, vs0, d0, ds0, p0, q0, hargs, rfl, rfl, h0, r0⟩ := trodAll_cons hA
  obtain ⟨v1, vs1, d1, ds1, p1, q1, rfl, rfl, rfl, h1, r1⟩ := trodAll_cons r0
  obtain ⟨v2, vs2, d2, ds2, p2, q2, rfl, rfl, rfl, h2, r2⟩ := trodAll_cons r1
  obtain ⟨v3, vs3, d3, ds3, p3, q3, rfl, rfl, rfl, h3, r3⟩ := trodAll_cons r2
  obtain ⟨v4, vs4, d4, ds4, p4, q4, rfl, rfl, rfl, h4, r4⟩ := trodAll_cons r3
  obtain ⟨rfl, rfl, rfl⟩ := trodAll_nil r4
  obtain rfl : args = #[v0, v1, v2, v3, v4] := by cases args; simp_all
  obtain ⟨rfl, rfl⟩ := trodVars_none hV
  clear hA0 hval0
  simp only [List.append_nil] at hW'
  have hlt : ∀ x, (x ∈ p0 ∨ x ∈ p1 ∨ x ∈ p2 ∨ x ∈ p3 ∨ x ∈ p4) → x.block < W.heap.size := fun x hx => by simpa using hW'.lt x (by simpa using hx)
  have k0 : ∀ (W' : World), Below W.heap.size W W' → DataW.Trod enc Try.prog W' 0 (fun b => decide (b < W.heap.size)) true 3 v0 d0 p0 :=
    fun W' hn => Below.trod laidOut (by kernel_rfl) (of_decide_eq_true (by kernel_rfl)) h0 hn (fun x hx => hlt x (Or.inl hx))
  have k1 : ∀ (W' : World), Below W.heap.size W W' → DataW.Trod enc Try.prog W' 0 (fun b => decide (b < W.heap.size)) true 3 v1 d1 p1 :=
    fun W' hn => Below.trod laidOut (by kernel_rfl) (of_decide_eq_true (by kernel_rfl)) h1 hn (fun x hx => hlt x (Or.inr (Or.inl hx)))
  have k2 : ∀ (W' : World), Below W.heap.size W W' → DataW.Trod enc Try.prog W' 0 (fun b => decide (b < W.heap.size)) true 49 v2 d2 p2 :=
    fun W' hn => Below.trod laidOut (by kernel_rfl) (of_decide_eq_true (by kernel_rfl)) h2 hn (fun x hx => hlt x (Or.inr (Or.inr (Or.inl hx))))
  have k3 : ∀ (W' : World), Below W.heap.size W W' → DataW.Trod enc Try.prog W' 0 (fun b => decide (b < W.heap.size)) true 50 v3 d3 p3 :=
    fun W' hn => Below.trod laidOut (by kernel_rfl) (of_decide_eq_true (by kernel_rfl)) h3 hn (fun x hx => hlt x (Or.inr (Or.inr (Or.inr (Or.inl hx)))))
  have k4 : ∀ (W' : World), Below W.heap.size W W' → DataW.Trod enc Try.prog W' 0 (fun b => decide (b < W.heap.size)) true 50 v4 d4 p4 :=
    fun W' hn => Below.trod laidOut (by kernel_rfl) (of_decide_eq_true (by kernel_rfl)) h4 hn (fun x hx => hlt x (Or.inr (Or.inr (Or.inr (Or.inr (hx))))))
  obtain ⟨a0, rfl, _, _, w0⟩ := open_int Try.underlying3 (hval 0 3 v0 rfl rfl) h0
  obtain ⟨a1, rfl, _, _, w1⟩ := open_int Try.underlying3 (hval 1 3 v1 rfl rfl) h1
  obtain ⟨x2, hx2⟩ := open_matAt Try.underlying49 Try.underlying50 Try.underlying3 (by kernel_rfl) (by kernel_rfl) (by kernel_rfl) (hval 2 49 v2 rfl rfl) h2 hsz 2 rfl rfl
  obtain ⟨x3, hx3⟩ := open_intsAt (bytes := 8) Try.underlying50 Try.underlying3 (by kernel_rfl) (by kernel_rfl) (hval 3 50 v3 rfl rfl) h3 hsz 3 rfl rfl
  obtain ⟨x4, hx4⟩ := open_intsAt (bytes := 8) Try.underlying50 Try.underlying3 (by kernel_rfl) (by kernel_rfl) (hval 4 50 v4 rfl rfl) h4 hsz 4 rfl rfl
  refine (walk (W := W) a0 w0 a1 w1 v2 x2 hx2 v3 x3 hx3 v4 x4 hx4).mono fun e W' ⟨he, hb⟩ => ?_
  subst he
  refine ⟨_, rfl, _, _, _, [], p0 ++ (p1 ++ (p2 ++ (p3 ++ (p4 ++ ([]))))), [], hW', ?_, ?_, rfl, hb.frame _, fun h => by cases h⟩
  · exact trodAll_cons_mk (shut_bool Try.underlying4 true) trodAll_mk0
  · exact trodAll_cons_mk (k0 _ hb) (trodAll_cons_mk (k1 _ hb) (trodAll_cons_mk (k2 _ hb) (trodAll_cons_mk (k3 _ hb) (trodAll_cons_mk (k4 _ hb) (trodAll_mk0)))))

theorem over : Rows.markLateRow.holds Try.pinned (OpenSpec.ofChange Rows.markLateSpec) :=
  OpenClaim.holds_of_wide 13 Try.f13 rfl rfl rfl rfl rfl rfl rfl ⟨rfl, rfl, rfl, rfl, rfl⟩ rfl rfl rfl rfl rfl (by kernel_rfl) Try.func13 (by kernel_rfl)
    (of_decide_eq_true (by kernel_rfl)) (by unfold Func.isWrapper; first | (rw [if_pos (by decide +kernel)]; kernel_rfl) | (rw [if_neg (by decide +kernel)]; exact ⟨rfl, rfl⟩))
    (fun os started H enc _ => lifted os started H enc)

/-- The given statement. -/
theorem proved : Rows.MarkLateSaid := over
#print axioms proved
end Go.Proofs.Ythcimfblmpapeaa.markLate
