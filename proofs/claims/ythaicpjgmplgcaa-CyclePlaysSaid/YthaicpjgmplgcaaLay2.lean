/- Package layout: a new layout, its blocks and pages; the laws' configs. -/
import Derived.Test.YthaicpjgmplgcaaLay
import Derived.Test.YthaicpjgmplgcaaCloneI
namespace Go.Proofs.Ythaicpjgmplgcaa
open Go.RowKit Go.ChangeShapes Go.WideShapes
set_option linter.unusedVariables false

set_option maxRecDepth 100000 in
set_option maxHeartbeats 1000000 in
theorem lay_May (v : Value) (n0 n1 n2 n3 : Nat) (h0 : n0 ≤ 40) (h1 : n1 ≤ 40) (h2 : n2 ≤ 40) (h3 : n3 ≤ 40) (hs : 0 < n0 + n1 + n2 + n3) (w : World) (h : MatIn w v [[1]]) :
    Calls Try.prog 46 #[cfgV v n0 n1 n2 n3] w (RetK w (.int .i64 0)) := by
  have hc := fun w' (u : Upd (fun _ => False) w w') => contains_kinds v w' (h.upd u.none)
  unfold RetK at hc
  obtain ⟨va, vc, hv⟩ := mat_shape h
  have hl1 : ([[1]] : List (List Int)).length = 1 := rfl
  rw [hl1] at hv
  subst hv
  have hp := fun w' => lay_place va vc n0 n1 n2 n3 h0 h1 h2 h3 w'
  unfold PlacePost at hp
  unfold cfgV at hp ⊢
  have ix0 : ∀ w, (Instr.index 22 (.agg #[.int .i64 n0, .int .i64 n1, .int .i64 n2, .int .i64 n3]) (.int .i64 0)).run Try.prog w = .ok (.int .i64 n0) w := fun _ => by kernel_rfl
  have ix1 : ∀ w, (Instr.index 22 (.agg #[.int .i64 n0, .int .i64 n1, .int .i64 n2, .int .i64 n3]) (.int .i64 1)).run Try.prog w = .ok (.int .i64 n1) w := fun _ => by kernel_rfl
  have ix2 : ∀ w, (Instr.index 22 (.agg #[.int .i64 n0, .int .i64 n1, .int .i64 n2, .int .i64 n3]) (.int .i64 2)).run Try.prog w = .ok (.int .i64 n2) w := fun _ => by kernel_rfl
  have ix3 : ∀ w, (Instr.index 22 (.agg #[.int .i64 n0, .int .i64 n1, .int .i64 n2, .int .i64 n3]) (.int .i64 3)).run Try.prog w = .ok (.int .i64 n3) w := fun _ => by kernel_rfl
  have hw : ∀ (n : Nat) w', n ≤ 40 → Calls Try.prog 73 #[.int .i64 n, .int .i64 512] w' (Same w' (.bool true)) := fun n w' hn => by
    have := lay_within n 512 w'
    rw [decide_eq_true (by omega)] at this
    exact this
  have hw1 : ∀ w', Calls Try.prog 73 #[.int .i64 1, .int .i64 16] w' (Same w' (.bool true)) := fun w' => lay_within 1 16 w'
  have hw0 : ∀ w', Calls Try.prog 73 #[.int .i64 0, .int .i64 16] w' (Same w' (.bool true)) := fun w' => lay_within 0 16 w'
  have hneed := redo_need
  have hc1 := hc _ ((Upd.refl _ w).alloc (.cells #[.slice va 1 vc, .int .i64 n0, .int .i64 n1, .int .i64 n2, .int .i64 n3, .int .i64 1, .int .i64 0, .int .i64 40] 26))
  have hblk := Blk.new w [.slice va 1 vc, .int .i64 n0, .int .i64 n1, .int .i64 n2, .int .i64 n3, .int .i64 1, .int .i64 0, .int .i64 40] 26
  have Hhc1 := Lib.hid hc1; clear hc1
  have Hhp := Lib.hid hp; clear hp
  have Hhw := Lib.hid hw; clear hw
  have Hhw1 := Lib.hid hw1; clear hw1
  have Hhw0 := Lib.hid hw0; clear hw0
  have Hhneed := Lib.hid hneed; clear hneed
  have Hhblk := Lib.hid hblk; clear hblk
  clear h hc
  go_enter Try.func46, Try.ntmps46
  go_wp2_with fail
  refine Hhc1.out.mono ?_
  rintro e w1 ⟨rfl, hu1⟩
  have hb1 := Hhblk.out.upd hu1 (fun x => x)
  have u01 : Upd (fun _ => False) w w1 := ((Upd.refl _ w).alloc _).trans hu1
  generalize w.heap.size = B at *
  have Hu01 := Lib.hid u01; clear u01
  have Hhb1 := Lib.hid hb1; clear hb1
  clear hu1
  have d0 := Hhb1.out.cell 0 rfl
  have d1 := Hhb1.out.cell 1 rfl
  have d2 := Hhb1.out.cell 2 rfl
  have d3 := Hhb1.out.cell 3 rfl
  have d4 := Hhb1.out.cell 4 rfl
  have d5 := Hhb1.out.cell 5 rfl
  have d6 := Hhb1.out.cell 6 rfl
  have d7 := Hhb1.out.cell 7 rfl
  go_wp2_with fail
  go_loop [23, 3] (fun i s => ∃ (q : Nat) (b : Bool), i = .int .i64 q ∧ q ≤ 4 ∧ s = .bool b ∧ b = decide (0 < cntN n0 n1 n2 n3 q)) (fun i _ => (4 - intOf i).toNat)
  case atStart => exact ⟨0, false, rfl, by omega, rfl, by simp [cntN]⟩
  case round =>
    obtain ⟨q, b, rfl, hq, rfl, hb⟩ := hrel
    have hq5 : q = 0 ∨ q = 1 ∨ q = 2 ∨ q = 3 ∨ q = 4 := by omega
    rcases hq5 with rfl | rfl | rfl | rfl | rfl
    · rw [show ((0 : Nat) : Int) = 0 from rfl]
      have hst : (b || decide (0 < (n0 : Int))) = decide (0 < cntN n0 n1 n2 n3 1) := by
        rw [hb, Bool.eq_iff_iff]
        simp [cntN] <;> omega
      clear hb
      cases b
      all_goals
        go_wp2_with (first | (go_at_call 73; first | ((with_reducible refine (Hhw1.out _).mono ?_); rintro e w2 ⟨rfl, rfl⟩) | ((with_reducible refine (Hhw0.out _).mono ?_); rintro e w2 ⟨rfl, rfl⟩) | ((with_reducible refine (Hhw.out _ _ (by assumption)).mono ?_); rintro e w2 ⟨rfl, rfl⟩)))
        go_round
        case rel => exact ⟨1, _, rfl, by omega, rfl, by simpa using hst⟩
        case measure => simp [intOf]
    · rw [show ((1 : Nat) : Int) = 1 from rfl]
      have hst : (b || decide (0 < (n1 : Int))) = decide (0 < cntN n0 n1 n2 n3 2) := by
        rw [hb, Bool.eq_iff_iff]
        simp [cntN] <;> omega
      clear hb
      cases b
      all_goals
        go_wp2_with (first | (go_at_call 73; first | ((with_reducible refine (Hhw1.out _).mono ?_); rintro e w2 ⟨rfl, rfl⟩) | ((with_reducible refine (Hhw0.out _).mono ?_); rintro e w2 ⟨rfl, rfl⟩) | ((with_reducible refine (Hhw.out _ _ (by assumption)).mono ?_); rintro e w2 ⟨rfl, rfl⟩)))
        go_round
        case rel => exact ⟨2, _, rfl, by omega, rfl, by simpa using hst⟩
        case measure => simp [intOf]
    · rw [show ((2 : Nat) : Int) = 2 from rfl]
      have hst : (b || decide (0 < (n2 : Int))) = decide (0 < cntN n0 n1 n2 n3 3) := by
        rw [hb, Bool.eq_iff_iff]
        simp [cntN] <;> omega
      clear hb
      cases b
      all_goals
        go_wp2_with (first | (go_at_call 73; first | ((with_reducible refine (Hhw1.out _).mono ?_); rintro e w2 ⟨rfl, rfl⟩) | ((with_reducible refine (Hhw0.out _).mono ?_); rintro e w2 ⟨rfl, rfl⟩) | ((with_reducible refine (Hhw.out _ _ (by assumption)).mono ?_); rintro e w2 ⟨rfl, rfl⟩)))
        go_round
        case rel => exact ⟨3, _, rfl, by omega, rfl, by simpa using hst⟩
        case measure => simp [intOf]
    · rw [show ((3 : Nat) : Int) = 3 from rfl]
      have hst : (b || decide (0 < (n3 : Int))) = decide (0 < cntN n0 n1 n2 n3 4) := by
        rw [hb, Bool.eq_iff_iff]
        simp [cntN] <;> omega
      clear hb
      cases b
      all_goals
        go_wp2_with (first | (go_at_call 73; first | ((with_reducible refine (Hhw1.out _).mono ?_); rintro e w2 ⟨rfl, rfl⟩) | ((with_reducible refine (Hhw0.out _).mono ?_); rintro e w2 ⟨rfl, rfl⟩) | ((with_reducible refine (Hhw.out _ _ (by assumption)).mono ?_); rintro e w2 ⟨rfl, rfl⟩)))
        go_round
        case rel => exact ⟨4, _, rfl, by omega, rfl, by simpa using hst⟩
        case measure => simp [intOf]
    · rw [show ((4 : Nat) : Int) = 4 from rfl]
      have hb2 : b = true := by rw [hb]; simp [cntN]; omega
      clear hb
      subst hb2
      clear ix0 ix1 ix2 ix3
      go_wp2_with (first | (go_at_call 73; first | ((with_reducible refine (Hhw1.out _).mono ?_); rintro e w2 ⟨rfl, rfl⟩) | ((with_reducible refine (Hhw0.out _).mono ?_); rintro e w2 ⟨rfl, rfl⟩) | ((with_reducible refine (Hhw.out _ _ (by assumption)).mono ?_); rintro e w2 ⟨rfl, rfl⟩)))
      have dd : w1.drew.cell? ⟨B, 7, none⟩ = some (.int .i64 40) := d7
      refine wp_hide (fun Q2 hQ2 => ?_)
      go_region_held3 (fun w' => w'.cell? ⟨B, 7, none⟩ = some (.int .i64 40))
        (((try go_split_ands); assumption))
        (((try go_split_ands); (go_at_call 74; (with_reducible refine (Hhneed.out _).mono ?_); rintro e w2 ⟨rfl, rfl⟩)))
      rw [hQ2.out]
      clear dd
      have d0 := Hhb1.out.drew.cell 0 rfl
      have d1 := Hhb1.out.drew.cell 1 rfl
      have d2 := Hhb1.out.drew.cell 2 rfl
      have d3 := Hhb1.out.drew.cell 3 rfl
      have d4 := Hhb1.out.drew.cell 4 rfl
      have d5 := Hhb1.out.drew.cell 5 rfl
      have d6 := Hhb1.out.drew.cell 6 rfl
      have d7 := Hhb1.out.drew.cell 7 rfl
      have hp1 := Hhp.out w1.drew
      go_wp2_with fail
      refine hp1.mono ?_
      rintro e w2 ⟨L, rfl, hL, hLz, hu2⟩
      obtain ⟨wo, hwo, hwo0, hwo1⟩ := lay_words hL
      have HhL := Lib.hid hL; clear hL
      have Hhu2 := Lib.hid hu2; clear hu2
      go_wp2_with fail
      go_ret
      exact ⟨rfl, Hu01.out.drew.trans Hhu2.out⟩
end Go.Proofs.Ythaicpjgmplgcaa
