/- Package mark: again, Step. -/
import Derived.Test.YthaicpjgmplgcaaMark
import Derived.Test.YthaicpjgmplgcaaStep
import Derived.WalkSpells
namespace Go.Proofs.Ythaicpjgmplgcaa
open Go.RowKit
set_option linter.unusedVariables false

theorem first_again (n : Nat) (y : Mk) (hn : y.n = n) (b : Nat) (hb : b ≤ n) :
    (firstB n y.m b n true = -1 ∧ y.againTo b (n - b) = y) ∨
    (∃ i d : Nat, firstB n y.m b n true = i ∧ b ≤ i ∧ i < n ∧ n - (i + 1) = d ∧ y.againTo b (n - b) = if y.s i then y.againTo (i + 1) d else if y.l.length < y.room then (y.push i).againTo (i + 1) d else y.push i) := by
  unfold firstB
  rw [show (max 0 (b : Int)).toNat = b from by omega, show ((min (n : Int) n) - (max 0 (b : Int))).toNat = n - b from by omega]
  rcases firstG_spec y.m true b (n - b) with ⟨h, h2⟩ | ⟨i, h, h2, h3, h4, h5⟩
  · exact Or.inl ⟨h, againTo_none y b _ (fun j h1 h3 => by simpa using h2 j h1 h3)⟩
  · refine Or.inr ⟨i, n - (i + 1), h, h2, by omega, rfl, ?_⟩
    rw [againTo_skip y b i _ h2 (by omega) (fun j h1 h6 => by simpa using h5 j h1 h6), show n - b - (i - b) = (n - (i + 1)) + 1 from by omega, againTo_at _ _ _ h4]

theorem push_n (y : Mk) (b : Int) : (y.push b).n = y.n ∧ (y.push b).m = y.m ∧ (y.push b).s = y.s ∧ (y.push b).room = y.room := ⟨rfl, rfl, rfl, rfl⟩

/-- Push onto a marker's stack. -/
theorem mk_push (B : Nat) (b : Int) (y : Mk) (w : World) (h : IsMk w B y) :
    Calls Try.prog 82 #[.pointer (some ⟨B + 4, 0, none⟩), .int .i64 b] w (MkPost w B (y.push b) (.bool (decide (y.l.length < y.room)))) := by
  refine (grey_push (B + 4) b y.l y.room y.over w h.2.2.2).mono ?_
  rintro e w2 ⟨rfl, h1, h2, h3⟩
  exact ⟨rfl, ⟨h.1.upd h2 (by omega), h.2.1.upd h2 (by omega) (by omega), h.2.2.1.upd h2 (by omega) (by omega), h1⟩, h2.mono (fun i _ e => ⟨by omega, by omega⟩), h3⟩

set_option maxRecDepth 100000 in
set_option maxHeartbeats 1000000 in
theorem mark_again (B : Nat) (x : Mk) (w : World) (h : IsMk w B x) (hn : x.n ≤ 1048576) :
    Calls Try.prog 85 #[.pointer (some ⟨B + 5, 0, none⟩)] w (MkPost w B x.again (.tuple #[])) := by
  obtain ⟨c0, c1, c2⟩ := h.cells
  have hR := grey_reset (B + 4) x.l x.room x.over w h.2.2.2
  unfold GreyReset at hR
  obtain ⟨R, hRe⟩ : ∃ R, x.again = R := ⟨_, rfl⟩
  have hRe' : ({ x with over := false } : Mk).againTo 0 (x.n - 0) = R := hRe
  rw [hRe]
  have hnI : (x.n : Int) ≤ 1048576 := by omega
  have Hh := Lib.hid h; clear h
  have HhR := Lib.hid hR; clear hR
  have HhRe' := Lib.hid hRe'; clear hRe'
  have HhRe := Lib.hid hRe; clear hRe
  have Hhn := Lib.hid hn; clear hn
  go_enter Try.func85, Try.ntmps85
  go_wp2_with fail
  refine wp_scope_loop 0 (fun a' w' => ∃ (y : Mk) (b : Nat) (u1 u3 u4 u5 u6 u7 u8 u9 u10 u11 u12 u13 u14 u15 u16 u17 u18 u19 u20 u21 u22 u23 u24 u25 u26 u27 u28 u29 u30 u31 u32 u33 u34 u35 u36 u37 u38 : Value), a' = { tmps := #[.pointer (some ⟨B + 5, 0, none⟩), u1, .int .i64 b, u3, u4, u5, u6, u7, u8, u9, u10, u11, u12, u13, u14, u15, u16, u17, u18, u19, u20, u21, u22, u23, u24, u25, u26, u27, u28, u29, u30, u31, u32, u33, u34, u35, u36, u37, u38], defers := [] } ∧ IsMk w' B y ∧ y.n = x.n ∧ b ≤ x.n ∧ y.againTo b (x.n - b) = R ∧ Upd (InMk B) w w' ∧ w'.heap.size = w.heap.size) (fun a' _ => (x.n - intOf (a'.tmps.getD 2 undef)).toNat) rfl ?_ ?_
  · rintro a' w2 ⟨y, b, u1, u3, u4, u5, u6, u7, u8, u9, u10, u11, u12, u13, u14, u15, u16, u17, u18, u19, u20, u21, u22, u23, u24, u25, u26, u27, u28, u29, u30, u31, u32, u33, u34, u35, u36, u37, u38, rfl, hI, hyn, hbn, hinv, hu, hz⟩
    obtain ⟨c0, c1, c2⟩ := hI.cells
    have hId := fun nq => hI.upd ((Upd.refl (fun _ => False) w2).drewN nq) (fun _ _ x => x)
    have hL := fun nq => Calls.quiet_of_same (same_still (map_Len (B + 1) y.n _ _ (hId nq).2.1.is))
    have hF := fun nq => Calls.quiet_of_same (same_still (map_FirstF (B + 1) B y.n y.m b y.n true _ (hId nq).2.1))
    rw [hyn] at hL hF
    rcases first_again x.n y hyn b hbn with ⟨h1, h2⟩ | ⟨i, d, h1, h2, h3, h4, h5⟩
    · rw [h1] at hF
      have hfin : ∀ nq, MkPost w B R (.tuple #[]) (.returned (.tuple #[])) (w2.drewN nq) := fun nq => ⟨rfl, by rw [← hinv, h2]; exact hId nq, hu.drewN nq, hz⟩
      have HhL := Lib.hid hL; clear hL
      have HhF := Lib.hid hF; clear hF
      have Hhfin := Lib.hid hfin; clear hfin
      clear h1 h2 hinv hI hId hu hz hyn
      go_wp2
      go_quiet ((first | (go_at_call 55; exact HhL.out _) | (go_at_call 94; exact HhF.out _)))
      go_wp2
      simp only [Exit.jump]
      go_end0
      exact Hhfin.out _
    · rw [h1] at hF
      have hiI : (i : Int) < x.n := by omega
      have hi0 : (0 : Int) ≤ i := by omega
      have hG := fun nq => map_GetF (B + 3) (B + 2) y.n y.s (i : Int) _ (hId nq).2.2.1
      have hP := fun nq => mk_push B (i : Int) y _ (hId nq)
      rw [hyn, decide_eq_true (by omega), Bool.true_and, Int.toNat_natCast] at hG
      rw [h5] at hinv
      have hu' := fun nq => hu.drewN nq
      have hz' := fun nq => (show (w2.drewN nq).heap.size = w.heap.size from hz)
      have hms : (x.n - ((i + 1 : Nat) : Int)).toNat < (x.n - (b : Int)).toNat := by omega
      have hms : (max (x.n - ((i + 1 : Nat) : Int)) 0) < x.n - (b : Int) := by omega
      have hi1 : i + 1 ≤ x.n := by omega
      rw [← h4] at hinv
      have hI0 := Lib.hid hI
      clear h1 h5 hI hId hu hz h4
      cases hs : y.s i
      · rw [hs] at hG hinv
        simp only [Bool.false_eq_true, if_false] at hinv
        unfold MkPost at hP
        by_cases hr : y.l.length < y.room
        · rw [if_pos hr] at hinv
          rw [decide_eq_true hr] at hP
          have HhL := Lib.hid hL; clear hL
          have HhF := Lib.hid hF; clear hF
          have HhG := Lib.hid hG; clear hG
          have HhP := Lib.hid hP; clear hP
          have Hhinv := Lib.hid hinv; clear hinv
          have Hhu' := Lib.hid hu'; clear hu'
          have Hhz' := Lib.hid hz'; clear hz'
          have Hhms := Lib.hid hms; clear hms
          have Hhr := Lib.hid hr; clear hr
          have Hhs := Lib.hid hs; clear hs
          have Hhyn := Lib.hid hyn; clear hyn
          go_wp2
          go_quiet ((first | (go_at_call 55; exact HhL.out _) | (go_at_call 94; exact HhF.out _)))
          go_wp2_with (first | (go_at_call 24; (with_reducible refine (HhG.out _).mono ?_); rintro e w3 ⟨rfl, rfl⟩) | (go_at_call 82; (with_reducible refine (HhP.out _).mono ?_); rintro e w3 ⟨rfl, hI3, hu3, hz3⟩; have HI3 := Lib.hid hI3; have Hu3 := Lib.hid ((Hhu'.out _).trans hu3); have Hz3 := Lib.hid (hz3.trans (Hhz'.out _)); clear hI3 hu3 hz3))
          go_step3
          exact ⟨rfl, ⟨y.push i, i + 1, _, _, _, _, _, _, _, _, _, _, _, _, _, _, _, _, _, _, _, _, _, _, _, _, _, _, _, _, _, _, _, _, _, _, _, _, _, rfl, HI3.out, Hhyn.out, hi1, Hhinv.out, Hu3.out, Hz3.out⟩, by have := Hhms.out; simp [intOf]; omega⟩
        · rw [if_neg hr] at hinv
          rw [decide_eq_false hr, hinv] at hP
          have HhL := Lib.hid hL; clear hL
          have HhF := Lib.hid hF; clear hF
          have HhG := Lib.hid hG; clear hG
          have HhP := Lib.hid hP; clear hP
          have Hhinv := Lib.hid hinv; clear hinv
          have Hhu' := Lib.hid hu'; clear hu'
          have Hhz' := Lib.hid hz'; clear hz'
          have Hhms := Lib.hid hms; clear hms
          have Hhr := Lib.hid hr; clear hr
          have Hhs := Lib.hid hs; clear hs
          have Hhyn := Lib.hid hyn; clear hyn
          go_wp2
          go_quiet ((first | (go_at_call 55; exact HhL.out _) | (go_at_call 94; exact HhF.out _)))
          go_wp2_with (first | (go_at_call 24; (with_reducible refine (HhG.out _).mono ?_); rintro e w3 ⟨rfl, rfl⟩) | (go_at_call 82; (with_reducible refine (HhP.out _).mono ?_); rintro e w3 ⟨rfl, hI3, hu3, hz3⟩; have HI3 := Lib.hid hI3; have Hu3 := Lib.hid ((Hhu'.out _).trans hu3); have Hz3 := Lib.hid (hz3.trans (Hhz'.out _)); clear hI3 hu3 hz3))
          simp only [Exit.jump]
          go_end0
          exact ⟨rfl, HI3.out, Hu3.out, Hz3.out⟩
      · rw [hs] at hG hinv
        simp only [if_true] at hinv
        have hI' := fun nq => hI0.out.upd ((Upd.refl (fun _ => False) w2).drewN nq) (fun _ _ x => x)
        have HhL := Lib.hid hL; clear hL
        have HhF := Lib.hid hF; clear hF
        have HhG := Lib.hid hG; clear hG
        have HhP := Lib.hid hP; clear hP
        have Hhinv := Lib.hid hinv; clear hinv
        have Hhu' := Lib.hid hu'; clear hu'
        have Hhz' := Lib.hid hz'; clear hz'
        have Hhms := Lib.hid hms; clear hms
        have Hhs := Lib.hid hs; clear hs
        have Hhyn := Lib.hid hyn; clear hyn
        have HhI' := Lib.hid hI'; clear hI'
        clear hI0
        go_wp2
        go_quiet ((first | (go_at_call 55; exact HhL.out _) | (go_at_call 94; exact HhF.out _)))
        go_wp2_with (go_at_call 24; (with_reducible refine (HhG.out _).mono ?_); rintro e w3 ⟨rfl, rfl⟩)
        go_step3
        exact ⟨rfl, ⟨y, i + 1, _, _, _, _, _, _, _, _, _, _, _, _, _, _, _, _, _, _, _, _, _, _, _, _, _, _, _, _, _, _, _, _, _, _, _, _, _, rfl, HhI'.out _, Hhyn.out, hi1, Hhinv.out, Hhu'.out _, Hhz'.out _⟩, by have := Hhms.out; simp [intOf]; omega⟩
  · intro H
    have H2 := fun a' w1 (ha : ∃ (z : Int) (u1 u3 u4 u5 u6 u7 u8 u9 u10 u11 u12 u13 u14 u15 u16 u17 u18 u19 u20 u21 u22 u23 u24 u25 u26 u27 u28 u29 u30 u31 u32 u33 u34 u35 u36 u37 u38 : Value), a' = { tmps := #[.pointer (some ⟨B + 5, 0, none⟩), u1, .int .i64 z, u3, u4, u5, u6, u7, u8, u9, u10, u11, u12, u13, u14, u15, u16, u17, u18, u19, u20, u21, u22, u23, u24, u25, u26, u27, u28, u29, u30, u31, u32, u33, u34, u35, u36, u37, u38], defers := [] } ∧ z = 0) (hI : IsMk w1 B { x with over := false }) (hu : Upd (InMk B) w w1) (hz : w1.heap.size = w.heap.size) => H a' w1 (by
      obtain ⟨z, u1, u3, u4, u5, u6, u7, u8, u9, u10, u11, u12, u13, u14, u15, u16, u17, u18, u19, u20, u21, u22, u23, u24, u25, u26, u27, u28, u29, u30, u31, u32, u33, u34, u35, u36, u37, u38, rfl, rfl⟩ := ha
      exact ⟨{ x with over := false }, 0, _, _, _, _, _, _, _, _, _, _, _, _, _, _, _, _, _, _, _, _, _, _, _, _, _, _, _, _, _, _, _, _, _, _, _, _, _, rfl, hI, rfl, Nat.zero_le _, HhRe'.out, hu, hz⟩)
    clear H
    have H2 := Lib.hid H2
    go_wp2_with fail
    refine HhR.out.mono ?_
    rintro e w1 ⟨rfl, hT1, hu1, hz1⟩
    have hI1 : IsMk w1 B { x with over := false } := ⟨Hh.out.1.upd hu1 (by omega), Hh.out.2.1.upd hu1 (by omega) (by omega), Hh.out.2.2.1.upd hu1 (by omega) (by omega), hT1⟩
    have hu1' : Upd (InMk B) w w1 := hu1.mono (fun i _ e => ⟨by omega, by omega⟩)
    have HhI1 := Lib.hid hI1; clear hI1
    have Hhu1' := Lib.hid hu1'; clear hu1'
    have Hhz1 := Lib.hid hz1; clear hz1
    clear hT1 hu1 c0 c1 c2 HhR
    go_wp2
    go_step3
    rename_i hK
    exact hK _ _ (H2.out _ _ ⟨0, _, _, _, _, _, _, _, _, _, _, _, _, _, _, _, _, _, _, _, _, _, _, _, _, _, _, _, _, _, _, _, _, _, _, _, _, _, rfl, rfl⟩ HhI1.out Hhu1'.out Hhz1.out)
end Go.Proofs.Ythaicpjgmplgcaa
