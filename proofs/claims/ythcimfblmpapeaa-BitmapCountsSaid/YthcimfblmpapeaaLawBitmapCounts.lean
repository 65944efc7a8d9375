/- A bit that becomes 1 is one more, one that becomes 0 one less, one that stays makes no difference. No condition. -/
import Derived.Test.YthcimfblmpapeaaAwake5
import Derived.Test.YthcimfblmpapeaaLater
import Derived.SizedLaws
import Derived.Deep.RegionHeld3
import Derived.Deep.DrawnRows
namespace Go.Proofs.Ythcimfblmpapeaa.bitmapCounts
open Go.ChangeShapes Go.WideShapes Go.ChangeAt Go.RowKit
set_option linter.unusedVariables false
attribute [local go_sem ↓] Go.wp_at_zero Go.wp_at_succ
attribute [local go_sem] ite_min ite_max

theorem after {w3 : World} {b g k : Nat} {f3 : Nat → Bool} {d : Int} {bb : Bool} (hM : MapF w3 b g k f3) (c3 : Int) (hc : ((countN f3 k : Nat) : Int) = c3) (hno : (decide (0 ≤ d ∧ d < k) && (f3 d.toNat != bb)) = false) :
    Hid (∀ w', Upd (fun _ => False) w3 w' → Calls Try.prog 19 #[.pointer (some ⟨b, 0, none⟩)] w' (RetU w3 (.int .i64 c3))) ∧
    Hid (∀ w', Upd (fun _ => False) w3 w' → Calls Try.prog 21 #[.pointer (some ⟨b, 0, none⟩), .int .i64 d, .bool bb] w' (RetU w3 (.bool false))) ∧
    Hid (∀ w', Upd (fun _ => False) w3 w' → 0 ≤ d ∧ d < k → Calls Try.prog 18 #[.pointer (some ⟨b, 0, none⟩), .int .i64 d] w' (RetU w3 (.bool bb))) := by
  refine ⟨Lib.hid fun w' u => ?_, Lib.hid fun w' u => ?_, Lib.hid fun w' u hr => ?_⟩
  · rw [← hc]
    exact from_ret (map_CountF b g k f3 w' (hM.upd u (fun x => x) (fun x => x))) u
  · exact from_same (map_Set_no b g k f3 d bb w' (hM.upd u (fun x => x) (fun x => x)) hno) u
  · have h := from_same (map_GetF b g k f3 d w' (hM.upd u (fun x => x) (fun x => x))) u
    rw [decide_eq_true hr, Bool.true_and] at h hno
    rw [show f3 d.toNat = bb from by simpa using hno] at h
    exact h

/-- The five cases of a call. -/
theorem cases5 (f : Nat → Bool) (k : Nat) (d : Int) (bb : Bool) :
    (d < 0 ∧ (decide (0 ≤ d ∧ d < k) && (f d.toNat != bb)) = false) ∨ (0 ≤ d ∧ (k : Int) ≤ d ∧ (decide (0 ≤ d ∧ d < k) && (f d.toNat != bb)) = false) ∨ (0 ≤ d ∧ d < k ∧ (decide (0 ≤ d ∧ d < k) && (f d.toNat != bb)) = false) ∨
      (0 ≤ d ∧ d < k ∧ (decide (0 ≤ d ∧ d < k) && (f d.toNat != bb)) = true ∧ bb = true) ∨ (0 ≤ d ∧ d < k ∧ (decide (0 ≤ d ∧ d < k) && (f d.toNat != bb)) = true ∧ bb = false) := by
  by_cases h1 : d < 0
  · exact Or.inl ⟨h1, by rw [decide_eq_false (by omega)]; rfl⟩
  · by_cases h2 : (k : Int) ≤ d
    · exact Or.inr (Or.inl ⟨by omega, h2, by rw [decide_eq_false (by omega)]; rfl⟩)
    · cases h3 : (decide (0 ≤ d ∧ d < k) && (f d.toNat != bb))
      · exact Or.inr (Or.inr (Or.inl ⟨by omega, by omega, rfl⟩))
      · cases bb
        · exact Or.inr (Or.inr (Or.inr (Or.inr ⟨by omega, by omega, rfl, rfl⟩)))
        · exact Or.inr (Or.inr (Or.inr (Or.inl ⟨by omega, by omega, rfl, rfl⟩)))
theorem count_same (f : Nat → Bool) (k : Nat) (d : Int) (bb : Bool) (h : (decide (0 ≤ d ∧ d < k) && (f d.toNat != bb)) = false) : ((countN (setF f d bb) k : Nat) : Int) = (countN f k : Int) := by
  have : countN (setF f d bb) k = countN f k := countN_congr (fun i hi => by
    unfold setF
    split
    · rename_i e
      rw [decide_eq_true (by omega), Bool.true_and, show d.toNat = i from by omega] at h
      exact (by simpa using h : f i = bb).symm
    · rfl)
  rw [this]
def SetW (W : World) (b g k : Nat) (f : Nat → Bool) (chg : Bool) (e : Ending) (w3 : World) : Prop := e = .returned (.bool chg) ∧ MapF w3 b g k f ∧ Upd (fun _ => False) W w3
theorem setW {W w : World} {b g k : Nat} {f : Nat → Bool} {d : Int} {bb chg : Bool} (hM : MapF w b g k f) (hg : W.heap.size ≤ g) (u : Upd (fun _ => False) W w) (h : (decide (0 ≤ d ∧ d < k) && (f d.toNat != bb)) = chg) :
    Calls Try.prog 21 #[.pointer (some ⟨b, 0, none⟩), .int .i64 d, .bool bb] w (SetW W b g k (setF f d bb) chg) :=
  (map_SetF b g k f d bb w hM).mono fun e w' ⟨h1, h2, h3, _, _⟩ => ⟨by rw [h1, h], h2, u.own h3 (fun i e => by omega)⟩
theorem set_no_after (f : Nat → Bool) (k : Nat) (d : Int) (bb : Bool) : (decide (0 ≤ d ∧ d < k) && (setF f d bb d.toNat != bb)) = false := by
  by_cases h : 0 ≤ d ∧ d < k
  · have : setF f d bb d.toNat = bb := by
      unfold setF
      rw [if_pos (by omega)]
    rw [this]
    simp
  · rw [decide_eq_false h]; rfl
theorem count_after (f : Nat → Bool) (k : Nat) (d : Int) (bb : Bool) (h : (decide (0 ≤ d ∧ d < k) && (f d.toNat != bb)) = true) :
    ((countN (setF f d bb) k : Nat) : Int) = if bb then (countN f k : Int) + 1 else (countN f k : Int) - 1 := by
  simp only [Bool.and_eq_true, decide_eq_true_eq] at h
  obtain ⟨⟨h0, h1⟩, h2⟩ := h
  have := countN_setF f d.toNat k bb (by omega)
  rw [show ((d.toNat : Nat) : Int) = d from by omega] at this
  cases bb
  · have hf : f d.toNat = true := by simpa using h2
    rw [hf] at this
    simp at this ⊢
    omega
  · have hf : f d.toNat = false := by simpa using h2
    rw [hf] at this
    simp at this ⊢
    omega

set_option maxRecDepth 100000 in
set_option maxHeartbeats 2000000 in
theorem walk {W : World} (n : Int) (w0 : (Lit.int .i64 n).wf = true) (v : Value) (xs : List Int) (hx : IntsIn W v .u64 xs ∧ xs.length * 8 ≤ 140737488351232) (lv : Value) (lx : Nat × (Nat → Nat → Value)) (hl : IntBoolIn W lv lx) :
    Calls Try.prog 5 #[.int .i64 n, v, lv] W (LawPost W) := by
  obtain ⟨ws, hws, -⟩ := intsIn_words hx.1
  obtain ⟨N, X⟩ := lx
  obtain ⟨hR, hreach, hX⟩ := hl
  simp only at hreach hR hX
  obtain ⟨kI, hkI⟩ : ∃ kI, kI = max 0 (min n 300) := ⟨_, rfl⟩
  obtain ⟨k, hk⟩ : ∃ k : Nat, (k : Int) = kI := ⟨kI.toNat, by omega⟩
  have hof := Lib.hid (map_OfAt kI k v ws W hws (by omega))
  have hN : (N : Int) ≤ 17592186044416 := by omega
  have hR2 := hR
  obtain ⟨la, lcap, hlv, -⟩ := hR2
  subst hlv
  have HhR := Lib.hid hR; clear hR
  have HhX := Lib.hid hX; clear hX
  clear hws hx w0 hreach
  go_enter Try.func5, Try.ntmps5
  go_wp2_with fail
  rw [← hkI]
  refine hof.out.mono ?_
  rintro e w1 ⟨b, g, rfl, hM, hbW, hgW, hu1⟩
  rw [← hk]
  have hk5 : (k : Int) ≤ 300 := by omega
  have Hhu1 := Lib.hid hu1; clear hu1
  have HhM := Lib.hid hM; clear hM
  clear hof hkI hk
  generalize bitW ws = f0 at *
  go_wp2_with fail
  go_loopw [8] (fun i wr => ∃ (x : Nat) (f : Nat → Bool), x ≤ N ∧ i = .int .i64 x ∧ MapF wr b g k f ∧ Upd (fun _ => False) W wr) (fun i _ => (N - intOf i).toNat)
  case atStart => exact ⟨0, f0, Nat.zero_le _, rfl, HhM.out, Hhu1.out⟩
  case round =>
    obtain ⟨x, f, hxN, rfl, hMr, hur⟩ := hrel
    clear HhM Hhu1
    by_cases hx : x = N ∨ 60 ≤ x
    · have key : (¬ ((x : Int) < N)) ∨ (((x : Int) < N) ∧ ¬ ((x : Int) < 60)) := by omega
      have hL := Lib.hid (map_Len b k _ wr hMr.is)
      have haw := Lib.hid (awake5 wr wr (Upd.refl _ _))
      have Hhur := Lib.hid hur; clear hur
      clear hMr hx
      rcases key with c1 | ⟨c1, c2⟩
      all_goals
        go_wp2_with (first
          | (go_at_call 22; ((with_reducible refine hL.out.mono ?_); rintro e w2 ⟨rfl, rfl⟩))
          | (go_at_call 20; ((with_reducible refine haw.out.mono ?_); rintro e w3 ⟨rfl, hu3⟩)))
        go_ret
        exact ⟨rfl, Upd.none (Hhur.out.trans (by assumption))⟩
    · have c1 : (x : Int) < N := by omega
      have c2 : (x : Int) < 60 := by omega
      have hxn : x < N := by omega
      obtain ⟨d, bb, hd, hbv⟩ := HhX.out x hxn
      obtain ⟨b0, off, hix, hb0, hc⟩ := HhR.out.index (P := Try.prog) Try.underlying31 (by kernel_rfl) (by kernel_rfl) hxn
      have cd := fun (w2 : World) (h : Below W.heap.size W w2) => (h.cell (p := ⟨b0, off + x * 2 + 0, none⟩) hb0).trans (hc 0 (by decide))
      have cb := fun (w2 : World) (h : Below W.heap.size W w2) => (h.cell (p := ⟨b0, off + x * 2 + 1, none⟩) hb0).trans (hc 1 (by decide))
      simp only [Nat.add_zero] at cd
      rw [hd] at cd
      rw [hbv] at cb
      have Hcd := Lib.hid cd; clear cd
      have Hcb := Lib.hid cb; clear cb
      clear hd hbv hc hx
      have hC := Lib.hid (map_CountF b g k f wr hMr)
      have hcl := countN_le f k
      go_wp2_with fail
      refine hC.out.mono ?_
      rintro e w2 ⟨rfl, hu2⟩
      have hM2 : MapF w2.drew b g k f := hMr.upd hu2.drew (fun x => x) (fun x => x)
      have hu2W : Upd (fun _ => False) W w2.drew := hur.trans hu2.drew
      have cd2 := Hcd.out w2 (hur.trans hu2).none
      have cb2 := Hcb.out w2 (hur.trans hu2).none
      have Hhur := Lib.hid hur; clear hur
      have Hhu2 := Lib.hid hu2; clear hu2
      clear hC hMr
      have hno := set_no_after f k d bb
      rcases cases5 f k d bb with ⟨t1, t3⟩ | ⟨t1, t2, t3⟩ | ⟨t1, t2, t3⟩ | ⟨t1, t2, t3, rfl⟩ | ⟨t1, t2, t3, rfl⟩
      · have hS := setW hM2 hgW hu2W t3
        have hc3 := count_same f k d bb t3
        have t4 : decide (0 ≤ d) = false := by simp; omega
        generalize setF f d bb = f3 at *
        generalize countN f k = c at *
        have HhS := Lib.hid hS; clear hS
        have HhM2 := Lib.hid hM2; clear hM2
        have Hhu2W := Lib.hid hu2W; clear hu2W
        have Ht3 := Lib.hid t3; clear t3
        have Hhc3 := Lib.hid hc3; clear hc3
        have Hhno := Lib.hid hno; clear hno
        go_wp2
        refine wp_region_st 11 (by kernel_rfl) (by kernel_rfl) ?_
        simp only [List.take_succ_cons, List.take_zero, List.drop_succ_cons, List.drop_zero]
        repeat (first | still_step | fail)
        refine wpStill_nil ?_
        go_wp2_with (go_at_call 21; (with_reducible refine HhS.out.mono ?_); rintro e w3 ⟨rfl, hM3, hu3W⟩; obtain ⟨hC3, hS3, hG3⟩ := after hM3 _ Hhc3.out Hhno.out; have cd3 := Hcd.out w3 hu3W.none; have cb3 := Hcb.out w3 hu3W.none; have HhM3 := Lib.hid hM3; have Hu3W := Lib.hid hu3W; clear hM3 hu3W)
        have hkd := fun (s : Later w3) => show s.val.cell? _ = _ from Hcd.out s.val (Hu3W.out.trans s.up).none
        have hkb := fun (s : Later w3) => show s.val.cell? _ = _ from Hcb.out s.val (Hu3W.out.trans s.up).none
        refine wp_region_later (by kernel_rfl) (by kernel_rfl) ?_
        repeat (go_big_quiet_step ((first
          | (go_at_call 19; exact calls_later (hC3.out _ (Later.up _)))
          | (go_at_call 21; exact calls_later (hS3.out _ (Later.up _)))
          | (go_at_call 18; exact calls_later (hG3.out _ (Later.up _) ⟨by assumption, by assumption⟩)))))
        refine wpQuiet_nil ?_
        intro w4 hw4
        have u4 : Upd (fun _ => False) w3 w4 := by
          obtain ⟨s, rfl⟩ := hw4
          exact s.up
        clear hw4 hkd hkb
        go_wp2
        go_roundw
        case rel => exact ⟨x + 1, f3, by omega, by go_num, HhM3.out.upd u4 (fun x => x) (fun x => x), Hu3W.out.trans u4⟩
        case measure => simp [intOf]; omega
      · have hS := setW hM2 hgW hu2W t3
        have hc3 := count_same f k d bb t3
        have t4 : decide (d < k) = false := by simp; omega
        generalize setF f d bb = f3 at *
        generalize countN f k = c at *
        have HhS := Lib.hid hS; clear hS
        have HhM2 := Lib.hid hM2; clear hM2
        have Hhu2W := Lib.hid hu2W; clear hu2W
        have Ht3 := Lib.hid t3; clear t3
        have Hhc3 := Lib.hid hc3; clear hc3
        have Hhno := Lib.hid hno; clear hno
        go_wp2
        refine wp_region_st 11 (by kernel_rfl) (by kernel_rfl) ?_
        simp only [List.take_succ_cons, List.take_zero, List.drop_succ_cons, List.drop_zero]
        repeat (first | still_step | fail)
        refine wpStill_nil ?_
        go_wp2_with (go_at_call 21; (with_reducible refine HhS.out.mono ?_); rintro e w3 ⟨rfl, hM3, hu3W⟩; obtain ⟨hC3, hS3, hG3⟩ := after hM3 _ Hhc3.out Hhno.out; have cd3 := Hcd.out w3 hu3W.none; have cb3 := Hcb.out w3 hu3W.none; have HhM3 := Lib.hid hM3; have Hu3W := Lib.hid hu3W; clear hM3 hu3W)
        have hkd := fun (s : Later w3) => show s.val.cell? _ = _ from Hcd.out s.val (Hu3W.out.trans s.up).none
        have hkb := fun (s : Later w3) => show s.val.cell? _ = _ from Hcb.out s.val (Hu3W.out.trans s.up).none
        refine wp_region_later (by kernel_rfl) (by kernel_rfl) ?_
        repeat (go_big_quiet_step ((first
          | (go_at_call 19; exact calls_later (hC3.out _ (Later.up _)))
          | (go_at_call 21; exact calls_later (hS3.out _ (Later.up _)))
          | (go_at_call 18; exact calls_later (hG3.out _ (Later.up _) ⟨by assumption, by assumption⟩)))))
        refine wpQuiet_nil ?_
        intro w4 hw4
        have u4 : Upd (fun _ => False) w3 w4 := by
          obtain ⟨s, rfl⟩ := hw4
          exact s.up
        clear hw4 hkd hkb
        go_wp2
        go_roundw
        case rel => exact ⟨x + 1, f3, by omega, by go_num, HhM3.out.upd u4 (fun x => x) (fun x => x), Hu3W.out.trans u4⟩
        case measure => simp [intOf]; omega
      · have hS := setW hM2 hgW hu2W t3
        have hc3 := count_same f k d bb t3
        generalize setF f d bb = f3 at *
        generalize countN f k = c at *
        have HhS := Lib.hid hS; clear hS
        have HhM2 := Lib.hid hM2; clear hM2
        have Hhu2W := Lib.hid hu2W; clear hu2W
        have Ht3 := Lib.hid t3; clear t3
        have Hhc3 := Lib.hid hc3; clear hc3
        have Hhno := Lib.hid hno; clear hno
        go_wp2
        refine wp_region_st 11 (by kernel_rfl) (by kernel_rfl) ?_
        simp only [List.take_succ_cons, List.take_zero, List.drop_succ_cons, List.drop_zero]
        repeat (first | still_step | fail)
        refine wpStill_nil ?_
        go_wp2_with (go_at_call 21; (with_reducible refine HhS.out.mono ?_); rintro e w3 ⟨rfl, hM3, hu3W⟩; obtain ⟨hC3, hS3, hG3⟩ := after hM3 _ Hhc3.out Hhno.out; have cd3 := Hcd.out w3 hu3W.none; have cb3 := Hcb.out w3 hu3W.none; have HhM3 := Lib.hid hM3; have Hu3W := Lib.hid hu3W; clear hM3 hu3W)
        have hkd := fun (s : Later w3) => show s.val.cell? _ = _ from Hcd.out s.val (Hu3W.out.trans s.up).none
        have hkb := fun (s : Later w3) => show s.val.cell? _ = _ from Hcb.out s.val (Hu3W.out.trans s.up).none
        refine wp_region_later (by kernel_rfl) (by kernel_rfl) ?_
        repeat (go_big_quiet_step ((first
          | (go_at_call 19; exact calls_later (hC3.out _ (Later.up _)))
          | (go_at_call 21; exact calls_later (hS3.out _ (Later.up _)))
          | (go_at_call 18; exact calls_later (hG3.out _ (Later.up _) ⟨by assumption, by assumption⟩)))))
        refine wpQuiet_nil ?_
        intro w4 hw4
        have u4 : Upd (fun _ => False) w3 w4 := by
          obtain ⟨s, rfl⟩ := hw4
          exact s.up
        clear hw4 hkd hkb
        go_wp2
        go_roundw
        case rel => exact ⟨x + 1, f3, by omega, by go_num, HhM3.out.upd u4 (fun x => x) (fun x => x), Hu3W.out.trans u4⟩
        case measure => simp [intOf]; omega
      · have hS := setW hM2 hgW hu2W t3
        have hc3 : ((countN (setF f d true) k : Nat) : Int) = (countN f k : Int) + 1 := count_after f k d true t3
        generalize setF f d true = f3 at *
        generalize countN f k = c at *
        have HhS := Lib.hid hS; clear hS
        have HhM2 := Lib.hid hM2; clear hM2
        have Hhu2W := Lib.hid hu2W; clear hu2W
        have Ht3 := Lib.hid t3; clear t3
        have Hhc3 := Lib.hid hc3; clear hc3
        have Hhno := Lib.hid hno; clear hno
        go_wp2
        refine wp_region_st 11 (by kernel_rfl) (by kernel_rfl) ?_
        simp only [List.take_succ_cons, List.take_zero, List.drop_succ_cons, List.drop_zero]
        repeat (first | still_step | fail)
        refine wpStill_nil ?_
        go_wp2_with (go_at_call 21; (with_reducible refine HhS.out.mono ?_); rintro e w3 ⟨rfl, hM3, hu3W⟩; obtain ⟨hC3, hS3, hG3⟩ := after hM3 _ Hhc3.out Hhno.out; have cd3 := Hcd.out w3 hu3W.none; have cb3 := Hcb.out w3 hu3W.none; have HhM3 := Lib.hid hM3; have Hu3W := Lib.hid hu3W; clear hM3 hu3W)
        have hkd := fun (s : Later w3) => show s.val.cell? _ = _ from Hcd.out s.val (Hu3W.out.trans s.up).none
        have hkb := fun (s : Later w3) => show s.val.cell? _ = _ from Hcb.out s.val (Hu3W.out.trans s.up).none
        refine wp_region_later (by kernel_rfl) (by kernel_rfl) ?_
        repeat (go_big_quiet_step ((first
          | (go_at_call 19; exact calls_later (hC3.out _ (Later.up _)))
          | (go_at_call 21; exact calls_later (hS3.out _ (Later.up _)))
          | (go_at_call 18; exact calls_later (hG3.out _ (Later.up _) ⟨by assumption, by assumption⟩)))))
        refine wpQuiet_nil ?_
        intro w4 hw4
        have u4 : Upd (fun _ => False) w3 w4 := by
          obtain ⟨s, rfl⟩ := hw4
          exact s.up
        clear hw4 hkd hkb
        go_wp2
        go_roundw
        case rel => exact ⟨x + 1, f3, by omega, by go_num, HhM3.out.upd u4 (fun x => x) (fun x => x), Hu3W.out.trans u4⟩
        case measure => simp [intOf]; omega
      · have hS := setW hM2 hgW hu2W t3
        have hc3 : ((countN (setF f d false) k : Nat) : Int) = (countN f k : Int) - 1 := count_after f k d false t3
        generalize setF f d false = f3 at *
        generalize countN f k = c at *
        have HhS := Lib.hid hS; clear hS
        have HhM2 := Lib.hid hM2; clear hM2
        have Hhu2W := Lib.hid hu2W; clear hu2W
        have Ht3 := Lib.hid t3; clear t3
        have Hhc3 := Lib.hid hc3; clear hc3
        have Hhno := Lib.hid hno; clear hno
        go_wp2
        refine wp_region_st 11 (by kernel_rfl) (by kernel_rfl) ?_
        simp only [List.take_succ_cons, List.take_zero, List.drop_succ_cons, List.drop_zero]
        repeat (first | still_step | fail)
        refine wpStill_nil ?_
        go_wp2_with (go_at_call 21; (with_reducible refine HhS.out.mono ?_); rintro e w3 ⟨rfl, hM3, hu3W⟩; obtain ⟨hC3, hS3, hG3⟩ := after hM3 _ Hhc3.out Hhno.out; have cd3 := Hcd.out w3 hu3W.none; have cb3 := Hcb.out w3 hu3W.none; have HhM3 := Lib.hid hM3; have Hu3W := Lib.hid hu3W; clear hM3 hu3W)
        have hkd := fun (s : Later w3) => show s.val.cell? _ = _ from Hcd.out s.val (Hu3W.out.trans s.up).none
        have hkb := fun (s : Later w3) => show s.val.cell? _ = _ from Hcb.out s.val (Hu3W.out.trans s.up).none
        refine wp_region_later (by kernel_rfl) (by kernel_rfl) ?_
        repeat (go_big_quiet_step ((first
          | (go_at_call 19; exact calls_later (hC3.out _ (Later.up _)))
          | (go_at_call 21; exact calls_later (hS3.out _ (Later.up _)))
          | (go_at_call 18; exact calls_later (hG3.out _ (Later.up _) ⟨by assumption, by assumption⟩)))))
        refine wpQuiet_nil ?_
        intro w4 hw4
        have u4 : Upd (fun _ => False) w3 w4 := by
          obtain ⟨s, rfl⟩ := hw4
          exact s.up
        clear hw4 hkd hkb
        go_wp2
        go_roundw
        case rel => exact ⟨x + 1, f3, by omega, by go_num, HhM3.out.upd u4 (fun x => x) (fun x => x), Hu3W.out.trans u4⟩
        case measure => simp [intOf]; omega

theorem own : ownKnob Try.prog.godebug = none := by kernel_rfl
theorem laidOut : laidOutB Try.prog = true := by kernel_rfl
set_option maxRecDepth 100000 in
theorem lifted (os : Os) (started : os.Started) (H : Type) (enc : TypeId × Value → H) :
    ReturnsInHanded {} Try.checked os 5 .any (Rows.bitmapCountsSpec.pre6 enc Try.prog Try.f5 Rows.bitmapCountsRow.domain false) (Rows.bitmapCountsSpec.post enc Try.prog Try.f5 false true false false) := by
  refine returnsInHanded_of_change_sized (C := Try.checked) own started (by kernel_rfl) Try.func5
    (ChangeSpec.witness6 (enc := enc) (C := Try.checked) false ⟨#[], #[.int .i64 0, .slice none 0 0, .slice none 0 0], []⟩ 8 (by kernel_rfl) (by kernel_rfl) (by kernel_rfl) (by kernel_rfl)) ?_
  intro W base args ds gs before hval0 hW _ hsz0 _
  have hsz : (DataW.weightsEach Try.prog (Try.f5.params.toList ++ Rows.bitmapCountsSpec.plain.varTypes Try.prog) (ds ++ gs)).all (· ≤ reachBytes) = true := hsz0
  clear hsz0
  have hval : ∀ (j : Nat) t v, Try.f5.params[j]? = some t → args[j]? = some v → Value.okWide Try.prog W .any base t v := hval0
  have hW' := hW
  obtain ⟨p, q, hA0, hV, rfl, _, _⟩ := hW
  have hA : DataW.TrodAll enc Try.prog W 0 (fun _ => true) true Try.f5.params.toList args.toList ds p := hA0
  rw [Try.params5] at hA hval hsz
  obtain ⟨v0, vs0, d0, ds0, p0, q0, hargs, rfl, rfl, h0, r0⟩ := trodAll_cons hA
  obtain ⟨v1, vs1, d1, ds1, p1, q1, rfl, rfl, rfl, h1, r1⟩ := trodAll_cons r0
  obtain ⟨v2, vs2, d2, ds2, p2, q2, rfl, rfl, rfl, h2, r2⟩ := trodAll_cons r1
  obtain ⟨rfl, rfl, rfl⟩ := trodAll_nil r2
  obtain rfl : args = #[v0, v1, v2] := by cases args; simp_all
  obtain ⟨rfl, rfl⟩ := trodVars_none hV
  clear hA0 hval0
  simp only [List.append_nil] at hW'
  have hlt : ∀ x, (x ∈ p0 ∨ x ∈ p1 ∨ x ∈ p2) → x.block < W.heap.size := fun x hx => by simpa using hW'.lt x (by simpa using hx)
  have k0 : ∀ (W' : World), Below W.heap.size W W' → DataW.Trod enc Try.prog W' 0 (fun b => decide (b < W.heap.size)) true 3 v0 d0 p0 :=
    fun W' hn => Below.trod laidOut (by kernel_rfl) (of_decide_eq_true (by kernel_rfl)) h0 hn (fun x hx => hlt x (Or.inl hx))
  have k1 : ∀ (W' : World), Below W.heap.size W W' → DataW.Trod enc Try.prog W' 0 (fun b => decide (b < W.heap.size)) true 22 v1 d1 p1 :=
    fun W' hn => Below.trod laidOut (by kernel_rfl) (of_decide_eq_true (by kernel_rfl)) h1 hn (fun x hx => hlt x (Or.inr (Or.inl hx)))
  have k2 : ∀ (W' : World), Below W.heap.size W W' → DataW.Trod enc Try.prog W' 0 (fun b => decide (b < W.heap.size)) true 31 v2 d2 p2 :=
    fun W' hn => Below.trod laidOut (by kernel_rfl) (of_decide_eq_true (by kernel_rfl)) h2 hn (fun x hx => hlt x (Or.inr (Or.inr (hx))))
  obtain ⟨a0, rfl, _, _, w0⟩ := open_int Try.underlying3 (hval 0 3 v0 rfl rfl) h0
  obtain ⟨x1, hx1⟩ := open_intsAt (bytes := 8) Try.underlying22 Try.underlying39 (by kernel_rfl) (by kernel_rfl) (hval 1 22 v1 rfl rfl) h1 hsz 1 rfl rfl
  obtain ⟨x2, hx2⟩ := open_intBoolAt _ _ Try.underlying31 Try.underlying34 (by kernel_rfl) (by decide) (by kernel_rfl) (by kernel_rfl) rfl rfl Try.underlying3 Try.underlying4 (hval 2 31 v2 rfl rfl) h2 hsz 2 rfl rfl
  refine (walk (W := W) a0 w0 v1 x1 hx1 v2 x2 hx2).mono fun e W' ⟨he, hb⟩ => ?_
  subst he
  refine ⟨_, rfl, _, _, _, [], p0 ++ (p1 ++ (p2 ++ ([]))), [], hW', ?_, ?_, rfl, hb.frame _, fun h => by cases h⟩
  · exact trodAll_cons_mk (shut_bool Try.underlying4 true) trodAll_mk0
  · exact trodAll_cons_mk (k0 _ hb) (trodAll_cons_mk (k1 _ hb) (trodAll_cons_mk (k2 _ hb) (trodAll_mk0)))

theorem over : Rows.bitmapCountsRow.holds Try.pinned (OpenSpec.ofChange Rows.bitmapCountsSpec) :=
  OpenClaim.holds_of_wide 5 Try.f5 rfl rfl rfl rfl rfl rfl rfl ⟨rfl, rfl, rfl, rfl, rfl⟩ rfl rfl rfl rfl rfl (by kernel_rfl) Try.func5 (by kernel_rfl)
    (of_decide_eq_true (by kernel_rfl)) (by unfold Func.isWrapper; first | (rw [if_pos (by decide +kernel)]; kernel_rfl) | (rw [if_neg (by decide +kernel)]; exact ⟨rfl, rfl⟩))
    (fun os started H enc _ => lifted os started H enc)

/-- The given statement. -/
theorem proved : Rows.BitmapCountsSaid := over
#print axioms proved
end Go.Proofs.Ythcimfblmpapeaa.bitmapCounts
