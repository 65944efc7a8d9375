/- The document's sweep: its functions' contracts. -/
import Derived.Test.YthaicpjgmplgcaaAwake20
namespace Go.Proofs.Ythaicpjgmplgcaa
open Go.RowKit Go.ChangeShapes Go.WideShapes
set_option linter.unusedVariables false

set_option maxRecDepth 100000 in
set_option maxHeartbeats 1000000 in
theorem ref_at {w : World} {v : Value} {n : Nat} {f : Nat → Bool} (h : BoolsR w v n f) (b : Int) : Calls Try.prog 53 #[v, .int .i64 b] w (Same w (.bool (bitI n f b))) := by
  unfold bitI
  obtain ⟨va, vc, hv, hvn, hvc, -⟩ := (show RowsIn w v 1 n _ from h)
  have hnI : (n : Int) ≤ 9223372036854775807 := by unfold maxLen at hvc; omega
  have h' := h
  subst hv
  by_cases h0 : 0 ≤ b
  · by_cases h1 : b < n
    · obtain ⟨k, rfl⟩ : ∃ k : Nat, b = k := ⟨b.toNat, by omega⟩
      have hk : k < n := by omega
      obtain ⟨b0, off, hix, hb0, hc⟩ := RowsIn.index (P := Try.prog) (show RowsIn w _ 1 n _ from h) Try.underlying34 (by kernel_rfl) (by kernel_rfl) hk
      simp only [Nat.mul_one] at hix hc
      have hcell := hc 0 (by decide)
      simp only [Nat.add_zero] at hcell
      rw [decide_eq_true ⟨h0, h1⟩, Bool.true_and, Int.toNat_natCast]
      generalize f k = r at *
      have Hh' := Lib.hid h'; clear h'
      clear h hc
      go_enter Try.func53, Try.ntmps53
      go_wp2
      go_ret
      exact ⟨rfl, rfl⟩
    · rw [decide_eq_false (by omega), Bool.false_and]
      have Hh' := Lib.hid h'; clear h'
      clear h
      go_enter Try.func53, Try.ntmps53
      go_wp2
      go_ret
      exact ⟨rfl, rfl⟩
  · rw [decide_eq_false (by omega), Bool.false_and]
    have Hh' := Lib.hid h'; clear h'
    clear h
    have h2 : decide (0 ≤ b) = false := by simp; omega
    go_enter Try.func53, Try.ntmps53
    go_wp2
    go_ret
    exact ⟨rfl, rfl⟩

/-- v tells bits as f does, now and whatever is made besides. -/
def AtAs (w : World) (v : Value) (f : Int → Bool) : Prop := ∀ w', Upd (fun _ => False) w w' → ∀ b : Int, Calls Try.prog 53 #[v, .int .i64 b] w' (Same w' (.bool (f b)))
theorem AtAs.later {w w' : World} {p : Value} {f : Int → Bool} (h : AtAs w p f) (u : Upd (fun _ => False) w w') : AtAs w' p f := fun w2 u2 b => h w2 (u.trans u2) b
theorem at_bools {w : World} {v : Value} {n : Nat} {f : Nat → Bool} (h : BoolsR w v n f) : AtAs w v (bitI n f) := fun w' u b => ref_at (h.upd u.none) b
theorem at_nil (w : World) : AtAs w (.slice none 0 0) (fun _ => false) := fun w' u b => by
  have h : BoolsR w' (.slice none 0 0) 0 (fun _ => false) := ⟨none, 0, rfl, Nat.le_refl _, Nat.zero_le _, fun h => absurd h (Nat.lt_irrefl _)⟩
  have := ref_at h b
  unfold bitI at this
  rw [Bool.and_false] at this
  exact this

set_option maxRecDepth 100000 in
set_option maxHeartbeats 1000000 in
theorem ref_Weak (v : Value) (ws : List Int) (pm : Value) (m : Int → Bool) (hl : ws.length ≤ 1000) (w : World) (hv : IntsR w v .i64 ws) (hm : AtAs w pm m) :
    Calls Try.prog 26 #[v, pm] w (RetInts w (weakL ws m)) := by
  unfold weakL
  obtain ⟨va, vc, hv2, -⟩ := (show RowsIn w v 1 ws.length _ from hv)
  subst hv2
  have hlI : (ws.length : Int) ≤ 1000 := by omega
  have hst := RowAt.nil w w (Upd.refl _ _)
  have Hhv := Lib.hid hv; clear hv
  have Hhm := Lib.hid hm; clear hm
  have Hhst := Lib.hid hst; clear hst
  go_enter Try.func26, Try.ntmps26
  go_wp2_with fail
  go_loopw [10, 5] (fun i v wr => ∃ z : Nat, i = .int .i64 z ∧ z ≤ ws.length ∧ RowAt w wr (weakTo ws m z) v) (fun i _ _ => (ws.length - intOf i).toNat)
  case atStart => exact ⟨0, rfl, Nat.zero_le _, Hhst.out⟩
  case round =>
    obtain ⟨z, rfl, hz, hr⟩ := hrel
    clear Hhst
    by_cases hzl : z = ws.length
    · have e1 : ¬ ((z : Int) < ws.length) := by omega
      subst hzl
      have hfin := hr.ret
      obtain ⟨a, c, rfl, ho, hu3, hsz⟩ := hr
      have Hhfin := Lib.hid hfin; clear hfin
      clear ho hu3
      go_wp2_with fail
      go_ret
      exact Hhfin.out
    · have e1 : (z : Int) < ws.length := by omega
      have hz3 : z < ws.length := by omega
      obtain ⟨b3, off3, hix3, hcc⟩ := int_atR Hhv.out hz3
      obtain ⟨va2, vc2, hve, ho, hu3, hsz⟩ := id hr
      subst hve
      have hcell := hcc wr hu3.none
      have hst : weakTo ws m (z + 1) = weakTo ws m z ++ (if decide (0 ≤ ws.getD z 0) && !m (ws.getD z 0) then [(z : Int)] else []) := rfl
      have hlen := weakTo_len ws m z
      generalize ws.getD z 0 = b at *
      by_cases t1 : 0 ≤ b
      · rw [decide_eq_true t1, Bool.true_and] at hst
        have hg := Hhm.out wr hu3 b
        cases t2 : m b
        · rw [t2] at hst hg
          rw [if_pos (by simp)] at hst
          have hl3 : (weakTo ws m z).length ≤ 1099511627776 := by omega
          have Hhr := Lib.hid hr; clear hr
          have Hhst := Lib.hid hst; clear hst
          have Hhg := Lib.hid hg; clear hg
          have Hho := Lib.hid ho; clear ho
          have Hhu3 := Lib.hid hu3; clear hu3
          clear hzl hcc
          go_wp2_with (first
            | (go_at_call 53; (with_reducible refine Hhg.out.mono ?_); rintro e w4 ⟨rfl, rfl⟩)
            | (at_builtin; refine wpList_push rfl _ _ 37 3 rfl (.int .i64 0) 8 Try.underlying37 infoIntM rfl w.heap.size _ _ _ rfl (Hho.out.alloc _) _ 1 (.int .i64 z) rfl (World.cell?_alloc_new _ #[.int .i64 z] _ 0) rfl hl3 (by decide) hsz ?_; intro a5 c5 w5 ho5 hg5; have Hr5 := Lib.hid (Hhr.out.push rfl ho5 hg5); clear ho5 hg5))
          go_roundw
          case rel => exact ⟨z + 1, by go_num, by omega, by rw [Hhst.out]; exact Hr5.out⟩
          case measure => simp [intOf]; omega
        · rw [t2] at hst hg
          rw [if_neg (by simp), List.append_nil] at hst
          have hr : RowAt w wr (weakTo ws m (z + 1)) (.slice va2 (weakTo ws m z).length vc2) := by rw [hst]; exact hr
          have Hhr := Lib.hid hr; clear hr
          have Hhst := Lib.hid hst; clear hst
          have Hhg := Lib.hid hg; clear hg
          have Hho := Lib.hid ho; clear ho
          have Hhu3 := Lib.hid hu3; clear hu3
          clear hzl hcc
          go_wp2_with (go_at_call 53; (with_reducible refine Hhg.out.mono ?_); rintro e w4 ⟨rfl, rfl⟩)
          go_roundw
          case rel => exact ⟨z + 1, by go_num, by omega, Hhr.out⟩
          case measure => simp [intOf]; omega
      · rw [decide_eq_false t1, Bool.false_and, if_neg (by simp), List.append_nil] at hst
        have hr : RowAt w wr (weakTo ws m (z + 1)) (.slice va2 (weakTo ws m z).length vc2) := by rw [hst]; exact hr
        have Hhr := Lib.hid hr; clear hr
        have Hhst := Lib.hid hst; clear hst
        have Hho := Lib.hid ho; clear ho
        have Hhu3 := Lib.hid hu3; clear hu3
        clear hzl hcc
        go_wp2_with fail
        go_roundw
        case rel => exact ⟨z + 1, by go_num, by omega, Hhr.out⟩
        case measure => simp [intOf]; omega

theorem pageTo_stop (N : Nat) (u m : Int → Bool) (q z d : Nat) (h : N ≤ q * 8 + z) : pageTo N u m q (z + d) = pageTo N u m q z := by
  induction d with
  | zero => rfl
  | succ d ih =>
    have hst : pageTo N u m q (z + (d + 1)) = pageTo N u m q (z + d) ++ (if takeB N u m (q * 8 + (z + d)) then [((q * 8 + (z + d) : Nat) : Int)] else []) := rfl
    rw [hst]
    have : takeB N u m (q * 8 + (z + d)) = false := by
      unfold takeB
      rw [decide_eq_false (by omega)]
      rfl
    rw [this, ih]
    simp

/-- The document's layout has N blocks. -/
def IsRl (w : World) (R N : Nat) : Prop := ∃ l, Blk w R l 73 ∧ l[18]? = some (.int .i64 N)
theorem IsRl.upd {w w' : World} {R N : Nat} (h : IsRl w R N) {S : Nat → Prop} (u : Upd S w w') (hs : ¬ S R) : IsRl w' R N := by
  obtain ⟨l, h1, h2⟩ := h
  exact ⟨l, h1.upd u hs, h2⟩
theorem IsRl.cell {w : World} {R N : Nat} (h : IsRl w R N) : w.cell? ⟨R, 18, none⟩ = some (.int .i64 N) := by
  obtain ⟨l, h1, h2⟩ := h
  exact h1.cell 18 h2

theorem ref_Pages {w : World} {R N : Nat} (h : IsRl w R N) (hN : N ≤ 200) : Calls Try.prog 52 #[.pointer (some ⟨R, 0, none⟩)] w (Same w (.int .i64 (((N + 7) / 8 : Nat) : Int))) := by
  have hc := h.cell
  have hd : ((N : Int) + 8 - 1).tdiv 8 = (((N + 7) / 8 : Nat) : Int) := by
    rw [Int.tdiv_eq_ediv_of_nonneg (by omega)]
    omega
  have hP : (((N + 7) / 8 : Nat) : Int) ≤ 100 := by omega
  generalize (N + 7) / 8 = P at *
  have hNI : (N : Int) ≤ 200 := by omega
  clear h
  go_enter Try.func52, Try.ntmps52
  go_wp2
  go_ret
  exact ⟨rfl, rfl⟩

set_option maxRecDepth 100000 in
set_option maxHeartbeats 1000000 in
theorem ref_Page {w : World} {R N : Nat} (hR : IsRl w R N) (hN : N ≤ 200) {pu pm : Value} {u m : Int → Bool} (hu : AtAs w pu u) (hm : AtAs w pm m) (p : Int) :
    Calls Try.prog 20 #[.pointer (some ⟨R, 0, none⟩), pu, pm, .int .i64 p] w (RetInts w (pageL N u m p)) := by
  have hP0 := ref_Pages hR hN
  unfold pageL
  have hNI : (N : Int) ≤ 200 := by omega
  by_cases h0 : p < 0
  · rw [if_pos (Or.inl h0)]
    have hnil := (RowAt.nil w w (Upd.refl _ _)).ret
    have Hhnil := Lib.hid hnil; clear hnil
    have HhR := Lib.hid hR; clear hR
    have Hhu := Lib.hid hu; clear hu
    have Hhm := Lib.hid hm; clear hm
    have HhP0 := Lib.hid hP0; clear hP0
    go_enter Try.func20, Try.ntmps20
    go_wp2_with fail
    go_ret
    exact Hhnil.out
  · by_cases h1 : (((N + 7) / 8 : Nat) : Int) ≤ p
    · rw [if_pos (Or.inr h1)]
      have hnil := (RowAt.nil w w (Upd.refl _ _)).ret
      obtain ⟨P, hPe⟩ : ∃ P, (N + 7) / 8 = P := ⟨_, rfl⟩
      rw [hPe] at hP0 h1
      have Hhnil := Lib.hid hnil; clear hnil
      have HhR := Lib.hid hR; clear hR
      have Hhu := Lib.hid hu; clear hu
      have Hhm := Lib.hid hm; clear hm
      have HhP0 := Lib.hid hP0; clear hP0
      clear hPe
      go_enter Try.func20, Try.ntmps20
      go_wp2_with (go_at_call 52; (with_reducible refine HhP0.out.mono ?_); rintro e w2 ⟨rfl, rfl⟩)
      go_ret
      exact Hhnil.out
    · rw [if_neg (by omega)]
      obtain ⟨q, rfl⟩ : ∃ q : Nat, p = q := ⟨p.toNat, by omega⟩
      rw [Int.toNat_natCast]
      have hqI : (q : Int) ≤ 30 := by omega
      obtain ⟨P, hPe⟩ : ∃ P, (N + 7) / 8 = P := ⟨_, rfl⟩
      rw [hPe] at hP0 h1
      have h1n : ¬ (P ≤ q) := by omega
      have hst := RowAt.nil w w (Upd.refl _ _)
      have HhR := Lib.hid hR; clear hR
      have Hhu := Lib.hid hu; clear hu
      have Hhm := Lib.hid hm; clear hm
      have HhP0 := Lib.hid hP0; clear hP0
      have Hhst := Lib.hid hst; clear hst
      clear hPe
      go_enter Try.func20, Try.ntmps20
      go_wp2_with (go_at_call 52; (with_reducible refine HhP0.out.mono ?_); rintro e w2 ⟨rfl, rfl⟩)
      go_loopw [10, 9] (fun i v wr => ∃ z : Nat, i = .int .i64 ((q : Int) * 8 + z) ∧ z ≤ 8 ∧ RowAt w wr (pageTo N u m q z) v) (fun i _ _ => (q * 8 + 8 - intOf i).toNat)
      case atStart => exact ⟨0, by simp, by omega, Hhst.out⟩
      case round =>
        obtain ⟨z, rfl, hz, hr⟩ := hrel
        clear Hhst
        have hrc := (HhR.out.upd hr.choose_spec.choose_spec.2.2.1 (fun x => x)).cell
        by_cases hz8 : z = 8 ∨ N ≤ q * 8 + z
        · have key : (¬ ((q : Int) * 8 + z < ((q : Int) + 1) * 8)) ∨ (((q : Int) * 8 + z < ((q : Int) + 1) * 8) ∧ ¬ ((q : Int) * 8 + z < N)) := by omega
          have hfin := hr.ret
          have hall : pageTo N u m q z = pageTo N u m q 8 := by
            rcases hz8 with e | e
            · rw [e]
            · have := pageTo_stop N u m q z (8 - z) e
              rw [show z + (8 - z) = 8 from by omega] at this
              exact this.symm
          rw [hall] at hfin
          obtain ⟨a, c, rfl, ho, hu3, hsz⟩ := hr
          rw [hall] at *
          have Hhfin := Lib.hid hfin; clear hfin
          clear ho hu3 hz8 hall
          rcases key with k1 | ⟨k1, k2⟩
          all_goals
            go_wp2_with fail
            go_ret
            exact Hhfin.out
        · have e1 : (q : Int) * 8 + z < ((q : Int) + 1) * 8 := by omega
          have e2 : (q : Int) * 8 + z < N := by omega
          have hst : pageTo N u m q (z + 1) = pageTo N u m q z ++ (if takeB N u m (q * 8 + z) then [((q * 8 + z : Nat) : Int)] else []) := rfl
          unfold takeB at hst
          have hlen := pageTo_len N u m q z
          have hcast : ((q * 8 + z : Nat) : Int) = (q : Int) * 8 + z := by simp
          rw [hcast, decide_eq_true (by omega), Bool.true_and] at hst
          obtain ⟨va, vc, hve, ho, hu3, hsz⟩ := id hr
          subst hve
          have hgu := Hhu.out wr hu3 ((q : Int) * 8 + z)
          have hgm := Hhm.out wr hu3 ((q : Int) * 8 + z)
          have hz1 : ((z + 1 : Nat) : Int) = (z : Int) + 1 := by simp
          cases t2 : u ((q : Int) * 8 + z)
          · rw [t2] at hst hgu
            rw [Bool.false_and, if_neg (by simp), List.append_nil] at hst
            have hr : RowAt w wr (pageTo N u m q (z + 1)) (.slice va (pageTo N u m q z).length vc) := by rw [hst]; exact hr
            have Hhr := Lib.hid hr; clear hr
            have Hhst := Lib.hid hst; clear hst
            have Hhgu := Lib.hid hgu; clear hgu
            have Hhgm := Lib.hid hgm; clear hgm
            have Hho := Lib.hid ho; clear ho
            have Hhu3 := Lib.hid hu3; clear hu3
            have Hhz1 := Lib.hid hz1; clear hz1
            clear hz8
            go_wp2_with (go_at_call 53; (with_reducible refine Hhgu.out.mono ?_); rintro e w4 ⟨rfl, rfl⟩)
            go_roundw
            case rel => exact ⟨z + 1, by rw [Hhz1.out]; congr 1 <;> omega, by omega, Hhr.out⟩
            case measure => simp [intOf]; omega
          · rw [t2] at hst hgu
            rw [Bool.true_and] at hst
            cases t3 : m ((q : Int) * 8 + z)
            · rw [t3] at hst hgm
              rw [if_pos (by simp)] at hst
              have hl3 : (pageTo N u m q z).length ≤ 1099511627776 := by omega
              have Hhr := Lib.hid hr; clear hr
              have Hhst := Lib.hid hst; clear hst
              have Hhgu := Lib.hid hgu; clear hgu
              have Hhgm := Lib.hid hgm; clear hgm
              have Hho := Lib.hid ho; clear ho
              have Hhu3 := Lib.hid hu3; clear hu3
              have Hhz1 := Lib.hid hz1; clear hz1
              clear hz8
              go_wp2_with (first
                | (go_at_call 53; first | ((with_reducible refine Hhgu.out.mono ?_); rintro e w4 ⟨rfl, rfl⟩) | ((with_reducible refine Hhgm.out.mono ?_); rintro e w4 ⟨rfl, rfl⟩))
                | (at_builtin; refine wpList_push rfl _ _ 37 3 rfl (.int .i64 0) 8 Try.underlying37 infoIntM rfl w.heap.size _ _ _ rfl (Hho.out.alloc _) _ 1 (.int .i64 ((q : Int) * 8 + z)) rfl (World.cell?_alloc_new _ #[.int .i64 ((q : Int) * 8 + z)] _ 0) rfl hl3 (by decide) hsz ?_; intro a5 c5 w5 ho5 hg5; have Hr5 := Lib.hid (Hhr.out.push rfl ho5 hg5); clear ho5 hg5))
              go_roundw
              case rel => exact ⟨z + 1, by rw [Hhz1.out]; congr 1 <;> omega, by omega, by rw [Hhst.out]; exact Hr5.out⟩
              case measure => simp [intOf]; omega
            · rw [t3] at hst hgm
              rw [if_neg (by simp), List.append_nil] at hst
              have hr : RowAt w wr (pageTo N u m q (z + 1)) (.slice va (pageTo N u m q z).length vc) := by rw [hst]; exact hr
              have Hhr := Lib.hid hr; clear hr
              have Hhst := Lib.hid hst; clear hst
              have Hhgu := Lib.hid hgu; clear hgu
              have Hhgm := Lib.hid hgm; clear hgm
              have Hho := Lib.hid ho; clear ho
              have Hhu3 := Lib.hid hu3; clear hu3
              have Hhz1 := Lib.hid hz1; clear hz1
              clear hz8
              go_wp2_with (go_at_call 53; first | ((with_reducible refine Hhgu.out.mono ?_); rintro e w4 ⟨rfl, rfl⟩) | ((with_reducible refine Hhgm.out.mono ?_); rintro e w4 ⟨rfl, rfl⟩))
              go_roundw
              case rel => exact ⟨z + 1, by rw [Hhz1.out]; congr 1 <;> omega, by omega, Hhr.out⟩
              case measure => simp [intOf]; omega
end Go.Proofs.Ythaicpjgmplgcaa
