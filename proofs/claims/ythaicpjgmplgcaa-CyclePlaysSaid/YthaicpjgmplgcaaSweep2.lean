/- Package sweep: weak roots; the page that every program must know. -/
import Derived.Test.YthaicpjgmplgcaaSweep
namespace Go.Proofs.Ythaicpjgmplgcaa
open Go.RowKit Go.ChangeShapes Go.WideShapes
set_option linter.unusedVariables false

theorem sweep_Page {w : World} {L n0 n1 n2 n3 : Nat} (hL : IsLay w L n0 n1 n2 n3) (h0 : n0 ≤ 40) (h1 : n1 ≤ 40) (h2 : n2 ≤ 40) (h3 : n3 ≤ 40) {pu pm : Value} {u m : Int → Bool} (hu : GetsAs w pu u) (hm : GetsAs w pm m) (p : Int) :
    Calls Try.prog 18 #[.pointer (some ⟨L, 0, none⟩), pu, pm, .int .i64 p] w (RetInts w (pageL (sumN n0 n1 n2 n3) u m p)) :=
  sweep_page_go _ pu pm (sumN n0 n1 n2 n3) u m p (by unfold sumN; omega) w (fun w' u' => lay_Blocks L n0 n1 n2 n3 h0 h1 h2 h3 w' (hL.upd u' (fun x => x))) (fun w' u' => lay_Pages L n0 n1 n2 n3 h0 h1 h2 h3 w' (hL.upd u' (fun x => x))) hu hm
theorem sweep_Page_nil (w : World) {pu pm : Value} {u m : Int → Bool} (hu : GetsAs w pu u) (hm : GetsAs w pm m) (p : Int) :
    Calls Try.prog 18 #[.pointer none, pu, pm, .int .i64 p] w (RetInts w []) := by
  have h := sweep_page_go (.pointer none) pu pm 0 u m p (by omega) w (fun w' _ => (lay_nil w').1.mono fun e w2 ⟨h1, h2⟩ => ⟨h1, h2 ▸ Upd.refl _ _⟩) (fun w' _ => (lay_nil w').2.mono fun e w2 ⟨h1, h2⟩ => ⟨h1, h2 ▸ Upd.refl _ _⟩) hu hm
  have hp : pageL 0 u m p = [] := by unfold pageL; rw [if_pos (by omega)]
  rw [hp] at h
  exact h

set_option maxRecDepth 100000 in
set_option maxHeartbeats 1000000 in
theorem sweep_Weak (v : Value) (ws : List Int) (pm : Value) (m : Int → Bool) (hl : ws.length ≤ 1000) (w : World) (hv : IntsR w v .i64 ws) (hm : GetsAs w pm m) :
    Calls Try.prog 25 #[v, pm] w (RetInts w (weakL ws m)) := by
  unfold weakL
  obtain ⟨va, vc, hv2, -⟩ := (show RowsIn w v 1 ws.length _ from hv)
  subst hv2
  have hlI : (ws.length : Int) ≤ 1000 := by omega
  have hst := RowAt.nil w w (Upd.refl _ _)
  have Hhv := Lib.hid hv; clear hv
  have Hhm := Lib.hid hm; clear hm
  have Hhst := Lib.hid hst; clear hst
  go_enter Try.func25, Try.ntmps25
  go_wp2_with fail
  go_loopw [10, 5] (fun i v wr => ∃ z : Nat, i = .int .i64 z ∧ z ≤ ws.length ∧ RowAt w wr (weakTo ws m z) v) (fun i _ _ => (ws.length - intOf i).toNat)
  case atStart => exact ⟨0, rfl, Nat.zero_le _, Hhst.out⟩
  case round =>
    obtain ⟨z, rfl, hz, hr⟩ := hrel
    clear Hhst
    by_cases hzl : z = ws.length
    · have e1 : ¬ ((z : Int) < ws.length) := by omega
      subst hzl
      have hfin := hr.ret
      obtain ⟨a, c, rfl, ho, hu3, hsz⟩ := hr
      have Hhfin := Lib.hid hfin; clear hfin
      clear ho hu3
      go_wp2_with fail
      go_ret
      exact Hhfin.out
    · have e1 : (z : Int) < ws.length := by omega
      have hz3 : z < ws.length := by omega
      obtain ⟨b3, off3, hix3, hcc⟩ := int_atR Hhv.out hz3
      obtain ⟨va2, vc2, hve, ho, hu3, hsz⟩ := id hr
      subst hve
      have hcell := hcc wr hu3.none
      have hst : weakTo ws m (z + 1) = weakTo ws m z ++ (if decide (0 ≤ ws.getD z 0) && !m (ws.getD z 0) then [(z : Int)] else []) := rfl
      have hlen := weakTo_len ws m z
      generalize ws.getD z 0 = b at *
      by_cases t1 : 0 ≤ b
      · rw [decide_eq_true t1, Bool.true_and] at hst
        have hg := Hhm.out wr hu3 b
        cases t2 : m b
        · rw [t2] at hst hg
          rw [if_pos (by simp)] at hst
          have hl3 : (weakTo ws m z).length ≤ 1099511627776 := by omega
          have Hhr := Lib.hid hr; clear hr
          have Hhst := Lib.hid hst; clear hst
          have Hhg := Lib.hid hg; clear hg
          have Hho := Lib.hid ho; clear ho
          have Hhu3 := Lib.hid hu3; clear hu3
          clear hzl hcc
          go_wp2_with (first
            | (go_at_call 24; (with_reducible refine Hhg.out.mono ?_); rintro e w4 ⟨rfl, rfl⟩)
            | (at_builtin; refine wpList_push rfl _ _ 37 3 rfl (.int .i64 0) 8 Try.underlying37 infoIntM rfl w.heap.size _ _ _ rfl (Hho.out.alloc _) _ 1 (.int .i64 z) rfl (World.cell?_alloc_new _ #[.int .i64 z] _ 0) rfl hl3 (by decide) hsz ?_; intro a5 c5 w5 ho5 hg5; have Hr5 := Lib.hid (Hhr.out.push rfl ho5 hg5); clear ho5 hg5))
          go_roundw
          case rel => exact ⟨z + 1, by go_num, by omega, by rw [Hhst.out]; exact Hr5.out⟩
          case measure => simp [intOf]; omega
        · rw [t2] at hst hg
          rw [if_neg (by simp), List.append_nil] at hst
          have hr : RowAt w wr (weakTo ws m (z + 1)) (.slice va2 (weakTo ws m z).length vc2) := by rw [hst]; exact hr
          have Hhr := Lib.hid hr; clear hr
          have Hhst := Lib.hid hst; clear hst
          have Hhg := Lib.hid hg; clear hg
          have Hho := Lib.hid ho; clear ho
          have Hhu3 := Lib.hid hu3; clear hu3
          clear hzl hcc
          go_wp2_with (go_at_call 24; (with_reducible refine Hhg.out.mono ?_); rintro e w4 ⟨rfl, rfl⟩)
          go_roundw
          case rel => exact ⟨z + 1, by go_num, by omega, Hhr.out⟩
          case measure => simp [intOf]; omega
      · rw [decide_eq_false t1, Bool.false_and, if_neg (by simp), List.append_nil] at hst
        have hr : RowAt w wr (weakTo ws m (z + 1)) (.slice va2 (weakTo ws m z).length vc2) := by rw [hst]; exact hr
        have Hhr := Lib.hid hr; clear hr
        have Hhst := Lib.hid hst; clear hst
        have Hho := Lib.hid ho; clear ho
        have Hhu3 := Lib.hid hu3; clear hu3
        clear hzl hcc
        go_wp2_with fail
        go_roundw
        case rel => exact ⟨z + 1, by go_num, by omega, Hhr.out⟩
        case measure => simp [intOf]; omega
end Go.Proofs.Ythaicpjgmplgcaa
