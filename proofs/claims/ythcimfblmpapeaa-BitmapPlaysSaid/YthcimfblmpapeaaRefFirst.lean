/- The law's own search. -/
import Derived.Test.YthcimfblmpapeaaRefPack
namespace Go.Proofs.Ythcimfblmpapeaa
open Go.RowKit
set_option linter.unusedVariables false
attribute [local go_sem] ite_min ite_max

set_option maxRecDepth 100000 in
set_option maxHeartbeats 1000000 in
theorem law_first (n : Nat) (f : Nat → Bool) (i t : Int) (bb : Bool) (v : Value) (w : World) (h : BoolsR w v n f) (hn : n ≤ 1048576) :
    Calls Try.prog 26 #[v, .int .i64 i, .int .i64 t, .bool bb] w (Same w (.int .i64 (firstB n f i t bb))) := by
  have hn' : (n : Int) ≤ 1048576 := by omega
  obtain ⟨p0, hp0⟩ : ∃ p0 : Nat, (max 0 i) = p0 := ⟨(max 0 i).toNat, by omega⟩
  obtain ⟨T, hT⟩ : ∃ T : Int, min t n = T := ⟨_, rfl⟩
  have hTn : T ≤ 1048576 := by omega
  have hgoal : firstB n f i t bb = firstG f bb p0 (T - p0).toNat := by
    unfold firstB
    rw [hT, hp0]
    simp
  rw [hgoal]
  obtain ⟨R, hR⟩ : ∃ R, firstG f bb p0 (T - p0).toNat = R := ⟨_, rfl⟩
  rw [hR]
  obtain ⟨a, cap, hv, -, -, -⟩ := (show RowsIn w v 1 n _ from h)
  subst hv
  have Hh := Lib.hid h
  have HT := Lib.hid hT
  have HR := Lib.hid hR
  clear hgoal h hT hR
  go_enter Try.func26, Try.ntmps26
  go_wp2
  clear hp0
  go_loop [9] (fun i => ∃ p : Nat, i = .int .i64 p ∧ (p = p0 ∨ (p : Int) ≤ T) ∧ R = firstG f bb p (T - p).toNat) (fun i => (T - intOf i).toNat)
  case atStart => exact ⟨p0, rfl, Or.inl rfl, HR.out.symm⟩
  case round =>
    obtain ⟨p, rfl, hb0, hinv⟩ := hrel
    by_cases hpT : T ≤ (p : Int)
    · have e0 : (T - p).toNat = 0 := by omega
      rw [e0] at hinv
      have hfin := Lib.hid (show R = -1 from hinv)
      have key : (¬ ((p : Int) < t)) ∨ (((p : Int) < t) ∧ ¬ ((p : Int) < n)) := by have := HT.out; omega
      clear e0 hinv hb0 hpT
      rcases key with c1 | ⟨c1, c2⟩
      all_goals
        go_wp2
        go_ret
        exact ⟨by rw [hfin.out]; rfl, rfl⟩
    · have c1 : (p : Int) < t := by have := HT.out; omega
      have c2 : (p : Int) < n := by have := HT.out; omega
      obtain ⟨m, hm⟩ : ∃ m, (T - p).toNat = m + 1 := ⟨(T - p).toNat - 1, by omega⟩
      have hst : firstG f bb p (m + 1) = if f p = bb then (p : Int) else firstG f bb (p + 1) m := rfl
      obtain ⟨b0, off, hix, hb1, hc⟩ := (Hh.out).at (j := p) (by omega)
      have hp2 : (p : Int) < 1048576 := by omega
      rw [hm, hst] at hinv
      by_cases hbb : f p = bb
      · rw [if_pos hbb] at hinv
        have hfin := Lib.hid hinv
        rw [hbb] at hc
        clear hst hm hinv hb0 hpT hbb
        go_wp2
        go_ret
        exact ⟨by rw [hfin.out]; rfl, rfl⟩
      · rw [if_neg hbb] at hinv
        have e1 : (f p == bb) = false := by simp [hbb]
        have hmm : m = (T - ((p + 1 : Nat) : Int)).toNat := by omega
        rw [hmm] at hinv
        have hpT2 : ((p + 1 : Nat) : Int) ≤ T := by omega
        have hms : (T - ((p + 1 : Nat) : Int)).toNat < (T - (p : Int)).toNat := by omega
        generalize f p = y at *
        have Hhinv := Lib.hid hinv; clear hinv
        have HhpT2 := Lib.hid hpT2; clear hpT2
        have Hhms := Lib.hid hms; clear hms
        clear hst hm hb0 hpT hbb hmm
        go_wp2
        go_round
        case rel => exact ⟨p + 1, by go_num, Or.inr HhpT2.out, Hhinv.out⟩
        case measure => simp [intOf]; have := Hhms.out; omega
end Go.Proofs.Ythcimfblmpapeaa
