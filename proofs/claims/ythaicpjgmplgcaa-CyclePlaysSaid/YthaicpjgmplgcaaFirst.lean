/- First of package bitmap. -/
import Derived.Test.YthaicpjgmplgcaaMap
namespace Go.Proofs.Ythaicpjgmplgcaa
open Go.RowKit
set_option linter.unusedVariables false

def firstTo (n : Nat) (ws : List Nat) (bb : Bool) : Nat → Nat → Int
  | _, 0 => -1
  | i, m + 1 => if bitK n ws (i : Int) = bb then (i : Int) else firstTo n ws bb (i + 1) m
/-- The first bit that is bb. -/
def firstK (n : Nat) (ws : List Nat) (i t : Int) (bb : Bool) : Int := firstTo n ws bb (max 0 i).toNat ((min t n) - (max 0 i)).toNat

set_option maxRecDepth 100000 in
set_option maxHeartbeats 400000 in
theorem map_First (b n : Nat) (ws : List Nat) (i t : Int) (bb : Bool) (w : World) (h : IsMap w b n ws) :
    Calls Try.prog 94 #[.pointer (some ⟨b, 0, none⟩), .int .i64 i, .int .i64 t, .bool bb] w (Same w (.int .i64 (firstK n ws i t bb))) := by
  have h1 := Lib.hid (map_Len b n ws w h)
  have h2 := Lib.hid (fun j => map_Get b n ws j w h)
  have hn : n ≤ 1048576 := h.2.1
  have hn' : (n : Int) ≤ 1048576 := by omega
  obtain ⟨p0, hp0⟩ : ∃ p0 : Nat, (max 0 i) = p0 := ⟨(max 0 i).toNat, by omega⟩
  obtain ⟨T, hT⟩ : ∃ T : Int, min t n = T := ⟨_, rfl⟩
  have hTn : T ≤ 1048576 := by omega
  have hgoal : firstK n ws i t bb = firstTo n ws bb p0 (T - p0).toNat := by
    unfold firstK
    rw [hT, hp0]
    simp
  rw [hgoal]
  clear hgoal h
  go_enter Try.func94, Try.ntmps94
  go_wp2
  refine wp_scope_loop 0 (fun a' w' => ∃ (p : Nat) (u4 u5 u6 u7 u8 u10 u11 u12 u13 u14 u15 u16 u17 u18 u19 u20 u21 u22 u23 u24 u25 u26 : Value), a' = { tmps := #[.pointer (some ⟨b, 0, none⟩), .int .i64 i, .int .i64 T, .bool bb, u4, u5, u6, u7, u8, .int .i64 p, u10, u11, u12, u13, u14, u15, u16, u17, u18, u19, u20, u21, u22, u23, u24, u25, u26], defers := [] } ∧ (p = p0 ∨ (p : Int) ≤ T) ∧ firstTo n ws bb p0 (T - p0).toNat = firstTo n ws bb p (T - p).toNat ∧ w = w') (fun a' _ => (T - intOf (a'.tmps.getD 9 undef)).toNat) rfl ?_ ?_
  · rintro a' w2 ⟨p, u4, u5, u6, u7, u8, u10, u11, u12, u13, u14, u15, u16, u17, u18, u19, u20, u21, u22, u23, u24, u25, u26, rfl, hb0, hinv, rfl⟩
    rw [hinv]
    clear hinv
    by_cases hpT : T ≤ (p : Int)
    · have e0 : (T - p).toNat = 0 := by omega
      rw [e0, show firstTo n ws bb p 0 = -1 from rfl]
      clear e0 hp0 hT
      go_wp2
      simp only [Exit.jump]
      go_ret
      exact ⟨rfl, rfl⟩
    · obtain ⟨m, hm⟩ : ∃ m, (T - p).toNat = m + 1 := ⟨(T - p).toNat - 1, by omega⟩
      have hst : firstTo n ws bb p (m + 1) = if bitK n ws (p : Int) = bb then (p : Int) else firstTo n ws bb (p + 1) m := rfl
      rw [hm, hst]
      have h2 := h2.out (p : Int)
      have hp2 : (p : Int) < 1048576 := by omega
      by_cases hbb : bitK n ws (p : Int) = bb
      · rw [if_pos hbb]
        rw [hbb] at h2
        have H2 := Lib.hid h2
        have d1 : ¬ T ≤ (p : Int) := hpT
        clear h2 hst hm hp0 hT hbb hpT
        go_wp2_with (go_at_call 24; (with_reducible refine H2.out.mono ?_); rintro e w' ⟨rfl, rfl⟩)
        simp only [Exit.jump]
        go_ret
        exact ⟨rfl, rfl⟩
      · rw [if_neg hbb]
        have e1 : (bitK n ws (p : Int) == bb) = false := by simp [hbb]
        have hmm : m = (T - ((p + 1 : Nat) : Int)).toNat := by omega
        have H2 := Lib.hid h2
        have Hb := Lib.hid hbb
        rw [hmm]
        clear h2 hst hp0 hT hbb hmm
        generalize bitK n ws (p : Int) = bv at *
        go_wp2_with (go_at_call 24; (with_reducible refine H2.out.mono ?_); rintro e w' ⟨rfl, rfl⟩)
        go_step3
        exact ⟨rfl, ⟨p + 1, _, _, _, _, _, _, _, _, _, _, _, _, _, _, _, _, _, _, _, _, _, _, rfl, by omega, rfl, rfl⟩, by simp [intOf]; omega⟩
  · intro H
    have H2 := fun a' (ha : ∃ (x y : Int) (u4 u5 u6 u7 u8 u10 u11 u12 u13 u14 u15 u16 u17 u18 u19 u20 u21 u22 u23 u24 u25 u26 : Value), a' = { tmps := #[.pointer (some ⟨b, 0, none⟩), .int .i64 i, .int .i64 y, .bool bb, u4, u5, u6, u7, u8, .int .i64 x, u10, u11, u12, u13, u14, u15, u16, u17, u18, u19, u20, u21, u22, u23, u24, u25, u26], defers := [] } ∧ x = p0 ∧ y = T) => H a' w (by
      obtain ⟨x, y, u4, u5, u6, u7, u8, u10, u11, u12, u13, u14, u15, u16, u17, u18, u19, u20, u21, u22, u23, u24, u25, u26, rfl, rfl, rfl⟩ := ha
      exact ⟨p0, _, _, _, _, _, _, _, _, _, _, _, _, _, _, _, _, _, _, _, _, _, _, rfl, Or.inl rfl, rfl, rfl⟩)
    clear H
    go_wp2_with (go_at_call 55; (with_reducible refine h1.out.mono ?_); rintro e w' ⟨rfl, rfl⟩)
    all_goals
      go_step3
      first | (rename_i hK _ _; exact hK _ _ (H2 _ ⟨_, _, _, _, _, _, _, _, _, _, _, _, _, _, _, _, _, _, _, _, _, _, _, _, rfl, by omega, by omega⟩)) | (rename_i hK _; exact hK _ _ (H2 _ ⟨_, _, _, _, _, _, _, _, _, _, _, _, _, _, _, _, _, _, _, _, _, _, _, _, rfl, by omega, by omega⟩)) | (rename_i hK; exact hK _ _ (H2 _ ⟨_, _, _, _, _, _, _, _, _, _, _, _, _, _, _, _, _, _, _, _, _, _, _, _, rfl, by omega, by omega⟩))
end Go.Proofs.Ythaicpjgmplgcaa
