/- Count and First of package bitmap, told by the bits. -/
import Derived.Test.YthaicpjgmplgcaaMapClone
namespace Go.Proofs.Ythaicpjgmplgcaa
open Go.RowKit
set_option linter.unusedVariables false

def RetU (w : World) (v : Value) (e : Ending) (w' : World) : Prop := e = .returned v ∧ Upd (fun _ => False) w w'

theorem map_Count_nil (w : World) : Calls Try.prog 28 #[.pointer none] w (RetU w (.int .i64 0)) := by
  have h1 := Lib.hid (map_Words_nil w)
  go_enter Try.func28, Try.ntmps28
  go_wp2_with (go_at_call 56; (with_reducible refine h1.out.mono ?_); rintro e w' ⟨rfl, rfl⟩)
  go_loop [3, 9] (fun n i => n = .int .i64 0 ∧ i = .int .i64 0) (fun _ _ => 0)
  case atStart => exact ⟨rfl, rfl⟩
  case round =>
    obtain ⟨rfl, rfl⟩ := hrel
    go_wp2
    go_ret
    exact ⟨rfl, Upd.refl _ _⟩

set_option maxRecDepth 100000 in
set_option maxHeartbeats 400000 in
theorem map_CountF (b g n : Nat) (f : Nat → Bool) (w : World) (h : MapF w b g n f) : Calls Try.prog 28 #[.pointer (some ⟨b, 0, none⟩)] w (RetU w (.int .i64 (countN f n))) := by
  have h1 := Lib.hid (map_WordsF b g n f w h)
  have hn := h.le
  rw [← onesW_packN]
  have hlt := packN_lt n f
  have hlen := packN_length n f
  have hL : (packN n f).length ≤ 16384 := by omega
  generalize packN n f = ws at *
  rw [← hlen] at h1
  clear hlen h hn
  have Hhlt := Lib.hid hlt; clear hlt
  go_enter Try.func28, Try.ntmps28
  go_wp2_with (go_at_call 56; (with_reducible refine h1.out.mono ?_); rintro e w' ⟨g', c', rfl, ho, u⟩)
  have Hho := Lib.hid ho; clear ho
  have Hu := Lib.hid u; clear u
  go_loop [3, 9] (fun n i => ∃ k : Nat, k ≤ ws.length ∧ i = .int .i64 k ∧ n = .int .i64 (onesW (ws.take k))) (fun _ i => (ws.length - intOf i).toNat)
  case atStart => exact ⟨0, Nat.zero_le _, rfl, rfl⟩
  case round =>
    obtain ⟨k, hk, rfl, rfl⟩ := hrel
    by_cases hkl : k = ws.length
    · have d1 : ¬ ((k : Int) < ws.length) := by omega
      have hfin : onesW (ws.take k) = onesW ws := by rw [hkl, List.take_length]
      have Hhfin := Lib.hid hfin; clear hfin
      clear hkl
      go_wp2
      go_ret
      exact ⟨by rw [Hhfin.out]; rfl, Hu.out⟩
    · have d1 : (k : Int) < ws.length := by omega
      have hkl' : k < ws.length := by omega
      have hst := onesW_take ws k hkl'
      have hb := onesW_le (ws.take k)
      rw [List.length_take, Nat.min_eq_left (by omega)] at hb
      have hx : ws.getD k 0 < 2 ^ 64 := Hhlt.out _ (by simp [List.getD, hkl'])
      have hcell : w'.cell? ⟨g', k, none⟩ = some (.int .u64 ((ws.getD k 0 : Nat) : Int)) := by
        have := Hho.out.cellAt k (by omega)
        rw [this]
        simp [words, List.getD, hkl']
      have ho1 := onesN_le (ws.getD k 0)
      have hw := Lib.hid (word_ones (ws.getD k 0) w' hx)
      generalize ws.getD k 0 = x at *
      generalize onesW (ws.take k) = s at *
      generalize onesN x = y at *
      clear hx hkl
      have Hhst := Lib.hid hst; clear hst
      go_wp2_with (go_at_call 57; (with_reducible refine hw.out.mono ?_); rintro e w' ⟨rfl, rfl⟩)
      go_round
      case rel => exact ⟨k + 1, by omega, by go_num, by rw [Hhst.out]; go_num⟩
      case measure => simp [intOf]; omega

set_option maxRecDepth 100000 in
theorem map_First_nil (w : World) : Calls Try.prog 94 #[.pointer none, .int .i64 0, .int .i64 9, .bool false] w (Same w (.int .i64 (-1))) := by
  have h1 := Lib.hid (map_Len_nil w)
  go_enter Try.func94, Try.ntmps94
  go_wp2
  refine wp_scope_loop 0 (fun a' w' => ∃ (u4 u5 u6 u7 u8 u10 u11 u12 u13 u14 u15 u16 u17 u18 u19 u20 u21 u22 u23 u24 u25 u26 : Value), a' = { tmps := #[.pointer none, .int .i64 0, .int .i64 0, .bool false, u4, u5, u6, u7, u8, .int .i64 0, u10, u11, u12, u13, u14, u15, u16, u17, u18, u19, u20, u21, u22, u23, u24, u25, u26], defers := [] } ∧ w = w') (fun a' _ => 0) rfl ?_ ?_
  · rintro a' w2 ⟨u4, u5, u6, u7, u8, u10, u11, u12, u13, u14, u15, u16, u17, u18, u19, u20, u21, u22, u23, u24, u25, u26, rfl, rfl⟩
    go_wp2
    simp only [Exit.jump]
    go_ret
    exact ⟨rfl, rfl⟩
  · intro H
    have H2 := fun a' (ha : ∃ (u4 u5 u6 u7 u8 u10 u11 u12 u13 u14 u15 u16 u17 u18 u19 u20 u21 u22 u23 u24 u25 u26 : Value), a' = { tmps := #[.pointer none, .int .i64 0, .int .i64 0, .bool false, u4, u5, u6, u7, u8, .int .i64 0, u10, u11, u12, u13, u14, u15, u16, u17, u18, u19, u20, u21, u22, u23, u24, u25, u26], defers := [] }) => H a' w (by
      obtain ⟨u4, u5, u6, u7, u8, u10, u11, u12, u13, u14, u15, u16, u17, u18, u19, u20, u21, u22, u23, u24, u25, u26, rfl⟩ := ha
      exact ⟨_, _, _, _, _, _, _, _, _, _, _, _, _, _, _, _, _, _, _, _, _, _, rfl, rfl⟩)
    clear H
    go_wp2_with (go_at_call 55; (with_reducible refine h1.out.mono ?_); rintro e w' ⟨rfl, rfl⟩)
    all_goals
      go_step3
      first | (rename_i hK _ _; exact hK _ _ (H2 _ ⟨_, _, _, _, _, _, _, _, _, _, _, _, _, _, _, _, _, _, _, _, _, _, rfl⟩)) | (rename_i hK _; exact hK _ _ (H2 _ ⟨_, _, _, _, _, _, _, _, _, _, _, _, _, _, _, _, _, _, _, _, _, _, rfl⟩)) | (rename_i hK; exact hK _ _ (H2 _ ⟨_, _, _, _, _, _, _, _, _, _, _, _, _, _, _, _, _, _, _, _, _, _, rfl⟩))
theorem map_Set_nil (i : Int) (bb : Bool) (w : World) : Calls Try.prog 81 #[.pointer none, .int .i64 i, .bool bb] w (Same w (.bool false)) := by
  have h1 := Lib.hid (map_Len_nil w)
  by_cases h : i < 0
  · go_enter Try.func81, Try.ntmps81
    go_wp2
    go_ret
    exact ⟨rfl, rfl⟩
  · have h2 : 0 ≤ i := by omega
    go_enter Try.func81, Try.ntmps81
    go_wp2_with (go_at_call 55; (with_reducible refine h1.out.mono ?_); rintro e w' ⟨rfl, rfl⟩)
    go_ret
    exact ⟨rfl, rfl⟩

/-- The first of the bits f that is bb, from place i on, m places. -/
def firstG (f : Nat → Bool) (bb : Bool) : Nat → Nat → Int
  | _, 0 => -1
  | i, m + 1 => if f i = bb then (i : Int) else firstG f bb (i + 1) m
def firstB (n : Nat) (f : Nat → Bool) (i t : Int) (bb : Bool) : Int := firstG f bb (max 0 i).toNat ((min t n) - (max 0 i)).toNat

theorem firstTo_pack (n : Nat) (f : Nat → Bool) (bb : Bool) (i m : Nat) (h : i + m ≤ n ∨ m = 0) : firstTo n (packN n f) bb i m = firstG f bb i m := by
  induction m generalizing i with
  | zero => rfl
  | succ m ih =>
    unfold firstTo firstG
    rw [bitK_pack, ih (i + 1) (by omega)]
    have : 0 ≤ (i : Int) ∧ (i : Int) < n := by omega
    simp [this]
theorem firstK_pack (n : Nat) (f : Nat → Bool) (i t : Int) (bb : Bool) : firstK n (packN n f) i t bb = firstB n f i t bb := firstTo_pack _ _ _ _ _ (by omega)

theorem map_FirstF (b g n : Nat) (f : Nat → Bool) (i t : Int) (bb : Bool) (w : World) (h : MapF w b g n f) :
    Calls Try.prog 94 #[.pointer (some ⟨b, 0, none⟩), .int .i64 i, .int .i64 t, .bool bb] w (Same w (.int .i64 (firstB n f i t bb))) := by
  rw [← firstK_pack]
  exact map_First b n _ i t bb w h.is

/-- What a search finds. -/
theorem firstG_spec (f : Nat → Bool) (bb : Bool) (i m : Nat) : (firstG f bb i m = -1 ∧ ∀ k, i ≤ k → k < i + m → f k ≠ bb) ∨ (∃ k : Nat, firstG f bb i m = k ∧ i ≤ k ∧ k < i + m ∧ f k = bb ∧ ∀ j, i ≤ j → j < k → f j ≠ bb) := by
  induction m generalizing i with
  | zero => exact Or.inl ⟨rfl, fun k h1 h2 => by omega⟩
  | succ m ih =>
    unfold firstG
    by_cases h : f i = bb
    · rw [if_pos h]
      exact Or.inr ⟨i, rfl, Nat.le_refl _, by omega, h, fun j h1 h2 => by omega⟩
    · rw [if_neg h]
      rcases ih (i + 1) with ⟨h1, h2⟩ | ⟨k, h1, h2, h3, h4, h5⟩
      · refine Or.inl ⟨h1, fun k hk1 hk2 => ?_⟩
        by_cases e : k = i
        · rw [e]; exact h
        · exact h2 k (by omega) (by omega)
      · refine Or.inr ⟨k, h1, by omega, by omega, h4, fun j hj1 hj2 => ?_⟩
        by_cases e : j = i
        · rw [e]; exact h
        · exact h5 j (by omega) hj2
end Go.Proofs.Ythaicpjgmplgcaa
