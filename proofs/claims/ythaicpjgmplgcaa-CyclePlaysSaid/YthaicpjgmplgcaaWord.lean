/- Package word: its functions' contracts. -/
import Derived.Test.YthaicpjgmplgcaaRows
import Derived.Test.YthaicpjgmplgcaaBits
namespace Go.Proofs.Ythaicpjgmplgcaa
open Go.RowKit
set_option linter.unusedVariables false

def Same (w : World) (v : Value) (e : Ending) (w' : World) : Prop := e = .returned v ∧ w = w'
theorem ret_u64 {a b : Int} (h : a = b) : Ending.returned (.int .u64 a) = .returned (.int .u64 b) := by rw [h]

def OkF (f n : Int) : Prop := 0 ≤ n ∧ n ≤ 64 ∧ 0 ≤ f ∧ f ≤ 64 - n

theorem mask_val (f n : Nat) (h : f + n ≤ 64) (hn : n < 64) : IntKind.u64.wrap (IntKind.u64.wrap (IntKind.u64.wrap (2 ^ n) - 1) * 2 ^ f) = ((maskN f n : Nat) : Int) := by
  have h1 : IntKind.u64.wrap (2 ^ n : Int) = ((2 ^ n : Nat) : Int) := by
    rw [show (2 ^ n : Int) = ((2 ^ n : Nat) : Int) from by simp]
    exact u64wrap_id _ (Nat.pow_lt_pow_right (by decide) hn)
  have hp : 0 < 2 ^ n := Nat.two_pow_pos n
  have hlt : 2 ^ n < 2 ^ 64 := Nat.pow_lt_pow_right (by decide) hn
  have h2 : IntKind.u64.wrap (((2 ^ n : Nat) : Int) - 1) = ((2 ^ n - 1 : Nat) : Int) := by
    rw [show (((2 ^ n : Nat) : Int) - 1) = ((2 ^ n - 1 : Nat) : Int) from by omega]
    exact u64wrap_id _ (by omega)
  rw [h1, h2]
  rw [show (((2 ^ n - 1 : Nat) : Int) * 2 ^ f) = ((maskN f n : Nat) : Int) from by unfold maskN; simp]
  exact u64wrap_id _ (mask_lt f n h)

set_option maxRecDepth 100000 in
set_option maxHeartbeats 400000 in
theorem mask_ok (f n : Nat) (w : World) (h : f + n ≤ 64) : Calls Try.prog 78 #[.int .i64 f, .int .i64 n] w (Same w (.tuple #[.int .u64 (maskN f n), .bool true])) := by
  have a1 : (0 : Int) ≤ n := by omega
  have a2 : (n : Int) ≤ 64 := by omega
  have a3 : (0 : Int) ≤ f := by omega
  have a4 : (f : Int) ≤ 64 - n := by omega
  by_cases h64 : n = 64
  · subst h64
    have hf : f = 0 := by omega
    subst hf
    have hv : ((maskN 0 64 : Nat) : Int) = 18446744073709551615 := by decide
    rw [hv]
    clear hv
    go_enter Try.func78, Try.ntmps78
    go_wp2
    go_ret2
    exact ⟨rfl, rfl⟩
  · have b1 : ((n : Int) == 64) = false := by simp; omega
    by_cases h0 : n = 0
    · subst h0
      have hv : ((maskN f 0 : Nat) : Int) = 0 := by unfold maskN; simp
      rw [hv]
      clear hv
      go_enter Try.func78, Try.ntmps78
      go_wp2
      go_ret2
      exact ⟨rfl, rfl⟩
    · have b2 : ((n : Int) == 0) = false := by simp; omega
      have hv := Lib.hid (mask_val f n h (by omega))
      go_enter Try.func78, Try.ntmps78
      go_wp2
      go_ret2
      exact ⟨by have := hv.out; simp at this ⊢; exact this, rfl⟩

set_option maxRecDepth 100000 in
set_option maxHeartbeats 400000 in
theorem mask_no (f n : Int) (w : World) (h : ¬ OkF f n) : Calls Try.prog 78 #[.int .i64 f, .int .i64 n] w (Same w (.tuple #[.int .u64 0, .bool false])) := by
  unfold OkF at h
  by_cases h1 : n < 0
  · clear h
    go_enter Try.func78, Try.ntmps78
    go_wp2
    go_ret2
    exact ⟨rfl, rfl⟩
  · by_cases h2 : 64 < n
    · clear h
      go_enter Try.func78, Try.ntmps78
      go_wp2
      go_ret2
      exact ⟨rfl, rfl⟩
    · have h2' : n ≤ 64 := by omega
      have h1' : 0 ≤ n := by omega
      by_cases h3 : f < 0
      · clear h
        go_enter Try.func78, Try.ntmps78
        go_wp2
        go_ret2
        exact ⟨rfl, rfl⟩
      · have h3' : 0 ≤ f := by omega
        have h4 : 64 - n < f := by omega
        clear h
        go_enter Try.func78, Try.ntmps78
        go_wp2
        go_ret2
        exact ⟨rfl, rfl⟩

theorem maskN_zero (f : Nat) : maskN f 0 = 0 := by unfold maskN; simp
theorem maskN_pos (f n : Nat) (h : 0 < n) : maskN f n ≠ 0 := by
  intro e
  have := tb_mask f n f
  rw [e, Nat.zero_testBit] at this
  simp at this
  omega
theorem get_val (x f n : Nat) (hx : x < 2 ^ 64) (h : f + n ≤ 64) : bits .and .u64 (x : Int) (maskN f n : Nat) / 2 ^ f = ((getN x f n : Nat) : Int) := by
  rw [u64and x _ hx (mask_lt f n h), ← get_mask]
  simp
theorem set_val (x f n v : Nat) (hx : x < 2 ^ 64) (h : f + n ≤ 64) :
    bits .or .u64 (bits .andNot .u64 (x : Int) (maskN f n : Nat)) (bits .and .u64 (IntKind.u64.wrap ((v : Int) * 2 ^ f)) (maskN f n : Nat)) = ((setN x f n v : Nat) : Int) := by
  have hm := mask_lt f n h
  rw [show ((v : Int) * 2 ^ f) = ((v * 2 ^ f : Nat) : Int) from by simp, u64wrap, u64andNot x _ hx hm, u64and _ _ (Nat.mod_lt _ (by decide)) hm,
    u64or _ _ (Nat.xor_lt_two_pow hx (Nat.and_lt_two_pow _ hm)) (Nat.and_lt_two_pow _ hm)]
  rfl

set_option maxRecDepth 100000 in
set_option maxHeartbeats 400000 in
theorem word_get (x f n : Nat) (w : World) (hx : x < 2 ^ 64) (h : f + n ≤ 64) : Calls Try.prog 51 #[.int .u64 x, .int .i64 f, .int .i64 n] w (Same w (.int .u64 (getN x f n))) := by
  have hc := Lib.hid (mask_ok f n w h)
  have hv := Lib.hid (get_val x f n hx h)
  have a2 : (f : Int) ≤ 64 := by omega
  by_cases h0 : n = 0
  · subst h0
    have hg : getN x f 0 = 0 := by unfold getN; omega
    rw [hg]
    rw [maskN_zero] at hc
    clear hx h hg
    go_enter Try.func51, Try.ntmps51
    go_wp2_with (go_at_call 78; refine hc.out.mono ?_; rintro e w' ⟨rfl, rfl⟩)
    go_ret
    exact ⟨rfl, rfl⟩
  · have hm : (((maskN f n : Nat) : Int) == 0) = false := by
      have := maskN_pos f n (by omega)
      simp
      omega
    clear hx h h0
    go_enter Try.func51, Try.ntmps51
    go_wp2_with (go_at_call 78; refine hc.out.mono ?_; rintro e w' ⟨rfl, rfl⟩)
    go_ret
    exact ⟨ret_u64 hv.out, rfl⟩

set_option maxRecDepth 100000 in
set_option maxHeartbeats 400000 in
theorem word_get_no (x f n : Int) (w : World) (h : ¬ OkF f n) : Calls Try.prog 51 #[.int .u64 x, .int .i64 f, .int .i64 n] w (Same w (.int .u64 0)) := by
  have hc := Lib.hid (mask_no f n w h)
  clear h
  go_enter Try.func51, Try.ntmps51
  go_wp2_with (go_at_call 78; refine hc.out.mono ?_; rintro e w' ⟨rfl, rfl⟩)
  go_ret
  exact ⟨rfl, rfl⟩

theorem pred_val (y : Nat) (hy : y < 2 ^ 64) (h0 : y ≠ 0) : bits .and .u64 (y : Int) (IntKind.u64.wrap ((y : Int) - 1)) = ((y &&& (y - 1) : Nat) : Int) := by
  rw [show ((y : Int) - 1) = ((y - 1 : Nat) : Int) from by omega, u64wrap_id _ (by omega), u64and y (y - 1) hy (by omega)]

set_option maxRecDepth 100000 in
set_option maxHeartbeats 400000 in
theorem word_ones (x : Nat) (w : World) (hx : x < 2 ^ 64) : Calls Try.prog 57 #[.int .u64 x] w (Same w (.int .i64 (onesN x))) := by
  go_enter Try.func57, Try.ntmps57
  go_wp2
  refine wp_scope_loop 0 (fun a' w' => w = w' ∧ ∃ (y k : Nat) (u1 u2 u4 u5 u6 u7 u8 u9 u10 u11 u12 : Value), a' = { tmps := #[.int .u64 y, u1, u2, .int .i64 k, u4, u5, u6, u7, u8, u9, u10, u11, u12], defers := [] } ∧ y < 2 ^ 64 ∧ k + onesN y = onesN x) (fun a' _ => (64 - intOf (a'.tmps.getD 3 undef)).toNat) rfl ?_ ?_
  · rintro a' w' ⟨rfl, y, k, u1, u2, u4, u5, u6, u7, u8, u9, u10, u11, u12, rfl, hy, hk⟩
    have hle := onesN_le x
    by_cases h0 : y = 0
    · subst h0
      rw [onesN_zero] at hk
      have hk := Lib.hid hk
      clear hle hx
      go_wp2
      simp only [Exit.jump]
      go_ret
      exact ⟨by rw [← hk.out]; rfl, rfl⟩
    · have hp := onesN_pred y h0 hy
      have hv := Lib.hid (pred_val y hy h0)
      have hj : y &&& (y - 1) < 2 ^ 64 := Nat.and_lt_two_pow _ (by omega)
      have hk2 := Lib.hid (show (k + 1) + onesN (y &&& (y - 1)) = onesN x by omega)
      have hk3 : k < 64 := by omega
      have hy0 : ((y : Int) == 0) = false := by simp; omega
      have hj := Lib.hid hj
      clear hk hp hle hx h0 hy
      go_wp2
      go_step3
      rw [hv.out]
      exact ⟨rfl, ⟨rfl, y &&& (y - 1), k + 1, _, _, _, _, _, _, _, _, _, _, _, rfl, hj.out, hk2.out⟩, by simp [intOf]; omega⟩
  · intro H
    go_wp2
    go_step3
    rename_i hK
    exact hK _ _ (H _ _ ⟨rfl, x, 0, _, _, _, _, _, _, _, _, _, _, _, rfl, hx, by omega⟩)

end Go.Proofs.Ythaicpjgmplgcaa
