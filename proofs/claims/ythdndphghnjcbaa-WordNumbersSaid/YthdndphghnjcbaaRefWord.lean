/- The reference's words (scullionref1): contracts. -/
import Derived.Test.YthdndphghnjcbaaWord
namespace Go.Proofs.Ythdndphghnjcbaa
open Go.RowKit
set_option linter.unusedVariables false

set_option maxRecDepth 100000 in
set_option maxHeartbeats 400000 in
theorem ref_get (x f n : Nat) (w : World) (hx : x < 2 ^ 64) (h : f + n ≤ 64) : Calls Try.prog 24 #[.int .u64 x, .int .i64 f, .int .i64 n] w (Same w (.int .u64 (getN x f n))) := by
  have a1 : (0 : Int) ≤ n := by omega
  have a2 : (n : Int) ≤ 64 - f := by omega
  have a3 : (0 : Int) ≤ f := by omega
  have a4 : (f : Int) ≤ 64 := by omega
  go_enter Try.func24, Try.ntmps24
  go_wp2
  go_loop [7, 8] (fun v i => ∃ k : Nat, k ≤ n ∧ i = .int .i64 ((k : Int) - 1) ∧ v = .int .u64 (getN x (f + k) (n - k))) (fun _ i => (intOf i + 1).toNat)
  case atStart => exact ⟨n, Nat.le_refl _, rfl, by simp [getN, Nat.mod_one]⟩
  case round =>
    obtain ⟨k, hk, rfl, rfl⟩ := hrel
    by_cases h0 : k = 0
    · subst h0
      go_wp2
      go_ret
      exact ⟨rfl, rfl⟩
    · have b1 : 0 ≤ (k : Int) - 1 := by omega
      have b2 : (k : Int) ≤ 64 := by omega
      have hr := Lib.hid (get_round x f n k hx h (by omega) hk)
      go_wp2
      rw [hr.out]
      exact ⟨⟨k - 1, by omega, by rw [show ((k : Int) - 1 - 1) = ((k - 1 : Nat) : Int) - 1 from by omega], rfl⟩, by simp [intOf]; omega⟩

def OkR (f n : Int) : Prop := 0 ≤ f ∧ 0 ≤ n ∧ f ≤ 64 ∧ n ≤ 64 - f
theorem okR (f n : Int) : OkR f n ↔ OkF f n := by unfold OkR OkF; omega

set_option maxRecDepth 100000 in
set_option maxHeartbeats 400000 in
theorem ref_get_no (x f n : Int) (w : World) (h : ¬ OkF f n) : Calls Try.prog 24 #[.int .u64 x, .int .i64 f, .int .i64 n] w (Same w (.int .u64 0)) := by
  rw [← okR] at h
  unfold OkR at h
  by_cases h1 : f < 0
  · clear h
    go_enter Try.func24, Try.ntmps24
    go_wp2
    go_ret
    exact ⟨rfl, rfl⟩
  · have h1' : 0 ≤ f := by omega
    by_cases h2 : n < 0
    · clear h
      go_enter Try.func24, Try.ntmps24
      go_wp2
      go_ret
      exact ⟨rfl, rfl⟩
    · have h2' : 0 ≤ n := by omega
      by_cases h3 : 64 < f
      · clear h
        go_enter Try.func24, Try.ntmps24
        go_wp2
        go_ret
        exact ⟨rfl, rfl⟩
      · have h3' : f ≤ 64 := by omega
        have h4 : 64 - f < n := by omega
        clear h
        go_enter Try.func24, Try.ntmps24
        go_wp2
        go_ret
        exact ⟨rfl, rfl⟩

set_option maxRecDepth 100000 in
set_option maxHeartbeats 400000 in
theorem ref_set (x f n v : Nat) (w : World) (hx : x < 2 ^ 64) (hv : v < 2 ^ 64) (h : f + n ≤ 64) : Calls Try.prog 26 #[.int .u64 x, .int .i64 f, .int .i64 n, .int .u64 v] w (Same w (.int .u64 (setN x f n v))) := by
  have a1 : (0 : Int) ≤ n := by omega
  have a2 : (n : Int) ≤ 64 - f := by omega
  have a3 : (0 : Int) ≤ f := by omega
  have a4 : (f : Int) ≤ 64 := by omega
  go_enter Try.func26, Try.ntmps26
  go_wp2
  go_loop [0, 28] (fun y i => ∃ k : Nat, k ≤ n ∧ i = .int .i64 k ∧ y = .int .u64 (setN x f k v)) (fun _ i => (n - intOf i).toNat)
  case atStart => exact ⟨0, Nat.zero_le _, rfl, by rw [setN_zero]⟩
  case round =>
    obtain ⟨k, hk, rfl, rfl⟩ := hrel
    by_cases h0 : k = n
    · have h0 := Lib.hid h0
      have b0 : ¬ ((k : Int) < n) := by have := h0.out; omega
      go_wp2
      go_ret
      exact ⟨by rw [← h0.out]; rfl, rfl⟩
    · have b1 : (k : Int) < n := by omega
      have b2 : (k : Int) ≤ 64 := by omega
      have b3 : (k : Int) + f < 64 := by omega
      have hr := Lib.hid (set_round x f k v hx hv (by omega))
      go_wp2
      rw [hr.out]
      exact ⟨⟨k + 1, by omega, rfl, rfl⟩, by simp [intOf]; omega⟩

set_option maxRecDepth 100000 in
set_option maxHeartbeats 400000 in
theorem ref_set_no (x f n v : Int) (w : World) (h : ¬ OkF f n) : Calls Try.prog 26 #[.int .u64 x, .int .i64 f, .int .i64 n, .int .u64 v] w (Same w (.int .u64 x)) := by
  rw [← okR] at h
  unfold OkR at h
  by_cases h1 : f < 0
  · clear h
    go_enter Try.func26, Try.ntmps26
    go_wp2
    go_ret
    exact ⟨rfl, rfl⟩
  · have h1' : 0 ≤ f := by omega
    by_cases h2 : n < 0
    · clear h
      go_enter Try.func26, Try.ntmps26
      go_wp2
      go_ret
      exact ⟨rfl, rfl⟩
    · have h2' : 0 ≤ n := by omega
      by_cases h3 : 64 < f
      · clear h
        go_enter Try.func26, Try.ntmps26
        go_wp2
        go_ret
        exact ⟨rfl, rfl⟩
      · have h3' : f ≤ 64 := by omega
        have h4 : 64 - f < n := by omega
        clear h
        go_enter Try.func26, Try.ntmps26
        go_wp2
        go_ret
        exact ⟨rfl, rfl⟩

theorem ones_round (x k : Nat) (hx : x < 2 ^ 64) (hk : k < 64) : wrap64 ((onesTo x k : Int) + wrap64 (bits .and .u64 ((x : Int) / 2 ^ k) 1)) = ((onesTo x (k + 1) : Nat) : Int) := by
  have hle := onesTo_le x k
  rw [bit_and_one x k hx, tb_div]
  show _ = ((onesTo x k + (if x.testBit k then 1 else 0) : Nat) : Int)
  cases x.testBit k <;> simp [wrap64] <;> omega

set_option maxRecDepth 100000 in
set_option maxHeartbeats 400000 in
theorem ref_ones (x : Nat) (w : World) (hx : x < 2 ^ 64) : Calls Try.prog 30 #[.int .u64 x] w (Same w (.int .i64 (onesN x))) := by
  go_enter Try.func30, Try.ntmps30
  go_wp2
  go_loop [3, 5] (fun n i => ∃ k : Nat, k ≤ 64 ∧ i = .int .i64 k ∧ n = .int .i64 (onesTo x k)) (fun _ i => (64 - intOf i).toNat)
  case atStart => exact ⟨0, Nat.zero_le _, rfl, rfl⟩
  case round =>
    obtain ⟨k, hk, rfl, rfl⟩ := hrel
    by_cases h0 : k = 64
    · subst h0
      go_wp2
      go_ret
      exact ⟨rfl, rfl⟩
    · have b1 : (k : Int) < 64 := by omega
      have hr := Lib.hid (ones_round x k hx (by omega))
      go_wp2
      rw [hr.out]
      exact ⟨⟨k + 1, by omega, rfl, rfl⟩, by simp [intOf]; omega⟩

set_option maxRecDepth 100000 in
set_option maxHeartbeats 400000 in
theorem ref_lowest (x : Nat) (w : World) (hx : x < 2 ^ 64) : Calls Try.prog 31 #[.int .u64 x] w (Same w (.int .i64 (lowN x))) := by
  go_enter Try.func31, Try.ntmps31
  go_wp2
  go_loop [4] (fun i => ∃ k : Nat, k ≤ 64 ∧ i = .int .i64 k ∧ ∀ j, j < k → x.testBit j = false) (fun i => (64 - intOf i).toNat)
  case atStart => exact ⟨0, Nat.zero_le _, rfl, fun j hj => by omega⟩
  case round =>
    obtain ⟨k, hk, rfl, hz⟩ := hrel
    by_cases h0 : k = 64
    · subst h0
      have hl := Lib.hid (lowN_eq x 64 (by omega) hz (by omega))
      clear hz
      go_wp2
      go_ret
      exact ⟨by rw [hl.out]; rfl, rfl⟩
    · have b1 : (k : Int) < 64 := by omega
      have ht := low_test x k hx
      cases hb : x.testBit k with
      | true =>
        have hl := Lib.hid (lowN_eq x k (by omega) hz (fun _ => hb))
        rw [hb] at ht
        clear hz hx hb h0
        go_wp2
        go_ret
        exact ⟨by rw [hl.out]; rfl, rfl⟩
      | false =>
        rw [hb] at ht
        have hz2 := Lib.hid (show ∀ j, j < k + 1 → x.testBit j = false from fun j hj => by
          by_cases e : j = k
          · rw [e]; exact hb
          · exact hz j (by omega))
        clear hz hx hb
        go_wp2
        exact ⟨⟨k + 1, by omega, rfl, hz2.out⟩, by simp [intOf]; omega⟩

theorem word_int (n : Int) (w : World) : Calls Try.prog 32 #[.int .i64 n] w (Same w (.int .u64 (IntKind.u64.wrap n))) := by
  go_enter Try.func32, Try.ntmps32
  go_wp2
  go_ret
  exact ⟨rfl, rfl⟩
theorem word_toInt (x : Nat) (w : World) : Calls Try.prog 33 #[.int .u64 x] w (Same w (.int .i64 (wrap64 x))) := by
  go_enter Try.func33, Try.ntmps33
  go_wp2
  go_ret
  exact ⟨rfl, rfl⟩
end Go.Proofs.Ythdndphghnjcbaa
