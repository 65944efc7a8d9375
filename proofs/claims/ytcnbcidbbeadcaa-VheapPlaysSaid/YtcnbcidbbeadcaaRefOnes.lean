/- The reference's Ones (scullionref1). -/
import Derived.Test.YtcnbcidbbeadcaaWord
namespace Go.Proofs.Ytcnbcidbbeadcaa
open Go.RowKit
set_option linter.unusedVariables false

theorem ones_round (x k : Nat) (hx : x < 2 ^ 64) (hk : k < 64) : wrap64 ((onesTo x k : Int) + wrap64 (bits .and .u64 ((x : Int) / 2 ^ k) 1)) = ((onesTo x (k + 1) : Nat) : Int) := by
  have hle := onesTo_le x k
  rw [bit_and_one x k hx, tb_div]
  show _ = ((onesTo x k + (if x.testBit k then 1 else 0) : Nat) : Int)
  cases x.testBit k <;> simp [wrap64] <;> omega

set_option maxRecDepth 100000 in
set_option maxHeartbeats 400000 in
theorem ref_ones (x : Nat) (w : World) (hx : x < 2 ^ 64) : Calls Try.prog 85 #[.int .u64 x] w (Same w (.int .i64 (onesN x))) := by
  go_enter Try.func85, Try.ntmps85
  go_wp2
  go_loop [3, 5] (fun n i => ∃ k : Nat, k ≤ 64 ∧ i = .int .i64 k ∧ n = .int .i64 (onesTo x k)) (fun _ i => (64 - intOf i).toNat)
  case atStart => exact ⟨0, Nat.zero_le _, rfl, rfl⟩
  case round =>
    obtain ⟨k, hk, rfl, rfl⟩ := hrel
    by_cases h0 : k = 64
    · subst h0
      go_wp2
      go_ret
      exact ⟨rfl, rfl⟩
    · have b1 : (k : Int) < 64 := by omega
      have hr := Lib.hid (ones_round x k hx (by omega))
      go_wp2
      rw [hr.out]
      exact ⟨⟨k + 1, by omega, rfl, rfl⟩, by simp [intOf]; omega⟩

end Go.Proofs.Ytcnbcidbbeadcaa
