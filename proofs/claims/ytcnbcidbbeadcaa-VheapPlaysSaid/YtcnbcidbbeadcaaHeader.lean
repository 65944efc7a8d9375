/- Package header and its reference: contracts. -/
import Derived.Test.YtcnbcidbbeadcaaHead
import Derived.Test.YtcnbcidbbeadcaaWord
import Derived.Test.YtcnbcidbbeadcaaRefOnes
import Derived.LoopN
namespace Go.Proofs.Ytcnbcidbbeadcaa
open Go.RowKit
set_option linter.unusedVariables false

/-- The result, in a world that has at most grown. -/
def Ret (w : World) (v : Value) (e : Ending) (w' : World) : Prop := e = .returned v ∧ Upd (fun _ => False) w w'

set_option maxRecDepth 100000 in
set_option maxHeartbeats 400000 in
theorem header_check (x : Nat) (w : World) (hx : x < 2 ^ 64) : Calls Try.prog 98 #[.int .u64 x] w (Same w (.int .u64 (chkN x))) := by
  have h1 := Lib.hid (show Calls Try.prog 86 #[.int .u64 x, .int .i64 0, .int .i64 56] w (Same w (.int .u64 (getN x 0 56))) from word_get x 0 56 w hx (by decide))
  have h2 := Lib.hid (word_ones (getN x 0 56) w (Nat.lt_of_le_of_lt (get_le x 0 56) hx))
  have hle := onesN_le (getN x 0 56)
  have e := Lib.hid (show ((chkN x : Nat) : Int) = (onesN (getN x 0 56) : Int) + 1 from by unfold chkN; simp)
  have e2 := u64wrap_id (onesN (getN x 0 56)) (by omega)
  have e3 : IntKind.u64.wrap ((onesN (getN x 0 56) : Int) + 1) = (onesN (getN x 0 56) : Int) + 1 := by
    rw [show ((onesN (getN x 0 56) : Int) + 1) = ((onesN (getN x 0 56) + 1 : Nat) : Int) from by simp]
    exact u64wrap_id _ (by omega)
  clear hx
  go_enter Try.func98, Try.ntmps98
  go_wp2_with (first | (go_at_call 86; refine h1.out.mono ?_; rintro e w' ⟨rfl, rfl⟩) | (go_at_call 101; refine h2.out.mono ?_; rintro e w' ⟨rfl, rfl⟩))
  go_ret
  exact ⟨ret_u64 e.out.symm, rfl⟩

set_option maxRecDepth 100000 in
set_option maxHeartbeats 400000 in
theorem header_checked (x : Nat) (w : World) (hx : x < 2 ^ 64) : Calls Try.prog 81 #[.int .u64 x] w (Same w (.int .u64 (checkedN x))) := by
  have h1 := Lib.hid (header_check x w hx)
  have h2 := Lib.hid (show Calls Try.prog 80 #[.int .u64 x, .int .i64 56, .int .i64 8, .int .u64 (chkN x)] w (Same w (.int .u64 (checkedN x))) from word_set x 56 8 (chkN x) w hx (by decide))
  clear hx
  go_enter Try.func81, Try.ntmps81
  go_wp2_with (first | (go_at_call 98; refine h1.out.mono ?_; rintro e w' ⟨rfl, rfl⟩) | (go_at_call 80; refine h2.out.mono ?_; rintro e w' ⟨rfl, rfl⟩))
  go_ret
  exact ⟨rfl, rfl⟩

set_option maxRecDepth 100000 in
set_option maxHeartbeats 400000 in
theorem header_make (k n e : Nat) (w : World) (hk : k < 16) (h1 : 1 ≤ n) (h2 : n ≤ 16) (he : e < 2 ^ 64) : Calls Try.prog 48 #[.int .i64 k, .int .i64 n, .int .u64 e] w (Ret w (.int .u64 (makeN k n e))) := by
  have b1 : (0 : Int) ≤ k := by omega
  have b2 : (k : Int) ≤ 15 := by omega
  have b3 : (1 : Int) ≤ n := by omega
  have b4 : (n : Int) ≤ 16 := by omega
  have e1 := u64wrap_id k (by omega)
  have e2 := u64wrap_id n (by omega)
  have g0 : ∀ (w : World) (x y z : Value), (Instr.index 114 (.agg #[.int .i64 0, .int .i64 4, x, .int .i64 4, .int .i64 5, y, .int .i64 9, .int .i64 32, z]) (.int .i64 0)).run Try.prog w = .ok (.agg #[.int .i64 0, .int .i64 4, x]) w := fun _ _ _ _ => by kernel_rfl
  have g1 : ∀ (w : World) (x y z : Value), (Instr.index 114 (.agg #[.int .i64 0, .int .i64 4, x, .int .i64 4, .int .i64 5, y, .int .i64 9, .int .i64 32, z]) (.int .i64 1)).run Try.prog w = .ok (.agg #[.int .i64 4, .int .i64 5, y]) w := fun _ _ _ _ => by kernel_rfl
  have g2 : ∀ (w : World) (x y z : Value), (Instr.index 114 (.agg #[.int .i64 0, .int .i64 4, x, .int .i64 4, .int .i64 5, y, .int .i64 9, .int .i64 32, z]) (.int .i64 2)).run Try.prog w = .ok (.agg #[.int .i64 9, .int .i64 32, z]) w := fun _ _ _ _ => by kernel_rfl
  have s0 := Lib.hid (fun w : World => show Calls Try.prog 80 #[.int .u64 0, .int .i64 0, .int .i64 4, .int .u64 k] w (Same w (.int .u64 (setN 0 0 4 k))) from word_set 0 0 4 k w (by decide) (by decide))
  have s1 := Lib.hid (fun w : World => show Calls Try.prog 80 #[.int .u64 (setN 0 0 4 k), .int .i64 4, .int .i64 5, .int .u64 n] w (Same w (.int .u64 (setN (setN 0 0 4 k) 4 5 n))) from word_set _ 4 5 n w (set_lt _ _ _ _ (by decide) (by decide)) (by decide))
  have s2 := Lib.hid (fun w : World => show Calls Try.prog 80 #[.int .u64 (setN (setN 0 0 4 k) 4 5 n), .int .i64 9, .int .i64 32, .int .u64 e] w (Same w (.int .u64 (lowH k n e))) from word_set _ 9 32 e w (set_lt _ _ _ _ (set_lt _ _ _ _ (by decide) (by decide)) (by decide)) (by decide))
  have s3 := Lib.hid (fun w : World => show Calls Try.prog 81 #[.int .u64 (lowH k n e)] w (Same w (.int .u64 (makeN k n e))) from header_checked _ w (lowH_lt k n e))
  clear he
  go_enter Try.func48, Try.ntmps48
  go_wp2_with fail
  refine wp_loop_rounds 4 ?_
  rw [rounds_succ]
  go_wp2_with (first | (go_at_call 80; (first | (with_reducible refine (s0.out _).mono ?_) | (with_reducible refine (s1.out _).mono ?_) | (with_reducible refine (s2.out _).mono ?_)); rintro e w' ⟨rfl, rfl⟩) | (go_at_call 81; (with_reducible refine (s3.out _).mono ?_); rintro e w' ⟨rfl, rfl⟩))
  rw [rounds_succ]
  go_wp2_with (first | (go_at_call 80; (first | (with_reducible refine (s0.out _).mono ?_) | (with_reducible refine (s1.out _).mono ?_) | (with_reducible refine (s2.out _).mono ?_)); rintro e w' ⟨rfl, rfl⟩) | (go_at_call 81; (with_reducible refine (s3.out _).mono ?_); rintro e w' ⟨rfl, rfl⟩))
  rw [rounds_succ]
  go_wp2_with (first | (go_at_call 80; (first | (with_reducible refine (s0.out _).mono ?_) | (with_reducible refine (s1.out _).mono ?_) | (with_reducible refine (s2.out _).mono ?_)); rintro e w' ⟨rfl, rfl⟩) | (go_at_call 81; (with_reducible refine (s3.out _).mono ?_); rintro e w' ⟨rfl, rfl⟩))
  rw [rounds_succ]
  go_wp2_with (first | (go_at_call 80; (first | (with_reducible refine (s0.out _).mono ?_) | (with_reducible refine (s1.out _).mono ?_) | (with_reducible refine (s2.out _).mono ?_)); rintro e w' ⟨rfl, rfl⟩) | (go_at_call 81; (with_reducible refine (s3.out _).mono ?_); rintro e w' ⟨rfl, rfl⟩))
  go_ret
  exact ⟨rfl, (((Upd.refl _ _).alloc _).alloc _).alloc _⟩

set_option maxRecDepth 100000 in
set_option maxHeartbeats 400000 in
theorem header_make_no (k n e : Int) (w : World) (h : ¬ (0 ≤ k ∧ k ≤ 15 ∧ 1 ≤ n ∧ n ≤ 16)) : Calls Try.prog 48 #[.int .i64 k, .int .i64 n, .int .u64 e] w (Same w (.int .u64 0)) := by
  have key : k < 0 ∨ (0 ≤ k ∧ 15 < k) ∨ (0 ≤ k ∧ k ≤ 15 ∧ n < 1) ∨ (0 ≤ k ∧ k ≤ 15 ∧ 1 ≤ n ∧ 16 < n) := by omega
  clear h
  rcases key with c1 | ⟨c1, c2⟩ | ⟨c1, c2, c3⟩ | ⟨c1, c2, c3, c4⟩
  all_goals
    go_enter Try.func48, Try.ntmps48
    go_wp2
    go_ret
    exact ⟨rfl, rfl⟩

/-- What Parse tells of a word. -/
def parseV (x : Nat) : Value := if IsHead x then .tuple #[.int .i64 (getN x 0 4), .int .i64 (getN x 4 5), .int .u64 (getN x 9 32), .bool true] else .tuple #[.int .i64 0, .int .i64 0, .int .u64 0, .bool false]

theorem wrap64_nat (n : Nat) (h : n ≤ 1000000) : wrap64 (n : Int) = n := by unfold wrap64; omega

set_option maxRecDepth 100000 in
set_option maxHeartbeats 400000 in
theorem header_parse (x : Nat) (w : World) (hx : x < 2 ^ 64) : Calls Try.prog 63 #[.int .u64 x] w (Same w (parseV x)) := by
  have l1 := get_lt x 4 5
  have l2 := get_lt x 0 4
  have h1 := Lib.hid (show Calls Try.prog 86 #[.int .u64 x, .int .i64 4, .int .i64 5] w (Same w (.int .u64 (getN x 4 5))) from word_get x 4 5 w hx (by decide))
  have h2 := Lib.hid (show Calls Try.prog 86 #[.int .u64 x, .int .i64 41, .int .i64 15] w (Same w (.int .u64 (getN x 41 15))) from word_get x 41 15 w hx (by decide))
  have h3 := Lib.hid (show Calls Try.prog 86 #[.int .u64 x, .int .i64 0, .int .i64 4] w (Same w (.int .u64 (getN x 0 4))) from word_get x 0 4 w hx (by decide))
  have h4 := Lib.hid (show Calls Try.prog 86 #[.int .u64 x, .int .i64 9, .int .i64 32] w (Same w (.int .u64 (getN x 9 32))) from word_get x 9 32 w hx (by decide))
  have h5 := Lib.hid (header_checked x w hx)
  have e1 := wrap64_nat (getN x 4 5) (by omega)
  have e2 := wrap64_nat (getN x 0 4) (by omega)
  by_cases hh : IsHead x
  · have hv : parseV x = .tuple #[.int .i64 (getN x 0 4), .int .i64 (getN x 4 5), .int .u64 (getN x 9 32), .bool true] := if_pos hh
    rw [hv]
    obtain ⟨g1, g2, g3, g4⟩ := hh
    rw [g3] at h2
    rw [g4] at h5
    have h2 : Hid (Calls Try.prog 86 #[.int .u64 x, .int .i64 41, .int .i64 15] w (Same w (.int .u64 0))) := h2
    have c1 : (1 : Int) ≤ getN x 4 5 := by omega
    have c2 : (getN x 4 5 : Int) ≤ 16 := by omega
    clear g3 g4 hx hv l1 l2
    go_enter Try.func63, Try.ntmps63
    go_wp2_with (first | (go_at_call 86; (first | (with_reducible refine h1.out.mono ?_) | (with_reducible refine h2.out.mono ?_) | (with_reducible refine h3.out.mono ?_) | (with_reducible refine h4.out.mono ?_)); rintro e w' ⟨rfl, rfl⟩) | (go_at_call 81; (first | (with_reducible refine h5.out.mono ?_)); rintro e w' ⟨rfl, rfl⟩))
    ((try simp only [Exit.inBlock, Exit.then]); refine bodyPost_ret (results_tmp4 rfl _ _ _) rfl ?_)
    exact ⟨rfl, rfl⟩
  · have hv : parseV x = .tuple #[.int .i64 0, .int .i64 0, .int .u64 0, .bool false] := if_neg hh
    rw [hv]
    have key : ((getN x 4 5 : Int) < 1) ∨ (((1 : Int) ≤ getN x 4 5) ∧ (16 : Int) < getN x 4 5) ∨ (((1 : Int) ≤ getN x 4 5) ∧ (getN x 4 5 : Int) ≤ 16 ∧ ((getN x 41 15 : Int) != 0) = true) ∨ (((1 : Int) ≤ getN x 4 5) ∧ (getN x 4 5 : Int) ≤ 16 ∧ getN x 41 15 = 0 ∧ ((checkedN x : Int) != x) = true) := by
      unfold IsHead at hh
      by_cases a1 : 1 ≤ getN x 4 5
      · by_cases a2 : getN x 4 5 ≤ 16
        · by_cases a3 : getN x 41 15 = 0
          · right; right; right
            refine ⟨by omega, by omega, a3, ?_⟩
            have : checkedN x ≠ x := fun e => hh ⟨a1, a2, a3, e⟩
            rw [bne_iff_ne]
            omega
          · right; right; left
            refine ⟨by omega, by omega, ?_⟩
            rw [bne_iff_ne]
            omega
        · right; left; omega
      · left; omega
    clear hh hx hv l1 l2
    rcases key with c1 | ⟨c1, c2⟩ | ⟨c1, c2, c3⟩ | ⟨c1, c2, c3, c4⟩
    case inr.inr.inr =>
      rw [c3] at h2
      have h2 : Hid (Calls Try.prog 86 #[.int .u64 x, .int .i64 41, .int .i64 15] w (Same w (.int .u64 0))) := h2
      clear c3
      go_enter Try.func63, Try.ntmps63
      go_wp2_with (first | (go_at_call 86; (first | (with_reducible refine h1.out.mono ?_) | (with_reducible refine h2.out.mono ?_) | (with_reducible refine h3.out.mono ?_) | (with_reducible refine h4.out.mono ?_)); rintro e w' ⟨rfl, rfl⟩) | (go_at_call 81; (first | (with_reducible refine h5.out.mono ?_)); rintro e w' ⟨rfl, rfl⟩))
      ((try simp only [Exit.inBlock, Exit.then]); refine bodyPost_ret (results_tmp4 rfl _ _ _) rfl ?_)
      exact ⟨rfl, rfl⟩
    all_goals
      go_enter Try.func63, Try.ntmps63
      go_wp2_with (first | (go_at_call 86; (first | (with_reducible refine h1.out.mono ?_) | (with_reducible refine h2.out.mono ?_) | (with_reducible refine h3.out.mono ?_) | (with_reducible refine h4.out.mono ?_)); rintro e w' ⟨rfl, rfl⟩) | (go_at_call 81; (first | (with_reducible refine h5.out.mono ?_)); rintro e w' ⟨rfl, rfl⟩))
      ((try simp only [Exit.inBlock, Exit.then]); refine bodyPost_ret (results_tmp4 rfl _ _ _) rfl ?_)
      exact ⟨rfl, rfl⟩

/-- A header with another epoch. -/
def epochN (x e : Nat) : Nat := if IsHead x then makeN (getN x 0 4) (getN x 4 5) e else 0

set_option maxRecDepth 100000 in
set_option maxHeartbeats 400000 in
theorem ref_check (x : Nat) (w : World) (hx : x < 2 ^ 64) : Calls Try.prog 56 #[.int .u64 x] w (Same w (.int .u64 (chkN x))) := by
  have e0 : bits .and .u64 (x : Int) 72057594037927935 = ((getN x 0 56 : Nat) : Int) := by
    have := u64and x 72057594037927935 hx (by decide)
    rw [show x &&& 72057594037927935 = getN x 0 56 from and_low56 x] at this
    exact this
  have h2 := Lib.hid (ref_ones (getN x 0 56) w (Nat.lt_of_le_of_lt (get_le x 0 56) hx))
  have hle := onesN_le (getN x 0 56)
  have e := Lib.hid (show ((chkN x : Nat) : Int) = (onesN (getN x 0 56) : Int) + 1 from by unfold chkN; simp)
  have e2 := u64wrap_id (onesN (getN x 0 56)) (by omega)
  have e3 : IntKind.u64.wrap ((onesN (getN x 0 56) : Int) + 1) = (onesN (getN x 0 56) : Int) + 1 := by
    rw [show ((onesN (getN x 0 56) : Int) + 1) = ((onesN (getN x 0 56) + 1 : Nat) : Int) from by simp]
    exact u64wrap_id _ (by omega)
  clear hx
  go_enter Try.func56, Try.ntmps56
  go_wp2_with (first | (go_at_call 85; (first | (with_reducible refine h2.out.mono ?_)); rintro e w' ⟨rfl, rfl⟩))
  go_ret
  exact ⟨ret_u64 e.out.symm, rfl⟩

theorem refLow_val (k n e : Nat) (hk : k < 16) (hn : n < 32) (he : e < 2 ^ 64) :
    bits .or .u64 (bits .or .u64 (k : Int) ((n : Int) * 16)) (IntKind.u64.wrap (bits .and .u64 (e : Int) 4294967295 * 512)) = ((lowH k n e : Nat) : Int) := by
  have h1 : (n : Int) * 16 = ((n * 16 : Nat) : Int) := by omega
  have h2 : bits .and .u64 (e : Int) 4294967295 = ((e &&& 4294967295 : Nat) : Int) := u64and e 4294967295 he (by decide)
  have h3 : e &&& 4294967295 < 2 ^ 32 := Nat.and_lt_two_pow _ (by decide)
  have h4 : (((e &&& 4294967295 : Nat) : Int)) * 512 = (((e &&& 4294967295) * 512 : Nat) : Int) := by omega
  rw [h1, h2, h4, u64wrap_id _ (by omega), u64or _ _ (by omega) (by omega), u64or _ _ (Nat.or_lt_two_pow (by omega) (by omega)) (by omega), ← refLow_eq k n e hk hn]
  unfold refLow
  rw [show 2 ^ 32 - 1 = 4294967295 from rfl, show 2 ^ 4 = 16 from rfl, show 2 ^ 9 = 512 from rfl]
theorem refMake_val (k n e : Nat) (hk : k < 16) (hn : n < 32) : bits .or .u64 ((lowH k n e : Nat) : Int) (IntKind.u64.wrap (((chkN (lowH k n e) : Nat) : Int) * 72057594037927936)) = ((makeN k n e : Nat) : Int) := by
  have hc := chkN_le (lowH k n e)
  rw [show ((chkN (lowH k n e) : Nat) : Int) * 72057594037927936 = ((chkN (lowH k n e) * 2 ^ 56 : Nat) : Int) from by simp, u64wrap_id _ (by omega), u64or _ _ (lowH_lt k n e) (by omega), ← refMake_eq k n e hk hn]
  unfold refMake
  rw [refLow_eq k n e hk hn, and_low56]
  rfl

set_option maxRecDepth 100000 in
set_option maxHeartbeats 400000 in
theorem ref_header (k n e : Nat) (w : World) (hk : k < 16) (h1 : 1 ≤ n) (h2 : n ≤ 16) (he : e < 2 ^ 64) : Calls Try.prog 22 #[.int .i64 k, .int .i64 n, .int .u64 e] w (Same w (.int .u64 (makeN k n e))) := by
  have b1 : (0 : Int) ≤ k := by omega
  have b2 : (k : Int) ≤ 15 := by omega
  have b3 : (1 : Int) ≤ n := by omega
  have b4 : (n : Int) ≤ 16 := by omega
  have e1 := u64wrap_id k (by omega)
  have e2 := u64wrap_id n (by omega)
  have e3 := refLow_val k n e hk (by omega) he
  have e4 := Lib.hid (refMake_val k n e hk (by omega))
  have h3 := Lib.hid (ref_check (lowH k n e) w (lowH_lt k n e))
  clear he
  generalize lowH k n e = y at *
  go_enter Try.func22, Try.ntmps22
  go_wp2_with (first | (go_at_call 56; (first | (with_reducible refine h3.out.mono ?_)); rintro e w' ⟨rfl, rfl⟩))
  go_ret
  exact ⟨ret_u64 e4.out, rfl⟩

set_option maxRecDepth 100000 in
set_option maxHeartbeats 400000 in
theorem ref_header_no (k n e : Int) (w : World) (h : ¬ (0 ≤ k ∧ k ≤ 15 ∧ 1 ≤ n ∧ n ≤ 16)) : Calls Try.prog 22 #[.int .i64 k, .int .i64 n, .int .u64 e] w (Same w (.int .u64 0)) := by
  have key : k < 0 ∨ (0 ≤ k ∧ 15 < k) ∨ (0 ≤ k ∧ k ≤ 15 ∧ n < 1) ∨ (0 ≤ k ∧ k ≤ 15 ∧ 1 ≤ n ∧ 16 < n) := by omega
  clear h
  rcases key with c1 | ⟨c1, c2⟩ | ⟨c1, c2, c3⟩ | ⟨c1, c2, c3, c4⟩
  all_goals
    go_enter Try.func22, Try.ntmps22
    go_wp2
    go_ret
    exact ⟨rfl, rfl⟩

set_option maxRecDepth 100000 in
set_option maxHeartbeats 400000 in
theorem ref_parse (x : Nat) (w : World) (hx : x < 2 ^ 64) : Calls Try.prog 65 #[.int .u64 x] w (Same w (parseV x)) := by
  have l1 := get_lt x 4 5
  have l2 := get_lt x 0 4
  have l3 := get_lt x 9 32
  obtain ⟨f1, f2, f3⟩ := ref_fields x
  have d1 : x / 16 < 2 ^ 64 := Nat.lt_of_le_of_lt (Nat.div_le_self _ _) hx
  have d2 : x / 512 < 2 ^ 64 := Nat.lt_of_le_of_lt (Nat.div_le_self _ _) hx
  have e1 : bits .and .u64 (x : Int) 15 = ((getN x 0 4 : Nat) : Int) := by rw [← f1]; exact u64and x 15 hx (by decide)
  have e2 : bits .and .u64 ((x : Int) / 16) 31 = ((getN x 4 5 : Nat) : Int) := by
    rw [← f2, show (x : Int) / 16 = ((x / 16 : Nat) : Int) from by omega]
    exact u64and (x / 16) 31 d1 (by decide)
  have e3 : bits .and .u64 ((x : Int) / 512) 4294967295 = ((getN x 9 32 : Nat) : Int) := by
    rw [← f3, show (x : Int) / 512 = ((x / 512 : Nat) : Int) from by omega]
    exact u64and (x / 512) 4294967295 d2 (by decide)
  have e5 := wrap64_nat (getN x 4 5) (by omega)
  have e6 := wrap64_nat (getN x 0 4) (by omega)
  clear f1 f2 f3 d1 d2
  by_cases hn : 1 ≤ getN x 4 5 ∧ getN x 4 5 ≤ 16
  · have h1 := Lib.hid (ref_header (getN x 0 4) (getN x 4 5) (getN x 9 32) w l2 hn.1 hn.2 (by omega))
    have hi := ref_isHead x hx hn.1 hn.2
    rw [refMake_eq _ _ _ l2 l1] at hi
    by_cases hh : IsHead x
    · have hv : parseV x = .tuple #[.int .i64 (getN x 0 4), .int .i64 (getN x 4 5), .int .u64 (getN x 9 32), .bool true] := if_pos hh
      rw [hv]
      rw [hi.1 hh] at h1
      have hx0 : ((x : Int) == 0) = false := by
        have : x ≠ 0 := fun e => zero_noHead (e ▸ hh)
        simp
        omega
      clear hv hh hi l1 l2 l3 hx hn
      go_enter Try.func65, Try.ntmps65
      go_wp2_with (first | (go_at_call 22; (first | (with_reducible refine h1.out.mono ?_)); rintro e w' ⟨rfl, rfl⟩))
      ((try simp only [Exit.inBlock, Exit.then]); refine bodyPost_ret (results_tmp4 rfl _ _ _) rfl ?_)
      exact ⟨rfl, rfl⟩
    · have hv : parseV x = .tuple #[.int .i64 0, .int .i64 0, .int .u64 0, .bool false] := if_neg hh
      rw [hv]
      have hne : ((makeN (getN x 0 4) (getN x 4 5) (getN x 9 32) : Int) != x) = true := by
        have : makeN (getN x 0 4) (getN x 4 5) (getN x 9 32) ≠ x := fun e => hh (hi.2 e)
        rw [bne_iff_ne]
        omega
      clear hv hh hi l1 l2 l3 hx hn
      generalize makeN (getN x 0 4) (getN x 4 5) (getN x 9 32) = y at *
      go_enter Try.func65, Try.ntmps65
      go_wp2_with (first | (go_at_call 22; (first | (with_reducible refine h1.out.mono ?_)); rintro e w' ⟨rfl, rfl⟩))
      ((try simp only [Exit.inBlock, Exit.then]); refine bodyPost_ret (results_tmp4 rfl _ _ _) rfl ?_)
      exact ⟨rfl, rfl⟩
  · have hh : ¬ IsHead x := fun h => hn ⟨h.1, h.2.1⟩
    have hv : parseV x = .tuple #[.int .i64 0, .int .i64 0, .int .u64 0, .bool false] := if_neg hh
    rw [hv]
    have h1 := Lib.hid (ref_header_no (getN x 0 4) (getN x 4 5) (getN x 9 32) w (by omega))
    by_cases hx0 : x = 0
    · have hne : ((0 : Int) != x) = false := by rw [hx0]; rfl
      have hx1 : ((x : Int) == 0) = true := by rw [hx0]; rfl
      clear hv hh l1 l2 l3 hx hn hx0
      go_enter Try.func65, Try.ntmps65
      go_wp2_with (first | (go_at_call 22; (first | (with_reducible refine h1.out.mono ?_)); rintro e w' ⟨rfl, rfl⟩))
      ((try simp only [Exit.inBlock, Exit.then]); refine bodyPost_ret (results_tmp4 rfl _ _ _) rfl ?_)
      exact ⟨rfl, rfl⟩
    · have hne : ((0 : Int) != x) = true := by rw [bne_iff_ne]; omega
      clear hv hh l1 l2 l3 hx hn hx0
      go_enter Try.func65, Try.ntmps65
      go_wp2_with (first | (go_at_call 22; (first | (with_reducible refine h1.out.mono ?_)); rintro e w' ⟨rfl, rfl⟩))
      ((try simp only [Exit.inBlock, Exit.then]); refine bodyPost_ret (results_tmp4 rfl _ _ _) rfl ?_)
      exact ⟨rfl, rfl⟩
end Go.Proofs.Ytcnbcidbbeadcaa
