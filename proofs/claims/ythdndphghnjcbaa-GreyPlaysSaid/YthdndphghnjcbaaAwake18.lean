/- Laws of chapter 18: the common part. -/
import Derived.Test.YthdndphghnjcbaaGrey
import Derived.Test.YthdndphghnjcbaaBits
import Derived.Test.YthdndphghnjcbaaOpen
import Derived.WalkSmall
namespace Go.Proofs.Ythdndphghnjcbaa
open Go.RowKit
set_option linter.unusedVariables false

set_option maxRecDepth 100000 in
set_option maxHeartbeats 1000000 in
theorem awake18 (w : World) : Calls Try.prog 20 #[] w (TrueUpd w) := by
  go_enter Try.func20, Try.ntmps20
  go_wp2_with fail
  refine (grey_new 2 _).mono ?_
  rintro e w1 ⟨rfl, s1, u1, z1⟩
  rw [show roomOf 2 = 2 from by decide] at s1
  have u1 := Lib.hid u1
  have z1 := Lib.hid z1
  generalize hb : w.heap.size = b at s1
  have z0 : w.heap.size ≤ b := by omega
  have hb := Lib.hid hb
  go_wp2_with fail
  refine (grey_push b 1 _ _ _ _ s1).mono ?_
  rintro e w2 ⟨rfl, s2, u2, z2⟩
  have s2 : Stk w2 b [1] 2 false := s2
  have u2 := Lib.hid u2
  have z2 := Lib.hid z2
  go_wp2_with fail
  refine (grey_push b 2 _ _ _ _ s2).mono ?_
  rintro e w3 ⟨rfl, s3, u3, z3⟩
  have s3 : Stk w3 b [1, 2] 2 false := s3
  have u3 := Lib.hid u3
  have z3 := Lib.hid z3
  go_wp2_with fail
  refine (grey_push b 3 _ _ _ _ s3).mono ?_
  rintro e w4 ⟨rfl, s4, u4, z4⟩
  have s4 : Stk w4 b [1, 2] 2 true := s4
  have u4 := Lib.hid u4
  have z4 := Lib.hid z4
  go_wp2_with fail
  refine (grey_pop b _ _ _ _ s4).mono ?_
  rintro e w5 ⟨rfl, s5, u5, z5⟩
  have s5 : Stk w5 b [1] 2 true := s5
  have u5 := Lib.hid u5
  have z5 := Lib.hid z5
  go_wp2_with fail
  refine (grey_over b _ _ _ _ s5).mono ?_
  rintro e w6 ⟨rfl, rfl⟩
  go_wp2
  go_ret
  exact ⟨rfl, ((((u1.out.own u2.out (fun i e => by omega)).own u3.out (fun i e => by omega)).own u4.out (fun i e => by omega)).own u5.out (fun i e => by omega))⟩

set_option maxHeartbeats 400000 in
theorem ref_room (n : Int) (w : World) : Calls Try.prog 16 #[.int .i64 n] w (Same w (.int .i64 (roomOf n))) := by
  have h : n ≤ 1 ∨ (1 < n ∧ n ≤ 2048) ∨ 2048 < n := by omega
  rcases h with h | ⟨h, h'⟩ | h
  · have e : ((roomOf n : Nat) : Int) = 1 := by unfold roomOf; omega
    have h2 : n ≤ 2048 := by omega
    rw [e]
    clear e
    go_enter Try.func16, Try.ntmps16
    go_wp2
    go_ret
    exact ⟨rfl, rfl⟩
  · have e : ((roomOf n : Nat) : Int) = n := by unfold roomOf; omega
    rw [e]
    clear e
    go_enter Try.func16, Try.ntmps16
    go_wp2
    go_ret
    exact ⟨rfl, rfl⟩
  · have e : ((roomOf n : Nat) : Int) = 2048 := by unfold roomOf; omega
    rw [e]
    clear e
    go_enter Try.func16, Try.ntmps16
    go_wp2
    go_ret
    exact ⟨rfl, rfl⟩

end Go.Proofs.Ythdndphghnjcbaa
