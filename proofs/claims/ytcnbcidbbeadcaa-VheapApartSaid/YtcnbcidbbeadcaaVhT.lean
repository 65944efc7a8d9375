/- What counts of a value: told; Fits in general. -/
import Derived.Test.YtcnbcidbbeadcaaVhN
import Derived.BigQuiet
namespace Go.Proofs.Ytcnbcidbbeadcaa
open Go.RowKit Go.Deep
set_option linter.unusedVariables false

def toldV (x : Val) : Val := if x.k = 1 then ⟨1, x.n, 0, 0, 0⟩ else if x.k = 2 then ⟨2, 0, x.re, x.im, 0⟩ else if x.k = 3 then ⟨3, 0, 0, 0, x.r⟩ else zeroV
set_option maxRecDepth 100000 in
set_option maxHeartbeats 1000000 in
theorem vh_told (x : Val) (w : World) : Calls Try.prog 69 #[x.v] w (RetU w (toldV x).v) := by
  obtain ⟨a, n, re, im, r⟩ := x
  show Calls _ _ #[.agg #[.int .i64 a, .int .i64 n, .int .u64 (re : Int), .int .u64 (im : Int), .int .i64 r]] _ _
  unfold toldV
  simp only
  by_cases k1 : a = 1
  · subst k1
    rw [if_pos rfl]
    have hu : Upd (fun _ => False) w ((w.alloc (.cells #[.int .i64 1, .int .i64 n, .int .u64 (re : Int), .int .u64 (im : Int), .int .i64 r] 26)).alloc (.cells #[.int .i64 1, .int .i64 n, .int .u64 0, .int .u64 0, .int .i64 0] 26)) := ((Upd.refl _ _).alloc _).alloc _
    have Hhu := Lib.hid hu; clear hu
    go_enter Try.func69, Try.ntmps69
    go_wp2
    refine bodyPost_ret (v := .agg #[.int .i64 1, .int .i64 n, .int .u64 0, .int .u64 0, .int .i64 0]) ?_ rfl ?_
    · rw [results_cell1 rfl]; go_simp
    · exact ⟨rfl, Hhu.out⟩
  · rw [if_neg k1]
    by_cases k2 : a = 2
    · subst k2
      rw [if_pos rfl]
      have hu : Upd (fun _ => False) w ((w.alloc (.cells #[.int .i64 2, .int .i64 n, .int .u64 (re : Int), .int .u64 (im : Int), .int .i64 r] 26)).alloc (.cells #[.int .i64 2, .int .i64 0, .int .u64 (re : Int), .int .u64 (im : Int), .int .i64 0] 26)) := ((Upd.refl _ _).alloc _).alloc _
      have Hhu := Lib.hid hu; clear hu
      go_enter Try.func69, Try.ntmps69
      go_wp2
      refine bodyPost_ret (v := .agg #[.int .i64 2, .int .i64 0, .int .u64 (re : Int), .int .u64 (im : Int), .int .i64 0]) ?_ rfl ?_
      · rw [results_cell1 rfl]; go_simp
      · exact ⟨rfl, Hhu.out⟩
    · rw [if_neg k2]
      by_cases k3 : a = 3
      · subst k3
        rw [if_pos rfl]
        have hu : Upd (fun _ => False) w ((w.alloc (.cells #[.int .i64 3, .int .i64 n, .int .u64 (re : Int), .int .u64 (im : Int), .int .i64 r] 26)).alloc (.cells #[.int .i64 3, .int .i64 0, .int .u64 0, .int .u64 0, .int .i64 r] 26)) := ((Upd.refl _ _).alloc _).alloc _
        have Hhu := Lib.hid hu; clear hu
        go_enter Try.func69, Try.ntmps69
        go_wp2
        refine bodyPost_ret (v := .agg #[.int .i64 3, .int .i64 0, .int .u64 0, .int .u64 0, .int .i64 r]) ?_ rfl ?_
        · rw [results_cell1 rfl]; go_simp
        · exact ⟨rfl, Hhu.out⟩
      · rw [if_neg k3]
        have k1' : (a == 1) = false := by rw [beq_eq_false_iff_ne]; exact k1
        have k2' : (a == 2) = false := by rw [beq_eq_false_iff_ne]; exact k2
        have k3' : (a == 3) = false := by rw [beq_eq_false_iff_ne]; exact k3
        have hu : Upd (fun _ => False) w ((w.alloc (.cells #[.int .i64 a, .int .i64 n, .int .u64 (re : Int), .int .u64 (im : Int), .int .i64 r] 26)).alloc (.cells #[.int .i64 0, .int .i64 0, .int .u64 0, .int .u64 0, .int .i64 0] 26)) := ((Upd.refl _ _).alloc _).alloc _
        have Hhu := Lib.hid hu; clear hu
        go_enter Try.func69, Try.ntmps69
        go_wp2
        refine bodyPost_ret (v := .agg #[.int .i64 0, .int .i64 0, .int .u64 0, .int .u64 0, .int .i64 0]) ?_ rfl ?_
        · rw [results_cell1 rfl]; go_simp
        · exact ⟨rfl, Hhu.out⟩
end Go.Proofs.Ytcnbcidbbeadcaa
