/- Laws of chapter 2: the common part. -/
import Derived.Test.YthdndphghnjcbaaRefWord
namespace Go.Proofs.Ythdndphghnjcbaa
open Go.RowKit
set_option linter.unusedVariables false

/-- What a law's walk comes to. -/
def LawPost (W : World) (e : Ending) (w' : World) : Prop := e = .returned (.bool true) ∧ Below W.heap.size W w'

theorem nat_of_u64 {a : Int} (h : (Lit.int .u64 a).wf = true) : ∃ x : Nat, a = x ∧ x < 2 ^ 64 := by
  obtain ⟨h1, h2⟩ := bounds_u64 h
  exact ⟨a.toNat, by omega, by omega⟩

set_option maxRecDepth 100000 in
set_option maxHeartbeats 400000 in
theorem awake2 (w : World) : Calls Try.prog 27 #[] w (Same w (.bool true)) := by
  have h1 : Calls Try.prog 25 #[.int .u64 0, .int .i64 8, .int .i64 4, .int .u64 255] w (Same w (.int .u64 3840)) := by
    have := word_set 0 8 4 255 w (by decide) (by decide)
    rw [show setN 0 8 4 255 = 3840 from by decide] at this
    exact this
  have h2 : Calls Try.prog 23 #[.int .u64 3840, .int .i64 8, .int .i64 4] w (Same w (.int .u64 15)) := by
    have := word_get 3840 8 4 w (by decide) (by decide)
    rw [show getN 3840 8 4 = 15 from by decide] at this
    exact this
  have h3 : Calls Try.prog 29 #[.int .u64 8] w (Same w (.int .i64 3)) := by
    have := word_lowest 8 w (by decide)
    rw [show lowN 8 = 3 from by decide] at this
    exact this
  have h1 := Lib.hid h1
  have h2 := Lib.hid h2
  have h3 := Lib.hid h3
  go_enter Try.func27, Try.ntmps27
  go_wp2_with (first | (go_at_call 25; refine h1.out.mono ?_; rintro e w' ⟨rfl, rfl⟩) | (go_at_call 23; refine h2.out.mono ?_; rintro e w' ⟨rfl, rfl⟩) | (go_at_call 29; refine h3.out.mono ?_; rintro e w' ⟨rfl, rfl⟩))
  go_ret
  exact ⟨rfl, rfl⟩
end Go.Proofs.Ythdndphghnjcbaa
