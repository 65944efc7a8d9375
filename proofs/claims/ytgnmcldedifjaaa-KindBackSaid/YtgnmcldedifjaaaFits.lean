/- kind.Fits, of a field's value at first. -/
import Derived.Test.YtgnmcldedifjaaaZero
namespace Go.Proofs.Ytgnmcldedifjaaa
open Go.RowKit
set_option linter.unusedVariables false

set_option maxRecDepth 100000 in
set_option maxHeartbeats 1000000 in
theorem kind_Fits (v : Value) (f : List Int) (k : Nat) (w : World) (hv : IntsR w v .i64 f) (hk : k < f.length) (hx : fw (f.getD k 0) ≠ 0) :
    Calls Try.prog 37 #[.agg #[v], .int .i64 k, .agg #[.int .i64 (kindK (f.getD k 0)), .int .i64 0, .int .u64 0, .int .u64 0, .int .i64 0]] w (RetK w (.bool true)) := by
  obtain ⟨b0, off, hix, hb0, hc⟩ := hv.index (P := Try.prog) Try.underlying36 (by kernel_rfl) (by kernel_rfl) hk
  simp only [Nat.mul_one] at hix hc
  have hc0 : w.cell? ⟨b0, off + k, none⟩ = some (.int .i64 (f.getD k 0)) := hc 0 (by decide)
  obtain ⟨a, cap, rfl, -, hcap, -⟩ := hv
  have hd := fw_cases _ hx
  generalize f.getD k 0 = x at *
  have d0 : ¬ (k : Int) < 0 := by omega
  have d1 : ¬ (f.length : Int) ≤ (k : Int) := by omega
  have d2 : (k : Int) < (f.length : Int) := by omega
  clear hc hk hx
  have key : ∀ c : Int, (c = x ∧ (x = 1 ∨ x = 2)) ∨ (c = 0 ∧ x = 3) → Calls Try.prog 37 #[.agg #[.slice a f.length cap], .int .i64 k, .agg #[.int .i64 c, .int .i64 0, .int .u64 0, .int .u64 0, .int .i64 0]] w (RetK w (.bool true)) := by
    intro c hq
    have hu := ((Upd.refl (fun _ => False) w).alloc (.cells #[.slice a f.length cap] 38)).alloc (.cells #[.int .i64 c, .int .i64 0, .int .u64 0, .int .u64 0, .int .i64 0] 54)
    have hc2 := (hu.none.cell (p := ⟨b0, off + k, none⟩) hb0).trans hc0
    have hw := Lib.hid (fun (w' : World) => kind_words x w')
    have Hu := Lib.hid hu
    clear hu hc0 hd
    rcases hq with ⟨rfl, rfl | rfl⟩ | ⟨rfl, rfl⟩
    · have hw1 := Lib.hid (fun (w' : World) => show Calls Try.prog 43 #[.int .i64 1] w' (Same w' (.int .i64 1)) from hw.out w')
      clear hw
      go_enter Try.func37, Try.ntmps37
      go_wp2_with (go_at_call 43; (with_reducible refine (hw1.out _).mono ?_); rintro e w' ⟨rfl, rfl⟩)
      go_quiet (fail)
      go_wp2
      go_ret
      exact ⟨rfl, by first | exact Hu.out.drew | exact Hu.out.drew.drew | exact Hu.out.drewN _ | exact Hu.out⟩
    · have hw1 := Lib.hid (fun (w' : World) => show Calls Try.prog 43 #[.int .i64 2] w' (Same w' (.int .i64 2)) from hw.out w')
      clear hw
      go_enter Try.func37, Try.ntmps37
      go_wp2_with (go_at_call 43; (with_reducible refine (hw1.out _).mono ?_); rintro e w' ⟨rfl, rfl⟩)
      go_quiet (fail)
      go_wp2
      go_ret
      exact ⟨rfl, by first | exact Hu.out.drew | exact Hu.out.drew.drew | exact Hu.out.drewN _ | exact Hu.out⟩
    · have hw1 := Lib.hid (fun (w' : World) => show Calls Try.prog 43 #[.int .i64 3] w' (Same w' (.int .i64 1)) from hw.out w')
      clear hw
      go_enter Try.func37, Try.ntmps37
      go_wp2_with (go_at_call 43; (with_reducible refine (hw1.out _).mono ?_); rintro e w' ⟨rfl, rfl⟩)
      go_quiet (fail)
      go_wp2
      go_ret
      exact ⟨rfl, by first | exact Hu.out.drew | exact Hu.out.drew.drew | exact Hu.out.drewN _ | exact Hu.out⟩
  refine key (kindK x) ?_
  unfold kindK
  rcases hd with rfl | rfl | rfl <;> simp
end Go.Proofs.Ytgnmcldedifjaaa
