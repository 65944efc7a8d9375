/- What there is no heap of volatile objects answers. -/
import Derived.Test.YtcnbcidbbeadcaaVhU
namespace Go.Proofs.Ytcnbcidbbeadcaa
open Go.RowKit Go.Deep
set_option linter.unusedVariables false

set_option maxRecDepth 100000 in
theorem nil_find (x : Int) (w : World) : Calls Try.prog 61 #[.pointer none, .int .i64 x] w (RetU w (.pointer none)) := by
  go_enter Try.func61, Try.ntmps61
  go_wp2
  refine wp_region_later (by kernel_rfl) (by kernel_rfl) ?_
  repeat (go_big_quiet_step (fail))
  refine wpQuiet_nil ?_
  intro w4 hw4
  have u4 : Upd (fun _ => False) w w4 := by
    obtain ⟨s, rfl⟩ := hw4
    exact s.up
  clear hw4
  go_wp2
  go_ret
  exact ⟨rfl, u4⟩
theorem nil_missing (w : World) : Calls Try.prog 67 #[.pointer none] w (Same w (.int .i64 1)) := by
  go_enter Try.func67, Try.ntmps67
  go_wp2
  go_ret
  exact ⟨rfl, rfl⟩
theorem nil_All (w : World) : Calls Try.prog 33 #[.pointer none] w (Same w (.slice none 0 0)) := by
  go_enter Try.func33, Try.ntmps33
  go_wp2
  go_ret
  exact ⟨rfl, rfl⟩
theorem nil_Len (w : World) : Calls Try.prog 27 #[.pointer none] w (Same w (.int .i64 0)) := by
  have ha := Lib.hid nil_All
  go_enter Try.func27, Try.ntmps27
  go_wp2_with (go_at_call 33; (with_reducible refine (ha.out _).mono ?_); rintro e w2 ⟨rfl, rfl⟩)
  go_ret
  exact ⟨rfl, rfl⟩
theorem nil_Kind (x : Int) (w : World) : Calls Try.prog 39 #[.pointer none, .int .i64 x] w (RetU w (.tuple #[.int .i64 0, .int .i64 1])) := by
  have hf := Lib.hid (nil_find x)
  have hm := Lib.hid nil_missing
  go_enter Try.func39, Try.ntmps39
  go_wp2_with (first
    | (go_at_call 61; (with_reducible refine (hf.out _).mono ?_); rintro e w2 ⟨rfl, hu2⟩; have Hu2 := Lib.hid hu2; clear hu2)
    | (go_at_call 67; (with_reducible refine (hm.out _).mono ?_); rintro e w3 ⟨rfl, rfl⟩))
  go_ret2
  exact ⟨rfl, Hu2.out⟩
theorem nil_Remove (x : Int) (w : World) : Calls Try.prog 26 #[.pointer none, .int .i64 x] w (RetU w (.bool false)) := by
  have hf := Lib.hid (nil_find x)
  go_enter Try.func26, Try.ntmps26
  go_wp2_with (go_at_call 61; (with_reducible refine (hf.out _).mono ?_); rintro e w2 ⟨rfl, hu2⟩; have Hu2 := Lib.hid hu2; clear hu2)
  go_ret
  exact ⟨rfl, Hu2.out⟩
theorem nil_Refs (x : Int) (w : World) : Calls Try.prog 37 #[.pointer none, .int .i64 x] w (RetU w (.slice none 0 0)) := by
  have hf := Lib.hid (nil_find x)
  go_enter Try.func37, Try.ntmps37
  go_wp2_with (go_at_call 61; (with_reducible refine (hf.out _).mono ?_); rintro e w2 ⟨rfl, hu2⟩; have Hu2 := Lib.hid hu2; clear hu2)
  go_ret
  exact ⟨rfl, Hu2.out⟩
theorem nil_Make (k : Int) (w : World) : Calls Try.prog 25 #[.pointer none, .int .i64 k] w (Same w (.tuple #[.int .i64 0, .int .i64 1])) := by
  go_enter Try.func25, Try.ntmps25
  go_wp2
  go_step3
  go_wp2
  rw [Exit.noGoto_ret]
  go_ret2
  exact ⟨rfl, rfl⟩
theorem nil_Set (x j : Int) (v : Val) (w : World) : Calls Try.prog 32 #[.pointer none, .int .i64 x, .int .i64 j, v.v] w (RetU w (.int .i64 1)) := by
  obtain ⟨a, n, re, im, r⟩ := v
  show Calls _ _ #[.pointer none, .int .i64 x, .int .i64 j, .agg #[.int .i64 a, .int .i64 n, .int .u64 (re : Int), .int .u64 (im : Int), .int .i64 r]] _ _
  have hf := Lib.hid (nil_find x)
  have hm := Lib.hid nil_missing
  have hu : Upd (fun _ => False) w (w.alloc (.cells #[.int .i64 a, .int .i64 n, .int .u64 (re : Int), .int .u64 (im : Int), .int .i64 r] 26)) := (Upd.refl _ _).alloc _
  have Hhu := Lib.hid hu; clear hu
  go_enter Try.func32, Try.ntmps32
  go_wp2_with (first
    | (go_at_call 61; (with_reducible refine (hf.out _).mono ?_); rintro e w2 ⟨rfl, hu2⟩; have Hu2 := Lib.hid hu2; clear hu2)
    | (go_at_call 67; (with_reducible refine (hm.out _).mono ?_); rintro e w3 ⟨rfl, rfl⟩))
  go_ret
  exact ⟨rfl, Hhu.out.trans Hu2.out⟩
set_option maxRecDepth 100000 in
theorem nil_Get (x j : Int) (w : World) : Calls Try.prog 35 #[.pointer none, .int .i64 x, .int .i64 j] w (RetU w (.tuple #[.agg #[.int .i64 0, .int .i64 0, .int .u64 0, .int .u64 0, .int .i64 0], .int .i64 1])) := by
  have hu : Upd (fun _ => False) w (w.alloc (.cells #[.int .i64 0, .int .i64 0, .int .u64 0, .int .u64 0, .int .i64 0] 26)) := (Upd.refl _ _).alloc _
  have hB := Lib.hid (Blk.new w [.int .i64 0, .int .i64 0, .int .u64 0, .int .u64 0, .int .i64 0] 26)
  have hf := Lib.hid (nil_find x)
  have hm := Lib.hid nil_missing
  have Hhu := Lib.hid hu; clear hu
  go_enter Try.func35, Try.ntmps35
  go_wp2_with (first
    | (go_at_call 61; (with_reducible refine (hf.out _).mono ?_); rintro e w3 ⟨rfl, hu3⟩; have hT := hB.out.upd hu3 (fun h => h); have c0 := hT.cell 0 rfl; have c1 := hT.cell 1 rfl; have c2 := hT.cell 2 rfl; have c3 := hT.cell 3 rfl; have c4 := hT.cell 4 rfl; have f0 := hT.free 0; have f1 := hT.free 1; have f2 := hT.free 2; have f3 := hT.free 3; have f4 := hT.free 4; have Hu3 := Lib.hid hu3; clear hT hu3)
    | (go_at_call 67; (with_reducible refine (hm.out _).mono ?_); rintro e w4 ⟨rfl, rfl⟩))
  refine bodyPost_ret (v := .tuple #[.agg #[.int .i64 0, .int .i64 0, .int .u64 0, .int .u64 0, .int .i64 0], .int .i64 1]) ?_ rfl ?_
  · rw [results_cell_tmp rfl]; go_simp
  · exact ⟨rfl, upd_set5 (Hhu.out.trans Hu3.out) (Nat.le_refl _) _ _ _ _ _⟩
theorem nil_Move (x y : Int) (w : World) : Calls Try.prog 38 #[.pointer none, .int .i64 x, .int .i64 y] w (Same w (.int .i64 0)) := by
  have ha := Lib.hid nil_All
  go_enter Try.func38, Try.ntmps38
  go_wp2_with (go_at_call 33; (with_reducible refine (ha.out _).mono ?_); rintro e w2 ⟨rfl, rfl⟩)
  go_loopw [7, 16] (fun m i wr => m = .int .i64 0 ∧ i = .int .i64 0 ∧ wr = w) (fun _ _ _ => 0)
  case atStart => exact ⟨rfl, rfl, rfl⟩
  case round =>
    obtain ⟨rfl, rfl, rfl⟩ := hrel
    go_wp2
    go_ret
    exact ⟨rfl, rfl⟩
end Go.Proofs.Ytcnbcidbbeadcaa
