/- The kinds of chapter 14's laws. -/
import Derived.Test.YtcnbcidbbeadcaaAw11
namespace Go.Proofs.Ytcnbcidbbeadcaa
open Go.RowKit Go.Deep
set_option linter.unusedVariables false

def ks14 : List (List Int) := [[1], [3, 1, 3], [2, 3], []]
theorem kinds_mat (w : World) : MatIn ((((w.alloc (.cells #[.int .i64 1] 3)).alloc (.cells #[.int .i64 3, .int .i64 1, .int .i64 3] 3)).alloc (.cells #[.int .i64 2, .int .i64 3] 3)).alloc
    (.cells #[.slice (some ⟨w.heap.size, 0, none⟩) 1 1, .slice (some ⟨w.heap.size + 1, 0, none⟩) 3 3, .slice (some ⟨w.heap.size + 1 + 1, 0, none⟩) 2 2, .slice none 0 0] 68)) (.slice (some ⟨w.heap.size + 1 + 1 + 1, 0, none⟩) 4 4) ks14 := by
  have h1 := (((Blk.new w [.int .i64 1] 3).alloc (.cells #[.int .i64 3, .int .i64 1, .int .i64 3] 3)).alloc (.cells #[.int .i64 2, .int .i64 3] 3)).alloc (.cells #[.slice (some ⟨w.heap.size, 0, none⟩) 1 1, .slice (some ⟨w.heap.size + 1, 0, none⟩) 3 3, .slice (some ⟨w.heap.size + 1 + 1, 0, none⟩) 2 2, .slice none 0 0] 68)
  have h2 := Blk.new (w.alloc (.cells #[.int .i64 1] 3)) [.int .i64 3, .int .i64 1, .int .i64 3] 3
  rw [alloc_size] at h2
  have h2 := (h2.alloc (.cells #[.int .i64 2, .int .i64 3] 3)).alloc (.cells #[.slice (some ⟨w.heap.size, 0, none⟩) 1 1, .slice (some ⟨w.heap.size + 1, 0, none⟩) 3 3, .slice (some ⟨w.heap.size + 1 + 1, 0, none⟩) 2 2, .slice none 0 0] 68)
  have h3 := Blk.new ((w.alloc (.cells #[.int .i64 1] 3)).alloc (.cells #[.int .i64 3, .int .i64 1, .int .i64 3] 3)) [.int .i64 2, .int .i64 3] 3
  rw [alloc_size, alloc_size] at h3
  have h3 := h3.alloc (.cells #[.slice (some ⟨w.heap.size, 0, none⟩) 1 1, .slice (some ⟨w.heap.size + 1, 0, none⟩) 3 3, .slice (some ⟨w.heap.size + 1 + 1, 0, none⟩) 2 2, .slice none 0 0] 68)
  have h4 := Blk.new (((w.alloc (.cells #[.int .i64 1] 3)).alloc (.cells #[.int .i64 3, .int .i64 1, .int .i64 3] 3)).alloc (.cells #[.int .i64 2, .int .i64 3] 3)) [.slice (some ⟨w.heap.size, 0, none⟩) 1 1, .slice (some ⟨w.heap.size + 1, 0, none⟩) 3 3, .slice (some ⟨w.heap.size + 1 + 1, 0, none⟩) 2 2, .slice none 0 0] 68
  rw [alloc_size, alloc_size, alloc_size] at h4
  refine ⟨fun i => ([.slice (some ⟨w.heap.size, 0, none⟩) 1 1, .slice (some ⟨w.heap.size + 1, 0, none⟩) 3 3, .slice (some ⟨w.heap.size + 1 + 1, 0, none⟩) 2 2, .slice none 0 0] : List Value).getD i undef, ⟨_, _, rfl, Nat.le_refl _, by decide, fun _ => ⟨_, 0, rfl, h4.lt, fun i hi j hj => ?_⟩⟩, fun i hi => ?_⟩
  · have hi : i < 4 := hi
    obtain rfl : j = 0 := by omega
    match i, hi with
    | 0, _ => exact h4.cell 0 rfl
    | 1, _ => exact h4.cell 1 rfl
    | 2, _ => exact h4.cell 2 rfl
    | 3, _ => exact h4.cell 3 rfl
  · have hi : i < 4 := hi
    match i, hi with
    | 0, _ => exact ints_blk (xs := [1]) h1 (by decide)
    | 1, _ => exact ints_blk (xs := [3, 1, 3]) h2 (by decide)
    | 2, _ => exact ints_blk (xs := [2, 3]) h3 (by decide)
    | 3, _ => exact ⟨none, 0, rfl, Nat.le_refl _, by decide, fun h => absurd (show 0 < 0 from h) (by decide)⟩
def RetMat (w : World) (tt : List (List Int)) (e : Ending) (w' : World) : Prop := ∃ v, e = .returned v ∧ MatIn w' v tt ∧ Upd (fun _ => False) w w'
set_option maxRecDepth 100000 in
theorem kinds14 (w : World) : Calls Try.prog 24 #[] w (RetMat w ks14) := by
  have hm := Lib.hid (kinds_mat w)
  go_enter Try.func24, Try.ntmps24
  go_wp2
  go_ret
  exact ⟨_, rfl, hm.out, ((((Upd.refl _ _).alloc _).alloc _).alloc _).alloc _⟩
end Go.Proofs.Ytcnbcidbbeadcaa
