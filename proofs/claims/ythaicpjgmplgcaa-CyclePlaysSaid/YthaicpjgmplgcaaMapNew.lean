/- New of package bitmap. -/
import Derived.Test.YthaicpjgmplgcaaMapSet
import Derived.Deep.OwnRows
namespace Go.Proofs.Ythaicpjgmplgcaa
open Go.RowKit
set_option linter.unusedVariables false

theorem infoU64 : (Try.prog.info? 82).map (fun i => (i.zero, i.size, i.bytes)) = some (some (.int .u64 0), 1, 8) := by kernel_rfl

theorem made_list (z : Value) (L : Nat) : (madeCells #[z] L).toList = List.replicate L z := by
  apply List.ext_getElem?
  intro i
  simp only [madeCells, Array.toList_map, Array.toList_range, List.getElem?_map, List.getElem?_replicate]
  by_cases h : i < L
  · simp [h, Nat.mod_one]
  · simp [h]

theorem new_MapF (w : World) (m L : Nat) (hL : L = (m + 63) / 64) (hm : m ≤ 1048576) :
    MapF ((w.alloc (.cells (madeCells #[.int .u64 0] L) 82)).alloc (.cells #[.int .i64 m, .slice (some ⟨w.heap.size, 0, none⟩) L L] 89)) (w.heap.size + 1) w.heap.size m (fun _ => false) := by
  have hb := Blk.new (w.alloc (.cells (madeCells #[.int .u64 0] L) 82)) [.int .i64 m, .slice (some ⟨w.heap.size, 0, none⟩) L L] 89
  have hd : (w.alloc (.cells (madeCells #[.int .u64 0] L) 82)).ownsRow 0 82 1 (.slice (some ⟨w.heap.size, 0, none⟩) L L) L (List.replicate L (Value.int .u64 0)) := by
    refine ⟨by simp, Or.inr ⟨w.heap.size, L, madeCells #[.int .u64 0] L, rfl, Nat.zero_le _, heap_alloc_new w _, Nat.le_refl _, by unfold maxLen; omega, by rw [size_madeCells]; omega, ?_⟩⟩
    rw [made_list]
    simp
  refine ⟨hm, by omega, L, by rw [← hL]; simpa using hb, ?_⟩
  have := hd.alloc (.cells #[.int .i64 m, .slice (some ⟨w.heap.size, 0, none⟩) L L] 89)
  rw [packN_false, ← hL]
  simpa [words] using this

set_option maxRecDepth 100000 in
set_option maxHeartbeats 400000 in
theorem map_New (n : Int) (w : World) : Calls Try.prog 27 #[.int .i64 n] w (fun e w' => e = .returned (.pointer (some ⟨w.heap.size + 1, 0, none⟩)) ∧
    MapF w' (w.heap.size + 1) w.heap.size (max 0 (min n 1048576)).toNat (fun _ => false) ∧ Upd (fun _ => False) w w' ∧ w'.heap.size = w.heap.size + 2) := by
  have hmk := fun (L : Nat) (h : L ≤ 1000000) => run_make_row' (P := Try.prog) 23 82 (.int .u64 0) 8 Try.underlying23 infoU64 rfl .i64 .i64 L (by omega) (by omega)
  by_cases h0 : n ≤ 0
  · have hm : ∀ w, _ := hmk 0 (by omega)
    have hm := fun w => show (Instr.makeSlice 23 (.int .i64 0) (.int .i64 0)).run Try.prog w = _ from hm w
    have fin := new_MapF w 0 0 (by decide) (by decide)
    rw [show (max 0 (min n 1048576)).toNat = 0 from by omega]
    have Hfin := Lib.hid fin; clear fin
    clear hmk
    go_enter Try.func27, Try.ntmps27
    go_wp2
    all_goals go_ret
    all_goals exact ⟨by simp, by simpa using Hfin.out, ((Upd.refl _ _).alloc _).alloc _, by simp⟩
  · by_cases h1 : 1048576 < n
    · have hm := fun w => show (Instr.makeSlice 23 (.int .i64 16384) (.int .i64 16384)).run Try.prog w = _ from hmk 16384 (by omega) w
      have fin := new_MapF w 1048576 16384 (by decide) (by decide)
      rw [show (max 0 (min n 1048576)).toNat = 1048576 from by omega]
      have Hfin := Lib.hid fin; clear fin
      clear hmk
      have d1 : 0 < n := by omega
      go_enter Try.func27, Try.ntmps27
      go_wp2
      all_goals go_ret
      all_goals exact ⟨by simp, by simpa using Hfin.out, ((Upd.refl _ _).alloc _).alloc _, by simp⟩
    · obtain ⟨m, rfl⟩ : ∃ m : Nat, n = m := ⟨n.toNat, by omega⟩
      have hm := hmk ((m + 63) / 64) (by omega)
      have e1 : ((m : Int) + 64 - 1) / 64 = (((m + 63) / 64 : Nat) : Int) := by omega
      have fin := new_MapF w m _ rfl (by omega)
      rw [show (max 0 (min (m : Int) 1048576)).toNat = m from by omega]
      generalize (m + 63) / 64 = L at *
      rw [← e1] at hm
      have Hfin := Lib.hid fin; clear fin
      clear hmk e1
      have d1 : 0 < (m : Int) := by omega
      have d2 : (m : Int) ≤ 1048576 := by omega
      go_enter Try.func27, Try.ntmps27
      go_wp2
      all_goals go_ret
      all_goals exact ⟨by simp, by simpa using Hfin.out, ((Upd.refl _ _).alloc _).alloc _, by simp⟩
end Go.Proofs.Ythaicpjgmplgcaa
