/- The document's Zero. -/
import Derived.Test.YtcnbcidbbeadcaaVhPl
namespace Go.Proofs.Ytcnbcidbbeadcaa
open Go.RowKit Go.Deep
set_option linter.unusedVariables false

set_option maxRecDepth 100000 in
set_option maxHeartbeats 1000000 in
theorem ref_Zero (v : Value) (f : List Int) (w : World) (hv : IntsR w v .i64 f) (hb : f.length ≤ 15) : Calls Try.prog 40 #[.agg #[v]] w (RetZero w f) := by
  have hX := Lib.hid hv
  obtain ⟨a, cap, rfl, -, hcap, -⟩ := hv
  have hb2 : (f.length : Int) ≤ 15 := by omega
  go_enter Try.func40, Try.ntmps40
  go_wp2
  go_loopw [3, 14] (fun o i wr => ∃ (k : Nat) (oa : Option Addr) (oc : Nat), k ≤ f.length ∧ i = .int .i64 k ∧ o = .slice oa k oc ∧ wr.ownsRow w.heap.size 26 5 (.slice oa k oc) k (zeroTo f k) ∧ Upd (fun _ => False) w wr ∧ w.heap.size ≤ wr.heap.size) (fun _ i _ => (f.length - intOf i).toNat)
  case atStart => exact ⟨0, none, 0, Nat.zero_le _, rfl, rfl, World.ownsRow_nil _ _ _ _, (Upd.refl _ _).alloc _, by simp⟩
  case round =>
    obtain ⟨k, oa, oc, hk, rfl, rfl, ho, hu, hz⟩ := hrel
    by_cases hkl : k = f.length
    · have d1 : ¬ ((k : Int) < f.length) := by omega
      subst hkl
      have fin : RetZero w f (.returned (.slice oa f.length oc)) wr := ⟨_, _, rfl, ho, hu⟩
      have Hfin := Lib.hid fin; clear fin
      clear ho
      go_wp2
      go_ret
      exact Hfin.out
    · have d1 : (k : Int) < f.length := by omega
      have d1' : k < f.length := by omega
      have dk : k ≤ 1048576 := by omega
      obtain ⟨b0, off, hix, hb0, hc⟩ := hX.out.index (P := Try.prog) Try.underlying52 (by kernel_rfl) (by kernel_rfl) d1'
      simp only [Nat.mul_one] at hix hc
      have hc0 : wr.cell? ⟨b0, off + k, none⟩ = some (.int .i64 (f.getD k 0)) := (hu.none.cell (p := ⟨b0, off + k, none⟩) hb0).trans (hc 0 (by decide))
      have hst : zeroTo f (k + 1) = zeroTo f k ++ valK (f.getD k 0) := rfl
      generalize f.getD k 0 = x at *
      by_cases hx : x = 1 ∨ x = 2
      · have hvk : valK x = [.int .i64 x, .int .i64 0, .int .u64 0, .int .u64 0, .int .i64 0] := by unfold valK kindK; rw [if_pos hx]
        rw [hvk] at hst
        clear hvk
        rcases hx with rfl | rfl
        · have dummy := trivial
          have hnb := Lib.hid (show ((wr.alloc (.cells #[.int .i64 1, .int .i64 0, .int .u64 0, .int .u64 0, .int .i64 0] 26)).alloc (.cells #[.int .i64 1, .int .i64 0, .int .u64 0, .int .u64 0, .int .i64 0] 26)).heap[wr.heap.size + 1]? = some (.cells (List.toArray [.int .i64 1, .int .i64 0, .int .u64 0, .int .u64 0, .int .i64 0]) 26 (0, 0)) from by
            have := Blk.new (wr.alloc (.cells #[.int .i64 1, .int .i64 0, .int .u64 0, .int .u64 0, .int .i64 0] 26)) [.int .i64 1, .int .i64 0, .int .u64 0, .int .u64 0, .int .i64 0] 26
            simpa [Blk] using this)
          have Hho := Lib.hid ho; clear ho
          have Hhst := Lib.hid hst; clear hst
          have Hhu := Lib.hid hu; clear hu
          clear hkl hc
          go_wp2_with (at_builtin; refine wpList_pushN rfl _ _ 23 26 rfl (.agg #[.int .i64 0, .int .i64 0, .int .u64 0, .int .u64 0, .int .i64 0]) 5 40 (by decide) Try.underlying23 infoVal rfl w.heap.size _ _ _ rfl ((Hho.out.alloc _).alloc _) (wr.heap.size + 1) 1 [.int .i64 1, .int .i64 0, .int .u64 0, .int .u64 0, .int .i64 0] rfl rfl 26 (0, 0) hnb.out (by decide) dk (by decide) (by simp; omega) ?_; intro oa' oc' w4 ho4 hg4)
          go_roundw
          case rel =>
            have u4 : Upd (fun _ => False) w w4 := ((Hhu.out.alloc (.cells #[.int .i64 1, .int .i64 0, .int .u64 0, .int .u64 0, .int .i64 0] 26)).alloc (.cells #[.int .i64 1, .int .i64 0, .int .u64 0, .int .u64 0, .int .i64 0] 26)).grown hg4 (fun j e hj => absurd ((Hho.out.lt j e).1) (by omega))
            exact ⟨k + 1, oa', oc', by omega, by go_num, rfl, by rw [Hhst.out]; exact ho4, u4, u4.size⟩
          case measure => simp [intOf]; omega
        · have dummy := trivial
          have hnb := Lib.hid (show ((wr.alloc (.cells #[.int .i64 2, .int .i64 0, .int .u64 0, .int .u64 0, .int .i64 0] 26)).alloc (.cells #[.int .i64 2, .int .i64 0, .int .u64 0, .int .u64 0, .int .i64 0] 26)).heap[wr.heap.size + 1]? = some (.cells (List.toArray [.int .i64 2, .int .i64 0, .int .u64 0, .int .u64 0, .int .i64 0]) 26 (0, 0)) from by
            have := Blk.new (wr.alloc (.cells #[.int .i64 2, .int .i64 0, .int .u64 0, .int .u64 0, .int .i64 0] 26)) [.int .i64 2, .int .i64 0, .int .u64 0, .int .u64 0, .int .i64 0] 26
            simpa [Blk] using this)
          have Hho := Lib.hid ho; clear ho
          have Hhst := Lib.hid hst; clear hst
          have Hhu := Lib.hid hu; clear hu
          clear hkl hc
          go_wp2_with (at_builtin; refine wpList_pushN rfl _ _ 23 26 rfl (.agg #[.int .i64 0, .int .i64 0, .int .u64 0, .int .u64 0, .int .i64 0]) 5 40 (by decide) Try.underlying23 infoVal rfl w.heap.size _ _ _ rfl ((Hho.out.alloc _).alloc _) (wr.heap.size + 1) 1 [.int .i64 2, .int .i64 0, .int .u64 0, .int .u64 0, .int .i64 0] rfl rfl 26 (0, 0) hnb.out (by decide) dk (by decide) (by simp; omega) ?_; intro oa' oc' w4 ho4 hg4)
          go_roundw
          case rel =>
            have u4 : Upd (fun _ => False) w w4 := ((Hhu.out.alloc (.cells #[.int .i64 2, .int .i64 0, .int .u64 0, .int .u64 0, .int .i64 0] 26)).alloc (.cells #[.int .i64 2, .int .i64 0, .int .u64 0, .int .u64 0, .int .i64 0] 26)).grown hg4 (fun j e hj => absurd ((Hho.out.lt j e).1) (by omega))
            exact ⟨k + 1, oa', oc', by omega, by go_num, rfl, by rw [Hhst.out]; exact ho4, u4, u4.size⟩
          case measure => simp [intOf]; omega
      · have e1 : (x == 1) = false := by simp; omega
        have e2 : (x == 2) = false := by simp; omega
        have hvk : valK x = [.int .i64 0, .int .i64 0, .int .u64 0, .int .u64 0, .int .i64 0] := by unfold valK kindK; rw [if_neg hx]
        rw [hvk] at hst
        clear hx hvk
        have hnb := Lib.hid (show ((wr.alloc (.cells #[.int .i64 0, .int .i64 0, .int .u64 0, .int .u64 0, .int .i64 0] 26)).alloc (.cells #[.int .i64 0, .int .i64 0, .int .u64 0, .int .u64 0, .int .i64 0] 26)).heap[wr.heap.size + 1]? = some (.cells (List.toArray [.int .i64 0, .int .i64 0, .int .u64 0, .int .u64 0, .int .i64 0]) 26 (0, 0)) from by
          have := Blk.new (wr.alloc (.cells #[.int .i64 0, .int .i64 0, .int .u64 0, .int .u64 0, .int .i64 0] 26)) [.int .i64 0, .int .i64 0, .int .u64 0, .int .u64 0, .int .i64 0] 26
          simpa [Blk] using this)
        have Hho := Lib.hid ho; clear ho
        have Hhst := Lib.hid hst; clear hst
        have Hhu := Lib.hid hu; clear hu
        clear hkl hc
        go_wp2_with (at_builtin; refine wpList_pushN rfl _ _ 23 26 rfl (.agg #[.int .i64 0, .int .i64 0, .int .u64 0, .int .u64 0, .int .i64 0]) 5 40 (by decide) Try.underlying23 infoVal rfl w.heap.size _ _ _ rfl ((Hho.out.alloc _).alloc _) (wr.heap.size + 1) 1 [.int .i64 0, .int .i64 0, .int .u64 0, .int .u64 0, .int .i64 0] rfl rfl 26 (0, 0) hnb.out (by decide) dk (by decide) (by simp; omega) ?_; intro oa' oc' w4 ho4 hg4)
        go_roundw
        case rel =>
          have u4 : Upd (fun _ => False) w w4 := ((Hhu.out.alloc (.cells #[.int .i64 0, .int .i64 0, .int .u64 0, .int .u64 0, .int .i64 0] 26)).alloc (.cells #[.int .i64 0, .int .i64 0, .int .u64 0, .int .u64 0, .int .i64 0] 26)).grown hg4 (fun j e hj => absurd ((Hho.out.lt j e).1) (by omega))
          exact ⟨k + 1, oa', oc', by omega, by go_num, rfl, by rw [Hhst.out]; exact ho4, u4, u4.size⟩
        case measure => simp [intOf]; omega
end Go.Proofs.Ytcnbcidbbeadcaa
