/- Laws of chapter 11: what they share. -/
import Derived.Test.YtcnbcidbbeadcaaObjE
namespace Go.Proofs.Ytcnbcidbbeadcaa
open Go.RowKit Go.Deep
set_option linter.unusedVariables false

/-- A bool, and nothing that was there has turned. -/
def RetB (w : World) (e : Ending) (w' : World) : Prop := ∃ b : Bool, e = .returned (.bool b) ∧ Upd (fun _ => False) w w'

set_option maxRecDepth 100000 in
set_option maxHeartbeats 1000000 in
theorem light11 (v : Value) (ks : List (List Int)) (w : World) (hM : MatIn w v ks) : Calls Try.prog 15 #[v] w (RetB w) := by
  obtain ⟨H, hR, hE⟩ := hM
  have hX := Lib.hid hR
  obtain ⟨va, vc, rfl, hc1, hc2, -⟩ := hR
  have l1 : (ks.length : Int) ≤ 9223372036854775807 := by unfold maxLen at hc2; omega
  have HhE := Lib.hid hE; clear hE
  clear hc1 hc2
  go_enter Try.func15, Try.ntmps15
  go_wp2
  go_loopw [7] (fun i wr => ∃ k : Nat, i = .int .i64 k ∧ k ≤ ks.length ∧ Upd (fun _ => False) w wr) (fun i _ => (ks.length - intOf i).toNat)
  case atStart => exact ⟨0, rfl, Nat.zero_le _, Upd.refl _ _⟩
  case round =>
    obtain ⟨k, rfl, hk, hu⟩ := hrel
    by_cases hkl : k = ks.length
    · have e1 : ¬ ((k : Int) < ks.length) := by omega
      have fin : RetB w (.returned (.bool true)) wr := ⟨true, rfl, hu⟩
      have Hfin := Lib.hid fin; clear fin
      clear hkl hu
      go_wp2
      go_ret
      exact Hfin.out
    · have e1 : (k : Int) < ks.length := by omega
      have hk2 : k < ks.length := by omega
      obtain ⟨b0, off, hix, hb0, hcc⟩ := hX.out.index (P := Try.prog) Try.underlying22 (by kernel_rfl) (by kernel_rfl) hk2
      simp only [Nat.mul_one] at hix hcc
      have hrow : wr.cell? ⟨b0, off + k, none⟩ = some (H k) := (hu.none.cell (p := ⟨b0, off + k, none⟩) hb0).trans (hcc 0 (by decide))
      obtain ⟨ra, rc, hrv, hrl, hrm, -⟩ := (show RowsIn w (H k) 1 (ks.getD k []).length _ from HhE.out k hk2)
      rw [hrv] at hrow
      have hll : ((ks.getD k []).length : Int) ≤ 9223372036854775807 := by unfold maxLen at hrm; omega
      clear hrv hrl hrm hcc hkl
      generalize (ks.getD k []).length = n at *
      have fin := Lib.hid (fun o => show RetB w (.returned (.bool false)) (wr.alloc o) from ⟨false, rfl, hu.alloc o⟩)
      have Hhu := Lib.hid hu; clear hu
      by_cases h20 : (20 : Int) ≤ k
      · go_wp2
        go_ret
        exact fin.out _
      · have h20' : ¬ (k : Int) ≥ 20 := by omega
        by_cases h30 : (30 : Int) < n
        · go_wp2
          go_ret
          exact fin.out _
        · go_wp2
          go_roundw
          case rel => exact ⟨k + 1, by go_num, by omega, Hhu.out.alloc _⟩
          case measure => simp [intOf]; omega

theorem encO_awake : encO [[1, 3]] 0 [⟨1, 7, 0, 0, 0⟩, zeroV] 3 = ([makeN 0 3 3, 7, 0], 0) := by rfl
theorem ints_blk {w : World} {b : Nat} {xs : List Int} {T : TypeId} (hB : Blk w b (ints xs) T) (hl : xs.length ≤ 1000) : IntsR w (.slice (some ⟨b, 0, none⟩) xs.length xs.length) .i64 xs := by
  refine ⟨_, _, rfl, Nat.le_refl _, by unfold maxLen; omega, fun _ => ⟨b, 0, rfl, hB.lt, fun i hi j hj => ?_⟩⟩
  obtain rfl : j = 0 := by omega
  rw [show 0 + i * 1 + 0 = i from by omega]
  exact hB.cell i (by simp [ints, List.getD, hi])
theorem mat_blk {w : World} {b : Nat} {rv : Value} {xs : List Int} {T : TypeId} (hB : Blk w b [rv] T) (h : IntsR w rv .i64 xs) : MatIn w (.slice (some ⟨b, 0, none⟩) 1 1) [xs] := by
  refine ⟨fun _ => rv, ⟨_, _, rfl, Nat.le_refl _, by decide, fun _ => ⟨b, 0, rfl, hB.lt, fun i hi j hj => ?_⟩⟩, fun i hi => ?_⟩
  · have hi : i < 1 := hi
    obtain rfl : j = 0 := by omega
    obtain rfl : i = 0 := by omega
    exact hB.cell 0 rfl
  · obtain rfl : i = 0 := by
      simp at hi
      exact hi
    exact h
theorem vals_blk {w : World} {b : Nat} {x y : Val} {T : TypeId}
    (hB : Blk w b [.int .i64 x.k, .int .i64 x.n, .int .u64 (x.re : Int), .int .u64 (x.im : Int), .int .i64 x.r, .int .i64 y.k, .int .i64 y.n, .int .u64 (y.re : Int), .int .u64 (y.im : Int), .int .i64 y.r] T) :
    ValsR w (.slice (some ⟨b, 0, none⟩) 2 2) [x, y] := by
  refine ⟨_, _, rfl, Nat.le_refl _, by decide, fun _ => ⟨b, 0, rfl, hB.lt, fun i hi j hj => ?_⟩⟩
  have hi : i < 2 := hi
  match i, hi, j, hj with
  | 0, _, 0, _ => exact hB.cell 0 rfl
  | 0, _, 1, _ => exact hB.cell 1 rfl
  | 0, _, 2, _ => exact hB.cell 2 rfl
  | 0, _, 3, _ => exact hB.cell 3 rfl
  | 0, _, 4, _ => exact hB.cell 4 rfl
  | 1, _, 0, _ => exact hB.cell 5 rfl
  | 1, _, 1, _ => exact hB.cell 6 rfl
  | 1, _, 2, _ => exact hB.cell 7 rfl
  | 1, _, 3, _ => exact hB.cell 8 rfl
  | 1, _, 4, _ => exact hB.cell 9 rfl
theorem awake_args (w : World) : ∃ W1, W1 = ((w.alloc (.cells #[.int .i64 1, .int .i64 3] 3)).alloc (.cells #[.slice (some ⟨w.heap.size, 0, none⟩) 2 2] 68)).alloc (.cells #[.int .i64 1, .int .i64 7, .int .u64 0, .int .u64 0, .int .i64 0, .int .i64 0, .int .i64 0, .int .u64 0, .int .u64 0, .int .i64 0] 26) ∧
    MatIn W1 (.slice (some ⟨w.heap.size + 1, 0, none⟩) 1 1) [[1, 3]] ∧ ValsR W1 (.slice (some ⟨w.heap.size + 1 + 1, 0, none⟩) 2 2) [⟨1, 7, 0, 0, 0⟩, zeroV] ∧ Upd (fun _ => False) w W1 := by
  refine ⟨_, rfl, ?_, ?_, (((Upd.refl _ _).alloc _).alloc _).alloc _⟩
  · refine mat_blk (T := 68) (rv := .slice (some ⟨w.heap.size, 0, none⟩) 2 2) ?_ ?_
    · have := Blk.new (w.alloc (.cells #[.int .i64 1, .int .i64 3] 3)) [.slice (some ⟨w.heap.size, 0, none⟩) 2 2] 68
      rw [alloc_size] at this
      exact this.alloc _
    · exact ints_blk (T := 3) (xs := [1, 3]) (((Blk.new w [.int .i64 1, .int .i64 3] 3).alloc _).alloc _) (by decide)
  · have := Blk.new ((w.alloc (.cells #[.int .i64 1, .int .i64 3] 3)).alloc (.cells #[.slice (some ⟨w.heap.size, 0, none⟩) 2 2] 68)) [.int .i64 1, .int .i64 7, .int .u64 0, .int .u64 0, .int .i64 0, .int .i64 0, .int .i64 0, .int .u64 0, .int .u64 0, .int .i64 0] 26
    rw [alloc_size, alloc_size] at this
    exact vals_blk (x := ⟨1, 7, 0, 0, 0⟩) (y := zeroV) this

set_option maxRecDepth 100000 in
set_option maxHeartbeats 1000000 in
theorem awake11 (w : World) : Calls Try.prog 16 #[] w (TrueUpd w) := by
  obtain ⟨W1, hW1, hM, hV, hu⟩ := awake_args w
  have he : Calls Try.prog 17 #[.slice (some ⟨w.heap.size + 1, 0, none⟩) 1 1, .int .i64 0, .slice (some ⟨w.heap.size + 1 + 1, 0, none⟩) 2 2, .int .u64 3] W1 (fun e w' => ∃ va c, e = .returned (.tuple #[.slice va 3 c, .int .i64 0]) ∧ WordsR w' (.slice va 3 c) [makeN 0 3 3, 7, 0] ∧ Upd (fun _ => False) W1 w') := by
    have := object_Encode _ _ [[1, 3]] 0 [⟨1, 7, 0, 0, 0⟩, zeroV] 3 (by decide) (by
      intro x hx
      simp only [List.mem_cons, List.not_mem_nil, or_false] at hx
      rcases hx with rfl | rfl
      · exact ⟨by unfold I64; decide, by unfold I64; decide, by decide, by decide, by unfold I64; decide⟩
      · exact zeroV_ok) W1 hM hV
    rw [encO_awake] at this
    exact this.mono (fun e w' ⟨u, va, c, h1, h2⟩ => ⟨va, c, h1, h2, u⟩)
  generalize makeN 0 3 3 = hd at *
  rw [hW1] at he
  have he := Lib.hid he
  have hu := Lib.hid hu
  clear hM hV
  go_enter Try.func16, Try.ntmps16
  go_wp2_with (go_at_call 17; (with_reducible refine he.out.mono ?_); rintro e w2 ⟨va, c, rfl, hW, hu2⟩; obtain ⟨b1, o1, hx1, -, hc1⟩ := hW.1.index (P := Try.prog) Try.underlying29 (by kernel_rfl) (by kernel_rfl) (i := 1) (by simp); obtain ⟨b2, o2, hx2, -, hc2⟩ := hW.1.index (P := Try.prog) Try.underlying29 (by kernel_rfl) (by kernel_rfl) (i := 2) (by simp); have hx1 : ∀ w', (Instr.indexAt 29 (.slice va 3 c) (.int .i64 1)).run Try.prog w' = .ok (.pointer (some ⟨b1, o1 + 1, none⟩)) w' := hx1; have hx2 : ∀ w', (Instr.indexAt 29 (.slice va 3 c) (.int .i64 2)).run Try.prog w' = .ok (.pointer (some ⟨b2, o2 + 2, none⟩)) w' := hx2; have c1 : w2.cell? ⟨b1, o1 + 1, none⟩ = some (.int .u64 7) := hc1 0 (by decide); have c2 : w2.cell? ⟨b2, o2 + 2, none⟩ = some (.int .u64 0) := hc2 0 (by decide); have HU := Lib.hid hu2; clear hc1 hc2 hW hu2)
  go_ret
  exact ⟨rfl, hu.out.trans (hW1 ▸ HU.out)⟩
end Go.Proofs.Ytcnbcidbbeadcaa
