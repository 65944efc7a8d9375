/- slices.Contains; the closure that adds to what is kept. -/
import Derived.Test.YtcnbcidbbeadcaaVhKp
import Derived.Test.YtcnbcidbbeadcaaPushL
namespace Go.Proofs.Ytcnbcidbbeadcaa
open Go.RowKit Go.Deep
set_option linter.unusedVariables false

def idxI (y : Int) : List Int → Nat → Int
  | [], _ => -1
  | x :: xs, k => if y = x then k else idxI y xs (k + 1)
theorem idxI_mem (y : Int) (xs : List Int) (k : Nat) : (0 ≤ idxI y xs k) ↔ y ∈ xs := by
  induction xs generalizing k with
  | nil => simp [idxI]
  | cons x xs ih =>
    unfold idxI
    split
    · rename_i h
      subst h
      simp
    · rename_i h
      rw [ih]
      simp [h]
theorem idxI_drop (y : Int) (xs : List Int) (k : Nat) (hk : k < xs.length) : idxI y (xs.drop k) k = if y = xs.getD k 0 then (k : Int) else idxI y (xs.drop (k + 1)) (k + 1) := by
  rw [List.drop_eq_getElem_cons hk]
  simp [idxI, List.getD, hk]
set_option maxRecDepth 100000 in
set_option maxHeartbeats 600000 in
theorem slices_Index (v : Value) (xs : List Int) (y : Int) (w : World) (hv : IntsR w v .i64 xs) : Calls Try.prog 96 #[v, .int .i64 y] w (RetU w (.int .i64 (idxI y xs 0))) := by
  have hX := Lib.hid hv
  obtain ⟨a, ca, rfl, hca1, hca, -⟩ := hv
  have l1 : (xs.length : Int) ≤ 9223372036854775807 := by unfold maxLen at hca; omega
  clear hca hca1
  go_enter Try.func96, Try.ntmps96
  go_wp2
  go_loopw [8] (fun i wr => ∃ k : Nat, k ≤ xs.length ∧ i = .int .i64 k ∧ idxI y (xs.drop k) k = idxI y xs 0 ∧ Upd (fun _ => False) w wr) (fun i _ => (xs.length - intOf i).toNat)
  case atStart => exact ⟨0, Nat.zero_le _, rfl, rfl, Upd.refl _ _⟩
  case round =>
    obtain ⟨k, hk, rfl, hfg, hu⟩ := hrel
    by_cases hkl : k = xs.length
    · have d1 : ¬ ((k : Int) < xs.length) := by omega
      have e0 : idxI y xs 0 = -1 := by rw [← hfg, hkl, List.drop_length]; rfl
      have He0 := Lib.hid e0; clear e0
      clear hfg hkl
      go_wp2
      go_ret
      exact ⟨by rw [He0.out]; rfl, hu⟩
    · have d1 : (k : Int) < xs.length := by omega
      have d1' : k < xs.length := by omega
      obtain ⟨b0, off, hix, hb0, hc⟩ := hX.out.index (P := Try.prog) Try.underlying52 (by kernel_rfl) (by kernel_rfl) d1'
      simp only [Nat.mul_one] at hix hc
      have hc0 : wr.cell? ⟨b0, off + k, none⟩ = some (.int .i64 (xs.getD k 0)) := (hu.none.cell (p := ⟨b0, off + k, none⟩) hb0).trans (hc 0 (by decide))
      rw [idxI_drop y xs k d1'] at hfg
      generalize xs.getD k 0 = x at *
      by_cases hxy : y = x
      · rw [if_pos hxy] at hfg
        have e2 : (y == x) = true := by rw [beq_iff_eq]; exact hxy
        clear hc hkl hxy
        have Hhu := Lib.hid hu; clear hu
        have Hhfg := Lib.hid hfg; clear hfg
        go_wp2
        go_ret
        exact ⟨by rw [← Hhfg.out]; rfl, Hhu.out⟩
      · rw [if_neg hxy] at hfg
        have e2 : (y == x) = false := by rw [beq_eq_false_iff_ne]; exact hxy
        clear hc hkl hxy
        have Hhu := Lib.hid hu; clear hu
        have Hhfg := Lib.hid hfg; clear hfg
        go_wp2
        go_roundw
        case rel => exact ⟨k + 1, by omega, by go_num, Hhfg.out, Hhu.out⟩
        case measure => simp [intOf]; omega
theorem slices_Contains (v : Value) (xs : List Int) (y : Int) (w : World) (hv : IntsR w v .i64 xs) : Calls Try.prog 79 #[v, .int .i64 y] w (RetU w (.bool (decide (y ∈ xs)))) := by
  have hI := slices_Index v xs y w hv
  obtain ⟨a, ca, rfl, -, -, -⟩ := hv
  have e := idxI_mem y xs 0
  have e : decide (idxI y xs 0 ≥ 0) = decide (y ∈ xs) := decide_eq_decide.2 e
  generalize idxI y xs 0 = q at *
  have HhI := Lib.hid hI; clear hI
  have He := Lib.hid e; clear e
  go_enter Try.func79, Try.ntmps79
  go_wp2_with (go_at_call 96; (with_reducible refine HhI.out.mono ?_); rintro e w2 ⟨rfl, hu2⟩)
  go_ret
  exact ⟨by rw [← He.out]; rfl, hu2⟩
end Go.Proofs.Ytcnbcidbbeadcaa
