/- Laws of chapter 19: what they share. -/
import Derived.Test.YthaicpjgmplgcaaAwake19
import Derived.Test.YthaicpjgmplgcaaRefPack
namespace Go.Proofs.Ythaicpjgmplgcaa
open Go.RowKit
set_option linter.unusedVariables false

theorem light_bounds {tt : List (List Int)} (h : lightM tt = true) : tt.length ≤ 1000 ∧ ∀ l ∈ tt, l.length ≤ 1000 := by
  unfold lightM at h
  simp only [Bool.and_eq_true, List.all_eq_true, decide_eq_true_eq] at h
  exact ⟨by omega, fun l hl => by have := h.2 l hl; omega⟩
theorem mat_shape {W : World} {v : Value} {tt : List (List Int)} (h : MatIn W v tt) : ∃ a c, v = .slice a tt.length c := by
  obtain ⟨H, ⟨a, c, h, -⟩, -⟩ := h
  exact ⟨a, c, h⟩
theorem ints_shape {W : World} {v : Value} {k : IntKind} {xs : List Int} (h : IntsIn W v k xs) : ∃ a c, v = .slice a xs.length c := by
  obtain ⟨a, c, h, -⟩ := h.1
  exact ⟨a, c, h⟩
theorem int_at {W : World} {v : Value} {xs : List Int} (h : IntsIn W v .i64 xs) {j : Nat} (hj : j < xs.length) :
    ∃ b off, (∀ w', (Instr.indexAt 37 v (.int .i64 (j : Int))).run Try.prog w' = .ok (.pointer (some ⟨b, off + j, none⟩)) w') ∧ ∀ w', Below W.heap.size W w' → w'.cell? ⟨b, off + j, none⟩ = some (.int .i64 (xs.getD j 0)) := by
  obtain ⟨b0, off, hix, hb0, hc⟩ := h.1.index (P := Try.prog) Try.underlying37 (by kernel_rfl) (by kernel_rfl) hj
  simp only [Nat.mul_one] at hix hc
  exact ⟨b0, off, hix, fun w' u => (u.cell (p := ⟨b0, off + j, none⟩) hb0).trans (hc 0 (by decide))⟩

/-- Step over a table, from the law's own world. -/
theorem step_table {W : World} {B : Nat} {x : Mk} {w w2 : World} {bx : Nat} {v : Value} {tt : List (List Int)} (h : IsMk w B x) (hx : Ok x) (hn : x.n ≤ 1048576) (hBW : W.heap.size ≤ B) (hM : MatIn W v tt) (hu : Upd (fun _ => False) W w)
    (hz : B + 6 ≤ w.heap.size) (hc : w2.cell? ⟨bx, 0, none⟩ = some v) (hb : w.heap.size ≤ bx) (hu2 : Upd (fun _ => False) w w2) (hl : tt.length ≤ 1000 ∧ ∀ l ∈ tt, l.length ≤ 1000) :
    Calls Try.prog 62 #[.pointer (some ⟨B + 5, 0, none⟩), refsFn bx] w2 (StepPost w2 B x (refsOf tt)) :=
  mark_Step_table B x w2 (h.still hu2) hx hn bx v tt hc (fun e => by have := e.2; omega) (fun w' u => hM.upd ((hu.trans hu2).own u (fun i e => by have := e.1; omega)).none) hl.1 hl.2

theorem refs_len {tt : List (List Int)} (h : tt.length ≤ 1000 ∧ ∀ l ∈ tt, l.length ≤ 1000) (b : Int) : (refsOf tt b).length ≤ 1000 := by
  unfold refsOf
  split
  · by_cases hb : b.toNat < tt.length
    · exact h.2 _ (by simp [List.getD, hb])
    · simp [List.getD, Nat.le_of_not_lt hb]
  · simp

theorem marked_is {B : Nat} {x : Mk} {w : World} {b : Int} {r : Bool} (h : IsMk w B x) (hr : (decide (0 ≤ b ∧ b < x.n) && x.m b.toNat) = r) :
    Calls Try.prog 69 #[.pointer (some ⟨B + 5, 0, none⟩), .int .i64 b] w (Same w (.bool r)) := by
  rw [← hr]
  exact mark_Marked B b x w h

theorem black_same (x : Mk) (b : Int) : (x.black b).n = x.n := by
  unfold Mk.black
  split <;> rfl

theorem mat_row {W : World} {v : Value} {tt : List (List Int)} (h : MatIn W v tt) {k : Nat} (hk : k < tt.length) :
    ∃ b off ra rc, (∀ w', (Instr.indexAt 52 v (.int .i64 (k : Int))).run Try.prog w' = .ok (.pointer (some ⟨b, off + k, none⟩)) w') ∧ (∀ w', Below W.heap.size W w' → w'.cell? ⟨b, off + k, none⟩ = some (.slice ra (tt.getD k []).length rc)) ∧ IntsR W (.slice ra (tt.getD k []).length rc) .i64 (tt.getD k []) := by
  obtain ⟨H, hR, hE⟩ := h
  obtain ⟨b0, off, hix, hb0, hcc⟩ := hR.index (P := Try.prog) Try.underlying52 (by kernel_rfl) (by kernel_rfl) hk
  simp only [Nat.mul_one] at hix hcc
  have hrow := hcc 0 (by decide)
  simp only [Nat.add_zero] at hrow
  have hIn := hE k hk
  obtain ⟨ra, rc, hrv, -⟩ := (show RowsIn W (H k) 1 (tt.getD k []).length _ from hIn)
  rw [hrv] at hIn hrow
  exact ⟨b0, off, ra, rc, hix, fun w' u => (u.cell (p := ⟨b0, off + k, none⟩) hb0).trans hrow, hIn⟩
theorem int_atR {W : World} {v : Value} {xs : List Int} (h : IntsR W v .i64 xs) {j : Nat} (hj : j < xs.length) :
    ∃ b off, (∀ w', (Instr.indexAt 37 v (.int .i64 (j : Int))).run Try.prog w' = .ok (.pointer (some ⟨b, off + j, none⟩)) w') ∧ ∀ w', Below W.heap.size W w' → w'.cell? ⟨b, off + j, none⟩ = some (.int .i64 (xs.getD j 0)) := by
  obtain ⟨b0, off, hix, hb0, hc⟩ := RowsIn.index (P := Try.prog) h Try.underlying37 (by kernel_rfl) (by kernel_rfl) hj
  simp only [Nat.mul_one] at hix hc
  exact ⟨b0, off, hix, fun w' u => (u.cell (p := ⟨b0, off + j, none⟩) hb0).trans (hc 0 (by decide))⟩

end Go.Proofs.Ythaicpjgmplgcaa
