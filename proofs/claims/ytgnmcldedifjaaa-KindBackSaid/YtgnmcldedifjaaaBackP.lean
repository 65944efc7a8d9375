/- Plain facts for KindBack: rows of an owned slice; the cells of a new object's values. -/
import Derived.Test.YtgnmcldedifjaaaFits
namespace Go.Proofs.Ytgnmcldedifjaaa
open Go.RowKit
set_option linter.unusedVariables false

/-- An index of an owned row of rows. -/
theorem ownsRow_rowIndex {w : World} {base : Nat} {E : TypeId} {size : Nat} {c : Value} {n : Nat} {xs : List Value} (h : w.ownsRow base E size c n xs) {P : Program} {T : TypeId} (hT : P.underlying T = some (.slice E)) (hE : P.elem T = E) (hS : (P.info? E).map (·.size) = some size) {i : Nat} (hi : i < n) :
    ∃ g, (∀ w', (Instr.indexAt T c (.int .i64 (i : Int))).run P w' = .ok (.pointer (some ⟨g, i * size, none⟩)) w') ∧ base ≤ g ∧ g < w.heap.size ∧ ∀ j, j < size → w.cell? ⟨g, i * size + j, none⟩ = xs[i * size + j]? := by
  obtain ⟨hl, h2⟩ := h
  rcases h2 with ⟨_, h0⟩ | ⟨g, cap, cur, rfl, hg, hh, hn, hcap, hsz, htake⟩
  · omega
  · have hT' : P.underlying T = some (.slice (P.elem T)) := by rw [hE]; exact hT
    obtain ⟨inf, hinf, hsz2⟩ := Option.map_eq_some_iff.1 hS
    refine ⟨g, fun w' => ?_, hg, (Array.getElem?_eq_some_iff.1 hh).1, fun j hj => ?_⟩
    · rw [run_indexAt_slice w' T _ n cap .i64 i hT', if_pos ⟨by omega, by omega⟩, hE]
      simp [sizeOf, typeInfo, hinf, hsz2, Addr.add]
      exact fun e => e.symm
    · have hlt : i * size + j < n * size := by
        have : (i + 1) * size ≤ n * size := Nat.mul_le_mul_right _ hi
        rw [Nat.add_mul] at this
        omega
      rw [← htake, List.getElem?_take, if_pos hlt]
      simp [World.cell?, hh]

theorem zeroTo_len (f : List Int) (n : Nat) : (zeroTo f n).length = 5 * n := by
  induction n with
  | zero => rfl
  | succ n ih =>
    rw [show zeroTo f (n + 1) = zeroTo f n ++ valK (f.getD n 0) from rfl, List.length_append, ih]
    simp [valK]
    omega
theorem zeroTo_get (f : List Int) (n i j : Nat) (hi : i < n) (hj : j < 5) : (zeroTo f n)[i * 5 + j]? = (valK (f.getD i 0))[j]? := by
  induction n with
  | zero => omega
  | succ n ih =>
    rw [show zeroTo f (n + 1) = zeroTo f n ++ valK (f.getD n 0) from rfl]
    by_cases h : i = n
    · subst h
      rw [List.getElem?_append_right (by rw [zeroTo_len]; omega), zeroTo_len]
      congr 1
      omega
    · rw [List.getElem?_append_left (by rw [zeroTo_len]; omega)]
      exact ih (by omega)
theorem off_is (f : List Int) (h : MayK f = true) (i : Nat) (hi : i < f.length) : offK f (i : Int) = 1 + ((sumW (f.take i) : Nat) : Int) := by
  have e1 := (mayK_facts f h).2.2.2.1
  unfold offK
  rw [if_neg (by simp; omega)]
  simp
theorem off_first (f : List Int) (h : MayK f = true) : offK f 0 = 1 := by
  have e1 := mayK_facts f h
  have := off_is f h 0 (by omega)
  simpa [sumW] using this
theorem off_end (f : List Int) (h : MayK f = true) : 1 + sumW (f.take f.length) = kW f ∧ kW f ≤ 16 := by
  have e1 := mayK_facts f h
  rw [List.take_length]
  exact ⟨(kW_eq f e1.2.2.2.1).symm, e1.2.2.2.2⟩
end Go.Proofs.Ytgnmcldedifjaaa
