/- All pages' blocks: plain; a row that takes others. -/
import Derived.Test.YthaicpjgmplgcaaAwake20
namespace Go.Proofs.Ythaicpjgmplgcaa
open Go.RowKit Go.ChangeShapes Go.WideShapes
set_option linter.unusedVariables false

/-- What is taken of the first b blocks. -/
def tk (N : Nat) (u m : Int → Bool) : Nat → List Int
  | 0 => []
  | b + 1 => tk N u m b ++ (if takeB N u m b then [(b : Int)] else [])
theorem tk_succ (N : Nat) (u m : Int → Bool) (b : Nat) : tk N u m (b + 1) = tk N u m b ++ (if takeB N u m b then [(b : Int)] else []) := rfl
theorem tk_page (N : Nat) (u m : Int → Bool) (q i : Nat) : tk N u m (q * 8) ++ pageTo N u m q i = tk N u m (q * 8 + i) := by
  induction i with
  | zero => simp [pageTo]
  | succ i ih =>
    have h : pageTo N u m q (i + 1) = pageTo N u m q i ++ (if takeB N u m (q * 8 + i) then [((q * 8 + i : Nat) : Int)] else []) := rfl
    rw [h, ← List.append_assoc, ih, show q * 8 + (i + 1) = (q * 8 + i) + 1 from by omega, tk_succ]
theorem tk_stop (N : Nat) (u m : Int → Bool) (b d : Nat) (h : N ≤ b) : tk N u m (b + d) = tk N u m b := by
  induction d with
  | zero => rfl
  | succ d ih =>
    have ht : takeB N u m (b + d) = false := by
      unfold takeB
      rw [decide_eq_false (by omega)]
      rfl
    rw [show b + (d + 1) = (b + d) + 1 from by omega, tk_succ, ht, ih]
    simp
theorem tk_len (N : Nat) (u m : Int → Bool) (b : Nat) : (tk N u m b).length ≤ b := by
  induction b with
  | zero => exact Nat.le_refl _
  | succ b ih =>
    rw [tk_succ, List.length_append]
    split <;> simp <;> omega
theorem tk_pre (N : Nat) (u m : Int → Bool) (b d : Nat) : ∃ r, tk N u m (b + d) = tk N u m b ++ r := by
  induction d with
  | zero => exact ⟨[], by simp⟩
  | succ d ih =>
    obtain ⟨r, hr⟩ := ih
    exact ⟨r ++ (if takeB N u m (b + d) then [((b + d : Nat) : Int)] else []), by rw [show b + (d + 1) = (b + d) + 1 from by omega, tk_succ, hr, List.append_assoc]⟩
theorem tk_at (N : Nat) (u m : Int → Bool) (b : Nat) (hb : b < N) (h : takeB N u m b = true) : (tk N u m b).length < (tk N u m N).length ∧ (tk N u m N).getD (tk N u m b).length 0 = b := by
  obtain ⟨r, hr⟩ := tk_pre N u m (b + 1) (N - (b + 1))
  rw [show b + 1 + (N - (b + 1)) = N from by omega, tk_succ, h, if_pos rfl] at hr
  rw [hr]
  constructor
  · simp
  · simp [List.getD]
/-- One page more, from page -1 on. -/
theorem tk_next (N : Nat) (u m : Int → Bool) (j : Nat) (hj : j ≤ (N + 7) / 8 + 1) : tk N u m (8 * min (j - 1) ((N + 7) / 8)) ++ pageL N u m ((j : Int) - 1) = tk N u m (8 * min j ((N + 7) / 8)) := by
  unfold pageL
  rcases Nat.eq_zero_or_pos j with h0 | h0
  · subst h0
    rw [if_pos (by omega)]
    simp [tk]
  · by_cases h1 : j = (N + 7) / 8 + 1
    · rw [if_pos (by omega), List.append_nil]
      congr 2 <;> omega
    · rw [if_neg (by omega), show ((j : Int) - 1).toNat = j - 1 from by omega, show min (j - 1) ((N + 7) / 8) = j - 1 from by omega, show min j ((N + 7) / 8) = j from by omega, Nat.mul_comm, tk_page]
      congr 1
      omega
theorem tk_all (N : Nat) (u m : Int → Bool) : tk N u m (8 * ((N + 7) / 8)) = tk N u m N := by
  have := tk_stop N u m N (8 * ((N + 7) / 8) - N) (Nat.le_refl _)
  rw [← this]
  congr 1
  omega

theorem page_none (N : Nat) (u : Int → Bool) (p : Int) : pageL N u u p = [] := by
  have h : ∀ q i, pageTo N u u q i = [] := fun q i => by
    induction i with
    | zero => rfl
    | succ i ih =>
      have e : pageTo N u u q (i + 1) = pageTo N u u q i ++ (if takeB N u u (q * 8 + i) then [((q * 8 + i : Nat) : Int)] else []) := rfl
      have ht : takeB N u u (q * 8 + i) = false := by
        unfold takeB
        cases u ((q * 8 + i : Nat) : Int) <;> simp
      rw [e, ih, ht]
      rfl
  unfold pageL
  split
  · rfl
  · exact h _ 8
theorem tk_count (N : Nat) (f : Nat → Bool) (m : Int → Bool) (hm : ∀ b, m b = false) (b : Nat) (hb : b ≤ N) : (tk N (bitI N f) m b).length = countN f b := by
  induction b with
  | zero => rfl
  | succ b ih =>
    have ht : takeB N (bitI N f) m b = f b := by
      unfold takeB bitI
      rw [hm, decide_eq_true (by omega), decide_eq_true (by omega)]
      simp
    rw [tk_succ, ht, List.length_append, ih (by omega)]
    show _ = countN f b + (if f b then 1 else 0)
    cases f b <;> rfl

theorem weak_pre (ws : List Int) (m : Int → Bool) (b d : Nat) : ∃ r, weakTo ws m (b + d) = weakTo ws m b ++ r := by
  induction d with
  | zero => exact ⟨[], by simp⟩
  | succ d ih =>
    obtain ⟨r, hr⟩ := ih
    have e : weakTo ws m (b + d + 1) = weakTo ws m (b + d) ++ (if decide (0 ≤ ws.getD (b + d) 0) && !m (ws.getD (b + d) 0) then [((b + d : Nat) : Int)] else []) := rfl
    exact ⟨r ++ (if decide (0 ≤ ws.getD (b + d) 0) && !m (ws.getD (b + d) 0) then [((b + d : Nat) : Int)] else []), by rw [show b + (d + 1) = (b + d) + 1 from by omega, e, hr, List.append_assoc]⟩
theorem weak_at (ws : List Int) (m : Int → Bool) (i : Nat) (hi : i < ws.length) (h : (decide (0 ≤ ws.getD i 0) && !m (ws.getD i 0)) = true) : (weakTo ws m i).length < (weakL ws m).length ∧ (weakL ws m).getD (weakTo ws m i).length 0 = i := by
  obtain ⟨r, hr⟩ := weak_pre ws m (i + 1) (ws.length - (i + 1))
  have e : weakTo ws m (i + 1) = weakTo ws m i ++ (if decide (0 ≤ ws.getD i 0) && !m (ws.getD i 0) then [(i : Int)] else []) := rfl
  rw [show i + 1 + (ws.length - (i + 1)) = ws.length from by omega, e, h, if_pos rfl] at hr
  have hr : weakL ws m = _ := hr
  rw [hr]
  constructor
  · simp
  · simp [List.getD]

theorem RowAt.up {w wr : World} {xs : List Int} {v : Value} (h : RowAt w wr xs v) : Upd (fun _ => False) w wr := by
  obtain ⟨a, c, h1, h2, h3, h4⟩ := h
  exact h3
theorem RowAt.app {w w2 w4 : World} {xs ys : List Int} {v : Value} {a' : Option Addr} {c' : Nat} (h : RowAt w w2 xs v)
    (ho : w4.ownsRow w.heap.size 3 1 (.slice a' (xs.length + ys.length) c') (xs.length + ys.length) (ints xs ++ ys.map (Value.int .i64))) (hg : w2.grownBy w4 v.ownBlock) : RowAt w w4 (xs ++ ys) (.slice a' (xs.length + ys.length) c') := by
  obtain ⟨a, c, rfl, k2, k3, k4⟩ := h
  have u4 : Upd (fun _ => False) w w4 := k3.grown hg (fun j e hj => absurd ((k2.lt j e).1) (by omega))
  refine ⟨a', c', by rw [List.length_append], ?_, u4, u4.size⟩
  have : ints (xs ++ ys) = ints xs ++ ys.map (Value.int .i64) := by simp [ints]
  rw [this, List.length_append]
  exact ho
end Go.Proofs.Ythaicpjgmplgcaa
