/- A kind with a field more: plain laws. -/
import Derived.Test.YtgnmcldedifjaaaKindP
namespace Go.Proofs.Ytgnmcldedifjaaa
set_option linter.unusedVariables false

theorem fw_ok (m : Int) (h : m = 1 ∨ m = 2 ∨ m = 3) : fw m ≠ 0 := by
  rcases h with rfl | rfl | rfl <;> decide
theorem okW_append (f g : List Int) : okW (f ++ g) = (okW f && okW g) := by unfold okW; rw [List.all_append]
theorem sumW_one (m : Int) : sumW [m] = fw m := by simp [sumW]
theorem grow_may (f : List Int) (m : Int) (hf : f.length ≠ 0) (h : MayK (f ++ [m]) = true) : MayK f = true := by
  obtain ⟨h1, h2, h3, h4, h5⟩ := mayK_facts _ h
  rw [okW_append] at h3
  have h3' : okW f = true := by
    cases hq : okW f
    · rw [hq] at h3; simp at h3
    · rfl
  have hl : f.length ≤ 15 := by simp at h2; omega
  have hp := (kW_pos f).2 ⟨hf, hl, h3'⟩
  have e1 := kW_eq f hp
  have e2 := kW_eq _ h4
  rw [sumW_append] at e2
  unfold MayK
  simp
  omega
theorem grow_words (f : List Int) (m : Int) (h1 : MayK f = true) (h2 : MayK (f ++ [m]) = true) : kW (f ++ [m]) = kW f + fw m := by
  have e1 := kW_eq f (mayK_facts f h1).2.2.2.1
  have e2 := kW_eq _ (mayK_facts _ h2).2.2.2.1
  rw [sumW_append, sumW_one] at e2
  omega
theorem grow_off_last (f : List Int) (m : Int) (h1 : MayK f = true) (h2 : MayK (f ++ [m]) = true) : offK (f ++ [m]) (f.length : Int) = ((kW f : Nat) : Int) := by
  have e1 := kW_eq f (mayK_facts f h1).2.2.2.1
  have e2 := (mayK_facts _ h2).2.2.2.1
  unfold offK
  rw [if_neg (by simp; omega), e1]
  simp
theorem grow_off (f : List Int) (m : Int) (h1 : MayK f = true) (h2 : MayK (f ++ [m]) = true) (i : Nat) (hi : i < f.length) : offK (f ++ [m]) (i : Int) = offK f (i : Int) := by
  have e1 := (mayK_facts f h1).2.2.2.1
  have e2 := (mayK_facts _ h2).2.2.2.1
  unfold offK
  rw [if_neg (by simp; omega), if_neg (by simp; omega)]
  simp only [Int.toNat_natCast]
  rw [List.take_append_of_le_length (by omega)]
theorem grow_word (f : List Int) (m : Int) (h1 : MayK f = true) (h2 : MayK (f ++ [m]) = true) : wordK f ≠ wordK (f ++ [m]) := by
  intro e
  have := fields_word f h1
  rw [e, fields_word _ h2] at this
  have := congrArg List.length this
  simp at this
theorem refsTo_append (f g : List Int) (k : Nat) (hk : k ≤ f.length) : refsTo (f ++ g) k = refsTo f k := by
  induction k with
  | zero => rfl
  | succ k ih =>
    have h1 : refsTo (f ++ g) (k + 1) = refsTo (f ++ g) k ++ (if (f ++ g).getD k 0 = 3 then [(k : Int)] else []) := rfl
    have h2 : refsTo f (k + 1) = refsTo f k ++ (if f.getD k 0 = 3 then [(k : Int)] else []) := rfl
    rw [h1, h2, ih (by omega)]
    have : (f ++ g).getD k 0 = f.getD k 0 := by simp [List.getD, List.getElem?_append_left (show k < f.length by omega)]
    rw [this]
theorem grow_refs (f : List Int) (m : Int) : (refsK f).length ≤ (refsK (f ++ [m])).length := by
  unfold refsK
  have : (f ++ [m]).length = f.length + 1 := by simp
  rw [this]
  have h1 : refsTo (f ++ [m]) (f.length + 1) = refsTo (f ++ [m]) f.length ++ (if (f ++ [m]).getD f.length 0 = 3 then [(f.length : Int)] else []) := rfl
  rw [h1, refsTo_append f [m] _ (Nat.le_refl _), List.length_append]
  omega
end Go.Proofs.Ytgnmcldedifjaaa
