/- Plain laws of kinds: a list of fields' kinds. -/
import Derived.Test.YthaicpjgmplgcaaBits
namespace Go.Proofs.Ythaicpjgmplgcaa

def fw (x : Int) : Nat := if x = 1 ∨ x = 3 then 1 else if x = 2 then 2 else 0
def sumW : List Int → Nat
  | [] => 0
  | x :: r => fw x + sumW r
def okW (f : List Int) : Bool := f.all fun x => decide (fw x ≠ 0)
def kW (f : List Int) : Nat := if f.length = 0 ∨ 15 < f.length ∨ okW f = false then 0 else 1 + sumW f
def MayK (f : List Int) : Bool := decide (0 < kW f ∧ kW f ≤ 16)

theorem fw_le (x : Int) : fw x ≤ 2 := by
  unfold fw
  split
  · omega
  · split <;> omega
theorem sumW_le (f : List Int) : sumW f ≤ 2 * f.length := by
  induction f with
  | nil => simp [sumW]
  | cons x r ih => simp only [sumW, List.length_cons]; have := fw_le x; omega
theorem sumW_append (f g : List Int) : sumW (f ++ g) = sumW f + sumW g := by
  induction f with
  | nil => simp [sumW]
  | cons x r ih => simp only [List.cons_append, sumW, ih]; omega
theorem sumW_take_le (f : List Int) (k : Nat) : sumW (f.take k) ≤ 2 * k := by
  have := sumW_le (f.take k)
  have h : (f.take k).length ≤ k := by simp; omega
  omega
theorem sumW_snoc (f : List Int) (k : Nat) (h : k < f.length) : sumW (f.take (k + 1)) = sumW (f.take k) + fw (f.getD k 0) := by
  rw [List.take_succ_eq_append_getElem h, sumW_append]
  simp [sumW, h]
theorem okW_snoc (f : List Int) (k : Nat) (h : k < f.length) : okW (f.take (k + 1)) = (okW (f.take k) && decide (fw (f.getD k 0) ≠ 0)) := by
  unfold okW
  rw [List.take_succ_eq_append_getElem h, List.all_append]
  simp [h]
theorem okW_take (f : List Int) (k : Nat) (h : okW f = true) : okW (f.take k) = true := by
  unfold okW at *
  rw [List.all_eq_true] at *
  exact fun x hx => h x (List.mem_of_mem_take hx)
theorem okW_get (f : List Int) (k : Nat) (hk : k < f.length) (h : okW f = true) : fw (f.getD k 0) ≠ 0 := by
  unfold okW at h
  rw [List.all_eq_true] at h
  have := h (f.getD k 0) (by simp [hk])
  simpa using this
theorem okW_fail (f : List Int) (k : Nat) (hk : k < f.length) (h : fw (f.getD k 0) = 0) : okW f = false := by
  cases e : okW f with
  | false => rfl
  | true => exact absurd h (okW_get f k hk e)
theorem kW_pos (f : List Int) : 0 < kW f ↔ (f.length ≠ 0 ∧ f.length ≤ 15 ∧ okW f = true) := by
  unfold kW
  split
  · rename_i h
    simp only [Nat.lt_irrefl, false_iff]
    rintro ⟨h1, h2, h3⟩
    rcases h with h | h | h
    · exact h1 h
    · omega
    · rw [h] at h3; cases h3
  · rename_i h
    simp only [not_or] at h
    refine ⟨fun _ => ⟨h.1, by omega, by simpa using h.2.2⟩, fun _ => by omega⟩
theorem kW_eq (f : List Int) (h : 0 < kW f) : kW f = 1 + sumW f := by
  unfold kW at *
  split
  · rename_i c; rw [if_pos c] at h; omega
  · rfl
theorem kW_le (f : List Int) : kW f ≤ 31 := by
  by_cases h : 0 < kW f
  · rw [kW_eq f h]
    have := sumW_le f
    have := (kW_pos f).1 h
    omega
  · omega
theorem fw_cases (x : Int) (h : fw x ≠ 0) : x = 1 ∨ x = 2 ∨ x = 3 := by
  unfold fw at h
  split at h
  · omega
  · split at h
    · omega
    · omega

/-- Where a field stands. -/
def offK (f : List Int) (i : Int) : Int := if kW f = 0 ∨ i < 0 ∨ (f.length : Int) ≤ i then -1 else 1 + sumW (f.take i.toNat)
/-- The places of references. -/
def refsTo (f : List Int) : Nat → List Int
  | 0 => []
  | k + 1 => refsTo f k ++ (if f.getD k 0 = 3 then [(k : Int)] else [])
def refsK (f : List Int) : List Int := refsTo f f.length
theorem refsTo_len (f : List Int) (k : Nat) : (refsTo f k).length ≤ k := by
  induction k with
  | zero => simp [refsTo]
  | succ k ih => simp only [refsTo, List.length_append]; split <;> simp <;> omega

/-- A kind as a word. -/
def wordTo (f : List Int) : Nat → Nat
  | 0 => setN 0 0 4 f.length
  | k + 1 => setN (wordTo f k) (4 + 2 * k) 2 (f.getD k 0).toNat
def wordK (f : List Int) : Nat := if MayK f = true then wordTo f f.length else 0
theorem wordTo_lt (f : List Int) (k : Nat) (hk : k ≤ 15) : wordTo f k < 2 ^ 64 := by
  induction k with
  | zero => exact set_lt _ _ _ _ (by decide) (by decide)
  | succ k ih => exact set_lt _ _ _ _ (ih (by omega)) (by omega)
theorem mayK_facts (f : List Int) (h : MayK f = true) : f.length ≠ 0 ∧ f.length ≤ 15 ∧ okW f = true ∧ 0 < kW f ∧ kW f ≤ 16 := by
  unfold MayK at h
  simp at h
  obtain ⟨h1, h2⟩ := h
  have := (kW_pos f).1 h1
  exact ⟨this.1, this.2.1, this.2.2, h1, h2⟩
theorem wordK_lt (f : List Int) : wordK f < 2 ^ 64 := by
  unfold wordK
  split
  · rename_i h
    exact wordTo_lt f _ (mayK_facts f h).2.1
  · decide

theorem tb_wordTo (f : List Int) (k i : Nat) (hk : k ≤ 15) : (wordTo f k).testBit i = if i < 4 then f.length.testBit i else if i < 4 + 2 * k then ((f.getD ((i - 4) / 2) 0).toNat).testBit ((i - 4) % 2) else false := by
  induction k with
  | zero =>
    simp only [wordTo]
    rw [tb_set _ _ _ _ _ (by decide), Nat.zero_testBit]
    by_cases h : i < 4
    · rw [if_pos (by omega), if_pos h]; rfl
    · rw [if_neg (by omega), if_neg h, if_neg (by omega)]
  | succ k ih =>
    simp only [wordTo]
    rw [tb_set _ _ _ _ _ (by omega), ih (by omega)]
    by_cases h : i < 4
    · rw [if_neg (by omega), if_pos h, if_pos h]
    · rw [if_neg h, if_neg h]
      by_cases h2 : i < 4 + 2 * k
      · rw [if_neg (by omega), if_pos h2, if_pos (by omega)]
      · rw [if_neg h2]
        by_cases h3 : i < 4 + 2 * (k + 1)
        · rw [if_pos (by omega), if_pos h3, show (i - 4) / 2 = k from by omega, show (i - 4) % 2 = i - (4 + 2 * k) from by omega]
        · rw [if_neg (by omega), if_neg h3]
theorem get_word_len (f : List Int) (h : f.length ≤ 15) : getN (wordTo f f.length) 0 4 = f.length := by
  apply Nat.eq_of_testBit_eq
  intro i
  rw [tb_get, Nat.zero_add, tb_wordTo f _ _ h]
  by_cases hi : i < 4
  · rw [if_pos hi]; simp [hi]
  · rw [Nat.testBit_lt_two_pow (Nat.lt_of_lt_of_le (by omega : f.length < 2 ^ 4) (Nat.pow_le_pow_right (n := 2) (by decide) (by omega : 4 ≤ i)))]
    simp [hi]
theorem get_word_field (f : List Int) (h : f.length ≤ 15) (hok : okW f = true) (k : Nat) (hk : k < f.length) : (getN (wordTo f f.length) (4 + 2 * k) 2 : Int) = f.getD k 0 := by
  have hc := fw_cases _ (okW_get f k hk hok)
  have : getN (wordTo f f.length) (4 + 2 * k) 2 = (f.getD k 0).toNat := by
    apply Nat.eq_of_testBit_eq
    intro i
    rw [tb_get, tb_wordTo f _ _ h]
    by_cases hi : i < 2
    · rw [if_neg (by omega), if_pos (by omega), show (4 + 2 * k + i - 4) / 2 = k from by omega, show (4 + 2 * k + i - 4) % 2 = i from by omega]
      simp [hi]
    · rw [Nat.testBit_lt_two_pow (Nat.lt_of_lt_of_le (by omega : (f.getD k 0).toNat < 2 ^ 2) (Nat.pow_le_pow_right (n := 2) (by decide) (by omega : 2 ≤ i)))]
      simp [hi]
  rw [this]
  omega

/-- The fields that a word tells. -/
def fieldsTo (w : Nat) : Nat → List Int
  | 0 => []
  | k + 1 => fieldsTo w k ++ [(getN w (4 + 2 * k) 2 : Int)]
def fieldsK (w : Nat) : List Int := fieldsTo w (getN w 0 4)
theorem fieldsTo_len (w k : Nat) : (fieldsTo w k).length = k := by
  induction k with
  | zero => rfl
  | succ k ih => simp [fieldsTo, ih]
theorem fieldsTo_get (w k i : Nat) (h : i < k) : (fieldsTo w k).getD i 0 = (getN w (4 + 2 * i) 2 : Int) := by
  induction k with
  | zero => omega
  | succ k ih =>
    simp only [fieldsTo]
    by_cases e : i = k
    · subst e
      rw [List.getD_eq_getElem?_getD, List.getElem?_append_right (by rw [fieldsTo_len]; omega), fieldsTo_len]
      simp
    · rw [List.getD_eq_getElem?_getD, List.getElem?_append_left (by rw [fieldsTo_len]; omega), ← List.getD_eq_getElem?_getD]
      exact ih (by omega)
/-- A kind is its word. -/
theorem fields_word (f : List Int) (h : MayK f = true) : fieldsK (wordK f) = f := by
  obtain ⟨h1, h2, h3, h4, h5⟩ := mayK_facts f h
  unfold wordK fieldsK
  rw [if_pos h, get_word_len f h2]
  apply List.ext_getElem
  · rw [fieldsTo_len]
  · intro i g1 g2
    have := fieldsTo_get (wordTo f f.length) f.length i g2
    rw [get_word_field f h2 h3 i g2] at this
    rw [List.getD_eq_getElem?_getD, List.getElem?_eq_getElem g1, List.getD_eq_getElem?_getD, List.getElem?_eq_getElem g2] at this
    simpa using this
/-- What Parse tells. -/
def parseK (w : Nat) : Option (List Int) := if MayK (fieldsK w) = true ∧ wordK (fieldsK w) = w then some (fieldsK w) else none
theorem parse_word (f : List Int) (h : MayK f = true) : parseK (wordK f) = some f := by
  unfold parseK
  rw [fields_word f h, if_pos ⟨h, rfl⟩]

/-! ### The reference's spelling -/
def rwordTo (f : List Int) : Nat → Nat
  | 0 => f.length
  | k + 1 => rwordTo f k ||| (f.getD k 0).toNat * 2 ^ (4 + 2 * k)
theorem rwordTo_eq (f : List Int) (h : f.length ≤ 15) (hok : okW f = true) (k : Nat) (hk : k ≤ f.length) : rwordTo f k = wordTo f k := by
  induction k with
  | zero =>
    simp only [rwordTo, wordTo]
    apply Nat.eq_of_testBit_eq
    intro i
    rw [tb_set _ _ _ _ _ (by decide), Nat.zero_testBit]
    by_cases hi : i < 4
    · rw [if_pos (by omega)]; rfl
    · rw [if_neg (by omega), Nat.testBit_lt_two_pow (Nat.lt_of_lt_of_le (by omega : f.length < 2 ^ 4) (Nat.pow_le_pow_right (n := 2) (by decide) (by omega : 4 ≤ i)))]
  | succ k ih =>
    have hc := fw_cases _ (okW_get f k (by omega) hok)
    have hp := ih (by omega)
    show rwordTo f k ||| (f.getD k 0).toNat * 2 ^ (4 + 2 * k) = setN (wordTo f k) (4 + 2 * k) 2 (f.getD k 0).toNat
    rw [hp]
    apply Nat.eq_of_testBit_eq
    intro i
    rw [tb_set _ _ _ _ _ (by omega), Nat.testBit_or, Nat.testBit_mul_two_pow]
    by_cases h1 : 4 + 2 * k ≤ i ∧ i < 4 + 2 * k + 2
    · rw [if_pos h1, tb_wordTo f k i (by omega), if_neg (by omega), if_neg (by omega)]
      simp [h1.1]
    · rw [if_neg h1]
      by_cases h2 : 4 + 2 * k ≤ i
      · rw [Nat.testBit_lt_two_pow (x := (f.getD k 0).toNat) (Nat.lt_of_lt_of_le (by omega : (f.getD k 0).toNat < 2 ^ 2) (Nat.pow_le_pow_right (n := 2) (by decide) (by omega : 2 ≤ i - (4 + 2 * k))))]
        simp
      · simp [h2]
end Go.Proofs.Ythaicpjgmplgcaa
