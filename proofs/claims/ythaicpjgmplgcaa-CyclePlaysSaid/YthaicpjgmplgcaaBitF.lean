/- Bits as functions, packed into words: plain. -/
import Derived.Test.YthaicpjgmplgcaaBits
namespace Go.Proofs.Ythaicpjgmplgcaa
set_option linter.unusedVariables false

def bitsN (g : Nat → Bool) : Nat → Nat
  | 0 => 0
  | k + 1 => bitsN g k ||| (if g k then 2 ^ k else 0)

theorem bitsN_lt (g : Nat → Bool) (k : Nat) : bitsN g k < 2 ^ k := by
  induction k with
  | zero => exact Nat.one_pos
  | succ k ih =>
    refine Nat.or_lt_two_pow (Nat.lt_of_lt_of_le ih (Nat.pow_le_pow_right (by decide) (by omega))) ?_
    split
    · exact Nat.pow_lt_pow_right (by decide) (by omega)
    · exact Nat.two_pow_pos _
theorem tb_bitsN (g : Nat → Bool) (k i : Nat) : (bitsN g k).testBit i = (decide (i < k) && g i) := by
  induction k with
  | zero => simp [bitsN]
  | succ k ih =>
    unfold bitsN
    rw [Nat.testBit_or, ih]
    by_cases h : i = k
    · subst h
      cases hg : g i <;> simp [Nat.testBit_two_pow_self]
    · have h1 : (if g k = true then 2 ^ k else 0 : Nat).testBit i = false := by
        split
        · exact Nat.testBit_two_pow_of_ne (fun e => h e.symm)
        · exact Nat.zero_testBit i
      rw [h1, Bool.or_false]
      congr 1
      rw [decide_eq_decide]
      omega

/-- Word j of the bits f below n. -/
def wordN (n : Nat) (f : Nat → Bool) (j : Nat) : Nat := bitsN (fun i => decide (64 * j + i < n) && f (64 * j + i)) 64
def packN (n : Nat) (f : Nat → Bool) : List Nat := (List.range ((n + 63) / 64)).map (wordN n f)

theorem packN_length (n : Nat) (f : Nat → Bool) : (packN n f).length = (n + 63) / 64 := by simp [packN]
theorem wordN_lt (n : Nat) (f : Nat → Bool) (j : Nat) : wordN n f j < 2 ^ 64 := bitsN_lt _ 64
theorem packN_lt (n : Nat) (f : Nat → Bool) : ∀ x ∈ packN n f, x < 2 ^ 64 := by
  intro x hx
  obtain ⟨j, -, rfl⟩ := List.mem_map.1 hx
  exact wordN_lt _ _ _
theorem packN_get (n : Nat) (f : Nat → Bool) (j : Nat) (h : j < (n + 63) / 64) : (packN n f).getD j 0 = wordN n f j := by
  simp [packN, List.getD, h]
theorem packN_out (n : Nat) (f : Nat → Bool) (j : Nat) (h : (n + 63) / 64 ≤ j) : (packN n f).getD j 0 = 0 := by
  have : (n + 63) / 64 ≤ j := h
  simp [packN, List.getD, this]
theorem tb_wordN (n : Nat) (f : Nat → Bool) (j i : Nat) (hi : i < 64) : (wordN n f j).testBit i = (decide (64 * j + i < n) && f (64 * j + i)) := by
  unfold wordN
  rw [tb_bitsN]
  simp [hi]
theorem tb_packN (n : Nat) (f : Nat → Bool) (j i : Nat) (hi : i < 64) : ((packN n f).getD j 0).testBit i = (decide (64 * j + i < n) && f (64 * j + i)) := by
  by_cases h : j < (n + 63) / 64
  · rw [packN_get n f j h, tb_wordN n f j i hi]
  · rw [packN_out n f j (by omega), Nat.zero_testBit]
    have : ¬ 64 * j + i < n := by omega
    simp [this]
theorem wordN_ext {n : Nat} {f : Nat → Bool} {j x : Nat} (hx : x < 2 ^ 64) (h : ∀ i, i < 64 → x.testBit i = (decide (64 * j + i < n) && f (64 * j + i))) : x = wordN n f j :=
  eq_of_bits64 _ _ hx (wordN_lt _ _ _) (fun i hi => by rw [h i hi, tb_wordN _ _ _ _ hi])
theorem packN_ext {n : Nat} {f : Nat → Bool} {ws : List Nat} (hl : ws.length = (n + 63) / 64) (hlt : ∀ x ∈ ws, x < 2 ^ 64)
    (h : ∀ j, j < (n + 63) / 64 → ∀ i, i < 64 → (ws.getD j 0).testBit i = (decide (64 * j + i < n) && f (64 * j + i))) : ws = packN n f := by
  apply List.ext_getElem
  · rw [hl, packN_length]
  · intro j h1 h2
    have e1 : ws.getD j 0 = ws[j] := by simp [List.getD, h1]
    have hj : j < (n + 63) / 64 := by omega
    have e2 : (packN n f)[j] = wordN n f j := by simp [packN]
    rw [e2, ← e1]
    exact wordN_ext (hlt _ (by rw [e1]; exact List.getElem_mem _)) (h j hj)
theorem packN_congr {n : Nat} {f g : Nat → Bool} (h : ∀ i, i < n → f i = g i) : packN n f = packN n g := by
  refine packN_ext (packN_length n f) (packN_lt n f) (fun j hj i hi => ?_)
  rw [tb_packN _ _ _ _ hi]
  by_cases hn : 64 * j + i < n
  · rw [h _ hn]
  · simp [hn]
theorem packN_inj {n : Nat} {f g : Nat → Bool} (h : packN n f = packN n g) : ∀ i, i < n → f i = g i := by
  intro i hi
  have h1 := tb_packN n f (i / 64) (i % 64) (Nat.mod_lt _ (by decide))
  have h2 := tb_packN n g (i / 64) (i % 64) (Nat.mod_lt _ (by decide))
  rw [h, h2] at h1
  have e : 64 * (i / 64) + i % 64 = i := Nat.div_add_mod i 64
  rw [e] at h1
  simpa [hi] using h1.symm
theorem packN_false (n : Nat) : packN n (fun _ => false) = List.replicate ((n + 63) / 64) 0 := by
  symm
  refine packN_ext (by simp) (fun x hx => by rw [List.eq_of_mem_replicate hx]; decide) (fun j hj i hi => ?_)
  simp [List.getD, hj]

/-- f with bit i made b. -/
def setF (f : Nat → Bool) (i : Int) (b : Bool) : Nat → Bool := fun k => if (k : Int) = i then b else f k
theorem setF_same (f : Nat → Bool) (i : Int) (b : Bool) (h : 0 ≤ i → f i.toNat = b) : setF f i b = f := by
  funext k
  unfold setF
  split
  · rename_i e
    have := h (by omega)
    rw [← this]
    congr 1
    omega
  · rfl
theorem packN_set (n : Nat) (f : Nat → Bool) (k : Nat) (b : Bool) (h : k < n) (hb : f k ≠ b) :
    (packN n f).set (k / 64) ((packN n f).getD (k / 64) 0 ^^^ 2 ^ (k % 64)) = packN n (setF f k b) := by
  have hL : k / 64 < (n + 63) / 64 := by omega
  have hx : (packN n f).getD (k / 64) 0 < 2 ^ 64 := by rw [packN_get n f _ hL]; exact wordN_lt _ _ _
  have hr : 2 ^ (k % 64) < 2 ^ 64 := Nat.pow_lt_pow_right (by decide) (Nat.mod_lt _ (by decide))
  refine packN_ext (by rw [List.length_set, packN_length]) (fun x hx' => ?_) (fun j hj i hi => ?_)
  · rcases List.mem_or_eq_of_mem_set hx' with h1 | h1
    · exact packN_lt _ _ _ h1
    · rw [h1]; exact Nat.xor_lt_two_pow hx hr
  · have hj' : j < (packN n f).length := by rw [packN_length]; exact hj
    by_cases e : k / 64 = j
    · have : ((packN n f).set (k / 64) ((packN n f).getD (k / 64) 0 ^^^ 2 ^ (k % 64))).getD j 0 = (packN n f).getD (k / 64) 0 ^^^ 2 ^ (k % 64) := by
        subst e
        simp [List.getD, hj']
      rw [this, Nat.testBit_xor, tb_packN _ _ _ _ hi, e]
      unfold setF
      by_cases ei : k % 64 = i
      · have ek : 64 * j + i = k := by omega
        subst ei
        rw [ek, Nat.testBit_two_pow_self]
        simp only [h, decide_true, Bool.true_and]
        cases hfk : f k <;> cases b <;> simp_all
      · have ek : ¬ (((64 * j + i : Nat) : Int) = k) := by omega
        rw [Nat.testBit_two_pow_of_ne ei, Bool.xor_false, if_neg ek]
    · have : ((packN n f).set (k / 64) ((packN n f).getD (k / 64) 0 ^^^ 2 ^ (k % 64))).getD j 0 = (packN n f).getD j 0 := by
        simp [List.getD, e]
      rw [this, tb_packN _ _ _ _ hi]
      have ek : ¬ (((64 * j + i : Nat) : Int) = k) := by omega
      unfold setF
      rw [if_neg ek]

/-- How many of the first n. -/
def countN (f : Nat → Bool) : Nat → Nat
  | 0 => 0
  | n + 1 => countN f n + (if f n then 1 else 0)
theorem countN_le (f : Nat → Bool) (n : Nat) : countN f n ≤ n := by
  induction n with
  | zero => exact Nat.le_refl 0
  | succ n ih => unfold countN; split <;> omega
theorem countN_congr {f g : Nat → Bool} {n : Nat} (h : ∀ i, i < n → f i = g i) : countN f n = countN g n := by
  induction n with
  | zero => rfl
  | succ n ih => unfold countN; rw [ih (fun i hi => h i (by omega)), h n (by omega)]
theorem countN_add (f : Nat → Bool) (a b : Nat) : countN f (a + b) = countN f a + countN (fun i => f (a + i)) b := by
  induction b with
  | zero => rfl
  | succ b ih =>
    have h1 : countN f (a + (b + 1)) = countN f (a + b) + (if f (a + b) then 1 else 0) := rfl
    have h2 : countN (fun i => f (a + i)) (b + 1) = countN (fun i => f (a + i)) b + (if f (a + b) then 1 else 0) := rfl
    rw [h1, h2, ih]; omega
theorem countN_cut (f : Nat → Bool) (n m : Nat) (h : n ≤ m) : countN (fun i => decide (i < n) && f i) m = countN f n := by
  obtain ⟨d, rfl⟩ := Nat.exists_eq_add_of_le h
  rw [countN_add]
  have h1 : countN (fun i => decide (i < n) && f i) n = countN f n := countN_congr (fun i hi => by simp [hi])
  have h2 : countN (fun i => decide (n + i < n) && f (n + i)) d = 0 := by
    rw [countN_congr (g := fun _ => false) (fun i _ => by rw [decide_eq_false (by omega), Bool.false_and])]
    clear h1 h
    induction d with
    | zero => rfl
    | succ d ih => unfold countN; rw [ih]; rfl
  rw [h1, h2]
  rfl
theorem onesTo_bitsN (g : Nat → Bool) (k m : Nat) (h : k ≤ m) : onesTo (bitsN g m) k = countN g k := by
  induction k with
  | zero => rfl
  | succ k ih =>
    have h1 : onesTo (bitsN g m) (k + 1) = onesTo (bitsN g m) k + (if (bitsN g m).testBit k then 1 else 0) := rfl
    have h2 : countN g (k + 1) = countN g k + (if g k then 1 else 0) := rfl
    rw [h1, h2, ih (by omega), tb_bitsN]
    have : k < m := by omega
    simp [this]
/-- The ones of the first k words. -/
def onesW (ws : List Nat) : Nat := (ws.map onesN).sum
theorem onesW_snoc (ws : List Nat) (x : Nat) : onesW (ws ++ [x]) = onesW ws + onesN x := by simp [onesW]
theorem onesW_range (n : Nat) (f : Nat → Bool) (L : Nat) : onesW ((List.range L).map (wordN n f)) = countN (fun i => decide (i < n) && f i) (64 * L) := by
  induction L with
  | zero => rfl
  | succ L ih =>
    rw [List.range_succ, List.map_append, List.map_singleton, onesW_snoc, ih, Nat.mul_succ, countN_add]
    have : onesN (wordN n f L) = countN (fun i => decide (64 * L + i < n) && f (64 * L + i)) 64 := onesTo_bitsN _ 64 64 (Nat.le_refl _)
    rw [this]
theorem onesW_packN (n : Nat) (f : Nat → Bool) : onesW (packN n f) = countN f n := by
  unfold packN
  rw [onesW_range, countN_cut]
  omega
theorem onesW_le (ws : List Nat) : onesW ws ≤ 64 * ws.length := by
  induction ws with
  | nil => exact Nat.le_refl 0
  | cons x ws ih =>
    have := onesN_le x
    simp only [onesW, List.map_cons, List.sum_cons, List.length_cons] at *
    omega
theorem onesW_take (ws : List Nat) (k : Nat) (h : k < ws.length) : onesW (ws.take (k + 1)) = onesW (ws.take k) + onesN (ws.getD k 0) := by
  rw [List.take_succ_eq_append_getElem h, onesW_snoc]
  simp [List.getD, h]
theorem countN_setF (f : Nat → Bool) (k n : Nat) (b : Bool) (h : k < n) : countN (setF f k b) n + (if f k then 1 else 0) = countN f n + (if b then 1 else 0) := by
  obtain ⟨d, rfl⟩ : ∃ d, n = (k + 1) + d := ⟨n - (k + 1), by omega⟩
  rw [countN_add, countN_add f]
  have h1 : countN (fun i => setF f k b (k + 1 + i)) d = countN (fun i => f (k + 1 + i)) d := countN_congr (fun i _ => by
    unfold setF
    rw [if_neg (by omega)])
  have h2 : countN (setF f k b) k = countN f k := countN_congr (fun i hi => by
    unfold setF
    rw [if_neg (by omega)])
  have h3 : countN (setF f k b) (k + 1) = countN (setF f k b) k + (if setF f k b k then 1 else 0) := rfl
  have h4 : countN f (k + 1) = countN f k + (if f k then 1 else 0) := rfl
  have h5 : setF f k b k = b := by unfold setF; rw [if_pos rfl]
  rw [h1, h3, h4, h2, h5]
  omega
end Go.Proofs.Ythaicpjgmplgcaa
