/- Plain laws of headers: a word made of a kind, a size, an epoch and a check. -/
import Derived.Test.YtcnbcidbbeadcaaBits
namespace Go.Proofs.Ytcnbcidbbeadcaa

def lowH (k n e : Nat) : Nat := setN (setN (setN 0 0 4 k) 4 5 n) 9 32 e
def chkN (w : Nat) : Nat := onesN (getN w 0 56) + 1
def checkedN (w : Nat) : Nat := setN w 56 8 (chkN w)
def makeN (k n e : Nat) : Nat := checkedN (lowH k n e)
def IsHead (w : Nat) : Prop := 1 ≤ getN w 4 5 ∧ getN w 4 5 ≤ 16 ∧ getN w 41 15 = 0 ∧ checkedN w = w
instance (w : Nat) : Decidable (IsHead w) := by unfold IsHead; infer_instance

theorem lowH_lt (k n e : Nat) : lowH k n e < 2 ^ 64 := set_lt _ _ _ _ (set_lt _ _ _ _ (set_lt _ _ _ _ (by decide) (by decide)) (by decide)) (by decide)
theorem chkN_le (w : Nat) : chkN w ≤ 57 := by
  unfold chkN onesN
  have h : ∀ x : Nat, x < 2 ^ 56 → onesTo x 64 ≤ 56 := by
    intro x hx
    have h1 : ∀ d, onesTo x (56 + d) = onesTo x 56 := by
      intro d
      induction d with
      | zero => rfl
      | succ d ih =>
        show onesTo x (56 + d) + (if x.testBit (56 + d) then 1 else 0) = _
        rw [ih, Nat.testBit_lt_two_pow (Nat.lt_of_lt_of_le hx (Nat.pow_le_pow_right (by decide) (by omega)))]
        simp
    have : onesTo x 64 = onesTo x 56 := h1 8
    have h2 := onesTo_le x 56
    omega
  have := h _ (get_lt w 0 56)
  omega
theorem checkedN_lt (w : Nat) (hw : w < 2 ^ 64) : checkedN w < 2 ^ 64 := set_lt _ _ _ _ hw (by decide)
theorem makeN_lt (k n e : Nat) : makeN k n e < 2 ^ 64 := checkedN_lt _ (lowH_lt k n e)

theorem tb_lowH (k n e i : Nat) : (lowH k n e).testBit i = if i < 4 then k.testBit i else if i < 9 then n.testBit (i - 4) else if i < 41 then e.testBit (i - 9) else false := by
  unfold lowH
  rw [tb_set _ _ _ _ _ (by decide), tb_set _ _ _ _ _ (by decide), tb_set _ _ _ _ _ (by decide), Nat.zero_testBit]
  by_cases h1 : i < 4
  · rw [if_neg (by omega), if_neg (by omega), if_pos (by omega), if_pos h1]
    rfl
  · rw [if_neg h1]
    by_cases h2 : i < 9
    · rw [if_neg (by omega), if_pos (by omega), if_pos h2]
    · rw [if_neg h2]
      by_cases h3 : i < 41
      · rw [if_pos (by omega), if_pos h3]
      · rw [if_neg (by omega), if_neg (by omega), if_neg (by omega), if_neg h3]
theorem tb_checked (w i : Nat) : (checkedN w).testBit i = if 56 ≤ i ∧ i < 64 then (chkN w).testBit (i - 56) else w.testBit i := by
  unfold checkedN
  rw [tb_set _ _ _ _ _ (by decide)]
theorem get_congr (a b f n : Nat) (h : ∀ i, f ≤ i → i < f + n → a.testBit i = b.testBit i) : getN a f n = getN b f n := by
  apply Nat.eq_of_testBit_eq
  intro i
  rw [tb_get, tb_get]
  by_cases hi : i < n
  · rw [h (f + i) (by omega) (by omega)]
  · simp [hi]
theorem get_checked_low (w f n : Nat) (h : f + n ≤ 56) : getN (checkedN w) f n = getN w f n :=
  get_congr _ _ _ _ (fun i h1 h2 => by rw [tb_checked, if_neg (by omega)])
theorem chk_checked (w : Nat) : chkN (checkedN w) = chkN w := by
  unfold chkN
  rw [get_checked_low w 0 56 (by decide)]
theorem checked_idem (w : Nat) : checkedN (checkedN w) = checkedN w := by
  apply Nat.eq_of_testBit_eq
  intro i
  rw [tb_checked, chk_checked, tb_checked]
  by_cases h : 56 ≤ i ∧ i < 64
  · rw [if_pos h, if_pos h]
  · rw [if_neg h, if_neg h]
theorem get_checked_high (w : Nat) : getN (checkedN w) 56 8 = chkN w := by
  unfold checkedN
  rw [get_set_same _ _ _ _ (by decide)]
  exact Nat.mod_eq_of_lt (Nat.lt_of_le_of_lt (chkN_le w) (by decide))

theorem get_lowH_kind (k n e : Nat) (hk : k < 16) : getN (lowH k n e) 0 4 = k := by
  apply Nat.eq_of_testBit_eq
  intro i
  rw [tb_get, tb_lowH, Nat.zero_add]
  by_cases h : i < 4
  · rw [if_pos h]; simp [h]
  · rw [Nat.testBit_lt_two_pow (Nat.lt_of_lt_of_le hk (Nat.pow_le_pow_right (n := 2) (by decide) (by omega : 4 ≤ i)))]
    simp [h]
theorem get_lowH_words (k n e : Nat) (hn : n < 32) : getN (lowH k n e) 4 5 = n := by
  apply Nat.eq_of_testBit_eq
  intro i
  rw [tb_get, tb_lowH]
  by_cases h : i < 5
  · rw [if_neg (by omega), if_pos (by omega), Nat.add_sub_cancel_left]; simp [h]
  · rw [Nat.testBit_lt_two_pow (Nat.lt_of_lt_of_le hn (Nat.pow_le_pow_right (n := 2) (by decide) (by omega : 5 ≤ i)))]
    simp [h]
theorem get_lowH_epoch (k n e : Nat) : getN (lowH k n e) 9 32 = e % 2 ^ 32 := by
  apply Nat.eq_of_testBit_eq
  intro i
  rw [tb_get, tb_lowH, Nat.testBit_mod_two_pow]
  by_cases h : i < 32
  · rw [if_neg (by omega), if_neg (by omega), if_pos (by omega), Nat.add_sub_cancel_left]
  · simp [h]
theorem get_lowH_zero (k n e : Nat) : getN (lowH k n e) 41 15 = 0 := by
  apply Nat.eq_of_testBit_eq
  intro i
  rw [tb_get, tb_lowH, if_neg (by omega), if_neg (by omega), if_neg (by omega), Nat.zero_testBit, Bool.and_false]

theorem make_kind (k n e : Nat) (hk : k < 16) : getN (makeN k n e) 0 4 = k := by
  unfold makeN
  rw [get_checked_low _ _ _ (by decide), get_lowH_kind k n e hk]
theorem make_words (k n e : Nat) (hn : n < 32) : getN (makeN k n e) 4 5 = n := by
  unfold makeN
  rw [get_checked_low _ _ _ (by decide), get_lowH_words k n e hn]
theorem make_epoch (k n e : Nat) : getN (makeN k n e) 9 32 = e % 2 ^ 32 := by
  unfold makeN
  rw [get_checked_low _ _ _ (by decide), get_lowH_epoch]
theorem make_zero (k n e : Nat) : getN (makeN k n e) 41 15 = 0 := by
  unfold makeN
  rw [get_checked_low _ _ _ (by decide), get_lowH_zero]
theorem make_isHead (k n e : Nat) (h1 : 1 ≤ n) (h2 : n ≤ 16) : IsHead (makeN k n e) := by
  unfold IsHead
  rw [make_words k n e (by omega), make_zero]
  exact ⟨h1, h2, rfl, checked_idem _⟩

/-- A header is made of what is read of it. -/
theorem make_of_parse (w : Nat) (hw : w < 2 ^ 64) (h : IsHead w) : makeN (getN w 0 4) (getN w 4 5) (getN w 9 32) = w := by
  obtain ⟨h1, h2, h3, h4⟩ := h
  have hb : ∀ i, i < 56 → (lowH (getN w 0 4) (getN w 4 5) (getN w 9 32)).testBit i = w.testBit i := by
    intro i hi
    rw [tb_lowH, tb_get, tb_get, tb_get]
    by_cases c1 : i < 4
    · rw [if_pos c1, Nat.zero_add]; simp [c1]
    · rw [if_neg c1]
      by_cases c2 : i < 9
      · rw [if_pos c2, show 4 + (i - 4) = i from by omega, show decide (i - 4 < 5) = true from by simp; omega, Bool.true_and]
      · rw [if_neg c2]
        by_cases c3 : i < 41
        · rw [if_pos c3, show 9 + (i - 9) = i from by omega, show decide (i - 9 < 32) = true from by simp; omega, Bool.true_and]
        · rw [if_neg c3]
          have := congrArg (fun x => x.testBit (i - 41)) h3
          simp only [tb_get, Nat.zero_testBit, show 41 + (i - 41) = i from by omega, show decide (i - 41 < 15) = true from by simp; omega, Bool.true_and] at this
          exact this.symm
  have hc : chkN (lowH (getN w 0 4) (getN w 4 5) (getN w 9 32)) = chkN w := by
    unfold chkN
    rw [get_congr _ w 0 56 (fun i _ hi => hb i (by omega))]
  conv => rhs; rw [← h4]
  apply Nat.eq_of_testBit_eq
  intro i
  unfold makeN
  rw [tb_checked, tb_checked, hc]
  by_cases c : 56 ≤ i ∧ i < 64
  · rw [if_pos c, if_pos c]
  · rw [if_neg c, if_neg c]
    by_cases c2 : i < 56
    · exact hb i c2
    · rw [tb_high _ i (lowH_lt _ _ _) (by omega), tb_high _ i hw (by omega)]

theorem onesN_flip (a b j : Nat) (hj : j < 64) (h : ∀ i, a.testBit i = (b.testBit i ^^ decide (i = j))) : onesN a ≠ onesN b := by
  cases hb : b.testBit j with
  | true =>
    have := onesTo_drop b a j hb (fun i => by
      rw [h i]
      by_cases e : i = j
      · subst e; simp [hb]
      · simp [e]) 64
    rw [if_pos hj] at this
    unfold onesN
    omega
  | false =>
    have ha : a.testBit j = true := by rw [h j, hb]; simp
    have := onesTo_drop a b j ha (fun i => by
      rw [h i]
      by_cases e : i = j
      · subst e; simp [hb]
      · simp [e]) 64
    rw [if_pos hj] at this
    unfold onesN
    omega

/-- With one bit turned the check fails. -/
theorem flip_fails (w b : Nat) (h : checkedN w = w) (hb : b < 64) : checkedN (w ^^^ 2 ^ b) ≠ w ^^^ 2 ^ b := by
  intro h'
  have t : ∀ i, (w ^^^ 2 ^ b).testBit i = (w.testBit i ^^ decide (i = b)) := by
    intro i
    rw [Nat.testBit_xor, Nat.testBit_two_pow]
    congr 1
    rw [decide_eq_decide]
    omega
  have e1 := get_checked_high w
  have e2 := get_checked_high (w ^^^ 2 ^ b)
  rw [h] at e1
  rw [h'] at e2
  by_cases hc : b < 56
  · have e3 : getN (w ^^^ 2 ^ b) 56 8 = getN w 56 8 := get_congr _ _ _ _ (fun i h1 _ => by
      rw [t i, show decide (i = b) = false from by simp; omega, Bool.xor_false])
    rw [e1, e2] at e3
    have e4 : onesN (getN (w ^^^ 2 ^ b) 0 56) ≠ onesN (getN w 0 56) := onesN_flip _ _ b hb (fun i => by
      rw [tb_get, tb_get, Nat.zero_add, t i]
      by_cases hi : i < 56
      · simp [hi]
      · simp [hi]
        omega)
    unfold chkN at e3
    omega
  · have e3 : getN (w ^^^ 2 ^ b) 0 56 = getN w 0 56 := get_congr _ _ _ _ (fun i _ h2 => by
      rw [t i, show decide (i = b) = false from by simp; omega, Bool.xor_false])
    have e4 : chkN (w ^^^ 2 ^ b) = chkN w := by unfold chkN; rw [e3]
    rw [← e1, ← e2] at e4
    have e5 := congrArg (fun x => x.testBit (b - 56)) e4
    simp only [tb_get, t, show 56 + (b - 56) = b from by omega, show decide (b - 56 < 8) = true from by simp; omega, Bool.true_and] at e5
    cases w.testBit b <;> simp at e5
theorem flip_noHead (w b : Nat) (h : IsHead w) (hb : b < 64) : ¬ IsHead (w ^^^ 2 ^ b) := fun h' => flip_fails w b h.2.2.2 hb h'.2.2.2
theorem zero_noHead : ¬ IsHead 0 := by decide
theorem check_high (w : Nat) (hw : w < 2 ^ 64) (h : IsHead w) : chkN w = w / 2 ^ 56 := by
  have e1 := get_checked_high w
  rw [h.2.2.2] at e1
  rw [← e1]
  unfold getN
  rw [Nat.mod_eq_of_lt]
  omega

/-- Two headers are one just where their parts are. -/
theorem make_eq (a b m n e f : Nat) (ha : a < 16) (hb : b < 16) (hm : m < 32) (hn : n < 32) : makeN a m e = makeN b n f ↔ a = b ∧ m = n ∧ e % 2 ^ 32 = f % 2 ^ 32 := by
  constructor
  · intro h
    have h1 := congrArg (fun x => getN x 0 4) h
    have h2 := congrArg (fun x => getN x 4 5) h
    have h3 := congrArg (fun x => getN x 9 32) h
    simp only [make_kind _ _ _ ha, make_kind _ _ _ hb, make_words _ _ _ hm, make_words _ _ _ hn, make_epoch] at h1 h2 h3
    exact ⟨h1, h2, h3⟩
  · rintro ⟨rfl, rfl, h⟩
    have key : lowH a m e = lowH a m f := by
     apply Nat.eq_of_testBit_eq
     intro i
     rw [tb_lowH, tb_lowH]
     by_cases c1 : i < 4
     · simp [c1]
     · by_cases c2 : i < 9
       · simp [c1, c2]
       · by_cases c3 : i < 41
         · rw [if_neg c1, if_neg c1, if_neg c2, if_neg c2, if_pos c3, if_pos c3]
           have := congrArg (fun x => x.testBit (i - 9)) h
           simp only [Nat.testBit_mod_two_pow, show decide (i - 9 < 32) = true from by simp; omega, Bool.true_and] at this
           exact this
         · simp [c1, c2, c3]
    unfold makeN
    rw [key]
theorem make_mod (k n e : Nat) (hk : k < 16) (hn : n < 32) : makeN k n (e % 2 ^ 32) = makeN k n e := (make_eq k k n n _ _ hk hk hn hn).2 ⟨rfl, rfl, Nat.mod_mod _ _⟩

/-! ### The reference's spelling -/
def refLow (k n e : Nat) : Nat := k ||| n * 2 ^ 4 ||| (e &&& (2 ^ 32 - 1)) * 2 ^ 9
def refMake (k n e : Nat) : Nat := refLow k n e ||| (onesN (refLow k n e &&& (2 ^ 56 - 1)) + 1) * 2 ^ 56
theorem refLow_eq (k n e : Nat) (hk : k < 16) (hn : n < 32) : refLow k n e = lowH k n e := by
  apply Nat.eq_of_testBit_eq
  intro i
  unfold refLow
  rw [tb_lowH, Nat.testBit_or, Nat.testBit_or, Nat.testBit_mul_two_pow, Nat.testBit_mul_two_pow, Nat.testBit_and, Nat.testBit_two_pow_sub_one]
  by_cases c1 : i < 4
  · rw [if_pos c1]
    have e1 : ¬ 4 ≤ i := by omega
    have e2 : ¬ 9 ≤ i := by omega
    simp [e1, e2]
  · have hk0 : k.testBit i = false := Nat.testBit_lt_two_pow (Nat.lt_of_lt_of_le hk (Nat.pow_le_pow_right (n := 2) (by decide) (by omega : 4 ≤ i)))
    rw [if_neg c1, hk0]
    by_cases c2 : i < 9
    · rw [if_pos c2]
      have e1 : 4 ≤ i := by omega
      have e2 : ¬ 9 ≤ i := by omega
      simp [e1, e2]
    · have hn0 : n.testBit (i - 4) = false := Nat.testBit_lt_two_pow (Nat.lt_of_lt_of_le hn (Nat.pow_le_pow_right (n := 2) (by decide) (by omega : 5 ≤ i - 4)))
      rw [if_neg c2, hn0]
      by_cases c3 : i < 41
      · rw [if_pos c3]
        have e1 : i - 9 < 32 := by omega
        have e2 : 9 ≤ i := by omega
        simp [e1, e2]
      · rw [if_neg c3]
        have e1 : ¬ i - 9 < 32 := by omega
        simp [e1]
theorem and_low56 (w : Nat) : w &&& (2 ^ 56 - 1) = getN w 0 56 := by
  rw [Nat.and_two_pow_sub_one_eq_mod]
  unfold getN
  rw [Nat.pow_zero, Nat.div_one]
theorem refMake_eq (k n e : Nat) (hk : k < 16) (hn : n < 32) : refMake k n e = makeN k n e := by
  unfold refMake makeN
  rw [refLow_eq k n e hk hn, and_low56]
  apply Nat.eq_of_testBit_eq
  intro i
  rw [tb_checked, Nat.testBit_or, Nat.testBit_mul_two_pow]
  show (_ || (_ && (chkN (lowH k n e)).testBit (i - 56))) = _
  by_cases c : 56 ≤ i ∧ i < 64
  · rw [if_pos c, tb_lowH, if_neg (by omega), if_neg (by omega), if_neg (by omega)]
    simp [c.1]
  · rw [if_neg c]
    by_cases c2 : 56 ≤ i
    · have h0 : (chkN (lowH k n e)).testBit (i - 56) = false := Nat.testBit_lt_two_pow (Nat.lt_of_le_of_lt (chkN_le _) (Nat.lt_of_lt_of_le (by decide : 57 < 2 ^ 8) (Nat.pow_le_pow_right (by decide) (by omega))))
      simp [h0]
    · simp [c2]
theorem ref_fields (w : Nat) : (w &&& 15 = getN w 0 4) ∧ (w / 16 &&& 31 = getN w 4 5) ∧ (w / 512 &&& 4294967295 = getN w 9 32) := by
  refine ⟨?_, ?_, ?_⟩
  · rw [show 15 = 2 ^ 4 - 1 from rfl, Nat.and_two_pow_sub_one_eq_mod]; unfold getN; rw [Nat.pow_zero, Nat.div_one]
  · rw [show 31 = 2 ^ 5 - 1 from rfl, Nat.and_two_pow_sub_one_eq_mod, show 16 = 2 ^ 4 from rfl]; unfold getN; rfl
  · rw [show 4294967295 = 2 ^ 32 - 1 from rfl, Nat.and_two_pow_sub_one_eq_mod, show 512 = 2 ^ 9 from rfl]; unfold getN; rfl
/-- The reference's test says the same. -/
theorem ref_isHead (w : Nat) (hw : w < 2 ^ 64) (h1 : 1 ≤ getN w 4 5) (h2 : getN w 4 5 ≤ 16) : IsHead w ↔ refMake (getN w 0 4) (getN w 4 5) (getN w 9 32) = w := by
  rw [refMake_eq _ _ _ (get_lt w 0 4) (get_lt w 4 5)]
  constructor
  · exact make_of_parse w hw
  · intro h
    rw [← h]
    exact make_isHead _ _ _ h1 h2
end Go.Proofs.Ytcnbcidbbeadcaa
