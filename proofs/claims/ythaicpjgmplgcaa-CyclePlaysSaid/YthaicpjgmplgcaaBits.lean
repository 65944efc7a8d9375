/- Plain laws on the bits of natural numbers below 2^64, and on the walk's spelling of Go's operations on uint64. -/
import Derived.Test.YthaicpjgmplgcaaLib
import Derived.Laws.BitsAllLaws
namespace Go.Proofs.Ythaicpjgmplgcaa

/-! ### The walk's spellings -/
theorem u64and (a b : Nat) (ha : a < 2 ^ 64) (hb : b < 2 ^ 64) : bits .and .u64 (a : Int) (b : Int) = ((a &&& b : Nat) : Int) := bits_and_u64_nat a b (by simpa using ha) (by simpa using hb)
theorem u64or (a b : Nat) (ha : a < 2 ^ 64) (hb : b < 2 ^ 64) : bits .or .u64 (a : Int) (b : Int) = ((a ||| b : Nat) : Int) := bits_or_u64_nat a b (by simpa using ha) (by simpa using hb)
theorem u64xor (a b : Nat) (ha : a < 2 ^ 64) (hb : b < 2 ^ 64) : bits .xor .u64 (a : Int) (b : Int) = ((a ^^^ b : Nat) : Int) := bits_xor_u64_nat a b (by simpa using ha) (by simpa using hb)
theorem u64andNot (a b : Nat) (ha : a < 2 ^ 64) (hb : b < 2 ^ 64) : bits .andNot .u64 (a : Int) (b : Int) = ((a ^^^ (a &&& b) : Nat) : Int) := by
  have h1 : (BitVec.ofInt 64 (a : Int)).toNat = a := by
    rw [BitVec.ofInt_natCast, BitVec.toNat_ofNat]; exact Nat.mod_eq_of_lt ha
  have h2 : (BitVec.ofInt 64 (b : Int)).toNat = b := by
    rw [BitVec.ofInt_natCast, BitVec.toNat_ofNat]; exact Nat.mod_eq_of_lt hb
  show IntKind.u64.wrap ((BitVec.ofInt 64 (a : Int) &&& ~~~ BitVec.ofInt 64 (b : Int)).toNat : Int) = _
  have e : BitVec.ofInt 64 (a : Int) &&& ~~~ BitVec.ofInt 64 (b : Int) = BitVec.ofInt 64 (a : Int) ^^^ (BitVec.ofInt 64 (a : Int) &&& BitVec.ofInt 64 (b : Int)) := by
    apply BitVec.eq_of_getElem_eq
    intro i hi
    simp only [BitVec.getElem_and, BitVec.getElem_not, BitVec.getElem_xor]
    cases (BitVec.ofInt 64 (a : Int))[i] <;> cases (BitVec.ofInt 64 (b : Int))[i] <;> rfl
  rw [e, BitVec.toNat_xor, BitVec.toNat_and, h1, h2, IntKind.wrap_u64]
  have hx : a ^^^ (a &&& b) < 2 ^ 64 := Nat.xor_lt_two_pow ha (Nat.and_lt_two_pow _ hb)
  omega
theorem u64wrap (a : Nat) : IntKind.u64.wrap (a : Int) = ((a % 2 ^ 64 : Nat) : Int) := by
  rw [IntKind.wrap_u64]
  omega
theorem u64wrap_id (a : Nat) (ha : a < 2 ^ 64) : IntKind.u64.wrap (a : Int) = (a : Int) := by
  rw [u64wrap, Nat.mod_eq_of_lt ha]

theorem bits_lo_u64' (n : Int) : 0 ≤ IntKind.u64.wrap n := by
  rw [IntKind.wrap_u64]
  omega

/-! ### Bits of numbers -/
def maskN (f n : Nat) : Nat := (2 ^ n - 1) * 2 ^ f
def getN (w f n : Nat) : Nat := w / 2 ^ f % 2 ^ n
def setN (w f n v : Nat) : Nat := (w ^^^ (w &&& maskN f n)) ||| (v * 2 ^ f % 2 ^ 64 &&& maskN f n)

theorem tb_mask (f n i : Nat) : (maskN f n).testBit i = decide (f ≤ i ∧ i < f + n) := by
  unfold maskN
  rw [Nat.testBit_mul_two_pow, Nat.testBit_two_pow_sub_one]
  rw [Bool.eq_iff_iff]
  simp
  omega
theorem tb_get (w f n i : Nat) : (getN w f n).testBit i = (decide (i < n) && w.testBit (f + i)) := by
  unfold getN
  rw [Nat.testBit_mod_two_pow, Nat.testBit_div_two_pow, Nat.add_comm i f]
theorem mask_lt (f n : Nat) (h : f + n ≤ 64) : maskN f n < 2 ^ 64 := by
  unfold maskN
  have h1 : 0 < 2 ^ n := Nat.two_pow_pos n
  have h2 : 0 < 2 ^ f := Nat.two_pow_pos f
  have h3 : 2 ^ n * 2 ^ f ≤ 2 ^ 64 := by rw [← Nat.pow_add]; exact Nat.pow_le_pow_right (by decide) (by omega)
  rw [Nat.sub_mul, Nat.one_mul]
  have : 2 ^ f ≤ 2 ^ n * 2 ^ f := Nat.le_mul_of_pos_left _ h1
  omega
theorem tb_set (w f n v i : Nat) (h : f + n ≤ 64) : (setN w f n v).testBit i = if f ≤ i ∧ i < f + n then v.testBit (i - f) else w.testBit i := by
  unfold setN
  rw [Nat.testBit_or, Nat.testBit_xor, Nat.testBit_and, Nat.testBit_and, tb_mask, Nat.testBit_mod_two_pow, Nat.testBit_mul_two_pow]
  by_cases hi : f ≤ i ∧ i < f + n
  · rw [if_pos hi]
    have h1 : f ≤ i := hi.1
    have h2 : i < 64 := by omega
    simp [hi, h2]
  · rw [if_neg hi]
    simp [hi]
theorem set_lt (w f n v : Nat) (hw : w < 2 ^ 64) (h : f + n ≤ 64) : setN w f n v < 2 ^ 64 := by
  unfold setN
  exact Nat.or_lt_two_pow (Nat.xor_lt_two_pow hw (Nat.and_lt_two_pow _ (mask_lt f n h))) (Nat.and_lt_two_pow _ (mask_lt f n h))
theorem get_lt (w f n : Nat) : getN w f n < 2 ^ n := Nat.mod_lt _ (Nat.two_pow_pos n)
theorem get_le (w f n : Nat) : getN w f n ≤ w := Nat.le_trans (Nat.mod_le _ _) (Nat.div_le_self _ _)
theorem tb_high (w i : Nat) (hw : w < 2 ^ 64) (h : 64 ≤ i) : w.testBit i = false := Nat.testBit_lt_two_pow (Nat.lt_of_lt_of_le hw (Nat.pow_le_pow_right (by decide) h))

/-- A field is told by the mask. -/
theorem get_mask (w f n : Nat) : (w &&& maskN f n) / 2 ^ f = getN w f n := by
  apply Nat.eq_of_testBit_eq
  intro i
  rw [tb_get, Nat.testBit_div_two_pow, Nat.testBit_and, tb_mask, Nat.add_comm i f]
  have e : decide (f ≤ f + i ∧ f + i < f + n) = decide (i < n) := by
    rw [Bool.eq_iff_iff]
    simp
  rw [e, Bool.and_comm]

theorem eq_of_bits64 (a b : Nat) (ha : a < 2 ^ 64) (hb : b < 2 ^ 64) (h : ∀ i, i < 64 → a.testBit i = b.testBit i) : a = b := by
  apply Nat.eq_of_testBit_eq
  intro i
  by_cases hi : i < 64
  · exact h i hi
  · rw [tb_high a i ha (by omega), tb_high b i hb (by omega)]

/-! ### How many bits, the lowest bit -/
def onesTo (w : Nat) : Nat → Nat
  | 0 => 0
  | k + 1 => onesTo w k + (if w.testBit k then 1 else 0)
def onesN (w : Nat) : Nat := onesTo w 64
def lowFrom (w : Nat) : Nat → Nat → Nat
  | 0, i => i
  | d + 1, i => if w.testBit i then i else lowFrom w d (i + 1)
def lowN (w : Nat) : Nat := lowFrom w 64 0

theorem onesTo_le (w k : Nat) : onesTo w k ≤ k := by
  induction k with
  | zero => simp [onesTo]
  | succ k ih => simp only [onesTo]; split <;> omega
theorem onesN_le (w : Nat) : onesN w ≤ 64 := onesTo_le w 64
theorem onesTo_zero (k : Nat) : onesTo 0 k = 0 := by
  induction k with
  | zero => rfl
  | succ k ih => simp [onesTo, ih]
theorem onesTo_congr (a b k : Nat) (h : ∀ i, i < k → a.testBit i = b.testBit i) : onesTo a k = onesTo b k := by
  induction k with
  | zero => rfl
  | succ k ih => simp only [onesTo]; rw [ih (fun i hi => h i (by omega)), h k (by omega)]

theorem lowFrom_spec (w d i : Nat) : i ≤ lowFrom w d i ∧ lowFrom w d i ≤ i + d ∧ (∀ j, i ≤ j → j < lowFrom w d i → w.testBit j = false) ∧ (lowFrom w d i < i + d → w.testBit (lowFrom w d i) = true) := by
  induction d generalizing i with
  | zero => simp [lowFrom]; omega
  | succ d ih =>
    simp only [lowFrom]
    split
    · rename_i h
      exact ⟨by omega, by omega, fun j h1 h2 => by omega, fun _ => h⟩
    · rename_i h
      obtain ⟨h1, h2, h3, h4⟩ := ih (i + 1)
      refine ⟨by omega, by omega, fun j hj hj2 => ?_, fun hlt => h4 (by omega)⟩
      by_cases e : j = i
      · subst e; simpa using h
      · exact h3 j (by omega) hj2
theorem lowN_spec (w : Nat) : lowN w ≤ 64 ∧ (∀ j, j < lowN w → w.testBit j = false) ∧ (lowN w < 64 → w.testBit (lowN w) = true) := by
  obtain ⟨h1, h2, h3, h4⟩ := lowFrom_spec w 64 0
  exact ⟨by simpa [lowN] using h2, fun j hj => h3 j (by omega) hj, fun h => h4 (by simpa [lowN] using h)⟩
theorem lowN_eq (w i : Nat) (hi : i ≤ 64) (hz : ∀ j, j < i → w.testBit j = false) (h : i < 64 → w.testBit i = true) : lowN w = i := by
  obtain ⟨h1, h2, h3⟩ := lowN_spec w
  rcases Nat.lt_trichotomy (lowN w) i with h4 | h4 | h4
  · have := hz _ h4
    rw [h3 (by omega)] at this
    cases this
  · exact h4
  · have := h2 _ h4
    rw [h (by omega)] at this
    cases this
theorem lowN_lt (w : Nat) (hw : w < 2 ^ 64) (h0 : w ≠ 0) : lowN w < 64 := by
  obtain ⟨h1, h2, h3⟩ := lowN_spec w
  rcases Nat.lt_or_ge (lowN w) 64 with h | h
  · exact h
  · exfalso
    apply h0
    exact eq_of_bits64 w 0 hw (by decide) (fun i hi => by rw [h2 i (by omega), Nat.zero_testBit])

/-- w & (w - 1): the lowest bit is gone. -/
theorem tb_pred (w i : Nat) (h0 : w ≠ 0) (hw : w < 2 ^ 64) : (w &&& (w - 1)).testBit i = (w.testBit i && decide (i ≠ lowN w)) := by
  have hk := lowN_lt w hw h0
  obtain ⟨h1, h2, h3⟩ := lowN_spec w
  have hb := h3 hk
  generalize lowN w = k at *
  -- w = 2^k * (2m + 1)
  have hdvd : w % 2 ^ k = 0 := by
    apply Nat.eq_of_testBit_eq
    intro j
    rw [Nat.testBit_mod_two_pow, Nat.zero_testBit]
    by_cases hj : j < k
    · simp [h2 j hj]
    · simp [hj]
  obtain ⟨q, hq⟩ : ∃ q, w = 2 ^ k * q := ⟨w / 2 ^ k, by have := Nat.div_add_mod w (2 ^ k); omega⟩
  have hqodd : q % 2 = 1 := by
    have : (w / 2 ^ k).testBit 0 = true := by rw [Nat.testBit_div_two_pow]; simpa using hb
    rw [hq, Nat.mul_div_cancel_left _ (Nat.two_pow_pos k), Nat.testBit_zero] at this
    simpa using this
  obtain ⟨m, hm⟩ : ∃ m, q = 2 * m + 1 := ⟨q / 2, by omega⟩
  have hp : 0 < 2 ^ k := Nat.two_pow_pos k
  have e1 : w - 1 = 2 ^ k * (2 * m) + (2 ^ k - 1) := by
    rw [hq, hm, Nat.mul_add, Nat.mul_one]
    omega
  have hlow : ∀ j, j < k → (w - 1).testBit j = true := by
    intro j hj
    have : ((w - 1) % 2 ^ k).testBit j = true := by
      rw [e1, Nat.mul_add_mod, Nat.mod_eq_of_lt (by omega), Nat.testBit_two_pow_sub_one]
      simpa using hj
    rw [Nat.testBit_mod_two_pow] at this
    simpa [hj] using this
  have hhigh : ∀ j, (w - 1).testBit (k + j) = (2 * m).testBit j := by
    intro j
    have : (w - 1) / 2 ^ k = 2 * m := by
      rw [e1, Nat.mul_add_div hp, Nat.div_eq_of_lt (by omega : 2 ^ k - 1 < 2 ^ k)]
      rfl
    rw [← this, Nat.testBit_div_two_pow, Nat.add_comm]
  have hwhigh : ∀ j, w.testBit (k + j) = q.testBit j := by
    intro j
    have : w / 2 ^ k = q := by rw [hq, Nat.mul_div_cancel_left _ hp]
    rw [← this, Nat.testBit_div_two_pow, Nat.add_comm]
  rw [Nat.testBit_and]
  rcases Nat.lt_trichotomy i k with h | h | h
  · rw [h2 i h]; simp
  · subst h
    have := hhigh 0
    simp at this
    simp [this]
  · obtain ⟨j, rfl⟩ : ∃ j, i = k + (j + 1) := ⟨i - k - 1, by omega⟩
    have e2 : (w - 1).testBit (k + (j + 1)) = w.testBit (k + (j + 1)) := by
      rw [hhigh, hwhigh, hm, Nat.testBit_succ, Nat.testBit_succ]
      congr 1
      omega
    rw [e2, Bool.and_self]
    simp

theorem onesTo_drop (a b k : Nat) (hk : a.testBit k = true) (h : ∀ i, b.testBit i = (a.testBit i && decide (i ≠ k))) (n : Nat) : onesTo b n + (if k < n then 1 else 0) = onesTo a n := by
  induction n with
  | zero => simp [onesTo]
  | succ n ih =>
    simp only [onesTo]
    rw [h n]
    by_cases e : n = k
    · subst e
      simp [hk] at ih ⊢
      omega
    · have e2 : (k < n + 1) = (k < n) := by rw [eq_iff_iff]; omega
      simp only [e2]
      simp [e]
      omega
theorem onesN_pred (w : Nat) (h0 : w ≠ 0) (hw : w < 2 ^ 64) : onesN (w &&& (w - 1)) + 1 = onesN w := by
  have hk := lowN_lt w hw h0
  have := onesTo_drop w (w &&& (w - 1)) (lowN w) ((lowN_spec w).2.2 hk) (fun i => tb_pred w i h0 hw) 64
  rw [if_pos hk] at this
  exact this
theorem onesN_zero : onesN 0 = 0 := onesTo_zero 64
theorem onesN_pos (w : Nat) (h0 : w ≠ 0) (hw : w < 2 ^ 64) : 0 < onesN w := by
  have := onesN_pred w h0 hw
  omega

/-! ### A field bit by bit -/
theorem getN_cons (x g m : Nat) : getN x g (m + 1) = getN x (g + 1) m * 2 + x / 2 ^ g % 2 := by
  unfold getN
  rw [show 2 ^ (m + 1) = 2 * 2 ^ m from by rw [Nat.pow_succ, Nat.mul_comm], Nat.mod_mul, Nat.div_div_eq_div_mul, ← Nat.pow_succ, Nat.mul_comm 2, Nat.add_comm]
theorem or_bit (y b : Nat) (hb : b < 2) : (y * 2 ||| b) = y * 2 + b := by
  have := Nat.two_pow_add_eq_or_of_lt (i := 1) (b := b) (by simpa using hb) y
  rw [Nat.pow_one, Nat.mul_comm 2 y] at this
  exact this.symm
theorem bit_and_one (x g : Nat) (hx : x < 2 ^ 64) : bits .and .u64 ((x : Int) / 2 ^ g) 1 = ((x / 2 ^ g % 2 : Nat) : Int) := by
  have h1 : ((x : Int) / 2 ^ g) = ((x / 2 ^ g : Nat) : Int) := by simp
  have h2 : x / 2 ^ g < 2 ^ 64 := Nat.lt_of_le_of_lt (Nat.div_le_self _ _) hx
  rw [h1, show (1 : Int) = ((1 : Nat) : Int) from rfl, u64and _ 1 h2 (by decide), Nat.and_one_is_mod]
theorem shl_or (y b : Nat) (hy : y < 2 ^ 63) (hb : b < 2) : bits .or .u64 (IntKind.u64.wrap ((y : Int) * 2)) (b : Int) = ((y * 2 + b : Nat) : Int) := by
  rw [show ((y : Int) * 2) = ((y * 2 : Nat) : Int) from by simp, u64wrap_id _ (by omega), u64or _ _ (by omega) (by omega), or_bit y b hb]
theorem get_round (x f n k : Nat) (hx : x < 2 ^ 64) (h : f + n ≤ 64) (hk : 1 ≤ k) (hn : k ≤ n) :
    bits .or .u64 (IntKind.u64.wrap (((getN x (f + k) (n - k) : Nat) : Int) * 2)) (bits .and .u64 ((x : Int) / 2 ^ (f + (k - 1))) 1) = ((getN x (f + (k - 1)) (n - (k - 1)) : Nat) : Int) := by
  rw [bit_and_one x _ hx, shl_or _ _ ?_ (Nat.mod_lt _ (by decide))]
  · rw [show n - (k - 1) = (n - k) + 1 from by omega, getN_cons, show f + (k - 1) + 1 = f + k from by omega]
  · exact Nat.lt_of_lt_of_le (get_lt _ _ _) (Nat.pow_le_pow_right (by decide) (by omega))
theorem tb_div (x k : Nat) : x / 2 ^ k % 2 = (if x.testBit k then 1 else 0) := by
  have h3 : x.testBit k = decide (x / 2 ^ k % 2 = 1) := Nat.testBit_eq_decide_div_mod_eq
  rw [h3]
  by_cases h : x / 2 ^ k % 2 = 1
  · simp [h]
  · simp [h]; omega

/-- setN, a bit at a time. -/
theorem setN_zero (x f v : Nat) : setN x f 0 v = x := by
  unfold setN maskN
  simp
theorem setN_snoc (x f n v : Nat) (h : f + n < 64) :
    ((setN x f n v) ^^^ ((setN x f n v) &&& 2 ^ (f + n))) ||| (v / 2 ^ n % 2 * 2 ^ (f + n)) = setN x f (n + 1) v := by
  apply Nat.eq_of_testBit_eq
  intro i
  rw [Nat.testBit_or, Nat.testBit_xor, Nat.testBit_and, tb_set _ _ _ _ _ (by omega), tb_set _ _ _ _ _ (by omega), Nat.testBit_mul_two_pow, Nat.testBit_two_pow]
  by_cases e : i = f + n
  · subst e
    have h1 : ¬ (f ≤ f + n ∧ f + n < f + n) := by omega
    have h2 : f ≤ f + n ∧ f + n < f + (n + 1) := by omega
    rw [if_neg h1, if_pos h2]
    rw [show f + n - f = n from by omega, tb_div]
    cases v.testBit n <;> simp
  · have e2 : ((f ≤ i ∧ i < f + (n + 1)) ↔ (f ≤ i ∧ i < f + n)) := by omega
    have h3 : decide (f + n = i) = false := by simp; omega
    have h4 : (decide (i ≥ f + n) && (v / 2 ^ n % 2).testBit (i - (f + n))) = false := by
      by_cases hi : i ≥ f + n
      · have : (v / 2 ^ n % 2).testBit (i - (f + n)) = false := Nat.testBit_lt_two_pow (Nat.lt_of_lt_of_le (Nat.mod_lt _ (by decide)) (Nat.le_trans (by decide : 2 ≤ 2 ^ 1) (Nat.pow_le_pow_right (by decide) (by omega))))
        rw [this, Bool.and_false]
      · simp [hi]
    rw [h3, h4]
    simp only [e2, Bool.and_false, Bool.xor_false, Bool.or_false]
theorem set_round (x f n v : Nat) (hx : x < 2 ^ 64) (hv : v < 2 ^ 64) (h : f + n < 64) :
    bits .or .u64 (bits .andNot .u64 ((setN x f n v : Nat) : Int) (IntKind.u64.wrap (2 ^ (f + n)))) (IntKind.u64.wrap (bits .and .u64 ((v : Int) / 2 ^ n) 1 * 2 ^ (f + n))) = ((setN x f (n + 1) v : Nat) : Int) := by
  have hs := set_lt x f n v hx (by omega)
  have hp : 2 ^ (f + n) < 2 ^ 64 := Nat.pow_lt_pow_right (by decide) h
  have hq : v / 2 ^ n % 2 * 2 ^ (f + n) < 2 ^ 64 := by
    have h1 : v / 2 ^ n % 2 ≤ 1 := by omega
    have := Nat.mul_le_mul_right (2 ^ (f + n)) h1
    omega
  rw [bit_and_one v _ hv, show ((2 : Int) ^ (f + n)) = ((2 ^ (f + n) : Nat) : Int) from by simp, u64wrap_id _ hp, u64andNot _ _ hs hp,
    show (((v / 2 ^ n % 2 : Nat) : Int) * ((2 ^ (f + n) : Nat) : Int)) = ((v / 2 ^ n % 2 * 2 ^ (f + n) : Nat) : Int) from by simp, u64wrap_id _ hq,
    u64or _ _ (Nat.xor_lt_two_pow hs (Nat.and_lt_two_pow _ hp)) hq, setN_snoc x f n v h]

/-! ### Get behind Set -/
theorem get_set_same (x f n v : Nat) (h : f + n ≤ 64) : getN (setN x f n v) f n = v % 2 ^ n := by
  apply Nat.eq_of_testBit_eq
  intro i
  rw [tb_get, tb_set _ _ _ _ _ h, Nat.testBit_mod_two_pow]
  by_cases hi : i < n
  · rw [if_pos ⟨by omega, by omega⟩, Nat.add_sub_cancel_left]
  · simp [hi]
theorem get_set_other (x f n v o k : Nat) (h : f + n ≤ 64) (hd : o + k ≤ f ∨ f + n ≤ o) : getN (setN x f n v) o k = getN x o k := by
  apply Nat.eq_of_testBit_eq
  intro i
  rw [tb_get, tb_get, tb_set _ _ _ _ _ h]
  by_cases hi : i < k
  · rw [if_neg (by omega)]
  · simp [hi]
theorem set_set_back (x f n v : Nat) (hx : x < 2 ^ 64) (h : f + n ≤ 64) : setN (setN x f n v) f n (getN x f n) = x := by
  refine eq_of_bits64 _ _ (set_lt _ _ _ _ (set_lt _ _ _ _ hx h) h) hx (fun i _ => ?_)
  rw [tb_set _ _ _ _ _ h, tb_set _ _ _ _ _ h, tb_get]
  by_cases hi : f ≤ i ∧ i < f + n
  · rw [if_pos hi, show decide (i - f < n) = true from by simp; omega, Bool.true_and]
    congr 1
    omega
  · rw [if_neg hi, if_neg hi]
theorem set_get_same (x f n : Nat) (hx : x < 2 ^ 64) (h : f + n ≤ 64) : setN x f n (getN x f n) = x := by
  refine eq_of_bits64 _ _ (set_lt _ _ _ _ hx h) hx (fun i _ => ?_)
  rw [tb_set _ _ _ _ _ h, tb_get]
  by_cases hi : f ≤ i ∧ i < f + n
  · rw [if_pos hi, show decide (i - f < n) = true from by simp; omega, Bool.true_and]
    congr 1
    omega
  · rw [if_neg hi]
theorem and_ones (v m : Nat) (hv : v < 2 ^ 64) (hm : m ≤ 64) : bits .and .u64 (v : Int) ((2 ^ m - 1 : Nat) : Int) = ((v % 2 ^ m : Nat) : Int) := by
  have hp : 0 < 2 ^ m := Nat.two_pow_pos m
  have hq : 2 ^ m ≤ 2 ^ 64 := Nat.pow_le_pow_right (by decide) hm
  rw [u64and _ _ hv (by omega), Nat.and_two_pow_sub_one_eq_mod]
theorem ones_grow (j : Nat) (hj : j < 64) : bits .or .u64 (IntKind.u64.wrap (((2 ^ j - 1 : Nat) : Int) * 2)) 1 = ((2 ^ (j + 1) - 1 : Nat) : Int) := by
  have hp : 0 < 2 ^ j := Nat.two_pow_pos j
  have hq : 2 ^ j ≤ 2 ^ 63 := Nat.pow_le_pow_right (by decide) (by omega)
  have := shl_or (2 ^ j - 1) 1 (by omega) (by decide)
  rw [show ((2 ^ (j + 1) - 1 : Nat)) = (2 ^ j - 1) * 2 + 1 from by rw [Nat.pow_succ]; omega]
  exact this
theorem get_all (x : Nat) (hx : x < 2 ^ 64) : getN x 0 64 = x := by
  unfold getN
  rw [Nat.pow_zero, Nat.div_one, Nat.mod_eq_of_lt hx]
/-- The walk's spelling of 'int(uint64(n) % m)'. -/
theorem rem_nat (f m : Int) (h0 : 0 < m) (hm : m ≤ 1000000) : ∃ k : Nat, Go.RowKit.wrap64 ((IntKind.u64.wrap f).tmod m) = (k : Int) ∧ (k : Int) < m := by
  have h1 : 0 ≤ IntKind.u64.wrap f := bits_lo_u64' f
  have h2 : (IntKind.u64.wrap f).tmod m = IntKind.u64.wrap f % m := Int.tmod_eq_emod_of_nonneg h1
  have h3 : 0 ≤ IntKind.u64.wrap f % m := Int.emod_nonneg _ (by omega)
  have h4 : IntKind.u64.wrap f % m < m := Int.emod_lt_of_pos _ (by omega)
  refine ⟨(IntKind.u64.wrap f % m).toNat, ?_, by omega⟩
  rw [h2]
  generalize IntKind.u64.wrap f % m = y at *
  unfold Go.RowKit.wrap64
  omega

/-! ### Sums of ones -/
theorem onesTo_sum (a b k : Nat) : onesTo a k + onesTo b k = onesTo (a &&& b) k + onesTo (a ||| b) k := by
  induction k with
  | zero => rfl
  | succ k ih =>
    simp only [onesTo, Nat.testBit_and, Nat.testBit_or]
    cases a.testBit k <;> cases b.testBit k <;> simp <;> omega
theorem onesTo_not (a b k : Nat) (h : ∀ i, i < k → b.testBit i = !a.testBit i) : onesTo a k + onesTo b k = k := by
  induction k with
  | zero => rfl
  | succ k ih =>
    have := ih (fun i hi => h i (by omega))
    simp only [onesTo]
    rw [h k (by omega)]
    cases a.testBit k <;> simp <;> omega
def notN (a : Nat) : Nat := a ^^^ (2 ^ 64 - 1)
theorem notN_lt (a : Nat) (ha : a < 2 ^ 64) : notN a < 2 ^ 64 := Nat.xor_lt_two_pow ha (by decide)
theorem onesN_not (a : Nat) : onesN a + onesN (notN a) = 64 := onesTo_not a (notN a) 64 (fun i hi => by
  unfold notN
  rw [Nat.testBit_xor, Nat.testBit_two_pow_sub_one]
  simp [hi])
theorem u64not (a : Nat) (ha : a < 2 ^ 64) : bits .xor .u64 IntKind.u64.max (a : Int) = ((notN a : Nat) : Int) := by
  have h1 : (BitVec.ofInt 64 (a : Int)).toNat = a := by
    rw [BitVec.ofInt_natCast, BitVec.toNat_ofNat]; exact Nat.mod_eq_of_lt ha
  have h2 : (BitVec.ofInt 64 IntKind.u64.max).toNat = 2 ^ 64 - 1 := by decide
  show IntKind.u64.wrap ((BitVec.ofInt 64 IntKind.u64.max ^^^ BitVec.ofInt 64 (a : Int)).toNat : Int) = _
  rw [BitVec.toNat_xor, h1, h2, IntKind.wrap_u64, Nat.xor_comm]
  have := notN_lt a ha
  unfold notN at *
  omega

/-! ### The lowest bit -/
theorem get_low (w : Nat) (hw : w < 2 ^ 64) (h0 : w ≠ 0) : getN w (lowN w) 1 = 1 := by
  have hk := lowN_lt w hw h0
  unfold getN
  rw [Nat.pow_one, tb_div, (lowN_spec w).2.2 hk]
  rfl
theorem get_below_low (w : Nat) : getN w 0 (lowN w) = 0 := by
  apply Nat.eq_of_testBit_eq
  intro i
  rw [tb_get, Nat.zero_testBit, Nat.zero_add]
  by_cases h : i < lowN w
  · rw [(lowN_spec w).2.1 i h, Bool.and_false]
  · simp [h]
theorem set_low (w : Nat) (hw : w < 2 ^ 64) (h0 : w ≠ 0) : setN w (lowN w) 1 0 = w &&& (w - 1) := by
  have hk := lowN_lt w hw h0
  apply Nat.eq_of_testBit_eq
  intro i
  rw [tb_set _ _ _ _ _ (by omega), tb_pred w i h0 hw]
  by_cases h : i = lowN w
  · subst h
    simp
  · rw [if_neg (by omega)]
    simp [h]
theorem low_higher (w : Nat) (hw : w < 2 ^ 64) (h0 : w ≠ 0) : lowN w < lowN (w &&& (w - 1)) := by
  have hk := lowN_lt w hw h0
  obtain ⟨h1, h2, h3⟩ := lowN_spec (w &&& (w - 1))
  rcases Nat.lt_or_ge (lowN w) (lowN (w &&& (w - 1))) with h | h
  · exact h
  · exfalso
    have h4 := h3 (by omega)
    rw [tb_pred w _ h0 hw] at h4
    simp at h4
    have := (lowN_spec w).2.1 (lowN (w &&& (w - 1))) (by omega)
    rw [this] at h4
    simp at h4
theorem lowN_zero : lowN 0 = 64 := by decide
theorem get_one (x k : Nat) : getN x k 1 = x / 2 ^ k % 2 := by unfold getN; rw [Nat.pow_one]
theorem num_round (x k : Nat) (hk : 1 ≤ k) (hn : k ≤ 64) :
    bits .or .u64 (IntKind.u64.wrap (((getN x k (64 - k) : Nat) : Int) * 2)) ((getN x (k - 1) 1 : Nat) : Int) = ((getN x (k - 1) (64 - (k - 1)) : Nat) : Int) := by
  rw [get_one, shl_or _ _ ?_ (Nat.mod_lt _ (by decide))]
  · rw [show 64 - (k - 1) = (64 - k) + 1 from by omega, getN_cons, show k - 1 + 1 = k from by omega]
  · exact Nat.lt_of_lt_of_le (get_lt _ _ _) (Nat.pow_le_pow_right (by decide) (by omega))
theorem wrap_back (n : Int) (h1 : -9223372036854775808 ≤ n) (h2 : n ≤ 9223372036854775807) : Go.RowKit.wrap64 (IntKind.u64.wrap n) = n := by
  rw [IntKind.wrap_u64]
  unfold Go.RowKit.wrap64
  omega
theorem u64_of (n : Int) : ∃ x : Nat, IntKind.u64.wrap n = x ∧ x < 2 ^ 64 := by
  have h1 := bits_lo_u64' n
  rw [IntKind.wrap_u64] at *
  exact ⟨(n % 18446744073709551616).toNat, by omega, by omega⟩

/-- The walk's spelling of 'uint64(n) % m'. -/
theorem rem_u64 (f m : Int) (h0 : 0 < m) : ∃ k : Nat, (IntKind.u64.wrap f).tmod m = (k : Int) ∧ (k : Int) < m := by
  have h1 : 0 ≤ IntKind.u64.wrap f := bits_lo_u64' f
  have h2 : (IntKind.u64.wrap f).tmod m = IntKind.u64.wrap f % m := Int.tmod_eq_emod_of_nonneg h1
  have h3 : 0 ≤ IntKind.u64.wrap f % m := Int.emod_nonneg _ (by omega)
  have h4 : IntKind.u64.wrap f % m < m := Int.emod_lt_of_pos _ (by omega)
  exact ⟨(IntKind.u64.wrap f % m).toNat, by rw [h2]; omega, by omega⟩
end Go.Proofs.Ythaicpjgmplgcaa
