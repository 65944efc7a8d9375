/- A heap of volatile objects: places and how many, plain. -/
import Derived.Test.YtcnbcidbbeadcaaVhAw
namespace Go.Proofs.Ytcnbcidbbeadcaa
open Go.RowKit Go.Deep
set_option linter.unusedVariables false

theorem freeFrom_some {o : Nat → VOb} {i n t : Nat} (h1 : i ≤ t) (h2 : t < i + n) (hu : ∀ j, i ≤ j → j < t → (o j).used = true) (ht : (o t).used = false) : freeFrom o i n = some t := by
  induction n generalizing i with
  | zero => omega
  | succ n ih =>
    unfold freeFrom
    by_cases e : i = t
    · subst e
      rw [if_neg (by rw [ht]; decide)]
    · rw [if_pos (hu i (Nat.le_refl _) (by omega))]
      exact ih (by omega) (by omega) (fun j h3 h4 => hu j (by omega) h4)
theorem freeFrom_none {o : Nat → VOb} {i n : Nat} (hu : ∀ j, i ≤ j → j < i + n → (o j).used = true) : freeFrom o i n = none := by
  induction n generalizing i with
  | zero => rfl
  | succ n ih =>
    unfold freeFrom
    rw [if_pos (hu i (Nat.le_refl _) (by omega))]
    exact ih (fun j h3 h4 => hu j (by omega) (by omega))
theorem freeFrom_at {o : Nat → VOb} {i n t : Nat} (h : freeFrom o i n = some t) : i ≤ t ∧ t < i + n ∧ (o t).used = false := by
  induction n generalizing i with
  | zero => cases h
  | succ n ih =>
    unfold freeFrom at h
    split at h
    · obtain ⟨a1, a2, a3⟩ := ih h
      exact ⟨by omega, by omega, a3⟩
    · rename_i hu
      cases h
      exact ⟨Nat.le_refl _, by omega, by simpa using hu⟩
theorem freeFrom_full {o : Nat → VOb} {i n : Nat} (h : freeFrom o i n = none) : ∀ j, i ≤ j → j < i + n → (o j).used = true := by
  induction n generalizing i with
  | zero => intro j h1 h2; omega
  | succ n ih =>
    unfold freeFrom at h
    split at h
    · rename_i hu
      intro j h1 h2
      by_cases e : j = i
      · subst e; exact hu
      · exact ih h j (by omega) (by omega)
    · cases h
theorem ite_min (x y : Int) : (if y < x then y else x) = min x y := by rw [Int.min_def]; split <;> split <;> omega
theorem ite_max (x y : Int) : (if x < y then y else x) = max x y := by rw [Int.max_def]; split <;> split <;> omega
/-- How many objects there are. -/
def lenTo (o : Nat → VOb) : Nat → Nat
  | 0 => 0
  | k + 1 => lenTo o k + (if (o k).used = true then 1 else 0)
theorem allTo_lenTo (o : Nat → VOb) (k : Nat) : (allTo o k).length = lenTo o k := by
  induction k with
  | zero => rfl
  | succ k ih =>
    unfold allTo lenTo
    rw [List.length_append, ih]
    split <;> simp
theorem lenTo_le (o : Nat → VOb) (k : Nat) : lenTo o k ≤ k := by
  rw [← allTo_lenTo]
  exact allTo_len o k
theorem lenTo_min {o : Nat → VOb} {t n : Nat} (h : ∀ j, j < n → (o j).used = decide (j < t)) : lenTo o n = min t n := by
  induction n with
  | zero => simp [lenTo]
  | succ n ih =>
    unfold lenTo
    rw [ih (fun j hj => h j (by omega)), h n (by omega)]
    by_cases e : n < t
    · rw [decide_eq_true e, if_pos rfl]; omega
    · rw [decide_eq_false e, if_neg (by decide)]; omega
theorem lenTo_set {o : Nat → VOb} {i n : Nat} (hi : i < n) (ob : VOb) : lenTo (setO o i ob) n + (if (o i).used = true then 1 else 0) = lenTo o n + (if ob.used = true then 1 else 0) := by
  induction n with
  | zero => omega
  | succ n ih =>
    unfold lenTo
    by_cases e : i = n
    · subst e
      rw [setO_at]
      have : lenTo (setO o i ob) i = lenTo o i := by
        have aux : ∀ m, m ≤ i → lenTo (setO o i ob) m = lenTo o m := by
          intro m hm
          induction m with
          | zero => rfl
          | succ m ih2 => unfold lenTo; rw [ih2 (by omega), setO_ne o ob (by omega)]
        exact aux i (Nat.le_refl _)
      omega
    · rw [setO_ne o ob (fun h => e h.symm)]
      have := ih (by omega)
      omega
theorem lenTo_full {o : Nat → VOb} {n : Nat} (h : ∀ j, j < n → (o j).used = true) : lenTo o n = n := by
  have := lenTo_min (o := o) (t := n) (n := n) (fun j hj => by rw [h j hj, decide_eq_true hj])
  omega
/-- The first i places are taken. -/
def manyO (i : Nat) : Nat → VOb := fun j => if j < i ∧ j < 64 then ⟨true, 0, zeroVals [1] 1⟩ else noOb
theorem manyO_used (i j : Nat) : (manyO i j).used = decide (j < i ∧ j < 64) := by
  unfold manyO
  split
  · rename_i h; rw [decide_eq_true h]
  · rename_i h; rw [decide_eq_false h]; rfl
theorem manyO_zero : manyO 0 = no14 := by
  funext j
  unfold manyO
  rw [if_neg (by omega)]
  rfl
theorem ofK_0 : ofK ks14 0 = some [1] := by kernel_rfl
theorem ofK_1 : ofK ks14 1 = some [3, 1, 3] := by kernel_rfl
theorem many_make (i : Nat) : makeV ks14 (manyO i) 0 = (manyO (i + 1), if i < 64 then -1 - (i : Int) else 0, if i < 64 then 0 else 5) := by
  unfold makeV freeV
  rw [ofK_0]
  simp only
  by_cases h : i < 64
  · rw [freeFrom_some (t := i) (Nat.zero_le _) (by omega) (fun j _ hj => by rw [manyO_used, decide_eq_true ⟨hj, by omega⟩]) (by rw [manyO_used, decide_eq_false (by omega)]), if_pos h, if_pos h]
    simp only
    congr 1
    funext j
    by_cases e : j = i
    · subst e
      rw [setO_at]
      unfold manyO
      rw [if_pos ⟨by omega, h⟩]
      rfl
    · rw [setO_ne _ _ e]
      unfold manyO
      have : (j < i ∧ j < 64) ↔ (j < i + 1 ∧ j < 64) := by omega
      simp only [this]
  · rw [freeFrom_none (fun j _ hj => by rw [manyO_used, decide_eq_true ⟨by omega, by omega⟩]), if_neg h, if_neg h]
    simp only
    congr 1
    funext j
    unfold manyO
    have : (j < i ∧ j < 64) ↔ (j < i + 1 ∧ j < 64) := by omega
    simp only [this]
theorem many_gone (n g : Nat) (h1 : g < 60) (h2 : 60 ≤ n) : (findV (manyO n) (-1 - (g : Int))).isSome = true ∧ ∃ o', makeV ks14 (removeV (manyO n) (-1 - (g : Int))) 1 = (o', -1 - (g : Int), 0) ∧ ((allV o').length : Int) = min (n : Int) 64 := by
  have hf : findV (manyO n) (-1 - (g : Int)) = some g := by rw [findV_place _ g (by omega), manyO_used, decide_eq_true ⟨by omega, by omega⟩, if_pos rfl]
  refine ⟨by rw [hf]; rfl, setO (setO (manyO n) g noOb) g ⟨true, 1, zeroVals [3, 1, 3] 3⟩, ?_, ?_⟩
  · unfold removeV
    rw [hf]
    simp only
    unfold makeV freeV
    rw [ofK_1]
    simp only
    rw [freeFrom_some (t := g) (Nat.zero_le _) (by omega) (fun j _ hj => by rw [setO_ne _ _ (by omega), manyO_used, decide_eq_true ⟨by omega, by omega⟩]) (by rw [setO_at]; rfl)]
    rfl
  · have : (allV (setO (setO (manyO n) g noOb) g ⟨true, 1, zeroVals [3, 1, 3] 3⟩)).length = min n 64 := by
      show (allTo _ 64).length = _
      rw [allTo_lenTo]
      refine lenTo_min (fun j hj => ?_)
      by_cases e : j = g
      · subst e
        rw [setO_at, decide_eq_true (by omega)]
      · rw [setO_ne _ _ e, setO_ne _ _ e, manyO_used]
        exact decide_eq_decide.2 (by omega)
    rw [this]
    omega
theorem AwSt.remove {w : World} {b base : Nat} {kv : Value} {o : Nat → VOb} {wr : World} (h : AwSt w b base kv o wr) (x : Int) : Calls Try.prog 26 #[.pointer (some ⟨b, 0, none⟩), .int .i64 x] wr (fun e w' => e = .returned (.bool (findV o x).isSome) ∧ AwSt w b base kv (removeV o x) w') := by
  obtain ⟨F, hp⟩ := h.hp
  exact (vh_Remove hp x).mono (fun e w' hh => ⟨hh.1, h.next hh.2.1 hh.2.2⟩)
theorem AwSt.kind {w : World} {b base : Nat} {kv : Value} {o : Nat → VOb} {wr : World} (h : AwSt w b base kv o wr) (x : Int) : Calls Try.prog 39 #[.pointer (some ⟨b, 0, none⟩), .int .i64 x] wr (RetU wr (.tuple #[.int .i64 (kindV o x).1, .int .i64 (kindV o x).2])) := by
  obtain ⟨F, hp⟩ := h.hp
  exact vh_Kind hp x
theorem AwSt.get {w : World} {b base : Nat} {kv : Value} {o : Nat → VOb} {wr : World} (h : AwSt w b base kv o wr) (x j : Int) : Calls Try.prog 35 #[.pointer (some ⟨b, 0, none⟩), .int .i64 x, .int .i64 j] wr (RetU wr (.tuple #[(getV o x j).1.v, .int .i64 (getV o x j).2])) := by
  obtain ⟨F, hp⟩ := h.hp
  exact vh_Get hp x j
theorem AwSt.all {w : World} {b base : Nat} {kv : Value} {o : Nat → VOb} {wr : World} (h : AwSt w b base kv o wr) : Calls Try.prog 33 #[.pointer (some ⟨b, 0, none⟩)] wr (RetNums wr (allV o)) := by
  obtain ⟨F, hp⟩ := h.hp
  exact vh_All hp
end Go.Proofs.Ytcnbcidbbeadcaa
