/- same and look of VheapApart. -/
import Derived.Test.YtcnbcidbbeadcaaVhNw
namespace Go.Proofs.Ytcnbcidbbeadcaa
open Go.RowKit Go.Deep
set_option linter.unusedVariables false

set_option maxRecDepth 100000 in
set_option maxHeartbeats 2000000 in
theorem same14 (x y : Val) (w : World) : Calls Try.prog 36 #[x.v, y.v] w (RetU w (.bool (sameV x y))) := by
  obtain ⟨a, n, re, im, r⟩ := x
  obtain ⟨a2, n2, re2, im2, r2⟩ := y
  show Calls _ _ #[.agg #[.int .i64 a, .int .i64 n, .int .u64 (re : Int), .int .u64 (im : Int), .int .i64 r], .agg #[.int .i64 a2, .int .i64 n2, .int .u64 (re2 : Int), .int .u64 (im2 : Int), .int .i64 r2]] _ _
  have hu : Upd (fun _ => False) w ((w.alloc (.cells #[.int .i64 a, .int .i64 n, .int .u64 (re : Int), .int .u64 (im : Int), .int .i64 r] 26)).alloc (.cells #[.int .i64 a2, .int .i64 n2, .int .u64 (re2 : Int), .int .u64 (im2 : Int), .int .i64 r2] 26)) := ((Upd.refl _ _).alloc _).alloc _
  have hs : sameV ⟨a, n, re, im, r⟩ ⟨a2, n2, re2, im2, r2⟩ = (decide (a = a2) && (if a = 0 then true else if a = 1 then decide (n = n2) else if a = 2 then decide (re = re2) && decide (im = im2) else if a = 3 then decide (r = r2) else false)) := rfl
  rw [hs]
  clear hs
  have Hhu := Lib.hid hu; clear hu
  by_cases e : a = a2
  · subst e
    rw [decide_eq_true rfl, Bool.true_and]
    have e0 : (a != a) = false := by simp
    by_cases k1 : a = 1
    · subst k1
      have hr : (if (1 : Int) = 0 then true else if (1 : Int) = 1 then decide (n = n2) else if (1 : Int) = 2 then decide (re = re2) && decide (im = im2) else if (1 : Int) = 3 then decide (r = r2) else false) = decide (n = n2) := by simp
      rw [hr, ← beq_int]
      clear hr
      go_enter Try.func36, Try.ntmps36
      go_wp2
      go_ret
      exact ⟨rfl, Hhu.out⟩
    · by_cases k2 : a = 2
      · subst k2
        have hr : (if (2 : Int) = 0 then true else if (2 : Int) = 1 then decide (n = n2) else if (2 : Int) = 2 then decide (re = re2) && decide (im = im2) else if (2 : Int) = 3 then decide (r = r2) else false) = (decide (re = re2) && decide (im = im2)) := by simp
        rw [hr, ← beq_nat, ← beq_nat]
        clear hr
        cases hre : ((re : Int) == (re2 : Int)) with
        | false =>
          go_enter Try.func36, Try.ntmps36
          go_wp2
          go_ret
          exact ⟨rfl, Hhu.out⟩
        | true =>
          go_enter Try.func36, Try.ntmps36
          go_wp2
          go_ret
          exact ⟨rfl, Hhu.out⟩
      · by_cases k3 : a = 3
        · subst k3
          have hr : (if (3 : Int) = 0 then true else if (3 : Int) = 1 then decide (n = n2) else if (3 : Int) = 2 then decide (re = re2) && decide (im = im2) else if (3 : Int) = 3 then decide (r = r2) else false) = decide (r = r2) := by simp
          rw [hr, ← beq_int]
          clear hr
          go_enter Try.func36, Try.ntmps36
          go_wp2
          go_ret
          exact ⟨rfl, Hhu.out⟩
        · have hr : (if a = 0 then true else if a = 1 then decide (n = n2) else if a = 2 then decide (re = re2) && decide (im = im2) else if a = 3 then decide (r = r2) else false) = (a == 0) := by
            rw [if_neg k1, if_neg k2, if_neg k3, beq_int]
            by_cases h : a = 0 <;> simp [h]
          rw [hr]
          have k1' : (a == 1) = false := by rw [beq_eq_false_iff_ne]; exact k1
          have k2' : (a == 2) = false := by rw [beq_eq_false_iff_ne]; exact k2
          have k3' : (a == 3) = false := by rw [beq_eq_false_iff_ne]; exact k3
          clear hr k1 k2 k3
          go_enter Try.func36, Try.ntmps36
          go_wp2
          go_ret
          exact ⟨rfl, Hhu.out⟩
  · rw [decide_eq_false e, Bool.false_and]
    have e0 : (a != a2) = true := by rw [bne_iff_ne]; exact e
    clear e
    go_enter Try.func36, Try.ntmps36
    go_wp2
    go_ret
    exact ⟨rfl, Hhu.out⟩
/-- What the first fields of an object read as. -/
def look1 (o : Nat → VOb) (x : Int) : Nat → List Val
  | 0 => []
  | f + 1 => look1 o x f ++ [(getV o x f).1]
def lookL (o : Nat → VOb) : List Int → List Val
  | [] => []
  | x :: xs => look1 o x 3 ++ lookL o xs
theorem lookL_snoc (o : Nat → VOb) (xs : List Int) (x : Int) : lookL o (xs ++ [x]) = lookL o xs ++ look1 o x 3 := by
  induction xs with
  | nil => simp [lookL]
  | cons y ys ih => simp [lookL, ih]
theorem look1_len (o : Nat → VOb) (x : Int) (f : Nat) : (look1 o x f).length = f := by
  induction f with
  | zero => rfl
  | succ f ih => simp [look1, ih]
theorem lookL_len (o : Nat → VOb) (xs : List Int) : (lookL o xs).length = xs.length * 3 := by
  induction xs with
  | nil => rfl
  | cons x xs ih =>
    simp only [lookL, List.length_append, look1_len, ih, List.length_cons]
    omega
theorem look1_get (o : Nat → VOb) (x : Int) (n f : Nat) (hf : f < n) : (look1 o x n)[f]? = some (getV o x f).1 := by
  induction n with
  | zero => omega
  | succ n ih =>
    unfold look1
    by_cases e : f = n
    · subst e
      rw [List.getElem?_append_right (by rw [look1_len]; omega), look1_len]
      simp
    · rw [List.getElem?_append_left (by rw [look1_len]; omega)]
      exact ih (by omega)
theorem lookL_get (o : Nat → VOb) (xs : List Int) (m f : Nat) (hm : m < xs.length) (hf : f < 3) : (lookL o xs)[m * 3 + f]? = some (getV o (xs.getD m 0) f).1 := by
  induction xs generalizing m with
  | nil => simp at hm
  | cons x xs ih =>
    unfold lookL
    by_cases e : m = 0
    · subst e
      rw [List.getElem?_append_left (by rw [look1_len]; omega), Nat.zero_mul, Nat.zero_add]
      exact look1_get o x 3 f hf
    · obtain ⟨m', rfl⟩ : ∃ m', m = m' + 1 := ⟨m - 1, by omega⟩
      rw [List.getElem?_append_right (by rw [look1_len]; omega), look1_len, show (m' + 1) * 3 + f - 3 = m' * 3 + f from by omega]
      rw [ih m' (by simpa using hm)]
      rfl
end Go.Proofs.Ytcnbcidbbeadcaa
