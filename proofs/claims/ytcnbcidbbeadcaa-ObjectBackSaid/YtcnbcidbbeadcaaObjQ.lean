/- Encoding and decoding, plainly: what is decoded is encoded as it was. -/
import Derived.Test.YtcnbcidbbeadcaaObjH
import Derived.Test.YtcnbcidbbeadcaaSameV
namespace Go.Proofs.Ytcnbcidbbeadcaa
open Go.RowKit Go.Deep
set_option linter.unusedVariables false

theorem i64_0 : I64 0 := ⟨by decide, by decide⟩
theorem i64_1 : I64 1 := ⟨by decide, by decide⟩
theorem i64_2 : I64 2 := ⟨by decide, by decide⟩
theorem i64_3 : I64 3 := ⟨by decide, by decide⟩
theorem lt64_0 : 0 < 2 ^ 64 := by decide
theorem wrap64_i64 (n : Int) : I64 (wrap64 n) := by unfold I64 wrap64; omega
theorem u64n_wrap (a : Nat) (ha : a < 2 ^ 64) : u64n (wrap64 (a : Int)) = a := by
  have h1 := u64n_eq (wrap64 (a : Int))
  have h2 : IntKind.u64.wrap (wrap64 (a : Int)) = ((a : Nat) : Int) := by
    unfold wrap64
    rw [show IntKind.u64.wrap = fun n => IntKind.u64.wrap n from rfl]
    simp only [IntKind.wrap_u64]
    omega
  omega
theorem sameV_self {x : Val} (h : x.k = 0 ∨ x.k = 1 ∨ x.k = 2 ∨ x.k = 3) : sameV x x = true := by
  unfold sameV
  rcases h with h | h | h | h <;> simp [h]
theorem vof_facts {k : Int} {us : List Nat} {x : Val} (h : vof k us = some x) (hlt : ∀ a ∈ us, a < 2 ^ 64) : x.ok ∧ (x.k = 0 ∨ x.k = 1 ∨ x.k = 2 ∨ x.k = 3) ∧ vw k x = some us := by
  unfold vof at h
  by_cases g1 : k = 1 ∧ us.length = 1
  · rw [if_pos g1] at h
    obtain ⟨rfl, hl⟩ := g1
    obtain ⟨a, rfl⟩ := List.length_eq_one_iff.1 hl
    have ha := hlt a (by simp)
    cases h
    refine ⟨⟨i64_1, wrap64_i64 _, lt64_0, lt64_0, i64_0⟩, Or.inr (Or.inl rfl), ?_⟩
    unfold vw
    rw [if_pos ⟨rfl, rfl⟩]
    show some [u64n (wrap64 (a : Int))] = _
    rw [u64n_wrap a ha]
  · rw [if_neg g1] at h
    by_cases g2 : k = 2 ∧ us.length = 2
    · rw [if_pos g2] at h
      obtain ⟨rfl, hl⟩ := g2
      obtain ⟨a, b, rfl⟩ : ∃ a b, us = [a, b] := by
        match us, hl with
        | [a, b], _ => exact ⟨a, b, rfl⟩
      have ha := hlt a (by simp)
      have hb := hlt b (by simp)
      cases h
      exact ⟨⟨i64_2, i64_0, ha, hb, i64_0⟩, Or.inr (Or.inr (Or.inl rfl)), rfl⟩
    · rw [if_neg g2] at h
      by_cases g3 : k = 3 ∧ us.length = 1 ∧ us.getD 0 0 ≤ 1099511627777
      · rw [if_pos g3] at h
        obtain ⟨rfl, hl, hM⟩ := g3
        obtain ⟨a, rfl⟩ := List.length_eq_one_iff.1 hl
        have hM : a ≤ 1099511627777 := hM
        have h : some (if a = 0 then zeroV else ⟨3, 0, 0, 0, ((a - 1 : Nat) : Int)⟩) = some x := h
        by_cases h0 : a = 0
        · subst h0
          rw [if_pos rfl] at h
          cases h
          exact ⟨zeroV_ok, Or.inl rfl, rfl⟩
        · rw [if_neg h0] at h
          cases h
          refine ⟨⟨i64_3, i64_0, lt64_0, lt64_0, (show I64 ((a - 1 : Nat) : Int) from ⟨by omega, by omega⟩)⟩, Or.inr (Or.inr (Or.inr rfl)), ?_⟩
          unfold vw
          rw [if_neg (fun h => absurd h.1 (by decide)), if_neg (fun h => absurd h.1 (by decide)), if_neg (fun h => absurd (show (3 : Int) = 0 from h.2) (by decide)), if_pos ⟨rfl, rfl, by simp only; omega, by simp only; omega⟩]
          congr 2
          simp only
          omega
      · rw [if_neg g3] at h
        cases h
theorem vofTo_get {f : List Int} {ws : List Nat} {n : Nat} {xs : List Val} (h : vofTo f ws n = some xs) : ∀ j, j < n → vof (f.getD j 0) (fieldW f ws j) = some (xs.getD j zeroV) := by
  induction n generalizing xs with
  | zero => intro j hj; omega
  | succ n ih =>
    obtain ⟨ys, x, h1, h2, rfl⟩ := vofTo_inv h
    have hl := vofTo_len h1
    intro j hj
    by_cases e : j = n
    · subst e
      rw [h2]
      congr 1
      simp [List.getD, hl]
    · rw [ih h1 j (by omega)]
      congr 1
      simp [List.getD, List.getElem?_append_left (show j < ys.length by omega)]
theorem fieldW_lt {f : List Int} {ws : List Nat} {j : Nat} (hlt : ∀ a ∈ ws, a < 2 ^ 64) : ∀ a ∈ fieldW f ws j, a < 2 ^ 64 := fun a ha => hlt a (List.mem_of_mem_drop (List.mem_of_mem_take ha))
theorem vofTo_ok {f : List Int} {ws : List Nat} {n : Nat} {xs : List Val} (h : vofTo f ws n = some xs) (hlt : ∀ a ∈ ws, a < 2 ^ 64) : ∀ x ∈ xs, x.ok := by
  intro x hx
  obtain ⟨i, hi, rfl⟩ := List.getElem_of_mem hx
  have hl := vofTo_len h
  have := (vof_facts (vofTo_get h i (by omega)) (fieldW_lt hlt)).1
  simpa [List.getD, hi] using this
theorem vofTo_same {f : List Int} {ws : List Nat} {n : Nat} {xs : List Val} (h : vofTo f ws n = some xs) (hlt : ∀ a ∈ ws, a < 2 ^ 64) : sameVs xs xs = true := by
  unfold sameVs
  rw [decide_eq_true_eq]
  refine ⟨rfl, fun i hi => ?_⟩
  have hl := vofTo_len h
  exact sameV_self (vof_facts (vofTo_get h i (by omega)) (fieldW_lt hlt)).2.1
theorem vw_of_dec {f : List Int} {ws : List Nat} {xs : List Val} {n : Nat} (h : vofTo f ws n = some xs) (hlt : ∀ a ∈ ws, a < 2 ^ 64) (hn : n ≤ f.length) : ∀ j, j ≤ n → vwTo f xs j = some ((ws.drop 1).take (sumW (f.take j))) := by
  intro j hj
  induction j with
  | zero => simp [vwTo, sumW]
  | succ j ih =>
    have h1 := (vof_facts (vofTo_get h j (by omega)) (fieldW_lt hlt)).2.2
    rw [vwTo_succ (ih (by omega)) h1]
    congr 1
    rw [sumW_snoc f j (by omega), List.take_add]
    unfold fieldW
    rw [List.drop_drop]
theorem decO_cases (ks : List (List Int)) (ws : List Nat) (hlt : ∀ a ∈ ws, a < 2 ^ 64) : decO ks ws = (0, [], 0, 8) ∨
    ∃ (k : Nat) (f : List Int) (xs : List Val) (ep : Nat), decO ks ws = ((k : Int), xs, ep, 0) ∧ ofK ks k = some f ∧ kW f ≤ ws.length ∧ vofTo f ws f.length = some xs ∧ ep < 2 ^ 64 ∧ 0 < ws.length ∧ makeN k (kW f) ep = ws.getD 0 0 ∧ k < 16 := by
  unfold decO
  cases ws with
  | nil => exact Or.inl rfl
  | cons h rest =>
    simp only
    by_cases hH : IsHead h
    · rw [if_pos hH]
      cases ho : ofK ks (getN h 0 4 : Nat) with
      | none => exact Or.inl rfl
      | some f =>
        simp only
        by_cases hc : getN h 4 5 ≠ kW f ∨ (h :: rest).length < getN h 4 5
        · rw [if_pos hc]
          exact Or.inl rfl
        · rw [if_neg hc]
          have hw : getN h 4 5 = kW f := Classical.byContradiction fun e => hc (Or.inl e)
          have hl : ¬ (h :: rest).length < getN h 4 5 := fun e => hc (Or.inr e)
          cases hv : vofTo f (h :: rest) f.length with
          | none => exact Or.inl rfl
          | some xs =>
            refine Or.inr ⟨getN h 0 4, f, xs, getN h 9 32, rfl, ho, by omega, hv, ?_, by simp, ?_, get_lt h 0 4⟩
            · exact Nat.lt_of_lt_of_le (get_lt h 9 32) (by decide)
            · rw [← hw]
              exact make_of_parse h (hlt h (by simp)) hH
    · rw [if_neg hH]
      exact Or.inl rfl
/-- What is decoded is encoded as it was. -/
theorem dec_enc {ks : List (List Int)} {ws : List Nat} {k : Nat} {f : List Int} {xs : List Val} {ep : Nat} (hlt : ∀ a ∈ ws, a < 2 ^ 64) (ho : ofK ks k = some f) (hl : kW f ≤ ws.length) (hv : vofTo f ws f.length = some xs) (h0 : 0 < ws.length)
    (hm : makeN k (kW f) ep = ws.getD 0 0) : encO ks k xs ep = (ws.take (kW f), 0) := by
  unfold encO
  rw [ho]
  simp only
  rw [if_neg (fun h => h (vofTo_len hv)), vw_of_dec hv hlt (Nat.le_refl _) f.length (Nat.le_refl _)]
  simp only [show ((k : Int)).toNat = k from by omega]
  rw [hm, List.take_length]
  have hk := kW_eq f (mayK_facts f (ofK_some ho).2.2.2.1).2.2.2.1
  rw [hk]
  cases ws with
  | nil => simp at h0
  | cons a t => simp [Nat.add_comm 1]
end Go.Proofs.Ytcnbcidbbeadcaa
