/- A field that is set is that, and no other field changes: plain. -/
import Derived.Test.YtcnbcidbbeadcaaVhSb
import Derived.Test.YtcnbcidbbeadcaaVhMv
namespace Go.Proofs.Ytcnbcidbbeadcaa
open Go.RowKit Go.Deep
set_option linter.unusedVariables false

theorem told_same {v : Val} (h0 : 0 ≤ v.k) (h3 : v.k ≤ 3) : sameV (toldV v) v = true := by
  have : v.k = 0 ∨ v.k = 1 ∨ v.k = 2 ∨ v.k = 3 := by omega
  unfold toldV sameV
  rcases this with h | h | h | h <;> simp [h, zeroV]
theorem fits_kind {f : List Int} {i : Int} {v : Val} (h : fitsV f i v = true) : 0 ≤ v.k ∧ v.k ≤ 3 := by
  unfold fitsV at h
  rw [decide_eq_true_eq] at h
  obtain ⟨-, -, h2, h3⟩ := h
  rcases h3 with h3 | ⟨h3, -⟩
  · rw [← h3] at h2
    unfold fw at h2
    split at h2
    · omega
    · split at h2
      · omega
      · exact absurd rfl h2
  · omega
theorem getV_kind {o : Nat → VOb} (h : KOk o) (x j : Int) : 0 ≤ (getV o x j).1.k ∧ (getV o x j).1.k ≤ 3 := by
  unfold getV
  split
  · exact ⟨show (0 : Int) ≤ 0 by decide, show (0 : Int) ≤ 3 by decide⟩
  · rename_i i _
    split
    · exact ⟨show (0 : Int) ≤ 0 by decide, show (0 : Int) ≤ 3 by decide⟩
    · rename_i hj
      have hl : j.toNat < (o i).f.length := by omega
      have e : (o i).f.getD j.toNat zeroV = (o i).f[j.toNat] := by simp [List.getD, hl]
      show 0 ≤ ((o i).f.getD j.toNat zeroV).k ∧ ((o i).f.getD j.toNat zeroV).k ≤ 3
      rw [e]
      exact h i _ (List.getElem_mem hl)
theorem allTo_congr2 {o p : Nat → VOb} (h : ∀ i, (o i).used = (p i).used) (n : Nat) : allTo o n = allTo p n := by
  induction n with
  | zero => rfl
  | succ n ih => unfold allTo; rw [ih, h n]
/-- What is told of a set: which error, and each field of each object. -/
theorem apart_main {o : Nat → VOb} (hk : KOk o) (hkin : ∀ i, i < 64 → (o i).used = true → (o i).f.length ≤ 3) (at_ : Nat) (hat : at_ < (allV o).length) (field : Int) (v : Val) :
    (0 ≤ (setV ks14 o ((allV o).getD at_ 0) field v).2 ∧ ((setV ks14 o ((allV o).getD at_ 0) field v).2 = 0 → 0 ≤ field ∧ field < 3)) ∧
    allV (setV ks14 o ((allV o).getD at_ 0) field v).1 = allV o ∧
    ∀ i : Nat, i < (allV o).length * 3 → (¬ ((setV ks14 o ((allV o).getD at_ 0) field v).2 = 0 ∧ (i : Int) = 3 * at_ + field) → sameV ((lookL o (allV o)).getD i zeroV) ((lookL (setV ks14 o ((allV o).getD at_ 0) field v).1 (allV o)).getD i zeroV) = true) ∧
      (((setV ks14 o ((allV o).getD at_ 0) field v).2 = 0 ∧ (i : Int) = 3 * at_ + field) → sameV ((lookL (setV ks14 o ((allV o).getD at_ 0) field v).1 (allV o)).getD i zeroV) v = true) := by
  have hxm : (allV o).getD at_ 0 ∈ allV o := by
    have : (allV o).getD at_ 0 = (allV o)[at_] := by simp [List.getD, hat]
    rw [this]
    exact List.getElem_mem hat
  obtain ⟨i0, hi0, hu0, hx0⟩ := (allTo_mem o 64 _).1 hxm
  have hself : ∀ i : Nat, i < (allV o).length * 3 → sameV ((lookL o (allV o)).getD i zeroV) ((lookL o (allV o)).getD i zeroV) = true := by
    intro i hi
    have e := lookL_get o (allV o) (i / 3) (i % 3) (by omega) (by omega)
    rw [show i / 3 * 3 + i % 3 = i from by omega] at e
    have e2 : (lookL o (allV o)).getD i zeroV = (getV o ((allV o).getD (i / 3) 0) (i % 3 : Nat)).1 := by
      simp only [List.getD, e, Option.getD_some]
    rw [e2]
    have := getV_kind hk ((allV o).getD (i / 3) 0) (i % 3 : Nat)
    exact sameV_refl this.1 this.2
  have hnd := allTo_nodup o 64
  have hf0 : findV o ((allV o).getD at_ 0) = some i0 := by rw [hx0, findV_place o i0 hi0, if_pos hu0]
  have hsv : setV ks14 o ((allV o).getD at_ 0) field v = if field < 0 ∨ ((o i0).f.length : Int) ≤ field then (o, 4) else if fitsV (ks14.getD (o i0).k.toNat []) field v = true then (setO o i0 ⟨true, (o i0).k, (o i0).f.set field.toNat (toldV v)⟩, 0) else (o, 3) := by
    unfold setV
    rw [hf0]
  by_cases hj : field < 0 ∨ ((o i0).f.length : Int) ≤ field
  · rw [if_pos hj] at hsv
    rw [hsv]
    refine ⟨⟨by show (0 : Int) ≤ 4; decide, fun h => absurd h (show ¬ (4 : Int) = 0 by decide)⟩, rfl, fun i hi => ⟨fun _ => hself i hi, fun h => absurd h.1 (show ¬ (4 : Int) = 0 by decide)⟩⟩
  · rw [if_neg hj] at hsv
    by_cases hft : fitsV (ks14.getD (o i0).k.toNat []) field v = true
    · rw [if_pos hft] at hsv
      rw [hsv]
      have h3 := hkin i0 hi0 hu0
      obtain ⟨j, rfl⟩ : ∃ j : Nat, field = j := ⟨field.toNat, by omega⟩
      have hj3 : j < (o i0).f.length := by omega
      have e1 : (setO o i0 ⟨true, (o i0).k, (o i0).f.set j (toldV v)⟩) = setO o i0 ⟨true, (o i0).k, (o i0).f.set (j : Int).toNat (toldV v)⟩ := by simp
      refine ⟨⟨Int.le_refl _, fun _ => ⟨by omega, by omega⟩⟩, ?_, fun i hi => ?_⟩
      · refine allTo_congr2 (fun i => ?_) 64
        show (setO o i0 _ i).used = (o i).used
        by_cases e : i = i0
        · subst e; rw [setO_at]; exact hu0.symm
        · rw [setO_ne _ _ e]
      · show (¬ ((0 : Int) = 0 ∧ (i : Int) = 3 * at_ + j) → _) ∧ (((0 : Int) = 0 ∧ (i : Int) = 3 * at_ + j) → _)
        simp only
        rw [← e1]
        generalize hoE : setO o i0 ⟨true, (o i0).k, (o i0).f.set j (toldV v)⟩ = o'
        have g1 := lookL_get o (allV o) (i / 3) (i % 3) (by omega) (by omega)
        have g2 := lookL_get o' (allV o) (i / 3) (i % 3) (by omega) (by omega)
        rw [show i / 3 * 3 + i % 3 = i from by omega] at g1 g2
        have e2 : (lookL o (allV o)).getD i zeroV = (getV o ((allV o).getD (i / 3) 0) (i % 3 : Nat)).1 := by simp only [List.getD, g1, Option.getD_some]
        have e3 : (lookL o' (allV o)).getD i zeroV = (getV o' ((allV o).getD (i / 3) 0) (i % 3 : Nat)).1 := by simp only [List.getD, g2, Option.getD_some]
        rw [e2, e3]
        have hml : i / 3 < (allV o).length := by omega
        have hmE : (allV o).getD (i / 3) 0 = (allV o)[i / 3] := by simp [List.getD, hml]
        have haE : (allV o).getD at_ 0 = (allV o)[at_] := by simp [List.getD, hat]
        obtain ⟨im, him, hum, hxm2⟩ := (allTo_mem o 64 _).1 (show (allV o).getD (i / 3) 0 ∈ allTo o 64 by rw [hmE]; exact List.getElem_mem hml)
        by_cases em : i / 3 = at_
        · have hii : im = i0 := by
            rw [em] at hxm2
            rw [hx0] at hxm2
            omega
          rw [em, hx0]
          have q1 : getV o (-1 - (i0 : Int)) (i % 3 : Nat) = if ((i % 3 : Nat) : Int) < 0 ∨ ((o i0).f.length : Int) ≤ (i % 3 : Nat) then (zeroV, 4) else ((o i0).f.getD (i % 3) zeroV, 0) := by
            unfold getV
            rw [findV_place o i0 hi0, if_pos hu0]
            rfl
          have hu' : (o' i0).used = true := by rw [← hoE, setO_at]
          have hfl' : (o' i0).f = (o i0).f.set j (toldV v) := by rw [← hoE, setO_at]
          have q2 : getV o' (-1 - (i0 : Int)) (i % 3 : Nat) = if ((i % 3 : Nat) : Int) < 0 ∨ ((o i0).f.length : Int) ≤ (i % 3 : Nat) then (zeroV, 4) else (((o i0).f.set j (toldV v)).getD (i % 3) zeroV, 0) := by
            unfold getV
            rw [findV_place o' i0 hi0, if_pos hu']
            simp only [hfl', List.length_set]
            rfl
          by_cases ef : i % 3 = j
          · refine ⟨fun hn => absurd ⟨trivial, by omega⟩ hn, fun _ => ?_⟩
            rw [q2, ef, if_neg (by omega)]
            have : ((o i0).f.set j (toldV v)).getD j zeroV = toldV v := by simp [List.getD, hj3]
            rw [this]
            have := fits_kind hft
            exact told_same this.1 this.2
          · refine ⟨fun _ => ?_, fun hm => absurd hm.2 (by omega)⟩
            have e5 : (getV o' (-1 - (i0 : Int)) (i % 3 : Nat)).1 = (getV o (-1 - (i0 : Int)) (i % 3 : Nat)).1 := by
              rw [q1, q2]
              split
              · rfl
              · show ((o i0).f.set j (toldV v)).getD (i % 3) zeroV = (o i0).f.getD (i % 3) zeroV
                simp only [List.getD]
                rw [List.getElem?_set_ne (fun h => ef h.symm)]
            rw [e5]
            have := getV_kind hk (-1 - (i0 : Int)) (i % 3 : Nat)
            exact sameV_refl this.1 this.2
        · refine ⟨fun _ => ?_, fun hm => absurd hm.2 (by omega)⟩
          have hne : im ≠ i0 := by
            intro e
            subst e
            have : (allV o)[i / 3] = (allV o)[at_] := by rw [← hmE, ← haE, hxm2, hx0]
            rcases Nat.lt_or_gt_of_ne em with h | h
            · exact (List.pairwise_iff_getElem.1 hnd) _ _ hml hat h this
            · exact (List.pairwise_iff_getElem.1 hnd) _ _ hat hml h this.symm
          have e6 : o' im = o im := by rw [← hoE, setO_ne _ _ hne]
          rw [hxm2]
          have e5 : getV o' (-1 - (im : Int)) (i % 3 : Nat) = getV o (-1 - (im : Int)) (i % 3 : Nat) := by
            unfold getV
            rw [findV_place o' im him, findV_place o im him, e6, if_pos hum]
            simp only [e6]
          rw [e5]
          have := getV_kind hk (-1 - (im : Int)) (i % 3 : Nat)
          exact sameV_refl this.1 this.2
    · rw [if_neg hft] at hsv
      rw [hsv]
      refine ⟨⟨by show (0 : Int) ≤ 3; decide, fun h => absurd h (show ¬ (3 : Int) = 0 by decide)⟩, rfl, fun i hi => ⟨fun _ => hself i hi, fun h => absurd h.1 (show ¬ (3 : Int) = 0 by decide)⟩⟩
end Go.Proofs.Ytcnbcidbbeadcaa
