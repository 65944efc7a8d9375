/- A field that is set is that, and no other field changes: plain. -/
import Derived.Test.YtcnbcidbbeadcaaVhSb
import Derived.Test.YtcnbcidbbeadcaaVhMv
import Derived.Test.YtcnbcidbbeadcaaVoR
import Derived.BigQuiet
-- merged



namespace Go.Proofs.Ytcnbcidbbeadcaa
open Go.RowKit Go.Deep
set_option linter.unusedVariables false

theorem told_same {v : Val} (h0 : 0 ≤ v.k) (h3 : v.k ≤ 3) : sameV (toldV v) v = true := by
  have : v.k = 0 ∨ v.k = 1 ∨ v.k = 2 ∨ v.k = 3 := by omega
  unfold toldV sameV
  rcases this with h | h | h | h <;> simp [h, zeroV]
theorem fits_kind {f : List Int} {i : Int} {v : Val} (h : fitsV f i v = true) : 0 ≤ v.k ∧ v.k ≤ 3 := by
  unfold fitsV at h
  rw [decide_eq_true_eq] at h
  obtain ⟨-, -, h2, h3⟩ := h
  rcases h3 with h3 | ⟨h3, -⟩
  · rw [← h3] at h2
    unfold fw at h2
    split at h2
    · omega
    · split at h2
      · omega
      · exact absurd rfl h2
  · omega
theorem getV_kind {o : Nat → VOb} (h : KOk o) (x j : Int) : 0 ≤ (getV o x j).1.k ∧ (getV o x j).1.k ≤ 3 := by
  unfold getV
  split
  · exact ⟨show (0 : Int) ≤ 0 by decide, show (0 : Int) ≤ 3 by decide⟩
  · rename_i i _
    split
    · exact ⟨show (0 : Int) ≤ 0 by decide, show (0 : Int) ≤ 3 by decide⟩
    · rename_i hj
      have hl : j.toNat < (o i).f.length := by omega
      have e : (o i).f.getD j.toNat zeroV = (o i).f[j.toNat] := by simp [List.getD, hl]
      show 0 ≤ ((o i).f.getD j.toNat zeroV).k ∧ ((o i).f.getD j.toNat zeroV).k ≤ 3
      rw [e]
      exact h i _ (List.getElem_mem hl)
theorem allTo_congr2 {o p : Nat → VOb} (h : ∀ i, (o i).used = (p i).used) (n : Nat) : allTo o n = allTo p n := by
  induction n with
  | zero => rfl
  | succ n ih => unfold allTo; rw [ih, h n]
/-- What is told of a set: which error, and each field of each object. -/
theorem apart_main {o : Nat → VOb} (hk : KOk o) (hkin : ∀ i, i < 64 → (o i).used = true → (o i).f.length ≤ 3) (at_ : Nat) (hat : at_ < (allV o).length) (field : Int) (v : Val) :
    (0 ≤ (setV ks14 o ((allV o).getD at_ 0) field v).2 ∧ ((setV ks14 o ((allV o).getD at_ 0) field v).2 = 0 → 0 ≤ field ∧ field < 3)) ∧
    allV (setV ks14 o ((allV o).getD at_ 0) field v).1 = allV o ∧
    ∀ i : Nat, i < (allV o).length * 3 → (¬ ((setV ks14 o ((allV o).getD at_ 0) field v).2 = 0 ∧ (i : Int) = 3 * at_ + field) → sameV ((lookL o (allV o)).getD i zeroV) ((lookL (setV ks14 o ((allV o).getD at_ 0) field v).1 (allV o)).getD i zeroV) = true) ∧
      (((setV ks14 o ((allV o).getD at_ 0) field v).2 = 0 ∧ (i : Int) = 3 * at_ + field) → sameV ((lookL (setV ks14 o ((allV o).getD at_ 0) field v).1 (allV o)).getD i zeroV) v = true) := by
  have hxm : (allV o).getD at_ 0 ∈ allV o := by
    have : (allV o).getD at_ 0 = (allV o)[at_] := by simp [List.getD, hat]
    rw [this]
    exact List.getElem_mem hat
  obtain ⟨i0, hi0, hu0, hx0⟩ := (allTo_mem o 64 _).1 hxm
  have hself : ∀ i : Nat, i < (allV o).length * 3 → sameV ((lookL o (allV o)).getD i zeroV) ((lookL o (allV o)).getD i zeroV) = true := by
    intro i hi
    have e := lookL_get o (allV o) (i / 3) (i % 3) (by omega) (by omega)
    rw [show i / 3 * 3 + i % 3 = i from by omega] at e
    have e2 : (lookL o (allV o)).getD i zeroV = (getV o ((allV o).getD (i / 3) 0) (i % 3 : Nat)).1 := by
      simp only [List.getD, e, Option.getD_some]
    rw [e2]
    have := getV_kind hk ((allV o).getD (i / 3) 0) (i % 3 : Nat)
    exact sameV_refl this.1 this.2
  have hnd := allTo_nodup o 64
  have hf0 : findV o ((allV o).getD at_ 0) = some i0 := by rw [hx0, findV_place o i0 hi0, if_pos hu0]
  have hsv : setV ks14 o ((allV o).getD at_ 0) field v = if field < 0 ∨ ((o i0).f.length : Int) ≤ field then (o, 4) else if fitsV (ks14.getD (o i0).k.toNat []) field v = true then (setO o i0 ⟨true, (o i0).k, (o i0).f.set field.toNat (toldV v)⟩, 0) else (o, 3) := by
    unfold setV
    rw [hf0]
  by_cases hj : field < 0 ∨ ((o i0).f.length : Int) ≤ field
  · rw [if_pos hj] at hsv
    rw [hsv]
    refine ⟨⟨by show (0 : Int) ≤ 4; decide, fun h => absurd h (show ¬ (4 : Int) = 0 by decide)⟩, rfl, fun i hi => ⟨fun _ => hself i hi, fun h => absurd h.1 (show ¬ (4 : Int) = 0 by decide)⟩⟩
  · rw [if_neg hj] at hsv
    by_cases hft : fitsV (ks14.getD (o i0).k.toNat []) field v = true
    · rw [if_pos hft] at hsv
      rw [hsv]
      have h3 := hkin i0 hi0 hu0
      obtain ⟨j, rfl⟩ : ∃ j : Nat, field = j := ⟨field.toNat, by omega⟩
      have hj3 : j < (o i0).f.length := by omega
      have e1 : (setO o i0 ⟨true, (o i0).k, (o i0).f.set j (toldV v)⟩) = setO o i0 ⟨true, (o i0).k, (o i0).f.set (j : Int).toNat (toldV v)⟩ := by simp
      refine ⟨⟨Int.le_refl _, fun _ => ⟨by omega, by omega⟩⟩, ?_, fun i hi => ?_⟩
      · refine allTo_congr2 (fun i => ?_) 64
        show (setO o i0 _ i).used = (o i).used
        by_cases e : i = i0
        · subst e; rw [setO_at]; exact hu0.symm
        · rw [setO_ne _ _ e]
      · show (¬ ((0 : Int) = 0 ∧ (i : Int) = 3 * at_ + j) → _) ∧ (((0 : Int) = 0 ∧ (i : Int) = 3 * at_ + j) → _)
        simp only
        rw [← e1]
        generalize hoE : setO o i0 ⟨true, (o i0).k, (o i0).f.set j (toldV v)⟩ = o'
        have g1 := lookL_get o (allV o) (i / 3) (i % 3) (by omega) (by omega)
        have g2 := lookL_get o' (allV o) (i / 3) (i % 3) (by omega) (by omega)
        rw [show i / 3 * 3 + i % 3 = i from by omega] at g1 g2
        have e2 : (lookL o (allV o)).getD i zeroV = (getV o ((allV o).getD (i / 3) 0) (i % 3 : Nat)).1 := by simp only [List.getD, g1, Option.getD_some]
        have e3 : (lookL o' (allV o)).getD i zeroV = (getV o' ((allV o).getD (i / 3) 0) (i % 3 : Nat)).1 := by simp only [List.getD, g2, Option.getD_some]
        rw [e2, e3]
        have hml : i / 3 < (allV o).length := by omega
        have hmE : (allV o).getD (i / 3) 0 = (allV o)[i / 3] := by simp [List.getD, hml]
        have haE : (allV o).getD at_ 0 = (allV o)[at_] := by simp [List.getD, hat]
        obtain ⟨im, him, hum, hxm2⟩ := (allTo_mem o 64 _).1 (show (allV o).getD (i / 3) 0 ∈ allTo o 64 by rw [hmE]; exact List.getElem_mem hml)
        by_cases em : i / 3 = at_
        · have hii : im = i0 := by
            rw [em] at hxm2
            rw [hx0] at hxm2
            omega
          rw [em, hx0]
          have q1 : getV o (-1 - (i0 : Int)) (i % 3 : Nat) = if ((i % 3 : Nat) : Int) < 0 ∨ ((o i0).f.length : Int) ≤ (i % 3 : Nat) then (zeroV, 4) else ((o i0).f.getD (i % 3) zeroV, 0) := by
            unfold getV
            rw [findV_place o i0 hi0, if_pos hu0]
            rfl
          have hu' : (o' i0).used = true := by rw [← hoE, setO_at]
          have hfl' : (o' i0).f = (o i0).f.set j (toldV v) := by rw [← hoE, setO_at]
          have q2 : getV o' (-1 - (i0 : Int)) (i % 3 : Nat) = if ((i % 3 : Nat) : Int) < 0 ∨ ((o i0).f.length : Int) ≤ (i % 3 : Nat) then (zeroV, 4) else (((o i0).f.set j (toldV v)).getD (i % 3) zeroV, 0) := by
            unfold getV
            rw [findV_place o' i0 hi0, if_pos hu']
            simp only [hfl', List.length_set]
            rfl
          by_cases ef : i % 3 = j
          · refine ⟨fun hn => absurd ⟨trivial, by omega⟩ hn, fun _ => ?_⟩
            rw [q2, ef, if_neg (by omega)]
            have : ((o i0).f.set j (toldV v)).getD j zeroV = toldV v := by simp [List.getD, hj3]
            rw [this]
            have := fits_kind hft
            exact told_same this.1 this.2
          · refine ⟨fun _ => ?_, fun hm => absurd hm.2 (by omega)⟩
            have e5 : (getV o' (-1 - (i0 : Int)) (i % 3 : Nat)).1 = (getV o (-1 - (i0 : Int)) (i % 3 : Nat)).1 := by
              rw [q1, q2]
              split
              · rfl
              · show ((o i0).f.set j (toldV v)).getD (i % 3) zeroV = (o i0).f.getD (i % 3) zeroV
                simp only [List.getD]
                rw [List.getElem?_set_ne (fun h => ef h.symm)]
            rw [e5]
            have := getV_kind hk (-1 - (i0 : Int)) (i % 3 : Nat)
            exact sameV_refl this.1 this.2
        · refine ⟨fun _ => ?_, fun hm => absurd hm.2 (by omega)⟩
          have hne : im ≠ i0 := by
            intro e
            subst e
            have : (allV o)[i / 3] = (allV o)[at_] := by rw [← hmE, ← haE, hxm2, hx0]
            rcases Nat.lt_or_gt_of_ne em with h | h
            · exact (List.pairwise_iff_getElem.1 hnd) _ _ hml hat h this
            · exact (List.pairwise_iff_getElem.1 hnd) _ _ hat hml h this.symm
          have e6 : o' im = o im := by rw [← hoE, setO_ne _ _ hne]
          rw [hxm2]
          have e5 : getV o' (-1 - (im : Int)) (i % 3 : Nat) = getV o (-1 - (im : Int)) (i % 3 : Nat) := by
            unfold getV
            rw [findV_place o' im him, findV_place o im him, e6, if_pos hum]
            simp only [e6]
          rw [e5]
          have := getV_kind hk (-1 - (im : Int)) (i % 3 : Nat)
          exact sameV_refl this.1 this.2
    · rw [if_neg hft] at hsv
      rw [hsv]
      refine ⟨⟨by show (0 : Int) ≤ 3; decide, fun h => absurd h (show ¬ (3 : Int) = 0 by decide)⟩, rfl, fun i hi => ⟨fun _ => hself i hi, fun h => absurd h.1 (show ¬ (3 : Int) = 0 by decide)⟩⟩
end Go.Proofs.Ytcnbcidbbeadcaa

/- The document's volatile objects: Remove, Set. -/



namespace Go.Proofs.Ytcnbcidbbeadcaa
open Go.RowKit Go.Deep
set_option linter.unusedVariables false

theorem voC_setG (kv : Value) (o : Nat → VOb) (Kd : Nat → Int) (G : Nat → Value) (i : Nat) (hi : i < 64) (ob : VOb) (v : Value) (hu : ob.used = (o i).used) :
    (voC kv o Kd G).set (129 + i) v = voC kv (setO o i ob) (setO Kd i (Kd i)) (setO G i v) := by
  rw [← voC_set kv o Kd G i hi ob (Kd i) v]
  have e1 : (voC kv o Kd G).set (1 + i) (.bool ob.used) = voC kv o Kd G := set_same (by
    rw [voC_get _ _ _ _ _ (by omega)]
    unfold voF
    rw [if_neg (by omega), if_pos (by omega), show 1 + i - 1 = i from by omega, hu])
  have e2 : (voC kv o Kd G).set (65 + i) (.int .i64 (Kd i)) = voC kv o Kd G := set_same (by
    rw [voC_get _ _ _ _ _ (by omega)]
    unfold voF
    rw [if_neg (by omega), if_neg (by omega), if_pos (by omega), show 65 + i - 65 = i from by omega])
  rw [e1, e2]
theorem voC_setN (kv : Value) (o : Nat → VOb) (Kd : Nat → Int) (G : Nat → Value) (i : Nat) (hi : i < 64) :
    ((voC kv o Kd G).set (1 + i) (.bool false)).set (129 + i) (.slice none 0 0) = voC kv (setO o i noOb) (setO Kd i (Kd i)) (setO G i (.slice none 0 0)) := by
  rw [← voC_set kv o Kd G i hi noOb (Kd i) (.slice none 0 0)]
  have e2 : ((voC kv o Kd G).set (1 + i) (.bool false)).set (65 + i) (.int .i64 (Kd i)) = (voC kv o Kd G).set (1 + i) (.bool false) := set_same (by
    rw [List.getElem?_set_ne (by omega), voC_get _ _ _ _ _ (by omega)]
    unfold voF
    rw [if_neg (by omega), if_neg (by omega), if_pos (by omega), show 65 + i - 65 = i from by omega])
  show _ = (((voC kv o Kd G).set (1 + i) (.bool false)).set (65 + i) (.int .i64 (Kd i))).set (129 + i) (.slice none 0 0)
  rw [e2]
set_option maxRecDepth 100000 in
set_option maxHeartbeats 2000000 in
theorem vo_Remove {w : World} {m : Nat} {T : Nat → Prop} {ks : List (List Int)} {o : Nat → VOb} {kv : Value} {Kd : Nat → Int} {G : Nat → Value} (h : IsVo w m T ks o kv Kd G) (x : Int) :
    Calls Try.prog 73 #[.pointer (some ⟨m, 0, none⟩), .int .i64 x] w (VoRm w m T ks kv (removeV o x) (.bool (findV o x).isSome)) := by
  have hf := vo_At h x
  unfold atV at hf
  unfold removeV
  cases hfv : findV o x with
  | none =>
    rw [hfv] at hf
    have hf := Lib.hid (show Calls Try.prog 45 #[.pointer (some ⟨m, 0, none⟩), .int .i64 x] w (Same w (.int .i64 (-1))) from hf)
    show Calls _ _ _ _ (VoRm w m T ks kv o (.bool false))
    have hH := Lib.hid h
    clear h hfv
    go_enter Try.func73, Try.ntmps73
    go_wp2_with (go_at_call 45; (with_reducible refine hf.out.mono ?_); rintro e w2 ⟨rfl, rfl⟩)
    go_ret
    exact ⟨rfl, ⟨Kd, G, hH.out⟩, Upd.refl _ _⟩
  | some i =>
    rw [hfv] at hf
    obtain ⟨hi, hus, -⟩ := findV_some hfv
    have hf := Lib.hid (show Calls Try.prog 45 #[.pointer (some ⟨m, 0, none⟩), .int .i64 x] w (Same w (.int .i64 (i : Int))) from hf)
    show Calls _ _ _ _ (VoRm w m T ks kv (setO o i noOb) (.bool true))
    obtain ⟨-, c1, -, c3⟩ := h.cell i hi
    have f1 := h.blk.free (1 + i)
    have f3 := h.blk.free (129 + i)
    have hi1 : (i : Int) < 64 := by omega
    have hi2 : ¬ (i : Int) < 0 := by omega
    have fin := Lib.hid (fun w' (hw : w' = (w.setCell ⟨m, 1 + i, none⟩ (.bool false)).setCell ⟨m, 129 + i, none⟩ (.slice none 0 0) ∨ w' = ((w.drew).setCell ⟨m, 1 + i, none⟩ (.bool false)).setCell ⟨m, 129 + i, none⟩ (.slice none 0 0)) => show VoRm w m T ks kv (setO o i noOb) (.bool true) (.returned (.bool true)) w' from by
      have key : ∀ w0, Upd (fun _ => False) w w0 → VoRm w m T ks kv (setO o i noOb) (.bool true) (.returned (.bool true)) ((w0.setCell ⟨m, 1 + i, none⟩ (.bool false)).setCell ⟨m, 129 + i, none⟩ (.slice none 0 0)) := fun w0 u0 => by
        have h0 := h.still u0
        have hb := (h0.blk.set (1 + i) (.bool false)).set (129 + i) (.slice none 0 0)
        rw [voC_setN kv o Kd G i hi] at hb
        have u3 := ((Upd.refl (fun j => j = m) w0).at (1 + i) (.bool false)).at (129 + i) (.slice none 0 0)
        exact ⟨rfl, ⟨_, _, h0.put hi noOb (Kd i) (.slice none 0 0) hb u3 (fun hh => by cases hh) (fun hh => by cases hh)⟩, (u0.mono (fun _ _ x => x.elim)).trans u3⟩
      rcases hw with rfl | rfl
      · exact key w (Upd.refl _ _)
      · exact key w.drew ((Upd.refl _ _).drew))
    clear h hfv hus
    go_enter Try.func73, Try.ntmps73
    go_wp2_with (go_at_call 45; (with_reducible refine hf.out.mono ?_); rintro e w2 ⟨rfl, rfl⟩)
    go_region
    all_goals
      go_wp2_with fail
      go_ret
      first
        | exact fin.out _ (Or.inl rfl)
        | exact fin.out _ (Or.inr rfl)
end Go.Proofs.Ytcnbcidbbeadcaa

