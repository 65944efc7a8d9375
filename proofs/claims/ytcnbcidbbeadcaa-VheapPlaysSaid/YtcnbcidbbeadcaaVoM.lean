/- The document's volatile objects in memory. -/
import Derived.Test.YtcnbcidbbeadcaaVhNw
import Derived.Deep.RegionWith
-- merged


namespace Go.Proofs.Ytcnbcidbbeadcaa
open Go.RowKit Go.Deep
set_option linter.unusedVariables false

def voF (kv : Value) (o : Nat → VOb) (Kd : Nat → Int) (G : Nat → Value) (j : Nat) : Value :=
  if j = 0 then kv else if j < 65 then .bool (o (j - 1)).used else if j < 129 then .int .i64 (Kd (j - 65)) else G (j - 129)
def voC (kv : Value) (o : Nat → VOb) (Kd : Nat → Int) (G : Nat → Value) : List Value := (List.range 193).map (voF kv o Kd G)
theorem voC_get (kv : Value) (o : Nat → VOb) (Kd : Nat → Int) (G : Nat → Value) (j : Nat) (hj : j < 193) : (voC kv o Kd G)[j]? = some (voF kv o Kd G j) := by
  unfold voC
  rw [List.getElem?_map, List.getElem?_range hj]
  rfl
theorem voC_len (kv : Value) (o : Nat → VOb) (Kd : Nat → Int) (G : Nat → Value) : (voC kv o Kd G).length = 193 := by simp [voC]
/-- The document's volatile objects: block m; what may turn is in T. -/
structure IsVo (w : World) (m : Nat) (T : Nat → Prop) (ks : List (List Int)) (o : Nat → VOb) (kv : Value) (Kd : Nat → Int) (G : Nat → Value) : Prop where
  blk : Blk w m (voC kv o Kd G) 75
  self : T m
  lt : ∀ j, T j → j < w.heap.size
  kinds : ∀ w', Upd T w w' → MatIn w' kv ks
  row : ∀ i, i < 64 → (o i).used = true → ∀ w', Upd T w w' → ValsR w' (G i) (o i).f
  kd : ∀ i, i < 64 → (o i).used = true → Kd i = (o i).k
theorem IsVo.cell {w : World} {m : Nat} {T : Nat → Prop} {ks : List (List Int)} {o : Nat → VOb} {kv : Value} {Kd : Nat → Int} {G : Nat → Value} (h : IsVo w m T ks o kv Kd G) (i : Nat) (hi : i < 64) :
    w.cell? ⟨m, 0, none⟩ = some kv ∧ w.cell? ⟨m, 1 + i, none⟩ = some (.bool (o i).used) ∧ w.cell? ⟨m, 65 + i, none⟩ = some (.int .i64 (Kd i)) ∧ w.cell? ⟨m, 129 + i, none⟩ = some (G i) := by
  refine ⟨h.blk.cell 0 (voC_get kv o Kd G 0 (by decide)), ?_, ?_, ?_⟩
  · rw [h.blk.cell (1 + i) (voC_get kv o Kd G (1 + i) (by omega))]
    unfold voF
    rw [if_neg (by omega), if_pos (by omega), show 1 + i - 1 = i from by omega]
  · rw [h.blk.cell (65 + i) (voC_get kv o Kd G (65 + i) (by omega))]
    unfold voF
    rw [if_neg (by omega), if_neg (by omega), if_pos (by omega), show 65 + i - 65 = i from by omega]
  · rw [h.blk.cell (129 + i) (voC_get kv o Kd G (129 + i) (by omega))]
    unfold voF
    rw [if_neg (by omega), if_neg (by omega), if_neg (by omega), show 129 + i - 129 = i from by omega]
theorem IsVo.still {w w' : World} {m : Nat} {T : Nat → Prop} {ks : List (List Int)} {o : Nat → VOb} {kv : Value} {Kd : Nat → Int} {G : Nat → Value} (h : IsVo w m T ks o kv Kd G) (u : Upd (fun _ => False) w w') : IsVo w' m T ks o kv Kd G := by
  have u2 : Upd T w w' := u.mono (fun _ _ x => x.elim)
  exact ⟨h.blk.upd u (fun x => x), h.self, fun j hj => Nat.lt_of_lt_of_le (h.lt j hj) u.size, fun w2 k => h.kinds w2 (u2.trans k), fun i hi hu w2 k => h.row i hi hu w2 (u2.trans k), h.kd⟩
/-- Other blocks turn; another set of them may turn from then on. -/
theorem IsVo.shift {w w' : World} {m : Nat} {T T' : Nat → Prop} {ks : List (List Int)} {o : Nat → VOb} {kv : Value} {Kd : Nat → Int} {G : Nat → Value} (h : IsVo w m T ks o kv Kd G) {S : Nat → Prop} (u : Upd S w w') (hS : ∀ j, S j → T j ∧ j ≠ m) (hm : T' m) (hl : ∀ j, T' j → j < w'.heap.size) (hT : ∀ j, j < w.heap.size → T' j → T j) : IsVo w' m T' ks o kv Kd G := by
  exact ⟨h.blk.upd u (fun x => (hS m x).2 rfl), hm, hl, fun w2 k => h.kinds w2 (u.comp k (fun i _ e => (hS i e).1) (fun i hi e => hT i hi e)), fun i hi hu w2 k => h.row i hi hu w2 (u.comp k (fun i _ e => (hS i e).1) (fun i hi e => hT i hi e)), h.kd⟩
theorem voC_set (kv : Value) (o : Nat → VOb) (Kd : Nat → Int) (G : Nat → Value) (i : Nat) (hi : i < 64) (ob : VOb) (kn : Int) (v : Value) :
    (((voC kv o Kd G).set (1 + i) (.bool ob.used)).set (65 + i) (.int .i64 kn)).set (129 + i) v = voC kv (setO o i ob) (setO Kd i kn) (setO G i v) := by
  apply List.ext_getElem?
  intro t
  by_cases ht : t < 193
  · rw [voC_get _ _ _ _ t ht]
    have hl := voC_len kv o Kd G
    by_cases e1 : t = 129 + i
    · subst e1
      rw [List.getElem?_set_self (by simp [hl]; omega)]
      unfold voF
      rw [if_neg (by omega), if_neg (by omega), if_neg (by omega), show 129 + i - 129 = i from by omega, setO_at]
    · rw [List.getElem?_set_ne (fun h => e1 h.symm)]
      by_cases e2 : t = 65 + i
      · subst e2
        rw [List.getElem?_set_self (by simp [hl]; omega)]
        unfold voF
        rw [if_neg (by omega), if_neg (by omega), if_pos (by omega), show 65 + i - 65 = i from by omega, setO_at]
      · rw [List.getElem?_set_ne (fun h => e2 h.symm)]
        by_cases e3 : t = 1 + i
        · subst e3
          rw [List.getElem?_set_self (by simp [hl]; omega)]
          unfold voF
          rw [if_neg (by omega), if_pos (by omega), show 1 + i - 1 = i from by omega, setO_at]
        · rw [List.getElem?_set_ne (fun h => e3 h.symm), voC_get _ _ _ _ t ht]
          unfold voF
          by_cases c0 : t = 0
          · rw [if_pos c0, if_pos c0]
          · rw [if_neg c0, if_neg c0]
            by_cases c1 : t < 65
            · rw [if_pos c1, if_pos c1, setO_ne _ _ (show t - 1 ≠ i by omega)]
            · rw [if_neg c1, if_neg c1]
              by_cases c2 : t < 129
              · rw [if_pos c2, if_pos c2, setO_ne _ _ (show t - 65 ≠ i by omega)]
              · rw [if_neg c2, if_neg c2, setO_ne _ _ (show t - 129 ≠ i by omega)]
  · rw [List.getElem?_eq_none (by simp [voC_len]; omega), List.getElem?_eq_none (by simp [voC_len]; omega)]
theorem set_same {l : List Value} {t : Nat} {v : Value} (h : l[t]? = some v) : l.set t v = l := by
  apply List.ext_getElem?
  intro s
  by_cases e : t = s
  · subst e
    have : t < l.length := (List.getElem?_eq_some_iff.1 h).1
    rw [List.getElem?_set_self this, h]
  · rw [List.getElem?_set_ne e]
/-- One object is put anew. -/
theorem IsVo.put {w w' : World} {m : Nat} {T : Nat → Prop} {ks : List (List Int)} {o : Nat → VOb} {kv : Value} {Kd : Nat → Int} {G : Nat → Value} (h : IsVo w m T ks o kv Kd G) {i : Nat} (hi : i < 64) (ob : VOb) (kn : Int) (v : Value)
    (hb : Blk w' m (voC kv (setO o i ob) (setO Kd i kn) (setO G i v)) 75) (u : Upd (fun j => j = m) w w') (hv : ob.used = true → ∀ w2, Upd T w' w2 → ValsR w2 v ob.f) (hk : ob.used = true → kn = ob.k) :
    IsVo w' m T ks (setO o i ob) kv (setO Kd i kn) (setO G i v) := by
  have u2 : Upd T w w' := u.mono (fun j _ e => by rw [e]; exact h.self)
  refine ⟨hb, h.self, fun j hj => Nat.lt_of_lt_of_le (h.lt j hj) u.size, fun w2 k => h.kinds w2 (u2.trans k), fun k hk2 hu w2 uu => ?_, fun k hk2 hu => ?_⟩
  · by_cases e : k = i
    · subst e
      rw [setO_at] at hu ⊢
      rw [setO_at]
      exact hv hu w2 uu
    · rw [setO_ne _ _ e] at hu ⊢
      rw [setO_ne _ _ e]
      exact h.row k hk2 hu w2 (u2.trans uu)
  · by_cases e : k = i
    · subst e
      rw [setO_at] at hu ⊢
      rw [setO_at]
      exact hk hu
    · rw [setO_ne _ _ e] at hu ⊢
      rw [setO_ne _ _ e]
      exact h.kd k hk2 hu
def atV (o : Nat → VOb) (x : Int) : Int := match findV o x with
  | none => -1
  | some i => i
set_option maxRecDepth 100000 in
theorem vo_At {w : World} {m : Nat} {T : Nat → Prop} {ks : List (List Int)} {o : Nat → VOb} {kv : Value} {Kd : Nat → Int} {G : Nat → Value} (h : IsVo w m T ks o kv Kd G) (x : Int) :
    Calls Try.prog 45 #[.pointer (some ⟨m, 0, none⟩), .int .i64 x] w (Same w (.int .i64 (atV o x))) := by
  unfold atV
  by_cases x0 : 0 ≤ x
  · have hf : findV o x = none := by unfold findV; rw [if_neg (by omega)]
    rw [hf]
    clear hf h
    go_enter Try.func45, Try.ntmps45
    go_wp2
    go_ret
    exact ⟨rfl, rfl⟩
  · by_cases x1 : x < -64
    · have hf : findV o x = none := by unfold findV; rw [if_neg (by omega)]
      rw [hf]
      clear hf h
      go_enter Try.func45, Try.ntmps45
      go_wp2
      go_ret
      exact ⟨rfl, rfl⟩
    · have hi : (-1 - x).toNat < 64 := by omega
      have c0 := (h.cell (-1 - x).toNat hi).2.1
      have hf : findV o x = if (o (-1 - x).toNat).used = true then some (-1 - x).toNat else none := by
        unfold findV
        by_cases hu : (o (-1 - x).toNat).used = true
        · rw [if_pos ⟨by omega, by omega, hu⟩, if_pos hu]
        · rw [if_neg (fun h => hu h.2.2), if_neg hu]
      rw [hf]
      have n1 : x < 0 := by omega
      have n2 : -64 ≤ x := by omega
      have e2 : (((-1 - x).toNat : Nat) : Int) = -1 - x := by omega
      clear h hf x0 x1
      cases hu : (o (-1 - x).toNat).used with
      | false =>
        rw [hu] at c0
        rw [if_neg (by decide)]
        clear hu
        go_enter Try.func45, Try.ntmps45
        go_wp2
        go_ret
        exact ⟨rfl, rfl⟩
      | true =>
        rw [hu] at c0
        rw [if_pos rfl]
        show Calls _ _ _ _ (Same w (.int .i64 (((-1 - x).toNat : Nat) : Int)))
        rw [e2]
        clear hu e2
        go_enter Try.func45, Try.ntmps45
        go_wp2
        go_ret
        exact ⟨rfl, rfl⟩
end Go.Proofs.Ytcnbcidbbeadcaa

/- The document's KindAt, Fits and Plain. -/

namespace Go.Proofs.Ytcnbcidbbeadcaa
open Go.RowKit Go.Deep
set_option linter.unusedVariables false

def RetOf2 (w0 w : World) (o : Option (List Int)) (e : Ending) (w' : World) : Prop :=
  Upd (fun _ => False) w w' ∧ ((∃ f v, o = some f ∧ IntsR w0 v .i64 f ∧ e = .returned (.tuple #[.agg #[v], .bool true])) ∨ (o = none ∧ e = .returned (.tuple #[.agg #[.slice none 0 0], .bool false])))
set_option maxRecDepth 100000 in
set_option maxHeartbeats 1000000 in
theorem ref_kindOf2 (v : Value) (ks : List (List Int)) (k : Int) (w0 w : World) (hM0 : MatIn w0 v ks) (u0 : Upd (fun _ => False) w0 w) : Calls Try.prog 51 #[v, .int .i64 k] w (RetOf2 w0 w (ofK ks k)) := by
  have ho : ofK ks k = if 0 ≤ k ∧ k < ks.length ∧ k < 16 ∧ MayK (ks.getD k.toNat []) = true then some (ks.getD k.toNat []) else none := rfl
  have hu : Upd (fun _ => False) w (w.alloc (.cells #[.slice none 0 0] 68)) := (Upd.refl _ _).alloc _
  have hbad := Lib.hid (fun (h : ofK ks k = none) w' (u : Upd (fun _ => False) w w') => show RetOf2 w0 w (ofK ks k) (.returned (.tuple #[.agg #[.slice none 0 0], .bool false])) w' from ⟨u, Or.inr ⟨h, rfl⟩⟩)
  obtain ⟨H, hR0, hrows0⟩ := hM0
  have hR := RowsIn.upd hR0 u0.none
  have hrows := fun y hy => ints_upd (hrows0 y hy) u0
  clear hR0
  have hX := Lib.hid hR
  obtain ⟨a, cap, rfl, hcap1, hcap, -⟩ := hR
  have l1 : (ks.length : Int) ≤ 9223372036854775807 := by unfold maxLen at hcap; omega
  by_cases k0 : k < 0
  · rw [if_neg (fun h => by omega)] at ho
    have fin := Lib.hid (hbad.out ho)
    clear ho hcap hcap1 hrows hrows0 l1
    have Hhu := Lib.hid hu; clear hu
    go_enter Try.func51, Try.ntmps51
    go_wp2
    refine bodyPost_ret (v := .tuple #[.agg #[.slice none 0 0], .bool false]) ?_ rfl ?_
    · rw [results_cell_tmp rfl]; go_simp
    · first | exact fin.out _ Hhu.out | exact fin.out _ (Upd.setCell Hhu.out (fun h => absurd (show w.heap.size < w.heap.size from h) (by omega)) _)
  · by_cases k1 : k < ks.length
    · have k1' : ¬ k ≥ (ks.length : Int) := by omega
      by_cases k2 : k < 16
      · obtain ⟨y, rfl⟩ : ∃ y : Nat, k = y := ⟨k.toNat, by omega⟩
        have hy : y < ks.length := by omega
        obtain ⟨b0, off, hix, hb0, hc⟩ := hX.out.index (P := Try.prog) Try.underlying22 (by kernel_rfl) (by kernel_rfl) hy
        simp only [Nat.mul_one] at hix hc
        have hc0 : (w.alloc (.cells #[.slice none 0 0] 68)).cell? ⟨b0, off + y, none⟩ = some (H y) := (hu.none.cell (p := ⟨b0, off + y, none⟩) hb0).trans (hc 0 (by decide))
        have hf := hrows y hy
        have hf0 := hrows0 y hy
        have hsh : ∃ va vc, H y = .slice va (ks.getD y []).length vc := by
          obtain ⟨va, vc, h1, -⟩ := hf
          exact ⟨va, vc, h1⟩
        have hm := Lib.hid (ref_MayKind (H y) _ _ (ints_upd hf hu))
        have k16 : ¬ (y : Int) ≥ 16 := by omega
        have k15 : ¬ (15 : Int) < (y : Int) := by omega
        rw [show (y : Int).toNat = y from by omega] at ho
        by_cases hMay : MayK (ks.getD y []) = true
        · rw [if_pos ⟨by omega, by omega, by omega, hMay⟩] at ho
          rw [hMay] at hm
          have fin := Lib.hid (fun w' (u : Upd (fun _ => False) w w') => show RetOf2 w0 w (ofK ks y) (.returned (.tuple #[.agg #[H y], .bool true])) w' from ⟨u, Or.inl ⟨_, _, ho, hf0, rfl⟩⟩)
          clear ho hcap hcap1 hrows hrows0 hc hf hf0 hMay hbad
          generalize H y = vv at *
          obtain ⟨va, vc, rfl⟩ := hsh
          generalize (ks.getD y []).length = vn at *
          generalize ofK ks y = oo at *
          generalize ks.getD y [] = ff at *
          have Hhu := Lib.hid hu; clear hu
          go_enter Try.func51, Try.ntmps51
          go_wp2_with (go_at_call 84; (with_reducible refine hm.out.mono ?_); rintro e w' ⟨rfl, hu1⟩; have hc1 : w'.cell? ⟨b0, off + y, none⟩ = some (.slice va vn vc) := (hu1.none.cell (p := ⟨b0, off + y, none⟩) (Nat.lt_of_lt_of_le hb0 Hhu.out.size)).trans hc0; have hT1 := Blk.upd (Blk.new w [.slice none 0 0] 68) hu1 (fun h => h); have hT2 := Blk.cell hT1 0 rfl; have hT3 := Blk.free hT1 0)
          refine bodyPost_ret (v := .tuple #[.agg #[.slice va vn vc], .bool true]) ?_ rfl ?_
          · rw [results_cell_tmp rfl]; go_simp
          · exact fin.out _ (Upd.setCell (Hhu.out.trans (by assumption)) (fun h => absurd (show w.heap.size < w.heap.size from h) (by omega)) _)
        · rw [if_neg (fun h => hMay h.2.2.2)] at ho
          rw [show MayK (ks.getD y []) = false from by simpa using hMay] at hm
          have fin := Lib.hid (hbad.out ho)
          clear ho hcap hcap1 hrows hrows0 hc hf hf0 hMay hbad
          generalize H y = vv at *
          obtain ⟨va, vc, rfl⟩ := hsh
          generalize (ks.getD y []).length = vn at *
          generalize ofK ks y = oo at *
          generalize ks.getD y [] = ff at *
          have Hhu := Lib.hid hu; clear hu
          go_enter Try.func51, Try.ntmps51
          go_wp2_with (go_at_call 84; (with_reducible refine hm.out.mono ?_); rintro e w' ⟨rfl, hu1⟩; have hT1 := Blk.upd (Blk.new w [.slice none 0 0] 68) hu1 (fun h => h); have hT2 := Blk.cell hT1 0 rfl; have hT3 := Blk.free hT1 0)
          refine bodyPost_ret (v := .tuple #[.agg #[.slice none 0 0], .bool false]) ?_ rfl ?_
          · rw [results_cell_tmp rfl]; go_simp
          · exact fin.out _ (Upd.setCell (Hhu.out.trans (by assumption)) (fun h => absurd (show w.heap.size < w.heap.size from h) (by omega)) _)
      · rw [if_neg (fun h => k2 h.2.2.1)] at ho
        have k16 : (16 : Int) ≤ k := by omega
        have k17 : (15 : Int) < k := by omega
        have fin := Lib.hid (hbad.out ho)
        clear ho hcap hcap1 hrows hrows0 l1 k2
        have Hhu := Lib.hid hu; clear hu
        go_enter Try.func51, Try.ntmps51
        go_wp2
        refine bodyPost_ret (v := .tuple #[.agg #[.slice none 0 0], .bool false]) ?_ rfl ?_
        · rw [results_cell_tmp rfl]; go_simp
        · first | exact fin.out _ Hhu.out | exact fin.out _ (Upd.setCell Hhu.out (fun h => absurd (show w.heap.size < w.heap.size from h) (by omega)) _)
    · rw [if_neg (fun h => k1 h.2.1)] at ho
      have k1' : (ks.length : Int) ≤ k := by omega
      have fin := Lib.hid (hbad.out ho)
      clear ho hcap hcap1 hrows hrows0 l1 k1
      have Hhu := Lib.hid hu; clear hu
      go_enter Try.func51, Try.ntmps51
      go_wp2
      refine bodyPost_ret (v := .tuple #[.agg #[.slice none 0 0], .bool false]) ?_ rfl ?_
      · rw [results_cell_tmp rfl]; go_simp
      · first | exact fin.out _ Hhu.out | exact fin.out _ (Upd.setCell Hhu.out (fun h => absurd (show w.heap.size < w.heap.size from h) (by omega)) _)
set_option maxRecDepth 100000 in
theorem ref_KindAt (v : Value) (ks : List (List Int)) (k : Int) (w : World) (hM : MatIn w v ks) : Calls Try.prog 93 #[v, .int .i64 k] w (RetOf2 w w (ofK ks k)) := by
  obtain ⟨va, vc, rfl⟩ := mat_shape hM
  have hu : Upd (fun _ => False) w (w.alloc (.cells #[.slice none 0 0] 68)) := (Upd.refl _ _).alloc _
  have hB := Lib.hid (Blk.new w [.slice none 0 0] 68)
  have hof := Lib.hid (ref_kindOf2 _ ks k w _ hM hu)
  clear hM
  unfold RetOf2 at hof
  cases ho : ofK ks k with
  | none =>
    have hof2 := hof.out
    rw [ho] at hof2
    have hof2 := Lib.hid (hof2.mono (fun e w' hh => (show e = .returned (.tuple #[.agg #[.slice none 0 0], .bool false]) ∧ Upd (fun _ => False) _ w' from by
      obtain ⟨u, h | h⟩ := hh
      · obtain ⟨f, v, h1, -⟩ := h
        cases h1
      · exact ⟨h.2, u⟩)))
    clear hof ho
    have Hhu := Lib.hid hu; clear hu
    go_enter Try.func93, Try.ntmps93
    go_wp2_with (go_at_call 51; (with_reducible refine hof2.out.mono ?_); rintro e w2 ⟨rfl, hu2⟩; have hT := hB.out.upd hu2 (fun h => h); have c0 := hT.cell 0 rfl; have f0 := hT.free 0; have Hu2 := Lib.hid hu2; clear hT hu2)
    refine bodyPost_ret (v := .tuple #[.agg #[.slice none 0 0], .bool false]) ?_ rfl ?_
    · rw [results_cell_tmp rfl]; go_simp
    · exact ⟨Upd.setCell (Hhu.out.trans Hu2.out) (fun h => absurd (show w.heap.size < w.heap.size from h) (by omega)) _, Or.inr ⟨rfl, rfl⟩⟩
  | some f =>
    have hof2 := hof.out
    rw [ho] at hof2
    have hof2 := Lib.hid (hof2.mono (fun e w' hh => (show ∃ fa fc, e = .returned (.tuple #[.agg #[.slice fa f.length fc], .bool true]) ∧ IntsR w (.slice fa f.length fc) .i64 f ∧ Upd (fun _ => False) _ w' from by
      obtain ⟨u, h | h⟩ := hh
      · obtain ⟨f', v, h1, h2, h3⟩ := h
        cases h1
        obtain ⟨fa, fc, rfl⟩ : ∃ fa fc, v = .slice fa f.length fc := by
          obtain ⟨fa, fc, h4, -⟩ := h2
          exact ⟨fa, fc, h4⟩
        exact ⟨fa, fc, h3, h2, u⟩
      · cases h.1)))
    clear hof ho
    have Hhu := Lib.hid hu; clear hu
    go_enter Try.func93, Try.ntmps93
    go_wp2_with (go_at_call 51; (with_reducible refine hof2.out.mono ?_); rintro e w2 ⟨fa, fc, rfl, hI2, hu2⟩; have hT := hB.out.upd hu2 (fun h => h); have c0 := hT.cell 0 rfl; have f0 := hT.free 0; have Hu2 := Lib.hid hu2; have HT := Lib.hid hT; have HI2 := Lib.hid hI2; clear hT hu2 hI2)
    refine bodyPost_ret (v := .tuple #[.agg #[.slice fa f.length fc], .bool true]) ?_ rfl ?_
    · rw [results_cell_tmp rfl]; go_simp
    · exact ⟨Upd.setCell (Hhu.out.trans Hu2.out) (fun h => absurd (show w.heap.size < w.heap.size from h) (by omega)) _, Or.inl ⟨f, _, rfl, HI2.out, rfl⟩⟩
set_option maxRecDepth 100000 in
set_option maxHeartbeats 2000000 in
theorem ref_Plain (x : Val) (hx : 0 ≤ x.k ∧ x.k ≤ 3) (w : World) : Calls Try.prog 95 #[x.v] w (RetU w (toldV x).v) := by
  obtain ⟨a, n, re, im, r⟩ := x
  simp only at hx
  show Calls _ _ #[.agg #[.int .i64 a, .int .i64 n, .int .u64 (re : Int), .int .u64 (im : Int), .int .i64 r]] _ _
  unfold toldV
  simp only
  have h4 : a = 0 ∨ a = 1 ∨ a = 2 ∨ a = 3 := by omega
  clear hx
  rcases h4 with rfl | rfl | rfl | rfl
  · rw [if_neg (by decide), if_neg (by decide), if_neg (by decide)]
    go_enter Try.func95, Try.ntmps95
    go_wp2
    refine bodyPost_ret (v := .agg #[.int .i64 0, .int .i64 0, .int .u64 0, .int .u64 0, .int .i64 0]) ?_ rfl ?_
    · rw [results_cell1 rfl]; go_simp
    · exact ⟨rfl, ((Upd.refl _ _).alloc _).alloc _⟩
  · rw [if_pos rfl]
    go_enter Try.func95, Try.ntmps95
    go_wp2
    refine bodyPost_ret (v := .agg #[.int .i64 1, .int .i64 n, .int .u64 0, .int .u64 0, .int .i64 0]) ?_ rfl ?_
    · rw [results_cell1 rfl]; go_simp
    · exact ⟨rfl, ((Upd.refl _ _).alloc _).alloc _⟩
  · rw [if_neg (by decide), if_pos rfl]
    go_enter Try.func95, Try.ntmps95
    go_wp2
    refine bodyPost_ret (v := .agg #[.int .i64 2, .int .i64 0, .int .u64 (re : Int), .int .u64 (im : Int), .int .i64 0]) ?_ rfl ?_
    · rw [results_cell1 rfl]; go_simp
    · exact ⟨rfl, ((Upd.refl _ _).alloc _).alloc _⟩
  · rw [if_neg (by decide), if_neg (by decide), if_pos rfl]
    go_enter Try.func95, Try.ntmps95
    go_wp2
    refine bodyPost_ret (v := .agg #[.int .i64 3, .int .i64 0, .int .u64 0, .int .u64 0, .int .i64 r]) ?_ rfl ?_
    · rw [results_cell1 rfl]; go_simp
    · exact ⟨rfl, ((Upd.refl _ _).alloc _).alloc _⟩
theorem fitsV_eq (f : List Int) (i : Nat) (x : Val) (hi : i < f.length) : fitsV f i x = ((x.k == f.getD i 0) && decide (1 ≤ f.getD i 0) && decide (f.getD i 0 ≤ 3) || ((x.k == 0) && (f.getD i 0 == 3))) := by
  unfold fitsV
  rw [show (i : Int).toNat = i from by omega, Bool.eq_iff_iff]
  generalize f.getD i 0 = y
  simp only [decide_eq_true_eq, Bool.or_eq_true, Bool.and_eq_true, beq_iff_eq]
  unfold fw
  constructor
  · rintro ⟨-, -, h1, h2⟩
    rcases h2 with h2 | h2
    · left
      split at h1
      · rename_i h3; exact ⟨⟨h2, by omega⟩, by omega⟩
      · split at h1
        · rename_i h3; exact ⟨⟨h2, by omega⟩, by omega⟩
        · exact absurd rfl h1
    · exact Or.inr h2
  · intro h
    refine ⟨by omega, by omega, ?_, ?_⟩
    · rcases h with ⟨⟨-, h1⟩, h2⟩ | ⟨-, h1⟩
      · have : y = 1 ∨ y = 2 ∨ y = 3 := by omega
        rcases this with rfl | rfl | rfl <;> decide
      · subst h1; decide
    · rcases h with ⟨⟨h0, -⟩, -⟩ | h
      · exact Or.inl h0
      · exact Or.inr h
set_option maxRecDepth 100000 in
set_option maxHeartbeats 2000000 in
theorem ref_Fits (v : Value) (f : List Int) (i : Nat) (x : Val) (w : World) (hv : IntsR w v .i64 f) (hi : i < f.length) : Calls Try.prog 94 #[.agg #[v], .int .i64 i, x.v] w (RetU w (.bool (fitsV f i x))) := by
  rw [fitsV_eq f i x hi]
  obtain ⟨a, n, re, im, r⟩ := x
  simp only
  show Calls _ _ #[.agg #[v], .int .i64 i, .agg #[.int .i64 a, .int .i64 n, .int .u64 (re : Int), .int .u64 (im : Int), .int .i64 r]] _ _
  obtain ⟨b1, o1, hix, hb1, hy⟩ := RowsIn.index (P := Try.prog) hv Try.underlying52 (by kernel_rfl) (by kernel_rfl) hi
  simp only [Nat.mul_one] at hix hy
  obtain ⟨va, vc, rfl, hc1, hc2, -⟩ := hv
  have l1 : (f.length : Int) ≤ 9223372036854775807 := by unfold maxLen at hc2; omega
  have hi1 : (i : Int) < f.length := by omega
  have hu : Upd (fun _ => False) w ((w.alloc (.cells #[.slice va f.length vc] 68)).alloc (.cells #[.int .i64 a, .int .i64 n, .int .u64 (re : Int), .int .u64 (im : Int), .int .i64 r] 26)) := ((Upd.refl _ _).alloc _).alloc _
  have hc0 : ((w.alloc (.cells #[.slice va f.length vc] 68)).alloc (.cells #[.int .i64 a, .int .i64 n, .int .u64 (re : Int), .int .u64 (im : Int), .int .i64 r] 26)).cell? ⟨b1, o1 + i, none⟩ = some (.int .i64 (f.getD i 0)) := (hu.none.cell (p := ⟨b1, o1 + i, none⟩) hb1).trans (hy 0 (by decide))
  generalize f.getD i 0 = y at *
  have Hhu := Lib.hid hu; clear hu
  clear hc1 hc2 hy hi
  cases e1 : (a == y) with
  | true =>
    cases e2 : decide (1 ≤ y) with
    | true =>
      cases e3 : decide (y ≤ 3) with
      | true =>
        go_enter Try.func94, Try.ntmps94
        go_wp2
        go_ret
        exact ⟨rfl, Hhu.out⟩
      | false =>
        cases e4 : (a == 0) with
        | true =>
          go_enter Try.func94, Try.ntmps94
          go_wp2
          go_ret
          exact ⟨rfl, Hhu.out⟩
        | false =>
          go_enter Try.func94, Try.ntmps94
          go_wp2
          go_ret
          exact ⟨rfl, Hhu.out⟩
    | false =>
      cases e4 : (a == 0) with
      | true =>
        go_enter Try.func94, Try.ntmps94
        go_wp2
        go_ret
        exact ⟨rfl, Hhu.out⟩
      | false =>
        go_enter Try.func94, Try.ntmps94
        go_wp2
        go_ret
        exact ⟨rfl, Hhu.out⟩
  | false =>
    cases e4 : (a == 0) with
    | true =>
      go_enter Try.func94, Try.ntmps94
      go_wp2
      go_ret
      exact ⟨rfl, Hhu.out⟩
    | false =>
      go_enter Try.func94, Try.ntmps94
      go_wp2
      go_ret
      exact ⟨rfl, Hhu.out⟩
end Go.Proofs.Ytcnbcidbbeadcaa

/- The document's volatile objects: Make, Remove. -/


namespace Go.Proofs.Ytcnbcidbbeadcaa
open Go.RowKit Go.Deep
set_option linter.unusedVariables false

def VoMk (w : World) (m : Nat) (T : Nat → Prop) (ks : List (List Int)) (kv : Value) (r : (Nat → VOb) × Int × Int) (e : Ending) (w' : World) : Prop :=
  e = .returned (.tuple #[.int .i64 r.2.1, .int .i64 r.2.2]) ∧ (∃ Kd G, IsVo w' m T ks r.1 kv Kd G) ∧ Upd (fun j => j = m) w w'
theorem vomk_same {w w' : World} {m : Nat} {T : Nat → Prop} {ks : List (List Int)} {o : Nat → VOb} {kv : Value} {Kd : Nat → Int} {G : Nat → Value} (h : IsVo w m T ks o kv Kd G) (n : Int) (u : Upd (fun _ => False) w w') :
    VoMk w m T ks kv (o, 0, n) (.returned (.tuple #[.int .i64 0, .int .i64 n])) w' := ⟨rfl, ⟨Kd, G, h.still u⟩, u.mono (fun _ _ e => e.elim)⟩
theorem vo_put {w w5 w2 : World} {m : Nat} {T : Nat → Prop} {ks : List (List Int)} {o : Nat → VOb} {kv : Value} {Kd : Nat → Int} {G : Nat → Value} (h : IsVo w m T ks o kv Kd G) (u2 : Upd (fun _ => False) w w2) (u5 : Upd (fun _ => False) w2 w5) {i : Nat} (hi : i < 64) (k : Int) (vs : List Val) {a : Option Addr} {c : Nat}
    (hr : w5.ownsRow w2.heap.size 26 5 (.slice a vs.length c) vs.length (cellsV vs)) (y : Int) (hy : y = -1 - (i : Int)) :
    VoMk w m T ks kv (setO o i ⟨true, k, vs⟩, -1 - (i : Int), 0) (.returned (.tuple #[.int .i64 y, .int .i64 0])) (((w5.setCell ⟨m, 1 + i, none⟩ (.bool true)).setCell ⟨m, 65 + i, none⟩ (.int .i64 k)).setCell ⟨m, 129 + i, none⟩ (.slice a vs.length c)) := by
  subst hy
  have h2 := h.still u2
  have h5 := h2.still u5
  have hb := ((h5.blk.set (1 + i) (.bool true)).set (65 + i) (.int .i64 k)).set (129 + i) (.slice a vs.length c)
  have e := voC_set kv o Kd G i hi ⟨true, k, vs⟩ k (.slice a vs.length c)
  simp only at e
  rw [e] at hb
  have u6 := (((Upd.refl (fun j => j = m) w5).at (1 + i) (.bool true)).at (65 + i) (.int .i64 k)).at (129 + i) (.slice a vs.length c)
  refine ⟨rfl, ⟨_, _, h5.put hi ⟨true, k, vs⟩ k (.slice a vs.length c) hb u6 (fun _ w3 u3 => ?_) (fun _ => rfl)⟩, ((u2.trans u5).mono (fun _ _ x => x.elim)).trans u6⟩
  have hlt := h2.lt
  have hm := h2.self
  exact ownsRow_vals (ownsRow_upd (ownsRow_upd hr u6 (fun j hj (e : j = m) => by subst e; have := hlt _ hm; omega)) u3 (fun j hj e => by have := hlt _ e; omega))
set_option maxRecDepth 100000 in
set_option maxHeartbeats 4000000 in
theorem vo_Make {w : World} {m : Nat} {T : Nat → Prop} {ks : List (List Int)} {o : Nat → VOb} {kv : Value} {Kd : Nat → Int} {G : Nat → Value} (h : IsVo w m T ks o kv Kd G) (k : Int) :
    Calls Try.prog 70 #[.pointer (some ⟨m, 0, none⟩), .int .i64 k] w (VoMk w m T ks kv (makeV ks o k)) := by
  obtain ⟨r, hr⟩ : ∃ r, makeV ks o k = r := ⟨_, rfl⟩
  rw [hr]
  have hM := h.kinds w (Upd.refl _ _)
  obtain ⟨va, vc, rfl⟩ := mat_shape hM
  have c0 := (h.cell 0 (by decide)).1
  have hka := ref_KindAt _ ks k w hM
  have hno := Lib.hid (fun (n : Int) (hn : r = (o, 0, n)) w' (u : Upd (fun _ => False) w w') => show VoMk w m T ks (.slice va ks.length vc) r (.returned (.tuple #[.int .i64 0, .int .i64 n])) w' from hn ▸ vomk_same h n u)
  unfold makeV at hr
  unfold RetOf2 at hka
  cases hof : ofK ks k with
  | none =>
    rw [hof] at hr hka
    have fin := Lib.hid (hno.out 3 hr.symm)
    have hka2 := Lib.hid (hka.mono (fun e w' hh => (show e = .returned (.tuple #[.agg #[.slice none 0 0], .bool false]) ∧ Upd (fun _ => False) w w' from by
      obtain ⟨u, h | h⟩ := hh
      · obtain ⟨f, v, h1, -⟩ := h
        cases h1
      · exact ⟨h.2, u⟩)))
    clear hr hka hof h hM hno
    go_enter Try.func70, Try.ntmps70
    go_wp2_with (go_at_call 93; (with_reducible refine hka2.out.mono ?_); rintro e w2 ⟨rfl, hu2⟩; have Hu2 := Lib.hid (hu2.alloc (.cells #[.slice none 0 0] 68)); clear hu2)
    go_ret2
    exact fin.out _ Hu2.out
  | some f =>
    rw [hof] at hr hka
    simp only at hr
    have h15 := (mayK_facts _ (ofK_some hof).2.2.2.1).2.1
    have hka2 := Lib.hid (hka.mono (fun e w' hh => (show ∃ fa fc, e = .returned (.tuple #[.agg #[.slice fa f.length fc], .bool true]) ∧ IntsR w (.slice fa f.length fc) .i64 f ∧ Upd (fun _ => False) w w' from by
      obtain ⟨u, h | h⟩ := hh
      · obtain ⟨f', v, h1, h2, h3⟩ := h
        cases h1
        obtain ⟨fa, fc, rfl⟩ : ∃ fa fc, v = .slice fa f.length fc := by
          obtain ⟨fa, fc, h4, -⟩ := h2
          exact ⟨fa, fc, h4⟩
        exact ⟨fa, fc, h3, h2, u⟩
      · cases h.1)))
    have hcs := Lib.hid (fun w' (u : Upd (fun _ => False) w w') i (hi : i < 64) => (h.still u).cell i hi)
    have hfr := Lib.hid (fun w' (u : Upd (fun _ => False) w w') j => (h.still u).blk.free j)
    have hzl := zeroVals_len f f.length
    have hzc := zeroTo_cells f f.length
    have hput := Lib.hid (fun w2 w5 (u2 : Upd (fun _ => False) w w2) (u5 : Upd (fun _ => False) w2 w5) i (hi : i < 64) a c (ho : w5.ownsRow w2.heap.size 26 5 (.slice a f.length c) f.length (zeroTo f f.length)) => show VoMk w m T ks (.slice va ks.length vc) (setO o i ⟨true, k, zeroVals f f.length⟩, -1 - (i : Int), 0) (.returned (.tuple #[.int .i64 (-1 - (i : Int)), .int .i64 0])) (((w5.setCell ⟨m, 1 + i, none⟩ (.bool true)).setCell ⟨m, 65 + i, none⟩ (.int .i64 k)).setCell ⟨m, 129 + i, none⟩ (.slice a f.length c)) from by
      have := vo_put h u2 u5 hi k (zeroVals f f.length) (a := a) (c := c) (by rw [hzl, ← hzc]; exact ho) _ rfl
      rw [hzl] at this
      exact this)
    have hzr := Lib.hid (fun fa fc (hI : IntsR w (.slice fa f.length fc) .i64 f) w' (u : Upd (fun _ => False) w w') => ref_Zero _ f w' (ints_upd hI u) h15)
    clear hka hof h hM hzl hzc
    have Hhr := Lib.hid hr; clear hr
    go_enter Try.func70, Try.ntmps70
    go_wp2_with (go_at_call 93; (with_reducible refine hka2.out.mono ?_); rintro e w2 ⟨fa, fc, rfl, hI2, hu2⟩; have hB2 := Lib.hid (Blk.new w2 [.slice fa f.length fc] 68); have Hu2 := Lib.hid (hu2.alloc (.cells #[.slice fa f.length fc] 68)); have HI2 := Lib.hid hI2; clear hu2 hI2)
    have Z2 := Lib.hid (hzr.out fa fc HI2.out)
    clear hka2 hzr c0
    generalize hw3 : w2.alloc (.cells #[.slice fa f.length fc] 68) = w3 at *
    go_loopw [20] (fun i wr => ∃ k : Nat, i = .int .i64 k ∧ k ≤ 64 ∧ freeFrom o k (64 - k) = freeV o ∧ Upd (fun _ => False) w3 wr) (fun i _ => (64 - intOf i).toNat)
    case atStart => exact ⟨0, rfl, Nat.zero_le _, rfl, Upd.refl _ _⟩
    case round =>
      obtain ⟨i, rfl, hi, hfree, hu⟩ := hrel
      by_cases hi2 : i = 64
      · subst hi2
        have fin := Lib.hid (hno.out 5 (by have := Hhr.out; rw [← hfree] at this; exact this.symm) _ (Hu2.out.trans hu))
        clear hu hfree
        rw [show ((64 : Nat) : Int) = 64 from rfl]
        go_wp2_with fail
        go_ret2
        exact fin.out
      · have hi3 : i < 64 := by omega
        have hi4 : (i : Int) < 64 := by omega
        obtain ⟨-, c1, c2, c3⟩ := hcs.out wr (Hu2.out.trans hu) i hi3
        have hfs : freeFrom o i (64 - i) = if (o i).used = true then freeFrom o (i + 1) (64 - (i + 1)) else some i := by
          obtain ⟨q, hq⟩ : ∃ q, 64 - i = q + 1 := ⟨63 - i, by omega⟩
          rw [hq, show 64 - (i + 1) = q from by omega]
          rfl
        cases hus : (o i).used with
        | true =>
          rw [hus] at c1 hfs
          rw [if_pos rfl] at hfs
          have hfree2 := hfs.symm.trans hfree
          have Hhu := Lib.hid hu; clear hu
          have Hhfree2 := Lib.hid hfree2; clear hfree2
          clear hfree hfs hi2 c2 c3
          go_wp2_with fail
          go_roundw
          case rel => exact ⟨i + 1, by go_num, by omega, Hhfree2.out, Hhu.out⟩
          case measure => simp [intOf]; omega
        | false =>
          rw [hus] at c1 hfs
          rw [if_neg (by decide)] at hfs
          have hre : r = (setO o i ⟨true, k, zeroVals f f.length⟩, -1 - (i : Int), 0) := by
            have := Hhr.out
            rw [← hfree, hfs] at this
            exact this.symm
          have hcD := Lib.hid (fun w4 (u4 : Upd (fun _ => False) wr.drew w4) => hcs.out w4 ((Hu2.out.trans hu).drew.trans u4) i hi3)
          have hfD := Lib.hid (fun w4 (u4 : Upd (fun _ => False) wr.drew w4) j => hfr.out w4 ((Hu2.out.trans hu).drew.trans u4) j)
          have hzD := Lib.hid (Z2.out wr.drew (Hu2.out.trans hu).drew)
          have fin := Lib.hid (fun w5 (u5 : Upd (fun _ => False) wr.drew w5) a c ho => show VoMk w m T ks (.slice va ks.length vc) r _ _ from hre ▸ hput.out wr.drew w5 (Hu2.out.trans hu).drew u5 i hi3 a c ho)
          have hbx := (hB2.out.upd (hu) (fun x => x)).cell 0 rfl
          have Hhu := Lib.hid hu; clear hu
          have Hhre := Lib.hid hre; clear hre
          clear hfree hfs hi2 hput
          go_wp2_with fail
          go_region_with (go_at_call 40; (with_reducible refine hzD.out.mono ?_); rintro e w5 ⟨a, c, rfl, ho5, hu5⟩; obtain ⟨-, g1, g2, g3⟩ := hcD.out w5 hu5; have q1 := hfD.out w5 hu5 (1 + i); have q2 := hfD.out w5 hu5 (65 + i); have q3 := hfD.out w5 hu5 (129 + i); have Ho5 := Lib.hid ho5; have Hu5 := Lib.hid hu5; clear ho5 hu5)
          all_goals
            go_wp2_with fail
            go_ret2
            exact fin.out _ Hu5.out _ _ Ho5.out
def VoRm (w : World) (m : Nat) (T : Nat → Prop) (ks : List (List Int)) (kv : Value) (o : Nat → VOb) (v : Value) (e : Ending) (w' : World) : Prop :=
  e = .returned v ∧ (∃ Kd G, IsVo w' m T ks o kv Kd G) ∧ Upd (fun j => j = m) w w'
end Go.Proofs.Ytcnbcidbbeadcaa

