/- What is encoded is decoded as it was, plainly; copy into a row of the call's own. -/
import Derived.Test.YtcnbcidbbeadcaaObjQ
import Derived.Laws.CopyOwn
namespace Go.Proofs.Ytcnbcidbbeadcaa
open Go.RowKit Go.Deep
set_option linter.unusedVariables false

theorem encO_cases (ks : List (List Int)) (k : Int) (xs : List Val) (ep : Nat) : (∃ m : Int, m ≠ 0 ∧ encO ks k xs ep = ([], m)) ∨
    ∃ f ws, ofK ks k = some f ∧ xs.length = f.length ∧ vwTo f xs f.length = some ws ∧ encO ks k xs ep = (makeN k.toNat (kW f) ep :: ws, 0) := by
  unfold encO
  cases ho : ofK ks k with
  | none => exact Or.inl ⟨3, by decide, rfl⟩
  | some f =>
    by_cases hl : xs.length ≠ f.length
    · simp only [if_pos hl]
      exact Or.inl ⟨4, by decide, rfl⟩
    · simp only [if_neg hl]
      cases hv : vwTo f xs f.length with
      | none => exact Or.inl ⟨3, by decide, rfl⟩
      | some ws => exact Or.inr ⟨f, ws, rfl, by omega, hv, rfl⟩
theorem vwTo_prefix {f : List Int} {xs : List Val} {n : Nat} {ws : List Nat} (h : vwTo f xs n = some ws) : ∀ k, k ≤ n → ∃ us post, vwTo f xs k = some us ∧ ws = us ++ post := by
  induction n generalizing ws with
  | zero =>
    intro k hk
    obtain rfl : k = 0 := by omega
    exact ⟨ws, [], h, by simp⟩
  | succ n ih =>
    intro k hk
    by_cases e : k = n + 1
    · subst e
      exact ⟨ws, [], h, by simp⟩
    · obtain ⟨us, vs, h1, h2, rfl⟩ := vwTo_inv h
      obtain ⟨a, b, h3, rfl⟩ := ih h1 k (by omega)
      exact ⟨a, b ++ vs, h3, by simp⟩
theorem part_at {ks : List (List Int)} {k : Int} {f : List Int} {xs : List Val} {ws pre : List Nat} {j : Nat} (ho : ofK ks k = some f) (hw : vwTo f xs f.length = some ws) (hj : j < f.length) (hp : vwTo f xs j = some pre) :
    ∃ us, vwTo f xs (j + 1) = some (pre ++ us) ∧ fldO ks k j (xs.getD j zeroV) = (1 + (pre.length : Int), us, 0) ∧ ∃ post, ws = pre ++ us ++ post := by
  obtain ⟨us2, post, h1, h2⟩ := vwTo_prefix hw (j + 1) (by omega)
  obtain ⟨a, us, h3, h4, rfl⟩ := vwTo_inv h1
  rw [hp] at h3
  cases h3
  refine ⟨us, h1, ?_, post, h2⟩
  unfold fldO
  rw [ho]
  have hk := (mayK_facts f (ofK_some ho).2.2.2.1).2.2.2.1
  simp only [show ¬ ((j : Int) < 0 ∨ (f.length : Int) ≤ j) from by omega, if_false, show (j : Int).toNat = j from by omega, h4]
  congr 1
  unfold offK
  rw [if_neg (by omega), show (j : Int).toNat = j from by omega, ← vwTo_len (by omega) hp]
theorem whole_len {ks : List (List Int)} {k : Int} {f : List Int} {xs : List Val} {ws : List Nat} (ho : ofK ks k = some f) (hw : vwTo f xs f.length = some ws) : 1 + ws.length = kW f := by
  have hk := (mayK_facts f (ofK_some ho).2.2.2.1).2.2.2.1
  rw [kW_eq f hk, vwTo_len (Nat.le_refl _) hw, List.take_length]


/-- copy(u[at:], x): u a row of the call's own. -/
theorem wpList_copyInto {P : Program} {w : World} {ops : Array Oper} {rest : List Oper} {o : Oper} {a : Act} {Q : Exit → Act → World → Prop} (hgd : o.guard = none) (d s : Operand) (dT elem : TypeId)
    (ho : o.op = .call { callee := .builtin .copy, args := #[d, s], argTypes := #[dT, dT] }) (hu : P.underlying dT = some (.slice elem)) (hsz : (P.info? elem).map (·.size) = some 1)
    (B g n c : Nat) (W us : List Nat) (hown : w.ownsRow B elem 1 (.slice (some ⟨g, 0, none⟩) n c) n (words W)) (at1 : Nat) (hm : at1 + us.length ≤ n) (hus : 0 < us.length) (dL dCap : Nat) (hdL : dL = n - at1) (hd : a.eval d = .slice (some ⟨g, at1, none⟩) dL dCap)
    (sp : Option Addr) (sL sCap : Nat) (hsL : sL = us.length) (hs : a.eval s = .slice sp sL sCap) (hsrc : WordsR w (.slice sp sL sCap) us)
    (h : ∀ w', w'.ownsRow B elem 1 (.slice (some ⟨g, 0, none⟩) n c) n (words (W.take at1 ++ us ++ W.drop (at1 + us.length))) → Upd (fun k => k = g) w w' → wpList P ops Q rest (a.put o.dst (goInt us.length)) w') :
    wpList P ops Q (o :: rest) a w := by
  subst hdL hsL
  obtain ⟨hlen, hz | ⟨g', cap', cur, hv, hB, hg, hnc, hcm, hcs, htake⟩⟩ := hown
  · cases hz.1
  · cases hv
    obtain ⟨ra, rc, e, -, -, hrow⟩ := hsrc.1
    cases e
    obtain ⟨b, off, rfl, -, hcell⟩ := hrow hus
    have hwl : (words us).length = us.length := by simp [words]
    have hWl : W.length = n := by simpa [words] using hlen
    have hcurl : n ≤ cur.toList.length := by simp; omega
    have hgoal := h (w.setRow g (cur.toList.take at1 ++ (words us ++ cur.toList.drop (at1 + (words us).length))).toArray) ?_ ⟨rfl, rfl, rfl, by simp [World.setRow], fun k _ hk => setRow_other w g k _ hk⟩
    · refine wpList_copy_own hgd d s dT dT ho elem hu hsz g at1 (n - at1) dCap ⟨b, off, none⟩ us.length sCap hd hs cur elem hg (words us) ?_ ?_ ?_ ?_ ?_
      · rw [hwl]
        exact (Nat.min_eq_left (by omega)).symm
      · intro j v hj
        have hjl : j < us.length := by
          have := (List.getElem?_eq_some_iff.1 hj).1
          omega
        have h2 := hcell j hjl 0 (by decide)
        rw [show off + j * 1 + 0 = off + j from by omega] at h2
        rw [show (⟨b, off, none⟩ : Addr).add j = ⟨b, off + j, none⟩ from by unfold Addr.add; split <;> simp_all, h2]
        rw [← hj]
        simp [words, List.getD, hjl]
      · rw [hwl]; omega
      · intro v hv
        simp only [words, List.mem_map] at hv
        obtain ⟨x, -, rfl⟩ := hv
        rfl
      · rw [hwl]
        rw [hwl] at hgoal
        exact hgoal
    · have ht : cur.toList.take n = words W := by rw [← htake, Nat.mul_one]
      refine ⟨by simp [words]; omega, Or.inr ⟨g, c, _, rfl, hB, setRow_heap w g cur _ elem _ hg, hnc, hcm, ?_, ?_⟩⟩
      · simp [words]
        omega
      · have h1 : words (W.take at1 ++ us ++ W.drop (at1 + us.length)) = (words W).take at1 ++ (words us ++ (words W).drop (at1 + us.length)) := by
          simp [words, List.map_append, List.map_take, List.map_drop, List.append_assoc]
        rw [h1, ← ht, hwl, Nat.mul_one]
        apply List.ext_getElem?
        intro i
        simp only [List.getElem?_take, List.getElem?_append, List.length_take, List.getElem?_drop, hwl]
        simp only [Array.length_toList] at hcurl ⊢
        by_cases hi : i < n
        · rw [if_pos hi]
          by_cases h1 : i < at1
          · simp [h1, show i < min at1 cur.size by omega, show i < min at1 (min n cur.size) by omega, hi]
          · have h3 : ¬ i < min at1 cur.size := by omega
            have h4 : ¬ i < min at1 (min n cur.size) := by omega
            rw [if_neg h3, if_neg h4, show min at1 cur.size = at1 by omega, show min at1 (min n cur.size) = at1 by omega]
            by_cases h5 : i - at1 < us.length
            · rw [if_pos h5, if_pos h5]
            · rw [if_neg h5, if_neg h5, if_pos (by omega)]
        · rw [if_neg hi]
          have h4 : ¬ i < min at1 (min n cur.size) := by omega
          rw [if_neg h4, show min at1 (min n cur.size) = at1 by omega, if_neg (by omega), if_neg (by omega)]

theorem sameV_sym {x y : Val} (h : sameV x y = true) : sameV y x = true := by
  unfold sameV at *
  simp only [Bool.and_eq_true, decide_eq_true_eq] at *
  obtain ⟨h1, h2⟩ := h
  refine ⟨h1.symm, ?_⟩
  rw [← h1]
  by_cases k0 : x.k = 0
  · rw [if_pos k0]
  · rw [if_neg k0] at h2 ⊢
    by_cases k1 : x.k = 1
    · rw [if_pos k1] at h2 ⊢
      simpa using (by simpa using h2 : x.n = y.n).symm
    · rw [if_neg k1] at h2 ⊢
      by_cases k2 : x.k = 2
      · rw [if_pos k2] at h2 ⊢
        simp only [Bool.and_eq_true, decide_eq_true_eq] at h2 ⊢
        exact ⟨h2.1.symm, h2.2.symm⟩
      · rw [if_neg k2] at h2 ⊢
        by_cases k3 : x.k = 3
        · rw [if_pos k3] at h2 ⊢
          simpa using (by simpa using h2 : x.r = y.r).symm
        · rw [if_neg k3] at h2
          cases h2
theorem vw_vof {k : Int} {x : Val} {us : List Nat} (hx : x.ok) (h : vw k x = some us) : ∃ y, vof k us = some y ∧ sameV x y = true := by
  unfold vw at h
  by_cases g1 : k = 1 ∧ x.k = 1
  · rw [if_pos g1] at h
    obtain ⟨rfl, hk⟩ := g1
    cases h
    refine ⟨_, by unfold vof; rw [if_pos ⟨rfl, rfl⟩], ?_⟩
    unfold sameV
    have e : wrap64 ((u64n x.n : Nat) : Int) = x.n := by
      rw [← u64n_eq]
      exact wrap_back x.n hx.n.1 hx.n.2
    simp [hk, e]
  · rw [if_neg g1] at h
    by_cases g2 : k = 2 ∧ x.k = 2
    · rw [if_pos g2] at h
      obtain ⟨rfl, hk⟩ := g2
      cases h
      refine ⟨⟨2, 0, x.re, x.im, 0⟩, rfl, ?_⟩
      unfold sameV
      simp [hk]
    · rw [if_neg g2] at h
      by_cases g3 : k = 3 ∧ x.k = 0
      · rw [if_pos g3] at h
        obtain ⟨rfl, hk⟩ := g3
        cases h
        refine ⟨zeroV, rfl, ?_⟩
        unfold sameV
        simp [hk, zeroV]
      · rw [if_neg g3] at h
        by_cases g4 : k = 3 ∧ x.k = 3 ∧ 0 ≤ x.r ∧ x.r ≤ 1099511627776
        · rw [if_pos g4] at h
          obtain ⟨rfl, hk, h0, h1⟩ := g4
          cases h
          refine ⟨⟨3, 0, 0, 0, ((x.r.toNat + 1 - 1 : Nat) : Int)⟩, ?_, ?_⟩
          · unfold vof
            rw [if_neg (fun h => absurd h.1 (by decide)), if_neg (fun h => absurd h.1 (by decide)), if_pos ⟨rfl, rfl, by show x.r.toNat + 1 ≤ 1099511627777; omega⟩]
            show some (if x.r.toNat + 1 = 0 then zeroV else _) = _
            rw [if_neg (by omega)]
            rfl
          · unfold sameV
            have e : ((x.r.toNat + 1 - 1 : Nat) : Int) = x.r := by omega
            rw [e]
            simp [hk]
        · rw [if_neg g4] at h
          cases h
theorem vofTo_of {f : List Int} {W : List Nat} (P : Nat → Val → Prop) (n : Nat) (h : ∀ j, j < n → ∃ y, vof (f.getD j 0) (fieldW f W j) = some y ∧ P j y) : ∃ ys, vofTo f W n = some ys ∧ ∀ j, j < n → P j (ys.getD j zeroV) := by
  induction n with
  | zero => exact ⟨[], rfl, fun j hj => by omega⟩
  | succ n ih =>
    obtain ⟨ys, h1, h2⟩ := ih (fun j hj => h j (by omega))
    obtain ⟨y, h3, h4⟩ := h n (by omega)
    have hl := vofTo_len h1
    refine ⟨ys ++ [y], vofTo_succ h1 h3, fun j hj => ?_⟩
    by_cases e : j = n
    · subst e
      rw [show (ys ++ [y]).getD j zeroV = y from by simp [List.getD, hl]]
      exact h4
    · rw [show (ys ++ [y]).getD j zeroV = ys.getD j zeroV from by simp [List.getD, List.getElem?_append_left (show j < ys.length by omega)]]
      exact h2 j (by omega)
theorem dec_ok {ks : List (List Int)} {k : Nat} {f : List Int} {ep : Nat} {W : List Nat} {ys : List Val} (hk : k < 16) (ho : ofK ks k = some f) (h0 : W[0]? = some (makeN k (kW f) ep)) (hl : kW f ≤ W.length) (hv : vofTo f W f.length = some ys) :
    decO ks W = ((k : Int), ys, ep % 2 ^ 32, 0) := by
  obtain ⟨-, -, -, h1, h2⟩ := mayK_facts f (ofK_some ho).2.2.2.1
  cases W with
  | nil => cases h0
  | cons a t =>
    have ha : a = makeN k (kW f) ep := by simpa using h0
    unfold decO
    simp only
    rw [if_pos (ha ▸ make_isHead k (kW f) ep (by omega) h2)]
    rw [show getN a 0 4 = k from ha ▸ make_kind k (kW f) ep hk, show getN a 4 5 = kW f from ha ▸ make_words k (kW f) ep (by omega), show getN a 9 32 = ep % 2 ^ 32 from ha ▸ make_epoch k (kW f) ep, ho]
    simp only
    rw [if_neg (by intro h; rcases h with h | h; exact h rfl; omega), hv]
theorem dec_short {ks : List (List Int)} {k : Nat} {f : List Int} {ep : Nat} {W : List Nat} (hk : k < 16) (ho : ofK ks k = some f) (h0 : W[0]? = some (makeN k (kW f) ep)) (hl : W.length < kW f) :
    decO ks W = (0, [], 0, 8) := by
  obtain ⟨-, -, -, h1, h2⟩ := mayK_facts f (ofK_some ho).2.2.2.1
  cases W with
  | nil => rfl
  | cons a t =>
    have ha : a = makeN k (kW f) ep := by simpa using h0
    unfold decO
    simp only
    rw [if_pos (ha ▸ make_isHead k (kW f) ep (by omega) h2)]
    rw [show getN a 0 4 = k from ha ▸ make_kind k (kW f) ep hk, show getN a 4 5 = kW f from ha ▸ make_words k (kW f) ep (by omega), ho]
    simp only
    rw [if_pos (Or.inr hl)]
theorem field_enc {f : List Int} {xs : List Val} {ws pre us post more : List Nat} {j hd : Nat} (hj : j < f.length) (hp : vwTo f xs j = some pre) (hu : vw (f.getD j 0) (xs.getD j zeroV) = some us) (hw : ws = pre ++ us ++ post) : fieldW f (hd :: ws ++ more) j = us := by
  unfold fieldW
  rw [← vwTo_len (by omega) hp, ← (vw_len hu).1, hw]
  have e : hd :: (pre ++ us ++ post) ++ more = (hd :: pre) ++ (us ++ (post ++ more)) := by simp
  rw [e, show 1 + pre.length = (hd :: pre).length from by simp [Nat.add_comm], List.drop_left, List.take_left]
theorem fieldW_congr {f : List Int} {W W' : List Nat} {j : Nat} (h : ∀ t, 1 + sumW (f.take j) ≤ t → t < 1 + sumW (f.take j) + fw (f.getD j 0) → W[t]? = W'[t]?) : fieldW f W j = fieldW f W' j := by
  unfold fieldW
  apply List.ext_getElem?
  intro i
  rw [List.getElem?_take, List.getElem?_take]
  by_cases hi : i < fw (f.getD j 0)
  · rw [if_pos hi, if_pos hi, List.getElem?_drop, List.getElem?_drop]
    exact h _ (by omega) (by omega)
  · rw [if_neg hi, if_neg hi]
theorem splice_get (W us : List Nat) (p t : Nat) (hp : p + us.length ≤ W.length) : (W.take p ++ us ++ W.drop (p + us.length))[t]? = if t < p then W[t]? else if t < p + us.length then us[t - p]? else W[t]? := by
  have hl : (W.take p).length = p := by rw [List.length_take]; omega
  by_cases h1 : t < p
  · rw [if_pos h1, List.append_assoc, List.getElem?_append_left (by omega), List.getElem?_take, if_pos h1]
  · rw [if_neg h1]
    by_cases h2 : t < p + us.length
    · rw [if_pos h2, List.append_assoc, List.getElem?_append_right (by omega), hl, List.getElem?_append_left (by omega)]
    · rw [if_neg h2, List.getElem?_append_right (by rw [List.length_append]; omega), List.getElem?_drop, List.length_append, hl]
      congr 1
      omega
/-- An object that was encoded, with whatever behind. -/
theorem back_first {ks : List (List Int)} {k : Nat} {f : List Int} {xs : List Val} {ws more : List Nat} {ep : Nat} (hk : k < 16) (ho : ofK ks k = some f) (hl : xs.length = f.length) (hw : vwTo f xs f.length = some ws) (hx : ∀ x ∈ xs, x.ok) :
    ∃ ys, decO ks (makeN k (kW f) ep :: ws ++ more) = ((k : Int), ys, ep % 2 ^ 32, 0) ∧ sameVs xs ys = true := by
  have hlen := whole_len ho hw
  obtain ⟨ys, h1, h2⟩ := vofTo_of (f := f) (W := makeN k (kW f) ep :: ws ++ more) (fun j y => sameV (xs.getD j zeroV) y = true) f.length (fun j hj => by
    obtain ⟨us2, post, g1, g2⟩ := vwTo_prefix hw (j + 1) (by omega)
    obtain ⟨pre, us, g3, g4, rfl⟩ := vwTo_inv g1
    have hxj : (xs.getD j zeroV).ok := by
      have hjx : j < xs.length := by omega
      have : xs.getD j zeroV = xs[j] := by simp [List.getD, hjx]
      rw [this]
      exact hx _ (List.getElem_mem hjx)
    obtain ⟨y, g5, g6⟩ := vw_vof hxj g4
    exact ⟨y, by rw [field_enc hj g3 g4 g2]; exact g5, g6⟩)
  refine ⟨ys, dec_ok hk ho (by simp) (by simp; omega) h1, ?_⟩
  unfold sameVs
  rw [decide_eq_true_eq]
  exact ⟨by rw [vofTo_len h1, hl], fun i hi => h2 i (by omega)⟩
theorem sumW_le_take {f : List Int} {i j : Nat} (h : i ≤ j) : sumW (f.take i) ≤ sumW (f.take j) := by
  have := sumW_append (f.take i) ((f.take j).drop i)
  rw [show (f.take i) = (f.take j).take i from by rw [List.take_take, Nat.min_eq_left h], List.take_append_drop] at this
  rw [show (f.take i) = (f.take j).take i from by rw [List.take_take, Nat.min_eq_left h]]
  omega
/-- A field is set. -/
theorem back_set {ks : List (List Int)} {k i : Nat} {f : List Int} {xs : List Val} {ws us : List Nat} {ep : Nat} {v : Val} (hk : k < 16) (ho : ofK ks k = some f) (hl : xs.length = f.length) (hw : vwTo f xs f.length = some ws) (hx : ∀ x ∈ xs, x.ok)
    (hi : i < f.length) (hv : v.ok) (hu : vw (f.getD i 0) v = some us) (p : Nat) (hp : p = 1 + sumW (f.take i)) :
    p + us.length ≤ (makeN k (kW f) ep :: ws).length ∧ ∃ zs, decO ks ((makeN k (kW f) ep :: ws).take p ++ us ++ (makeN k (kW f) ep :: ws).drop (p + us.length)) = ((k : Int), zs, ep % 2 ^ 32, 0) ∧ zs.length = f.length ∧
      ∀ j, j < f.length → sameV (zs.getD j zeroV) (if j = i then v else xs.getD j zeroV) = true := by
  subst hp
  have hlen := whole_len ho hw
  have hul := (vw_len hu).1
  have hs1 := sumW_snoc f i hi
  have hs2 := sumW_mono f (i + 1) (by omega)
  have hke := kW_eq f (mayK_facts f (ofK_some ho).2.2.2.1).2.2.2.1
  have hfit : 1 + sumW (f.take i) + us.length ≤ (makeN k (kW f) ep :: ws).length := by simp; omega
  refine ⟨hfit, ?_⟩
  have hget := fun t => splice_get (makeN k (kW f) ep :: ws) us (1 + sumW (f.take i)) t hfit
  generalize hW : (makeN k (kW f) ep :: ws).take (1 + sumW (f.take i)) ++ us ++ (makeN k (kW f) ep :: ws).drop (1 + sumW (f.take i) + us.length) = W at *
  have hWl : W.length = (makeN k (kW f) ep :: ws).length := by
    rw [← hW]
    simp
    omega
  obtain ⟨zs, h1, h2⟩ := vofTo_of (f := f) (W := W) (fun j y => sameV y (if j = i then v else xs.getD j zeroV) = true) f.length (fun j hj => by
    by_cases e : j = i
    · subst e
      obtain ⟨y, g5, g6⟩ := vw_vof hv hu
      refine ⟨y, ?_, by rw [if_pos rfl]; exact sameV_sym g6⟩
      have : fieldW f W j = us := by
        unfold fieldW
        apply List.ext_getElem?
        intro t
        rw [List.getElem?_take]
        by_cases ht : t < fw (f.getD j 0)
        · rw [if_pos ht, List.getElem?_drop, hget, if_neg (by omega), if_pos (by omega)]
          congr 1
          omega
        · rw [if_neg ht, List.getElem?_eq_none (by omega)]
      rw [this]
      exact g5
    · obtain ⟨us2, post, g1, g2⟩ := vwTo_prefix hw (j + 1) (by omega)
      obtain ⟨pre, us3, g3, g4, rfl⟩ := vwTo_inv g1
      have hxj : (xs.getD j zeroV).ok := by
        have hjx : j < xs.length := by omega
        have : xs.getD j zeroV = xs[j] := by simp [List.getD, hjx]
        rw [this]
        exact hx _ (List.getElem_mem hjx)
      obtain ⟨y, g5, g6⟩ := vw_vof hxj g4
      refine ⟨y, ?_, by rw [if_neg e]; exact sameV_sym g6⟩
      have hsj := sumW_snoc f j hj
      have : fieldW f W j = fieldW f (makeN k (kW f) ep :: ws) j := fieldW_congr (fun t ht1 ht2 => by
        rw [hget]
        rcases Nat.lt_or_gt_of_ne e with h | h
        · have := sumW_le_take (f := f) (show j + 1 ≤ i by omega)
          rw [if_pos (by omega)]
        · have := sumW_le_take (f := f) (show i + 1 ≤ j by omega)
          rw [if_neg (by omega), if_neg (by omega)])
      rw [this]
      have := field_enc (hd := makeN k (kW f) ep) (more := []) hj g3 g4 g2
      rw [List.append_nil] at this
      rw [this]
      exact g5)
  refine ⟨zs, dec_ok hk ho ?_ (by rw [hWl]; simp; omega) h1, vofTo_len h1, h2⟩
  rw [hget, if_pos (by omega)]
  rfl
theorem back_short {ks : List (List Int)} {k : Nat} {f : List Int} {xs : List Val} {ws : List Nat} {ep : Nat} (hk : k < 16) (ho : ofK ks k = some f) (hw : vwTo f xs f.length = some ws) :
    decO ks ((makeN k (kW f) ep :: ws).take ws.length) = (0, [], 0, 8) := by
  have hlen := whole_len ho hw
  cases hws : ws with
  | nil => rfl
  | cons a t =>
    rw [← hws]
    have h0 : 0 < ws.length := by rw [hws]; simp
    exact dec_short hk ho (by rw [List.getElem?_take, if_pos h0]; rfl) (by rw [List.length_take]; simp; omega)
end Go.Proofs.Ytcnbcidbbeadcaa
