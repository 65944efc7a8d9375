/- The law's own search: plain. -/
import Derived.Test.YthaicpjgmplgcaaMarkPut
namespace Go.Proofs.Ythaicpjgmplgcaa
set_option linter.unusedVariables false

/-- What the search has found: dark D, found In, the row of what is found and not dark. -/
structure Bfs (k : Nat) (refs : Int → List Int) (fr : List Int) (D In : Nat → Bool) (row : List Int) : Prop where
  inb : ∀ b ∈ row, ∃ q : Nat, b = q ∧ q < k ∧ In q = true ∧ Rch k refs D (fun b => b ∈ fr) q
  cov : ∀ i, i < k → In i = true → D i = true ∨ (i : Int) ∈ row
  dk : ∀ i, i < k → D i = true → In i = true
  cnt : countN (fun i => !In i) k + row.length = countN (fun i => !D i) k

theorem Bfs.new (k : Nat) (refs : Int → List Int) (fr : List Int) (D : Nat → Bool) : Bfs k refs fr D D [] :=
  ⟨fun b hb => (by cases hb), fun i _ h => Or.inl h, fun i _ h => h, rfl⟩

theorem putOk_iff (k : Nat) (In : Nat → Bool) (b : Int) : putOk k In b = true ↔ 0 ≤ b ∧ b < k ∧ In b.toNat = false := by
  unfold putOk
  simp [and_assoc]
theorem putF_mono (k : Nat) (In : Nat → Bool) (b : Int) (i : Nat) (h : In i = true) : putF k In b i = true := by
  unfold putF
  split
  · rw [setF_at]
    split <;> simp [h]
  · exact h
theorem putF_has (k : Nat) (In : Nat → Bool) (b : Int) (h0 : 0 ≤ b) (h1 : b < k) : putF k In b b.toNat = true := by
  unfold putF
  cases hp : putOk k In b
  · cases hi : In b.toNat
    · rw [(putOk_iff k In b).2 ⟨h0, h1, hi⟩] at hp
      cases hp
    · simp [hi]
  · rw [if_pos rfl, setF_at, if_pos (by omega)]
theorem putL_getD (k : Nat) (In : Nat → Bool) (row : List Int) (b : Int) (p : Nat) (hp : p < row.length) : (putL k In row b).getD p 0 = row.getD p 0 := by
  unfold putL
  split
  · simp [List.getD, hp, List.getElem?_append_left hp]
  · rfl
theorem putL_len (k : Nat) (In : Nat → Bool) (row : List Int) (b : Int) : row.length ≤ (putL k In row b).length := by
  unfold putL
  split <;> simp

theorem Bfs.put {k : Nat} {refs : Int → List Int} {fr : List Int} {D In : Nat → Bool} {row : List Int} (h : Bfs k refs fr D In row) (b : Int)
    (hb : ∀ q : Nat, b = q → q < k → D q = false → Rch k refs D (fun b => b ∈ fr) q) : Bfs k refs fr D (putF k In b) (putL k In row b) := by
  cases hp : putOk k In b
  · unfold putF putL
    rw [hp]
    exact h
  · obtain ⟨h0, h1, h2⟩ := (putOk_iff k In b).1 hp
    obtain ⟨q, rfl⟩ : ∃ q : Nat, b = q := ⟨b.toNat, by omega⟩
    rw [Int.toNat_natCast] at h2
    have hq : q < k := by omega
    have hDq : D q = false := by
      cases hd : D q
      · rfl
      · rw [h.dk q hq hd] at h2
        cases h2
    unfold putF putL
    rw [hp, if_pos rfl, if_pos rfl]
    have hset : ∀ i : Nat, setF In (q : Int) true i = true ↔ i = q ∨ In i = true := fun i => by
      rw [setF_at]
      split
      · rename_i e
        have : i = q := by omega
        simp [this]
      · rename_i e
        have : i ≠ q := fun e2 => e (by rw [e2])
        simp [this]
    refine ⟨fun c hc => ?_, fun i hi hin => ?_, fun i hi hd => (hset i).2 (Or.inr (h.dk i hi hd)), ?_⟩
    · rcases List.mem_append.1 hc with hc | hc
      · obtain ⟨p, e, p1, p2, p3⟩ := h.inb c hc
        exact ⟨p, e, p1, (hset p).2 (Or.inr p2), p3⟩
      · have hc : c = (q : Int) := by simpa using hc
        exact ⟨q, hc, hq, (hset q).2 (Or.inl rfl), hb q rfl hq hDq⟩
    · rcases (hset i).1 hin with e | e
      · exact Or.inr (List.mem_append_right _ (by simp [e]))
      · rcases h.cov i hi e with e | e
        · exact Or.inl e
        · exact Or.inr (List.mem_append_left _ e)
    · have h3 := countN_setF (fun i => !In i) q k false hq
      simp only [h2, Bool.not_false, if_true, Bool.false_eq_true, if_false] at h3
      have h4 : countN (fun i => !setF In (q : Int) true i) k = countN (setF (fun i => !In i) q false) k := countN_congr (fun i hi => by
        rw [setF_at, setF_at]
        split <;> rfl)
      have h5 := h.cnt
      rw [List.length_append, h4]
      simp only [List.length_cons, List.length_nil]
      omega

/-- All that the first p of the row refer to is found. -/
def Seen (k : Nat) (refs : Int → List Int) (In : Nat → Bool) (row : List Int) (p : Nat) : Prop := ∀ j, j < p → ∀ r ∈ refs (row.getD j 0), 0 ≤ r → r < k → In r.toNat = true
theorem Seen.put {k : Nat} {refs : Int → List Int} {In : Nat → Bool} {row : List Int} {p : Nat} (h : Seen k refs In row p) (hp : p ≤ row.length) (b : Int) : Seen k refs (putF k In b) (putL k In row b) p := fun j hj r hr h0 h1 => by
  rw [putL_getD k In row b j (by omega)] at hr
  exact putF_mono k In b _ (h j hj r hr h0 h1)

theorem Bfs.all {k : Nat} {refs : Int → List Int} {fr : List Int} {D In : Nat → Bool} {row : List Int} (h : Bfs k refs fr D In row) (hs : Seen k refs In row row.length) (hf : ∀ i : Nat, (i : Int) ∈ fr → i < k → In i = true) :
    ∀ i, i < k → (In i = true ↔ D i = true ∨ Rch k refs D (fun b => b ∈ fr) i) := by
  have hR : ∀ i, Rch k refs D (fun b => b ∈ fr) i → i < k ∧ D i = false ∧ In i = true := fun i hi => by
    induction hi with
    | root i h1 hn hd => exact ⟨hn, hd, hf i h1 hn⟩
    | next i j h1 hr hn hd ih =>
      obtain ⟨i1, i2, i3⟩ := ih
      refine ⟨hn, hd, ?_⟩
      rcases h.cov i i1 i3 with e | e
      · rw [i2] at e
        cases e
      · obtain ⟨p, hp, hpe⟩ := List.mem_iff_getElem.1 e
        have := hs p hp (j : Int) (by simp [List.getD, hp, hpe, hr]) (by omega) (by omega)
        simpa using this
  refine fun i hi => ⟨fun hin => ?_, fun e => ?_⟩
  · rcases h.cov i hi hin with e | e
    · exact Or.inl e
    · obtain ⟨q, e1, -, -, e2⟩ := h.inb _ e
      have : i = q := by omega
      subst this
      exact Or.inr e2
  · rcases e with e | e
    · exact h.dk i hi e
    · exact (hR i e).2.2

/-- In the end the marker's marks are what the search has found, and what is left is what was not found. -/
theorem end_marks {x : Mk} {k : Nat} {refs : Int → List Int} {fr : List Int} {D In : Nat → Bool} (hx : Ok x) (hn : x.n = k) (hc : Closed x D refs) (hs : Sound x D refs (fun b => b ∈ fr)) (hd : x.done = true)
    (hroot : ∀ i : Nat, (i : Int) ∈ fr → i < k → x.m i = true) (hall : ∀ i, i < k → (In i = true ↔ D i = true ∨ Rch k refs D (fun b => b ∈ fr) i)) : (∀ i, i < k → x.m i = In i) ∧ x.left = countN (fun i => !In i) k := by
  subst hn
  have h1 := final_marks hx hc hs hd hroot
  have h2 : ∀ i, i < x.n → x.m i = In i := fun i hi => by
    have a := h1 i hi
    have b := hall i hi
    cases hm : x.m i <;> cases hi2 : In i
    · rfl
    · exact absurd (a.2 (b.1 hi2)) (by rw [hm]; simp)
    · exact absurd (b.2 (a.1 hm)) (by rw [hi2]; simp)
    · rfl
  refine ⟨h2, countN_congr (fun i hi => ?_)⟩
  obtain ⟨hl, ho⟩ := (done_iff x).1 hd
  have h3 := h2 i hi
  show (!x.s i) = !In i
  congr 1
  cases hm : x.m i
  · rw [hm] at h3
    rw [← h3]
    cases hsi : x.s i
    · rfl
    · have := hx.sm i hi hsi
      rw [hm] at this
      cases this
  · rw [hm] at h3
    rw [← h3]
    cases hsi : x.s i
    · have := hx.full ho i hi hm hsi
      rw [hl] at this
      cases this
    · rfl
end Go.Proofs.Ythaicpjgmplgcaa
