/- The law of marking: plain. -/
import Derived.Test.YthaicpjgmplgcaaMarkP
namespace Go.Proofs.Ythaicpjgmplgcaa
set_option linter.unusedVariables false

theorem setF_at (f : Nat → Bool) (b : Int) (v : Bool) (i : Nat) : setF f b v i = if (i : Int) = b then v else f i := rfl
theorem offB_iff (n : Nat) (f : Nat → Bool) (b : Int) : offB n f b = true ↔ 0 ≤ b ∧ b < n ∧ f b.toNat = false := by
  unfold offB
  simp [and_assoc]
theorem offB_false (n : Nat) (f : Nat → Bool) (b : Int) (h : offB n f b = false) (h0 : 0 ≤ b) (h1 : b < n) : f b.toNat = true := by
  cases hf : f b.toNat
  · rw [(offB_iff n f b).2 ⟨h0, h1, hf⟩] at h
    cases h
  · rfl

/-- What holds of a marker between its calls. -/
structure Ok (x : Mk) : Prop where
  nodup : x.l.Nodup
  rng : ∀ b ∈ x.l, 0 ≤ b ∧ b < x.n ∧ x.m b.toNat = true ∧ x.s b.toNat = false
  sm : ∀ i, i < x.n → x.s i = true → x.m i = true
  room : 1 ≤ x.room
  len : x.l.length ≤ x.room
  full : x.over = false → ∀ i, i < x.n → x.m i = true → x.s i = false → (i : Int) ∈ x.l
  lost : x.over = true → ∃ i, i < x.n ∧ x.m i = true ∧ x.s i = false ∧ (i : Int) ∉ x.l

theorem ok_new (n room : Nat) (h : 1 ≤ room) : Ok ⟨n, fun _ => false, fun _ => false, [], room, false⟩ :=
  ⟨List.nodup_nil, fun b hb => (by cases hb), fun i _ h => (by cases h), h, Nat.zero_le _, fun _ i _ h => (by cases h), fun h => (by cases h)⟩

theorem nodup_snoc {l : List Int} {b : Int} (h : l.Nodup) (hb : b ∉ l) : (l ++ [b]).Nodup := by
  rw [List.nodup_append]
  exact ⟨h, by simp, fun a ha c hc e => by simp at hc; subst hc; subst e; exact hb ha⟩

theorem ok_shade {x : Mk} (h : Ok x) (b : Int) : Ok (x.shade b) := by
  unfold Mk.shade
  cases hb : offB x.n x.m b
  · exact h
  · obtain ⟨h0, h1, hm⟩ := (offB_iff _ _ _).1 hb
    have hnot : b ∉ x.l := fun hl => by
      have := (h.rng b hl).2.2.1
      rw [hm] at this
      cases this
    have hsb : x.s b.toNat = false := by
      cases hs : x.s b.toNat
      · rfl
      · have := h.sm _ (by omega) hs
        rw [hm] at this
        cases this
    have hset : ∀ i : Nat, setF x.m b true i = true ↔ (i : Int) = b ∨ x.m i = true := fun i => by
      rw [setF_at]
      split <;> simp [*]
    have hbb : (b.toNat : Int) = b := by omega
    rw [if_pos rfl]
    unfold Mk.push pushL
    by_cases hr : x.l.length < x.room
    · simp only [hr, if_true, decide_true, Bool.not_true, Bool.or_false]
      refine ⟨nodup_snoc h.nodup hnot, fun c hc => ?_, fun i hi hs => (hset i).2 (Or.inr (h.sm i hi hs)), h.room, by simp; omega, fun ho i hi hmi hsi => ?_, fun ho => ?_⟩
      · rcases List.mem_append.1 hc with hc | hc
        · obtain ⟨r1, r2, r3, r4⟩ := h.rng c hc
          exact ⟨r1, r2, (hset _).2 (Or.inr r3), r4⟩
        · simp at hc
          subst hc
          exact ⟨h0, h1, (hset _).2 (Or.inl hbb), hsb⟩
      · rcases (hset i).1 hmi with e | hm2
        · exact List.mem_append_right _ (by simp [e])
        · exact List.mem_append_left _ (h.full ho i hi hm2 hsi)
      · obtain ⟨i, i1, i2, i3, i4⟩ := h.lost ho
        refine ⟨i, i1, (hset i).2 (Or.inr i2), i3, fun hc => ?_⟩
        rcases List.mem_append.1 hc with hc | hc
        · exact i4 hc
        · simp at hc
          rw [← hc, Int.toNat_natCast] at hm
          rw [hm] at i2
          cases i2
    · simp only [hr, if_false, decide_false, Bool.not_false, Bool.or_true]
      refine ⟨h.nodup, fun c hc => ?_, fun i hi hs => (hset i).2 (Or.inr (h.sm i hi hs)), h.room, h.len, fun ho => (by cases ho), fun _ => ⟨b.toNat, (by show b.toNat < x.n; omega), (hset _).2 (Or.inl hbb), hsb, by rw [hbb]; exact hnot⟩⟩
      obtain ⟨r1, r2, r3, r4⟩ := h.rng c hc
      exact ⟨r1, r2, (hset _).2 (Or.inr r3), r4⟩

theorem ok_black {x : Mk} (h : Ok x) (b : Int) : Ok (x.black b) := by
  unfold Mk.black
  cases hb : offB x.n x.m b
  · exact h
  · obtain ⟨h0, h1, hm⟩ := (offB_iff _ _ _).1 hb
    have hnot : b ∉ x.l := fun hl => by
      have := (h.rng b hl).2.2.1
      rw [hm] at this
      cases this
    have hset : ∀ (f : Nat → Bool) (i : Nat), setF f b true i = true ↔ (i : Int) = b ∨ f i = true := fun f i => by
      rw [setF_at]
      split <;> simp [*]
    have hne : ∀ (f : Nat → Bool) (i : Nat), setF f b true i = false ↔ (i : Int) ≠ b ∧ f i = false := fun f i => by
      rw [setF_at]
      split <;> simp [*]
    have hbb : (b.toNat : Int) = b := by omega
    rw [if_pos rfl]
    refine ⟨h.nodup, fun c hc => ?_, fun i hi hs => ?_, h.room, h.len, fun ho i hi hmi hsi => ?_, fun ho => ?_⟩
    · obtain ⟨r1, r2, r3, r4⟩ := h.rng c hc
      exact ⟨r1, r2, (hset _ _).2 (Or.inr r3), (hne _ _).2 ⟨fun e => hnot (by rw [← e, Int.toNat_of_nonneg r1]; exact hc), r4⟩⟩
    · rcases (hset _ i).1 hs with e | e
      · exact (hset _ i).2 (Or.inl e)
      · exact (hset _ i).2 (Or.inr (h.sm i hi e))
    · obtain ⟨n1, n2⟩ := (hne _ i).1 hsi
      rcases (hset _ i).1 hmi with e | e
      · exact absurd e n1
      · exact h.full ho i hi e n2
    · obtain ⟨i, i1, i2, i3, i4⟩ := h.lost ho
      refine ⟨i, i1, (hset _ _).2 (Or.inr i2), (hne _ _).2 ⟨fun e => ?_, i3⟩, i4⟩
      rw [← e, Int.toNat_natCast] at hm
      rw [hm] at i2
      cases i2

/-- What 'again' does from block b on. -/
structure AgainOk (x : Mk) (b : Nat) (y : Mk) : Prop where
  same : y.n = x.n ∧ y.m = x.m ∧ y.s = x.s ∧ y.room = x.room
  nodup : y.l.Nodup
  sub : ∀ c ∈ x.l, c ∈ y.l
  rng : ∀ c ∈ y.l, c ∈ x.l ∨ ((b : Int) ≤ c ∧ c < x.n ∧ x.m c.toNat = true ∧ x.s c.toNat = false)
  len : y.l.length ≤ y.room
  full : y.over = false → ∀ i, b ≤ i → i < x.n → x.m i = true → x.s i = false → (i : Int) ∈ y.l
  lost : y.over = true → ∃ i, i < x.n ∧ x.m i = true ∧ x.s i = false ∧ (i : Int) ∉ y.l
  filled : y.over = true → x.room ≤ y.l.length

theorem againTo_ok (x : Mk) (b d : Nat) (hd : b + d = x.n) (hn : x.l.Nodup) (hlt : ∀ c ∈ x.l, c < (b : Int)) (hl : x.l.length ≤ x.room) (ho : x.over = false) : AgainOk x b (x.againTo b d) := by
  induction d generalizing x b with
  | zero => exact ⟨⟨rfl, rfl, rfl, rfl⟩, hn, fun _ h => h, fun _ h => Or.inl h, hl, fun _ i h1 h2 => (by omega), fun (h : x.over = true) => (by rw [ho] at h; cases h), fun (h : x.over = true) => (by rw [ho] at h; cases h)⟩
  | succ d ih =>
    show AgainOk x b (if x.m b && !x.s b then (if x.l.length < x.room then Mk.againTo (x.push b) (b + 1) d else x.push b) else Mk.againTo x (b + 1) d)
    cases hc : x.m b && !x.s b
    · rw [if_neg (by simp)]
      have h := ih x (b + 1) (by omega) hn (fun c hc => by have := hlt c hc; omega) hl ho
      refine ⟨h.same, h.nodup, h.sub, fun c hc' => ?_, h.len, fun hov i h1 h2 h3 h4 => ?_, h.lost, h.filled⟩
      · rcases h.rng c hc' with r | ⟨r1, r2⟩
        · exact Or.inl r
        · exact Or.inr ⟨by omega, r2⟩
      · by_cases e : i = b
        · subst e
          rw [h3, h4] at hc
          cases hc
        · exact h.full hov i (by omega) h2 h3 h4
    · rw [if_pos rfl]
      simp only [Bool.and_eq_true, Bool.not_eq_true'] at hc
      obtain ⟨hm, hs⟩ := hc
      have hnot : (b : Int) ∉ x.l := fun h => by have := hlt _ h; omega
      by_cases hr : x.l.length < x.room
      · rw [if_pos hr]
        have hp : x.push b = { x with l := x.l ++ [(b : Int)], over := false } := by
          unfold Mk.push pushL
          simp [hr, ho]
        rw [hp]
        have h := ih { x with l := x.l ++ [(b : Int)], over := false } (b + 1) (by show b + 1 + d = x.n; omega) (nodup_snoc hn hnot) (fun c hc => by
          rcases List.mem_append.1 hc with hc | hc
          · have := hlt c hc; omega
          · simp at hc; omega) (by simp; omega) rfl
        refine ⟨h.same, h.nodup, fun c hc => h.sub c (List.mem_append_left _ hc), fun c hc' => ?_, h.len, fun hov i h1 h2 h3 h4 => ?_, h.lost, h.filled⟩
        · rcases h.rng c hc' with r | ⟨r1, r2⟩
          · rcases List.mem_append.1 r with r | r
            · exact Or.inl r
            · simp at r
              subst r
              exact Or.inr ⟨by omega, by omega, by simpa using hm, by simpa using hs⟩
          · exact Or.inr ⟨by omega, r2⟩
        · by_cases e : i = b
          · subst e
            exact h.sub _ (List.mem_append_right _ (by simp))
          · exact h.full hov i (by omega) h2 h3 h4
      · rw [if_neg hr]
        have hp : x.push b = { x with over := true } := by
          unfold Mk.push pushL
          simp [hr]
        rw [hp]
        exact ⟨⟨rfl, rfl, rfl, rfl⟩, hn, fun _ h => h, fun _ h => Or.inl h, hl, fun h => (by cases h), fun _ => ⟨b, (by show b < x.n; omega), hm, hs, hnot⟩, fun _ => Nat.le_of_not_lt hr⟩

theorem again_ok {x : Mk} (h : Ok x) (hl : x.l = []) : Ok x.again ∧ x.again.n = x.n ∧ x.again.m = x.m ∧ x.again.s = x.s ∧ x.again.room = x.room ∧ (x.over = true → x.again.l ≠ []) := by
  have ha := againTo_ok { x with over := false } 0 x.n (by simp) (by show x.l.Nodup; rw [hl]; exact List.nodup_nil) (by intro c hc; have hc : c ∈ x.l := hc; rw [hl] at hc; cases hc) h.len rfl
  have hA : AgainOk { x with over := false } 0 x.again := ha
  obtain ⟨s1, s2, s3, s4⟩ := hA.same
  refine ⟨⟨hA.nodup, fun b hb => ?_, fun i hi hs => ?_, by rw [s4]; exact h.room, hA.len, fun ho i hi hm hs => ?_, fun ho => ?_⟩, s1, s2, s3, s4, fun ho e => ?_⟩
  · rcases hA.rng b hb with r | ⟨r1, r2, r3, r4⟩
    · have r : b ∈ x.l := r
      rw [hl] at r
      cases r
    · exact ⟨by omega, by rw [s1]; exact r2, by rw [s2]; exact r3, by rw [s3]; exact r4⟩
  · rw [s2]; rw [s1] at hi; rw [s3] at hs; exact h.sm i hi hs
  · rw [s1] at hi; rw [s2] at hm; rw [s3] at hs
    exact hA.full ho i (Nat.zero_le _) hi hm hs
  · obtain ⟨i, i1, i2, i3, i4⟩ := hA.lost ho
    exact ⟨i, by rw [s1]; exact i1, by rw [s2]; exact i2, by rw [s3]; exact i3, i4⟩
  · obtain ⟨i, i1, i2, i3, i4⟩ := h.lost ho
    cases hov : x.again.over
    · have := hA.full hov i (Nat.zero_le _) i1 i2 i3
      rw [e] at this
      cases this
    · have h1 := hA.filled hov
      rw [e] at h1
      have := h.room
      simp at h1
      omega

theorem mem_dropLast_of {l : List Int} {c : Int} (h : c ∈ l) (hne : l ≠ []) (hc : c ≠ l.getLast hne) : c ∈ l.dropLast := by
  rw [← List.dropLast_concat_getLast hne] at h
  rcases List.mem_append.1 h with h | h
  · exact h
  · simp at h
    exact absurd h hc

theorem getLastD_eq {l : List Int} (hne : l ≠ []) : l.getLastD 0 = l.getLast hne := by
  rw [List.getLastD_eq_getLast?, List.getLast?_eq_some_getLast hne]
  rfl

theorem shades_ok (rs : List Int) (x : Mk) (h : Ok x) : Ok (rs.foldl Mk.shade x) := by
  induction rs generalizing x with
  | nil => exact h
  | cons r rs ih => exact ih _ (ok_shade h r)

/-- The state in which the last of the stack has been taken and is scanned. -/
def Mk.took (x : Mk) : Mk := { x with l := x.l.dropLast, s := setF x.s (x.l.getLastD 0) true }

theorem took_ok {x : Mk} (h : Ok x) (hne : x.l ≠ []) : Ok x.took := by
  have hlast := List.getLast_mem hne
  obtain ⟨r1, r2, r3, r4⟩ := h.rng _ hlast
  have hD := getLastD_eq hne
  have hnd : x.l.getLast hne ∉ x.l.dropLast := by
    have h1 := h.nodup
    rw [← List.dropLast_concat_getLast hne, List.nodup_append] at h1
    exact fun hc => h1.2.2 _ hc _ (by simp) rfl
  have hset : ∀ (i : Nat), setF x.s (x.l.getLastD 0) true i = true ↔ (i : Int) = x.l.getLast hne ∨ x.s i = true := fun i => by
    rw [setF_at, hD]
    split <;> simp [*]
  have hoff : ∀ (i : Nat), setF x.s (x.l.getLastD 0) true i = false ↔ (i : Int) ≠ x.l.getLast hne ∧ x.s i = false := fun i => by
    rw [setF_at, hD]
    split <;> simp [*]
  unfold Mk.took
  refine ⟨h.nodup.sublist (List.dropLast_sublist _), fun c hc => ?_, fun i hi hs => ?_, h.room, ?_, fun ho i hi hm hs => ?_, fun ho => ?_⟩
  · obtain ⟨q1, q2, q3, q4⟩ := h.rng c ((List.dropLast_sublist _).mem hc)
    exact ⟨q1, q2, q3, (hoff _).2 ⟨fun e => hnd (by rw [← e, Int.toNat_of_nonneg q1]; exact hc), q4⟩⟩
  · rcases (hset i).1 hs with e | e
    · rw [← e] at r3
      simpa using r3
    · exact h.sm i hi e
  · have := h.len
    simp
    omega
  · obtain ⟨n1, n2⟩ := (hoff i).1 hs
    exact mem_dropLast_of (h.full ho i hi hm n2) hne n1
  · obtain ⟨i, i1, i2, i3, i4⟩ := h.lost ho
    exact ⟨i, i1, i2, (hoff i).2 ⟨fun e => i4 (by rw [e]; exact hlast), i3⟩, fun hc => i4 ((List.dropLast_sublist _).mem hc)⟩

theorem step_took {x : Mk} (h : Ok x) (hne : x.l ≠ []) (refs : Int → List Int) : x.step refs = (refs (x.l.getLastD 0)).foldl Mk.shade x.took := by
  obtain ⟨r1, r2, r3, r4⟩ := h.rng _ (List.getLast_mem hne)
  have hD := getLastD_eq hne
  have he : x.l.isEmpty = false := by simp [hne]
  have hs : offB x.n x.s (x.l.getLastD 0) = true := (offB_iff _ _ _).2 (by rw [hD]; exact ⟨r1, r2, r4⟩)
  unfold Mk.step Mk.done
  rw [he]
  simp only [Bool.false_and, Bool.false_eq_true, if_false]
  unfold Mk.scan
  show (if offB x.n x.s (x.l.getLastD 0) then _ else _) = _
  rw [hs]
  rfl
theorem step_again {x : Mk} (hl : x.l = []) (ho : x.over = true) (refs : Int → List Int) : x.step refs = x.again := by
  unfold Mk.step Mk.done
  rw [hl, ho]
  rfl
theorem step_done {x : Mk} (h : x.done = true) (refs : Int → List Int) : x.step refs = x := by
  unfold Mk.step
  rw [if_pos h]
theorem done_iff (x : Mk) : x.done = true ↔ x.l = [] ∧ x.over = false := by
  unfold Mk.done
  simp
theorem step_cases (x : Mk) : x.done = true ∨ x.l ≠ [] ∨ (x.l = [] ∧ x.over = true) := by
  by_cases h : x.l = []
  · cases ho : x.over
    · exact Or.inl ((done_iff x).2 ⟨h, ho⟩)
    · exact Or.inr (Or.inr ⟨h, rfl⟩)
  · exact Or.inr (Or.inl h)

theorem step_ok {x : Mk} (h : Ok x) (refs : Int → List Int) : Ok (x.step refs) := by
  rcases step_cases x with hd | hl | ⟨hl, ho⟩
  · rw [step_done hd]; exact h
  · rw [step_took h hl]; exact shades_ok _ _ (took_ok h hl)
  · rw [step_again hl ho]; exact (again_ok h hl).1

/-- What shading does not turn. -/
theorem shade_same (x : Mk) (b : Int) : (x.shade b).n = x.n ∧ (x.shade b).s = x.s ∧ (x.shade b).room = x.room := by
  unfold Mk.shade
  split
  · exact ⟨rfl, rfl, rfl⟩
  · exact ⟨rfl, rfl, rfl⟩
theorem shades_same (rs : List Int) (x : Mk) : (rs.foldl Mk.shade x).n = x.n ∧ (rs.foldl Mk.shade x).s = x.s ∧ (rs.foldl Mk.shade x).room = x.room := by
  induction rs generalizing x with
  | nil => exact ⟨rfl, rfl, rfl⟩
  | cons r rs ih =>
    obtain ⟨h1, h2, h3⟩ := ih (x.shade r)
    obtain ⟨k1, k2, k3⟩ := shade_same x r
    exact ⟨h1.trans k1, h2.trans k2, h3.trans k3⟩
theorem shade_mono (x : Mk) (b : Int) (i : Nat) (h : x.m i = true) : (x.shade b).m i = true := by
  unfold Mk.shade
  split
  · show setF x.m b true i = true
    rw [setF_at]
    split <;> simp [h]
  · exact h
theorem shade_marks (x : Mk) (b : Int) (h0 : 0 ≤ b) (h1 : b < x.n) : (x.shade b).m b.toNat = true := by
  unfold Mk.shade
  cases hb : offB x.n x.m b
  · exact offB_false _ _ _ hb h0 h1
  · show setF x.m b true b.toNat = true
    rw [setF_at, if_pos (by omega)]
theorem shade_only (x : Mk) (b : Int) (i : Nat) (h : (x.shade b).m i = true) : x.m i = true ∨ ((i : Int) = b ∧ i < x.n) := by
  unfold Mk.shade at h
  cases hb : offB x.n x.m b
  · rw [hb] at h
    exact Or.inl h
  · rw [hb] at h
    have h : setF x.m b true i = true := h
    rw [setF_at] at h
    split at h
    · rename_i e
      have := ((offB_iff _ _ _).1 hb).2.1
      exact Or.inr ⟨e, by omega⟩
    · exact Or.inl h
theorem shades_mono (rs : List Int) (x : Mk) (i : Nat) (h : x.m i = true) : (rs.foldl Mk.shade x).m i = true := by
  induction rs generalizing x with
  | nil => exact h
  | cons r rs ih => exact ih _ (shade_mono x r i h)
theorem shades_mark (rs : List Int) (x : Mk) (r : Int) (hr : r ∈ rs) (h0 : 0 ≤ r) (h1 : r < x.n) : (rs.foldl Mk.shade x).m r.toNat = true := by
  induction rs generalizing x with
  | nil => cases hr
  | cons q rs ih =>
    rcases List.mem_cons.1 hr with e | hr
    · subst e
      exact shades_mono rs _ _ (shade_marks x r h0 h1)
    · exact ih _ hr (by rw [(shade_same x q).1]; exact h1)
theorem shades_only (rs : List Int) (x : Mk) (i : Nat) (h : (rs.foldl Mk.shade x).m i = true) : x.m i = true ∨ ((i : Int) ∈ rs ∧ i < x.n) := by
  induction rs generalizing x with
  | nil => exact Or.inl h
  | cons q rs ih =>
    rcases ih (x.shade q) h with h1 | ⟨h1, h2⟩
    · rcases shade_only x q i h1 with h3 | ⟨h3, h4⟩
      · exact Or.inl h3
      · exact Or.inr ⟨by rw [h3]; exact List.mem_cons_self, h4⟩
    · rw [(shade_same x q).1] at h2
      exact Or.inr ⟨List.mem_cons_of_mem _ h1, h2⟩

theorem step_n {x : Mk} (h : Ok x) (refs : Int → List Int) : (x.step refs).n = x.n := by
  rcases step_cases x with hd | hl | ⟨hl, ho⟩
  · rw [step_done hd]
  · rw [step_took h hl, (shades_same _ _).1]; rfl
  · rw [step_again hl ho, (again_ok h hl).2.1]
theorem step_mono {x : Mk} (h : Ok x) (refs : Int → List Int) (i : Nat) (hm : x.m i = true) : (x.step refs).m i = true := by
  rcases step_cases x with hd | hl | ⟨hl, ho⟩
  · rw [step_done hd]; exact hm
  · rw [step_took h hl]; exact shades_mono _ _ _ hm
  · rw [step_again hl ho, (again_ok h hl).2.2.1]; exact hm

/-- How much is still to be done, at most. -/
def Mk.left (x : Mk) : Nat := countN (fun i => !x.s i) x.n
def Mk.phi (x : Mk) : Nat := 2 * x.left + (if x.l = [] then 1 else 0)

theorem took_left {x : Mk} (h : Ok x) (hne : x.l ≠ []) : x.took.left + 1 = x.left := by
  obtain ⟨r1, r2, r3, r4⟩ := h.rng _ (List.getLast_mem hne)
  have hD := getLastD_eq hne
  obtain ⟨k, hk⟩ : ∃ k : Nat, x.l.getLastD 0 = k := ⟨(x.l.getLastD 0).toNat, by rw [hD]; omega⟩
  have hkn : k < x.n := by rw [hD] at hk; omega
  have hsk : x.s k = false := by
    rw [hD] at hk
    rw [hk] at r4
    simpa using r4
  have h1 := countN_setF (fun i => !x.s i) k x.n false hkn
  simp only [hsk, Bool.not_false, if_true, Bool.false_eq_true, if_false] at h1
  have h2 : x.took.left = countN (setF (fun i => !x.s i) k false) x.n := by
    unfold Mk.left Mk.took
    refine countN_congr (fun i hi => ?_)
    show (!(setF x.s (x.l.getLastD 0) true i)) = setF (fun i => !x.s i) k false i
    rw [hk, setF_at, setF_at]
    split <;> rfl
  unfold Mk.left at *
  omega
theorem step_left {x : Mk} (h : Ok x) (refs : Int → List Int) : (x.step refs).left ≤ x.left ∧ x.left ≤ (x.step refs).left + 1 := by
  rcases step_cases x with hd | hl | ⟨hl, ho⟩
  · rw [step_done hd]; omega
  · rw [step_took h hl]
    have h1 := took_left h hl
    have h2 : ((refs (x.l.getLastD 0)).foldl Mk.shade x.took).left = x.took.left := by
      unfold Mk.left
      obtain ⟨k1, k2, -⟩ := shades_same (refs (x.l.getLastD 0)) x.took
      rw [k1, k2]
    omega
  · rw [step_again hl ho]
    obtain ⟨-, k1, -, k2, -, -⟩ := again_ok h hl
    unfold Mk.left
    rw [k1, k2]
    omega
theorem step_phi {x : Mk} (h : Ok x) (refs : Int → List Int) (hd : x.done = false) : (x.step refs).phi < x.phi := by
  rcases step_cases x with hd' | hl | ⟨hl, ho⟩
  · rw [hd'] at hd; cases hd
  · rw [step_took h hl]
    have h1 := took_left h hl
    have h2 : ((refs (x.l.getLastD 0)).foldl Mk.shade x.took).left = x.took.left := by
      unfold Mk.left
      obtain ⟨k1, k2, -⟩ := shades_same (refs (x.l.getLastD 0)) x.took
      rw [k1, k2]
    unfold Mk.phi
    rw [if_neg hl, h2]
    split <;> omega
  · rw [step_again hl ho]
    obtain ⟨-, k1, -, k2, -, k3⟩ := again_ok h hl
    have h2 : x.again.left = x.left := by unfold Mk.left; rw [k1, k2]
    unfold Mk.phi
    rw [if_neg (k3 ho), if_pos hl, h2]
    omega
theorem shade_phi (x : Mk) (b : Int) : (x.shade b).phi ≤ x.phi := by
  have h1 : (x.shade b).left = x.left := by
    unfold Mk.left
    obtain ⟨k1, k2, -⟩ := shade_same x b
    rw [k1, k2]
  unfold Mk.phi
  rw [h1]
  by_cases hl : x.l = []
  · rw [if_pos hl]
    split <;> omega
  · have : (x.shade b).l ≠ [] := by
      unfold Mk.shade
      split
      · show pushL x.l x.room b ≠ []
        unfold pushL
        split
        · simp
        · exact hl
      · exact hl
    rw [if_neg hl, if_neg this]
    exact Nat.le_refl _
theorem phi_le (x : Mk) : x.phi ≤ 2 * x.n + 1 := by
  have := countN_le (fun i => !x.s i) x.n
  unfold Mk.phi Mk.left
  split <;> omega

/-- All that a scanned one refers to is marked, but what a dark one does. -/
def Closed (x : Mk) (dark : Nat → Bool) (refs : Int → List Int) : Prop :=
  ∀ i, i < x.n → x.s i = true → dark i = false → ∀ r ∈ refs i, 0 ≤ r → r < x.n → x.m r.toNat = true
theorem closed_shade {x : Mk} {dark : Nat → Bool} {refs : Int → List Int} (h : Closed x dark refs) (b : Int) : Closed (x.shade b) dark refs := by
  obtain ⟨k1, k2, -⟩ := shade_same x b
  intro i hi hs hd r hr h0 h1
  rw [k1] at hi h1
  rw [k2] at hs
  exact shade_mono x b _ (h i hi hs hd r hr h0 h1)
theorem closed_shades {dark : Nat → Bool} {refs : Int → List Int} (rs : List Int) (x : Mk) (h : Closed x dark refs) : Closed (rs.foldl Mk.shade x) dark refs := by
  induction rs generalizing x with
  | nil => exact h
  | cons r rs ih => exact ih _ (closed_shade h r)
theorem closed_step {x : Mk} (hx : Ok x) {dark : Nat → Bool} {refs : Int → List Int} (h : Closed x dark refs) : Closed (x.step refs) dark refs := by
  rcases step_cases x with hd | hl | ⟨hl, ho⟩
  · rw [step_done hd]; exact h
  · rw [step_took hx hl]
    obtain ⟨r1, r2, r3, r4⟩ := hx.rng _ (List.getLast_mem hl)
    have hD := getLastD_eq hl
    obtain ⟨k1, k2, -⟩ := shades_same (refs (x.l.getLastD 0)) x.took
    intro i hi hs hd r hr h0 h1
    rw [k1] at hi h1
    rw [k2] at hs
    have hs : setF x.s (x.l.getLastD 0) true i = true := hs
    rw [setF_at] at hs
    split at hs
    · rename_i e
      rw [e] at hr
      exact shades_mark _ _ r hr h0 h1
    · exact shades_mono _ _ _ (h i hi hs hd r hr h0 h1)
  · rw [step_again hl ho]
    obtain ⟨-, k1, k2, k3, -, -⟩ := again_ok hx hl
    intro i hi hs hd r hr h0 h1
    rw [k1] at hi h1
    rw [k3] at hs
    rw [k2]
    exact h i hi hs hd r hr h0 h1

/-- What is reached: not by way of a dark one. -/
inductive Rch (n : Nat) (refs : Int → List Int) (dark : Nat → Bool) (from_ : Int → Prop) : Nat → Prop
  | root (i : Nat) (h : from_ i) (hn : i < n) (hd : dark i = false) : Rch n refs dark from_ i
  | next (i j : Nat) (h : Rch n refs dark from_ i) (hr : (j : Int) ∈ refs i) (hn : j < n) (hd : dark j = false) : Rch n refs dark from_ j

/-- Every marked one is dark or reached; what is dark is scanned. -/
structure Sound (x : Mk) (dark : Nat → Bool) (refs : Int → List Int) (from_ : Int → Prop) : Prop where
  mark : ∀ i, i < x.n → x.m i = true → dark i = true ∨ Rch x.n refs dark from_ i
  dark : ∀ i, i < x.n → dark i = true → x.s i = true ∧ x.m i = true

theorem sound_shades {dark : Nat → Bool} {refs : Int → List Int} {from_ : Int → Prop} (rs : List Int) (x : Mk) (h : Sound x dark refs from_)
    (hr : ∀ j : Nat, (j : Int) ∈ rs → j < x.n → dark j = false → Rch x.n refs dark from_ j) : Sound (rs.foldl Mk.shade x) dark refs from_ := by
  obtain ⟨k1, k2, -⟩ := shades_same rs x
  refine ⟨fun i hi hm => ?_, fun i hi hd => ?_⟩
  · rw [k1] at hi ⊢
    rcases shades_only rs x i hm with h1 | ⟨h1, h2⟩
    · exact h.mark i hi h1
    · cases hd : dark i
      · exact Or.inr (hr i h1 h2 hd)
      · exact Or.inl rfl
  · rw [k1] at hi
    obtain ⟨d1, d2⟩ := h.dark i hi hd
    rw [k2]
    exact ⟨d1, shades_mono rs x i d2⟩
theorem sound_step {x : Mk} (hx : Ok x) {dark : Nat → Bool} {refs : Int → List Int} {from_ : Int → Prop} (h : Sound x dark refs from_) : Sound (x.step refs) dark refs from_ := by
  rcases step_cases x with hd | hl | ⟨hl, ho⟩
  · rw [step_done hd]; exact h
  · rw [step_took hx hl]
    obtain ⟨r1, r2, r3, r4⟩ := hx.rng _ (List.getLast_mem hl)
    have hD := getLastD_eq hl
    have hk : (((x.l.getLastD 0).toNat : Nat) : Int) = x.l.getLastD 0 := by rw [hD]; omega
    have hT : Sound x.took dark refs from_ := ⟨h.mark, fun i hi hd => by
      obtain ⟨d1, d2⟩ := h.dark i hi hd
      refine ⟨?_, d2⟩
      show setF x.s (x.l.getLastD 0) true i = true
      rw [setF_at]
      split <;> simp [d1]⟩
    refine sound_shades _ _ hT (fun j hj hjn hjd => ?_)
    have hkn : (x.l.getLastD 0).toNat < x.n := by rw [hD]; omega
    have hrch : Rch x.n refs dark from_ (x.l.getLastD 0).toNat := by
      rcases h.mark _ hkn (by rw [hD]; exact r3) with hd | hr
      · have := (h.dark _ hkn hd).1
        rw [hD, r4] at this
        cases this
      · exact hr
    exact Rch.next _ j hrch (by rw [hk]; exact hj) hjn hjd
  · rw [step_again hl ho]
    obtain ⟨-, k1, k2, k3, -, -⟩ := again_ok hx hl
    refine ⟨fun i hi hm => ?_, fun i hi hd => ?_⟩
    · rw [k1] at hi ⊢
      rw [k2] at hm
      exact h.mark i hi hm
    · rw [k1] at hi
      rw [k2, k3]
      exact h.dark i hi hd

/-- In the end just what is dark or reached is marked, and all that is scanned. -/
theorem final_marks {x : Mk} (hx : Ok x) {dark : Nat → Bool} {refs : Int → List Int} {from_ : Int → Prop} (hc : Closed x dark refs) (hs : Sound x dark refs from_) (hd : x.done = true)
    (hroot : ∀ i : Nat, from_ i → i < x.n → x.m i = true) : ∀ i, i < x.n → (x.m i = true ↔ dark i = true ∨ Rch x.n refs dark from_ i) := by
  obtain ⟨hl, ho⟩ := (done_iff x).1 hd
  have hscan : ∀ i, i < x.n → x.m i = true → x.s i = true := fun i hi hm => by
    cases hsi : x.s i
    · have := hx.full ho i hi hm hsi
      rw [hl] at this
      cases this
    · rfl
  have hR : ∀ i, Rch x.n refs dark from_ i → i < x.n ∧ dark i = false ∧ x.m i = true := fun i hi => by
    induction hi with
    | root i h hn hd => exact ⟨hn, hd, hroot i h hn⟩
    | next i j h hr hn hd ih =>
      obtain ⟨i1, i2, i3⟩ := ih
      have := hc i i1 (hscan i i1 i3) i2 (j : Int) hr (by omega) (by omega)
      exact ⟨hn, hd, by simpa using this⟩
  refine fun i hi => ⟨fun hm => hs.mark i hi hm, fun h => ?_⟩
  rcases h with h | h
  · exact (hs.dark i hi h).2
  · exact (hR i h).2.2
end Go.Proofs.Ythaicpjgmplgcaa
