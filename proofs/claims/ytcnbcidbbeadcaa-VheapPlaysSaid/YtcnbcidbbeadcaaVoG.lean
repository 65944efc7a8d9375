/- What is kept is what is reached: plain. -/
import Derived.Test.YtcnbcidbbeadcaaVhNw
import Derived.Test.YtcnbcidbbeadcaaVhMv
import Derived.Maps.OwnSet
import Derived.Maps.OwnOps
import Derived.Test.YtcnbcidbbeadcaaVoF
-- merged



namespace Go.Proofs.Ytcnbcidbbeadcaa
open Go.RowKit Go.Deep
set_option linter.unusedVariables false

/-- What some numbers reach. -/
inductive Rc (o : Nat → VOb) (l : List Int) : Int → Prop
  | base (x : Int) : x ∈ l → (findV o x).isSome = true → Rc o l x
  | step (x y : Int) : Rc o l x → y ∈ refsV o x → (findV o y).isSome = true → Rc o l y
theorem addK_mem (o : Nat → VOb) (K l : List Int) (x : Int) : x ∈ addK o K l ↔ x ∈ K ∨ (x ∈ l ∧ (findV o x).isSome = true) := by
  induction l generalizing K with
  | nil => simp [addK]
  | cons y l ih =>
    show x ∈ addK o (stepK o K y) l ↔ _
    rw [ih]
    unfold stepK
    constructor
    · rintro (h | h)
      · split at h
        · rename_i hc
          rcases List.mem_append.1 h with h | h
          · exact Or.inl h
          · simp at h
            subst h
            exact Or.inr ⟨by simp, hc.1⟩
        · exact Or.inl h
      · exact Or.inr ⟨by simp [h.1], h.2⟩
    · rintro (h | ⟨h, hu⟩)
      · left
        split
        · exact List.mem_append.2 (Or.inl h)
        · exact h
      · rcases List.mem_cons.1 h with h | h
        · subst h
          left
          split
          · simp
          · rename_i hc
            by_cases hm : x ∈ K
            · exact hm
            · exact absurd ⟨hu, hm⟩ hc
        · exact Or.inr ⟨h, hu⟩
structure KInv (o : Nat → VOb) (l : List Int) (i : Nat) (K : List Int) : Prop where
  ok : KeepOk o K
  le : i ≤ K.length
  rc : ∀ x ∈ K, Rc o l x
  bs : ∀ x ∈ l, (findV o x).isSome = true → x ∈ K
  cl : ∀ j, j < i → ∀ y ∈ refsV o (K.getD j 0), (findV o y).isSome = true → y ∈ K
theorem addK_pre (o : Nat → VOb) (K l : List Int) : ∃ M, addK o K l = K ++ M := by
  induction l generalizing K with
  | nil => exact ⟨[], by simp [addK]⟩
  | cons x l ih =>
    obtain ⟨M, hM⟩ := ih (stepK o K x)
    show ∃ M, addK o (stepK o K x) l = K ++ M
    rw [hM]
    unfold stepK
    split
    · exact ⟨[x] ++ M, by simp⟩
    · exact ⟨M, rfl⟩
theorem keepGo_inv {o : Nat → VOb} {l : List Int} (n i : Nat) (K : List Int) (h : KInv o l i K) (hn : 65 ≤ n + i) : KInv o l (keepGo o n i K).length (keepGo o n i K) := by
  induction n generalizing i K with
  | zero =>
    have := h.ok.len
    have := h.le
    omega
  | succ n ih =>
    unfold keepGo
    split
    · rename_i hi
      refine ih (i + 1) _ ?_ (by omega)
      obtain ⟨M, hM⟩ := addK_pre o K (refsV o (K.getD i 0))
      have hget : ∀ j, j < K.length → (addK o K (refsV o (K.getD i 0))).getD j 0 = K.getD j 0 := fun j hj => by
        rw [hM]
        simp only [List.getD]
        rw [List.getElem?_append_left hj]
      have hsub : ∀ x, x ∈ K → x ∈ addK o K (refsV o (K.getD i 0)) := fun x hx => (addK_mem o K _ x).2 (Or.inl hx)
      have hxi : K.getD i 0 ∈ K := by
        have : K.getD i 0 = K[i] := by simp [List.getD, hi]
        rw [this]
        exact List.getElem_mem hi
      refine ⟨h.ok.add _, by rw [hM, List.length_append]; omega, fun x hx => ?_, fun x hx hu => hsub x (h.bs x hx hu), fun j hj y hy hu => ?_⟩
      · rcases (addK_mem o K _ x).1 hx with hx | ⟨hx, hu⟩
        · exact h.rc x hx
        · exact Rc.step _ x (h.rc _ hxi) hx hu
      · rw [hget j (by omega)] at hy
        by_cases e : j = i
        · subst e
          exact (addK_mem o K _ y).2 (Or.inr ⟨hy, hu⟩)
        · exact hsub y (h.cl j (by omega) y hy hu)
    · rename_i hi
      have : i = K.length := by have := h.le; omega
      subst this
      exact h
theorem keepV_mem (o : Nat → VOb) (l : List Int) : KeepOk o (keepV o l) ∧ ∀ x, x ∈ keepV o l ↔ Rc o l x := by
  have h0 : KInv o l 0 (addK o [] l) := ⟨(KeepOk.nil o).add l, Nat.zero_le _, fun x hx => by
    rcases (addK_mem o [] l x).1 hx with h | ⟨h, hu⟩
    · cases h
    · exact Rc.base x h hu, fun x hx hu => (addK_mem o [] l x).2 (Or.inr ⟨hx, hu⟩), fun j hj => by omega⟩
  have h := keepGo_inv 65 0 _ h0 (by omega)
  refine ⟨h.ok, fun x => ⟨h.rc x, fun hr => ?_⟩⟩
  induction hr with
  | base x hx hu => exact h.bs x hx hu
  | step x y _ hy hu ih =>
    obtain ⟨j, hj, e⟩ := List.mem_iff_getElem.1 ih
    have e2 : (keepGo o 65 0 (addK o [] l)).getD j 0 = x := by
      show (keepV o l).getD j 0 = x
      simp [List.getD, hj, e]
    exact h.cl j hj y (by rw [e2]; exact hy) hu
theorem nodup_sub {a b : List Int} (ha : a.Nodup) (hs : ∀ x ∈ a, x ∈ b) : a.length ≤ b.length := by
  induction a generalizing b with
  | nil => exact Nat.zero_le _
  | cons x a ih =>
    have hx := hs x (by simp)
    have h1 := List.length_erase_of_mem hx
    have hp : 0 < b.length := List.length_pos_of_mem hx
    have hn := List.nodup_cons.1 ha
    have := ih (b := b.erase x) hn.2 (fun y hy => (List.mem_erase_of_ne (fun e => hn.1 (by rw [← e]; exact hy))).2 (hs y (by simp [hy])))
    simp only [List.length_cons]
    omega
/-- The law's own search. -/
structure SInv (o : Nat → VOb) (l : List Int) (k : Nat) (row S : List Int) : Prop where
  ok : KeepOk o S
  le : k ≤ row.length
  ln : row.length ≤ l.length + 15 * S.length
  rc : ∀ x ∈ row, (findV o x).isSome = true → Rc o l x
  sr : ∀ x ∈ S, x ∈ row
  bs : ∀ x ∈ l, x ∈ row
  cl : ∀ x ∈ S, ∀ y ∈ refsV o x, y ∈ row
  dn : ∀ j, j < k → (findV o (row.getD j 0)).isSome = true → row.getD j 0 ∈ S
theorem SInv.start (o : Nat → VOb) (l : List Int) : SInv o l 0 l [] := ⟨KeepOk.nil o, Nat.zero_le _, by simp, fun x hx hu => Rc.base x hx hu, by simp, fun x hx => hx, by simp, fun j hj => by omega⟩
theorem SInv.pass {o : Nat → VOb} {l : List Int} {k : Nat} {row S : List Int} (h : SInv o l k row S) (hk : k < row.length) (hc : row.getD k 0 ∈ S ∨ (findV o (row.getD k 0)).isSome = false) : SInv o l (k + 1) row S :=
  ⟨h.ok, by omega, h.ln, h.rc, h.sr, h.bs, h.cl, fun j hj hu => by
    by_cases e : j = k
    · subst e
      rcases hc with hc | hc
      · exact hc
      · rw [hc] at hu; cases hu
    · exact h.dn j (by omega) hu⟩
theorem SInv.take {o : Nat → VOb} {l : List Int} {k : Nat} {row S : List Int} (h : SInv o l k row S) (h15 : ∀ x, (refsV o x).length ≤ 15) (hk : k < row.length) (hn : row.getD k 0 ∉ S) (hu : (findV o (row.getD k 0)).isSome = true) : SInv o l (k + 1) (row ++ refsV o (row.getD k 0)) (row.getD k 0 :: S) := by
  have hxr : row.getD k 0 ∈ row := by
    have : row.getD k 0 = row[k] := by simp [List.getD, hk]
    rw [this]
    exact List.getElem_mem hk
  have hget : ∀ j, j < row.length → (row ++ refsV o (row.getD k 0)).getD j 0 = row.getD j 0 := fun j hj => by
    simp only [List.getD]
    rw [List.getElem?_append_left hj]
  refine ⟨⟨List.nodup_cons.2 ⟨hn, h.ok.nd⟩, fun x hx => ?_⟩, by rw [List.length_append]; omega, ?_, fun x hx hux => ?_, fun x hx => ?_, fun x hx => List.mem_append.2 (Or.inl (h.bs x hx)), fun x hx y hy => ?_, fun j hj huj => ?_⟩
  · rcases List.mem_cons.1 hx with hx | hx
    · rw [hx]; exact hu
    · exact h.ok.us x hx
  · rw [List.length_append, List.length_cons]
    have := h.ln
    have := h15 (row.getD k 0)
    omega
  · rcases List.mem_append.1 hx with hx | hx
    · exact h.rc x hx hux
    · exact Rc.step _ x (h.rc _ hxr hu) hx hux
  · rcases List.mem_cons.1 hx with hx | hx
    · rw [hx]; exact List.mem_append.2 (Or.inl hxr)
    · exact List.mem_append.2 (Or.inl (h.sr x hx))
  · rcases List.mem_cons.1 hx with hx | hx
    · subst hx
      exact List.mem_append.2 (Or.inr hy)
    · exact List.mem_append.2 (Or.inl (h.cl x hx y hy))
  · rw [hget j (by omega)] at huj ⊢
    by_cases e : j = k
    · subst e; simp
    · exact List.mem_cons.2 (Or.inr (h.dn j (by omega) huj))
theorem SInv.fin {o : Nat → VOb} {l : List Int} {row S : List Int} (h : SInv o l row.length row S) : (∀ x, x ∈ S ↔ x ∈ keepV o l) ∧ S.length = (keepV o l).length := by
  obtain ⟨hk, hm⟩ := keepV_mem o l
  have hrow : ∀ x ∈ row, (findV o x).isSome = true → x ∈ S := fun x hx hu => by
    obtain ⟨j, hj, e⟩ := List.mem_iff_getElem.1 hx
    have e2 : row.getD j 0 = x := by simp [List.getD, hj, e]
    have := h.dn j hj (by rw [e2]; exact hu)
    rw [e2] at this
    exact this
  have hiff : ∀ x, x ∈ S ↔ x ∈ keepV o l := fun x => by
    rw [hm]
    constructor
    · intro hx
      exact h.rc x (h.sr x hx) (h.ok.us x hx)
    · intro hr
      induction hr with
      | base x hx hu => exact hrow x (h.bs x hx) hu
      | step x y _ hy hu ih => exact hrow y (h.cl x ih y hy) hu
  refine ⟨hiff, ?_⟩
  have h1 := nodup_sub h.ok.nd (fun x hx => (hiff x).1 hx)
  have h2 := nodup_sub hk.nd (fun x hx => (hiff x).2 hx)
  omega
theorem filter_two (l : List Int) (K : List Int) : (l.filter (fun x => decide (x ∉ K))).length + (l.filter (fun x => decide (x ∈ K))).length = l.length := by
  induction l with
  | nil => rfl
  | cons x l ih =>
    by_cases h : x ∈ K
    · rw [List.filter_cons_of_neg (by simp [h]), List.filter_cons_of_pos (by simp [h])]
      simp only [List.length_cons]
      omega
    · rw [List.filter_cons_of_pos (by simp [h]), List.filter_cons_of_neg (by simp [h])]
      simp only [List.length_cons]
      omega
theorem gone_filter (o : Nat → VOb) (K : List Int) (n : Nat) : goneTo o K n = ((allTo o n).filter (fun x => decide (x ∉ K))).length := by
  induction n with
  | zero => rfl
  | succ n ih =>
    unfold goneTo allTo
    rw [List.filter_append, List.length_append, ih]
    congr 1
    by_cases hu : (o n).used = true
    · rw [if_pos hu]
      by_cases hm : (-1 - (n : Int)) ∈ K
      · rw [if_neg (fun h => h.2 hm), List.filter_cons_of_neg (by simp [hm])]
        rfl
      · have hc : (o n).used = true ∧ (-1 - (n : Int)) ∉ K := ⟨hu, hm⟩
        rw [if_pos hc, List.filter_cons_of_pos (by simp [hm])]
        rfl
    · rw [if_neg hu, if_neg (fun h => hu h.1)]
      rfl
theorem drop_filter (o : Nat → VOb) (K : List Int) (N n : Nat) (hn : n ≤ N) : allTo (dropV o K N) n = (allTo o n).filter (fun x => decide (x ∈ K)) := by
  induction n with
  | zero => rfl
  | succ n ih =>
    unfold allTo
    rw [List.filter_append, ih (by omega)]
    congr 1
    by_cases hu : (o n).used = true
    · rw [if_pos hu]
      by_cases hm : (-1 - (n : Int)) ∈ K
      · have e : dropV o K N n = o n := by
          unfold dropV
          rw [if_neg (fun h => h.2.2 hm)]
        rw [e, if_pos hu, List.filter_cons_of_pos (by simp [hm])]
        rfl
      · have e : dropV o K N n = noOb := by
          unfold dropV
          rw [if_pos ⟨by omega, hu, hm⟩]
        rw [e, if_neg (by decide), List.filter_cons_of_neg (by simp [hm])]
        rfl
    · have e : dropV o K N n = o n := by
        unfold dropV
        rw [if_neg (fun h => hu h.2.1)]
      rw [e, if_neg hu]
      rfl
/-- How many are gone, how many are left. -/
theorem gone_count (o : Nat → VOb) (K : List Int) (hK : KeepOk o K) : goneTo o K 64 + K.length = (allV o).length ∧ (allV (dropV o K 64)).length = K.length := by
  have h1 : ((allTo o 64).filter (fun x => decide (x ∈ K))).length = K.length := by
    have hnd : ((allTo o 64).filter (fun x => decide (x ∈ K))).Nodup := (allTo_nodup o 64).filter _
    have a := nodup_sub hnd (b := K) (fun x hx => by
      have := (List.mem_filter.1 hx).2
      simpa using this)
    have b := nodup_sub hK.nd (b := (allTo o 64).filter (fun x => decide (x ∈ K))) (fun x hx => by
      refine List.mem_filter.2 ⟨?_, by simpa using hx⟩
      have hu := hK.us x hx
      cases hf : findV o x with
      | none => rw [hf] at hu; cases hu
      | some i =>
        obtain ⟨hi, hus, hx2⟩ := findV_some hf
        exact (allTo_mem o 64 x).2 ⟨i, hi, hus, hx2⟩)
    omega
  refine ⟨?_, ?_⟩
  · have := filter_two (allTo o 64) K
    rw [gone_filter]
    show _ = (allTo o 64).length
    omega
  · show (allTo (dropV o K 64) 64).length = K.length
    rw [drop_filter o K 64 64 (Nat.le_refl _)]
    exact h1
end Go.Proofs.Ytcnbcidbbeadcaa

/- A map that keeps a set of numbers, and how many. -/



namespace Go.Proofs.Ytcnbcidbbeadcaa
open Go.RowKit Go.Deep Go.Maps
set_option linter.unusedVariables false

theorem mapLaw14 : Keyed Try.prog 3 := int_keyed Try.underlying3
theorem zeroI14 (w : World) : (zeroValue 3).run Try.prog w = .ok (.int .i64 0) w := by kernel_rfl
/-- Block bm is a map in which just the numbers of S have the value 1. -/
def KSet (w : World) (bm : Nat) (S : List Int) : Prop :=
  ∃ (n : Nat) (D : DataW Unit), n ≤ S.length ∧ w.ownsMap Try.prog 3 (plainElem Try.prog 3) bm n D ∧ Tidy D ∧ (∀ x : Int, Maps.has D (.int .i64 x) = decide (x ∈ S)) ∧ (∀ x, D.atKey (.int .i64 x) (.lit (.int .i64 0)) = .lit (.int .i64 (if x ∈ S then 1 else 0))) ∧ Maps.size D = S.length
theorem KSet.new (w : World) : KSet (w.alloc (.map #[] 0)) w.heap.size [] := ⟨0, .map [], Nat.le_refl _, World.ownsMap_made _ _ _ _, tidy_empty, fun x => by simp [Maps.has], fun x => by simp [DataW.atKey], rfl⟩
theorem KSet.lt {w : World} {bm : Nat} {S : List Int} (h : KSet w bm S) : bm < w.heap.size := by
  obtain ⟨n, D, -, h1, -⟩ := h
  exact h1.lt
theorem KSet.upd {w w' : World} {bm : Nat} {S : List Int} (h : KSet w bm S) {T : Nat → Prop} (u : Upd T w w') (hT : ¬ T bm) : KSet w' bm S := by
  obtain ⟨n, D, h0, h1, h2⟩ := h
  have hl := h1.lt
  obtain ⟨es, clock, hb, r⟩ := h1
  exact ⟨n, D, h0, ⟨es, clock, by rw [u.block bm hl hT]; exact hb, r⟩, h2⟩
theorem wpList_sput {w : World} {ops : Array Oper} {rest : List Oper} {o : Oper} {a : Act} {Q : Exit → Act → World → Prop} (hg : o.guard = none) (m x v : Operand) (hop : o.op = Op.mapUpdate 81 m x v)
    (bm : Nat) (S : List Int) (h : KSet w bm S) (hS : S.length ≤ 100000) (hm : a.eval m = .map (some bm)) (y : Int) (hy : (Lit.int .i64 y).wf = true) (hyS : y ∉ S) (hx : a.eval x = .int .i64 y) (hv : a.eval v = .int .i64 1)
    (hK : ∀ w', KSet w' bm (y :: S) → Upd (fun j => j = bm) w w' → wpList Try.prog ops Q rest (a.put o.dst undef) w') : wpList Try.prog ops Q (o :: rest) a w := by
  obtain ⟨n, D, h0, h1, h2, h3, h4, h5⟩ := h
  refine wpList_mapUpdate_own w hg m x v 81 hop 3 3 mapLaw14 Try.underlying81 _ bm n D hm h1 (by unfold maxLen; omega) _ _ (.int .i64 y) hx hv (keyOf_int_mk Try.underlying3 hy) _ [] (plainElem_int Try.underlying3 (by decide)) ?_
  intro w' k3 k4
  have hkey : WideAt.IsKeyLit (.int .i64 y) := by first | trivial | simp [WideAt.IsKeyLit]
  refine hK w' ⟨n + 1, _, by simp; omega, k3, h2.put hkey _, fun z => ?_, fun z => ?_, ?_⟩ ((Upd.refl _ _).grown k4 (fun k e hk => by cases e; rfl))
  · by_cases e : z = y
    · subst e
      rw [has_put_same h2.isMap hkey]
      simp
    · rw [has_put_other (by intro h; cases h; exact e rfl), h3 z]
      simp [e]
  · by_cases e : z = y
    · subst e
      rw [atKey_put_same h2.isMap hkey]
      simp
    · rw [atKey_put_other (by intro h; cases h; exact e rfl), h4 z]
      simp [e]
  · rw [size_put h2, h3 y, decide_eq_false hyS, h5]
    simp
theorem wpList_slook {w : World} {ops : Array Oper} {rest : List Oper} {o : Oper} {a : Act} {Q : Exit → Act → World → Prop} (hg : o.guard = none) (m x : Operand) (hop : o.op = Op.lookup 81 m x false)
    (bm : Nat) (S : List Int) (h : KSet w bm S) (hm : a.eval m = .map (some bm)) (y : Int) (hy : (Lit.int .i64 y).wf = true) (hx : a.eval x = .int .i64 y)
    (hK : wpList Try.prog ops Q rest (a.put o.dst (.int .i64 (if y ∈ S then 1 else 0))) w) : wpList Try.prog ops Q (o :: rest) a w := by
  obtain ⟨n, D, h0, h1, h2, h3, h4, h5⟩ := h
  refine wpList_lookup_own_int w hg m x 81 hop 3 3 .i64 mapLaw14 Try.underlying81 Try.underlying3 (zeroI14 w) bm n D hm h1 _ (.int .i64 y) hx (keyOf_int_mk Try.underlying3 hy) ?_
  intro c hc hw
  rw [h4 y] at hc
  have : c = if y ∈ S then 1 else 0 := by
    injection hc with e
    injection e with e1 e2
    exact e2.symm
  rw [this]
  exact hK
theorem wpList_slen {w : World} {ops : Array Oper} {rest : List Oper} {o : Oper} {a : Act} {Q : Exit → Act → World → Prop} (hg : o.guard = none) (m : Operand) (hop : o.op = Op.call { callee := Callee.builtin Builtin.len, args := #[m], argTypes := #[81] })
    (bm : Nat) (S : List Int) (h : KSet w bm S) (hm : a.eval m = .map (some bm)) (hK : wpList Try.prog ops Q rest (a.put o.dst (.int .i64 (S.length : Int))) w) : wpList Try.prog ops Q (o :: rest) a w := by
  obtain ⟨n, D, h0, h1, h2, h3, h4, h5⟩ := h
  refine wpList_len_own w hg m 81 hop 3 3 Try.underlying81 _ bm n D hm h1 ?_
  rw [h5]
  exact hK
theorem wf_of_i64 {x : Int} (h : I64 x) : (Lit.int .i64 x).wf = true := by
  obtain ⟨h1, h2⟩ := h
  simp only [Lit.wf, Bool.and_eq_true, decide_eq_true_eq]
  rw [show IntKind.i64.min = -9223372036854775808 from by decide, show IntKind.i64.max = 9223372036854775807 from by decide]
  exact ⟨h1, h2⟩
theorem refsTo5_i64 {f : List Val} (h : ∀ x ∈ f, x.ok) : ∀ y ∈ refsTo5 f, I64 y := by
  induction f with
  | nil => intro y hy; simp [refsTo5] at hy
  | cons x xs ih =>
    intro y hy
    unfold refsTo5 at hy
    rcases List.mem_append.1 hy with hy | hy
    · split at hy
      · simp at hy
        rw [hy]
        exact (h x (by simp)).r
      · simp at hy
    · exact ih (fun z hz => h z (by simp [hz])) y hy
end Go.Proofs.Ytcnbcidbbeadcaa

/- Both at the start. -/


namespace Go.Proofs.Ytcnbcidbbeadcaa
open Go.RowKit Go.Deep
set_option linter.unusedVariables false

theorem kinds_matU (w w' : World) {T : Nat → Prop} (u : Upd T ((((w.alloc (.cells #[.int .i64 1] 3)).alloc (.cells #[.int .i64 3, .int .i64 1, .int .i64 3] 3)).alloc (.cells #[.int .i64 2, .int .i64 3] 3)).alloc (.cells #[.slice (some ⟨w.heap.size, 0, none⟩) 1 1, .slice (some ⟨w.heap.size + 1, 0, none⟩) 3 3, .slice (some ⟨w.heap.size + 1 + 1, 0, none⟩) 2 2, .slice none 0 0] 68)) w') (hT : ∀ j, T j → j < w.heap.size ∨ w.heap.size + 4 ≤ j) : MatIn w' (.slice (some ⟨w.heap.size + 1 + 1 + 1, 0, none⟩) 4 4) ks14 := by
  have h1 := (((Blk.new w [.int .i64 1] 3).alloc (.cells #[.int .i64 3, .int .i64 1, .int .i64 3] 3)).alloc (.cells #[.int .i64 2, .int .i64 3] 3)).alloc (.cells #[.slice (some ⟨w.heap.size, 0, none⟩) 1 1, .slice (some ⟨w.heap.size + 1, 0, none⟩) 3 3, .slice (some ⟨w.heap.size + 1 + 1, 0, none⟩) 2 2, .slice none 0 0] 68)
  have h2 := Blk.new (w.alloc (.cells #[.int .i64 1] 3)) [.int .i64 3, .int .i64 1, .int .i64 3] 3
  rw [alloc_size] at h2
  have h2 := (h2.alloc (.cells #[.int .i64 2, .int .i64 3] 3)).alloc (.cells #[.slice (some ⟨w.heap.size, 0, none⟩) 1 1, .slice (some ⟨w.heap.size + 1, 0, none⟩) 3 3, .slice (some ⟨w.heap.size + 1 + 1, 0, none⟩) 2 2, .slice none 0 0] 68)
  have h3 := Blk.new ((w.alloc (.cells #[.int .i64 1] 3)).alloc (.cells #[.int .i64 3, .int .i64 1, .int .i64 3] 3)) [.int .i64 2, .int .i64 3] 3
  rw [alloc_size, alloc_size] at h3
  have h3 := h3.alloc (.cells #[.slice (some ⟨w.heap.size, 0, none⟩) 1 1, .slice (some ⟨w.heap.size + 1, 0, none⟩) 3 3, .slice (some ⟨w.heap.size + 1 + 1, 0, none⟩) 2 2, .slice none 0 0] 68)
  have h4 := Blk.new (((w.alloc (.cells #[.int .i64 1] 3)).alloc (.cells #[.int .i64 3, .int .i64 1, .int .i64 3] 3)).alloc (.cells #[.int .i64 2, .int .i64 3] 3)) [.slice (some ⟨w.heap.size, 0, none⟩) 1 1, .slice (some ⟨w.heap.size + 1, 0, none⟩) 3 3, .slice (some ⟨w.heap.size + 1 + 1, 0, none⟩) 2 2, .slice none 0 0] 68
  rw [alloc_size, alloc_size, alloc_size] at h4
  have h1 := h1.upd u (fun e => by have := hT _ e; omega)
  have h2 := h2.upd u (fun e => by have := hT _ e; omega)
  have h3 := h3.upd u (fun e => by have := hT _ e; omega)
  have h4 := h4.upd u (fun e => by have := hT _ e; omega)
  refine ⟨fun i => ([.slice (some ⟨w.heap.size, 0, none⟩) 1 1, .slice (some ⟨w.heap.size + 1, 0, none⟩) 3 3, .slice (some ⟨w.heap.size + 1 + 1, 0, none⟩) 2 2, .slice none 0 0] : List Value).getD i undef, ⟨_, _, rfl, Nat.le_refl _, by decide, fun _ => ⟨_, 0, rfl, h4.lt, fun i hi j hj => ?_⟩⟩, fun i hi => ?_⟩
  · have hi : i < 4 := hi
    obtain rfl : j = 0 := by omega
    match i, hi with
    | 0, _ => exact h4.cell 0 rfl
    | 1, _ => exact h4.cell 1 rfl
    | 2, _ => exact h4.cell 2 rfl
    | 3, _ => exact h4.cell 3 rfl
  · have hi : i < 4 := hi
    match i, hi with
    | 0, _ => exact ints_blk (xs := [1]) h1 (by decide)
    | 1, _ => exact ints_blk (xs := [3, 1, 3]) h2 (by decide)
    | 2, _ => exact ints_blk (xs := [2, 3]) h3 (by decide)
    | 3, _ => exact ⟨none, 0, rfl, Nat.le_refl _, by decide, fun h => absurd (show 0 < 0 from h) (by decide)⟩

def RetMatU (w : World) (tt : List (List Int)) (e : Ending) (w' : World) : Prop := ∃ v, e = .returned v ∧ (∀ w'' (T : Nat → Prop), Upd T w' w'' → (∀ j, T j → j < w.heap.size ∨ w'.heap.size ≤ j) → MatIn w'' v tt) ∧ Upd (fun _ => False) w w'
set_option maxRecDepth 100000 in
theorem kinds14U (w : World) : Calls Try.prog 24 #[] w (RetMatU w ks14) := by
  have hm := Lib.hid (fun w' (T : Nat → Prop) u hT => kinds_matU w w' (T := T) u hT)
  go_enter Try.func24, Try.ntmps24
  go_wp2
  go_ret
  exact ⟨_, rfl, fun w'' T u hT => hm.out w'' T u (fun j hj => by have := hT j hj; simp at this; omega), ((((Upd.refl _ _).alloc _).alloc _).alloc _).alloc _⟩
set_option maxRecDepth 100000 in
theorem vo_zero (a : Option Addr) (n c : Nat) : Try.zeroCells75.setIfInBounds 0 (.slice a n c) = (voC (.slice a n c) no14 (fun _ => 0) (fun _ => .slice none 0 0)).toArray := by kernel_rfl
theorem Mid.start {W w3 : World} {b base : Nat} {kv kw : Value} (h : IsVh w3 b base ks14 no14 kv (fun _ => .slice none 0 0)) (hlo : W.heap.size ≤ b) (hup : Upd (fun _ => False) W w3)
    (hM : ∀ w'' (T : Nat → Prop), Upd T w3 w'' → (∀ j, T j → j = b ∨ w3.heap.size ≤ j) → MatIn w'' kw ks14) :
    Mid W (fun _ => False) b base w3.heap.size kv kw no14 no14 (w3.alloc (.cells (voC kw no14 (fun _ => 0) (fun _ => .slice none 0 0)).toArray 75)) := by
  have ha : Upd (fun _ => False) w3 (w3.alloc (.cells (voC kw no14 (fun _ => 0) (fun _ => .slice none 0 0)).toArray 75)) := (Upd.refl _ _).alloc _
  have hbl := h.blk.lt
  have hsz : (w3.alloc (.cells (voC kw no14 (fun _ => 0) (fun _ => .slice none 0 0)).toArray 75)).heap.size = w3.heap.size + 1 := alloc_size _ _
  refine ⟨⟨fun _ => .slice none 0 0, fun _ => 0, fun _ => .slice none 0 0, h.still ha, ⟨Blk.new w3 _ 75, Or.inl rfl, fun j e => ?_, fun w' u => hM w' (TT w3.heap.size b (fun _ => .slice none 0 0)) ((ha.mono (fun _ _ x => x.elim)).trans u) (fun j e => ?_), fun i hi hu => (by cases hu), fun i hi hu => (by cases hu)⟩, fun i hi e => (by cases e), fun g hg => False.elim hg⟩, ⟨hlo, ?_⟩, hup.trans ha⟩
  · rcases e with e | e | ⟨i, hi, e⟩
    · omega
    · omega
    · cases e
  · rcases e with e | e | ⟨i, hi, e⟩
    · exact Or.inr (by omega)
    · exact Or.inl e
    · cases e
  · have := h.size
    omega
end Go.Proofs.Ytcnbcidbbeadcaa

