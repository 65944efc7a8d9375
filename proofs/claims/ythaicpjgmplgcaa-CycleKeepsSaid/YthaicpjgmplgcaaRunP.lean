/- A collection's whole run: plain; append of ints onto a row of the call's own, told where it lies then. -/
import Derived.Test.YthaicpjgmplgcaaCyLaw
import Derived.Test.YthaicpjgmplgcaaMarkAllS
import Derived.Maps.AppendAt
namespace Go.Proofs.Ythaicpjgmplgcaa
open Go.RowKit Go.ChangeShapes Go.WideShapes
set_option linter.unusedVariables false

/-- append(s, x...): s is the call's own row, x any ints; where the new row lies. -/
theorem wpList_appendLie {P : Program} {w : World} {ops : Array Oper} {rest : List Oper} {o : Oper} {a : Act} {Q : Exit → Act → World → Prop} (hgd : o.guard = none) (s x : Operand) (t e : TypeId)
    (ho : o.op = .call { callee := .builtin .append, args := #[s, x], argTypes := #[t, t] }) (z : Value) (bytes : Nat) (ht : P.underlying t = some (.slice e)) (hinfo : (P.info? e).map (fun i => (i.zero, i.size, i.bytes)) = some (some z, 1, bytes)) (hzs : z.cells.size = 1)
    (B : Nat) (v : Value) (n : Nat) (us : List Value) (hs : a.eval s = v) (hown : w.ownsRow B e 1 v n us) (ao : Option Addr) (m c : Nat) (k : IntKind) (xs : List Int) (hm : m = xs.length) (hx : a.eval x = .slice ao m c) (hin : IntsR w (.slice ao m c) k xs)
    (hn : n + m ≤ 1099511627776) (hb : bytes ≤ 64) (hbase : B ≤ w.heap.size)
    (h : ∀ a' c' w', w'.ownsRow B e 1 (.slice a' (n + m) c') (n + m) (us ++ xs.map (Value.int k)) → w.grownBy w' v.ownBlock → ((Value.slice a' (n + m) c').ownBlock = v.ownBlock ∨ (Value.slice a' (n + m) c').ownBlock = some w.heap.size) → wpList P ops Q rest (a.put o.dst (.slice a' (n + m) c')) w') : wpList P ops Q (o :: rest) a w := by
  subst hm
  obtain ⟨i0, hi, hz0, hz1, hz2⟩ := info_parts hinfo
  cases ao with
  | none =>
    have h0 : xs.length = 0 := by
      obtain ⟨a', cap, g1, g2, g3, g4⟩ := hin
      rcases Nat.eq_zero_or_pos xs.length with h0 | h0
      · exact h0
      · obtain ⟨b, off, k1, -⟩ := g4 h0
        cases g1
        cases k1
    have hxs : xs = [] := List.eq_nil_of_length_eq_zero h0
    subst hxs
    obtain ⟨a1, c1, rfl⟩ := ownsRow_shape hown
    have hcap : n ≤ c1 := by
      rcases hown.2 with ⟨e1, e2⟩ | ⟨g, cap, cur, e1, -, -, e2, -⟩
      · omega
      · have := (Value.slice.inj e1).2.2
        omega
    refine wpList_plain hgd fun K hK' => ?_
    have hrun := run_append_nil (P := P) w t o.type e i0 a1 n c1 c hcap ht hi
    have hx : a.eval x = .slice none 0 c := hx
    unfold Oper.wp
    simp [execOp, ho, resolve, invoke, builtin, hs, hx, hrun, Result.andThen]
    exact hK' _ _ (h a1 c1 w (by simpa using hown) ((World.grownBy.refl _ _)) (Or.inl rfl))
  | some ad =>
    obtain ⟨hm, hc⟩ := ints_cells hin
    refine wpList_append_own_at w hgd s x t ho B e i0 z 1 bytes ht hi hz0 hz1 hz2 hzs (by decide) v n us hs hown ad xs.length c (xs.map (Value.int k)) hx (by simp) hc ?_ ?_ ?_ hbase ?_
    · intro u hu
      obtain ⟨y, -, rfl⟩ := List.mem_map.1 hu
      rfl
    · unfold maxLen; omega
    · have := Nat.mul_le_mul hn hb
      omega
    · intro v' w' h2 h3 _ h5
      obtain ⟨a', c', rfl⟩ := ownsRow_shape h2
      exact h a' c' w' h2 h3 h5

theorem blacks_ms {k : Nat} (l : List Int) (x : Mk) (D : Nat → Bool) (hn : x.n = k) (h : ∀ i, i < k → x.m i = D i ∧ x.s i = D i) :
    ∀ i, i < k → (l.foldl Mk.black x).s i = (l.foldl Mk.black x).m i ∧ ((l.foldl Mk.black x).m i = true ↔ D i = true ∨ (i : Int) ∈ l) := by
  induction l generalizing x D with
  | nil =>
    intro i hi
    obtain ⟨h1, h2⟩ := h i hi
    exact ⟨by show x.s i = x.m i; rw [h1, h2], by show x.m i = true ↔ _; rw [h1]; simp⟩
  | cons b l ih =>
    intro i hi
    by_cases hb : 0 ≤ b ∧ b < k
    · obtain ⟨q, rfl⟩ : ∃ q : Nat, b = q := ⟨b.toNat, by omega⟩
      obtain ⟨g1, g2⟩ := ih (x.black (q : Int)) (setF D q true) ((black_same x _).trans hn) (black_in hn h q (by omega)) i hi
      refine ⟨g1, g2.trans ?_⟩
      rw [setF_at]
      by_cases e : i = q
      · subst e; simp
      · rw [if_neg (by omega)]
        have : ¬ (i : Int) = (q : Int) := by omega
        simp [this]
    · have hs := black_out hn b (by omega)
      have h2 : (b :: l).foldl Mk.black x = l.foldl Mk.black x := by rw [List.foldl_cons, hs]
      rw [h2]
      obtain ⟨g1, g2⟩ := ih x D hn h i hi
      refine ⟨g1, g2.trans ?_⟩
      have : ¬ (i : Int) = b := by omega
      simp [this]

def goneN (N : Nat) (u : Int → Bool) (m : Nat → Bool) (pg : Nat) : Nat → List Int
  | 3 => tk N u (bitI N m) (8 * pg)
  | 0 => tk N u (bitI N m) N
  | _ => []
def weakN (N : Nat) (ws : List Int) (m : Nat → Bool) : Nat → List Int
  | 3 => weakL ws (bitI N m)
  | 0 => weakL ws (bitI N m)
  | _ => []

/-- A collection under way, and what it has told. -/
structure Col (N P : Nat) (refs : Int → List Int) (fr : List Int) (D : Nat → Bool) (ws : List Int) (u : Int → Bool) (c : Cy) (gone weak : List Int) : Prop where
  run : CyRun P c
  n : c.N = N
  ok : Ok c.mr
  mn : c.mr.n = N
  cl : Closed c.mr D refs
  so : Sound c.mr D refs (fun b => b ∈ fr)
  root : ∀ i : Nat, (i : Int) ∈ fr → i < N → c.mr.m i = true
  done : c.ph ≠ 1 → c.mr.done = true
  gone : gone = goneN N u c.mr.m c.pg c.ph
  weak : weak = weakN N ws c.mr.m c.ph

theorem Col.start {N P : Nat} (refs : Int → List Int) (room ep : Int) (mk : Mk) (pg : Nat) (roots black : List Int) (D : Nat → Bool) (ws : List Int) (u : Int → Bool) (hP : (N + 7) / 8 = P) (hN : 1 ≤ N) (hpg : pg ≤ P) (hD : ∀ i, i < N → (D i = true ↔ (i : Int) ∈ black)) :
    Col N P refs roots D ws u (cBeg N room ep mk pg roots black) [] [] := by
  obtain ⟨h1, h2⟩ := begun_ok N room roots black
  have hr := cBeg_run (mk := mk) (room := room) (ep := ep) roots black hP hN hpg
  have hb := blacks_ms (k := N) black (mkNew N room) (fun _ => false) rfl (fun i hi => ⟨rfl, rfl⟩)
  have hbn := (blacks_same black (mkNew N room)).1
  have hbn : (black.foldl Mk.black (mkNew N room)).n = N := hbn
  unfold cBeg at hr ⊢
  generalize black.foldl Mk.black (mkNew N room) = x at *
  have hx : ∀ i, i < N → (x.m i = true ↔ D i = true) := fun i hi => ((hb i hi).2.trans (by simp)).trans (hD i hi).symm
  have c0 : Closed x D refs := fun i hi hs hd => by
    rw [hbn] at hi
    rw [(hb i hi).1] at hs
    have := (hx i hi).1 hs
    rw [hd] at this
    cases this
  have s0 : Sound x D refs (fun b => b ∈ roots) := ⟨fun i hi hm => Or.inl ((hx i (by omega)).1 hm), fun i hi hd => by
    have hm := (hx i (by omega)).2 hd
    exact ⟨by rw [(hb i (by omega)).1]; exact hm, hm⟩⟩
  have s1 := sound_shades roots x s0 (fun j hj hjn hd => Rch.root j hj hjn hd)
  exact ⟨hr, rfl, h1, h2, closed_shades roots x c0, s1, fun i hi hik => by
    have := shades_mark roots x (i : Int) hi (by omega) (by omega)
    simpa using this, fun h => absurd rfl h, rfl, rfl⟩

theorem Col.step {N P : Nat} {refs : Int → List Int} {fr : List Int} {D : Nat → Bool} {ws : List Int} {u : Int → Bool} {c : Cy} {gone weak : List Int} (hP : (N + 7) / 8 = P) (h : Col N P refs fr D ws u c gone weak) (hp0 : c.ph ≠ 0) : Col N P refs fr D ws u (c.step refs) (gone ++ c.blocks u) (weak ++ c.weaks ws) := by
  have hr := h.run.step refs
  have hn := (cy_step_N c refs).trans h.n
  obtain ⟨N', room, ph, ep, mr, pg⟩ := c
  obtain ⟨k1, k2, k3, k4, k5, k6, k7, k8, k9, k10⟩ := h
  simp only at k2 k3 k4 k5 k6 k7 k8 k9 k10 hp0
  have hle := k1.le
  simp only at hle
  subst k2
  have h5 : ph = 1 ∨ ph = 2 ∨ ph = 3 := by omega
  rcases h5 with rfl | rfl | rfl
  · have hb : (⟨N', room, 1, ep, mr, pg⟩ : Cy).blocks u = [] := rfl
    have hw : (⟨N', room, 1, ep, mr, pg⟩ : Cy).weaks ws = [] := rfl
    have k9 : gone = [] := k9
    have k10 : weak = [] := k10
    rw [hb, hw, k9, k10]
    rw [cy_step1 rfl] at hr ⊢
    simp only at hr ⊢
    cases hd : mr.done
    · rw [hd] at hr
      exact ⟨hr, rfl, step_ok k3 refs, (step_n k3 refs).trans k4, closed_step k3 k5, sound_step k3 k6, fun i hi hik => step_mono k3 refs i (k7 i hi hik), fun h => absurd rfl h, rfl, rfl⟩
    · rw [hd] at hr
      rw [step_done hd] at hr ⊢
      exact ⟨hr, rfl, k3, k4, k5, k6, k7, fun _ => hd, rfl, rfl⟩
  · have hb : (⟨N', room, 2, ep, mr, pg⟩ : Cy).blocks u = [] := rfl
    have hw : (⟨N', room, 2, ep, mr, pg⟩ : Cy).weaks ws = weakL ws (bitI mr.n mr.m) := rfl
    have k9 : gone = [] := k9
    have k10 : weak = [] := k10
    have k8 := k8 (by decide)
    rw [hb, hw, k9, k10, k4]
    rw [cy_step2 rfl] at hr ⊢
    exact ⟨hr, rfl, k3, k4, k5, k6, k7, fun _ => k8, rfl, rfl⟩
  · have hb : (⟨N', room, 3, ep, mr, pg⟩ : Cy).blocks u = pageL N' u (bitI mr.n mr.m) pg := rfl
    have hw : (⟨N', room, 3, ep, mr, pg⟩ : Cy).weaks ws = [] := rfl
    have k9 : gone = tk N' u (bitI N' mr.m) (8 * pg) := k9
    have k10 : weak = weakL ws (bitI N' mr.m) := k10
    have k8 := k8 (by decide)
    have h3 := k1.in3 rfl
    simp only at h3
    have hpp : (⟨N', room, 3, ep, mr, pg⟩ : Cy).pages = P := k1.pages
    have hnx : tk N' u (bitI N' mr.m) (8 * pg) ++ pageL N' u (bitI N' mr.m) pg = tk N' u (bitI N' mr.m) (8 * (pg + 1)) := by
      unfold pageL
      rw [if_neg (by omega), Int.toNat_natCast, show 8 * pg = pg * 8 from by omega, tk_page]
      congr 1
      omega
    rw [hb, hw, k9, k10, k4, hnx, List.append_nil]
    rw [cy_step3 rfl, hpp] at hr ⊢
    simp only at hr ⊢
    by_cases hx : P ≤ pg + 1
    · rw [if_pos hx] at hr ⊢
      refine ⟨hr, rfl, k3, k4, k5, k6, k7, fun _ => k8, ?_, rfl⟩
      show tk N' u (bitI N' mr.m) (8 * (pg + 1)) = tk N' u (bitI N' mr.m) N'
      rw [← tk_all N' u (bitI N' mr.m), hP, show pg + 1 = P from by omega]
    · rw [if_neg hx] at hr ⊢
      exact ⟨hr, rfl, k3, k4, k5, k6, k7, fun _ => k8, rfl, rfl⟩

theorem tk_congr {N : Nat} {u m m' : Int → Bool} (b : Nat) (h : ∀ i : Nat, i < N → m i = m' i) : tk N u m b = tk N u m' b := by
  induction b with
  | zero => rfl
  | succ b ih =>
    have : takeB N u m b = takeB N u m' b := by
      unfold takeB
      by_cases hb : b < N
      · rw [h b hb]
      · rw [decide_eq_false hb]
        rfl
    rw [tk_succ, tk_succ, ih, this]
/-- What two collections over the same tell is the same. -/
theorem Col.same {N P : Nat} {refs : Int → List Int} {fr : List Int} {D : Nat → Bool} {ws ws2 : List Int} {u : Int → Bool} {c c2 : Cy} {g w g2 w2 : List Int} (h : Col N P refs fr D ws u c g w) (h2 : Col N P refs fr D ws2 u c2 g2 w2) (e : c.ph = 0) (e2 : c2.ph = 0) : g = g2 := by
  have a := final_marks h.ok h.cl h.so (h.done (by omega)) (fun i hi hin => h.root i hi (by rw [← h.mn]; exact hin))
  have b := final_marks h2.ok h2.cl h2.so (h2.done (by omega)) (fun i hi hin => h2.root i hi (by rw [← h2.mn]; exact hin))
  have hg := h.gone
  have hg2 := h2.gone
  rw [e] at hg
  rw [e2] at hg2
  have hg : g = tk N u (bitI N c.mr.m) N := hg
  have hg2 : g2 = tk N u (bitI N c2.mr.m) N := hg2
  rw [hg, hg2]
  refine tk_congr N (fun i hi => ?_)
  have a := a i (by rw [h.mn]; exact hi)
  have b := b i (by rw [h2.mn]; exact hi)
  rw [h.mn] at a
  rw [h2.mn] at b
  have hm : c.mr.m i = c2.mr.m i := by
    cases h3 : c.mr.m i <;> cases h4 : c2.mr.m i
    · rfl
    · exact absurd (a.2 (b.1 h4)) (by rw [h3]; simp)
    · exact absurd (b.2 (a.1 h3)) (by rw [h4]; simp)
    · rfl
  unfold bitI
  rw [Int.toNat_natCast, hm]
end Go.Proofs.Ythaicpjgmplgcaa
