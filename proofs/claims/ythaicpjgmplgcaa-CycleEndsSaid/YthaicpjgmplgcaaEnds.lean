/- The law's own search and the collection: the states of the walk of CycleEnds. -/
import Derived.Test.YthaicpjgmplgcaaRunA
namespace Go.Proofs.Ythaicpjgmplgcaa
open Go.RowKit Go.ChangeShapes Go.WideShapes
set_option linter.unusedVariables false

/-! ### The search, plain. -/
structure B2 (k : Nat) (refs : Int → List Int) (fr : List Int) (D In : Nat → Bool) (row : List Int) (j : Nat) : Prop where
  bfs : Bfs k refs fr D In row
  root : ∀ p, p < j → ∀ q : Nat, fr.getD p 0 = q → q < k → In q = true
theorem B2.next {k : Nat} {refs : Int → List Int} {fr : List Int} {D In : Nat → Bool} {row : List Int} {j : Nat} {b : Int} (h : B2 k refs fr D In row j) (hj : j < fr.length) (hb : fr.getD j 0 = b) : B2 k refs fr D (putF k In b) (putL k In row b) (j + 1) := by
  have hmem : b ∈ fr := by rw [← hb]; simp [List.getD, hj]
  refine ⟨h.bfs.put b (fun q hq hqk hd => Rch.root q (by rw [← hq]; exact hmem) hqk hd), fun p hp' q hq hqk => ?_⟩
  by_cases hpj : p = j
  · subst hpj
    rw [hb] at hq
    subst hq
    have h2 := putF_has k In (q : Int) (by omega) (by omega)
    rw [Int.toNat_natCast] at h2
    exact h2
  · exact putF_mono k In b q (h.root p (by omega) q hq hqk)
structure B3 (k : Nat) (refs : Int → List Int) (fr : List Int) (D In : Nat → Bool) (row : List Int) (p : Nat) : Prop where
  bfs : Bfs k refs fr D In row
  seen : Seen k refs In row p
  root : ∀ i : Nat, (i : Int) ∈ fr → i < k → In i = true
  le : p ≤ row.length
theorem B2.b3 {k : Nat} {refs : Int → List Int} {fr : List Int} {D In : Nat → Bool} {row : List Int} (h : B2 k refs fr D In row fr.length) : B3 k refs fr D In row 0 :=
  ⟨h.bfs, fun j hj => absurd hj (Nat.not_lt_zero _), fun i hi hik => by
    obtain ⟨p, hp, hpe⟩ := List.mem_iff_getElem.1 hi
    exact h.root p hp i (by simp [List.getD, hp, hpe]) hik, Nat.zero_le _⟩
structure B4 (k : Nat) (refs : Int → List Int) (fr : List Int) (D In : Nat → Bool) (row : List Int) (p z : Nat) (r : Int) : Prop where
  bfs : Bfs k refs fr D In row
  seen : Seen k refs In row p
  root : ∀ i : Nat, (i : Int) ∈ fr → i < k → In i = true
  lt : p < row.length
  at_ : row.getD p 0 = r
  got : ∀ y, y < z → ∀ b, (refs r).getD y 0 = b → 0 ≤ b → b < k → In b.toNat = true
theorem B3.into {k : Nat} {refs : Int → List Int} {fr : List Int} {D In : Nat → Bool} {row : List Int} {p : Nat} {r : Int} (h : B3 k refs fr D In row p) (hp : p < row.length) (hr : row.getD p 0 = r) : B4 k refs fr D In row p 0 r :=
  ⟨h.bfs, h.seen, h.root, hp, hr, fun y hy => absurd hy (Nat.not_lt_zero _)⟩
theorem B4.next {k : Nat} {refs : Int → List Int} {fr : List Int} {D In : Nat → Bool} {row : List Int} {p z : Nat} {r b : Int} (h : B4 k refs fr D In row p z r) (hz : z < (refs r).length) (hb : (refs r).getD z 0 = b) : B4 k refs fr D (putF k In b) (putL k In row b) p (z + 1) r := by
  have hrm : b ∈ refs r := by rw [← hb]; simp [List.getD, hz]
  have hlen := putL_len k In row b
  refine ⟨h.bfs.put b (fun q hq hqk hd => ?_), h.seen.put (Nat.le_of_lt h.lt) b, fun i hi hik => putF_mono k In b i (h.root i hi hik), by have := h.lt; omega, (putL_getD k In row b p h.lt).trans h.at_, fun y hy c hc h0 h1 => ?_⟩
  · have hmem : r ∈ row := by rw [← h.at_]; simp [List.getD, h.lt]
    obtain ⟨q0, e0, g1, g2, g3⟩ := h.bfs.inb r hmem
    exact Rch.next q0 q g3 (by rw [← e0, ← hq]; exact hrm) hqk hd
  · by_cases hyz : y = z
    · subst hyz
      rw [hb] at hc
      subst hc
      exact putF_has k In b h0 h1
    · exact putF_mono k In b _ (h.got y (by omega) c hc h0 h1)
theorem B4.out {k : Nat} {refs : Int → List Int} {fr : List Int} {D In : Nat → Bool} {row : List Int} {p : Nat} {r : Int} (h : B4 k refs fr D In row p (refs r).length r) : B3 k refs fr D In row (p + 1) := by
  refine ⟨h.bfs, fun j hj c hc h0 h1 => ?_, h.root, h.lt⟩
  by_cases hjp : j = p
  · subst hjp
    rw [h.at_] at hc
    obtain ⟨y, hy, hye⟩ := List.mem_iff_getElem.1 hc
    exact h.got y hy c (by simp [List.getD, hy, hye]) h0 h1
  · exact h.seen j (by omega) c hc h0 h1
theorem bfs_few {k : Nat} {refs : Int → List Int} {fr : List Int} {D In : Nat → Bool} {row : List Int} (h : Bfs k refs fr D In row) : row.length ≤ k := by
  have h1 := h.cnt
  have h2 := countN_le (fun i => !D i) k
  omega

/-! ### The search, in the law's memory: w0 the world ahead of it, in's bools in block g, the row from block H on. -/
structure Qs (w0 : World) (g H k : Nat) (In : Nat → Bool) (row : List Int) (v : Value) (w : World) : Prop where
  up : Upd (fun j => w0.heap.size ≤ j) w0 w
  inB : BoolsAt g w g k k In
  rw_ : ∃ a c, v = .slice a row.length c ∧ w.ownsRow H 3 1 v row.length (ints row)
  d : w0.heap.size ≤ g ∧ g < H ∧ H ≤ w.heap.size
section
variable {w0 w w' w3 w4 : World} {g H k : Nat} {In : Nat → Bool} {row : List Int} {v : Value}
theorem Qs.still (h : Qs w0 g H k In row v w) (u : Upd (fun _ => False) w w') : Qs w0 g H k In row v w' := by
  obtain ⟨h1, h2, ⟨a, c, h3, h4⟩, h5, h6, h7⟩ := h
  exact ⟨h1.trans (u.mono (fun _ _ h => h.elim)), h2.upd u (fun x => x), ⟨a, c, h3, ownsRow_upd h4 u (fun _ _ x => x)⟩, h5, h6, Nat.le_trans h7 u.size⟩
theorem Qs.put (h : Qs w0 g H k In row v w) {q : Nat} (hq : q < k) (hIn : In q = false) {o : Obj} (h3 : w3 = (w.setCell ⟨g, q, none⟩ (.bool true)).alloc o) {g' c' : Nat}
    (ho : w4.ownsRow H 3 1 (.slice (some ⟨g', 0, none⟩) (row.length + 1) c') (row.length + 1) (ints row ++ [.int .i64 (q : Int)])) (hg : w3.grownBy w4 v.ownBlock) :
    Qs w0 g H k (putF k In q) (putL k In row q) (.slice (some ⟨g', 0, none⟩) (row.length + 1) c') w4 := by
  subst h3
  have hok : putOk k In (q : Int) = true := by unfold putOk; rw [decide_eq_true (by omega), Int.toNat_natCast, hIn]; rfl
  unfold putF putL
  rw [hok, if_pos rfl, if_pos rfl]
  obtain ⟨h1, h2, ⟨a, c, rfl, h4⟩, h5, h6, h7⟩ := h
  have u1 : Upd (fun j => j = g) w (w.setCell ⟨g, q, none⟩ (.bool true)) := (Upd.refl _ _).at _ _
  have u2 : Upd (fun _ => False) (w.setCell ⟨g, q, none⟩ (.bool true)) ((w.setCell ⟨g, q, none⟩ (.bool true)).alloc o) := (Upd.refl _ _).alloc _
  have u3 : Upd (fun j => H ≤ j) ((w.setCell ⟨g, q, none⟩ (.bool true)).alloc o) w4 := (Upd.refl _ _).grown hg (fun j e _ => (h4.lt j e).1)
  have hrow : ints (row ++ [(q : Int)]) = ints row ++ [.int .i64 (q : Int)] := by simp [ints]
  refine ⟨((h1.trans (u1.mono (fun i _ e => by show w0.heap.size ≤ i; rw [e]; exact h5))).trans (u2.mono (fun _ _ h => h.elim))).trans (u3.mono (fun i _ e => by have e : H ≤ i := e; show w0.heap.size ≤ i; omega)), ((h2.set q true).upd u2 (fun x => x)).upd u3 (by omega), ⟨some ⟨g', 0, none⟩, c', by simp, ?_⟩, h5, h6, ?_⟩
  · rw [hrow, List.length_append]
    exact ho
  · exact Nat.le_trans h7 (Nat.le_trans u1.size (Nat.le_trans u2.size u3.size))
theorem Qs.skip (h : Qs w0 g H k In row v w) {b : Int} (hb : putOk k In b = false) : putF k In b = In ∧ putL k In row b = row := by
  unfold putF putL
  rw [hb]
  exact ⟨rfl, rfl⟩
theorem putL_new {k : Nat} {In : Nat → Bool} {row : List Int} {q : Nat} (hq : q < k) (hin : In q = false) : putL k In row q = row ++ [(q : Int)] := by
  unfold putL putOk
  rw [Int.toNat_natCast, hin, decide_eq_true (by omega)]
  rfl
theorem Qs.inW {W : World} (h : Qs w0 g H k In row v w) (u : Upd (fun _ => False) W w0) : Upd (fun _ => False) W w := u.own h.up (fun i e => Nat.le_trans u.size e)
theorem Qs.cell (h : Qs w0 g H k In row v w) {q : Nat} (hq : q < k) : w.cell? ⟨g, q, none⟩ = some (.bool (In q)) ∧ w.frozen? ⟨g, q, none⟩ = false := ⟨h.inB.cell q hq, World.ownsRow.frozenAt h.inB q⟩
end
/-- Among what one of the row refers to: where these lie. -/
structure Rs (g : Nat) (v : Value) (base : Nat) (v2 : Value) (rs : List Int) (w : World) : Prop where
  rs : w.ownsRow base 3 1 v2 rs.length (ints rs)
  new : ∀ j, v2.ownBlock = some j → j < w.heap.size ∧ v.ownBlock ≠ some j ∧ j ≠ g
theorem Rs.of {w0 w2 w3 : World} {g H k : Nat} {In : Nat → Bool} {row : List Int} {v v2 : Value} {rs : List Int} (h : Qs w0 g H k In row v w2) (u : Upd (fun _ => False) w2 w3) (ho : w3.ownsRow w2.heap.size 3 1 v2 rs.length (ints rs)) : Rs g v w2.heap.size v2 rs w3 :=
  ⟨ho, fun j hj => by
    have h1 := ho.lt j hj
    obtain ⟨a, c, -, h2⟩ := h.rw_
    have h3 := h.d
    refine ⟨h1.2, fun e => ?_, by omega⟩
    have := (h2.lt j e).2
    omega⟩
theorem Rs.put {w w3 w4 : World} {g base : Nat} {v v2 : Value} {rs : List Int} (h : Rs g v base v2 rs w) {q : Nat} {o : Obj} (h3 : w3 = (w.setCell ⟨g, q, none⟩ (.bool true)).alloc o) {g' n' c' : Nat} (hg : w3.grownBy w4 v.ownBlock) (hl : v.ownBlock = some g' ∨ g' = w3.heap.size) :
    Rs g (.slice (some ⟨g', 0, none⟩) n' c') base v2 rs w4 := by
  subst h3
  have u1 : Upd (fun j => j = g) w (w.setCell ⟨g, q, none⟩ (.bool true)) := (Upd.refl _ _).at _ _
  have u2 : Upd (fun _ => False) (w.setCell ⟨g, q, none⟩ (.bool true)) ((w.setCell ⟨g, q, none⟩ (.bool true)).alloc o) := (Upd.refl _ _).alloc _
  have u3 : Upd (fun j => v.ownBlock = some j) ((w.setCell ⟨g, q, none⟩ (.bool true)).alloc o) w4 := (Upd.refl _ _).grown hg (fun j e _ => e)
  have hz := Nat.le_trans u1.size u2.size
  refine ⟨ownsRow_own (ownsRow_own (ownsRow_own h.rs u1 (fun j hj e => (h.new j hj).2.2 e)) u2 (fun _ _ x => x)) u3 (fun j hj e => (h.new j hj).2.1 e), fun j hj => ?_⟩
  obtain ⟨n1, n2, n3⟩ := h.new j hj
  refine ⟨Nat.lt_of_lt_of_le n1 (Nat.le_trans hz u3.size), fun e => ?_, n3⟩
  have e : g' = j := by simpa [Value.ownBlock] using e
  rcases hl with hl | hl
  · exact n2 (by rw [hl, e])
  · omega

/-! ### The collection under way, and what it has told. -/
structure R5 (W : World) (C L N B b gg : Nat) (f : Nat → Bool) (g k : Nat) (In : Nat → Bool) (H : Nat) (c : Cy) (gone weak : List Int) (v1 v2 : Value) (w : World) : Prop where
  cy : CyAt W C L N 0 0 0 B b gg f c w
  inB : BoolsAt g w g k k In
  gn : ∃ a cc, v1 = .slice a gone.length cc ∧ w.ownsRow H 3 1 v1 gone.length (ints gone)
  wk : ∃ a cc, v2 = .slice a weak.length cc ∧ w.ownsRow H 3 1 v2 weak.length (ints weak)
  ne : ∀ j, v1.ownBlock = some j → v2.ownBlock ≠ some j
  all : ∀ j, InAll C L B b gg j → j < H
  g : g < H ∧ ¬ InAll C L B b gg g
  size : H ≤ w.heap.size
section
variable {W w w' : World} {C L N B b gg : Nat} {f : Nat → Bool} {g k : Nat} {In : Nat → Bool} {H : Nat} {c d : Cy} {gone weak : List Int} {v1 v2 : Value}
theorem R5.still (h : R5 W C L N B b gg f g k In H c gone weak v1 v2 w) (u : Upd (fun _ => False) w w') : R5 W C L N B b gg f g k In H c gone weak v1 v2 w' := by
  obtain ⟨h1, h2, ⟨a, cc, h3, h4⟩, ⟨a2, cc2, h5, h6⟩, h7, h8, h9, h10⟩ := h
  exact ⟨h1.still u, h2.upd u (fun x => x), ⟨a, cc, h3, ownsRow_upd h4 u (fun _ _ x => x)⟩, ⟨a2, cc2, h5, ownsRow_upd h6 u (fun _ _ x => x)⟩, h7, h8, h9, Nat.le_trans h10 u.size⟩
theorem R5.step (h : R5 W C L N B b gg f g k In H c gone weak v1 v2 w) (hd : CyAt W C L N 0 0 0 B b gg f d w') (u : Upd (InCy C B) w w') : R5 W C L N B b gg f g k In H d gone weak v1 v2 w' := by
  obtain ⟨h1, h2, ⟨a, cc, h3, h4⟩, ⟨a2, cc2, h5, h6⟩, h7, h8, h9, h10⟩ := h
  have hs : ∀ j, H ≤ j → ¬ InCy C B j := fun j hj e => by have := h8 j (Or.inl e); omega
  exact ⟨hd, h2.upd u (fun e => h9.2 (Or.inl e)), ⟨a, cc, h3, ownsRow_upd h4 u hs⟩, ⟨a2, cc2, h5, ownsRow_upd h6 u hs⟩, h7, h8, h9, Nat.le_trans h10 u.size⟩
theorem R5.appW (h : R5 W C L N B b gg f g k In H c gone weak v1 v2 w) {xs : List Int} {a' : Option Addr} {c' : Nat} (ho : w'.ownsRow H 3 1 (.slice a' (weak.length + xs.length) c') (weak.length + xs.length) (ints weak ++ xs.map (Value.int .i64))) (hg : w.grownBy w' v2.ownBlock)
    (hl : (Value.slice a' (weak.length + xs.length) c').ownBlock = v2.ownBlock ∨ (Value.slice a' (weak.length + xs.length) c').ownBlock = some w.heap.size) : R5 W C L N B b gg f g k In H c gone (weak ++ xs) v1 (.slice a' (weak.length + xs.length) c') w' := by
  obtain ⟨h1, h2, ⟨a, cc, h3, h4⟩, ⟨a2, cc2, h5, h6⟩, h7, h8, h9, h10⟩ := h
  have u : Upd (fun j => v2.ownBlock = some j) w w' := (Upd.refl _ _).grown hg (fun j e _ => e)
  have hH : ∀ j, v2.ownBlock = some j → H ≤ j := fun j e => (h6.lt j e).1
  have hi : ints (weak ++ xs) = ints weak ++ xs.map (Value.int .i64) := by simp [ints]
  have hWH : W.heap.size ≤ H := by have := h1.ge.1; have := h8 C (Or.inl (Or.inl rfl)); omega
  refine ⟨h1.aside u (fun j hj e => by have := h8 j hj; have := hH j e; omega) (fun j e => by have := hH j e; omega), h2.upd u (fun e => by have := hH g e; omega), ⟨a, cc, h3, ownsRow_own h4 u (fun j hj e => h7 j hj e)⟩, ⟨a', c', by rw [List.length_append], ?_⟩, fun j hj e => ?_, h8, h9, Nat.le_trans h10 u.size⟩
  · rw [hi, List.length_append]
    exact ho
  · rcases hl with hl | hl
    · exact h7 j hj (by rw [← hl, e])
    · rw [hl] at e
      have e : w.heap.size = j := by simpa using e
      have := (h4.lt j hj).2
      omega
theorem R5.appG (h : R5 W C L N B b gg f g k In H c gone weak v1 v2 w) {xs : List Int} {a' : Option Addr} {c' : Nat} (ho : w'.ownsRow H 3 1 (.slice a' (gone.length + xs.length) c') (gone.length + xs.length) (ints gone ++ xs.map (Value.int .i64))) (hg : w.grownBy w' v1.ownBlock)
    (hl : (Value.slice a' (gone.length + xs.length) c').ownBlock = v1.ownBlock ∨ (Value.slice a' (gone.length + xs.length) c').ownBlock = some w.heap.size) : R5 W C L N B b gg f g k In H c (gone ++ xs) weak (.slice a' (gone.length + xs.length) c') v2 w' := by
  obtain ⟨h1, h2, ⟨a, cc, h3, h4⟩, ⟨a2, cc2, h5, h6⟩, h7, h8, h9, h10⟩ := h
  have u : Upd (fun j => v1.ownBlock = some j) w w' := (Upd.refl _ _).grown hg (fun j e _ => e)
  have hH : ∀ j, v1.ownBlock = some j → H ≤ j := fun j e => (h4.lt j e).1
  have hi : ints (gone ++ xs) = ints gone ++ xs.map (Value.int .i64) := by simp [ints]
  have hWH : W.heap.size ≤ H := by have := h1.ge.1; have := h8 C (Or.inl (Or.inl rfl)); omega
  refine ⟨h1.aside u (fun j hj e => by have := h8 j hj; have := hH j e; omega) (fun j e => by have := hH j e; omega), h2.upd u (fun e => by have := hH g e; omega), ⟨a', c', by rw [List.length_append], ?_⟩, ⟨a2, cc2, h5, ownsRow_own h6 u (fun j hj e => h7 j e hj)⟩, fun j hj e => ?_, h8, h9, Nat.le_trans h10 u.size⟩
  · rw [hi, List.length_append]
    exact ho
  · rcases hl with hl | hl
    · exact h7 j (by rw [← hl, hj]) e
    · rw [hl] at hj
      have hj : w.heap.size = j := by simpa using hj
      have := (h6.lt j e).2
      omega
end

/-- What the collection tells in the end is what the search has not found. -/
theorem Col.ends {N P : Nat} {refs : Int → List Int} {fr : List Int} {D In : Nat → Bool} {ws : List Int} {u : Int → Bool} {c : Cy} {gone weak : List Int} (h : Col N P refs fr D ws u c gone weak) (e : c.ph = 0) (hall : ∀ i, i < N → (In i = true ↔ D i = true ∨ Rch N refs D (fun b => b ∈ fr) i)) :
    gone = tk N u (bitI N In) N ∧ weak = weakL ws (bitI N In) := by
  have h1 := (end_marks h.ok h.mn h.cl h.so (h.done (by omega)) h.root hall).1
  have hb : bitI N c.mr.m = bitI N In := by
    funext i
    unfold bitI
    by_cases hi : 0 ≤ i ∧ i < N
    · rw [h1 i.toNat (by omega)]
    · rw [decide_eq_false hi]
      rfl
  have h2 := h.gone
  have h3 := h.weak
  rw [e] at h2 h3
  have h2 : gone = tk N u (bitI N c.mr.m) N := h2
  have h3 : weak = weakL ws (bitI N c.mr.m) := h3
  rw [hb] at h2 h3
  exact ⟨h2, h3⟩

theorem Qs.set {w0 w : World} {g H k : Nat} {In : Nat → Bool} {row : List Int} {v : Value} (h : Qs w0 g H k In row v w) (q : Nat) : Qs w0 g H k (setF In q true) row v (w.setCell ⟨g, q, none⟩ (.bool true)) := by
  obtain ⟨h1, h2, ⟨a, c, h3, h4⟩, h5, h6, h7⟩ := h
  have u1 : Upd (fun j => j = g) w (w.setCell ⟨g, q, none⟩ (.bool true)) := (Upd.refl _ _).at _ _
  exact ⟨h1.trans (u1.mono (fun i _ e => by show w0.heap.size ≤ i; rw [e]; exact h5)), h2.set q true, ⟨a, c, h3, ownsRow_upd h4 u1 (fun j hj e => by omega)⟩, h5, h6, Nat.le_trans h7 u1.size⟩
theorem Qs.facts {w0 w : World} {g H k : Nat} {In : Nat → Bool} {row : List Int} {v : Value} (h : Qs w0 g H k In row v w) (q : Nat) :
    (w.setCell ⟨g, q, none⟩ (.bool true)).ownsRow H 3 1 v row.length (ints row) ∧ (∀ o : Obj, H ≤ ((w.setCell ⟨g, q, none⟩ (.bool true)).alloc o).heap.size) ∧
      ((w.setCell ⟨g, q, none⟩ (.bool true)).alloc (.cells #[.int .i64 (q : Int)] 3)).cell? ⟨w.heap.size, 0, none⟩ = some (.int .i64 (q : Int)) := by
  obtain ⟨h1, h2, ⟨a, c, h3, h4⟩, h5, h6, h7⟩ := h
  have hsz : (w.setCell ⟨g, q, none⟩ (.bool true)).heap.size = w.heap.size := by simp [World.setCell]
  refine ⟨ownsRow_upd h4 ((Upd.refl (fun j => j = g) w).at q (.bool true)) (fun j hj e => by omega), fun o => by simp [World.setCell]; omega, ?_⟩
  have h1z := World.cell?_alloc_new (w.setCell ⟨g, q, none⟩ (.bool true)) #[.int .i64 (q : Int)] 3 0
  rw [hsz] at h1z
  exact h1z
theorem Qs.start {w0 : World} {k : Nat} (hk : k ≤ 1048576) : Qs w0 w0.heap.size (w0.heap.size + 1) k (fun _ => false) [] (.slice none 0 0) (w0.alloc (.cells (madeCells #[.bool false] k) 4)) :=
  ⟨(Upd.refl _ _).alloc _, (made_bools w0 k hk), ⟨none, 0, rfl, World.ownsRow_nil _ _ _ _⟩, Nat.le_refl _, Nat.lt_succ_self _, by simp⟩
theorem Qs.own {w0 w : World} {g H k : Nat} {In : Nat → Bool} {row : List Int} {v : Value} (h : Qs w0 g H k In row v w) : w.ownsRow H 3 1 v row.length (ints row) := by
  obtain ⟨a, c, -, h4⟩ := h.rw_
  exact h4
theorem R5.own {W w : World} {C L N B b gg : Nat} {f : Nat → Bool} {g k : Nat} {In : Nat → Bool} {H : Nat} {c : Cy} {gone weak : List Int} {v1 v2 : Value} (h : R5 W C L N B b gg f g k In H c gone weak v1 v2 w) : w.ownsRow H 3 1 v1 gone.length (ints gone) ∧ w.ownsRow H 3 1 v2 weak.length (ints weak) := by
  obtain ⟨a, c, -, h4⟩ := h.gn
  obtain ⟨a2, c2, -, h5⟩ := h.wk
  exact ⟨h4, h5⟩
theorem R5.start {W w0 w : World} {C L N B b gg : Nat} {f : Nat → Bool} {g H k : Nat} {In : Nat → Bool} {c : Cy} {row : List Int} {v : Value} (hc : CyAt W C L N 0 0 0 B b gg f c w0) (h : Qs w0 g H k In row v w) : R5 W C L N B b gg f g k In w.heap.size c [] [] (.slice none 0 0) (.slice none 0 0) w := by
  obtain ⟨h1, h2, -, h5, h6, h7⟩ := h
  have hl := hc.lts
  have hW := hc.up.size
  exact ⟨hc.aside h1 (fun j hj e => by have := hl j hj; have e : w0.heap.size ≤ j := e; omega) (fun j e => Nat.le_trans hW e), h2, ⟨none, 0, rfl, World.ownsRow_nil _ _ _ _⟩, ⟨none, 0, rfl, World.ownsRow_nil _ _ _ _⟩, fun j e => (by cases e), fun j hj => by have := hl j hj; omega, ⟨by omega, fun e => by have := hl g e; omega⟩, Nat.le_refl _⟩

def CB2 (g p : Nat) (r : Int) (w : World) : Prop := w.cell? ⟨g, p, none⟩ = some (.int .i64 r)
theorem CB2.still {g p : Nat} {r : Int} {w w' : World} (h : CB2 g p r w) (u : Upd (fun _ => False) w w') : CB2 g p r w' := (u.none.cell (World.block_lt_of_cell? w _ h)).trans h
theorem refs_held2 {wr : World} {g p : Nat} {r : Int} (ta : Option Addr) (n tc : Nat) (w' : World) (u : Upd (fun _ => False) wr w') (cb : w'.cell? ⟨g, p, none⟩ = some (.int .i64 r)) :
    Calls Try.prog 34 #[.slice ta n tc] w' (fun e w2 => ∃ bx, e = .returned (.func (.func 61) #[] #[.pointer (some ⟨bx, 0, none⟩)]) ∧ w2.cell? ⟨bx, 0, none⟩ = some (.slice ta n tc) ∧ Upd (fun _ => False) wr w2 ∧ w2.cell? ⟨g, p, none⟩ = some (.int .i64 r)) := by
  have h := law_refs ta n tc w'
  unfold RefsPost refsFn at h
  refine h.mono ?_
  rintro e w2 ⟨bx, rfl, h1, h2, h3, h4⟩
  exact ⟨bx, rfl, h1, u.trans h4, (show CB2 g p r w' from cb).still h4⟩
theorem refs1_held2 {wr : World} {g p : Nat} {r : Int} {v : Value} {tt : List (List Int)} (hM : ∀ w', Upd (fun _ => False) wr w' → MatIn w' v tt) (hl : tt.length ≤ 1000 ∧ ∀ l ∈ tt, l.length ≤ 1000) (bx : Nat) (w' : World) (hc : w'.cell? ⟨bx, 0, none⟩ = some v) (u : Upd (fun _ => False) wr w')
    (cb : w'.cell? ⟨g, p, none⟩ = some (.int .i64 r)) :
    Calls Try.prog 61 #[.int .i64 r, .pointer (some ⟨bx, 0, none⟩)] w' (fun e w3 => ∃ va vc, e = .returned (.slice va (refsOf tt r).length vc) ∧ w3.ownsRow w'.heap.size 3 1 (.slice va (refsOf tt r).length vc) (refsOf tt r).length (ints (refsOf tt r)) ∧ Upd (fun _ => False) w' w3 ∧ Upd (fun _ => False) wr w3 ∧ w3.cell? ⟨g, p, none⟩ = some (.int .i64 r)) := by
  have h := law_refs1 r ⟨bx, 0, none⟩ v tt w' hc (hM w' u) hl.1 hl.2
  refine h.mono ?_
  rintro e w3 ⟨x, rfl, h1, h2⟩
  obtain ⟨va, vc, rfl⟩ := ownsRow_shape h1
  exact ⟨va, vc, rfl, h1, h2, u.trans h2, (show CB2 g p r w' from cb).still h2⟩

/-- What one step makes. -/
def EnStep (W : World) (C L N B b gg : Nat) (f : Nat → Bool) (d : Cy) (xs ys : List Int) (w2 : World) (e : Ending) (w' : World) : Prop :=
  ∃ a1 c1 a2 c2, e = .returned (.agg #[.slice a1 xs.length c1, .slice a2 ys.length c2]) ∧ w'.ownsRow w2.heap.size 3 1 (.slice a1 xs.length c1) xs.length (ints xs) ∧ w'.ownsRow w2.heap.size 3 1 (.slice a2 ys.length c2) ys.length (ints ys) ∧ CyAt W C L N 0 0 0 B b gg f d w' ∧ Upd (InCy C B) w2 w'
theorem en_Step {W w w2 : World} {C L N B b gg : Nat} {f : Nat → Bool} {c : Cy} (h : CyAt W C L N 0 0 0 B b gg f c w) (hn : c.N = N) (hpg : c.pg ≤ 50) {bx : Nat} {v : Value} {tt : List (List Int)} (hM : MatIn W v tt)
    (hl : tt.length ≤ 1000 ∧ ∀ l ∈ tt, l.length ≤ 1000) (hc : w2.cell? ⟨bx, 0, none⟩ = some v) (hb : w.heap.size ≤ bx) (u2 : Upd (fun _ => False) w w2) {wv : Value} {ws : List Int} (hws : IntsIn W wv .i64 ws) (hwl : ws.length ≤ 1000) :
    Calls Try.prog 36 #[.pointer (some ⟨C, 0, none⟩), refsFn bx, wv, .pointer (some ⟨b, 0, none⟩)] w2 (EnStep W C L N B b gg f (c.step (refsOf tt)) (c.weaks ws) (c.blocks (bitI N f)) w2) := by
  refine (cyat_Step h hpg hM hl hc hb u2 (fun w' k => (hws.upd ((h.up.trans u2).own k (fun i e => by
    rcases e with rfl | e
    · exact h.ge.1
    · have := e.1
      have := h.ge.2
      omega)).none).1) hwl).mono ?_
  rintro e w3 ⟨a1, c1, a2, c2, rfl, ho1, ho2, h3, u3⟩
  rw [hn] at ho2 ⊢
  exact ⟨a1, c1, a2, c2, rfl, ho1, ho2, (h.still u2).next h3 (cy_step_N _ _) u3, u3⟩
theorem Cy.weaks_len (c : Cy) (ws : List Int) : (c.weaks ws).length ≤ ws.length := by
  unfold Cy.weaks
  split
  · exact weakTo_len ws _ _
  · exact Nat.zero_le _
theorem Cy.blocks_len (c : Cy) (u : Int → Bool) : (c.blocks u).length ≤ 8 := by
  unfold Cy.blocks
  split
  · exact pageL_len _ _ _ _
  · exact Nat.zero_le _
end Go.Proofs.Ythaicpjgmplgcaa
