/- The law's own search: the states of its walk. -/
import Derived.Test.YthaicpjgmplgcaaMarkAllP
namespace Go.Proofs.Ythaicpjgmplgcaa
open Go.RowKit
set_option linter.unusedVariables false

theorem ownsRow_own {w w' : World} {base : Nat} {e : TypeId} {size : Nat} {v : Value} {n : Nat} {xs : List Value} (h : w.ownsRow base e size v n xs) {S : Nat → Prop} (u : Upd S w w') (hs : ∀ j, v.ownBlock = some j → ¬ S j) : w'.ownsRow base e size v n xs := by
  refine ⟨h.1, ?_⟩
  rcases h.2 with ⟨h0, h1⟩ | ⟨g, cap, cur, hv, hg, hh, r⟩
  · exact Or.inl ⟨h0, h1⟩
  · refine Or.inr ⟨g, cap, cur, hv, hg, ?_, r⟩
    have hlt : g < w.heap.size := (Array.getElem?_eq_some_iff.1 hh).1
    rw [u.block g hlt (hs g (by rw [hv]; rfl))]
    exact hh

/-- Ahead of the row: the marker, n, in and dark, both of them D. -/
structure S1 (W : World) (bn k : Nat) (x : Mk) (D : Nat → Bool) (w : World) : Prop where
  im : IsMk w (bn + 1) x
  ok : Ok x
  n : x.n = k
  cn : Blk w bn [.int .i64 k] 3
  cin : Blk w (bn + 8) [.slice (some ⟨bn + 7, 0, none⟩) k k] 34
  inB : BoolsAt (bn + 7) w (bn + 7) k k D
  dk : BoolsAt (bn + 9) w (bn + 9) k k D
  up : Upd (fun _ => False) W w
  size : w.heap.size = bn + 10
  ms : ∀ i, i < k → x.m i = D i ∧ x.s i = D i

theorem black_in {x : Mk} {k : Nat} {D : Nat → Bool} (hn : x.n = k) (h : ∀ i, i < k → x.m i = D i ∧ x.s i = D i) (q : Nat) (hq : q < k) : ∀ i, i < k → (x.black (q : Int)).m i = setF D q true i ∧ (x.black (q : Int)).s i = setF D q true i := fun i hi => by
  obtain ⟨h1, h2⟩ := h i hi
  unfold Mk.black
  cases ho : offB x.n x.m (q : Int)
  · have h3 := offB_false _ _ _ ho (by omega) (by omega)
    rw [Int.toNat_natCast] at h3
    show x.m i = _ ∧ x.s i = _
    rw [setF_at]
    split
    · rename_i e
      have : i = q := by omega
      subst this
      exact ⟨h3, by rw [h2, ← h1, h3]⟩
    · exact ⟨h1, h2⟩
  · show setF x.m q true i = _ ∧ setF x.s q true i = _
    rw [setF_at, setF_at, setF_at]
    split
    · exact ⟨rfl, rfl⟩
    · exact ⟨h1, h2⟩
theorem black_out {x : Mk} {k : Nat} (hn : x.n = k) (b : Int) (h : b < 0 ∨ (k : Int) ≤ b) : x.black b = x := by
  unfold Mk.black offB
  rw [decide_eq_false (by omega)]
  rfl

theorem S1.black {W w w2 : World} {bn k : Nat} {x y : Mk} {D : Nat → Bool} (hW : W.heap.size ≤ bn) (h : S1 W bn k x D w) (hI : IsMk w2 (bn + 1) y) (hO : Ok y) (hn : y.n = k) (u : Upd (InMk (bn + 1)) w w2) (hz : w2.heap.size = w.heap.size) {q : Nat} (hm : ∀ i, i < k → y.m i = setF D q true i ∧ y.s i = setF D q true i) :
    S1 W bn k y (setF D q true) ((w2.setCell ⟨bn + 7, q, none⟩ (.bool true)).setCell ⟨bn + 9, q, none⟩ (.bool true)) := by
  have u1 : Upd (fun i => i = bn + 7) w2 (w2.setCell ⟨bn + 7, q, none⟩ (.bool true)) := (Upd.refl _ _).at _ _
  have u2 : Upd (fun i => i = bn + 9) (w2.setCell ⟨bn + 7, q, none⟩ (.bool true)) ((w2.setCell ⟨bn + 7, q, none⟩ (.bool true)).setCell ⟨bn + 9, q, none⟩ (.bool true)) := (Upd.refl _ _).at _ _
  have n1 : ∀ j, j = bn ∨ j = bn + 7 ∨ j = bn + 8 ∨ j = bn + 9 → ¬ InMk (bn + 1) j := fun j hj e => by have := e.1; have := e.2; omega
  have hz1 : (w2.setCell ⟨bn + 7, q, none⟩ (.bool true)).heap.size = w2.heap.size := by simp [World.setCell]
  have hz2 : ((w2.setCell ⟨bn + 7, q, none⟩ (.bool true)).setCell ⟨bn + 9, q, none⟩ (.bool true)).heap.size = w2.heap.size := by simp [World.setCell]
  refine ⟨(hI.upd u1 (fun i hi e => by have := hi.2; omega)).upd u2 (fun i hi e => by have := hi.2; omega), hO, hn, ?_, ?_, ?_, ?_, ?_, by rw [hz2, hz, h.size], hm⟩
  · exact ((h.cn.upd u (n1 _ (Or.inl rfl))).upd u1 (by omega)).upd u2 (by omega)
  · exact ((h.cin.upd u (n1 _ (by omega))).upd u1 (by omega)).upd u2 (by omega)
  · exact ((h.inB.upd u (n1 _ (by omega))).set q true).upd u2 (by omega)
  · exact ((h.dk.upd u (n1 _ (by omega))).upd u1 (by omega)).set q true
  · exact ((h.up.own u (fun i e => by have := e.1; omega)).own u1 (fun i e => by omega)).own u2 (fun i e => by omega)
theorem S1.same {W w w2 : World} {bn k : Nat} {x : Mk} {D : Nat → Bool} (hW : W.heap.size ≤ bn) (h : S1 W bn k x D w) (hI : IsMk w2 (bn + 1) x) (u : Upd (InMk (bn + 1)) w w2) (hz : w2.heap.size = w.heap.size) : S1 W bn k x D w2 := by
  have n1 : ∀ j, j = bn ∨ j = bn + 7 ∨ j = bn + 8 ∨ j = bn + 9 → ¬ InMk (bn + 1) j := fun j hj e => by have := e.1; have := e.2; omega
  exact ⟨hI, h.ok, h.n, h.cn.upd u (n1 _ (Or.inl rfl)), h.cin.upd u (n1 _ (by omega)), h.inB.upd u (n1 _ (by omega)), h.dk.upd u (n1 _ (by omega)), h.up.own u (fun i e => by have := e.1; omega), by rw [hz, h.size], h.ms⟩

/-- With the row. -/
structure S2 (W : World) (bn k : Nat) (x : Mk) (D In : Nat → Bool) (row : List Int) (w : World) : Prop where
  im : IsMk w (bn + 1) x
  ok : Ok x
  n : x.n = k
  put : PutSt k bn (bn + 8) (bn + 10) (bn + 7) k In row w
  up : Upd (fun _ => False) W w
  size : bn + 11 ≤ w.heap.size

theorem PutSt.rowB {k bn bi br gi ci : Nat} {In : Nat → Bool} {row : List Int} {w : World} (h : PutSt k bn bi br gi ci In row w) (j : Nat) (hj : RowB w br j) : br + 1 ≤ j ∧ j < w.heap.size := by
  obtain ⟨a, c, hr, ho⟩ := h.rw_
  obtain ⟨s, hs, he⟩ := hj
  have hs2 : s = .slice a row.length c := by
    have := hr.cell 0 rfl
    rw [hs] at this
    exact Option.some.inj this
  subst hs2
  exact ho.lt j he

theorem S2.of {W w : World} {bn k : Nat} {x : Mk} {D : Nat → Bool} (h : S1 W bn k x D w) : S2 W bn k x D D [] (w.alloc (.cells #[.slice none 0 0] 37)) := by
  have u : Upd (fun _ => False) w (w.alloc (.cells #[.slice none 0 0] 37)) := (Upd.refl _ _).alloc _
  have hz := h.size
  refine ⟨h.im.still u, h.ok, h.n, ⟨h.cn.upd u (fun x => x), h.cin.upd u (fun x => x), h.inB.upd u (fun x => x), ⟨none, 0, ?_, World.ownsRow_nil _ _ _ _⟩, by omega, by omega⟩, h.up.trans u, by simp; omega⟩
  have := heap_alloc_new w (.cells #[.slice none 0 0] 37)
  rw [hz] at this
  exact this

theorem S2.mark {W w w2 : World} {bn k : Nat} {x y : Mk} {D In : Nat → Bool} {row : List Int} (hW : W.heap.size ≤ bn) (h : S2 W bn k x D In row w) (hI : IsMk w2 (bn + 1) y) (hO : Ok y) (hn : y.n = x.n) (u : Upd (InMk (bn + 1)) w w2) : S2 W bn k y D In row w2 :=
  ⟨hI, hO, hn.trans h.n, h.put.upd u (fun e => by have := e.1; omega) (fun e => by have := e.2; omega) (fun e => by have := e.2; omega) (fun j hj e => by have := e.2; omega), h.up.own u (fun i e => by have := e.1; omega), Nat.le_trans h.size u.size⟩
theorem S2.still {W w w2 : World} {bn k : Nat} {x : Mk} {D In : Nat → Bool} {row : List Int} (h : S2 W bn k x D In row w) (u : Upd (fun _ => False) w w2) : S2 W bn k x D In row w2 :=
  ⟨h.im.still u, h.ok, h.n, h.put.upd u (fun x => x) (fun x => x) (fun x => x) (fun _ _ x => x), h.up.trans u, Nat.le_trans h.size u.size⟩
theorem S2.add {W w w2 : World} {bn k : Nat} {x : Mk} {D In : Nat → Bool} {row : List Int} {b : Int} {e : Ending} (hW : W.heap.size ≤ bn) (h : S2 W bn k x D In row w) (hp : PutPost k bn (bn + 8) (bn + 10) (bn + 7) k In row w b e w2) : S2 W bn k x D (putF k In b) (putL k In row b) w2 := by
  obtain ⟨-, h1, h2, -⟩ := hp
  refine ⟨h.im.upd h2 (fun i hi e => ?_), h.ok, h.n, h1, h.up.own h2 (fun i e => ?_), Nat.le_trans h.size h2.size⟩
  · have := hi.2
    rcases e with e | e | e
    · omega
    · omega
    · have := h.put.rowB i e
      omega
  · rcases e with e | e | e
    · omega
    · omega
    · have := h.put.rowB i e
      omega
end Go.Proofs.Ythaicpjgmplgcaa
