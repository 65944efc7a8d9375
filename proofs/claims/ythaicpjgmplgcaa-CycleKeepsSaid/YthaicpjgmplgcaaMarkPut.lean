/- The law's own search: put. -/
import Derived.Test.YthaicpjgmplgcaaMarkCom
import Derived.Test.YthaicpjgmplgcaaPushL
namespace Go.Proofs.Ythaicpjgmplgcaa
open Go.RowKit
set_option linter.unusedVariables false

/-- What the law's search holds: n, in and row lie in cells of their own. -/
structure PutSt (k bn bi br gi ci : Nat) (In : Nat → Bool) (row : List Int) (w : World) : Prop where
  cn : Blk w bn [.int .i64 k] 3
  cin : Blk w bi [.slice (some ⟨gi, 0, none⟩) k ci] 34
  inB : BoolsAt gi w gi ci k In
  rw_ : ∃ a c, Blk w br [.slice a row.length c] 37 ∧ w.ownsRow (br + 1) 3 1 (.slice a row.length c) row.length (ints row)
  d1 : bn < br ∧ bi < br ∧ gi < br
  d2 : bn ≠ gi ∧ bi ≠ gi

theorem PutSt.upd {k bn bi br gi ci : Nat} {In : Nat → Bool} {row : List Int} {w w' : World} (h : PutSt k bn bi br gi ci In row w) {S : Nat → Prop} (u : Upd S w w') (h1 : ¬ S bn) (h2 : ¬ S bi) (h3 : ¬ S gi) (h4 : ∀ j, br ≤ j → ¬ S j) : PutSt k bn bi br gi ci In row w' := by
  obtain ⟨c1, c2, c3, ⟨a, c, c4, c5⟩, c6, c7⟩ := h
  exact ⟨c1.upd u h1, c2.upd u h2, c3.upd u h3, ⟨a, c, c4.upd u (h4 _ (Nat.le_refl _)), ownsRow_upd c5 u (fun j hj => h4 j (by omega))⟩, c6, c7⟩

def putOk (k : Nat) (In : Nat → Bool) (b : Int) : Bool := decide (0 ≤ b ∧ b < k) && !In b.toNat
def putF (k : Nat) (In : Nat → Bool) (b : Int) : Nat → Bool := if putOk k In b then setF In b true else In
def putL (k : Nat) (In : Nat → Bool) (row : List Int) (b : Int) : List Int := if putOk k In b then row ++ [b] else row

/-- The block of the row's own elements. -/
def RowB (w : World) (br j : Nat) : Prop := ∃ s : Value, w.cell? ⟨br, 0, none⟩ = some s ∧ s.ownBlock = some j

def PutPost (k bn bi br gi ci : Nat) (In : Nat → Bool) (row : List Int) (w : World) (b : Int) (e : Ending) (w' : World) : Prop :=
  e = .returned (.tuple #[]) ∧ PutSt k bn bi br gi ci (putF k In b) (putL k In row b) w' ∧ Upd (fun j => j = gi ∨ j = br ∨ RowB w br j) w w' ∧ ∀ j, RowB w' br j → RowB w br j ∨ w.heap.size ≤ j

theorem put_fin {k bn bi br gi ci : Nat} {In : Nat → Bool} {row : List Int} {w w3 w4 : World} {a : Option Addr} {c : Nat} {q : Nat} {g' : Nat} {c' : Nat} {o : Obj} (h : PutSt k bn bi br gi ci In row w) (hr : Blk w br [.slice a row.length c] 37) (ho0 : w.ownsRow (br + 1) 3 1 (.slice a row.length c) row.length (ints row))
    (hq : q < k) (hIn : In q = false) (h3 : w3 = (w.setCell ⟨gi, q, none⟩ (.bool true)).alloc o)
    (ho : w4.ownsRow (br + 1) 3 1 (.slice (some ⟨g', 0, none⟩) (row.length + 1) c') (row.length + 1) (ints row ++ [.int .i64 (q : Int)])) (hg : w3.grownBy w4 (Value.slice a row.length c).ownBlock) (hlie : (Value.slice a row.length c).ownBlock = some g' ∨ g' = w3.heap.size) :
    PutPost k bn bi br gi ci In row w (q : Int) (.returned (.tuple #[])) (w4.setCell ⟨br, 0, none⟩ (.slice (some ⟨g', 0, none⟩) (row.length + 1) c')) := by
  subst h3
  have hok : putOk k In (q : Int) = true := by unfold putOk; rw [decide_eq_true (by omega), Int.toNat_natCast, hIn]; rfl
  unfold PutPost putF putL
  rw [hok, if_pos rfl, if_pos rfl]
  obtain ⟨c1, c2, c3, -, c6, c7⟩ := h
  have u1 : Upd (fun j => j = gi) w (w.setCell ⟨gi, q, none⟩ (.bool true)) := (Upd.refl _ _).at _ _
  have u2 : Upd (fun _ => False) (w.setCell ⟨gi, q, none⟩ (.bool true)) ((w.setCell ⟨gi, q, none⟩ (.bool true)).alloc o) := (Upd.refl _ _).alloc _
  have u3 : Upd (fun j => br + 1 ≤ j) ((w.setCell ⟨gi, q, none⟩ (.bool true)).alloc o) w4 := (Upd.refl _ _).grown hg (fun j e _ => (ho0.lt j e).1)
  have u4 : Upd (fun j => j = br) w4 (w4.setCell ⟨br, 0, none⟩ (.slice (some ⟨g', 0, none⟩) (row.length + 1) c')) := (Upd.refl _ _).at _ _
  have b1 := c3.set q true
  have hrow : ints (row ++ [(q : Int)]) = ints row ++ [.int .i64 (q : Int)] := by simp [ints]
  refine ⟨rfl, ⟨?_, ?_, ?_, ⟨some ⟨g', 0, none⟩, c', ?_, ?_⟩, c6, c7⟩, ?_, ?_⟩
  · exact (((c1.upd u1 c7.1).upd u2 (fun x => x)).upd u3 (by omega)).upd u4 (by omega)
  · exact (((c2.upd u1 c7.2).upd u2 (fun x => x)).upd u3 (by omega)).upd u4 (by omega)
  · exact ((b1.upd u2 (fun x => x)).upd u3 (by omega)).upd u4 (by omega)
  · have hb := ((hr.upd u1 (by omega)).upd u2 (fun x => x)).upd u3 (by omega)
    have := hb.set 0 (.slice (some ⟨g', 0, none⟩) (row.length + 1) c')
    simpa using this
  · rw [hrow, List.length_append]
    exact ownsRow_upd ho u4 (fun j hj e => by omega)
  · have hRB : ∀ j, (Value.slice a row.length c).ownBlock = some j → RowB w br j := fun j e => ⟨_, hr.cell 0 rfl, e⟩
    have u3' : Upd (fun j => (Value.slice a row.length c).ownBlock = some j) ((w.setCell ⟨gi, q, none⟩ (.bool true)).alloc o) w4 := (Upd.refl _ _).grown hg (fun j e _ => e)
    exact ((u1.comp u2 (U := fun j => j = gi ∨ j = br ∨ RowB w br j) (fun i _ e => Or.inl e) (fun i _ e => e.elim)).comp u3' (fun i _ e => e) (fun i _ e => Or.inr (Or.inr (hRB i e)))).comp u4 (fun i _ e => e) (fun i _ e => Or.inr (Or.inl e))
  · rintro j ⟨s, hs, he⟩
    have hb := ((hr.upd u1 (by omega)).upd u2 (fun x => x)).upd u3 (by omega)
    have hb2 := (hb.set 0 (.slice (some ⟨g', 0, none⟩) (row.length + 1) c')).cell 0 rfl
    have hs2 : s = .slice (some ⟨g', 0, none⟩) (row.length + 1) c' := by
      rw [hb2] at hs
      exact (Option.some.inj hs).symm
    subst hs2
    have he : g' = j := by simpa [Value.ownBlock] using he
    subst he
    rcases hlie with e | e
    · exact Or.inl ⟨_, hr.cell 0 rfl, e⟩
    · exact Or.inr (by rw [e]; simp [World.setCell])

theorem put_row {gi br q : Nat} {w w4 : World} {s : Value} {o : Obj} (hr : Blk w br [s] 37) (hgbr : gi ≠ br) (v : Value) {n : Nat} {vs : List Value} {esz : Nat}
    (ho0 : w.ownsRow (br + 1) 3 esz s n vs) (hg : ((w.setCell ⟨gi, q, none⟩ v).alloc o).grownBy w4 s.ownBlock) : Blk w4 br [s] 37 := by
  have u1 : Upd (fun j => j = gi) w (w.setCell ⟨gi, q, none⟩ v) := (Upd.refl _ _).at _ _
  have u2 : Upd (fun _ => False) (w.setCell ⟨gi, q, none⟩ v) ((w.setCell ⟨gi, q, none⟩ v).alloc o) := (Upd.refl _ _).alloc _
  have u3 : Upd (fun j => br + 1 ≤ j) ((w.setCell ⟨gi, q, none⟩ v).alloc o) w4 := (Upd.refl _ _).grown hg (fun j e _ => (ho0.lt j e).1)
  exact ((hr.upd u1 (fun e => hgbr e.symm)).upd u2 (fun x => x)).upd u3 (by omega)

end Go.Proofs.Ythaicpjgmplgcaa
