/- Arguments opened to cells: slices of ints, slices of rows of cells. -/
import Derived.Test.YthdndphghnjcbaaLib
import Derived.Deep.Slices
import Derived.Deep.Fields
import Derived.SizedLaws
namespace Go.Proofs.Ythdndphghnjcbaa
open Go.RowKit Go.Deep Go.ChangeShapes Go.WideShapes

/-- The value c is a slice of n rows of 'size' cells; cell j of row i is X i j. -/
def RowsIn (w : World) (c : Value) (size n : Nat) (X : Nat → Nat → Value) : Prop :=
  ∃ (a : Option Addr) (cap : Nat), c = .slice a n cap ∧ n ≤ cap ∧ cap ≤ maxLen ∧
    (0 < n → ∃ b off, a = some ⟨b, off, none⟩ ∧ b < w.heap.size ∧ ∀ i, i < n → ∀ j, j < size → w.cell? ⟨b, off + i * size + j, none⟩ = some (X i j))

theorem RowsIn.upd {w w' : World} {c : Value} {size n : Nat} {X : Nat → Nat → Value} (h : RowsIn w c size n X) (hb : Below w.heap.size w w') : RowsIn w' c size n X := by
  obtain ⟨a, cap, h1, h2, h3, h4⟩ := h
  refine ⟨a, cap, h1, h2, h3, fun hn => ?_⟩
  obtain ⟨b, off, g1, g2, g3⟩ := h4 hn
  exact ⟨b, off, g1, Nat.lt_of_lt_of_le g2 hb.size, fun i hi j hj => (hb.cell (p := ⟨b, off + i * size + j, none⟩) g2).trans (g3 i hi j hj)⟩

section
variable {H : Type} {enc : TypeId × Value → H} {P : Program} {w : World} {spare : Nat → Bool} {held : Bool}

theorem rows_of_trod {t e : TypeId} {fuel size : Nat} {c : Value} {x : DataW H × List MemPlace} (ht : P.underlying t = some (.slice e)) (hC : P.cellsOf e = size) (hpos : 0 < size)
    (h : DataW.trod enc P w 0 spare held fuel t [c] = some x) :
    ∃ (n : Nat) (X : Nat → Nat → Value), RowsIn w c size n X ∧ (n = 0 ∨ ∃ E S, x.1 = .slice E S ∧ E.length = n) ∧
      ∃ m, ∀ i, i < n → ∃ y, DataW.trod enc P w 0 spare held m e ((List.range size).map (X i)) = some y := by
  rcases open_slice ht h with ⟨h1, h2⟩ | ⟨a, len, cap, m, fu, D, Pl, hcs, _, hl, hm, hmm, hx, hi⟩
  · simp at h1
    exact ⟨0, fun _ _ => undef, ⟨none, 0, h1, Nat.le_refl _, by decide, fun hn => by omega⟩, Or.inl rfl, 0, fun i hi => by omega⟩
  · simp at hcs
    have hlm : len ≤ m := by rw [hmm]; split <;> omega
    have hcell : ∀ i, i < len → ∃ f : Nat → Value, (∀ j, j < size → w.cell? (a.add (i * size + j)) = some (f j)) ∧ DataW.trod enc P w 0 spare held fu e ((List.range size).map f) = some (D i, Pl i) := by
      intro i hil
      obtain ⟨cs', hc, ht'⟩ := hi i (by omega)
      rw [hC] at hc
      obtain ⟨_, hcl, hat⟩ := World.cells?_some hc
      have e : cs' = (List.range size).map (fun j => cs'.getD j undef) := by
        apply List.ext_getElem?
        intro j
        by_cases hj : j < size
        · simp [hj, hcl]
        · simp [hj, hcl]
      refine ⟨fun j => cs'.getD j undef, fun j hj => ?_, by rw [← e]; exact ht'⟩
      have := hat j hj
      rw [add_add] at this
      rw [this]
      simp [hcl, hj]
    obtain ⟨X, hX⟩ := choose_lt hcell
    refine ⟨len, X, ⟨some a, cap, hcs, hl, hm, fun hn => ?_⟩, Or.inr ⟨_, _, by rw [hx], by simp⟩, fu, fun i hil => ⟨_, (hX i hil).2⟩⟩
    obtain ⟨b, off, spot⟩ := a
    have h0 := (hX 0 hn).1 0 hpos
    have hspot : spot = none := by simpa [Addr.add] using World.cell?_spot h0
    subst hspot
    have hadd : ∀ k, (⟨b, off, none⟩ : Addr).add k = ⟨b, off + k, none⟩ := fun k => by unfold Addr.add; split <;> simp_all
    rw [hadd] at h0
    refine ⟨b, off, rfl, World.block_lt_of_cell? w _ h0, fun i hil j hj => ?_⟩
    have := (hX i hil).1 j hj
    rw [hadd] at this
    rw [Nat.add_assoc]
    exact this

/-- A slice of ints. -/
def IntsIn (w : World) (c : Value) (k : IntKind) (xs : List Int) : Prop :=
  RowsIn w c 1 xs.length (fun i _ => .int k (xs.getD i 0)) ∧ ∀ x ∈ xs, (Lit.int k x).wf = true

theorem IntsIn.upd {w w' : World} {c : Value} {k : IntKind} {xs : List Int} (h : IntsIn w c k xs) (hb : Below w.heap.size w w') : IntsIn w' c k xs := ⟨h.1.upd hb, h.2⟩

theorem ints_of_trod {t e : TypeId} {fuel : Nat} {c : Value} {k : IntKind} {x : DataW H × List MemPlace} (ht : P.underlying t = some (.slice e)) (he : P.underlying e = some (.int k)) (hC : P.cellsOf e = 1)
    (h : DataW.trod enc P w 0 spare held fuel t [c] = some x) : ∃ xs : List Int, IntsIn w c k xs ∧ (xs = [] ∨ ∃ E S, x.1 = .slice E S ∧ E.length = xs.length) := by
  obtain ⟨n, X, hR, hn, m, hi⟩ := rows_of_trod ht hC (by decide) h
  have hv : ∀ i, i < n → ∃ z : Int, X i 0 = .int k z ∧ (Lit.int k z).wf = true := by
    intro i hin
    obtain ⟨y, hy⟩ := hi i hin
    obtain ⟨z, hz, _, hw⟩ := DataW.trod_int he hy
    simp at hz
    exact ⟨z, hz, hw⟩
  obtain ⟨Z, hZ⟩ := choose_lt hv
  have hlen : ((List.range n).map Z).length = n := by simp
  refine ⟨(List.range n).map Z, ⟨?_, ?_⟩, ?_⟩
  · rw [hlen]
    obtain ⟨a, cap, h1, h2, h3, h4⟩ := hR
    refine ⟨a, cap, h1, h2, h3, fun hn => ?_⟩
    obtain ⟨b, off, g1, g2, g3⟩ := h4 hn
    refine ⟨b, off, g1, g2, fun i hi j hj => ?_⟩
    rw [g3 i hi j hj]
    obtain rfl : j = 0 := by omega
    rw [(hZ i hi).1]
    simp [hi]
  · intro x hx
    simp at hx
    obtain ⟨i, hi, rfl⟩ := hx
    exact (hZ i hi).2
  · rcases hn with hn | ⟨E, S, g1, g2⟩
    · subst hn; exact Or.inl rfl
    · exact Or.inr ⟨E, S, g1, by rw [hlen]; exact g2⟩

variable {W : World} {ts : List TypeId} {ds : List (DataW H)}
/-- A parameter that is a slice of ints. -/
theorem open_intsAt {t e : TypeId} {k : IntKind} {v : Value} {d : DataW H} {ps : List MemPlace} {bytes : Nat} (ht : P.underlying t = some (.slice e)) (he : P.underlying e = some (.int k)) (hC : P.cellsOf e = 1) (hB : P.bytesOf e = bytes)
    {r : Reach} {b0 : Nat} (hval : Value.okWide P W r b0 t v) (h : DataW.Trod enc P W 0 spare held t v d ps) (hsz : (DataW.weightsEach P ts ds).all (· ≤ reachBytes) = true) (j : Nat) (htj : ts[j]? = some t) (hdj : ds[j]? = some d) :
    ∃ xs : List Int, IntsIn W v k xs ∧ xs.length * bytes ≤ 140737488351232 := by
  obtain ⟨a0, len, cap, rfl⟩ := okWide_slice ht hval
  obtain ⟨fuel, hf⟩ := h
  obtain ⟨xs, hx, hl⟩ := ints_of_trod ht he hC (x := (d, ps)) (by simpa [Value.cells] using hf)
  refine ⟨xs, hx, ?_⟩
  rcases hl with rfl | ⟨E, S, g1, g2⟩
  · simp
  · simp only at g1
    subst g1
    have := sized_slice hsz htj hdj ht
    rw [hB] at this
    have h2 : xs.length * bytes ≤ (E.length + S.length) * bytes := Nat.mul_le_mul_right _ (by omega)
    exact Nat.le_trans h2 this

/-- A parameter that is a slice of rows. -/
theorem open_rowsAt {t e : TypeId} {v : Value} {d : DataW H} {ps : List MemPlace} {bytes size : Nat} (ht : P.underlying t = some (.slice e)) (hC : P.cellsOf e = size) (hpos : 0 < size) (hB : P.bytesOf e = bytes)
    {r : Reach} {b0 : Nat} (hval : Value.okWide P W r b0 t v) (h : DataW.Trod enc P W 0 spare held t v d ps) (hsz : (DataW.weightsEach P ts ds).all (· ≤ reachBytes) = true) (j : Nat) (htj : ts[j]? = some t) (hdj : ds[j]? = some d) :
    ∃ (n : Nat) (X : Nat → Nat → Value), RowsIn W v size n X ∧ n * bytes ≤ 140737488351232 ∧ ∃ m, ∀ i, i < n → ∃ y, DataW.trod enc P W 0 spare held m e ((List.range size).map (X i)) = some y := by
  obtain ⟨a0, len, cap, rfl⟩ := okWide_slice ht hval
  obtain ⟨fuel, hf⟩ := h
  obtain ⟨n, X, hR, hl, m, hi⟩ := rows_of_trod ht hC hpos (x := (d, ps)) (by simpa [Value.cells] using hf)
  refine ⟨n, X, hR, ?_, m, hi⟩
  rcases hl with rfl | ⟨E, S, g1, g2⟩
  · simp
  · simp only at g1
    subst g1
    have := sized_slice hsz htj hdj ht
    rw [hB] at this
    have h2 : n * bytes ≤ (E.length + S.length) * bytes := Nat.mul_le_mul_right _ (by omega)
    exact Nat.le_trans h2 this

/-- A struct of one-cell fields, read field by field. -/
theorem fields_of_trod {e : TypeId} {fs : Array Field} {m size : Nat} {X : Nat → Value} {y : DataW H × List MemPlace} (he : P.underlying e = some (.struct fs)) (hone : oneCellFields P fs = true) (hsz : fs.size ≤ size)
    (h : DataW.trod enc P w 0 spare held m e ((List.range size).map X) = some y) : ∃ m', ∀ (j : Nat) (f : Field), fs[j]? = some f → ∃ z, DataW.trod enc P w 0 spare held m' f.type [X j] = some z := by
  obtain ⟨ys, n', _, _, _, hyl, hf⟩ := DataW.trod_struct he h
  refine ⟨n', fun j f hj => ?_⟩
  obtain ⟨ho, hk⟩ := hone_of hone j f hj
  have hjl : j < fs.size := (Array.getElem?_eq_some_iff.1 hj).1
  have h1 := hf j f hj
  rw [ho, hk] at h1
  have hone' : (((List.range size).map X).drop j).take 1 = [X j] := by
    rw [List.drop_eq_getElem_cons (by simp; omega)]
    simp
  rw [hone'] at h1
  exact ⟨ys[j]'(by omega), h1.trans (List.getElem?_eq_getElem (by omega))⟩
theorem int_of_trod {e : TypeId} {k : IntKind} {m : Nat} {c : Value} {z : DataW H × List MemPlace} (he : P.underlying e = some (.int k)) (h : DataW.trod enc P w 0 spare held m e [c] = some z) : ∃ n : Int, c = .int k n ∧ (Lit.int k n).wf = true := by
  obtain ⟨n, h1, _, h2⟩ := DataW.trod_int he h
  simp at h1
  exact ⟨n, h1, h2⟩
theorem bool_of_trod {e : TypeId} {m : Nat} {c : Value} {z : DataW H × List MemPlace} (he : P.underlying e = some .bool) (h : DataW.trod enc P w 0 spare held m e [c] = some z) : ∃ b : Bool, c = .bool b := by
  obtain ⟨n, h1, _⟩ := DataW.trod_bool he h
  simp at h1
  exact ⟨n, h1⟩
end

/-- What an index of a slice does, told of the slice's value as it stands. -/
theorem RowsIn.index {w : World} {c : Value} {size n : Nat} {X : Nat → Nat → Value} (h : RowsIn w c size n X) {P : Program} {T E : TypeId} (hT : P.underlying T = some (.slice E)) (hE : P.elem T = E) (hS : (P.info? E).map (·.size) = some size) {i : Nat} (hi : i < n) :
    ∃ b off, (∀ w', (Instr.indexAt T c (.int .i64 (i : Int))).run P w' = .ok (.pointer (some ⟨b, off + i * size, none⟩)) w') ∧ b < w.heap.size ∧ ∀ j, j < size → w.cell? ⟨b, off + i * size + j, none⟩ = some (X i j) := by
  obtain ⟨a, cap, rfl, h2, h3, h4⟩ := h
  obtain ⟨b, off, rfl, g2, g3⟩ := h4 (by omega)
  refine ⟨b, off, fun w' => ?_, g2, g3 i hi⟩
  have hT' : P.underlying T = some (.slice (P.elem T)) := by rw [hE]; exact hT
  rw [run_indexAt_slice w' T _ n cap .i64 i hT', if_pos ⟨by omega, by omega⟩, hE]
  obtain ⟨inf, hinf, hsz⟩ := Option.map_eq_some_iff.1 hS
  simp [sizeOf, typeInfo, hinf, hsz, Addr.add]

/-- What a law's walk comes to. -/
def LawPost (W : World) (e : Ending) (w' : World) : Prop := e = .returned (.bool true) ∧ Below W.heap.size W w'
/-- True, and nothing that was there has turned. -/
def TrueUpd (w : World) (e : Ending) (w' : World) : Prop := e = .returned (.bool true) ∧ Upd (fun _ => False) w w'
end Go.Proofs.Ythdndphghnjcbaa
