/- Arguments opened to cells: slices of ints, slices of rows of cells. -/
import Derived.Test.YthaicpjgmplgcaaLib
import Derived.Deep.Slices
import Derived.Deep.Fields
import Derived.SizedLaws
namespace Go.Proofs.Ythaicpjgmplgcaa
open Go.RowKit Go.Deep Go.ChangeShapes Go.WideShapes

/-- The value c is a slice of n rows of 'size' cells; cell j of row i is X i j. -/
def RowsIn (w : World) (c : Value) (size n : Nat) (X : Nat → Nat → Value) : Prop :=
  ∃ (a : Option Addr) (cap : Nat), c = .slice a n cap ∧ n ≤ cap ∧ cap ≤ maxLen ∧
    (0 < n → ∃ b off, a = some ⟨b, off, none⟩ ∧ b < w.heap.size ∧ ∀ i, i < n → ∀ j, j < size → w.cell? ⟨b, off + i * size + j, none⟩ = some (X i j))

theorem RowsIn.upd {w w' : World} {c : Value} {size n : Nat} {X : Nat → Nat → Value} (h : RowsIn w c size n X) (hb : Below w.heap.size w w') : RowsIn w' c size n X := by
  obtain ⟨a, cap, h1, h2, h3, h4⟩ := h
  refine ⟨a, cap, h1, h2, h3, fun hn => ?_⟩
  obtain ⟨b, off, g1, g2, g3⟩ := h4 hn
  exact ⟨b, off, g1, Nat.lt_of_lt_of_le g2 hb.size, fun i hi j hj => (hb.cell (p := ⟨b, off + i * size + j, none⟩) g2).trans (g3 i hi j hj)⟩

section
variable {H : Type} {enc : TypeId × Value → H} {P : Program} {w : World} {spare : Nat → Bool} {held : Bool}

theorem rows_of_trod {t e : TypeId} {fuel size : Nat} {c : Value} {x : DataW H × List MemPlace} (ht : P.underlying t = some (.slice e)) (hC : P.cellsOf e = size) (hpos : 0 < size)
    (h : DataW.trod enc P w 0 spare held fuel t [c] = some x) :
    ∃ (n : Nat) (X : Nat → Nat → Value), RowsIn w c size n X ∧ (n = 0 ∨ ∃ E S, x.1 = .slice E S ∧ E.length = n) ∧
      ∃ m, ∀ i, i < n → ∃ y, DataW.trod enc P w 0 spare held m e ((List.range size).map (X i)) = some y := by
  rcases open_slice ht h with ⟨h1, h2⟩ | ⟨a, len, cap, m, fu, D, Pl, hcs, _, hl, hm, hmm, hx, hi⟩
  · simp at h1
    exact ⟨0, fun _ _ => undef, ⟨none, 0, h1, Nat.le_refl _, by decide, fun hn => by omega⟩, Or.inl rfl, 0, fun i hi => by omega⟩
  · simp at hcs
    have hlm : len ≤ m := by rw [hmm]; split <;> omega
    have hcell : ∀ i, i < len → ∃ f : Nat → Value, (∀ j, j < size → w.cell? (a.add (i * size + j)) = some (f j)) ∧ DataW.trod enc P w 0 spare held fu e ((List.range size).map f) = some (D i, Pl i) := by
      intro i hil
      obtain ⟨cs', hc, ht'⟩ := hi i (by omega)
      rw [hC] at hc
      obtain ⟨_, hcl, hat⟩ := World.cells?_some hc
      have e : cs' = (List.range size).map (fun j => cs'.getD j undef) := by
        apply List.ext_getElem?
        intro j
        by_cases hj : j < size
        · simp [hj, hcl]
        · simp [hj, hcl]
      refine ⟨fun j => cs'.getD j undef, fun j hj => ?_, by rw [← e]; exact ht'⟩
      have := hat j hj
      rw [add_add] at this
      rw [this]
      simp [hcl, hj]
    obtain ⟨X, hX⟩ := choose_lt hcell
    refine ⟨len, X, ⟨some a, cap, hcs, hl, hm, fun hn => ?_⟩, Or.inr ⟨_, _, by rw [hx], by simp⟩, fu, fun i hil => ⟨_, (hX i hil).2⟩⟩
    obtain ⟨b, off, spot⟩ := a
    have h0 := (hX 0 hn).1 0 hpos
    have hspot : spot = none := by simpa [Addr.add] using World.cell?_spot h0
    subst hspot
    have hadd : ∀ k, (⟨b, off, none⟩ : Addr).add k = ⟨b, off + k, none⟩ := fun k => by unfold Addr.add; split <;> simp_all
    rw [hadd] at h0
    refine ⟨b, off, rfl, World.block_lt_of_cell? w _ h0, fun i hil j hj => ?_⟩
    have := (hX i hil).1 j hj
    rw [hadd] at this
    rw [Nat.add_assoc]
    exact this

/-- A slice that reads as these ints. -/
def IntsR (w : World) (c : Value) (k : IntKind) (xs : List Int) : Prop := RowsIn w c 1 xs.length (fun i _ => .int k (xs.getD i 0))
/-- A slice of ints, each of its kind. -/
def IntsIn (w : World) (c : Value) (k : IntKind) (xs : List Int) : Prop := IntsR w c k xs ∧ ∀ x ∈ xs, (Lit.int k x).wf = true
theorem IntsR.upd {w w' : World} {c : Value} {k : IntKind} {xs : List Int} (h : IntsR w c k xs) (hb : Below w.heap.size w w') : IntsR w' c k xs := RowsIn.upd h hb

theorem IntsIn.upd {w w' : World} {c : Value} {k : IntKind} {xs : List Int} (h : IntsIn w c k xs) (hb : Below w.heap.size w w') : IntsIn w' c k xs := ⟨h.1.upd hb, h.2⟩

theorem ints_of_trod {t e : TypeId} {fuel : Nat} {c : Value} {k : IntKind} {x : DataW H × List MemPlace} (ht : P.underlying t = some (.slice e)) (he : P.underlying e = some (.int k)) (hC : P.cellsOf e = 1)
    (h : DataW.trod enc P w 0 spare held fuel t [c] = some x) : ∃ xs : List Int, IntsIn w c k xs ∧ (xs = [] ∨ ∃ E S, x.1 = .slice E S ∧ E.length = xs.length) := by
  obtain ⟨n, X, hR, hn, m, hi⟩ := rows_of_trod ht hC (by decide) h
  have hv : ∀ i, i < n → ∃ z : Int, X i 0 = .int k z ∧ (Lit.int k z).wf = true := by
    intro i hin
    obtain ⟨y, hy⟩ := hi i hin
    obtain ⟨z, hz, _, hw⟩ := DataW.trod_int he hy
    simp at hz
    exact ⟨z, hz, hw⟩
  obtain ⟨Z, hZ⟩ := choose_lt hv
  have hlen : ((List.range n).map Z).length = n := by simp
  refine ⟨(List.range n).map Z, ⟨?_, ?_⟩, ?_⟩
  · unfold IntsR
    rw [hlen]
    obtain ⟨a, cap, h1, h2, h3, h4⟩ := hR
    refine ⟨a, cap, h1, h2, h3, fun hn => ?_⟩
    obtain ⟨b, off, g1, g2, g3⟩ := h4 hn
    refine ⟨b, off, g1, g2, fun i hi j hj => ?_⟩
    rw [g3 i hi j hj]
    obtain rfl : j = 0 := by omega
    rw [(hZ i hi).1]
    simp [hi]
  · intro x hx
    simp at hx
    obtain ⟨i, hi, rfl⟩ := hx
    exact (hZ i hi).2
  · rcases hn with hn | ⟨E, S, g1, g2⟩
    · subst hn; exact Or.inl rfl
    · exact Or.inr ⟨E, S, g1, by rw [hlen]; exact g2⟩

variable {W : World} {ts : List TypeId} {ds : List (DataW H)}
/-- A parameter that is a slice of ints. -/
theorem open_intsAt {t e : TypeId} {k : IntKind} {v : Value} {d : DataW H} {ps : List MemPlace} {bytes : Nat} (ht : P.underlying t = some (.slice e)) (he : P.underlying e = some (.int k)) (hC : P.cellsOf e = 1) (hB : P.bytesOf e = bytes)
    {r : Reach} {b0 : Nat} (hval : Value.okWide P W r b0 t v) (h : DataW.Trod enc P W 0 spare held t v d ps) (hsz : (DataW.weightsEach P ts ds).all (· ≤ reachBytes) = true) (j : Nat) (htj : ts[j]? = some t) (hdj : ds[j]? = some d) :
    ∃ xs : List Int, IntsIn W v k xs ∧ xs.length * bytes ≤ 140737488351232 := by
  obtain ⟨a0, len, cap, rfl⟩ := okWide_slice ht hval
  obtain ⟨fuel, hf⟩ := h
  obtain ⟨xs, hx, hl⟩ := ints_of_trod ht he hC (x := (d, ps)) (by simpa [Value.cells] using hf)
  refine ⟨xs, hx, ?_⟩
  rcases hl with rfl | ⟨E, S, g1, g2⟩
  · simp
  · simp only at g1
    subst g1
    have := sized_slice hsz htj hdj ht
    rw [hB] at this
    have h2 : xs.length * bytes ≤ (E.length + S.length) * bytes := Nat.mul_le_mul_right _ (by omega)
    exact Nat.le_trans h2 this

/-- A parameter that is a slice of rows. -/
theorem open_rowsAt {t e : TypeId} {v : Value} {d : DataW H} {ps : List MemPlace} {bytes size : Nat} (ht : P.underlying t = some (.slice e)) (hC : P.cellsOf e = size) (hpos : 0 < size) (hB : P.bytesOf e = bytes)
    {r : Reach} {b0 : Nat} (hval : Value.okWide P W r b0 t v) (h : DataW.Trod enc P W 0 spare held t v d ps) (hsz : (DataW.weightsEach P ts ds).all (· ≤ reachBytes) = true) (j : Nat) (htj : ts[j]? = some t) (hdj : ds[j]? = some d) :
    ∃ (n : Nat) (X : Nat → Nat → Value), RowsIn W v size n X ∧ n * bytes ≤ 140737488351232 ∧ ∃ m, ∀ i, i < n → ∃ y, DataW.trod enc P W 0 spare held m e ((List.range size).map (X i)) = some y := by
  obtain ⟨a0, len, cap, rfl⟩ := okWide_slice ht hval
  obtain ⟨fuel, hf⟩ := h
  obtain ⟨n, X, hR, hl, m, hi⟩ := rows_of_trod ht hC hpos (x := (d, ps)) (by simpa [Value.cells] using hf)
  refine ⟨n, X, hR, ?_, m, hi⟩
  rcases hl with rfl | ⟨E, S, g1, g2⟩
  · simp
  · simp only at g1
    subst g1
    have := sized_slice hsz htj hdj ht
    rw [hB] at this
    have h2 : n * bytes ≤ (E.length + S.length) * bytes := Nat.mul_le_mul_right _ (by omega)
    exact Nat.le_trans h2 this

/-- A struct of one-cell fields, read field by field. -/
theorem fields_of_trod {e : TypeId} {fs : Array Field} {m size : Nat} {X : Nat → Value} {y : DataW H × List MemPlace} (he : P.underlying e = some (.struct fs)) (hone : oneCellFields P fs = true) (hsz : fs.size ≤ size)
    (h : DataW.trod enc P w 0 spare held m e ((List.range size).map X) = some y) : ∃ m', ∀ (j : Nat) (f : Field), fs[j]? = some f → ∃ z, DataW.trod enc P w 0 spare held m' f.type [X j] = some z := by
  obtain ⟨ys, n', _, _, _, hyl, hf⟩ := DataW.trod_struct he h
  refine ⟨n', fun j f hj => ?_⟩
  obtain ⟨ho, hk⟩ := hone_of hone j f hj
  have hjl : j < fs.size := (Array.getElem?_eq_some_iff.1 hj).1
  have h1 := hf j f hj
  rw [ho, hk] at h1
  have hone' : (((List.range size).map X).drop j).take 1 = [X j] := by
    rw [List.drop_eq_getElem_cons (by simp; omega)]
    simp
  rw [hone'] at h1
  exact ⟨ys[j]'(by omega), h1.trans (List.getElem?_eq_getElem (by omega))⟩
theorem int_of_trod {e : TypeId} {k : IntKind} {m : Nat} {c : Value} {z : DataW H × List MemPlace} (he : P.underlying e = some (.int k)) (h : DataW.trod enc P w 0 spare held m e [c] = some z) : ∃ n : Int, c = .int k n ∧ (Lit.int k n).wf = true := by
  obtain ⟨n, h1, _, h2⟩ := DataW.trod_int he h
  simp at h1
  exact ⟨n, h1, h2⟩
theorem bool_of_trod {e : TypeId} {m : Nat} {c : Value} {z : DataW H × List MemPlace} (he : P.underlying e = some .bool) (h : DataW.trod enc P w 0 spare held m e [c] = some z) : ∃ b : Bool, c = .bool b := by
  obtain ⟨n, h1, _⟩ := DataW.trod_bool he h
  simp at h1
  exact ⟨n, h1⟩
end

/-- What an index of a slice does, told of the slice's value as it stands. -/
theorem RowsIn.index {w : World} {c : Value} {size n : Nat} {X : Nat → Nat → Value} (h : RowsIn w c size n X) {P : Program} {T E : TypeId} (hT : P.underlying T = some (.slice E)) (hE : P.elem T = E) (hS : (P.info? E).map (·.size) = some size) {i : Nat} (hi : i < n) :
    ∃ b off, (∀ w', (Instr.indexAt T c (.int .i64 (i : Int))).run P w' = .ok (.pointer (some ⟨b, off + i * size, none⟩)) w') ∧ b < w.heap.size ∧ ∀ j, j < size → w.cell? ⟨b, off + i * size + j, none⟩ = some (X i j) := by
  obtain ⟨a, cap, rfl, h2, h3, h4⟩ := h
  obtain ⟨b, off, rfl, g2, g3⟩ := h4 (by omega)
  refine ⟨b, off, fun w' => ?_, g2, g3 i hi⟩
  have hT' : P.underlying T = some (.slice (P.elem T)) := by rw [hE]; exact hT
  rw [run_indexAt_slice w' T _ n cap .i64 i hT', if_pos ⟨by omega, by omega⟩, hE]
  obtain ⟨inf, hinf, hsz⟩ := Option.map_eq_some_iff.1 hS
  simp [sizeOf, typeInfo, hinf, hsz, Addr.add]

/-- What a law's walk comes to. -/
def LawPost (W : World) (e : Ending) (w' : World) : Prop := e = .returned (.bool true) ∧ Below W.heap.size W w'
/-- True, and nothing that was there has turned. -/
def TrueUpd (w : World) (e : Ending) (w' : World) : Prop := e = .returned (.bool true) ∧ Upd (fun _ => False) w w'

/-- A slice of pairs of ints: how many, and their cells. -/
def PairsIn (W : World) (v : Value) (x : Nat × (Nat → Nat → Value)) : Prop :=
  RowsIn W v 2 x.1 x.2 ∧ x.1 * 16 ≤ 140737488351232 ∧ ∀ i, i < x.1 → ∃ d b : Int, x.2 i 0 = .int .i64 d ∧ x.2 i 1 = .int .i64 b ∧ (Lit.int .i64 b).wf = true

theorem open_pairsAt {H : Type} {enc : TypeId × Value → H} {P : Program} {spare : Nat → Bool} {held : Bool} {W : World} {ts : List TypeId} {ds : List (DataW H)} {t e : TypeId} {fs : Array Field} {v : Value} {d : DataW H} {ps : List MemPlace} (f0 f1 : Field)
    (ht : P.underlying t = some (.slice e)) (he : P.underlying e = some (.struct fs)) (hone : oneCellFields P fs = true) (hsz2 : fs.size ≤ 2) (hC : P.cellsOf e = 2) (hB : P.bytesOf e = 16)
    (h0 : fs[0]? = some f0) (h1 : fs[1]? = some f1) (i0 : P.underlying f0.type = some (.int .i64)) (i1 : P.underlying f1.type = some (.int .i64))
    {r : Reach} {b0 : Nat} (hval : Value.okWide P W r b0 t v) (h : DataW.Trod enc P W 0 spare held t v d ps) (hsz : (DataW.weightsEach P ts ds).all (· ≤ reachBytes) = true) (j : Nat) (htj : ts[j]? = some t) (hdj : ds[j]? = some d) :
    ∃ x, PairsIn W v x := by
  obtain ⟨n, X, hR, hn, m, hi⟩ := open_rowsAt ht hC (by decide) hB hval h hsz j htj hdj
  refine ⟨(n, X), hR, hn, fun i hil => ?_⟩
  obtain ⟨y, hy⟩ := hi i hil
  obtain ⟨m', hf⟩ := fields_of_trod he hone hsz2 hy
  obtain ⟨z0, hz0⟩ := hf 0 f0 h0
  obtain ⟨z1, hz1⟩ := hf 1 f1 h1
  obtain ⟨d, hd, _⟩ := int_of_trod i0 hz0
  obtain ⟨b, hb, hw⟩ := int_of_trod i1 hz1
  exact ⟨d, b, hd, hb, hw⟩

/-- What the call owns stays owned while other blocks turn. -/
theorem ownsRow_upd {w w' : World} {base : Nat} {e : TypeId} {size : Nat} {v : Value} {n : Nat} {xs : List Value} (h : w.ownsRow base e size v n xs) {S : Nat → Prop} (u : Upd S w w') (hs : ∀ k, base ≤ k → ¬ S k) : w'.ownsRow base e size v n xs := by
  refine ⟨h.1, ?_⟩
  rcases h.2 with h2 | ⟨g, cap, cur, hv, hg, hh, r⟩
  · exact Or.inl h2
  · exact Or.inr ⟨g, cap, cur, hv, hg, (u.block g (Array.getElem?_eq_some_iff.1 hh).1 (hs g hg)).trans hh, r⟩
theorem ownsRow_shape {w : World} {base : Nat} {e : TypeId} {size : Nat} {v : Value} {n : Nat} {xs : List Value} (h : w.ownsRow base e size v n xs) : ∃ a cap, v = .slice a n cap := by
  rcases h.2 with ⟨rfl, rfl⟩ | ⟨g, cap, cur, rfl, _⟩
  · exact ⟨_, _, rfl⟩
  · exact ⟨_, _, rfl⟩
/-- An index of an owned row. -/
theorem ownsRow_index {w : World} {base : Nat} {E : TypeId} {c : Value} {n : Nat} {xs : List Value} (h : w.ownsRow base E 1 c n xs) {P : Program} {T : TypeId} (hT : P.underlying T = some (.slice E)) (hE : P.elem T = E) (hS : (P.info? E).map (·.size) = some 1) {i : Nat} (hi : i < n) :
    ∃ g, (∀ w', (Instr.indexAt T c (.int .i64 (i : Int))).run P w' = .ok (.pointer (some ⟨g, i, none⟩)) w') ∧ base ≤ g ∧ g < w.heap.size ∧ w.cell? ⟨g, i, none⟩ = xs[i]? ∧ w.frozen? ⟨g, i, none⟩ = false ∧ c.ownBlock = some g := by
  obtain ⟨hl, h2⟩ := h
  rcases h2 with ⟨_, h0⟩ | ⟨g, cap, cur, rfl, hg, hh, hn, hcap, hsz, htake⟩
  · omega
  · have hT' : P.underlying T = some (.slice (P.elem T)) := by rw [hE]; exact hT
    obtain ⟨inf, hinf, hsz2⟩ := Option.map_eq_some_iff.1 hS
    refine ⟨g, fun w' => ?_, hg, (Array.getElem?_eq_some_iff.1 hh).1, ?_, ?_, rfl⟩
    · rw [run_indexAt_slice w' T _ n cap .i64 i hT', if_pos ⟨by omega, by omega⟩, hE]
      simp [sizeOf, typeInfo, hinf, hsz2, Addr.add]
      exact fun e => e.symm
    · rw [← htake, List.getElem?_take, if_pos (by omega)]
      simp [World.cell?, hh]
    · simp [World.frozen?, hh]

/-- append of one value onto a row that the call owns (or onto nil). -/
theorem wpList_push {P : Program} {w : World} {ops : Array Oper} {rest : List Oper} {o : Oper} {a : Act} {Q : Exit → Act → World → Prop} (hgd : o.guard = none) (s x : Operand) (t e : TypeId)
    (ho : o.op = .call { callee := .builtin .append, args := #[s, x], argTypes := #[t, t] }) (z : Value) (bytes : Nat) (ht : P.underlying t = some (.slice e)) (hinfo : (P.info? e).map (fun i => (i.zero, i.size, i.bytes)) = some (some z, 1, bytes)) (hzs : z.cells.size = 1)
    (B : Nat) (v : Value) (n : Nat) (xs : List Value) (hs : a.eval s = v) (hown : w.ownsRow B e 1 v n xs) (g c : Nat) (y : Value) (hx : a.eval x = .slice (some ⟨g, 0, none⟩) 1 c) (hcell : w.cell? ⟨g, 0, none⟩ = some y) (hy : y.oneCell' = true)
    (hn : n ≤ 1099511627776) (hb : bytes ≤ 64) (hbase : B ≤ g)
    (h : ∀ a' c' w', w'.ownsRow B e 1 (.slice a' (n + 1) c') (n + 1) (xs ++ [y]) → w.grownBy w' v.ownBlock → wpList P ops Q rest (a.put o.dst (.slice a' (n + 1) c')) w') : wpList P ops Q (o :: rest) a w := by
  obtain ⟨i0, hi, hz0, hz1, hz2⟩ := info_parts hinfo
  refine wpList_append_own w hgd s x t ho B e i0 z 1 bytes ht hi hz0 hz1 hz2 hzs (by decide) v n xs hs hown ⟨g, 0, none⟩ 1 c [y] hx rfl ?_ ?_ ?_ ?_ (by have := World.block_lt_of_cell? w _ hcell; simp only at this; omega) ?_
  · intro j u hj
    match j, hj with
    | 0, hj => simp at hj; subst hj; exact hcell
    | j + 1, hj => simp at hj
  · intro u hu; simp at hu; subst hu; exact hy
  · unfold maxLen; omega
  · have h1 : n + 1 ≤ 1099511627777 := by omega
    have := Nat.mul_le_mul h1 hb
    omega
  · intro v' w' h2 h3 _
    obtain ⟨a', c', rfl⟩ := ownsRow_shape h2
    exact h a' c' w' h2 h3

/-- A row that the call owns reads as these ints. -/
theorem ownsRow_intsR {w : World} {base : Nat} {E : TypeId} {v : Value} {xs : List Int} {k : IntKind} (h : w.ownsRow base E 1 v xs.length (xs.map (Value.int k))) : IntsR w v k xs := by
  rcases h.2 with ⟨rfl, h0⟩ | ⟨g, cap, cur, rfl, hg, hh, hn, hcap, hsz, htake⟩
  · refine ⟨none, 0, by rw [h0], by omega, by decide, fun hn => by omega⟩
  · refine ⟨some ⟨g, 0, none⟩, cap, rfl, hn, hcap, fun _ => ⟨g, 0, rfl, (Array.getElem?_eq_some_iff.1 hh).1, fun i hi j hj => ?_⟩⟩
    obtain rfl : j = 0 := by omega
    have h1 : (cur.toList.take (xs.length * 1))[i]? = (xs.map (Value.int k))[i]? := by rw [htake]
    rw [List.getElem?_take, if_pos (by omega), List.getElem?_map, List.getElem?_eq_getElem hi] at h1
    have h2 : cur[i]? = some (Value.int k (xs.getD i 0)) := by
      rw [← Array.getElem?_toList, h1]
      simp [hi]
    simp [World.cell?, hh, h2]

/-- The first m of a slice's elements. -/
theorem rows_take {w : World} {a : Option Addr} {size n m cap : Nat} {X : Nat → Nat → Value} (h : RowsIn w (.slice a n cap) size n X) (hm : m ≤ n) : RowsIn w (.slice a m cap) size m X := by
  obtain ⟨a', cap', h1, h2, h3, h4⟩ := h
  simp only [Value.slice.injEq, true_and] at h1
  obtain ⟨rfl, rfl⟩ := h1
  refine ⟨a, cap, rfl, by omega, h3, fun hn => ?_⟩
  obtain ⟨b, off, g1, g2, g3⟩ := h4 (by omega)
  exact ⟨b, off, g1, g2, fun i hi => g3 i (by omega)⟩
end Go.Proofs.Ythaicpjgmplgcaa
