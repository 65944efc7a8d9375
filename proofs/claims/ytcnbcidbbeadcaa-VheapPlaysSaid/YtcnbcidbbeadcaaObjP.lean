/- Values and objects, plainly; parameters of such types. -/
import Derived.Test.YtcnbcidbbeadcaaRowW
namespace Go.Proofs.Ytcnbcidbbeadcaa
open Go.RowKit Go.Deep Go.ChangeShapes Go.WideShapes
set_option linter.unusedVariables false

/-- A value. -/
structure Val where
  k : Int
  n : Int
  re : Nat
  im : Nat
  r : Int
instance : Inhabited Val := ⟨⟨0, 0, 0, 0, 0⟩⟩
def Val.v (x : Val) : Value := .agg #[.int .i64 x.k, .int .i64 x.n, .int .u64 (x.re : Int), .int .u64 (x.im : Int), .int .i64 x.r]
def Val.cell (x : Val) (j : Nat) : Value := ([.int .i64 x.k, .int .i64 x.n, .int .u64 (x.re : Int), .int .u64 (x.im : Int), .int .i64 x.r] : List Value).getD j undef
def zeroV : Val := ⟨0, 0, 0, 0, 0⟩
def I64 (n : Int) : Prop := -9223372036854775808 ≤ n ∧ n ≤ 9223372036854775807
structure Val.ok (x : Val) : Prop where
  k : I64 x.k
  n : I64 x.n
  re : x.re < 2 ^ 64
  im : x.im < 2 ^ 64
  r : I64 x.r
theorem zeroV_ok : zeroV.ok := ⟨by unfold I64; decide, by unfold I64; decide, by decide, by decide, by unfold I64; decide⟩
/-- The word of a number. -/
def u64n (n : Int) : Nat := (IntKind.u64.wrap n).toNat
theorem u64n_eq (n : Int) : IntKind.u64.wrap n = (u64n n : Int) := by have := bits_lo_u64' n; unfold u64n; omega
theorem u64n_lt (n : Int) : u64n n < 2 ^ 64 := by
  obtain ⟨x, h1, h2⟩ := u64_of n
  unfold u64n
  rw [h1]
  simpa using h2
/-- The words of a field's value. -/
def vw (k : Int) (x : Val) : Option (List Nat) :=
  if k = 1 ∧ x.k = 1 then some [u64n x.n]
  else if k = 2 ∧ x.k = 2 then some [x.re, x.im]
  else if k = 3 ∧ x.k = 0 then some [0]
  else if k = 3 ∧ x.k = 3 ∧ 0 ≤ x.r ∧ x.r ≤ 1099511627776 then some [x.r.toNat + 1]
  else none
theorem vw_lt {k : Int} {x : Val} (hx : x.ok) {ws : List Nat} (h : vw k x = some ws) : ∀ y ∈ ws, y < 2 ^ 64 := by
  unfold vw at h
  split at h
  · cases h; simpa using u64n_lt x.n
  · split at h
    · cases h
      intro y hy
      simp only [List.mem_cons, List.not_mem_nil, or_false] at hy
      rcases hy with rfl | rfl
      · exact hx.re
      · exact hx.im
    · split at h
      · cases h; simp
      · split at h
        · cases h
          rename_i h1
          intro y hy
          simp only [List.mem_cons, List.not_mem_nil, or_false] at hy
          subst hy
          omega
        · cases h
theorem vw_len {k : Int} {x : Val} {ws : List Nat} (h : vw k x = some ws) : ws.length = fw k ∧ fw k ≠ 0 := by
  unfold vw at h
  split at h
  · rename_i h1; cases h; rw [h1.1]; exact ⟨rfl, by decide⟩
  · split at h
    · rename_i h1; cases h; rw [h1.1]; exact ⟨rfl, by decide⟩
    · split at h
      · rename_i h1; cases h; rw [h1.1]; exact ⟨rfl, by decide⟩
      · split at h
        · rename_i h1; cases h; rw [h1.1]; exact ⟨rfl, by decide⟩
        · cases h
/-- The words of the first k fields. -/
def vwTo (f : List Int) (xs : List Val) : Nat → Option (List Nat)
  | 0 => some []
  | k + 1 => match vwTo f xs k with
    | none => none
    | some ws => match vw (f.getD k 0) (xs.getD k zeroV) with
      | none => none
      | some us => some (ws ++ us)
theorem vwTo_none {f : List Int} {xs : List Val} {k : Nat} (h : vwTo f xs k = none) : ∀ j, k ≤ j → vwTo f xs j = none := by
  intro j hj
  induction j with
  | zero => obtain rfl : k = 0 := by omega
            exact h
  | succ j ih =>
    by_cases e : k = j + 1
    · subst e; exact h
    · unfold vwTo
      rw [ih (by omega)]
theorem vwTo_succ {f : List Int} {xs : List Val} {k : Nat} {ws us : List Nat} (h : vwTo f xs k = some ws) (hu : vw (f.getD k 0) (xs.getD k zeroV) = some us) : vwTo f xs (k + 1) = some (ws ++ us) := by
  unfold vwTo
  rw [h, hu]
theorem vwTo_fail {f : List Int} {xs : List Val} {k : Nat} {ws : List Nat} (h : vwTo f xs k = some ws) (hu : vw (f.getD k 0) (xs.getD k zeroV) = none) : ∀ j, k < j → vwTo f xs j = none := by
  refine fun j hj => vwTo_none (k := k + 1) ?_ j hj
  unfold vwTo
  rw [h, hu]
theorem vwTo_inv {f : List Int} {xs : List Val} {k : Nat} {ws : List Nat} (h : vwTo f xs (k + 1) = some ws) : ∃ us vs, vwTo f xs k = some us ∧ vw (f.getD k 0) (xs.getD k zeroV) = some vs ∧ ws = us ++ vs := by
  unfold vwTo at h
  split at h
  · cases h
  · rename_i us e1
    split at h
    · cases h
    · rename_i vs e2
      cases h
      exact ⟨us, vs, e1, e2, rfl⟩
theorem vwTo_pre {f : List Int} {xs : List Val} {n : Nat} {ws : List Nat} (h : vwTo f xs n = some ws) : ∀ k, k ≤ n → ∃ us, vwTo f xs k = some us := by
  intro k hk
  cases e : vwTo f xs k with
  | some us => exact ⟨us, rfl⟩
  | none => rw [vwTo_none e n hk] at h; cases h
theorem vwTo_len {f : List Int} {xs : List Val} {k : Nat} (hk : k ≤ f.length) {ws : List Nat} (h : vwTo f xs k = some ws) : ws.length = sumW (f.take k) := by
  induction k generalizing ws with
  | zero => cases h; simp [sumW]
  | succ k ih =>
    obtain ⟨us, vs, h1, h2, rfl⟩ := vwTo_inv h
    rw [List.length_append, ih (by omega) h1, (vw_len h2).1, sumW_snoc f k (by omega)]
theorem vwTo_lt {f : List Int} {xs : List Val} (hx : ∀ x ∈ xs, x.ok) {k : Nat} {ws : List Nat} (h : vwTo f xs k = some ws) : ∀ y ∈ ws, y < 2 ^ 64 := by
  induction k generalizing ws with
  | zero => cases h; simp
  | succ k ih =>
    obtain ⟨us, vs, h1, h2, rfl⟩ := vwTo_inv h
    have hok : (xs.getD k zeroV).ok := by
      by_cases hk : k < xs.length
      · have : xs.getD k zeroV = xs[k] := by simp [List.getD, hk]
        rw [this]
        exact hx _ (List.getElem_mem hk)
      · have : xs.getD k zeroV = zeroV := by simp [List.getD, hk]
        rw [this]
        exact zeroV_ok
    intro y hy
    rcases List.mem_append.1 hy with h3 | h3
    · exact ih h1 y h3
    · exact vw_lt hok h2 y h3

/-- The type of a number, if it may be. -/
def ofK (ks : List (List Int)) (k : Int) : Option (List Int) :=
  if 0 ≤ k ∧ k < ks.length ∧ k < 16 ∧ MayK (ks.getD k.toNat []) = true then some (ks.getD k.toNat []) else none
theorem ofK_some {ks : List (List Int)} {k : Int} {f : List Int} (h : ofK ks k = some f) : 0 ≤ k ∧ k < ks.length ∧ k < 16 ∧ MayK f = true ∧ f = ks.getD k.toNat [] := by
  unfold ofK at h
  split at h
  · rename_i h1
    cases h
    exact ⟨h1.1, h1.2.1, h1.2.2.1, h1.2.2.2, rfl⟩
  · cases h

/-- An object as words: the words, or why not. -/
def encO (ks : List (List Int)) (k : Int) (xs : List Val) (ep : Nat) : List Nat × Int :=
  match ofK ks k with
  | none => ([], 3)
  | some f => if xs.length ≠ f.length then ([], 4) else
    match vwTo f xs f.length with
    | none => ([], 3)
    | some ws => (makeN k.toNat (kW f) ep :: ws, 0)
/-- A field: where, what, why not. -/
def fldO (ks : List (List Int)) (k i : Int) (x : Val) : Int × List Nat × Int :=
  match ofK ks k with
  | none => (0, [], 3)
  | some f => if i < 0 ∨ (f.length : Int) ≤ i then (0, [], 4) else
    match vw (f.getD i.toNat 0) x with
    | none => (0, [], 3)
    | some ws => (offK f i, ws, 0)

/-- A slice of values. -/
def ValsR (w : World) (c : Value) (xs : List Val) : Prop := RowsIn w c 5 xs.length (fun i j => (xs.getD i zeroV).cell j)
theorem ValsR.upd {w w' : World} {c : Value} {xs : List Val} (h : ValsR w c xs) (u : Below w.heap.size w w') : ValsR w' c xs := RowsIn.upd h u
def ValsIn (w : World) (c : Value) (xs : List Val) : Prop := ValsR w c xs ∧ ∀ x ∈ xs, x.ok

theorem wf_i64 {n : Int} (h : (Lit.int .i64 n).wf = true) : I64 n := by
  simp only [Lit.wf, Bool.and_eq_true, decide_eq_true_eq] at h
  obtain ⟨h1, h2⟩ := h
  rw [show IntKind.i64.min = -9223372036854775808 from by decide] at h1
  rw [show IntKind.i64.max = 9223372036854775807 from by decide] at h2
  exact ⟨h1, h2⟩
theorem wf_u64 {n : Int} (h : (Lit.int .u64 n).wf = true) : ∃ x : Nat, n = x ∧ x < 2 ^ 64 := by
  simp only [Lit.wf, Bool.and_eq_true, decide_eq_true_eq] at h
  obtain ⟨h1, h2⟩ := h
  rw [show IntKind.u64.min = 0 from by decide] at h1
  rw [show IntKind.u64.max = 18446744073709551615 from by decide] at h2
  exact ⟨n.toNat, by omega, by omega⟩

section
variable {H : Type} {enc : TypeId × Value → H} {P : Program} {spare : Nat → Bool} {held : Bool} {W : World} {ts : List TypeId} {ds : List (DataW H)} {t e : TypeId} {v : Value} {d : DataW H} {ps : List MemPlace}
/-- Cells that read as a value. -/
theorem val_of_cells {fs : Array Field} {m : Nat} {X : Nat → Value} {y : DataW H × List MemPlace} (f0 f1 f2 f3 f4 : Field)
    (he : P.underlying e = some (.struct fs)) (hone : oneCellFields P fs = true) (hsz2 : fs.size ≤ 5)
    (h0 : fs[0]? = some f0) (h1 : fs[1]? = some f1) (h2 : fs[2]? = some f2) (h3 : fs[3]? = some f3) (h4 : fs[4]? = some f4)
    (i0 : P.underlying f0.type = some (.int .i64)) (i1 : P.underlying f1.type = some (.int .i64)) (i2 : P.underlying f2.type = some (.int .u64)) (i3 : P.underlying f3.type = some (.int .u64)) (i4 : P.underlying f4.type = some (.int .i64))
    (h : DataW.trod enc P W 0 spare held m e ((List.range 5).map X) = some y) : ∃ x : Val, x.ok ∧ ∀ j, j < 5 → X j = x.cell j := by
  obtain ⟨m', hf⟩ := fields_of_trod he hone hsz2 h
  obtain ⟨z0, hz0⟩ := hf 0 f0 h0
  obtain ⟨z1, hz1⟩ := hf 1 f1 h1
  obtain ⟨z2, hz2⟩ := hf 2 f2 h2
  obtain ⟨z3, hz3⟩ := hf 3 f3 h3
  obtain ⟨z4, hz4⟩ := hf 4 f4 h4
  obtain ⟨d0, e0, w0⟩ := int_of_trod i0 hz0
  obtain ⟨d1, e1, w1⟩ := int_of_trod i1 hz1
  obtain ⟨d2, e2, w2⟩ := int_of_trod i2 hz2
  obtain ⟨d3, e3, w3⟩ := int_of_trod i3 hz3
  obtain ⟨d4, e4, w4⟩ := int_of_trod i4 hz4
  obtain ⟨n2, rfl, l2⟩ := wf_u64 w2
  obtain ⟨n3, rfl, l3⟩ := wf_u64 w3
  refine ⟨⟨d0, d1, n2, n3, d4⟩, ⟨wf_i64 w0, wf_i64 w1, l2, l3, wf_i64 w4⟩, fun j hj => ?_⟩
  match j, hj with
  | 0, _ => exact e0
  | 1, _ => exact e1
  | 2, _ => exact e2
  | 3, _ => exact e3
  | 4, _ => exact e4

theorem open_valsAt {fs : Array Field} (f0 f1 f2 f3 f4 : Field)
    (ht : P.underlying t = some (.slice e)) (he : P.underlying e = some (.struct fs)) (hone : oneCellFields P fs = true) (hsz2 : fs.size ≤ 5) (hC : P.cellsOf e = 5) (hB : P.bytesOf e = 40)
    (h0 : fs[0]? = some f0) (h1 : fs[1]? = some f1) (h2 : fs[2]? = some f2) (h3 : fs[3]? = some f3) (h4 : fs[4]? = some f4)
    (i0 : P.underlying f0.type = some (.int .i64)) (i1 : P.underlying f1.type = some (.int .i64)) (i2 : P.underlying f2.type = some (.int .u64)) (i3 : P.underlying f3.type = some (.int .u64)) (i4 : P.underlying f4.type = some (.int .i64))
    {r : Reach} {b0 : Nat} (hval : Value.okWide P W r b0 t v) (h : DataW.Trod enc P W 0 spare held t v d ps) (hsz : (DataW.weightsEach P ts ds).all (· ≤ reachBytes) = true) (j : Nat) (htj : ts[j]? = some t) (hdj : ds[j]? = some d) :
    ∃ xs, ValsIn W v xs := by
  obtain ⟨n, X, hR, hn, m, hi⟩ := open_rowsAt ht hC (by decide) hB hval h hsz j htj hdj
  have each : ∀ i, i < n → ∃ x : Val, x.ok ∧ ∀ j, j < 5 → X i j = x.cell j := by
    intro i hil
    obtain ⟨y, hy⟩ := hi i hil
    exact val_of_cells f0 f1 f2 f3 f4 he hone hsz2 h0 h1 h2 h3 h4 i0 i1 i2 i3 i4 hy
  obtain ⟨Z, hZ⟩ := choose_lt each
  refine ⟨(List.range n).map Z, ?_, ?_⟩
  · unfold ValsR
    rw [List.length_map, List.length_range]
    obtain ⟨a, cap, g1, g2, g3, g4⟩ := hR
    refine ⟨a, cap, g1, g2, g3, fun hn => ?_⟩
    obtain ⟨b, off, k1, k2, k3⟩ := g4 hn
    refine ⟨b, off, k1, k2, fun i hi j hj => ?_⟩
    rw [k3 i hi j hj, (hZ i hi).2 j hj]
    simp [List.getD, hi]
  · intro x hx
    simp only [List.mem_map, List.mem_range] at hx
    obtain ⟨i, hi, rfl⟩ := hx
    exact (hZ i hi).1

theorem open_valAt {fs : Array Field} (f0 f1 f2 f3 f4 : Field)
    (he : P.underlying t = some (.struct fs)) (hone : oneCellFields P fs = true) (hsz2 : fs.size ≤ 5) (hC : P.cellsOf t = 5)
    (h0 : fs[0]? = some f0) (h1 : fs[1]? = some f1) (h2 : fs[2]? = some f2) (h3 : fs[3]? = some f3) (h4 : fs[4]? = some f4)
    (i0 : P.underlying f0.type = some (.int .i64)) (i1 : P.underlying f1.type = some (.int .i64)) (i2 : P.underlying f2.type = some (.int .u64)) (i3 : P.underlying f3.type = some (.int .u64)) (i4 : P.underlying f4.type = some (.int .i64))
    {r : Reach} {b0 : Nat} (hval : Value.okWide P W r b0 t v) (h : DataW.Trod enc P W 0 spare held t v d ps) (hsz : (DataW.weightsEach P ts ds).all (· ≤ reachBytes) = true) (j : Nat) (htj : ts[j]? = some t) (hdj : ds[j]? = some d) :
    ∃ x : Val, v = x.v ∧ x.ok := by
  obtain ⟨cs, rfl, hsz⟩ := okWide_struct he hval
  obtain ⟨fuel, hf⟩ := h
  obtain ⟨l⟩ := cs
  have hl : l.length = 5 := by simpa [hC] using hsz
  have e : (Value.agg ⟨l⟩).cells.toList = (List.range 5).map (fun j => l.getD j undef) := by
    apply List.ext_getElem?
    intro j
    by_cases hj : j < 5
    · simp [Value.cells, hj, hl]
    · simp [Value.cells, hj, hl]
  obtain ⟨x, hx, hc⟩ := val_of_cells f0 f1 f2 f3 f4 he hone hsz2 h0 h1 h2 h3 h4 i0 i1 i2 i3 i4 (X := fun j => l.getD j undef) (by rw [← e]; exact hf)
  refine ⟨x, ?_, hx⟩
  unfold Val.v
  have g : l = [.int .i64 x.k, .int .i64 x.n, .int .u64 (x.re : Int), .int .u64 (x.im : Int), .int .i64 x.r] := by
    apply List.ext_getElem (by simpa using hl)
    intro j h1 h2
    have := hc j (by omega)
    simp only [Val.cell, List.getD_eq_getElem?_getD] at this
    rw [List.getElem?_eq_getElem h1, List.getElem?_eq_getElem h2] at this
    simpa using this
  rw [g]

/-- A parameter that is a slice of types. -/
theorem open_kindsAt {fs : Array Field} {q k : TypeId} (f0 : Field)
    (ht : P.underlying t = some (.slice e)) (he : P.underlying e = some (.struct fs)) (hone : oneCellFields P fs = true) (hsz2 : fs.size ≤ 1) (hC : P.cellsOf e = 1) (hB : P.bytesOf e = 24)
    (h0 : fs[0]? = some f0) (i0 : P.underlying f0.type = some (.slice q)) (i1 : P.underlying q = some (.int .i64)) (hQ : P.cellsOf q = 1)
    {r : Reach} {b0 : Nat} (hval : Value.okWide P W r b0 t v) (h : DataW.Trod enc P W 0 spare held t v d ps) (hsz : (DataW.weightsEach P ts ds).all (· ≤ reachBytes) = true) (j : Nat) (htj : ts[j]? = some t) (hdj : ds[j]? = some d) :
    ∃ tt, MatIn W v tt ∧ tt.length * 24 ≤ 140737488351232 := by
  obtain ⟨n, X, hR, hn, m, hi⟩ := open_rowsAt ht hC (by decide) hB hval h hsz j htj hdj
  have each : ∀ i, i < n → ∃ xs : List Int, IntsR W (X i 0) .i64 xs := by
    intro i hil
    obtain ⟨y, hy⟩ := hi i hil
    obtain ⟨m', hf⟩ := fields_of_trod he hone hsz2 hy
    obtain ⟨z0, hz0⟩ := hf 0 f0 h0
    obtain ⟨xs, h1, -⟩ := ints_of_trod i0 i1 hQ hz0
    exact ⟨xs, h1.1⟩
  obtain ⟨Z, hZ⟩ := choose_lt each
  refine ⟨(List.range n).map Z, ⟨fun i => X i 0, ?_, fun i hil => ?_⟩, by simpa using hn⟩
  · rw [List.length_map, List.length_range]
    obtain ⟨a, cap, g1, g2, g3, g4⟩ := hR
    refine ⟨a, cap, g1, g2, g3, fun hn => ?_⟩
    obtain ⟨b, off, k1, k2, k3⟩ := g4 hn
    refine ⟨b, off, k1, k2, fun i hi j hj => ?_⟩
    obtain rfl : j = 0 := by omega
    exact k3 i hi 0 hj
  · have hil' : i < n := by simpa using hil
    have := hZ i hil'
    simpa [List.getD, hil'] using this
end
end Go.Proofs.Ytcnbcidbbeadcaa
