/- A parameter that is calls to a heap of volatile objects. -/
import Derived.Test.YtcnbcidbbeadcaaVhPl
namespace Go.Proofs.Ytcnbcidbbeadcaa
open Go.RowKit Go.Deep
set_option linter.unusedVariables false

structure Cal where
  d : Int
  o : Int
  f : Int
  v : Val
instance : Inhabited Cal := ⟨⟨0, 0, 0, zeroV⟩⟩
def noCal : Cal := ⟨0, 0, 0, zeroV⟩
/-- A slice of calls. -/
def CalsR (w : World) (c : Value) (l : List Cal) : Prop := ∃ X : Nat → Nat → Value, RowsIn w c 9 l.length X ∧ ∀ i, i < l.length → X i 0 = .int .i64 (l.getD i noCal).d ∧ X i 1 = .int .i64 (l.getD i noCal).o ∧ X i 2 = .int .i64 (l.getD i noCal).f ∧ ∀ j, j < 5 → X i (3 + j) = (l.getD i noCal).v.cell j
def CalsIn (w : World) (c : Value) (l : List Cal) : Prop := CalsR w c l ∧ ∀ x ∈ l, x.v.ok
theorem CalsR.upd {w w' : World} {c : Value} {l : List Cal} (h : CalsR w c l) (u : Below w.heap.size w w') : CalsR w' c l := by
  obtain ⟨X, h1, h2⟩ := h
  exact ⟨X, RowsIn.upd h1 u, h2⟩
section
variable {H : Type} {enc : TypeId × Value → H} {spare : Nat → Bool} {held : Bool} {W : World} {ts : List TypeId} {ds : List (DataW H)} {v : Value} {d : DataW H} {ps : List MemPlace}
set_option maxRecDepth 100000 in
theorem cal_of_cells {X : Nat → Value} {m : Nat} {y : DataW H × List MemPlace} (hy : DataW.trod enc Try.prog W 0 spare held m 54 ((List.range 9).map X) = some y) :
    ∃ c : Cal, c.v.ok ∧ X 0 = .int .i64 c.d ∧ X 1 = .int .i64 c.o ∧ X 2 = .int .i64 c.f ∧ ∀ j, j < 5 → X (3 + j) = c.v.cell j := by
  obtain ⟨ys, n', _, _, _, hyl, hf⟩ := DataW.trod_struct Try.underlying54 hy
  have c1 : Try.prog.cellsOf 3 = 1 := by kernel_rfl
  have c5 : Try.prog.cellsOf 26 = 5 := by kernel_rfl
  have hyl : ys.length = 5 := hyl
  have g0 : DataW.trod enc Try.prog W 0 spare held n' 3 ((((List.range 9).map X).drop 0).take (Try.prog.cellsOf 3)) = ys[0]? := hf 0 _ rfl
  have g1 : DataW.trod enc Try.prog W 0 spare held n' 3 ((((List.range 9).map X).drop 1).take (Try.prog.cellsOf 3)) = ys[1]? := hf 1 _ rfl
  have g2 : DataW.trod enc Try.prog W 0 spare held n' 3 ((((List.range 9).map X).drop 2).take (Try.prog.cellsOf 3)) = ys[2]? := hf 2 _ rfl
  have g3 : DataW.trod enc Try.prog W 0 spare held n' 26 ((((List.range 9).map X).drop 3).take (Try.prog.cellsOf 26)) = ys[3]? := hf 3 _ rfl
  rw [List.getElem?_eq_getElem (by omega), c1] at g0 g1 g2
  rw [List.getElem?_eq_getElem (by omega), c5] at g3
  change DataW.trod enc Try.prog W 0 spare held n' 3 [X 0] = _ at g0
  change DataW.trod enc Try.prog W 0 spare held n' 3 [X 1] = _ at g1
  change DataW.trod enc Try.prog W 0 spare held n' 3 [X 2] = _ at g2
  change DataW.trod enc Try.prog W 0 spare held n' 26 ((List.range 5).map (fun j => X (3 + j))) = _ at g3
  obtain ⟨d0, e0, w0⟩ := int_of_trod Try.underlying3 g0
  obtain ⟨d1, e1, w1⟩ := int_of_trod Try.underlying3 g1
  obtain ⟨d2, e2, w2⟩ := int_of_trod Try.underlying3 g2
  obtain ⟨x, hx, hc⟩ := val_of_cells _ _ _ _ _ Try.underlying26 (by kernel_rfl) (by decide) rfl rfl rfl rfl rfl Try.underlying3 Try.underlying2 Try.underlying24 Try.underlying24 Try.underlying3 g3
  exact ⟨⟨d0, d1, d2, x⟩, hx, e0, e1, e2, hc⟩
set_option maxRecDepth 100000 in
theorem open_cals {r : Reach} {b0 : Nat} (hval : Value.okWide Try.prog W r b0 51 v) (h : DataW.Trod enc Try.prog W 0 spare held 51 v d ps) (hsz : (DataW.weightsEach Try.prog ts ds).all (· ≤ reachBytes) = true) (j : Nat) (htj : ts[j]? = some 51) (hdj : ds[j]? = some d) :
    ∃ l, CalsIn W v l := by
  obtain ⟨n, X, hR, hn, m, hi⟩ := open_rowsAt (bytes := 88) (size := 9) Try.underlying51 (by kernel_rfl) (by decide) (by kernel_rfl) hval h hsz j htj hdj
  have each : ∀ i, i < n → ∃ c : Cal, c.v.ok ∧ X i 0 = .int .i64 c.d ∧ X i 1 = .int .i64 c.o ∧ X i 2 = .int .i64 c.f ∧ ∀ j, j < 5 → X i (3 + j) = c.v.cell j := by
    intro i hil
    obtain ⟨y, hy⟩ := hi i hil
    exact cal_of_cells hy
  obtain ⟨Z, hZ⟩ := choose_lt each
  have hg : ∀ i, i < n → ((List.range n).map Z).getD i noCal = Z i := fun i hi => by simp [List.getD, hi]
  refine ⟨(List.range n).map Z, ⟨X, ?_, ?_⟩, ?_⟩
  · rw [List.length_map, List.length_range]
    exact hR
  · intro i hi
    rw [List.length_map, List.length_range] at hi
    rw [hg i hi]
    exact (hZ i hi).2
  · intro x hx
    simp only [List.mem_map, List.mem_range] at hx
    obtain ⟨i, hi, rfl⟩ := hx
    exact (hZ i hi).1
end
end Go.Proofs.Ytcnbcidbbeadcaa
