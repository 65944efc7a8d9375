/- A parameter of type [4]int. -/
import Derived.Test.YthaicpjgmplgcaaOpen
import Derived.WideKeyArr2
namespace Go.Proofs.Ythaicpjgmplgcaa
open Go.RowKit Go.ChangeShapes Go.WideShapes
set_option linter.unusedVariables false

def Arr4 (W : World) (v : Value) (x : Int × Int × Int × Int) : Prop := v = .agg #[.int .i64 x.1, .int .i64 x.2.1, .int .i64 x.2.2.1, .int .i64 x.2.2.2]
theorem open_arr4At {H : Type} {enc : TypeId × Value → H} {P : Program} {spare : Nat → Bool} {held : Bool} {W : World} {ts : List TypeId} {ds : List (DataW H)} {t e : TypeId} {v : Value} {d : DataW H} {ps : List MemPlace}
    (hu : P.underlying t = some (.array 4 e)) (he : P.underlying e = some (.int .i64)) (one : P.cellsOf e = 1) (size : P.cellsOf t = 4)
    {r : Reach} {b0 : Nat} (hval : Value.okWide P W r b0 t v) (h : DataW.Trod enc P W 0 spare held t v d ps) (hsz : (DataW.weightsEach P ts ds).all (· ≤ reachBytes) = true) (j : Nat) (htj : ts[j]? = some t) (hdj : ds[j]? = some d) :
    ∃ x, Arr4 W v x := by
  have hv : ∃ xs : Array Value, v = .agg xs ∧ xs.size = 4 := by
    simp only [Value.okWide, hu] at hval
    obtain ⟨cs, h1, h2, _⟩ := hval
    exact ⟨cs, h1, by rw [h2, size]⟩
  obtain ⟨xs, rfl, hn⟩ := hv
  obtain ⟨fuel, hf⟩ := h
  cases fuel with
  | zero => simp [DataW.trod] at hf
  | succ m =>
    rw [DataW.trod_step] at hf
    unfold DataW.trodStep at hf
    simp only [hu, Value.cells] at hf
    rw [if_pos (by rw [size]; simpa using hn)] at hf
    simp only [Option.map_eq_some_iff] at hf
    obtain ⟨ys, hy, e1⟩ := hf
    rw [one] at hy
    obtain ⟨l⟩ := xs
    match l, hn with
    | [x0, x1, x2, x3], _ =>
      rw [show List.range 4 = [0, 1, 2, 3] from rfl] at hy
      simp only [List.mapM_cons, bind, Option.bind_eq_some_iff, pure, Nat.mul_one] at hy
      obtain ⟨y0, h0, ys1, ⟨y1, h1, ys2, ⟨y2, h2, ys3, ⟨y3, h3, -⟩, -⟩, -⟩, -⟩ := hy
      obtain ⟨a0, k0, -, -⟩ := DataW.trod_int he h0
      obtain ⟨a1, k1, -, -⟩ := DataW.trod_int he h1
      obtain ⟨a2, k2, -, -⟩ := DataW.trod_int he h2
      obtain ⟨a3, k3, -, -⟩ := DataW.trod_int he h3
      simp at k0 k1 k2 k3
      exact ⟨(a0, a1, a2, a3), by unfold Arr4; simp [k0, k1, k2, k3]⟩
end Go.Proofs.Ythaicpjgmplgcaa
