/- Laws of chapter 5: the common part. -/
import Derived.Test.YthaicpjgmplgcaaMapOf
namespace Go.Proofs.Ythaicpjgmplgcaa
open Go.RowKit
set_option linter.unusedVariables false

section
variable {P : Program} {f : FuncId} {a : Array Value} {W w' : World} {v : Value}
theorem from_same (h : Calls P f a w' (Same w' v)) (u : Upd (fun _ => False) W w') : Calls P f a w' (RetU W v) :=
  h.mono fun e w2 ⟨h1, h2⟩ => ⟨h1, h2 ▸ u⟩
theorem from_ret (h : Calls P f a w' (RetU w' v)) (u : Upd (fun _ => False) W w') : Calls P f a w' (RetU W v) :=
  h.mono fun e w2 ⟨h1, h2⟩ => ⟨h1, u.trans h2⟩
end

theorem ownsRow_words {w : World} {B : Nat} {v : Value} {ws : List Nat} (h : w.ownsRow B 82 1 v ws.length (words ws)) (hlt : ∀ x ∈ ws, x < 2 ^ 64) : WordsR w v ws := by
  refine ⟨?_, hlt⟩
  have e : words ws = (ws.map fun (x : Nat) => (x : Int)).map (Value.int .u64) := by simp [words]
  have h2 : w.ownsRow B 82 1 v (ws.map fun (x : Nat) => (x : Int)).length ((ws.map fun (x : Nat) => (x : Int)).map (Value.int .u64)) := by
    rw [← e, List.length_map]; exact h
  have h3 := ownsRow_intsR h2
  unfold IntsR at h3
  rw [List.length_map] at h3
  obtain ⟨a, cap, h4, h5, h6, h7⟩ := h3
  refine ⟨a, cap, h4, h5, h6, fun hn => ?_⟩
  obtain ⟨b, off, g1, g2, g3⟩ := h7 hn
  refine ⟨b, off, g1, g2, fun i hi j hj => ?_⟩
  rw [g3 i hi j hj]
  simp [List.getD, hi]

theorem ClonePost.words {w w' : World} {n : Nat} {f : Nat → Bool} {v : Value} {g c : Nat} (h : w'.ownsRow w.heap.size 82 1 (.slice (some ⟨g, 0, none⟩) ((n + 63) / 64) c) ((n + 63) / 64) (words (packN n f))) :
    WordsR w' (.slice (some ⟨g, 0, none⟩) ((n + 63) / 64) c) (packN n f) := by
  refine ownsRow_words (B := w.heap.size) ?_ (packN_lt n f)
  rw [packN_length]
  exact h


theorem ite_min (x y : Int) : (if y < x then y else x) = min x y := by rw [Int.min_def]; split <;> split <;> omega
theorem ite_max (x y : Int) : (if x < y then y else x) = max x y := by rw [Int.max_def]; split <;> split <;> omega

theorem intsIn_words {w : World} {v : Value} {xs : List Int} (h : IntsIn w v .u64 xs) : ∃ ws, WordsR w v ws ∧ ws.length = xs.length := by
  obtain ⟨h1, h2⟩ := h
  have hb : ∀ x ∈ xs, 0 ≤ x ∧ x < 18446744073709551616 := by
    intro x hx
    have := bounds_u64 (h2 x hx)
    omega
  refine ⟨xs.map Int.toNat, ⟨?_, ?_⟩, by simp⟩
  · unfold IntsR at h1
    rw [List.length_map]
    obtain ⟨a, cap, g1, g2, g3, g4⟩ := h1
    refine ⟨a, cap, g1, g2, g3, fun hn => ?_⟩
    obtain ⟨b, off, k1, k2, k3⟩ := g4 hn
    refine ⟨b, off, k1, k2, fun i hi j hj => ?_⟩
    rw [k3 i hi j hj]
    have := hb xs[i] (List.getElem_mem _)
    simp [List.getD, hi]
    omega
  · intro x hx
    obtain ⟨y, hy, rfl⟩ := List.mem_map.1 hx
    have := hb y hy
    omega

/-- A slice of pairs of an int and a bool. -/
def IntBoolIn (W : World) (v : Value) (x : Nat × (Nat → Nat → Value)) : Prop :=
  RowsIn W v 2 x.1 x.2 ∧ x.1 * 16 ≤ 140737488351232 ∧ ∀ i, i < x.1 → ∃ (d : Int) (b : Bool), x.2 i 0 = .int .i64 d ∧ x.2 i 1 = .bool b

theorem open_intBoolAt {H : Type} {enc : TypeId × Value → H} {P : Program} {spare : Nat → Bool} {held : Bool} {W : World} {ts : List TypeId} {ds : List (DataW H)} {t e : TypeId} {fs : Array Field} {v : Value} {d : DataW H} {ps : List MemPlace} (f0 f1 : Field)
    (ht : P.underlying t = some (.slice e)) (he : P.underlying e = some (.struct fs)) (hone : Go.Deep.oneCellFields P fs = true) (hsz2 : fs.size ≤ 2) (hC : P.cellsOf e = 2) (hB : P.bytesOf e = 16)
    (h0 : fs[0]? = some f0) (h1 : fs[1]? = some f1) (i0 : P.underlying f0.type = some (.int .i64)) (i1 : P.underlying f1.type = some .bool)
    {r : Reach} {b0 : Nat} (hval : Value.okWide P W r b0 t v) (h : DataW.Trod enc P W 0 spare held t v d ps) (hsz : (DataW.weightsEach P ts ds).all (· ≤ reachBytes) = true) (j : Nat) (htj : ts[j]? = some t) (hdj : ds[j]? = some d) :
    ∃ x, IntBoolIn W v x := by
  obtain ⟨n, X, hR, hn, m, hi⟩ := open_rowsAt ht hC (by decide) hB hval h hsz j htj hdj
  refine ⟨(n, X), hR, hn, fun i hil => ?_⟩
  obtain ⟨y, hy⟩ := hi i hil
  obtain ⟨m', hf⟩ := fields_of_trod he hone hsz2 hy
  obtain ⟨z0, hz0⟩ := hf 0 f0 h0
  obtain ⟨z1, hz1⟩ := hf 1 f1 h1
  obtain ⟨d, hd, _⟩ := int_of_trod i0 hz0
  obtain ⟨b, hb⟩ := bool_of_trod i1 hz1
  exact ⟨d, b, hd, hb⟩

def OfAt (w : World) (n : Nat) (ws : List Nat) (e : Ending) (w' : World) : Prop :=
  ∃ b g, e = .returned (.pointer (some ⟨b, 0, none⟩)) ∧ MapF w' b g n (bitW ws) ∧ w.heap.size ≤ b ∧ w.heap.size ≤ g ∧ Upd (fun _ => False) w w'
theorem map_OfAt (kI : Int) (k : Nat) (v : Value) (ws : List Nat) (w : World) (h : WordsR w v ws) (hk : (max 0 (min kI 1048576)).toNat = k) : Calls Try.prog 19 #[.int .i64 kI, v] w (OfAt w k ws) := by
  have := map_OfF kI v ws w h
  unfold OfPost at this
  rw [hk] at this
  exact this
end Go.Proofs.Ythaicpjgmplgcaa
