/- A heap of volatile objects: Make. -/
import Derived.Test.YtcnbcidbbeadcaaZeroV
import Derived.Deep.Onto
namespace Go.Proofs.Ytcnbcidbbeadcaa
open Go.RowKit Go.Deep
set_option linter.unusedVariables false

def zeroVals (f : List Int) : Nat → List Val
  | 0 => []
  | k + 1 => zeroVals f k ++ [⟨kindK (f.getD k 0), 0, 0, 0, 0⟩]
theorem zeroVals_len (f : List Int) (k : Nat) : (zeroVals f k).length = k := by
  induction k with
  | zero => rfl
  | succ k ih => simp [zeroVals, ih]
theorem zeroTo_cells (f : List Int) (k : Nat) : zeroTo f k = cellsV (zeroVals f k) := by
  induction k with
  | zero => rfl
  | succ k ih =>
    rw [zeroTo, zeroVals, ← cellsV_append, ih]
    rfl
theorem zeroVals_ok (f : List Int) (k : Nat) : ∀ x ∈ zeroVals f k, x.ok := by
  induction k with
  | zero => simp [zeroVals]
  | succ k ih =>
    intro x hx
    simp only [zeroVals, List.mem_append, List.mem_cons, List.not_mem_nil, or_false] at hx
    rcases hx with hx | rfl
    · exact ih x hx
    · refine ⟨?_, zeroV_ok.n, zeroV_ok.re, zeroV_ok.im, zeroV_ok.r⟩
      show I64 (kindK _)
      unfold kindK
      split
      · rename_i h
        unfold I64
        omega
      · exact zeroV_ok.k
/-- The first place at or behind i that is not used. -/
def freeFrom (o : Nat → VOb) (i : Nat) : Nat → Option Nat
  | 0 => none
  | n + 1 => if (o i).used = true then freeFrom o (i + 1) n else some i
def freeV (o : Nat → VOb) : Option Nat := freeFrom o 0 64
def makeV (ks : List (List Int)) (o : Nat → VOb) (k : Int) : (Nat → VOb) × Int × Int := match ofK ks k with
  | none => (o, 0, 3)
  | some f => match freeV o with
    | none => (o, 0, 5)
    | some i => (setO o i ⟨true, k, zeroVals f f.length⟩, -1 - (i : Int), 0)
theorem freeFrom_lt {o : Nat → VOb} {i n j : Nat} (h : freeFrom o i n = some j) : j < i + n := by
  induction n generalizing i with
  | zero => cases h
  | succ n ih =>
    unfold freeFrom at h
    split at h
    · have := ih h
      omega
    · cases h
      omega
/-- Two numbers; the heap is another. -/
def RetMk (w : World) (b base : Nat) (ks : List (List Int)) (kv : Value) (r : (Nat → VOb) × Int × Int) (e : Ending) (w' : World) : Prop :=
  e = .returned (.tuple #[.int .i64 r.2.1, .int .i64 r.2.2]) ∧ (∃ F, IsVh w' b base ks r.1 kv F) ∧ Upd (fun j => j = b) w w'
theorem mk_same {w w' : World} {b base : Nat} {ks : List (List Int)} {o : Nat → VOb} {kv : Value} {F : Nat → Value} (h : IsVh w b base ks o kv F) (n : Int) (u : Upd (fun _ => False) w w') :
    RetMk w b base ks kv (o, 0, n) (.returned (.tuple #[.int .i64 0, .int .i64 n])) w' := ⟨rfl, ⟨F, h.still u⟩, u.mono (fun _ _ e => e.elim)⟩
/-- A new object is put. -/
theorem mk_put {w w2 w3 : World} {b base : Nat} {ks : List (List Int)} {o : Nat → VOb} {kv : Value} {F : Nat → Value} (h : IsVh w b base ks o kv F) (u2 : Upd (fun _ => False) w w2) (u3 : Upd (fun _ => False) w2 w3) {i : Nat} (hi : i < 64) (k : Int) {f : List Int} (hof : ofK ks k = some f) (h15 : f.length ≤ 15)
    {a : Option Addr} {c : Nat} (hr : w3.ownsRow w2.heap.size 26 5 (.slice a f.length c) f.length (zeroTo f f.length)) (y : Int) (hy : y = -1 - (i : Int)) :
    RetMk w b base ks kv (setO o i ⟨true, k, zeroVals f f.length⟩, -1 - (i : Int), 0) (.returned (.tuple #[.int .i64 y, .int .i64 0])) (((w3.setCell ⟨b, 1 + i * 3, none⟩ (.bool true)).setCell ⟨b, 1 + i * 3 + 1, none⟩ (.int .i64 k)).setCell ⟨b, 1 + i * 3 + 2, none⟩ (.slice a f.length c)) := by
  subst hy
  have h2 := h.still u2
  have h3 := h2.still u3
  have hb := ((h3.blk.set (1 + i * 3) (.bool true)).set (1 + i * 3 + 1) (.int .i64 k)).set (1 + i * 3 + 2) (.slice a f.length c)
  have e : (((vhCells kv o F).set (1 + i * 3) (.bool true)).set (1 + i * 3 + 1) (.int .i64 k)).set (1 + i * 3 + 2) (.slice a f.length c) = vhCells kv (setO o i ⟨true, k, zeroVals f f.length⟩) (setO F i (.slice a f.length c)) := vh_set kv o F i ⟨true, k, zeroVals f f.length⟩ (.slice a f.length c) hi
  rw [e] at hb
  have u4 := (((Upd.refl (fun j => j = b) w3).at (1 + i * 3) (.bool true)).at (1 + i * 3 + 1) (.int .i64 k)).at (1 + i * 3 + 2) (.slice a f.length c)
  have hzl := zeroVals_len f f.length
  have hbl := h2.blk.lt
  have hnew : ∀ g, (Value.slice a f.length c).ownBlock = some g → w2.heap.size ≤ g := by
    intro g e
    rcases hr.2 with ⟨hz, -⟩ | ⟨g', cap, cur, hv, hg, -⟩
    · rw [hz] at e
      cases e
    · rw [hv] at e
      have : g' = g := by simpa [Value.ownBlock] using e
      omega
  refine ⟨rfl, ⟨_, h3.put hi ⟨true, k, zeroVals f f.length⟩ (.slice a f.length c) hb u4 ?_ ?_ (fun h => by cases h) (zeroVals_ok f f.length) (by rw [hzl]; exact h15) (fun _ => ⟨(ofK_some hof).1, (ofK_some hof).2.1, by rw [hzl, (ofK_some hof).2.2.2.2]⟩)⟩, ((u2.trans u3).mono (fun _ _ e => e.elim)).trans u4⟩
  · show World.ownsRow _ _ _ _ _ (zeroVals f f.length).length _
    rw [hzl, ← zeroTo_cells]
    have hr2 := hr.mono h2.size
    refine ⟨hr2.1, ?_⟩
    rcases hr2.2 with hz | ⟨g, cap, cur, hv, hg, hh, r⟩
    · exact Or.inl hz
    · refine Or.inr ⟨g, cap, cur, hv, hg, ?_, r⟩
      have hgn := hnew g (by rw [hv]; rfl)
      rw [u4.block g (Array.getElem?_eq_some_iff.1 hh).1 (fun e => by omega)]
      exact hh
  · intro j hj hne g e1 e2
    have hg := hnew g e1
    obtain ⟨-, h5⟩ := h2.row j hj
    rcases h5 with ⟨hz, -⟩ | ⟨g', cap, cur, hv, -, hh, -⟩
    · rw [hz] at e2
      cases e2
    · rw [hv] at e2
      have : g' = g := by simpa [Value.ownBlock] using e2
      have := (Array.getElem?_eq_some_iff.1 hh).1
      omega
end Go.Proofs.Ytcnbcidbbeadcaa
