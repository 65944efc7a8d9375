/- Words as an object, plainly; parts of rows of words. -/
import Derived.Test.YtcnbcidbbeadcaaObjO
import Derived.Test.YtcnbcidbbeadcaaObjE
namespace Go.Proofs.Ytcnbcidbbeadcaa
open Go.RowKit Go.Deep
set_option linter.unusedVariables false

/-- The words of field j. -/
def fieldW (f : List Int) (ws : List Nat) (j : Nat) : List Nat := (ws.drop (1 + sumW (f.take j))).take (fw (f.getD j 0))
/-- The values of the first k fields. -/
def vofTo (f : List Int) (ws : List Nat) : Nat → Option (List Val)
  | 0 => some []
  | k + 1 => match vofTo f ws k with
    | none => none
    | some xs => match vof (f.getD k 0) (fieldW f ws k) with
      | none => none
      | some x => some (xs ++ [x])
theorem vofTo_none {f : List Int} {ws : List Nat} {k : Nat} (h : vofTo f ws k = none) : ∀ j, k ≤ j → vofTo f ws j = none := by
  intro j hj
  induction j with
  | zero => obtain rfl : k = 0 := by omega
            exact h
  | succ j ih =>
    by_cases e : k = j + 1
    · subst e; exact h
    · unfold vofTo
      rw [ih (by omega)]
theorem vofTo_succ {f : List Int} {ws : List Nat} {k : Nat} {xs : List Val} {x : Val} (h : vofTo f ws k = some xs) (hu : vof (f.getD k 0) (fieldW f ws k) = some x) : vofTo f ws (k + 1) = some (xs ++ [x]) := by
  unfold vofTo
  rw [h, hu]
theorem vofTo_fail {f : List Int} {ws : List Nat} {k : Nat} {xs : List Val} (h : vofTo f ws k = some xs) (hu : vof (f.getD k 0) (fieldW f ws k) = none) : ∀ j, k < j → vofTo f ws j = none := by
  refine fun j hj => vofTo_none (k := k + 1) ?_ j hj
  unfold vofTo
  rw [h, hu]
theorem vofTo_inv {f : List Int} {ws : List Nat} {k : Nat} {xs : List Val} (h : vofTo f ws (k + 1) = some xs) : ∃ ys x, vofTo f ws k = some ys ∧ vof (f.getD k 0) (fieldW f ws k) = some x ∧ xs = ys ++ [x] := by
  unfold vofTo at h
  split at h
  · cases h
  · rename_i us e1
    split at h
    · cases h
    · rename_i vs e2
      cases h
      exact ⟨us, vs, e1, e2, rfl⟩
theorem vofTo_len {f : List Int} {ws : List Nat} {k : Nat} {xs : List Val} (h : vofTo f ws k = some xs) : xs.length = k := by
  induction k generalizing xs with
  | zero => cases h; rfl
  | succ k ih =>
    obtain ⟨ys, x, h1, h2, rfl⟩ := vofTo_inv h
    simp [ih h1]
/-- Words as an object: kind, values, epoch, why not. -/
def decO (ks : List (List Int)) (ws : List Nat) : Int × List Val × Nat × Int :=
  match ws with
  | [] => (0, [], 0, 8)
  | h :: _ => if IsHead h then
      match ofK ks (getN h 0 4 : Nat) with
      | none => (0, [], 0, 8)
      | some f => if getN h 4 5 ≠ kW f ∨ ws.length < getN h 4 5 then (0, [], 0, 8) else
        match vofTo f ws f.length with
        | none => (0, [], 0, 8)
        | some xs => ((getN h 0 4 : Nat), xs, getN h 9 32, 0)
    else (0, [], 0, 8)
/-- The cells of values. -/
def Val.cells (x : Val) : List Value := [.int .i64 x.k, .int .i64 x.n, .int .u64 (x.re : Int), .int .u64 (x.im : Int), .int .i64 x.r]
def cellsV (xs : List Val) : List Value := xs.flatMap Val.cells
theorem cellsV_append (xs ys : List Val) : cellsV xs ++ cellsV ys = cellsV (xs ++ ys) := by
  unfold cellsV
  rw [List.flatMap_append]
theorem cellsV_get (xs : List Val) (i j : Nat) (hi : i < xs.length) (hj : j < 5) : (cellsV xs)[i * 5 + j]? = some ((xs.getD i zeroV).cell j) := by
  induction xs generalizing i with
  | nil => simp at hi
  | cons x xs ih =>
    have hc : cellsV (x :: xs) = x.cells ++ cellsV xs := rfl
    rw [hc]
    cases i with
    | zero =>
      rw [Nat.zero_mul, Nat.zero_add, List.getElem?_append_left (by simpa [Val.cells] using hj)]
      match j, hj with
      | 0, _ => rfl
      | 1, _ => rfl
      | 2, _ => rfl
      | 3, _ => rfl
      | 4, _ => rfl
    | succ i =>
      rw [List.getElem?_append_right (by simp [Val.cells]; omega), show (i + 1) * 5 + j - x.cells.length = i * 5 + j from by simp [Val.cells]; omega]
      have := ih i (by simpa using hi)
      simpa using this
theorem ownsRow_vals {w : World} {B : Nat} {v : Value} {xs : List Val} (h : w.ownsRow B 26 5 v xs.length (cellsV xs)) : ValsR w v xs := by
  rcases h.2 with ⟨rfl, h0⟩ | ⟨g, cap, cur, rfl, hg, hh, hn, hcap, hsz, htake⟩
  · refine ⟨none, 0, by rw [h0], by omega, by decide, fun hn => by omega⟩
  · refine ⟨some ⟨g, 0, none⟩, cap, rfl, hn, hcap, fun _ => ⟨g, 0, rfl, (Array.getElem?_eq_some_iff.1 hh).1, fun i hi j hj => ?_⟩⟩
    have h1 : (cur.toList.take (xs.length * 5))[i * 5 + j]? = (cellsV xs)[i * 5 + j]? := by rw [htake]
    rw [List.getElem?_take, if_pos (by omega), cellsV_get xs i j hi hj] at h1
    have h2 : cur[i * 5 + j]? = some ((xs.getD i zeroV).cell j) := by rw [← Array.getElem?_toList, h1]
    rw [show 0 + i * 5 + j = i * 5 + j from by omega]
    simp [World.cell?, hh, h2]
/-- A part of a row of words. -/
theorem WordsR.part {w : World} {b off n c : Nat} {ws : List Nat} (h : WordsR w (.slice (some ⟨b, off, none⟩) n c) ws) {i m : Nat} (hm : i + m ≤ n) : WordsR w (.slice (some ⟨b, off + i, none⟩) m (c - i)) ((ws.drop i).take m) := by
  obtain ⟨⟨a, cap, e, g2, g3, g4⟩, hlt⟩ := h
  cases e
  have hl : ((ws.drop i).take m).length = m := by simp; omega
  refine ⟨?_, fun x hx => hlt x (List.mem_of_mem_drop (List.mem_of_mem_take hx))⟩
  rw [hl]
  refine ⟨_, _, rfl, by omega, by omega, fun hm0 => ?_⟩
  obtain ⟨b', off', e, k2, k3⟩ := g4 (by omega)
  cases e
  refine ⟨b, off + i, rfl, k2, fun t ht j hj => ?_⟩
  have hj0 : j = 0 := by omega
  subst hj0
  have := k3 (i + t) (by omega) 0 (by decide)
  rw [show off + (i + t) * 1 + 0 = off + i + t * 1 + 0 from by omega] at this
  rw [this]
  congr 3
  simp [List.getD, List.getElem?_drop, ht]
/-- append of one row of cells onto a row that the call owns (or onto nil). -/
theorem wpList_pushN {P : Program} {w : World} {ops : Array Oper} {rest : List Oper} {o : Oper} {a : Act} {Q : Exit → Act → World → Prop} (hgd : o.guard = none) (s x : Operand) (t e : TypeId)
    (ho : o.op = .call { callee := .builtin .append, args := #[s, x], argTypes := #[t, t] }) (z : Value) (size bytes : Nat) (hsz : 0 < size) (ht : P.underlying t = some (.slice e)) (hinfo : (P.info? e).map (fun i => (i.zero, i.size, i.bytes)) = some (some z, size, bytes)) (hzs : z.cells.size = size)
    (B : Nat) (v : Value) (n : Nat) (xs : List Value) (hs : a.eval s = v) (hown : w.ownsRow B e size v n xs) (g c : Nat) (ys : List Value) (hy : ys.length = size) (hx : a.eval x = .slice (some ⟨g, 0, none⟩) 1 c) (T : TypeId) (fr : Nat × Nat) (hcell : w.heap[g]? = some (.cells ys.toArray T fr)) (hone : ∀ u ∈ ys, u.oneCell' = true)
    (hn : n ≤ 1048576) (hb : bytes ≤ 64) (hbase : B ≤ w.heap.size)
    (h : ∀ a' c' w', w'.ownsRow B e size (.slice a' (n + 1) c') (n + 1) (xs ++ ys) → w.grownBy w' v.ownBlock → wpList P ops Q rest (a.put o.dst (.slice a' (n + 1) c')) w') : wpList P ops Q (o :: rest) a w := by
  obtain ⟨i0, hi, hz0, hz1, hz2⟩ := info_parts hinfo
  refine wpList_append_own w hgd s x t ho B e i0 z size bytes ht hi hz0 hz1 hz2 hzs hsz v n xs hs hown ⟨g, 0, none⟩ 1 c ys hx (by omega) (fun j u hj => World.news_of_block hcell j u (by simpa using hj)) hone ?_ ?_ hbase ?_
  · unfold maxLen; omega
  · have h1 : n + 1 ≤ 1048577 := by omega
    have := Nat.mul_le_mul h1 hb
    omega
  · intro v' w' h2 h3 _
    obtain ⟨a', c', rfl⟩ := ownsRow_shape h2
    exact h a' c' w' h2 h3

theorem infoVal : (Try.prog.info? 26).map (fun i => (i.zero, i.size, i.bytes)) = some (some (.agg #[.int .i64 0, .int .i64 0, .int .u64 0, .int .u64 0, .int .i64 0]), 5, 40) := by kernel_rfl

theorem heap_two (w : World) (A : Obj) (l : List Value) (T : TypeId) : ((w.alloc A).alloc (.cells l.toArray T)).heap[w.heap.size + 1]? = some (.cells l.toArray T (0, 0)) := by
  have := Blk.new (w.alloc A) l T
  rw [alloc_size] at this
  exact this
end Go.Proofs.Ytcnbcidbbeadcaa
