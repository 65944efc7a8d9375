/- Calls ahead of a law of chapter 14; what a new object is: plain. -/
import Derived.Test.YtcnbcidbbeadcaaVhCa
import Derived.Test.YtcnbcidbbeadcaaZeroR
import Derived.Test.YtcnbcidbbeadcaaSameV
namespace Go.Proofs.Ytcnbcidbbeadcaa
open Go.RowKit Go.Deep
set_option linter.unusedVariables false

theorem sameV_refl {x : Val} (h0 : 0 ≤ x.k) (h3 : x.k ≤ 3) : sameV x x = true := by
  unfold sameV
  have : x.k = 0 ∨ x.k = 1 ∨ x.k = 2 ∨ x.k = 3 := by omega
  rcases this with h | h | h | h <;> simp [h]
theorem zeroVals_kind (f : List Int) (n : Nat) : ∀ x ∈ zeroVals f n, 0 ≤ x.k ∧ x.k < 3 := by
  induction n with
  | zero => simp [zeroVals]
  | succ n ih =>
    intro x hx
    simp only [zeroVals, List.mem_append, List.mem_cons, List.not_mem_nil, or_false] at hx
    rcases hx with hx | rfl
    · exact ih x hx
    · show 0 ≤ kindK _ ∧ kindK _ < 3
      unfold kindK
      split <;> omega
theorem refsTo5_none (xs : List Val) (h : ∀ x ∈ xs, 0 ≤ x.k ∧ x.k < 3) : refsTo5 xs = [] := by
  induction xs with
  | nil => rfl
  | cons x xs ih =>
    have := h x (by simp)
    unfold refsTo5
    rw [if_neg (by omega), ih (fun y hy => h y (by simp [hy]))]
    rfl
/-- The kinds of all values are known ones. -/
def KOk (o : Nat → VOb) : Prop := ∀ i, ∀ x ∈ (o i).f, 0 ≤ x.k ∧ x.k ≤ 3
theorem KOk.no : KOk no14 := by
  intro i x hx
  simp [no14, noOb] at hx
theorem KOk.setO {o : Nat → VOb} (h : KOk o) (i : Nat) (ob : VOb) (hb : ∀ x ∈ ob.f, 0 ≤ x.k ∧ x.k ≤ 3) : KOk (setO o i ob) := by
  intro j x hx
  by_cases e : j = i
  · subst e; rw [setO_at] at hx; exact hb x hx
  · rw [setO_ne _ _ e] at hx; exact h j x hx
theorem KOk.make {o : Nat → VOb} (h : KOk o) (ks : List (List Int)) (k : Int) : KOk (makeV ks o k).1 := by
  unfold makeV
  split
  · exact h
  · split
    · exact h
    · exact h.setO _ _ (fun x hx => by have := zeroVals_kind _ _ x hx; omega)
theorem toldV_kind (v : Val) : 0 ≤ (toldV v).k ∧ (toldV v).k ≤ 3 := by
  unfold toldV
  split
  · exact ⟨show (0 : Int) ≤ 1 by decide, show (1 : Int) ≤ 3 by decide⟩
  · split
    · exact ⟨show (0 : Int) ≤ 2 by decide, show (2 : Int) ≤ 3 by decide⟩
    · split
      · exact ⟨show (0 : Int) ≤ 3 by decide, show (3 : Int) ≤ 3 by decide⟩
      · exact ⟨show (0 : Int) ≤ 0 by decide, show (0 : Int) ≤ 3 by decide⟩
theorem KOk.set {o : Nat → VOb} (h : KOk o) (ks : List (List Int)) (x j : Int) (v : Val) : KOk (setV ks o x j v).1 := by
  unfold setV
  split
  · exact h
  · split
    · exact h
    · split
      · refine h.setO _ _ (fun y hy => ?_)
        rcases List.mem_or_eq_of_mem_set hy with hy | rfl
        · exact h _ y hy
        · exact toldV_kind v
      · exact h
/-- A heap that was made by calls. -/
structure CaSt (w : World) (b base : Nat) (kv : Value) (wr : World) : Prop where
  st : ∃ o, AwSt w b base kv o wr ∧ KOk o
theorem CaSt.make {w : World} {b base : Nat} {kv : Value} {wr : World} (h : CaSt w b base kv wr) (k : Int) : Calls Try.prog 25 #[.pointer (some ⟨b, 0, none⟩), .int .i64 k] wr (fun e w' => ∃ m n : Int, e = .returned (.tuple #[.int .i64 m, .int .i64 n]) ∧ CaSt w b base kv w') := by
  obtain ⟨o, ho, hk⟩ := h.st
  exact (ho.make k).mono (fun e w' hh => ⟨_, _, hh.1, ⟨_, hh.2, hk.make ks14 k⟩⟩)
theorem CaSt.set {w : World} {b base : Nat} {kv : Value} {wr : World} (h : CaSt w b base kv wr) (x j : Int) (v : Val) (hv : v.ok) : Calls Try.prog 32 #[.pointer (some ⟨b, 0, none⟩), .int .i64 x, .int .i64 j, v.v] wr (fun e w' => ∃ n : Int, e = .returned (.int .i64 n) ∧ CaSt w b base kv w') := by
  obtain ⟨o, ho, hk⟩ := h.st
  exact (ho.set x j v hv).mono (fun e w' hh => ⟨_, hh.1, ⟨_, hh.2, hk.set ks14 x j v⟩⟩)
theorem CaSt.up {w : World} {b base : Nat} {kv : Value} {wr : World} (h : CaSt w b base kv wr) : Upd (fun _ => False) w wr := by
  obtain ⟨o, ho, -⟩ := h.st
  exact ho.up
theorem CaSt.still {w : World} {b base : Nat} {kv : Value} {wr w' : World} (h : CaSt w b base kv wr) (u : Upd (fun _ => False) wr w') : CaSt w b base kv w' := by
  obtain ⟨o, ho, hk⟩ := h.st
  exact ⟨o, ho.still u, hk⟩
/-- A call's cells in a world that has not turned. -/
theorem CalsR.at {W : World} {v : Value} {l : List Cal} (h : CalsR W v l) {k : Nat} (hk : k < l.length) : ∃ b0 off, (∀ w', (Instr.indexAt 51 v (.int .i64 (k : Int))).run Try.prog w' = .ok (.pointer (some ⟨b0, off, none⟩)) w') ∧
    ∀ w', Upd (fun _ => False) W w' → w'.cell? ⟨b0, off, none⟩ = some (.int .i64 (l.getD k noCal).d) ∧ w'.cell? ⟨b0, off + 1, none⟩ = some (.int .i64 (l.getD k noCal).o) ∧ w'.cell? ⟨b0, off + 2, none⟩ = some (.int .i64 (l.getD k noCal).f) ∧
      w'.cell? ⟨b0, off + 3, none⟩ = some (.int .i64 (l.getD k noCal).v.k) ∧ w'.cell? ⟨b0, off + 3 + 1, none⟩ = some (.int .i64 (l.getD k noCal).v.n) ∧ w'.cell? ⟨b0, off + 3 + 2, none⟩ = some (.int .u64 ((l.getD k noCal).v.re : Int)) ∧ w'.cell? ⟨b0, off + 3 + 3, none⟩ = some (.int .u64 ((l.getD k noCal).v.im : Int)) ∧ w'.cell? ⟨b0, off + 3 + 4, none⟩ = some (.int .i64 (l.getD k noCal).v.r) := by
  obtain ⟨X, hR, hX⟩ := h
  obtain ⟨b0, off, hix, hb0, hc⟩ := hR.index (P := Try.prog) Try.underlying51 (by kernel_rfl) (by kernel_rfl) hk
  obtain ⟨x0, x1, x2, x3⟩ := hX k hk
  refine ⟨b0, off + k * 9, hix, fun w' u => ?_⟩
  have q := fun j hj => (u.none.cell (p := ⟨b0, off + k * 9 + j, none⟩) hb0).trans (hc j hj)
  refine ⟨by rw [← x0]; exact q 0 (by decide), by rw [← x1]; exact q 1 (by decide), by rw [← x2]; exact q 2 (by decide), (q 3 (by decide)).trans (congrArg some (x3 0 (by decide))), (q 4 (by decide)).trans (congrArg some (x3 1 (by decide))), (q 5 (by decide)).trans (congrArg some (x3 2 (by decide))), (q 6 (by decide)).trans (congrArg some (x3 3 (by decide))), (q 7 (by decide)).trans (congrArg some (x3 4 (by decide)))⟩
theorem CalsIn.okAt {W : World} {v : Value} {l : List Cal} (h : CalsIn W v l) (k : Nat) : (l.getD k noCal).v.ok := by
  by_cases hk : k < l.length
  · have : l.getD k noCal = l[k] := by simp [List.getD, hk]
    rw [this]
    exact h.2 _ (List.getElem_mem hk)
  · have : l.getD k noCal = noCal := by simp [List.getD, hk]
    rw [this]
    exact zeroV_ok
theorem CalsR.shape {W : World} {v : Value} {l : List Cal} (h : CalsR W v l) : ∃ a c, v = .slice a l.length c ∧ (l.length : Int) ≤ 9223372036854775807 := by
  obtain ⟨X, ⟨a, c, h1, h2, h3, -⟩, -⟩ := h
  exact ⟨a, c, h1, by unfold maxLen at h3; omega⟩
theorem zeroVals_get (f : List Int) (n k : Nat) (hk : k < n) : (zeroVals f n).getD k zeroV = ⟨kindK (f.getD k 0), 0, 0, 0, 0⟩ := by
  induction n with
  | zero => omega
  | succ n ih =>
    have hl := zeroVals_len f n
    unfold zeroVals
    simp only [List.getD]
    by_cases e : k = n
    · subst e
      rw [List.getElem?_append_right (by omega), hl]
      simp
    · rw [List.getElem?_append_left (by omega)]
      exact ih (by omega)
theorem ofK_2 : ofK ks14 2 = some [2, 3] := by kernel_rfl
/-- What Make answers, and what is known then. -/
theorem new_cases (o : Nat → VOb) (K : Nat) (hK : K < 3) :
    (makeV ks14 o K = (o, 0, 5) ∧ (allV o).length = 64) ∨
    ∃ (x : Int) (o' : Nat → VOb), makeV ks14 o K = (o', x, 0) ∧ (ks14.getD K []).length ≤ 15 ∧ kindV o' x = ((K : Int), 0) ∧ (∀ n : Nat, n < (ks14.getD K []).length → getV o' x n = ((zeroVals (ks14.getD K []) (ks14.getD K []).length).getD n zeroV, 0)) ∧ (allV o').length = (allV o).length + 1 ∧ refsV o' x = [] := by
  have hof : ofK ks14 K = some (ks14.getD K []) := by
    match K, hK with
    | 0, _ => exact ofK_0
    | 1, _ => exact ofK_1
    | 2, _ => exact ofK_2
  have h15 : (ks14.getD K []).length ≤ 15 := by
    match K, hK with
    | 0, _ => decide
    | 1, _ => decide
    | 2, _ => decide
  generalize ks14.getD K [] = f at *
  unfold makeV
  rw [hof]
  simp only
  cases hf : freeV o with
  | none =>
    left
    refine ⟨rfl, ?_⟩
    show (allTo o 64).length = 64
    rw [allTo_lenTo]
    exact lenTo_full (fun j hj => freeFrom_full hf j (Nat.zero_le _) (by omega))
  | some i =>
    right
    obtain ⟨-, hi, hu⟩ := freeFrom_at hf
    have hi : i < 64 := by omega
    have hz := zeroVals_len f f.length
    have hfd : findV (setO o i ⟨true, (K : Int), zeroVals f f.length⟩) (-1 - (i : Int)) = some i := by rw [findV_place _ i hi, setO_at, if_pos rfl]
    refine ⟨-1 - (i : Int), setO o i ⟨true, K, zeroVals f f.length⟩, rfl, h15, ?_, fun n hn => ?_, ?_, ?_⟩
    · unfold kindV
      rw [hfd]
      simp only
      rw [setO_at]
    · unfold getV
      rw [hfd]
      simp only
      rw [setO_at, if_neg (by simp only [hz]; omega)]
      rfl
    · show (allTo _ 64).length = (allTo o 64).length + 1
      rw [allTo_lenTo, allTo_lenTo]
      have := lenTo_set (o := o) hi ⟨true, (K : Int), zeroVals f f.length⟩
      rw [if_neg (by rw [hu]; decide), if_pos rfl] at this
      omega
    · unfold refsV
      rw [hfd]
      simp only
      rw [setO_at]
      exact refsTo5_none _ (zeroVals_kind f f.length)
theorem kinds_at {w : World} {a : Option Addr} {n c : Nat} (h : MatIn w (.slice a n c) ks14) {K : Nat} (hK : K < 4) : ∃ b off fa fc, (∀ w', (Instr.indexAt 22 (.slice a n c) (.int .i64 (K : Int))).run Try.prog w' = .ok (.pointer (some ⟨b, off, none⟩)) w') ∧
    w.cell? ⟨b, off, none⟩ = some (.slice fa (ks14.getD K []).length fc) ∧ IntsR w (.slice fa (ks14.getD K []).length fc) .i64 (ks14.getD K []) := by
  obtain ⟨H, hR, hrows⟩ := h
  have hK4 : K < ks14.length := hK
  obtain ⟨b, off, hix, hb, hc⟩ := RowsIn.index (P := Try.prog) hR Try.underlying22 (by kernel_rfl) (by kernel_rfl) hK4
  have hf := hrows K hK4
  obtain ⟨fa, fc, hfe⟩ : ∃ fa fc, H K = .slice fa (ks14.getD K []).length fc := by
    obtain ⟨fa, fc, h1, -⟩ := hf
    exact ⟨fa, fc, h1⟩
  rw [hfe] at hf
  refine ⟨b, off + K * 1, fa, fc, hix, ?_, hf⟩
  rw [← hfe]
  exact hc 0 (by decide)
end Go.Proofs.Ytcnbcidbbeadcaa
