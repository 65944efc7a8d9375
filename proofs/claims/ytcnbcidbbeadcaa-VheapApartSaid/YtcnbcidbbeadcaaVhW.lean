/- A field of a volatile object is written: plain part of Set. -/
import Derived.Test.YtcnbcidbbeadcaaVhG
namespace Go.Proofs.Ytcnbcidbbeadcaa
open Go.RowKit Go.Deep
set_option linter.unusedVariables false

theorem cellsV_set (xs : List Val) (j : Nat) (hj : j < xs.length) (x : Val) :
    (((((cellsV xs).set (j * 5 + 0) (.int .i64 x.k)).set (j * 5 + 1) (.int .i64 x.n)).set (j * 5 + 2) (.int .u64 (x.re : Int))).set (j * 5 + 3) (.int .u64 (x.im : Int))).set (j * 5 + 4) (.int .i64 x.r) = cellsV (xs.set j x) := by
  have hl : ∀ ys : List Val, (cellsV ys).length = ys.length * 5 := by
    intro ys
    induction ys with
    | nil => rfl
    | cons y ys ih =>
      have : cellsV (y :: ys) = y.cells ++ cellsV ys := rfl
      rw [this, List.length_append, ih]
      simp [Val.cells]
      omega
  apply List.ext_getElem?
  intro t
  by_cases ht : t < xs.length * 5
  · obtain ⟨q, m, hq, hm, rfl⟩ : ∃ q m, q < xs.length ∧ m < 5 ∧ t = q * 5 + m := ⟨t / 5, t % 5, by omega, by omega, by omega⟩
    rw [cellsV_get (xs.set j x) q m (by rw [List.length_set]; exact hq) hm]
    by_cases e : q = j
    · subst e
      rw [show (xs.set q x).getD q zeroV = x from by simp [List.getD, hq]]
      have hlq := hl xs
      match m, hm with
      | 0, _ => rw [List.getElem?_set_ne (by omega), List.getElem?_set_ne (by omega), List.getElem?_set_ne (by omega), List.getElem?_set_ne (by omega), List.getElem?_set_self (by omega)]; rfl
      | 1, _ => rw [List.getElem?_set_ne (by omega), List.getElem?_set_ne (by omega), List.getElem?_set_ne (by omega), List.getElem?_set_self (by simp only [List.length_set]; omega)]; rfl
      | 2, _ => rw [List.getElem?_set_ne (by omega), List.getElem?_set_ne (by omega), List.getElem?_set_self (by simp only [List.length_set]; omega)]; rfl
      | 3, _ => rw [List.getElem?_set_ne (by omega), List.getElem?_set_self (by simp only [List.length_set]; omega)]; rfl
      | 4, _ => rw [List.getElem?_set_self (by simp only [List.length_set]; omega)]; rfl
    · rw [List.getElem?_set_ne (by omega), List.getElem?_set_ne (by omega), List.getElem?_set_ne (by omega), List.getElem?_set_ne (by omega), List.getElem?_set_ne (by omega), cellsV_get xs q m hq hm]
      rw [show (xs.set j x).getD q zeroV = xs.getD q zeroV from by simp [List.getD, List.getElem?_set_ne (fun h => e h.symm)]]
  · rw [List.getElem?_eq_none (by simp only [List.length_set]; rw [hl]; omega), List.getElem?_eq_none (by rw [hl, List.length_set]; omega)]
/-- A cell of a row of the call's own is set. -/
theorem ownsRow_setCell {w : World} {B : Nat} {e : TypeId} {size n c g : Nat} {xs : List Value} (h : w.ownsRow B e size (.slice (some ⟨g, 0, none⟩) n c) n xs) (t : Nat) (ht : t < n * size) (v : Value) :
    (w.setCell ⟨g, t, none⟩ v).ownsRow B e size (.slice (some ⟨g, 0, none⟩) n c) n (xs.set t v) := by
  obtain ⟨h1, h2⟩ := h
  refine ⟨by rw [List.length_set]; exact h1, ?_⟩
  rcases h2 with ⟨hz, _⟩ | ⟨g', cap, cur, hv, hg, hh, hn, hc, hs, htk⟩
  · cases hz
  · cases hv
    have hb : Blk w g cur.toList e := hh
    have hb2 : Blk (w.setCell ⟨g, t, none⟩ v) g (cur.toList.set t v) e := hb.set t v
    refine Or.inr ⟨g, c, (cur.toList.set t v).toArray, rfl, hg, hb2, hn, hc, by simpa using hs, ?_⟩
    rw [← htk]
    simp only [List.toList_toArray]
    rw [List.take_set]
theorem obRows_congr (o p : Nat → VOb) (F : Nat → Value) (n : Nat) (h : ∀ i, (o i).used = (p i).used ∧ (o i).k = (p i).k) : obRows o F n = obRows p F n := by
  induction n with
  | zero => rfl
  | succ n ih =>
    unfold obRows obCells
    rw [ih, (h n).1, (h n).2]
/-- A field is written. -/
theorem IsVh.write {w w' : World} {b base : Nat} {ks : List (List Int)} {o : Nat → VOb} {kv : Value} {F : Nat → Value} (h : IsVh w b base ks o kv F) {i : Nat} (hi : i < 64) (hus : (o i).used = true) (j : Nat) (x : Val) (hx : x.ok)
    {g n c : Nat} (hF : F i = .slice (some ⟨g, 0, none⟩) n c) (hg : base ≤ g) (u : Upd (fun k => k = g) w w') (hrow : w'.ownsRow base 26 5 (F i) (o i).f.length (cellsV ((o i).f.set j x))) :
    IsVh w' b base ks (setO o i ⟨true, (o i).k, (o i).f.set j x⟩) kv F := by
  have hbg : b ≠ g := by have := h.low; omega
  refine ⟨?_, h.low, Nat.le_trans h.size u.size, fun w2 u2 => h.kinds w2 ((u.mono (fun _ _ e => Or.inl (by omega))).trans u2), fun k hk => ?_, h.apart, fun k hk => ?_, fun k hk => ?_, fun k hk => ?_, fun k hk => ?_⟩
  · have e : vhCells kv (setO o i ⟨true, (o i).k, (o i).f.set j x⟩) F = vhCells kv o F := by
      unfold vhCells
      rw [obRows_congr _ o F 64 (fun k => ?_)]
      by_cases e : k = i
      · subst e; rw [setO_at]; exact ⟨hus.symm, rfl⟩
      · rw [setO_ne o _ e]; exact ⟨rfl, rfl⟩
    rw [e]
    exact h.blk.upd u hbg
  · by_cases e : k = i
    · subst e
      rw [setO_at]
      show World.ownsRow _ _ _ _ _ ((o k).f.set j x).length _
      rw [List.length_set]
      exact hrow
    · rw [setO_ne o _ e]
      obtain ⟨h1, h2⟩ := h.row k hk
      refine ⟨h1, ?_⟩
      rcases h2 with h2 | ⟨g', cap, cur, hv, hg', hh, r⟩
      · exact Or.inl h2
      · refine Or.inr ⟨g', cap, cur, hv, hg', ?_, r⟩
        have hne : g' ≠ g := fun e2 => h.apart i k hi hk (fun e3 => e e3.symm) g (by rw [hF]; rfl) (by rw [hv, e2]; rfl)
        rw [u.block g' (Array.getElem?_eq_some_iff.1 hh).1 hne]
        exact hh
  · by_cases e : k = i
    · subst e; rw [setO_at]; intro h; cases h
    · rw [setO_ne o _ e]; exact h.off k hk
  · by_cases e : k = i
    · subst e
      rw [setO_at]
      intro y hy
      rcases List.mem_or_eq_of_mem_set hy with hy | rfl
      · exact h.ok k hk y hy
      · exact hx
    · rw [setO_ne o _ e]; exact h.ok k hk
  · by_cases e : k = i
    · subst e
      rw [setO_at]
      show ((o k).f.set j x).length ≤ 15
      rw [List.length_set]
      exact h.few k hk
    · rw [setO_ne o _ e]; exact h.few k hk
  · by_cases e : k = i
    · subst e
      rw [setO_at]
      intro _
      obtain ⟨h1, h2, h3⟩ := h.kin k hk hus
      exact ⟨h1, h2, by show ((o k).f.set j x).length = _; rw [List.length_set]; exact h3⟩
    · rw [setO_ne o _ e]; exact h.kin k hk
end Go.Proofs.Ytcnbcidbbeadcaa
