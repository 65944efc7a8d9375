/- References that are moved: plain; a row of rows that grows. -/
import Derived.Test.YtcnbcidbbeadcaaVhMv
import Derived.Test.YtcnbcidbbeadcaaVhNw
import Derived.Test.YtcnbcidbbeadcaaPushL
namespace Go.Proofs.Ytcnbcidbbeadcaa
open Go.RowKit Go.Deep
set_option linter.unusedVariables false

def cntI (p : Int) : List Int → Nat
  | [] => 0
  | x :: xs => (if x = p then 1 else 0) + cntI p xs
theorem cntI_snoc (p : Int) (l : List Int) (x : Int) : cntI p (l ++ [x]) = cntI p l + (if x = p then 1 else 0) := by
  induction l with
  | nil => simp [cntI]
  | cons y ys ih => simp only [List.cons_append, cntI, ih]; omega
theorem cntI_le (p : Int) (l : List Int) : cntI p l ≤ l.length := by
  induction l with
  | nil => exact Nat.le_refl _
  | cons y ys ih =>
    simp only [cntI, List.length_cons]
    split <;> omega
theorem cntF_refs (p : Int) (f : List Val) : cntF p f = cntI p (refsTo5 f) := by
  induction f with
  | nil => rfl
  | cons x xs ih =>
    unfold cntF refsTo5 cnt1
    by_cases h : x.k = 3
    · rw [if_pos h]
      by_cases hr : x.r = p
      · rw [if_pos ⟨h, hr⟩]; simp only [List.cons_append, List.nil_append, cntI]; rw [if_pos hr, ih]
      · rw [if_neg (fun e => hr e.2)]; simp only [List.cons_append, List.nil_append, cntI]; rw [if_neg hr, ih]
    · rw [if_neg (fun e => h e.1), if_neg h, List.nil_append, ih, Nat.zero_add]
def mvI (p q y : Int) : Int := if y = p then q else y
theorem refs_mv (p q : Int) (f : List Val) : refsTo5 (mvF p q f) = (refsTo5 f).map (mvI p q) := by
  induction f with
  | nil => rfl
  | cons x xs ih =>
    have ih : refsTo5 (xs.map (mv1 p q)) = (refsTo5 xs).map (mvI p q) := ih
    show refsTo5 (mv1 p q x :: xs.map (mv1 p q)) = _
    unfold refsTo5
    rw [List.map_append, ih]
    congr 1
    by_cases h : x.k = 3
    · by_cases hr : x.r = p
      · have e : mv1 p q x = { x with r := q } := if_pos ⟨h, hr⟩
        rw [e]
        simp [h, hr, mvI]
      · have e : mv1 p q x = x := if_neg (fun e => hr e.2)
        rw [e]
        simp [h, hr, mvI]
    · have e : mv1 p q x = x := if_neg (fun e => h e.1)
      rw [e]
      simp [h]
theorem refsV_place (o : Nat → VOb) (i : Nat) (hi : i < 64) (hu : (o i).used = true) : refsV o (-1 - (i : Int)) = refsTo5 (o i).f := by
  unfold refsV
  rw [findV_place o i hi, if_pos hu]
theorem refsV_mvL (p q : Int) (o : Nat → VOb) (x : Int) (hx : x ∈ allV o) : refsV (mvL p q o (allV o)) x = (refsV o x).map (mvI p q) := by
  obtain ⟨i, hi, hu, rfl⟩ := (allTo_mem o 64 x).1 hx
  have e : mvL p q o (allV o) i = ⟨(o i).used, (o i).k, mvF p q (o i).f⟩ := by
    unfold mvL
    rw [if_pos hx]
  rw [refsV_place o i hi hu, refsV_place _ i hi (by rw [e]; exact hu), e]
  exact refs_mv p q (o i).f
theorem cntL_at (p : Int) (o : Nat → VOb) (xs : List Int) (x : Int) (hx : x ∈ allV o) : cntL p o (xs ++ [x]) = cntL p o xs + cntI p (refsV o x) := by
  obtain ⟨i, hi, hu, rfl⟩ := (allTo_mem o 64 x).1 hx
  rw [cntL_snoc, refsV_place o i hi hu, ← cntF_refs, show (-1 - (-1 - (i : Int))).toNat = i from by omega]
theorem allTo_congr {o p : Nat → VOb} (h : ∀ i, (o i).used = (p i).used) (n : Nat) : allTo o n = allTo p n := by
  induction n with
  | zero => rfl
  | succ n ih => unfold allTo; rw [ih, h n]
theorem allV_mvL (p q : Int) (o : Nat → VOb) (xs : List Int) : allV (mvL p q o xs) = allV o := allTo_congr (fun i => (mvL_at p q o xs i).1) 64
theorem refsV_len {o : Nat → VOb} (h : ∀ i, i < 64 → (o i).f.length ≤ 15) (x : Int) : (refsV o x).length ≤ 15 := by
  unfold refsV
  split
  · simp
  · rename_i i hi
    have := h i (findV_some hi).1
    have := refsTo5_len (o i).f
    omega
theorem infoSl : (Try.prog.info? 52).map (fun i => (i.zero, i.size, i.bytes)) = some (some (.slice none 0 0), 1, 24) := by kernel_rfl
/-- Rows of numbers in a row of the law's own that grows; a list of numbers beside them. -/
structure WsSt (wx : World) (av : Value) (al : List Int) (tt : List (List Int)) (hv : List Value) (wv : Value) (wr : World) : Prop where
  own : wr.ownsRow wx.heap.size 52 1 wv tt.length hv
  rws : ∀ i, i < tt.length → ∀ w', Upd (fun j => wv.ownBlock = some j ∨ j < wx.heap.size) wr w' → IntsR w' (hv.getD i undef) .i64 (tt.getD i [])
  al : ∀ w', Upd (fun j => wv.ownBlock = some j ∨ j < wx.heap.size) wr w' → IntsR w' av .i64 al
  up : Upd (fun _ => False) wx wr
theorem WsSt.still {wx : World} {av : Value} {al : List Int} {tt : List (List Int)} {hv : List Value} {wv : Value} {wr w' : World} (h : WsSt wx av al tt hv wv wr) (u : Upd (fun _ => False) wr w') : WsSt wx av al tt hv wv w' :=
  ⟨ownsRow_upd h.own u (fun _ _ x => x), fun i hi w2 u2 => h.rws i hi w2 ((u.mono (fun _ _ x => x.elim)).trans u2), fun w2 u2 => h.al w2 ((u.mono (fun _ _ x => x.elim)).trans u2), h.up.trans u⟩
theorem WsSt.next {wx : World} {av : Value} {al : List Int} {tt : List (List Int)} {hv : List Value} {wv : Value} {wr w3 w4 w5 : World} (h : WsSt wx av al tt hv wv wr) {a : Option Addr} {c : Nat} {xs : List Int}
    (ho3 : w3.ownsRow wr.heap.size 3 1 (.slice a xs.length c) xs.length (ints xs)) (u3 : Upd (fun _ => False) wr w3) (u4 : Upd (fun _ => False) w3 w4) {g' c' : Nat}
    (ho5 : w5.ownsRow wx.heap.size 52 1 (.slice (some ⟨g', 0, none⟩) (tt.length + 1) c') (tt.length + 1) (hv ++ [.slice a xs.length c])) (hg5 : w4.grownBy w5 wv.ownBlock) (hl5 : wv.ownBlock = some g' ∨ g' = w4.heap.size) :
    WsSt wx av al (tt ++ [xs]) (hv ++ [.slice a xs.length c]) (.slice (some ⟨g', 0, none⟩) (tt ++ [xs]).length c') w5 ∧ IntsR w5 (.slice a xs.length c) .i64 xs := by
  have h4 := (h.still u3).still u4
  have hlen : hv.length = tt.length := by have := h.own.1; simpa using this
  have hkb : ∀ j, wv.ownBlock = some j → wx.heap.size ≤ j ∧ j < wr.heap.size := fun j e => h.own.lt j e
  have u5 : Upd (fun j => wv.ownBlock = some j) w4 w5 := (Upd.refl _ _).grown hg5 (fun j e _ => e)
  have ho4 := ownsRow_upd ho3 u4 (fun _ _ x => x)
  have hlx : (tt ++ [xs]).length = tt.length + 1 := by simp
  have back : ∀ w', Upd (fun j => (Value.slice (some ⟨g', 0, none⟩) (tt ++ [xs]).length c').ownBlock = some j ∨ j < wx.heap.size) w5 w' → Upd (fun j => wv.ownBlock = some j ∨ j < wx.heap.size) w4 w' := fun w' u => by
    have uu : Upd (fun j => (wv.ownBlock = some j ∨ j < wx.heap.size) ∨ j = g') w4 w' := (u5.mono (fun _ _ e => Or.inl (Or.inl e))).trans (u.mono (fun j _ e => by
      rcases e with e | e
      · have e : g' = j := by simpa [Value.ownBlock] using e
        exact Or.inr e.symm
      · exact Or.inl (Or.inr e)))
    exact uu.mono (fun j hj e => by
      rcases e with e | e
      · exact e
      · rcases hl5 with e2 | e2
        · rw [e]; exact Or.inl e2
        · omega)
  refine ⟨⟨?_, ?_, fun w' u => h4.al w' (back w' u), h4.up.own u5 (fun j e => (hkb j e).1)⟩, ?_⟩
  · rw [hlx]; exact ho5
  · intro i hi w' u
    have uu := back w' u
    by_cases e : i = tt.length
    · subst e
      have e1 : (hv ++ [Value.slice a xs.length c]).getD tt.length undef = .slice a xs.length c := by simp [List.getD, List.getElem?_append_right, hlen]
      have e2 : (tt ++ [xs]).getD tt.length [] = xs := by simp [List.getD]
      rw [e1, e2]
      exact ownsRow_intsR (ownsRow_upd ho4 uu (fun j hj e => by
        rcases e with e | e
        · have := hkb j e; omega
        · have := h.up.size; omega))
    · rw [hlx] at hi
      have e1 : (hv ++ [Value.slice a xs.length c]).getD i undef = hv.getD i undef := by
        simp only [List.getD]
        rw [List.getElem?_append_left (by omega)]
      have e2 : (tt ++ [xs]).getD i [] = tt.getD i [] := by
        simp only [List.getD]
        rw [List.getElem?_append_left (by omega)]
      rw [e1, e2]
      exact h4.rws i (by omega) w' uu
  · exact ownsRow_intsR (ownsRow_upd ho4 u5 (fun j hj e => by have := hkb j e; omega))
/-- The rows as a table, whatever turns of what was there before. -/
theorem WsSt.table {wx : World} {av : Value} {al : List Int} {tt : List (List Int)} {hv : List Value} {wv : Value} {wr : World} (h : WsSt wx av al tt hv wv wr) : ∀ w', Upd (fun j => j < wx.heap.size) wr w' → MatIn w' wv tt ∧ IntsR w' av .i64 al := fun w' u => by
  have u2 : Upd (fun j => wv.ownBlock = some j ∨ j < wx.heap.size) wr w' := u.mono (fun _ _ e => Or.inr e)
  exact ⟨⟨fun i => hv.getD i undef, ownsRow_rows (ownsRow_upd h.own u (fun j hj e => by omega)), fun i hi => h.rws i hi w' u2⟩, h.al w' u2⟩
end Go.Proofs.Ytcnbcidbbeadcaa
