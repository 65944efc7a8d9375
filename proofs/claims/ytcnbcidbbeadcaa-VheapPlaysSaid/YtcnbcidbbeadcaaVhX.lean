/- kind.Fits in general. -/
import Derived.Test.YtcnbcidbbeadcaaVhT
-- merged


namespace Go.Proofs.Ytcnbcidbbeadcaa
open Go.RowKit Go.Deep
set_option linter.unusedVariables false

def fitsV (f : List Int) (i : Int) (x : Val) : Bool := decide (0 ≤ i ∧ i < f.length ∧ fw (f.getD i.toNat 0) ≠ 0 ∧ (x.k = f.getD i.toNat 0 ∨ (x.k = 0 ∧ f.getD i.toNat 0 = 3)))
set_option maxRecDepth 100000 in
set_option maxHeartbeats 1000000 in
theorem vh_Fits (v : Value) (f : List Int) (i : Int) (x : Val) (w : World) (hv : IntsR w v .i64 f) : Calls Try.prog 68 #[.agg #[v], .int .i64 i, x.v] w (RetU w (.bool (fitsV f i x))) := by
  obtain ⟨R, hR⟩ : ∃ R, fitsV f i x = R := ⟨_, rfl⟩
  rw [hR]
  unfold fitsV at hR
  obtain ⟨a, n, re, im, r⟩ := x
  show Calls _ _ #[.agg #[v], .int .i64 i, .agg #[.int .i64 a, .int .i64 n, .int .u64 (re : Int), .int .u64 (im : Int), .int .i64 r]] _ _
  simp only at hR
  have hX := Lib.hid hv
  obtain ⟨va, vc, rfl, hc1, hc2, -⟩ := hv
  have l1 : (f.length : Int) ≤ 9223372036854775807 := by unfold maxLen at hc2; omega
  clear hc1 hc2
  have hu : Upd (fun _ => False) w ((w.alloc (.cells #[.slice va f.length vc] 68)).alloc (.cells #[.int .i64 a, .int .i64 n, .int .u64 (re : Int), .int .u64 (im : Int), .int .i64 r] 26)) := ((Upd.refl _ _).alloc _).alloc _
  by_cases i0 : i < 0
  · obtain rfl : R = false := by rw [← hR, decide_eq_false_iff_not]; intro h; omega
    have Hhu := Lib.hid hu; clear hu
    clear hR
    go_enter Try.func68, Try.ntmps68
    go_wp2
    go_ret
    exact ⟨rfl, by first | exact Hhu.out | exact Hhu.out.drew | exact Hhu.out.drewN _⟩
  · by_cases i1 : (f.length : Int) ≤ i
    · obtain rfl : R = false := by rw [← hR, decide_eq_false_iff_not]; intro h; omega
      have Hhu := Lib.hid hu; clear hu
      clear hR
      go_enter Try.func68, Try.ntmps68
      go_wp2
      go_ret
      exact ⟨rfl, by first | exact Hhu.out | exact Hhu.out.drew | exact Hhu.out.drewN _⟩
    · obtain ⟨k, rfl⟩ : ∃ k : Nat, i = k := ⟨i.toNat, by omega⟩
      have hk : k < f.length := by omega
      have d2 : (k : Int) < f.length := by omega
      rw [show (k : Int).toNat = k from by omega] at hR
      obtain ⟨b0, off, hix, hb0, hc⟩ := hX.out.index (P := Try.prog) Try.underlying52 (by kernel_rfl) (by kernel_rfl) hk
      simp only [Nat.mul_one] at hix hc
      have hcx := (hu.none.cell (p := ⟨b0, off + k, none⟩) hb0).trans (hc 0 (by decide))
      generalize f.getD k 0 = q at *
      have hw := Lib.hid (kind_words q)
      clear hc
      by_cases hq0 : fw q = 0
      · obtain rfl : R = false := by rw [← hR, decide_eq_false_iff_not]; intro h; exact h.2.2.1 hq0
        rw [hq0] at hw
        have Hhu := Lib.hid hu; clear hu
        clear hR hq0
        have hw := Lib.hid (show ∀ w, Calls Try.prog 82 #[.int .i64 q] w (Same w (.int .i64 0)) from hw.out)
        go_enter Try.func68, Try.ntmps68
        go_wp2_with (go_at_call 82; (with_reducible refine (hw.out _).mono ?_); rintro e w2 ⟨rfl, rfl⟩)
        go_ret
        exact ⟨rfl, by first | exact Hhu.out | exact Hhu.out.drew | exact Hhu.out.drewN _⟩
      · have hfq : ((fw q : Nat) : Int) = fw q := rfl
        have hne : ((fw q : Int) == 0) = false := by rw [beq_eq_false_iff_ne]; omega
        obtain ⟨m, hm⟩ : ∃ m, fw q = m := ⟨_, rfl⟩
        rw [hm] at hw hne hR hq0
        clear hfq hm
        by_cases h1 : a = q
        · obtain rfl : R = true := by rw [← hR, decide_eq_true_eq]; exact ⟨by omega, by omega, hq0, Or.inl h1⟩
          subst h1
          have e1 : decide (a = a) = true := by simp
          have Hhu := Lib.hid hu; clear hu
          clear hR
          go_enter Try.func68, Try.ntmps68
          go_wp2_with (go_at_call 82; (with_reducible refine (hw.out _).mono ?_); rintro e w2 ⟨rfl, rfl⟩)
          go_quiet (fail)
          go_wp2
          go_ret
          exact ⟨rfl, by first | exact Hhu.out | exact Hhu.out.drew | exact Hhu.out.drewN _⟩
        · have e1 : (a == q) = false := by rw [beq_eq_false_iff_ne]; exact h1
          have e1' : decide (a = q) = false := by simpa using h1
          by_cases h2 : a = 0
          · subst h2
            by_cases h3 : q = 3
            · subst h3
              obtain rfl : R = true := by rw [← hR, decide_eq_true_eq]; exact ⟨by omega, by omega, hq0, Or.inr ⟨rfl, rfl⟩⟩
              have Hhu := Lib.hid hu; clear hu
              clear hR h1 e1 e1'
              go_enter Try.func68, Try.ntmps68
              go_wp2_with (go_at_call 82; (with_reducible refine (hw.out _).mono ?_); rintro e w2 ⟨rfl, rfl⟩)
              go_quiet (fail)
              go_wp2
              go_ret
              exact ⟨rfl, by first | exact Hhu.out | exact Hhu.out.drew | exact Hhu.out.drewN _⟩
            · obtain rfl : R = false := by rw [← hR, decide_eq_false_iff_not]; intro h; rcases h.2.2.2 with h | h; exact h1 h; exact h3 h.2
              have e3 : (q == 3) = false := by rw [beq_eq_false_iff_ne]; exact h3
              have e4 : ((0 : Int) == q) = false := e1
              have Hhu := Lib.hid hu; clear hu
              clear hR
              go_enter Try.func68, Try.ntmps68
              go_wp2_with (go_at_call 82; (with_reducible refine (hw.out _).mono ?_); rintro e w2 ⟨rfl, rfl⟩)
              go_quiet (fail)
              go_wp2
              go_ret
              exact ⟨rfl, by first | exact Hhu.out | exact Hhu.out.drew | exact Hhu.out.drewN _⟩
          · obtain rfl : R = false := by rw [← hR, decide_eq_false_iff_not]; intro h; rcases h.2.2.2 with h | h; exact h1 h; exact h2 h.1
            have e2 : (a == 0) = false := by rw [beq_eq_false_iff_ne]; exact h2
            have e2' : decide (a = 0) = false := by simpa using h2
            have Hhu := Lib.hid hu; clear hu
            clear hR
            go_enter Try.func68, Try.ntmps68
            go_wp2_with (go_at_call 82; (with_reducible refine (hw.out _).mono ?_); rintro e w2 ⟨rfl, rfl⟩)
            go_quiet (fail)
            go_wp2
            go_ret
            exact ⟨rfl, by first | exact Hhu.out | exact Hhu.out.drew | exact Hhu.out.drewN _⟩
end Go.Proofs.Ytcnbcidbbeadcaa

/- Get of a heap of volatile objects. -/

namespace Go.Proofs.Ytcnbcidbbeadcaa
open Go.RowKit Go.Deep
set_option linter.unusedVariables false

def getV (o : Nat → VOb) (x j : Int) : Val × Int := match findV o x with
  | none => (zeroV, 2)
  | some i => if j < 0 ∨ ((o i).f.length : Int) ≤ j then (zeroV, 4) else ((o i).f.getD j.toNat zeroV, 0)
set_option maxRecDepth 100000 in
set_option maxHeartbeats 1000000 in
theorem vh_Get {w : World} {b base : Nat} {ks : List (List Int)} {o : Nat → VOb} {kv : Value} {F : Nat → Value} (h : IsVh w b base ks o kv F) (x j : Int) :
    Calls Try.prog 35 #[.pointer (some ⟨b, 0, none⟩), .int .i64 x, .int .i64 j] w (RetU w (.tuple #[(getV o x j).1.v, .int .i64 (getV o x j).2])) := by
  have hu : Upd (fun _ => False) w (w.alloc (.cells #[.int .i64 0, .int .i64 0, .int .u64 0, .int .u64 0, .int .i64 0] 26)) := (Upd.refl _ _).alloc _
  have hB := Lib.hid (Blk.new w [.int .i64 0, .int .i64 0, .int .u64 0, .int .u64 0, .int .i64 0] 26)
  have h1 := h.still hu
  have hf := vh_find h1 x
  have hms := Lib.hid (vh_missing b)
  unfold getV
  cases hfv : findV o x with
  | none =>
    rw [hfv] at hf
    have hf := Lib.hid (show Calls Try.prog 61 #[.pointer (some ⟨b, 0, none⟩), .int .i64 x] _ (RetU _ (.pointer none)) from hf)
    show Calls _ _ _ _ (RetU w (.tuple #[.agg #[.int .i64 0, .int .i64 0, .int .u64 0, .int .u64 0, .int .i64 0], .int .i64 2]))
    have Hhu := Lib.hid hu; clear hu
    clear h h1 hfv
    go_enter Try.func35, Try.ntmps35
    go_wp2_with (first
      | (go_at_call 61; (with_reducible refine hf.out.mono ?_); rintro e w3 ⟨rfl, hu3⟩; have hT := hB.out.upd hu3 (fun h => h); have c0 := hT.cell 0 rfl; have c1 := hT.cell 1 rfl; have c2 := hT.cell 2 rfl; have c3 := hT.cell 3 rfl; have c4 := hT.cell 4 rfl; have f0 := hT.free 0; have f1 := hT.free 1; have f2 := hT.free 2; have f3 := hT.free 3; have f4 := hT.free 4; have Hu3 := Lib.hid hu3; clear hT hu3)
      | (go_at_call 67; (with_reducible refine (hms.out _).mono ?_); rintro e w4 ⟨rfl, rfl⟩))
    refine bodyPost_ret (v := .tuple #[.agg #[.int .i64 0, .int .i64 0, .int .u64 0, .int .u64 0, .int .i64 0], .int .i64 2]) ?_ rfl ?_
    · rw [results_cell_tmp rfl]; go_simp
    · exact ⟨rfl, upd_set5 (Hhu.out.trans Hu3.out) (Nat.le_refl _) _ _ _ _ _⟩
  | some i =>
    rw [hfv] at hf
    obtain ⟨hi, hus, -⟩ := findV_some hfv
    have hf := Lib.hid (show Calls Try.prog 61 #[.pointer (some ⟨b, 0, none⟩), .int .i64 x] _ (RetU _ (.pointer (some ⟨b, 1 + i * 3, none⟩))) from hf)
    have hc := fun w' (u : Upd (fun _ => False) (w.alloc (.cells #[.int .i64 0, .int .i64 0, .int .u64 0, .int .u64 0, .int .i64 0] 26)) w') => ((h1.still u).cell i hi).2.2
    have hv := h1.vals i hi
    have h15 := h.few i hi
    show Calls _ _ _ _ (RetU w (.tuple #[(if j < 0 ∨ ((o i).f.length : Int) ≤ j then (zeroV, 4) else ((o i).f.getD j.toNat zeroV, 0) : Val × Int).1.v, .int .i64 (if j < 0 ∨ ((o i).f.length : Int) ≤ j then (zeroV, 4) else ((o i).f.getD j.toNat zeroV, 0) : Val × Int).2]))
    generalize (o i).f = fs at *
    have hvX := Lib.hid hv
    obtain ⟨fa, fc, hfe, -, -, -⟩ := hv
    rw [hfe] at hc hvX
    have hc := Lib.hid hc
    have hfi : (fs.length : Int) ≤ 15 := by omega
    clear h h1 hfv hus hi hfe
    by_cases j0 : j < 0
    · rw [if_pos (Or.inl j0)]
      show Calls _ _ _ _ (RetU w (.tuple #[.agg #[.int .i64 0, .int .i64 0, .int .u64 0, .int .u64 0, .int .i64 0], .int .i64 4]))
      have Hhu := Lib.hid hu; clear hu
      go_enter Try.func35, Try.ntmps35
      go_wp2_with (go_at_call 61; (with_reducible refine hf.out.mono ?_); rintro e w3 ⟨rfl, hu3⟩; have cF := hc.out w3 hu3; have hT := hB.out.upd hu3 (fun h => h); have c0 := hT.cell 0 rfl; have c1 := hT.cell 1 rfl; have c2 := hT.cell 2 rfl; have c3 := hT.cell 3 rfl; have c4 := hT.cell 4 rfl; have f0 := hT.free 0; have f1 := hT.free 1; have f2 := hT.free 2; have f3 := hT.free 3; have f4 := hT.free 4; have Hu3 := Lib.hid hu3; clear hT hu3)
      refine bodyPost_ret (v := .tuple #[.agg #[.int .i64 0, .int .i64 0, .int .u64 0, .int .u64 0, .int .i64 0], .int .i64 4]) ?_ rfl ?_
      · rw [results_cell_tmp rfl]; go_simp
      · exact ⟨rfl, upd_set5 (Hhu.out.trans Hu3.out) (Nat.le_refl _) _ _ _ _ _⟩
    · by_cases j1 : (fs.length : Int) ≤ j
      · rw [if_pos (Or.inr j1)]
        show Calls _ _ _ _ (RetU w (.tuple #[.agg #[.int .i64 0, .int .i64 0, .int .u64 0, .int .u64 0, .int .i64 0], .int .i64 4]))
        have Hhu := Lib.hid hu; clear hu
        go_enter Try.func35, Try.ntmps35
        go_wp2_with (go_at_call 61; (with_reducible refine hf.out.mono ?_); rintro e w3 ⟨rfl, hu3⟩; have cF := hc.out w3 hu3; have hT := hB.out.upd hu3 (fun h => h); have c0 := hT.cell 0 rfl; have c1 := hT.cell 1 rfl; have c2 := hT.cell 2 rfl; have c3 := hT.cell 3 rfl; have c4 := hT.cell 4 rfl; have f0 := hT.free 0; have f1 := hT.free 1; have f2 := hT.free 2; have f3 := hT.free 3; have f4 := hT.free 4; have Hu3 := Lib.hid hu3; clear hT hu3)
        refine bodyPost_ret (v := .tuple #[.agg #[.int .i64 0, .int .i64 0, .int .u64 0, .int .u64 0, .int .i64 0], .int .i64 4]) ?_ rfl ?_
        · rw [results_cell_tmp rfl]; go_simp
        · exact ⟨rfl, upd_set5 (Hhu.out.trans Hu3.out) (Nat.le_refl _) _ _ _ _ _⟩
      · rw [if_neg (fun h => h.elim j0 j1)]
        obtain ⟨k, rfl⟩ : ∃ k : Nat, j = k := ⟨j.toNat, by omega⟩
        have hk : k < fs.length := by omega
        have d1 : (k : Int) < fs.length := by omega
        rw [show (k : Int).toNat = k from by omega]
        obtain ⟨b1, o1, hix, hb1, hy⟩ := hvX.out.index (P := Try.prog) Try.underlying23 (by kernel_rfl) (by kernel_rfl) hk
        have hyy := fun w' (u : Upd (fun _ => False) (w.alloc (.cells #[.int .i64 0, .int .i64 0, .int .u64 0, .int .u64 0, .int .i64 0] 26)) w') t (ht : t < 5) => (u.none.cell (p := ⟨b1, o1 + k * 5 + t, none⟩) hb1).trans (hy t ht)
        generalize fs.getD k zeroV = z at *
        generalize o1 + k * 5 = o1 at *
        obtain ⟨za, zn, zre, zim, zr⟩ := z
        have hyy := Lib.hid hyy
        show Calls _ _ _ _ (RetU w (.tuple #[.agg #[.int .i64 za, .int .i64 zn, .int .u64 (zre : Int), .int .u64 (zim : Int), .int .i64 zr], .int .i64 0]))
        have Hhu := Lib.hid hu; clear hu
        clear hy
        go_enter Try.func35, Try.ntmps35
        go_wp2_with (go_at_call 61; (with_reducible refine hf.out.mono ?_); rintro e w3 ⟨rfl, hu3⟩; have cF := hc.out w3 hu3; have y0 : w3.cell? ⟨b1, o1, none⟩ = some (.int .i64 za) := hyy.out w3 hu3 0 (by decide); have y1 : w3.cell? ⟨b1, o1 + 1, none⟩ = some (.int .i64 zn) := hyy.out w3 hu3 1 (by decide); have y2 : w3.cell? ⟨b1, o1 + 2, none⟩ = some (.int .u64 (zre : Int)) := hyy.out w3 hu3 2 (by decide); have y3 : w3.cell? ⟨b1, o1 + 3, none⟩ = some (.int .u64 (zim : Int)) := hyy.out w3 hu3 3 (by decide); have y4 : w3.cell? ⟨b1, o1 + 4, none⟩ = some (.int .i64 zr) := hyy.out w3 hu3 4 (by decide); have hT := hB.out.upd hu3 (fun h => h); have c0 := hT.cell 0 rfl; have c1 := hT.cell 1 rfl; have c2 := hT.cell 2 rfl; have c3 := hT.cell 3 rfl; have c4 := hT.cell 4 rfl; have f0 := hT.free 0; have f1 := hT.free 1; have f2 := hT.free 2; have f3 := hT.free 3; have f4 := hT.free 4; have Hu3 := Lib.hid hu3; clear hT hu3)
        refine bodyPost_ret (v := .tuple #[.agg #[.int .i64 za, .int .i64 zn, .int .u64 (zre : Int), .int .u64 (zim : Int), .int .i64 zr], .int .i64 0]) ?_ rfl ?_
        · rw [results_cell_tmp rfl]; go_simp
        · exact ⟨rfl, upd_set5 (Hhu.out.trans Hu3.out) (Nat.le_refl _) _ _ _ _ _⟩
end Go.Proofs.Ytcnbcidbbeadcaa

/- A field of a volatile object is written: plain part of Set. -/

namespace Go.Proofs.Ytcnbcidbbeadcaa
open Go.RowKit Go.Deep
set_option linter.unusedVariables false

theorem cellsV_set (xs : List Val) (j : Nat) (hj : j < xs.length) (x : Val) :
    (((((cellsV xs).set (j * 5 + 0) (.int .i64 x.k)).set (j * 5 + 1) (.int .i64 x.n)).set (j * 5 + 2) (.int .u64 (x.re : Int))).set (j * 5 + 3) (.int .u64 (x.im : Int))).set (j * 5 + 4) (.int .i64 x.r) = cellsV (xs.set j x) := by
  have hl : ∀ ys : List Val, (cellsV ys).length = ys.length * 5 := by
    intro ys
    induction ys with
    | nil => rfl
    | cons y ys ih =>
      have : cellsV (y :: ys) = y.cells ++ cellsV ys := rfl
      rw [this, List.length_append, ih]
      simp [Val.cells]
      omega
  apply List.ext_getElem?
  intro t
  by_cases ht : t < xs.length * 5
  · obtain ⟨q, m, hq, hm, rfl⟩ : ∃ q m, q < xs.length ∧ m < 5 ∧ t = q * 5 + m := ⟨t / 5, t % 5, by omega, by omega, by omega⟩
    rw [cellsV_get (xs.set j x) q m (by rw [List.length_set]; exact hq) hm]
    by_cases e : q = j
    · subst e
      rw [show (xs.set q x).getD q zeroV = x from by simp [List.getD, hq]]
      have hlq := hl xs
      match m, hm with
      | 0, _ => rw [List.getElem?_set_ne (by omega), List.getElem?_set_ne (by omega), List.getElem?_set_ne (by omega), List.getElem?_set_ne (by omega), List.getElem?_set_self (by omega)]; rfl
      | 1, _ => rw [List.getElem?_set_ne (by omega), List.getElem?_set_ne (by omega), List.getElem?_set_ne (by omega), List.getElem?_set_self (by simp only [List.length_set]; omega)]; rfl
      | 2, _ => rw [List.getElem?_set_ne (by omega), List.getElem?_set_ne (by omega), List.getElem?_set_self (by simp only [List.length_set]; omega)]; rfl
      | 3, _ => rw [List.getElem?_set_ne (by omega), List.getElem?_set_self (by simp only [List.length_set]; omega)]; rfl
      | 4, _ => rw [List.getElem?_set_self (by simp only [List.length_set]; omega)]; rfl
    · rw [List.getElem?_set_ne (by omega), List.getElem?_set_ne (by omega), List.getElem?_set_ne (by omega), List.getElem?_set_ne (by omega), List.getElem?_set_ne (by omega), cellsV_get xs q m hq hm]
      rw [show (xs.set j x).getD q zeroV = xs.getD q zeroV from by simp [List.getD, List.getElem?_set_ne (fun h => e h.symm)]]
  · rw [List.getElem?_eq_none (by simp only [List.length_set]; rw [hl]; omega), List.getElem?_eq_none (by rw [hl, List.length_set]; omega)]
/-- A cell of a row of the call's own is set. -/
theorem ownsRow_setCell {w : World} {B : Nat} {e : TypeId} {size n c g : Nat} {xs : List Value} (h : w.ownsRow B e size (.slice (some ⟨g, 0, none⟩) n c) n xs) (t : Nat) (ht : t < n * size) (v : Value) :
    (w.setCell ⟨g, t, none⟩ v).ownsRow B e size (.slice (some ⟨g, 0, none⟩) n c) n (xs.set t v) := by
  obtain ⟨h1, h2⟩ := h
  refine ⟨by rw [List.length_set]; exact h1, ?_⟩
  rcases h2 with ⟨hz, _⟩ | ⟨g', cap, cur, hv, hg, hh, hn, hc, hs, htk⟩
  · cases hz
  · cases hv
    have hb : Blk w g cur.toList e := hh
    have hb2 : Blk (w.setCell ⟨g, t, none⟩ v) g (cur.toList.set t v) e := hb.set t v
    refine Or.inr ⟨g, c, (cur.toList.set t v).toArray, rfl, hg, hb2, hn, hc, by simpa using hs, ?_⟩
    rw [← htk]
    simp only [List.toList_toArray]
    rw [List.take_set]
theorem obRows_congr (o p : Nat → VOb) (F : Nat → Value) (n : Nat) (h : ∀ i, (o i).used = (p i).used ∧ (o i).k = (p i).k) : obRows o F n = obRows p F n := by
  induction n with
  | zero => rfl
  | succ n ih =>
    unfold obRows obCells
    rw [ih, (h n).1, (h n).2]
/-- A field is written. -/
theorem IsVh.write {w w' : World} {b base : Nat} {ks : List (List Int)} {o : Nat → VOb} {kv : Value} {F : Nat → Value} (h : IsVh w b base ks o kv F) {i : Nat} (hi : i < 64) (hus : (o i).used = true) (j : Nat) (x : Val) (hx : x.ok)
    {g n c : Nat} (hF : F i = .slice (some ⟨g, 0, none⟩) n c) (hg : base ≤ g) (u : Upd (fun k => k = g) w w') (hrow : w'.ownsRow base 26 5 (F i) (o i).f.length (cellsV ((o i).f.set j x))) :
    IsVh w' b base ks (setO o i ⟨true, (o i).k, (o i).f.set j x⟩) kv F := by
  have hbg : b ≠ g := by have := h.low; omega
  refine ⟨?_, h.low, Nat.le_trans h.size u.size, fun w2 u2 => h.kinds w2 ((u.mono (fun _ _ e => Or.inl (by omega))).trans u2), fun k hk => ?_, h.apart, fun k hk => ?_, fun k hk => ?_, fun k hk => ?_, fun k hk => ?_⟩
  · have e : vhCells kv (setO o i ⟨true, (o i).k, (o i).f.set j x⟩) F = vhCells kv o F := by
      unfold vhCells
      rw [obRows_congr _ o F 64 (fun k => ?_)]
      by_cases e : k = i
      · subst e; rw [setO_at]; exact ⟨hus.symm, rfl⟩
      · rw [setO_ne o _ e]; exact ⟨rfl, rfl⟩
    rw [e]
    exact h.blk.upd u hbg
  · by_cases e : k = i
    · subst e
      rw [setO_at]
      show World.ownsRow _ _ _ _ _ ((o k).f.set j x).length _
      rw [List.length_set]
      exact hrow
    · rw [setO_ne o _ e]
      obtain ⟨h1, h2⟩ := h.row k hk
      refine ⟨h1, ?_⟩
      rcases h2 with h2 | ⟨g', cap, cur, hv, hg', hh, r⟩
      · exact Or.inl h2
      · refine Or.inr ⟨g', cap, cur, hv, hg', ?_, r⟩
        have hne : g' ≠ g := fun e2 => h.apart i k hi hk (fun e3 => e e3.symm) g (by rw [hF]; rfl) (by rw [hv, e2]; rfl)
        rw [u.block g' (Array.getElem?_eq_some_iff.1 hh).1 hne]
        exact hh
  · by_cases e : k = i
    · subst e; rw [setO_at]; intro h; cases h
    · rw [setO_ne o _ e]; exact h.off k hk
  · by_cases e : k = i
    · subst e
      rw [setO_at]
      intro y hy
      rcases List.mem_or_eq_of_mem_set hy with hy | rfl
      · exact h.ok k hk y hy
      · exact hx
    · rw [setO_ne o _ e]; exact h.ok k hk
  · by_cases e : k = i
    · subst e
      rw [setO_at]
      show ((o k).f.set j x).length ≤ 15
      rw [List.length_set]
      exact h.few k hk
    · rw [setO_ne o _ e]; exact h.few k hk
  · by_cases e : k = i
    · subst e
      rw [setO_at]
      intro _
      obtain ⟨h1, h2, h3⟩ := h.kin k hk hus
      exact ⟨h1, h2, by show ((o k).f.set j x).length = _; rw [List.length_set]; exact h3⟩
    · rw [setO_ne o _ e]; exact h.kin k hk
end Go.Proofs.Ytcnbcidbbeadcaa

/- A heap of volatile objects: Set. -/

namespace Go.Proofs.Ytcnbcidbbeadcaa
open Go.RowKit Go.Deep
set_option linter.unusedVariables false

def setV (ks : List (List Int)) (o : Nat → VOb) (x j : Int) (v : Val) : (Nat → VOb) × Int := match findV o x with
  | none => (o, 2)
  | some i => if j < 0 ∨ ((o i).f.length : Int) ≤ j then (o, 4) else
    if fitsV (ks.getD (o i).k.toNat []) j v = true then (setO o i ⟨true, (o i).k, (o i).f.set j.toNat (toldV v)⟩, 0) else (o, 3)
def RetSt (w : World) (b base : Nat) (ks : List (List Int)) (kv : Value) (F : Nat → Value) (r : (Nat → VOb) × Int) (e : Ending) (w' : World) : Prop :=
  e = .returned (.int .i64 r.2) ∧ IsVh w' b base ks r.1 kv F ∧ Upd (fun j => ∃ i, i < 64 ∧ (F i).ownBlock = some j) w w'
theorem st_same {w w' : World} {b base : Nat} {ks : List (List Int)} {o : Nat → VOb} {kv : Value} {F : Nat → Value} (h : IsVh w b base ks o kv F) (n : Int) (u : Upd (fun _ => False) w w') :
    RetSt w b base ks kv F (o, n) (.returned (.int .i64 n)) w' := ⟨rfl, h.still u, u.mono (fun _ _ e => e.elim)⟩
set_option maxRecDepth 100000 in
set_option maxHeartbeats 2000000 in
theorem vh_Set_no {w : World} {b base : Nat} {ks : List (List Int)} {o : Nat → VOb} {kv : Value} {F : Nat → Value} (h : IsVh w b base ks o kv F) (x j : Int) (v : Val) (hn : findV o x = none) :
    Calls Try.prog 32 #[.pointer (some ⟨b, 0, none⟩), .int .i64 x, .int .i64 j, v.v] w (RetSt w b base ks kv F (setV ks o x j v)) := by
  have hs : setV ks o x j v = (o, 2) := by unfold setV; rw [hn]
  rw [hs]
  obtain ⟨a, n, re, im, r⟩ := v
  show Calls _ _ #[.pointer (some ⟨b, 0, none⟩), .int .i64 x, .int .i64 j, .agg #[.int .i64 a, .int .i64 n, .int .u64 (re : Int), .int .u64 (im : Int), .int .i64 r]] _ _
  have hu : Upd (fun _ => False) w (w.alloc (.cells #[.int .i64 a, .int .i64 n, .int .u64 (re : Int), .int .u64 (im : Int), .int .i64 r] 26)) := (Upd.refl _ _).alloc _
  have hf := vh_find (h.still hu) x
  rw [hn] at hf
  have hf := Lib.hid (show Calls Try.prog 61 #[.pointer (some ⟨b, 0, none⟩), .int .i64 x] _ (RetU _ (.pointer none)) from hf)
  have hm := Lib.hid (vh_missing b)
  have fin := Lib.hid (fun w' (u : Upd (fun _ => False) w w') => st_same h 2 u)
  have Hhu := Lib.hid hu; clear hu
  clear h hn hs
  go_enter Try.func32, Try.ntmps32
  go_wp2_with (first
    | (go_at_call 61; (with_reducible refine hf.out.mono ?_); rintro e w2 ⟨rfl, hu2⟩; have Hu2 := Lib.hid hu2; clear hu2)
    | (go_at_call 67; (with_reducible refine (hm.out _).mono ?_); rintro e w3 ⟨rfl, rfl⟩))
  go_ret
  exact fin.out _ (Hhu.out.trans Hu2.out)
set_option maxRecDepth 100000 in
set_option maxHeartbeats 2000000 in
theorem vh_Set_out {w : World} {b base : Nat} {ks : List (List Int)} {o : Nat → VOb} {kv : Value} {F : Nat → Value} (h : IsVh w b base ks o kv F) (x j : Int) (v : Val) {i : Nat} (hn : findV o x = some i) (hj : j < 0 ∨ ((o i).f.length : Int) ≤ j) :
    Calls Try.prog 32 #[.pointer (some ⟨b, 0, none⟩), .int .i64 x, .int .i64 j, v.v] w (RetSt w b base ks kv F (setV ks o x j v)) := by
  have hs : setV ks o x j v = (o, 4) := by unfold setV; rw [hn]; simp only; rw [if_pos hj]
  rw [hs]
  obtain ⟨hi, hus, -⟩ := findV_some hn
  obtain ⟨a, n, re, im, r⟩ := v
  show Calls _ _ #[.pointer (some ⟨b, 0, none⟩), .int .i64 x, .int .i64 j, .agg #[.int .i64 a, .int .i64 n, .int .u64 (re : Int), .int .u64 (im : Int), .int .i64 r]] _ _
  have hu : Upd (fun _ => False) w (w.alloc (.cells #[.int .i64 a, .int .i64 n, .int .u64 (re : Int), .int .u64 (im : Int), .int .i64 r] 26)) := (Upd.refl _ _).alloc _
  have h1 := h.still hu
  have hf := vh_find h1 x
  rw [hn] at hf
  have hf := Lib.hid (show Calls Try.prog 61 #[.pointer (some ⟨b, 0, none⟩), .int .i64 x] _ (RetU _ (.pointer (some ⟨b, 1 + i * 3, none⟩))) from hf)
  have hc := fun w' u => ((h1.still (w' := w') u).cell i hi).2.2
  obtain ⟨fa, fc, hfe, -, -, -⟩ := h.vals i hi
  rw [hfe] at hc
  have hc := Lib.hid hc
  have h15 : ((o i).f.length : Int) ≤ 15 := by have := h.few i hi; omega
  have fin := Lib.hid (fun w' (u : Upd (fun _ => False) w w') => st_same h 4 u)
  generalize (o i).f.length = fl at *
  have Hhu := Lib.hid hu; clear hu
  clear h h1 hn hs hus hi hfe
  rcases hj with hj | hj
  · go_enter Try.func32, Try.ntmps32
    go_wp2_with (go_at_call 61; (with_reducible refine hf.out.mono ?_); rintro e w2 ⟨rfl, hu2⟩; have cF := hc.out w2 hu2; have Hu2 := Lib.hid hu2; clear hu2)
    go_ret
    exact fin.out _ (Hhu.out.trans Hu2.out)
  · go_enter Try.func32, Try.ntmps32
    have hj2 : ¬ j < 0 := by omega
    go_wp2_with (go_at_call 61; (with_reducible refine hf.out.mono ?_); rintro e w2 ⟨rfl, hu2⟩; have cF := hc.out w2 hu2; have Hu2 := Lib.hid hu2; clear hu2)
    go_ret
    exact fin.out _ (Hhu.out.trans Hu2.out)
end Go.Proofs.Ytcnbcidbbeadcaa

