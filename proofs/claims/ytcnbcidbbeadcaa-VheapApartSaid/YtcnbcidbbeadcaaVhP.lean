/- A heap of volatile objects in memory; its searches. -/
import Derived.Test.YtcnbcidbbeadcaaObjD
import Derived.Test.YtcnbcidbbeadcaaSameV
import Derived.BigQuiet
namespace Go.Proofs.Ytcnbcidbbeadcaa
open Go.RowKit Go.Deep
set_option linter.unusedVariables false

structure VOb where
  used : Bool
  k : Int
  f : List Val
def noOb : VOb := ⟨false, 0, []⟩
def obCells (o : Nat → VOb) (F : Nat → Value) (i : Nat) : List Value := [.bool (o i).used, .int .i64 (o i).k, F i]
def obRows (o : Nat → VOb) (F : Nat → Value) : Nat → List Value
  | 0 => []
  | n + 1 => obRows o F n ++ obCells o F n
theorem obRows_len (o : Nat → VOb) (F : Nat → Value) (n : Nat) : (obRows o F n).length = n * 3 := by
  induction n with
  | zero => rfl
  | succ n ih =>
    simp only [obRows, List.length_append, ih, obCells, List.length_cons, List.length_nil]
    omega
theorem obRows_get (o : Nat → VOb) (F : Nat → Value) (n i j : Nat) (hi : i < n) (hj : j < 3) : (obRows o F n)[i * 3 + j]? = (obCells o F i)[j]? := by
  induction n with
  | zero => omega
  | succ n ih =>
    have hl := obRows_len o F n
    by_cases e : i = n
    · subst e
      rw [obRows, List.getElem?_append_right (by omega), hl]
      congr 1
      omega
    · rw [obRows, List.getElem?_append_left (by omega)]
      exact ih (by omega)
def vhCells (kv : Value) (o : Nat → VOb) (F : Nat → Value) : List Value := kv :: obRows o F 64
theorem vh_get (kv : Value) (o : Nat → VOb) (F : Nat → Value) (i j : Nat) (hi : i < 64) (hj : j < 3) : (vhCells kv o F)[1 + i * 3 + j]? = (obCells o F i)[j]? := by
  unfold vhCells
  rw [show 1 + i * 3 + j = (i * 3 + j) + 1 from by omega, List.getElem?_cons_succ]
  exact obRows_get o F 64 i j hi hj

/-- A heap of volatile objects: block b; the objects' fields lie in rows at or above base. -/
structure IsVh (w : World) (b base : Nat) (ks : List (List Int)) (o : Nat → VOb) (kv : Value) (F : Nat → Value) : Prop where
  blk : Blk w b (vhCells kv o F) 96
  low : b < base
  size : base ≤ w.heap.size
  kinds : ∀ w', Upd (fun j => base ≤ j ∨ j = b) w w' → MatIn w' kv ks
  row : ∀ i, i < 64 → w.ownsRow base 26 5 (F i) (o i).f.length (cellsV (o i).f)
  apart : ∀ i j, i < 64 → j < 64 → i ≠ j → ∀ g, (F i).ownBlock = some g → (F j).ownBlock ≠ some g
  off : ∀ i, i < 64 → (o i).used = false → o i = noOb
  ok : ∀ i, i < 64 → ∀ x ∈ (o i).f, x.ok
  few : ∀ i, i < 64 → (o i).f.length ≤ 15
  kin : ∀ i, i < 64 → (o i).used = true → 0 ≤ (o i).k ∧ (o i).k < ks.length ∧ (o i).f.length = (ks.getD (o i).k.toNat []).length
theorem IsVh.cell {w : World} {b base : Nat} {ks : List (List Int)} {o : Nat → VOb} {kv : Value} {F : Nat → Value} (h : IsVh w b base ks o kv F) (i : Nat) (hi : i < 64) :
    w.cell? ⟨b, 1 + i * 3, none⟩ = some (.bool (o i).used) ∧ w.cell? ⟨b, 1 + i * 3 + 1, none⟩ = some (.int .i64 (o i).k) ∧ w.cell? ⟨b, 1 + i * 3 + 2, none⟩ = some (F i) :=
  ⟨h.blk.cell (1 + i * 3 + 0) (vh_get kv o F i 0 hi (by decide)), h.blk.cell (1 + i * 3 + 1) (vh_get kv o F i 1 hi (by decide)), h.blk.cell (1 + i * 3 + 2) (vh_get kv o F i 2 hi (by decide))⟩
theorem IsVh.still {w w' : World} {b base : Nat} {ks : List (List Int)} {o : Nat → VOb} {kv : Value} {F : Nat → Value} (h : IsVh w b base ks o kv F) (u : Upd (fun _ => False) w w') : IsVh w' b base ks o kv F :=
  ⟨h.blk.upd u (fun x => x), h.low, Nat.le_trans h.size u.size, fun w2 u2 => h.kinds w2 ((u.mono (fun _ _ x => x.elim)).trans u2), fun i hi => by
    obtain ⟨h1, h2⟩ := h.row i hi
    refine ⟨h1, ?_⟩
    rcases h2 with h2 | ⟨g, cap, cur, hv, hg, hh, r⟩
    · exact Or.inl h2
    · refine Or.inr ⟨g, cap, cur, hv, hg, ?_, r⟩
      rw [u.block g (Array.getElem?_eq_some_iff.1 hh).1 (fun h => h)]
      exact hh, h.apart, h.off, h.ok, h.few, h.kin⟩

theorem vh_place (o : Int) (w : World) (h : -1000 ≤ o) (h2 : o ≤ 1000) : Calls Try.prog 60 #[.int .i64 o] w (Same w (.int .i64 (-1 - o))) := by
  have e : wrap64 (-1 - o) = -1 - o := by unfold wrap64; omega
  go_enter Try.func60, Try.ntmps60
  go_wp2
  go_ret
  exact ⟨by first | rfl | (simp; done) | (congr 2; omega), rfl⟩

/-- The place of an object's number, if there is one. -/
def findV (o : Nat → VOb) (x : Int) : Option Nat := if x < 0 ∧ -64 ≤ x ∧ (o (-1 - x).toNat).used = true then some (-1 - x).toNat else none
def ptrV (b : Nat) : Option Nat → Value
  | some i => .pointer (some ⟨b, 1 + i * 3, none⟩)
  | none => .pointer none
theorem later_same {P : Program} {f : FuncId} {args : Array Value} {v : Value} {w : World} (h : ∀ w, Calls P f args w (Same w v)) : ∀ w', Upd (fun _ => False) w w' → Calls P f args w' (fun e w'' => e = .returned v ∧ Upd (fun _ => False) w w'') :=
  fun w' u => (h w').mono (fun e w'' hh => ⟨hh.1, hh.2 ▸ u⟩)
set_option maxRecDepth 100000 in
set_option maxHeartbeats 2000000 in
theorem vh_find {w : World} {b base : Nat} {ks : List (List Int)} {o : Nat → VOb} {kv : Value} {F : Nat → Value} (h : IsVh w b base ks o kv F) (x : Int) :
    Calls Try.prog 61 #[.pointer (some ⟨b, 0, none⟩), .int .i64 x] w (RetU w (ptrV b (findV o x))) := by
  have hp63 := Lib.hid (later_same (w := w) (fun w => (show Calls Try.prog 60 #[.int .i64 63] w (Same w (.int .i64 (-64))) from vh_place 63 w (by decide) (by decide))))
  by_cases x0 : 0 ≤ x
  · have hf : findV o x = none := by unfold findV; rw [if_neg (by omega)]
    rw [hf]
    clear hf h
    have d0 : decide (0 ≤ x) = true := by simpa using x0
    go_enter Try.func61, Try.ntmps61
    go_wp2
    refine wp_region_later (by kernel_rfl) (by kernel_rfl) ?_
    repeat (go_big_quiet_step (fail))
    refine wpQuiet_nil ?_
    intro w4 hw4
    have u4 : Upd (fun _ => False) w w4 := by
      obtain ⟨s, rfl⟩ := hw4
      exact s.up
    clear hw4
    go_wp2
    go_ret
    exact ⟨rfl, u4⟩
  · have d0 : decide (0 ≤ x) = false := by simpa using x0
    by_cases x1 : x < -64
    · have hf : findV o x = none := by unfold findV; rw [if_neg (by omega)]
      rw [hf]
      clear hf h
      have d1 : decide (x < -64) = true := by simpa using x1
      go_enter Try.func61, Try.ntmps61
      go_wp2
      refine wp_region_later (by kernel_rfl) (by kernel_rfl) ?_
      repeat (go_big_quiet_step ((go_at_call 60; exact calls_later (hp63.out _ (Later.up _)))))
      refine wpQuiet_nil ?_
      intro w4 hw4
      have u4 : Upd (fun _ => False) w w4 := by
        obtain ⟨s, rfl⟩ := hw4
        exact s.up
      clear hw4
      go_wp2
      go_ret
      exact ⟨rfl, u4⟩
    · have d1 : decide (x < -64) = false := by simpa using x1
      obtain ⟨i, rfl⟩ : ∃ i : Nat, x = -1 - (i : Int) := ⟨(-1 - x).toNat, by omega⟩
      have hi : i < 64 := by omega
      have c0 := fun (s : Later w) => ((h.still s.up).cell i hi).1
      have hpl : ∀ w, Calls Try.prog 60 #[.int .i64 (-1 - (i : Int))] w (Same w (.int .i64 i)) := fun w => by
        have := vh_place (-1 - (i : Int)) w (by omega) (by omega)
        rw [show -1 - (-1 - (i : Int)) = i from by omega] at this
        exact this
      have hpl1 := Lib.hid (later_same (w := w) hpl)
      have hpl2 := Lib.hid (fun w4 => later_same (w := w4) hpl)
      have hi64 : (i : Int) < 64 := by omega
      have hfd : findV o (-1 - (i : Int)) = if (o i).used = true then some i else none := by
        unfold findV
        have e : (-1 - (-1 - (i : Int))).toNat = i := by omega
        rw [e]
        by_cases hu : (o i).used = true
        · rw [if_pos ⟨by omega, by omega, hu⟩, if_pos hu]
        · rw [if_neg (fun h => hu h.2.2), if_neg hu]
      rw [hfd]
      clear hpl hfd h
      obtain ⟨x, hx⟩ : ∃ x, -1 - (i : Int) = x := ⟨_, rfl⟩
      rw [hx] at hpl1 hpl2 x0 x1 d0 d1 ⊢
      clear hx
      cases hu : (o i).used with
      | false =>
        rw [hu] at c0
        clear hu
        go_enter Try.func61, Try.ntmps61
        go_wp2
        refine wp_region_later (by kernel_rfl) (by kernel_rfl) ?_
        repeat (go_big_quiet_step ((first | (go_at_call 60; exact calls_later (hp63.out _ (Later.up _))) | (go_at_call 60; exact calls_later (hpl1.out _ (Later.up _))))))
        refine wpQuiet_nil ?_
        intro w4 hw4
        have u4 : Upd (fun _ => False) w w4 := by
          obtain ⟨s, rfl⟩ := hw4
          exact s.up
        clear hw4
        clear c0
        go_wp2
        go_ret
        exact ⟨rfl, u4⟩
      | true =>
        rw [hu] at c0
        clear hu
        go_enter Try.func61, Try.ntmps61
        go_wp2
        refine wp_region_later (by kernel_rfl) (by kernel_rfl) ?_
        repeat (go_big_quiet_step ((first | (go_at_call 60; exact calls_later (hp63.out _ (Later.up _))) | (go_at_call 60; exact calls_later (hpl1.out _ (Later.up _))))))
        refine wpQuiet_nil ?_
        intro w4 hw4
        have u4 : Upd (fun _ => False) w w4 := by
          obtain ⟨s, rfl⟩ := hw4
          exact s.up
        clear hw4
        clear c0
        go_wp2
        have Hu4 := Lib.hid u4
        clear u4
        obtain ⟨wm, hwm⟩ : ∃ wm : World, wm = w4 := ⟨_, rfl⟩
        subst hwm
        refine wp_region_later (by kernel_rfl) (by kernel_rfl) ?_
        repeat (go_big_quiet_step ((go_at_call 60; exact calls_later (hpl2.out _ _ (Later.up _)))))
        refine wpQuiet_nil ?_
        intro w4 hw4
        have u5 : Upd (fun _ => False) wm w4 := by
          obtain ⟨s, rfl⟩ := hw4
          exact s.up
        clear hw4
        go_wp2
        go_ret
        exact ⟨rfl, Hu4.out.trans u5⟩
end Go.Proofs.Ytcnbcidbbeadcaa
