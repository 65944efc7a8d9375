/- A heap of volatile objects in memory; its searches. -/
import Derived.Test.YtcnbcidbbeadcaaObjD
import Derived.Test.YtcnbcidbbeadcaaSameV
import Derived.BigQuiet
-- merged




namespace Go.Proofs.Ytcnbcidbbeadcaa
open Go.RowKit Go.Deep
set_option linter.unusedVariables false

structure VOb where
  used : Bool
  k : Int
  f : List Val
def noOb : VOb := ⟨false, 0, []⟩
def obCells (o : Nat → VOb) (F : Nat → Value) (i : Nat) : List Value := [.bool (o i).used, .int .i64 (o i).k, F i]
def obRows (o : Nat → VOb) (F : Nat → Value) : Nat → List Value
  | 0 => []
  | n + 1 => obRows o F n ++ obCells o F n
theorem obRows_len (o : Nat → VOb) (F : Nat → Value) (n : Nat) : (obRows o F n).length = n * 3 := by
  induction n with
  | zero => rfl
  | succ n ih =>
    simp only [obRows, List.length_append, ih, obCells, List.length_cons, List.length_nil]
    omega
theorem obRows_get (o : Nat → VOb) (F : Nat → Value) (n i j : Nat) (hi : i < n) (hj : j < 3) : (obRows o F n)[i * 3 + j]? = (obCells o F i)[j]? := by
  induction n with
  | zero => omega
  | succ n ih =>
    have hl := obRows_len o F n
    by_cases e : i = n
    · subst e
      rw [obRows, List.getElem?_append_right (by omega), hl]
      congr 1
      omega
    · rw [obRows, List.getElem?_append_left (by omega)]
      exact ih (by omega)
def vhCells (kv : Value) (o : Nat → VOb) (F : Nat → Value) : List Value := kv :: obRows o F 64
theorem vh_get (kv : Value) (o : Nat → VOb) (F : Nat → Value) (i j : Nat) (hi : i < 64) (hj : j < 3) : (vhCells kv o F)[1 + i * 3 + j]? = (obCells o F i)[j]? := by
  unfold vhCells
  rw [show 1 + i * 3 + j = (i * 3 + j) + 1 from by omega, List.getElem?_cons_succ]
  exact obRows_get o F 64 i j hi hj

/-- A heap of volatile objects: block b; the objects' fields lie in rows at or above base. -/
structure IsVh (w : World) (b base : Nat) (ks : List (List Int)) (o : Nat → VOb) (kv : Value) (F : Nat → Value) : Prop where
  blk : Blk w b (vhCells kv o F) 96
  low : b < base
  size : base ≤ w.heap.size
  kinds : ∀ w', Upd (fun j => base ≤ j ∨ j = b) w w' → MatIn w' kv ks
  row : ∀ i, i < 64 → w.ownsRow base 26 5 (F i) (o i).f.length (cellsV (o i).f)
  apart : ∀ i j, i < 64 → j < 64 → i ≠ j → ∀ g, (F i).ownBlock = some g → (F j).ownBlock ≠ some g
  off : ∀ i, i < 64 → (o i).used = false → o i = noOb
  ok : ∀ i, i < 64 → ∀ x ∈ (o i).f, x.ok
  few : ∀ i, i < 64 → (o i).f.length ≤ 15
  kin : ∀ i, i < 64 → (o i).used = true → 0 ≤ (o i).k ∧ (o i).k < ks.length ∧ (o i).f.length = (ks.getD (o i).k.toNat []).length
theorem IsVh.cell {w : World} {b base : Nat} {ks : List (List Int)} {o : Nat → VOb} {kv : Value} {F : Nat → Value} (h : IsVh w b base ks o kv F) (i : Nat) (hi : i < 64) :
    w.cell? ⟨b, 1 + i * 3, none⟩ = some (.bool (o i).used) ∧ w.cell? ⟨b, 1 + i * 3 + 1, none⟩ = some (.int .i64 (o i).k) ∧ w.cell? ⟨b, 1 + i * 3 + 2, none⟩ = some (F i) :=
  ⟨h.blk.cell (1 + i * 3 + 0) (vh_get kv o F i 0 hi (by decide)), h.blk.cell (1 + i * 3 + 1) (vh_get kv o F i 1 hi (by decide)), h.blk.cell (1 + i * 3 + 2) (vh_get kv o F i 2 hi (by decide))⟩
theorem IsVh.still {w w' : World} {b base : Nat} {ks : List (List Int)} {o : Nat → VOb} {kv : Value} {F : Nat → Value} (h : IsVh w b base ks o kv F) (u : Upd (fun _ => False) w w') : IsVh w' b base ks o kv F :=
  ⟨h.blk.upd u (fun x => x), h.low, Nat.le_trans h.size u.size, fun w2 u2 => h.kinds w2 ((u.mono (fun _ _ x => x.elim)).trans u2), fun i hi => by
    obtain ⟨h1, h2⟩ := h.row i hi
    refine ⟨h1, ?_⟩
    rcases h2 with h2 | ⟨g, cap, cur, hv, hg, hh, r⟩
    · exact Or.inl h2
    · refine Or.inr ⟨g, cap, cur, hv, hg, ?_, r⟩
      rw [u.block g (Array.getElem?_eq_some_iff.1 hh).1 (fun h => h)]
      exact hh, h.apart, h.off, h.ok, h.few, h.kin⟩

theorem vh_place (o : Int) (w : World) (h : -1000 ≤ o) (h2 : o ≤ 1000) : Calls Try.prog 60 #[.int .i64 o] w (Same w (.int .i64 (-1 - o))) := by
  have e : wrap64 (-1 - o) = -1 - o := by unfold wrap64; omega
  go_enter Try.func60, Try.ntmps60
  go_wp2
  go_ret
  exact ⟨by first | rfl | (simp; done) | (congr 2; omega), rfl⟩

/-- The place of an object's number, if there is one. -/
def findV (o : Nat → VOb) (x : Int) : Option Nat := if x < 0 ∧ -64 ≤ x ∧ (o (-1 - x).toNat).used = true then some (-1 - x).toNat else none
def ptrV (b : Nat) : Option Nat → Value
  | some i => .pointer (some ⟨b, 1 + i * 3, none⟩)
  | none => .pointer none
theorem later_same {P : Program} {f : FuncId} {args : Array Value} {v : Value} {w : World} (h : ∀ w, Calls P f args w (Same w v)) : ∀ w', Upd (fun _ => False) w w' → Calls P f args w' (fun e w'' => e = .returned v ∧ Upd (fun _ => False) w w'') :=
  fun w' u => (h w').mono (fun e w'' hh => ⟨hh.1, hh.2 ▸ u⟩)
set_option maxRecDepth 100000 in
set_option maxHeartbeats 2000000 in
theorem vh_find {w : World} {b base : Nat} {ks : List (List Int)} {o : Nat → VOb} {kv : Value} {F : Nat → Value} (h : IsVh w b base ks o kv F) (x : Int) :
    Calls Try.prog 61 #[.pointer (some ⟨b, 0, none⟩), .int .i64 x] w (RetU w (ptrV b (findV o x))) := by
  have hp63 := Lib.hid (later_same (w := w) (fun w => (show Calls Try.prog 60 #[.int .i64 63] w (Same w (.int .i64 (-64))) from vh_place 63 w (by decide) (by decide))))
  by_cases x0 : 0 ≤ x
  · have hf : findV o x = none := by unfold findV; rw [if_neg (by omega)]
    rw [hf]
    clear hf h
    have d0 : decide (0 ≤ x) = true := by simpa using x0
    go_enter Try.func61, Try.ntmps61
    go_wp2
    refine wp_region_later (by kernel_rfl) (by kernel_rfl) ?_
    repeat (go_big_quiet_step (fail))
    refine wpQuiet_nil ?_
    intro w4 hw4
    have u4 : Upd (fun _ => False) w w4 := by
      obtain ⟨s, rfl⟩ := hw4
      exact s.up
    clear hw4
    go_wp2
    go_ret
    exact ⟨rfl, u4⟩
  · have d0 : decide (0 ≤ x) = false := by simpa using x0
    by_cases x1 : x < -64
    · have hf : findV o x = none := by unfold findV; rw [if_neg (by omega)]
      rw [hf]
      clear hf h
      have d1 : decide (x < -64) = true := by simpa using x1
      go_enter Try.func61, Try.ntmps61
      go_wp2
      refine wp_region_later (by kernel_rfl) (by kernel_rfl) ?_
      repeat (go_big_quiet_step ((go_at_call 60; exact calls_later (hp63.out _ (Later.up _)))))
      refine wpQuiet_nil ?_
      intro w4 hw4
      have u4 : Upd (fun _ => False) w w4 := by
        obtain ⟨s, rfl⟩ := hw4
        exact s.up
      clear hw4
      go_wp2
      go_ret
      exact ⟨rfl, u4⟩
    · have d1 : decide (x < -64) = false := by simpa using x1
      obtain ⟨i, rfl⟩ : ∃ i : Nat, x = -1 - (i : Int) := ⟨(-1 - x).toNat, by omega⟩
      have hi : i < 64 := by omega
      have c0 := fun (s : Later w) => ((h.still s.up).cell i hi).1
      have hpl : ∀ w, Calls Try.prog 60 #[.int .i64 (-1 - (i : Int))] w (Same w (.int .i64 i)) := fun w => by
        have := vh_place (-1 - (i : Int)) w (by omega) (by omega)
        rw [show -1 - (-1 - (i : Int)) = i from by omega] at this
        exact this
      have hpl1 := Lib.hid (later_same (w := w) hpl)
      have hpl2 := Lib.hid (fun w4 => later_same (w := w4) hpl)
      have hi64 : (i : Int) < 64 := by omega
      have hfd : findV o (-1 - (i : Int)) = if (o i).used = true then some i else none := by
        unfold findV
        have e : (-1 - (-1 - (i : Int))).toNat = i := by omega
        rw [e]
        by_cases hu : (o i).used = true
        · rw [if_pos ⟨by omega, by omega, hu⟩, if_pos hu]
        · rw [if_neg (fun h => hu h.2.2), if_neg hu]
      rw [hfd]
      clear hpl hfd h
      obtain ⟨x, hx⟩ : ∃ x, -1 - (i : Int) = x := ⟨_, rfl⟩
      rw [hx] at hpl1 hpl2 x0 x1 d0 d1 ⊢
      clear hx
      cases hu : (o i).used with
      | false =>
        rw [hu] at c0
        clear hu
        go_enter Try.func61, Try.ntmps61
        go_wp2
        refine wp_region_later (by kernel_rfl) (by kernel_rfl) ?_
        repeat (go_big_quiet_step ((first | (go_at_call 60; exact calls_later (hp63.out _ (Later.up _))) | (go_at_call 60; exact calls_later (hpl1.out _ (Later.up _))))))
        refine wpQuiet_nil ?_
        intro w4 hw4
        have u4 : Upd (fun _ => False) w w4 := by
          obtain ⟨s, rfl⟩ := hw4
          exact s.up
        clear hw4
        clear c0
        go_wp2
        go_ret
        exact ⟨rfl, u4⟩
      | true =>
        rw [hu] at c0
        clear hu
        go_enter Try.func61, Try.ntmps61
        go_wp2
        refine wp_region_later (by kernel_rfl) (by kernel_rfl) ?_
        repeat (go_big_quiet_step ((first | (go_at_call 60; exact calls_later (hp63.out _ (Later.up _))) | (go_at_call 60; exact calls_later (hpl1.out _ (Later.up _))))))
        refine wpQuiet_nil ?_
        intro w4 hw4
        have u4 : Upd (fun _ => False) w w4 := by
          obtain ⟨s, rfl⟩ := hw4
          exact s.up
        clear hw4
        clear c0
        go_wp2
        have Hu4 := Lib.hid u4
        clear u4
        obtain ⟨wm, hwm⟩ : ∃ wm : World, wm = w4 := ⟨_, rfl⟩
        subst hwm
        refine wp_region_later (by kernel_rfl) (by kernel_rfl) ?_
        repeat (go_big_quiet_step ((go_at_call 60; exact calls_later (hpl2.out _ _ (Later.up _)))))
        refine wpQuiet_nil ?_
        intro w4 hw4
        have u5 : Upd (fun _ => False) wm w4 := by
          obtain ⟨s, rfl⟩ := hw4
          exact s.up
        clear hw4
        go_wp2
        go_ret
        exact ⟨rfl, Hu4.out.trans u5⟩
end Go.Proofs.Ytcnbcidbbeadcaa

/- All, Len, Refs, Kind, Get of a heap of volatile objects. -/

namespace Go.Proofs.Ytcnbcidbbeadcaa
open Go.RowKit Go.Deep
set_option linter.unusedVariables false

def allTo (o : Nat → VOb) : Nat → List Int
  | 0 => []
  | k + 1 => allTo o k ++ (if (o k).used then [-1 - (k : Int)] else [])
def allV (o : Nat → VOb) : List Int := allTo o 64
theorem allTo_len (o : Nat → VOb) (k : Nat) : (allTo o k).length ≤ k := by
  induction k with
  | zero => exact Nat.le_refl _
  | succ k ih =>
    simp only [allTo, List.length_append]
    split <;> simp <;> omega
def RetNums (w : World) (xs : List Int) (e : Ending) (w' : World) : Prop :=
  ∃ a c, e = .returned (.slice a xs.length c) ∧ w'.ownsRow w.heap.size 3 1 (.slice a xs.length c) xs.length (ints xs) ∧ Upd (fun _ => False) w w'

theorem run_isAgg {P : Program} {ty : TypeId} {d : TypeDesc} (hu : P.underlying ty = some d) (hd : (match d with | .struct _ | .array _ _ => true | _ => false) = true) (w : World) : (isAgg ty).run P w = .ok true w := by
  unfold isAgg
  rw [Sem.run_bind, run_underlying hu w]
  cases d <;> simp_all
/-- The load of a struct or an array from anywhere in a block. -/
theorem wp_load_at {P : Program} {Q : Exit → Act → World → Prop} {K : Act → World → Prop} {o : Oper} {a : Act} {w : World} (ty : TypeId) (x : Operand) (ho : o.op = .load ty x) (g off : Nat) (hx : a.eval x = .pointer (some ⟨g, off, none⟩)) (cs : List Value)
    (hc : ∀ j v, cs[j]? = some v → w.cell? ⟨g, off + j, none⟩ = some v) (d : TypeDesc) (hu : P.underlying ty = some d) (hd : (match d with | .struct _ | .array _ _ => true | _ => false) = true) (hi : (P.info? ty).map (·.size) = some cs.length)
    (h : K (a.put o.dst (.agg cs.toArray)) w) : o.wp P a w K Q := by
  have hl : (loadCells ⟨g, off, none⟩ cs.length).run P w = .ok cs.toArray w :=
    run_loadCells_list (P := P) w ⟨g, off, none⟩ cs (fun j v hv => by
      have hadd : (⟨g, off, none⟩ : Addr).add j = ⟨g, off + j, none⟩ := by unfold Addr.add; split <;> simp_all
      rw [hadd]
      exact hc j v hv)
  have hrun : (loadVar ty ⟨g, off, none⟩).run P w = .ok (.agg cs.toArray) w := by
    cases hq : P.info? ty with
    | none => simp [hq] at hi
    | some i =>
      have hs : i.size = cs.length := by simpa [hq] using hi
      simp [loadVar, Sem.run_bind, run_isAgg hu hd w, sizeOf, typeInfo, hq, hs, hl]
  unfold Oper.wp execOp
  simp only [ho, hx, Instr.loadAt, Instr.sureAddr, Sem.run_bind, Sem.run_pure, Result.andThen_ok, hrun]
  exact h
set_option maxRecDepth 100000 in
theorem run_index_obj (L : List Value) (x y z : Value) (i : Nat) (hi : i < 64) (hl : L.length = 192) (h0 : L[i * 3 + 0]? = some x) (h1 : L[i * 3 + 1]? = some y) (h2 : L[i * 3 + 2]? = some z) (w : World) :
    (Instr.index 94 (.agg L.toArray) (.int .i64 i)).run Try.prog w = .ok (.agg #[x, y, z]) w := by
  have hsz : (Try.prog.info? 93).map (·.size) = some 3 := by kernel_rfl
  have hex : L.toArray.extract (i * 3) (i * 3 + 3) = #[x, y, z] := by
    apply Array.ext
    · simp
      omega
    · intro j g1 g2
      have g2 : j < 3 := g2
      rw [Array.getElem_extract]
      have hl' : i * 3 + j < L.length := by omega
      simp only [List.getElem_toArray]
      match j, g2 with
      | 0, _ => rw [List.getElem?_eq_getElem hl'] at h0; simpa using h0
      | 1, _ => rw [List.getElem?_eq_getElem hl'] at h1; simpa using h1
      | 2, _ => rw [List.getElem?_eq_getElem hl'] at h2; simpa using h2
  obtain ⟨inf, hinf, hs⟩ := Option.map_eq_some_iff.1 hsz
  have hpart : (part 93 L.toArray (i * 3)).run Try.prog w = .ok (.agg #[x, y, z]) w := by
    unfold part
    simp [Sem.run_bind, run_isAgg Try.underlying93 rfl w, sizeOf, typeInfo, hinf, hs]
    simpa using hex
  have hpos : (0 : Int) ≤ (i : Int) ∧ (i : Int) < (64 : Nat) := by omega
  have hpos2 : (i : Int) < 64 := by omega
  unfold Instr.index
  simp [Sem.run_bind, asIntOf, run_underlying Try.underlying94 w, sizeOf, typeInfo, hinf, hs, hpart, hi, hpos2]

set_option maxRecDepth 100000 in
set_option maxHeartbeats 2000000 in
theorem vh_All {w : World} {b base : Nat} {ks : List (List Int)} {o : Nat → VOb} {kv : Value} {F : Nat → Value} (h : IsVh w b base ks o kv F) :
    Calls Try.prog 33 #[.pointer (some ⟨b, 0, none⟩)] w (RetNums w (allV o)) := by
  obtain ⟨L, hL⟩ : ∃ L, obRows o F 64 = L := ⟨_, rfl⟩
  have hll : L.length = 192 := by rw [← hL, obRows_len]
  have hg : ∀ i j, i < 64 → j < 3 → L[i * 3 + j]? = (obCells o F i)[j]? := fun i j hi hj => by rw [← hL]; exact obRows_get o F 64 i j hi hj
  have hblk : Blk w b (kv :: L) 96 := by rw [← hL]; exact h.blk
  have hcl : ∀ j v, L[j]? = some v → w.cell? ⟨b, 1 + j, none⟩ = some v := fun j v hj => hblk.cell (1 + j) (by rw [Nat.add_comm 1 j, List.getElem?_cons_succ]; exact hj)
  have hidx := Lib.hid (fun i (hi : i < 64) => run_index_obj L _ _ _ i hi hll (hg i 0 hi (by decide)) (hg i 1 hi (by decide)) (hg i 2 hi (by decide)))
  have hsz : (Try.prog.info? 94).map (·.size) = some L.length := by rw [hll]; kernel_rfl
  have hpl := Lib.hid (fun (k : Nat) (hk : k < 64) w => vh_place (k : Int) w (by omega) (by omega))
  have hlen := Lib.hid (allTo_len o)
  have hsh := Lib.hid (fun i (hi : i < 64) => show ∃ a n c, F i = .slice a n c from by
    rcases (h.row i hi).2 with ⟨hv, -⟩ | ⟨g, cap, cur, hv, -⟩
    · exact ⟨_, _, _, hv⟩
    · exact ⟨_, _, _, hv⟩)
  clear hL hg hblk hll h
  go_enter Try.func33, Try.ntmps33
  go_wp2_with fail
  refine wp_load_at 94 (.tmp 10) rfl b 1 rfl L hcl _ Try.underlying94 rfl hsz ?_
  clear hcl hsz
  generalize L.toArray = A at *
  go_wp2_with fail
  go_loopw [3, 12] (fun s i wr => ∃ (k : Nat) (oa : Option Addr) (oc : Nat), i = .int .i64 k ∧ k ≤ 64 ∧ s = .slice oa (allTo o k).length oc ∧ wr.ownsRow w.heap.size 3 1 (.slice oa (allTo o k).length oc) (allTo o k).length (ints (allTo o k)) ∧ Upd (fun _ => False) w wr) (fun _ i _ => (64 - intOf i).toNat)
  case atStart => exact ⟨0, none, 0, rfl, by omega, rfl, World.ownsRow_nil _ _ _ _, Upd.refl _ _⟩
  case round =>
    obtain ⟨k, oa, oc, rfl, hk, rfl, ho, hu⟩ := hrel
    by_cases hk2 : k = 64
    · subst hk2
      have fin : RetNums w (allV o) (.returned (.slice oa (allTo o 64).length oc)) wr := ⟨oa, oc, rfl, ho, hu⟩
      have Hfin := Lib.hid fin; clear fin
      clear ho hu
      generalize (allTo o 64).length = n64 at *
      rw [show ((64 : Nat) : Int) = 64 from rfl]
      go_wp2_with fail
      go_ret
      exact Hfin.out
    · have hk3 : k < 64 := by omega
      have d1 : (k : Int) < 64 := by omega
      have hix := hidx.out k hk3
      have hp := hpl.out k hk3
      have hst : allTo o (k + 1) = allTo o k ++ (if (o k).used then [-1 - (k : Int)] else []) := rfl
      have hn64 := hlen.out k
      generalize allTo o k = xs at *
      obtain ⟨fa, fn, fc, hfe⟩ := hsh.out k hk3
      rw [hfe] at hix
      clear hfe
      generalize (o k).k = kk at *
      have hz0 := hu.size
      have hrow : ∀ j, (Value.slice oa xs.length oc).ownBlock = some j → w.heap.size ≤ j := by
        intro j e
        rcases ho.2 with ⟨hz, -⟩ | ⟨g, cap, cur, hv, hg, -⟩
        · rw [hz] at e
          cases e
        · rw [hv] at e
          have : g = j := by simpa [Value.ownBlock] using e
          omega
      cases hus : (o k).used with
      | false =>
        rw [hus] at hix hst
        simp only [Bool.false_eq_true, if_false, List.append_nil] at hst
        have Hho := Lib.hid ho; clear ho
        have Hhst := Lib.hid hst; clear hst
        have Hhu := Lib.hid hu; clear hu
        clear hp hk2 hrow
        go_wp2_with fail
        go_roundw
        case rel => exact ⟨k + 1, oa, oc, by go_num, by omega, by rw [Hhst.out], by rw [Hhst.out]; exact Hho.out.alloc _, Hhu.out.alloc _⟩
        case measure => simp [intOf]; omega
      | true =>
        rw [hus] at hix hst
        simp only [if_true] at hst
        obtain ⟨y, hy⟩ : ∃ y, -1 - (k : Int) = y := ⟨_, rfl⟩
        rw [hy] at hp hst
        have hl2 : (xs ++ [y]).length = xs.length + 1 := by simp
        have hl3 : xs.length ≤ 1099511627776 := by omega
        have hcl : ((wr.alloc (.cells #[.bool true, .int .i64 kk, .slice fa fn fc] 93)).alloc (.cells #[.int .i64 y] 3)).cell? ⟨wr.heap.size + 1, 0, none⟩ = some (.int .i64 y) := by
          have := (Blk.new (wr.alloc (.cells #[.bool true, .int .i64 kk, .slice fa fn fc] 93)) [.int .i64 y] 3).cell 0 rfl
          rwa [alloc_size] at this
        have hp := Lib.hid hp
        have hua : Upd (fun _ => False) w ((wr.alloc (.cells #[.bool true, .int .i64 kk, .slice fa fn fc] 93)).alloc (.cells #[.int .i64 y] 3)) := (hu.alloc _).alloc _
        have hgz : w.heap.size ≤ wr.heap.size + 1 := by omega
        have hown2 := (ho.alloc (.cells #[.bool true, .int .i64 kk, .slice fa fn fc] 93)).alloc (.cells #[.int .i64 y] 3)
        have Hho := Lib.hid ho; clear ho
        have Hhst := Lib.hid hst; clear hst
        have Hhu := Lib.hid hu; clear hu
        have Hhcl := Lib.hid hcl; clear hcl
        have Hhua := Lib.hid hua; clear hua
        have Hhown2 := Lib.hid hown2; clear hown2
        have Hhl2 := Lib.hid hl2; clear hl2
        clear hk2 hy
        go_wp2_with (first
          | (go_at_call 60; (with_reducible refine (hp.out _).mono ?_); rintro e w4 ⟨rfl, rfl⟩)
          | (at_builtin; refine wpList_push rfl _ _ 52 3 rfl (.int .i64 0) 8 Try.underlying52 infoInt rfl w.heap.size _ _ _ rfl Hhown2.out (wr.heap.size + 1) 1 (.int .i64 y) rfl Hhcl.out rfl hl3 (by decide) hgz ?_; intro oa' oc' w5 ho5 hg5; have HE := Lib.hid (And.intro ho5 hg5); clear ho5 hg5))
        go_roundw
        case rel => exact ⟨k + 1, oa', oc', by go_num, by omega, by rw [Hhst.out, Hhl2.out], by rw [Hhst.out, Hhl2.out]; have := HE.out.1; rw [show ints (xs ++ [y]) = ints xs ++ [.int .i64 y] from by simp [ints]]; exact this, Hhua.out.grown HE.out.2 (fun j e hj => absurd hj (by have := hrow j e; omega))⟩
        case measure => simp [intOf]; omega

theorem vh_Len {w : World} {b base : Nat} {ks : List (List Int)} {o : Nat → VOb} {kv : Value} {F : Nat → Value} (h : IsVh w b base ks o kv F) :
    Calls Try.prog 27 #[.pointer (some ⟨b, 0, none⟩)] w (RetU w (.int .i64 ((allV o).length : Int))) := by
  have ha := Lib.hid (vh_All h)
  generalize allV o = xs at *
  clear h
  go_enter Try.func27, Try.ntmps27
  go_wp2_with (go_at_call 33; (with_reducible refine ha.out.mono ?_); rintro e w2 ⟨a, c, rfl, ho2, hu2⟩; clear ho2)
  go_ret
  exact ⟨rfl, by assumption⟩
end Go.Proofs.Ytcnbcidbbeadcaa

/- Kind, Get, Refs of a heap of volatile objects. -/

namespace Go.Proofs.Ytcnbcidbbeadcaa
open Go.RowKit Go.Deep
set_option linter.unusedVariables false

theorem findV_some {o : Nat → VOb} {x : Int} {i : Nat} (h : findV o x = some i) : i < 64 ∧ (o i).used = true ∧ x = -1 - (i : Int) := by
  unfold findV at h
  split at h
  · rename_i h1
    cases h
    exact ⟨by omega, h1.2.2, by omega⟩
  · cases h
theorem vh_missing (b : Nat) (w : World) : Calls Try.prog 67 #[.pointer (some ⟨b, 0, none⟩)] w (Same w (.int .i64 2)) := by
  go_enter Try.func67, Try.ntmps67
  go_wp2
  go_ret
  exact ⟨rfl, rfl⟩
def kindV (o : Nat → VOb) (x : Int) : Int × Int := match findV o x with
  | none => (0, 2)
  | some i => ((o i).k, 0)
theorem vh_Kind {w : World} {b base : Nat} {ks : List (List Int)} {o : Nat → VOb} {kv : Value} {F : Nat → Value} (h : IsVh w b base ks o kv F) (x : Int) :
    Calls Try.prog 39 #[.pointer (some ⟨b, 0, none⟩), .int .i64 x] w (RetU w (.tuple #[.int .i64 (kindV o x).1, .int .i64 (kindV o x).2])) := by
  have hf := vh_find h x
  have hms := Lib.hid (vh_missing b)
  unfold kindV
  cases hfv : findV o x with
  | none =>
    rw [hfv] at hf
    have hf := Lib.hid (show Calls Try.prog 61 #[.pointer (some ⟨b, 0, none⟩), .int .i64 x] w (RetU w (.pointer none)) from hf)
    clear h hfv
    go_enter Try.func39, Try.ntmps39
    go_wp2_with (first
      | (go_at_call 61; (with_reducible refine hf.out.mono ?_); rintro e w2 ⟨rfl, hu2⟩; have Hu2 := Lib.hid hu2; clear hu2)
      | (go_at_call 67; (with_reducible refine (hms.out _).mono ?_); rintro e w3 ⟨rfl, rfl⟩))
    go_ret2
    exact ⟨rfl, Hu2.out⟩
  | some i =>
    rw [hfv] at hf
    obtain ⟨hi, hus, -⟩ := findV_some hfv
    have hf := Lib.hid (show Calls Try.prog 61 #[.pointer (some ⟨b, 0, none⟩), .int .i64 x] w (RetU w (.pointer (some ⟨b, 1 + i * 3, none⟩))) from hf)
    have hc := Lib.hid (fun w' (u : Upd (fun _ => False) w w') => ((h.still u).cell i hi).2.1)
    show Calls _ _ _ _ (RetU w (.tuple #[.int .i64 (o i).k, .int .i64 0]))
    generalize (o i).k = kk at *
    clear h hfv hus hi
    generalize 1 + i * 3 = at1 at *
    go_enter Try.func39, Try.ntmps39
    go_wp2_with (go_at_call 61; (with_reducible refine hf.out.mono ?_); rintro e w2 ⟨rfl, hu2⟩; have c1 := hc.out w2 hu2; have Hu2 := Lib.hid hu2; clear hu2)
    go_ret2
    exact ⟨rfl, Hu2.out⟩

def refsTo5 : List Val → List Int
  | [] => []
  | x :: xs => (if x.k = 3 then [x.r] else []) ++ refsTo5 xs
theorem refsTo5_snoc (xs : List Val) (x : Val) : refsTo5 (xs ++ [x]) = refsTo5 xs ++ (if x.k = 3 then [x.r] else []) := by
  induction xs with
  | nil => simp [refsTo5]
  | cons y ys ih => simp [refsTo5, ih]
theorem refsTo5_len (xs : List Val) : (refsTo5 xs).length ≤ xs.length := by
  induction xs with
  | nil => exact Nat.le_refl _
  | cons y ys ih =>
    simp only [refsTo5, List.length_append, List.length_cons]
    split <;> simp <;> omega
def refsV (o : Nat → VOb) (x : Int) : List Int := match findV o x with
  | none => []
  | some i => refsTo5 (o i).f
theorem IsVh.vals {w : World} {b base : Nat} {ks : List (List Int)} {o : Nat → VOb} {kv : Value} {F : Nat → Value} (h : IsVh w b base ks o kv F) (i : Nat) (hi : i < 64) : ValsR w (F i) (o i).f := ownsRow_vals (h.row i hi)
theorem snoc_take (fs : List Val) (k : Nat) (hk : k < fs.length) : fs.take (k + 1) = fs.take k ++ [fs.getD k zeroV] := by
  rw [List.take_succ_eq_append_getElem hk]
  simp [List.getD, hk]

set_option maxRecDepth 100000 in
set_option maxHeartbeats 2000000 in
theorem vh_Refs {w : World} {b base : Nat} {ks : List (List Int)} {o : Nat → VOb} {kv : Value} {F : Nat → Value} (h : IsVh w b base ks o kv F) (x : Int) :
    Calls Try.prog 37 #[.pointer (some ⟨b, 0, none⟩), .int .i64 x] w (RetNums w (refsV o x)) := by
  have hf := vh_find h x
  unfold refsV
  cases hfv : findV o x with
  | none =>
    rw [hfv] at hf
    have hf := Lib.hid (show Calls Try.prog 61 #[.pointer (some ⟨b, 0, none⟩), .int .i64 x] w (RetU w (.pointer none)) from hf)
    clear h hfv
    go_enter Try.func37, Try.ntmps37
    go_wp2_with (go_at_call 61; (with_reducible refine hf.out.mono ?_); rintro e w2 ⟨rfl, hu2⟩; have Hu2 := Lib.hid hu2; clear hu2)
    go_ret
    exact ⟨none, 0, rfl, World.ownsRow_nil _ _ _ _, Hu2.out⟩
  | some i =>
    rw [hfv] at hf
    obtain ⟨hi, hus, -⟩ := findV_some hfv
    have hf := Lib.hid (show Calls Try.prog 61 #[.pointer (some ⟨b, 0, none⟩), .int .i64 x] w (RetU w (.pointer (some ⟨b, 1 + i * 3, none⟩))) from hf)
    have hc := fun w' (u : Upd (fun _ => False) w w') => ((h.still u).cell i hi).2.2
    have hv := h.vals i hi
    have h15 := h.few i hi
    show Calls _ _ _ _ (RetNums w (refsTo5 (o i).f))
    generalize (o i).f = fs at *
    have hvX := Lib.hid hv
    obtain ⟨fa, fc, hfe, -, -, -⟩ := hv
    rw [hfe] at hc hvX
    have hc := Lib.hid hc
    clear h hfv hus hi hfe
    generalize 1 + i * 3 = at1 at *
    have hrl := Lib.hid (fun k => refsTo5_len (fs.take k))
    have hfi : (fs.length : Int) ≤ 15 := by omega
    go_enter Try.func37, Try.ntmps37
    go_wp2_with (go_at_call 61; (with_reducible refine hf.out.mono ?_); rintro e w2 ⟨rfl, hu2⟩; have c1 := hc.out w2 hu2; have Hu2 := Lib.hid hu2; clear hu2)
    clear c1
    go_loopw [6, 19] (fun s i wr => ∃ (k : Nat) (oa : Option Addr) (oc : Nat), i = .int .i64 k ∧ k ≤ fs.length ∧ s = .slice oa (refsTo5 (fs.take k)).length oc ∧ wr.ownsRow w.heap.size 3 1 (.slice oa (refsTo5 (fs.take k)).length oc) (refsTo5 (fs.take k)).length (ints (refsTo5 (fs.take k))) ∧ Upd (fun _ => False) w wr) (fun _ i _ => (fs.length - intOf i).toNat)
    case atStart => exact ⟨0, none, 0, rfl, Nat.zero_le _, rfl, World.ownsRow_nil _ _ _ _, Hu2.out⟩
    case round =>
      obtain ⟨k, oa, oc, rfl, hk, rfl, ho, hu⟩ := hrel
      clear Hu2
      by_cases hk2 : k = fs.length
      · have d1 : ¬ (k : Int) < fs.length := by omega
        rw [hk2, List.take_length] at ho
        have fin : RetNums w (refsTo5 fs) (.returned (.slice oa (refsTo5 (fs.take k)).length oc)) wr := by
          rw [hk2, List.take_length]
          exact ⟨oa, oc, rfl, ho, hu⟩
        have Hfin := Lib.hid fin; clear fin
        clear ho hu hk2
        generalize (refsTo5 (fs.take k)).length = nn at *
        go_wp2_with fail
        go_ret
        exact Hfin.out
      · have hk3 : k < fs.length := by omega
        have d1 : (k : Int) < fs.length := by omega
        obtain ⟨b1, o1, hix, hb1, hy⟩ := hvX.out.index (P := Try.prog) Try.underlying23 (by kernel_rfl) (by kernel_rfl) hk3
        have y0 := (hu.none.cell (p := ⟨b1, o1 + k * 5 + 0, none⟩) hb1).trans (hy 0 (by decide))
        have y1 := (hu.none.cell (p := ⟨b1, o1 + k * 5 + 1, none⟩) hb1).trans (hy 1 (by decide))
        have y2 := (hu.none.cell (p := ⟨b1, o1 + k * 5 + 2, none⟩) hb1).trans (hy 2 (by decide))
        have y3 := (hu.none.cell (p := ⟨b1, o1 + k * 5 + 3, none⟩) hb1).trans (hy 3 (by decide))
        have y4 := (hu.none.cell (p := ⟨b1, o1 + k * 5 + 4, none⟩) hb1).trans (hy 4 (by decide))
        simp only [Nat.add_zero] at y0
        have hst : refsTo5 (fs.take (k + 1)) = refsTo5 (fs.take k) ++ (if (fs.getD k zeroV).k = 3 then [(fs.getD k zeroV).r] else []) := by rw [snoc_take fs k hk3, refsTo5_snoc]
        have hn1 := hrl.out k
        have hn2 : (fs.take k).length ≤ 15 := by rw [List.length_take]; omega
        generalize refsTo5 (fs.take k) = xs at *
        generalize fs.getD k zeroV = z at *
        generalize o1 + k * 5 = o1 at *
        obtain ⟨za, zn, zre, zim, zr⟩ := z
        change wr.cell? _ = some (.int .i64 za) at y0
        change wr.cell? _ = some (.int .i64 zn) at y1
        change wr.cell? _ = some (.int .u64 (zre : Int)) at y2
        change wr.cell? _ = some (.int .u64 (zim : Int)) at y3
        change wr.cell? _ = some (.int .i64 zr) at y4
        have hz0 := hu.size
        have hrow : ∀ j, (Value.slice oa xs.length oc).ownBlock = some j → w.heap.size ≤ j := by
          intro j e
          rcases ho.2 with ⟨hz, -⟩ | ⟨g, cap, cur, hv, hg, -⟩
          · rw [hz] at e
            cases e
          · rw [hv] at e
            have : g = j := by simpa [Value.ownBlock] using e
            omega
        by_cases hza : za = 3
        · subst hza
          rw [if_pos rfl] at hst
          have hst : refsTo5 (fs.take (k + 1)) = xs ++ [zr] := hst
          have hl2 : (xs ++ [zr]).length = xs.length + 1 := by simp
          have hl3 : xs.length ≤ 1099511627776 := by omega
          have hcl : ((wr.alloc (.cells #[.int .i64 3, .int .i64 zn, .int .u64 (zre : Int), .int .u64 (zim : Int), .int .i64 zr] 26)).alloc (.cells #[.int .i64 zr] 3)).cell? ⟨wr.heap.size + 1, 0, none⟩ = some (.int .i64 zr) := by
            have := (Blk.new (wr.alloc (.cells #[.int .i64 3, .int .i64 zn, .int .u64 (zre : Int), .int .u64 (zim : Int), .int .i64 zr] 26)) [.int .i64 zr] 3).cell 0 rfl
            rwa [alloc_size] at this
          have hua : Upd (fun _ => False) w ((wr.alloc (.cells #[.int .i64 3, .int .i64 zn, .int .u64 (zre : Int), .int .u64 (zim : Int), .int .i64 zr] 26)).alloc (.cells #[.int .i64 zr] 3)) := (hu.alloc _).alloc _
          have hgz : w.heap.size ≤ wr.heap.size + 1 := by omega
          have hown2 := (ho.alloc (.cells #[.int .i64 3, .int .i64 zn, .int .u64 (zre : Int), .int .u64 (zim : Int), .int .i64 zr] 26)).alloc (.cells #[.int .i64 zr] 3)
          have Hho := Lib.hid ho; clear ho
          have Hhst := Lib.hid hst; clear hst
          have Hhu := Lib.hid hu; clear hu
          have Hhcl := Lib.hid hcl; clear hcl
          have Hhua := Lib.hid hua; clear hua
          have Hhown2 := Lib.hid hown2; clear hown2
          have Hhl2 := Lib.hid hl2; clear hl2
          clear hk2 hy hn1 hn2
          go_wp2_with (at_builtin; refine wpList_push rfl _ _ 52 3 rfl (.int .i64 0) 8 Try.underlying52 infoInt rfl w.heap.size _ _ _ rfl Hhown2.out (wr.heap.size + 1) 1 (.int .i64 zr) rfl Hhcl.out rfl hl3 (by decide) hgz ?_; intro oa' oc' w5 ho5 hg5; have HE := Lib.hid (And.intro ho5 hg5); clear ho5 hg5)
          go_roundw
          case rel => exact ⟨k + 1, oa', oc', by go_num, by omega, by rw [Hhst.out, Hhl2.out], by rw [Hhst.out, Hhl2.out]; have := HE.out.1; rw [show ints (xs ++ [zr]) = ints xs ++ [.int .i64 zr] from by simp [ints]]; exact this, Hhua.out.grown HE.out.2 (fun j e hj => absurd hj (by have := hrow j e; omega))⟩
          case measure => simp [intOf]; omega
        · rw [if_neg hza, List.append_nil] at hst
          have e3 : (za == 3) = false := by rw [beq_eq_false_iff_ne]; exact hza
          have Hho := Lib.hid ho; clear ho
          have Hhst := Lib.hid hst; clear hst
          have Hhu := Lib.hid hu; clear hu
          clear hk2 hy hn1 hn2 hrow
          go_wp2_with fail
          go_roundw
          case rel => exact ⟨k + 1, oa, oc, by go_num, by omega, by rw [Hhst.out], by rw [Hhst.out]; exact Hho.out.alloc _, Hhu.out.alloc _⟩
          case measure => simp [intOf]; omega
end Go.Proofs.Ytcnbcidbbeadcaa

/- A heap of volatile objects is written: Remove. -/

namespace Go.Proofs.Ytcnbcidbbeadcaa
open Go.RowKit Go.Deep
set_option linter.unusedVariables false

def setO {α : Type} (o : Nat → α) (i : Nat) (v : α) : Nat → α := fun k => if k = i then v else o k
theorem setO_at {α : Type} (o : Nat → α) (i : Nat) (v : α) : setO o i v i = v := if_pos rfl
theorem setO_ne {α : Type} (o : Nat → α) {i k : Nat} (v : α) (h : k ≠ i) : setO o i v k = o k := if_neg h
theorem obRows_set (o : Nat → VOb) (F : Nat → Value) (i : Nat) (ob : VOb) (fv : Value) (n : Nat) (hi : i < n) :
    (((obRows o F n).set (i * 3 + 0) (.bool ob.used)).set (i * 3 + 1) (.int .i64 ob.k)).set (i * 3 + 2) fv = obRows (setO o i ob) (setO F i fv) n := by
  apply List.ext_getElem?
  intro t
  have hl := obRows_len o F n
  by_cases ht : t < n * 3
  · obtain ⟨k, j, hk, hj, rfl⟩ : ∃ k j, k < n ∧ j < 3 ∧ t = k * 3 + j := ⟨t / 3, t % 3, by omega, by omega, by omega⟩
    rw [obRows_get _ _ n k j hk hj]
    by_cases e : k = i
    · subst e
      unfold obCells
      rw [setO_at, setO_at]
      match j, hj with
      | 0, _ => rw [List.getElem?_set_ne (by omega), List.getElem?_set_ne (by omega), List.getElem?_set_self (by omega)]; rfl
      | 1, _ => rw [List.getElem?_set_ne (by omega), List.getElem?_set_self (by rw [List.length_set]; omega)]; rfl
      | 2, _ => rw [List.getElem?_set_self (by rw [List.length_set, List.length_set]; omega)]; rfl
    · rw [List.getElem?_set_ne (by omega), List.getElem?_set_ne (by omega), List.getElem?_set_ne (by omega), obRows_get _ _ n k j hk hj]
      unfold obCells
      rw [setO_ne o ob e, setO_ne F fv e]
  · rw [List.getElem?_eq_none (by rw [List.length_set, List.length_set, List.length_set]; omega), List.getElem?_eq_none (by rw [obRows_len]; omega)]
theorem vh_set (kv : Value) (o : Nat → VOb) (F : Nat → Value) (i : Nat) (ob : VOb) (fv : Value) (hi : i < 64) :
    (((vhCells kv o F).set (1 + i * 3) (.bool ob.used)).set (1 + i * 3 + 1) (.int .i64 ob.k)).set (1 + i * 3 + 2) fv = vhCells kv (setO o i ob) (setO F i fv) := by
  unfold vhCells
  rw [show 1 + i * 3 = (i * 3 + 0) + 1 from by omega, List.set_cons_succ, show i * 3 + 0 + 1 + 1 = (i * 3 + 1) + 1 from by omega, List.set_cons_succ, show i * 3 + 0 + 1 + 2 = (i * 3 + 2) + 1 from by omega, List.set_cons_succ]
  exact congrArg _ (obRows_set o F i ob fv 64 hi)
/-- One object is put anew. -/
theorem IsVh.put {w w' : World} {b base : Nat} {ks : List (List Int)} {o : Nat → VOb} {kv : Value} {F : Nat → Value} (h : IsVh w b base ks o kv F) {i : Nat} (hi : i < 64) (ob : VOb) (fv : Value)
    (hb : Blk w' b (vhCells kv (setO o i ob) (setO F i fv)) 96) (u : Upd (fun j => j = b) w w') (hrow : w'.ownsRow base 26 5 fv ob.f.length (cellsV ob.f))
    (hap : ∀ j, j < 64 → j ≠ i → ∀ g, fv.ownBlock = some g → (F j).ownBlock ≠ some g) (hoff : ob.used = false → ob = noOb) (hok : ∀ x ∈ ob.f, x.ok) (hfew : ob.f.length ≤ 15)
    (hkin : ob.used = true → 0 ≤ ob.k ∧ ob.k < ks.length ∧ ob.f.length = (ks.getD ob.k.toNat []).length) :
    IsVh w' b base ks (setO o i ob) kv (setO F i fv) := by
  refine ⟨hb, h.low, Nat.le_trans h.size u.size, fun w2 u2 => h.kinds w2 ((u.mono (fun _ _ e => Or.inr e)).trans u2), fun k hk => ?_, fun k j hk hj hne g => ?_, fun k hk => ?_, fun k hk => ?_, fun k hk => ?_, fun k hk => ?_⟩
  · by_cases e : k = i
    · subst e
      rw [setO_at, setO_at]
      exact hrow
    · rw [setO_ne o ob e, setO_ne F fv e]
      obtain ⟨h1, h2⟩ := h.row k hk
      refine ⟨h1, ?_⟩
      rcases h2 with h2 | ⟨g, cap, cur, hv, hg, hh, r⟩
      · exact Or.inl h2
      · refine Or.inr ⟨g, cap, cur, hv, hg, ?_, r⟩
        rw [u.block g (Array.getElem?_eq_some_iff.1 hh).1 (fun e2 => by have := h.low; omega)]
        exact hh
  · by_cases e : k = i
    · subst e
      rw [setO_at, setO_ne F fv (fun e => hne e.symm)]
      exact hap j hj (fun e => hne e.symm) g
    · rw [setO_ne F fv e]
      by_cases e2 : j = i
      · subst e2
        rw [setO_at]
        intro h1 h2
        exact hap k hk e g h2 h1
      · rw [setO_ne F fv e2]
        exact h.apart k j hk hj hne g
  · by_cases e : k = i
    · subst e; rw [setO_at]; exact hoff
    · rw [setO_ne o ob e]; exact h.off k hk
  · by_cases e : k = i
    · subst e; rw [setO_at]; exact hok
    · rw [setO_ne o ob e]; exact h.ok k hk
  · by_cases e : k = i
    · subst e; rw [setO_at]; exact hfew
    · rw [setO_ne o ob e]; exact h.few k hk
  · by_cases e : k = i
    · subst e; rw [setO_at]; exact hkin
    · rw [setO_ne o ob e]; exact h.kin k hk

/-- Each row that is there now was there, or is new. -/
def Fr (w : World) (F F' : Nat → Value) : Prop := ∀ i, i < 64 → ∀ g, (F' i).ownBlock = some g → (∃ j, j < 64 ∧ (F j).ownBlock = some g) ∨ w.heap.size ≤ g
theorem Fr.refl (w : World) (F : Nat → Value) : Fr w F F := fun i hi g e => Or.inl ⟨i, hi, e⟩
theorem Fr.nil (w : World) (F : Nat → Value) (i : Nat) : Fr w F (setO F i (.slice none 0 0)) := fun k hk g e => by
  by_cases h : k = i
  · subst h
    rw [setO_at] at e
    cases e
  · rw [setO_ne _ _ h] at e
    exact Or.inl ⟨k, hk, e⟩
theorem Fr.new {w : World} (F : Nat → Value) (i : Nat) {v : Value} (h : ∀ g, v.ownBlock = some g → w.heap.size ≤ g) : Fr w F (setO F i v) := fun k hk g e => by
  by_cases hh : k = i
  · subst hh
    rw [setO_at] at e
    exact Or.inr (h g e)
  · rw [setO_ne _ _ hh] at e
    exact Or.inl ⟨k, hk, e⟩
theorem Fr.trans {w w' : World} {F F' F'' : Nat → Value} (h : Fr w F F') (k : Fr w' F' F'') (hz : w.heap.size ≤ w'.heap.size) : Fr w F F'' := fun i hi g e => by
  rcases k i hi g e with ⟨j, hj, e2⟩ | e2
  · exact h j hj g e2
  · exact Or.inr (by omega)
def removeV (o : Nat → VOb) (x : Int) : Nat → VOb := match findV o x with
  | none => o
  | some i => setO o i noOb
/-- A bool; the heap is another. -/
def RetVh (w : World) (b base : Nat) (ks : List (List Int)) (F : Nat → Value) (o : Nat → VOb) (kv : Value) (v : Value) (e : Ending) (w' : World) : Prop :=
  e = .returned v ∧ (∃ F', IsVh w' b base ks o kv F' ∧ Fr w F F') ∧ Upd (fun j => j = b) w w'

set_option maxRecDepth 100000 in
set_option maxHeartbeats 2000000 in
theorem vh_Remove {w : World} {b base : Nat} {ks : List (List Int)} {o : Nat → VOb} {kv : Value} {F : Nat → Value} (h : IsVh w b base ks o kv F) (x : Int) :
    Calls Try.prog 26 #[.pointer (some ⟨b, 0, none⟩), .int .i64 x] w (RetVh w b base ks F (removeV o x) kv (.bool (findV o x).isSome)) := by
  have hf := vh_find h x
  unfold removeV
  cases hfv : findV o x with
  | none =>
    rw [hfv] at hf
    have hf := Lib.hid (show Calls Try.prog 61 #[.pointer (some ⟨b, 0, none⟩), .int .i64 x] w (RetU w (.pointer none)) from hf)
    show Calls _ _ _ _ (RetVh w b base ks F o kv (.bool false))
    have hst := Lib.hid (fun w' (u : Upd (fun _ => False) w w') => h.still u)
    clear h hfv
    go_enter Try.func26, Try.ntmps26
    go_wp2_with (go_at_call 61; (with_reducible refine hf.out.mono ?_); rintro e w2 ⟨rfl, hu2⟩; have Hu2 := Lib.hid hu2; clear hu2)
    go_ret
    exact ⟨rfl, ⟨F, hst.out _ Hu2.out, Fr.refl _ _⟩, Hu2.out.mono (fun _ _ e => e.elim)⟩
  | some i =>
    rw [hfv] at hf
    obtain ⟨hi, hus, -⟩ := findV_some hfv
    have hf := Lib.hid (show Calls Try.prog 61 #[.pointer (some ⟨b, 0, none⟩), .int .i64 x] w (RetU w (.pointer (some ⟨b, 1 + i * 3, none⟩))) from hf)
    show Calls _ _ _ _ (RetVh w b base ks F (setO o i noOb) kv (.bool true))
    have hc := Lib.hid (fun w' (u : Upd (fun _ => False) w w') => (h.still u).cell i hi)
    have hfr := Lib.hid (fun w' (u : Upd (fun _ => False) w w') j => (h.still u).blk.free j)
    have fin := Lib.hid (fun w' (u : Upd (fun _ => False) w w') => show RetVh w b base ks F (setO o i noOb) kv (.bool true) (.returned (.bool true)) (((w'.setCell ⟨b, 1 + i * 3, none⟩ (.bool false)).setCell ⟨b, 1 + i * 3 + 1, none⟩ (.int .i64 0)).setCell ⟨b, 1 + i * 3 + 2, none⟩ (.slice none 0 0)) from by
      have h2 := h.still u
      have hb := ((h2.blk.set (1 + i * 3) (.bool false)).set (1 + i * 3 + 1) (.int .i64 0)).set (1 + i * 3 + 2) (.slice none 0 0)
      have e : (((vhCells kv o F).set (1 + i * 3) (.bool false)).set (1 + i * 3 + 1) (.int .i64 0)).set (1 + i * 3 + 2) (.slice none 0 0) = vhCells kv (setO o i noOb) (setO F i (.slice none 0 0)) := vh_set kv o F i noOb (.slice none 0 0) hi
      rw [e] at hb
      have u3 := (((Upd.refl (fun j => j = b) w').at (1 + i * 3) (.bool false)).at (1 + i * 3 + 1) (.int .i64 0)).at (1 + i * 3 + 2) (.slice none 0 0)
      exact ⟨rfl, ⟨_, h2.put hi noOb (.slice none 0 0) hb u3 (World.ownsRow_nil _ _ _ _) (fun j _ _ g e => by simp [Value.ownBlock] at e) (fun _ => rfl) (fun x hx => by simp [noOb] at hx) (by decide) (fun h => by cases h), Fr.nil _ _ _⟩, (u.mono (fun _ _ e => e.elim)).trans u3⟩)
    clear h hfv hus hi
    generalize 1 + i * 3 = at1 at *
    go_enter Try.func26, Try.ntmps26
    go_wp2_with (go_at_call 61; (with_reducible refine hf.out.mono ?_); rintro e w2 ⟨rfl, hu2⟩; obtain ⟨c0, c1, c2⟩ := hc.out w2 hu2; have f0 := hfr.out w2 hu2 at1; have f1 := hfr.out w2 hu2 (at1 + 1); have f2 := hfr.out w2 hu2 (at1 + 2); have Hu2 := Lib.hid hu2; clear hu2)
    go_ret
    exact fin.out _ Hu2.out
end Go.Proofs.Ytcnbcidbbeadcaa

