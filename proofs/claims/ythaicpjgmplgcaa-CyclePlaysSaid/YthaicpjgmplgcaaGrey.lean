/- The stack of package grey: its functions' contracts. -/
import Derived.Test.YthaicpjgmplgcaaRows
import Derived.Test.YthaicpjgmplgcaaLib
import Derived.Test.YthaicpjgmplgcaaWord
namespace Go.Proofs.Ythaicpjgmplgcaa
open Go.RowKit
set_option linter.unusedVariables false

def roomOf (n : Int) : Nat := (max 1 (min n 2048)).toNat
theorem roomOf_pos (n : Int) : 1 ≤ roomOf n := by unfold roomOf; omega
theorem roomOf_le (n : Int) : roomOf n ≤ 2048 := by unfold roomOf; omega

def stk0 : Array Value := (List.replicate 2048 (Value.int .i64 0) ++ [Value.int .i64 0, Value.int .i64 0, Value.bool false]).toArray
theorem stk0_size : stk0.size = 2051 := by unfold stk0; rw [List.size_toArray, List.length_append, List.length_replicate]; rfl
theorem stk0_zero (w : World) : (zeroValue 126).run Try.prog w = .ok (.agg stk0) w := by kernel_rfl

/-- Block b is a stack that holds l (the last behind), of that room. -/
def Stk (w : World) (b : Nat) (l : List Int) (room : Nat) (over : Bool) : Prop :=
  ∃ f : List Int, f.length = 2048 ∧ f.take l.length = l ∧ l.length ≤ room ∧ 1 ≤ room ∧ room ≤ 2048 ∧
    Blk w b (ints f ++ [Value.int .i64 l.length, Value.int .i64 room, Value.bool over]) 126

theorem Stk.upd {w w' : World} {b : Nat} {l : List Int} {room : Nat} {over : Bool} (h : Stk w b l room over) {S : Nat → Prop} (e : Upd S w w') (hs : ¬ S b) : Stk w' b l room over := by
  obtain ⟨f, h1, h2, h3, h4, h5, h6⟩ := h
  exact ⟨f, h1, h2, h3, h4, h5, h6.upd e hs⟩
theorem Stk.lt {w : World} {b : Nat} {l : List Int} {room : Nat} {over : Bool} (h : Stk w b l room over) : b < w.heap.size := by
  obtain ⟨f, h1, h2, h3, h4, h5, h6⟩ := h
  exact h6.lt

theorem stk0_set (r : Int) : (stk0.setIfInBounds 2049 (.int .i64 r)).toList = ints (List.replicate 2048 0) ++ [Value.int .i64 0, Value.int .i64 r, Value.bool false] := by
  unfold stk0 ints
  rw [Array.toList_setIfInBounds, List.map_replicate]
  show List.set (_ ++ _) _ _ = _
  rw [List.set_append_right _ _ (by rw [List.length_replicate]; omega), List.length_replicate]
  rfl

def GreyNew (w : World) (room : Int) (e : Ending) (w' : World) : Prop :=
  e = .returned (.pointer (some ⟨w.heap.size, 0, none⟩)) ∧ Stk w' w.heap.size [] (roomOf room) false ∧ Upd (fun _ => False) w w' ∧ w'.heap.size = w.heap.size + 1

set_option maxRecDepth 100000 in
set_option maxHeartbeats 400000 in
theorem grey_new (room : Int) (w : World) : Calls Try.prog 80 #[.int .i64 room] w (GreyNew w room) := by
  have hz := stk0_zero
  have hs := stk0_size
  have fin : ∀ r : Int, r = roomOf room → GreyNew w room (.returned (.pointer (some ⟨w.heap.size, 0, none⟩))) (w.alloc (.cells (stk0.setIfInBounds 2049 (.int .i64 r)) 126)) := by
    intro r hr
    subst hr
    refine ⟨rfl, ⟨List.replicate 2048 0, List.length_replicate, List.take_zero, Nat.zero_le _, roomOf_pos _, roomOf_le _, ?_⟩, (Upd.refl _ _).alloc _, by simp⟩
    have := Blk.new w (stk0.setIfInBounds 2049 (.int .i64 (roomOf room : Int))).toList 126
    rw [stk0_set] at this
    rw [show stk0.setIfInBounds 2049 (.int .i64 (roomOf room : Int)) = (stk0.setIfInBounds 2049 (.int .i64 (roomOf room : Int))).toList.toArray from (Array.toArray_toList).symm, stk0_set]
    exact this
  generalize hst : stk0 = z at *
  clear hst
  by_cases h1 : room ≤ 1
  · have h2 : room ≤ 2048 := by omega
    have hF := Lib.hid (fin 1 (by unfold roomOf; omega))
    clear fin
    go_enter Try.func80, Try.ntmps80
    go_wp2
    go_ret
    exact hF.out
  · by_cases h2 : room ≤ 2048
    · have hF := Lib.hid (fin room (by unfold roomOf; omega))
      clear fin
      go_enter Try.func80, Try.ntmps80
      go_wp2
      go_ret
      exact hF.out
    · have hF := Lib.hid (fin 2048 (by unfold roomOf; omega))
      clear fin
      go_enter Try.func80, Try.ntmps80
      go_wp2
      go_ret
      exact hF.out

theorem ints_get (f : List Int) (i : Nat) (t : List Value) (h : i < f.length) : (ints f ++ t)[i]? = some (Value.int .i64 (f.getD i 0)) := by
  unfold ints
  rw [List.getElem?_append_left (by simpa using h), List.getElem?_map, List.getElem?_eq_getElem h]
  simp [h]
theorem ints_tail (f : List Int) (t : List Value) (n i : Nat) (h : f.length = n) (hi : n ≤ i) : (ints f ++ t)[i]? = t[i - n]? := by
  unfold ints
  rw [List.getElem?_append_right (by simpa [h] using hi), List.length_map, h]
theorem ints_set (f : List Int) (t : List Value) (i : Nat) (x : Int) (h : i < f.length) : (ints f ++ t).set i (.int .i64 x) = ints (f.set i x) ++ t := by
  unfold ints
  rw [List.set_append_left _ _ (by simpa using h), List.map_set]
theorem ints_setTail (f : List Int) (t : List Value) (n i : Nat) (x : Value) (h : f.length = n) (hi : n ≤ i) : (ints f ++ t).set i x = ints f ++ t.set (i - n) x := by
  unfold ints
  rw [List.set_append_right _ _ (by simpa [h] using hi), List.length_map, h]
theorem take_set_push (f l : List Int) (x : Int) (hl : f.take l.length = l) (h : l.length < f.length) : (f.set l.length x).take (l.length + 1) = l ++ [x] := by
  rw [List.take_set]
  apply List.ext_getElem?
  intro i
  have hg : ∀ j, j < l.length → f[j]? = l[j]? := by
    intro j hj
    conv => rhs; rw [← hl]
    rw [List.getElem?_take, if_pos hj]
  rw [List.getElem?_set]
  by_cases e : l.length = i
  · subst e
    simp; omega
  · rw [if_neg e, List.getElem?_take]
    by_cases h1 : i < l.length
    · rw [if_pos (by omega), hg i h1, List.getElem?_append_left h1]
    · rw [if_neg (by omega), List.getElem?_eq_none (by simp; omega)]
theorem take_pop (f l : List Int) (hl : f.take l.length = l) : f.take l.dropLast.length = l.dropLast := by
  have h : l.length ≤ f.length := by
    have := congrArg List.length hl
    simp at this
    omega
  rw [List.length_dropLast, List.dropLast_eq_take]
  conv => rhs; rw [← hl]
  rw [List.take_take, List.length_take]
  congr 1
  omega

/-- What a push leaves. -/
def pushL (l : List Int) (room : Nat) (x : Int) : List Int := if l.length < room then l ++ [x] else l
def GreyPush (w : World) (b : Nat) (l : List Int) (room : Nat) (over : Bool) (x : Int) (e : Ending) (w' : World) : Prop :=
  e = .returned (.bool (decide (l.length < room))) ∧ Stk w' b (pushL l room x) room (over || !decide (l.length < room)) ∧ Upd (fun k => k = b) w w' ∧ w'.heap.size = w.heap.size

theorem stk_cells {w : World} {b : Nat} {f : List Int} {n room : Int} {over : Bool} (hf : f.length = 2048) (h : Blk w b (ints f ++ [Value.int .i64 n, Value.int .i64 room, Value.bool over]) 126) :
    w.cell? ⟨b, 2048, none⟩ = some (.int .i64 n) ∧ w.cell? ⟨b, 2049, none⟩ = some (.int .i64 room) ∧ w.cell? ⟨b, 2050, none⟩ = some (.bool over) :=
  ⟨h.cell 2048 (by rw [ints_tail f _ 2048 2048 hf (by omega)]; rfl), h.cell 2049 (by rw [ints_tail f _ 2048 2049 hf (by omega)]; rfl), h.cell 2050 (by rw [ints_tail f _ 2048 2050 hf (by omega)]; rfl)⟩

set_option maxRecDepth 100000 in
set_option maxHeartbeats 400000 in
theorem grey_push (b : Nat) (x : Int) (l : List Int) (room : Nat) (over : Bool) (w : World) (h : Stk w b l room over) :
    Calls Try.prog 82 #[.pointer (some ⟨b, 0, none⟩), .int .i64 x] w (GreyPush w b l room over x) := by
  have h0 := h
  obtain ⟨f, hf, htake, hlr, hr1, hr2, hB⟩ := h
  obtain ⟨cn, cr, co⟩ := stk_cells hf hB
  have fz := hB.free 2050
  have fn := hB.free 2048
  by_cases hlt : l.length < room
  · have fin : ∀ nq, GreyPush w b l room over x (.returned (.bool true)) (((w.drewN nq).setCell ⟨b, l.length, none⟩ (.int .i64 x)).setCell ⟨b, 2048, none⟩ (.int .i64 (l.length + 1))) := by
      intro nq
      have hl2 : l.length < f.length := by omega
      refine ⟨by simp [hlt], ?_, (((Upd.refl _ _).drewN nq).at _ _).at _ _, by simp⟩
      have e1 : pushL l room x = l ++ [x] := if_pos hlt
      have e2 : (over || !decide (l.length < room)) = over := by simp [hlt]
      rw [e1, e2]
      refine ⟨f.set l.length x, by simpa using hf, ?_, by simp; omega, hr1, hr2, ?_⟩
      · rw [List.length_append]; exact take_set_push f l x htake hl2
      · have hB2 := ((hB.drewN nq).set l.length (.int .i64 x)).set 2048 (.int .i64 (l.length + 1))
        rw [ints_set f _ _ _ hl2, ints_setTail _ _ 2048 2048 _ (by simpa using hf) (by omega)] at hB2
        simpa using hB2
    have hF := Lib.hid fin
    have fm := hB.free l.length
    have cm := hB.cell l.length (ints_get f l.length _ (by omega))
    have m1 : (l.length : Int) < room := by omega
    have m2 : l.length < 2048 := by omega
    have m3 : (l.length : Int) < 2048 := by omega
    have m4 : (0 : Int) ≤ l.length := by omega
    have hne : ((l.length : Int) == room) = false := by simp; omega
    clear fin hB htake hlr hlt h0
    generalize l.length = m at *
    go_enter Try.func82, Try.ntmps82
    go_wp2
    go_quiet (fail)
    go_wp2
    refine wp_region_st 9 (by kernel_rfl) (by kernel_rfl) ?_
    simp only [List.take_succ_cons, List.take_zero, List.drop_succ_cons, List.drop_zero]
    repeat (first | still_step | fail)
    refine wpStill_nil ?_
    go_wp2
    go_ret
    exact hF.out _
  · have hm : l.length = room := by omega
    have fin : ∀ nq, GreyPush w b l room over x (.returned (.bool false)) ((w.drewN nq).setCell ⟨b, 2050, none⟩ (.bool true)) := by
      intro nq
      refine ⟨by simp [hlt], ?_, ((Upd.refl _ _).drewN nq).at _ _, by simp⟩
      have e1 : pushL l room x = l := if_neg hlt
      have e2 : (over || !decide (l.length < room)) = true := by simp [hlt]
      rw [e1, e2]
      refine ⟨f, hf, htake, hlr, hr1, hr2, ?_⟩
      have hB2 := (hB.drewN nq).set 2050 (.bool true)
      rw [ints_setTail _ _ 2048 2050 _ hf (by omega)] at hB2
      exact hB2
    have hF := Lib.hid fin
    have hne : ((l.length : Int) == room) = true := by simp; omega
    clear fin hB htake hlr hlt hm h0
    generalize l.length = m at *
    go_enter Try.func82, Try.ntmps82
    go_wp2
    go_quiet (fail)
    go_wp2
    go_ret
    exact hF.out _

def GreyPop (w : World) (b : Nat) (l : List Int) (room : Nat) (over : Bool) (e : Ending) (w' : World) : Prop :=
  e = .returned (.tuple #[.int .i64 (l.getLastD 0), .bool (!l.isEmpty)]) ∧ Stk w' b l.dropLast room over ∧ Upd (fun k => k = b) w w' ∧ w'.heap.size = w.heap.size

set_option maxRecDepth 100000 in
set_option maxHeartbeats 400000 in
theorem grey_pop (b : Nat) (l : List Int) (room : Nat) (over : Bool) (w : World) (h : Stk w b l room over) :
    Calls Try.prog 84 #[.pointer (some ⟨b, 0, none⟩)] w (GreyPop w b l room over) := by
  have h0 := h
  obtain ⟨f, hf, htake, hlr, hr1, hr2, hB⟩ := h
  obtain ⟨cn, cr, co⟩ := stk_cells hf hB
  have fn := hB.free 2048
  by_cases hl : l = []
  · subst hl
    have fin : GreyPop w b [] room over (.returned (.tuple #[.int .i64 0, .bool false])) w := ⟨rfl, h0, Upd.refl _ _, rfl⟩
    have hF := Lib.hid fin
    have cn' : w.cell? ⟨b, 2048, none⟩ = some (.int .i64 0) := cn
    clear fin hB htake hlr h0 cn
    go_enter Try.func84, Try.ntmps84
    go_wp2
    go_ret2
    exact hF.out
  · have hpos : 0 < l.length := List.length_pos_iff.2 hl
    obtain ⟨m, hm⟩ : ∃ m, l.length = m + 1 := ⟨l.length - 1, by omega⟩
    have hml : m < f.length := by omega
    have hlast : f.getD m 0 = l.getLastD 0 := by
      have : f[m]? = l[m]? := by
        conv => rhs; rw [← htake]
        rw [List.getElem?_take, if_pos (by omega)]
      rw [List.getD_eq_getElem?_getD, this, List.getLastD_eq_getLast?, List.getLast?_eq_getElem?, hm]
      rfl
    have fin : ∀ nq, GreyPop w b l room over (.returned (.tuple #[.int .i64 (f.getD m 0), .bool true])) ((w.setCell ⟨b, 2048, none⟩ (.int .i64 m)).drewN nq) := by
      intro nq
      refine ⟨by rw [hlast]; simp [hl], ⟨f, hf, take_pop f l htake, by simp; omega, hr1, hr2, ?_⟩, ((Upd.refl _ _).at _ _).drewN nq, by show (w.setCell _ _).heap.size = _; simp⟩
      have hB2 := (hB.set 2048 (.int .i64 m)).drewN nq
      rw [ints_setTail _ _ 2048 2048 _ hf (by omega)] at hB2
      have e3 : l.dropLast.length = m := by simp; omega
      rw [e3]
      exact hB2
    have hF := Lib.hid fin
    have cm := hB.cell m (ints_get f m _ hml)
    have m1 : (m : Int) < 2048 := by omega
    have m2 : m < 2048 := by omega
    rw [hm] at cn
    have hne : (((m + 1 : Nat) : Int) == 0) = false := by simp; omega
    have e4 : ((m + 1 : Nat) : Int) = (m : Int) + 1 := by omega
    rw [e4] at cn hne
    clear fin hB htake hlr h0 hlast hm hl hpos e4
    generalize f.getD m 0 = y at *
    go_enter Try.func84, Try.ntmps84
    go_wp2
    go_quiet (fail)
    go_wp2
    go_ret2
    exact hF.out _


set_option maxHeartbeats 400000 in
theorem grey_len (b : Nat) (l : List Int) (room : Nat) (over : Bool) (w : World) (h : Stk w b l room over) :
    Calls Try.prog 91 #[.pointer (some ⟨b, 0, none⟩)] w (Same w (.int .i64 l.length)) := by
  obtain ⟨f, hf, htake, hlr, hr1, hr2, hB⟩ := h
  obtain ⟨cn, cr, co⟩ := stk_cells hf hB
  generalize l.length = m at *
  clear hB htake cr co
  go_enter Try.func91, Try.ntmps91
  go_wp2
  go_ret
  exact ⟨rfl, rfl⟩

set_option maxHeartbeats 400000 in
theorem grey_over (b : Nat) (l : List Int) (room : Nat) (over : Bool) (w : World) (h : Stk w b l room over) :
    Calls Try.prog 92 #[.pointer (some ⟨b, 0, none⟩)] w (Same w (.bool over)) := by
  obtain ⟨f, hf, htake, hlr, hr1, hr2, hB⟩ := h
  obtain ⟨cn, cr, co⟩ := stk_cells hf hB
  clear hB htake cr cn
  go_enter Try.func92, Try.ntmps92
  go_wp2
  go_ret
  exact ⟨rfl, rfl⟩

def GreyReset (w : World) (b : Nat) (l : List Int) (room : Nat) (e : Ending) (w' : World) : Prop :=
  e = .returned (.tuple #[]) ∧ Stk w' b l room false ∧ Upd (fun k => k = b) w w' ∧ w'.heap.size = w.heap.size

set_option maxHeartbeats 400000 in
theorem grey_reset (b : Nat) (l : List Int) (room : Nat) (over : Bool) (w : World) (h : Stk w b l room over) :
    Calls Try.prog 93 #[.pointer (some ⟨b, 0, none⟩)] w (GreyReset w b l room) := by
  obtain ⟨f, hf, htake, hlr, hr1, hr2, hB⟩ := h
  obtain ⟨cn, cr, co⟩ := stk_cells hf hB
  have fo := hB.free 2050
  have fin : GreyReset w b l room (.returned (.tuple #[])) (w.setCell ⟨b, 2050, none⟩ (.bool false)) := by
    refine ⟨rfl, ⟨f, hf, htake, hlr, hr1, hr2, ?_⟩, (Upd.refl _ _).at _ _, by simp⟩
    have hB2 := hB.set 2050 (.bool false)
    rw [ints_setTail _ _ 2048 2050 _ hf (by omega)] at hB2
    exact hB2
  have hF := Lib.hid fin
  clear fin hB htake cr cn
  go_enter Try.func93, Try.ntmps93
  go_wp2
  go_end0
  exact hF.out

/-- No stack. -/
theorem grey_nil (x : Int) (w : World) :
    Calls Try.prog 82 #[.pointer none, .int .i64 x] w (Same w (.bool false)) ∧
    Calls Try.prog 84 #[.pointer none] w (Same w (.tuple #[.int .i64 0, .bool false])) ∧
    Calls Try.prog 91 #[.pointer none] w (Same w (.int .i64 0)) ∧
    Calls Try.prog 92 #[.pointer none] w (Same w (.bool false)) ∧
    Calls Try.prog 93 #[.pointer none] w (Same w (.tuple #[])) := by
  refine ⟨?_, ?_, ?_, ?_, ?_⟩
  · go_enter Try.func82, Try.ntmps82
    go_wp2
    go_ret
    exact ⟨rfl, rfl⟩
  · go_enter Try.func84, Try.ntmps84
    go_wp2
    go_ret2
    exact ⟨rfl, rfl⟩
  · go_enter Try.func91, Try.ntmps91
    go_wp2
    go_ret
    exact ⟨rfl, rfl⟩
  · go_enter Try.func92, Try.ntmps92
    go_wp2
    go_ret
    exact ⟨rfl, rfl⟩
  · go_enter Try.func93, Try.ntmps93
    go_wp2
    go_end0
    exact ⟨rfl, rfl⟩
end Go.Proofs.Ythaicpjgmplgcaa
