/- A new heap of volatile objects. -/
import Derived.Test.YtcnbcidbbeadcaaVhCl
import Derived.Deep.RegionWith
import Derived.Laws.Tables
namespace Go.Proofs.Ytcnbcidbbeadcaa
open Go.RowKit Go.Deep
set_option linter.unusedVariables false

theorem ownsRow_rows {w : World} {B : Nat} {e : TypeId} {v : Value} {xs : List Value} {n : Nat} (h : w.ownsRow B e 1 v n xs) : RowsIn w v 1 n (fun i _ => xs.getD i undef) := by
  obtain ⟨hl, h2⟩ := h
  rcases h2 with ⟨rfl, h0⟩ | ⟨g, cap, cur, rfl, hg, hh, hn, hcap, hsz, htake⟩
  · refine ⟨none, 0, by rw [h0], by omega, by decide, fun hn => by omega⟩
  · refine ⟨some ⟨g, 0, none⟩, cap, rfl, hn, hcap, fun _ => ⟨g, 0, rfl, (Array.getElem?_eq_some_iff.1 hh).1, fun i hi j hj => ?_⟩⟩
    obtain rfl : j = 0 := by omega
    have hx : i < xs.length := by rw [hl]; omega
    have h1 : (cur.toList.take (n * 1))[i]? = xs[i]? := by rw [htake]
    rw [List.getElem?_take, if_pos (by omega)] at h1
    have h2 : cur[i]? = some (xs.getD i undef) := by rw [← Array.getElem?_toList, h1]; simp [List.getD, hx]
    rw [show 0 + i * 1 + 0 = i from by omega]
    simp [World.cell?, hh, h2]
/-- append of one element inside a region that draws its order; told where the row lies then. -/
theorem step_pushL {P : Program} {w : World} {ops : Array Oper} {o : Oper} {a : Act} {K : Act → World → Prop} {Q : Exit → Act → World → Prop} {E' : Prop} (hgd : o.guard = none) (s x : Operand) (t e : TypeId)
    (ho : o.op = .call { callee := .builtin .append, args := #[s, x], argTypes := #[t, t] }) (z : Value) (bytes : Nat) (ht : P.underlying t = some (.slice e)) (hinfo : (P.info? e).map (fun i => (i.zero, i.size, i.bytes)) = some (some z, 1, bytes)) (hzs : z.cells.size = 1)
    (B : Nat) (v : Value) (n : Nat) (xs : List Value) (hs : a.eval s = v) (hown : w.ownsRow B e 1 v n xs) (g c : Nat) (y : Value) (hx : a.eval x = .slice (some ⟨g, 0, none⟩) 1 c) (hcell : w.cell? ⟨g, 0, none⟩ = some y) (hy : y.oneCell' = true)
    (hn : n ≤ 1099511627776) (hb : bytes ≤ 64) (hbase : B ≤ g)
    (h : ∀ g' c' w', w'.ownsRow B e 1 (.slice (some ⟨g', 0, none⟩) (n + 1) c') (n + 1) (xs ++ [y]) → w.grownBy w' v.ownBlock → (v.ownBlock = some g' ∨ g' = w.heap.size) → K (a.put o.dst (.slice (some ⟨g', 0, none⟩) (n + 1) c')) w') :
    if Region.wanted o (yielded ops a.tmps) = true then Oper.wp P o a w K Q else E' := by
  obtain ⟨i0, hi, hz0, hz1, hz2⟩ := info_parts hinfo
  refine step_append_lies _ hgd s x t ho B e i0 z 1 bytes ht hi hz0 hz1 hz2 hzs (by decide) v n xs hs hown ⟨g, 0, none⟩ 1 c [y] hx rfl ?_ ?_ (by decide) ?_ ?_ (by have := World.block_lt_of_cell? w _ hcell; simp only at this; omega) w.heap.size rfl ?_
  · intro j u hj
    match j, hj with
    | 0, hj => simp at hj; subst hj; exact hcell
    | j + 1, hj => simp at hj
  · intro u hu; simp at hu; subst hu; exact hy
  · unfold maxLen; omega
  · have h1 : n + 1 ≤ 1099511627777 := by omega
    have := Nat.mul_le_mul h1 hb
    omega
  · intro g' c' w' h1 h2 h3 _
    exact h g' c' w' h1 h2 h3
/-- The kinds of a new heap, as many as are there. -/
structure NewSt (w : World) (b : Nat) (L : List Value) (tt : List (List Int)) (k : Nat) (rows : List Value) (kv : Value) (wr : World) : Prop where
  blk : Blk wr b (kv :: L) 96
  own : wr.ownsRow (b + 1) 68 1 kv k rows
  rws : ∀ i, i < k → ∀ w', Upd (fun j => kv.ownBlock = some j ∨ j = b) wr w' → IntsR w' (rows.getD i undef) .i64 (tt.getD i [])
  up : Upd (fun _ => False) w wr
  lo : w.heap.size ≤ b
theorem NewSt.still {w : World} {b : Nat} {L : List Value} {tt : List (List Int)} {k : Nat} {rows : List Value} {kv : Value} {wr w' : World} (h : NewSt w b L tt k rows kv wr) (u : Upd (fun _ => False) wr w') : NewSt w b L tt k rows kv w' :=
  ⟨h.blk.upd u (fun x => x), ownsRow_upd h.own u (fun _ _ x => x), fun i hi w2 u2 => h.rws i hi w2 ((u.mono (fun _ _ x => x.elim)).trans u2), h.up.trans u, h.lo⟩
theorem NewSt.len {w : World} {b : Nat} {L : List Value} {tt : List (List Int)} {k : Nat} {rows : List Value} {kv : Value} {wr : World} (h : NewSt w b L tt k rows kv wr) : rows.length = k := by
  have := h.own.1
  simpa using this
/-- One kind more. -/
theorem NewSt.next {w : World} {b : Nat} {L : List Value} {tt : List (List Int)} {k : Nat} {rows : List Value} {kv : Value} {wr w3 w4 w5 : World} (h : NewSt w b L tt k rows kv wr) {a : Option Addr} {c : Nat} (hk : k < tt.length)
    (ho3 : w3.ownsRow wr.heap.size 3 1 (.slice a (tt.getD k []).length c) (tt.getD k []).length (ints (tt.getD k []))) (u3 : Upd (fun _ => False) wr w3) (u4 : Upd (fun _ => False) w3 w4) {g' c' : Nat}
    (ho5 : w5.ownsRow (b + 1) 68 1 (.slice (some ⟨g', 0, none⟩) (k + 1) c') (k + 1) (rows ++ [.slice a (tt.getD k []).length c])) (hg5 : w4.grownBy w5 kv.ownBlock) (hl5 : kv.ownBlock = some g' ∨ g' = w4.heap.size) :
    NewSt w b L tt (k + 1) (rows ++ [.slice a (tt.getD k []).length c]) (.slice (some ⟨g', 0, none⟩) (k + 1) c') (w5.setCell ⟨b, 0, none⟩ (.slice (some ⟨g', 0, none⟩) (k + 1) c')) := by
  have hlen := h.len
  have hbl := h.blk.lt
  have h4 := (h.still u3).still u4
  have hkb : ∀ j, kv.ownBlock = some j → b < j ∧ j < wr.heap.size := fun j e => by
    have := h.own.lt j e
    omega
  have u5 : Upd (fun j => kv.ownBlock = some j) w4 w5 := (Upd.refl _ _).grown hg5 (fun j e _ => e)
  have u6 : Upd (fun j => j = b) w5 (w5.setCell ⟨b, 0, none⟩ (.slice (some ⟨g', 0, none⟩) (k + 1) c')) := (Upd.refl _ _).at _ _
  have hg1 : b < g' := by
    rcases hl5 with e | e
    · exact (hkb g' e).1
    · have := u3.size; have := u4.size; omega
  refine ⟨?_, ?_, ?_, ?_, h.lo⟩
  · have h1 := h4.blk.upd u5 (fun e => by have := hkb b e; omega)
    have := h1.set 0 (.slice (some ⟨g', 0, none⟩) (k + 1) c')
    simpa using this
  · exact ownsRow_upd ho5 u6 (fun j hj e => by omega)
  · intro i hi w' u
    have uu : Upd (fun j => kv.ownBlock = some j ∨ j = b ∨ j = g') w4 w' := ((u5.mono (fun _ _ e => Or.inl e)).trans (u6.mono (fun _ _ e => Or.inr (Or.inl e)))).trans (u.mono (fun j _ e => by
      rcases e with e | e
      · have e : g' = j := by simpa [Value.ownBlock] using e
        exact Or.inr (Or.inr e.symm)
      · exact Or.inr (Or.inl e)))
    have uu : Upd (fun j => kv.ownBlock = some j ∨ j = b) w4 w' := uu.mono (fun j hj e => by
      rcases e with e | e | e
      · exact Or.inl e
      · exact Or.inr e
      · rcases hl5 with e2 | e2
        · rw [e]; exact Or.inl e2
        · omega)
    by_cases e : i = k
    · subst e
      have hgd : (rows ++ [Value.slice a (tt.getD i []).length c]).getD i undef = .slice a (tt.getD i []).length c := by
        simp [List.getD, List.getElem?_append_right, hlen]
      rw [hgd]
      have ho4 := ownsRow_upd ho3 u4 (fun _ _ x => x)
      exact ownsRow_intsR (ownsRow_upd ho4 uu (fun j hj e => by
        rcases e with e | e
        · have := hkb j e; omega
        · omega))
    · have hgd : (rows ++ [Value.slice a (tt.getD k []).length c]).getD i undef = rows.getD i undef := by
        simp only [List.getD]
        rw [List.getElem?_append_left (by omega)]
      rw [hgd]
      exact h4.rws i (by omega) w' uu
  · exact (h4.up.own u5 (fun i e => by have := hkb i e; have := h.lo; omega)).own u6 (fun i e => by have := h.lo; omega)
def NewPost (w : World) (tt : List (List Int)) (e : Ending) (w' : World) : Prop :=
  ∃ b base kv, e = .returned (.pointer (some ⟨b, 0, none⟩)) ∧ w.heap.size ≤ b ∧ IsVh w' b base tt (fun _ => noOb) kv (fun _ => .slice none 0 0) ∧ Upd (fun _ => False) w w'
theorem new_fin {w : World} {b : Nat} {tt : List (List Int)} {rows : List Value} {kv : Value} {wr : World} (h : NewSt w b (obRows (fun _ => noOb) (fun _ => .slice none 0 0) 64) tt tt.length rows kv wr) : NewPost w tt (.returned (.pointer (some ⟨b, 0, none⟩))) wr := by
  have hkb : ∀ j, kv.ownBlock = some j → b < j ∧ j < wr.heap.size := fun j e => by
    have := h.own.lt j e
    omega
  have hbl := h.blk.lt
  refine ⟨b, wr.heap.size, kv, rfl, h.lo, ⟨h.blk, hbl, Nat.le_refl _, fun w' u => ?_, fun i hi => World.ownsRow_nil _ _ _ _, fun i j _ _ _ g e => (by cases e), fun _ _ _ => rfl, fun i hi x hx => (by simp [noOb] at hx), fun i hi => (by simp [noOb]), fun i hi h => (by cases h)⟩, h.up⟩
  have u2 : Upd (fun j => j = b) wr w' := u.mono (fun j hj e => by omega)
  exact ⟨fun i => rows.getD i undef, ownsRow_rows (ownsRow_upd h.own u2 (fun j hj e => by omega)), fun i hi => h.rws i hi w' (u2.mono (fun j hj e => Or.inr e))⟩
def nilObs : List Value := obRows (fun _ => noOb) (fun _ => .slice none 0 0) 64
set_option maxRecDepth 100000 in
theorem zero_heap : Try.zeroCells96 = (Value.slice none 0 0 :: nilObs).toArray := by kernel_rfl
set_option maxRecDepth 100000 in
set_option maxHeartbeats 1000000 in
theorem vh_New (v : Value) (tt : List (List Int)) (w : World) (hv : MatIn w v tt) (h0 : tt.length ≤ 1000) (h30 : ∀ l ∈ tt, l.length ≤ 1000) : Calls Try.prog 23 #[v] w (NewPost w tt) := by
  have hnil : nilObs = obRows (fun _ => noOb) (fun _ => .slice none 0 0) 64 := rfl
  have hbd := zero_heap
  have hfin := Lib.hid (fun rows kv wr (h : NewSt w w.heap.size nilObs tt tt.length rows kv wr) => new_fin h)
  have hB := Blk.new w (Value.slice none 0 0 :: nilObs) 96
  clear hnil
  generalize nilObs = L at *
  rw [← hbd] at hB
  clear hbd
  obtain ⟨H, hR, hrows⟩ := hv
  have hX := Lib.hid hR
  obtain ⟨va, vc, rfl, hcap1, hcap, -⟩ := hR
  have l1 : (tt.length : Int) ≤ 9223372036854775807 := by unfold maxLen at hcap; omega
  clear hcap hcap1
  go_enter Try.func23, Try.ntmps23
  go_wp2_with fail
  go_loopw [10] (fun i wr => ∃ (k : Nat) (rows : List Value) (oa : Option Addr) (oc : Nat), i = .int .i64 k ∧ k ≤ tt.length ∧ NewSt w w.heap.size L tt k rows (.slice oa k oc) wr) (fun i _ => (tt.length - intOf i).toNat)
  case atStart => exact ⟨0, [], none, 0, rfl, Nat.zero_le _, ⟨by first | exact hB | (simpa using hB), World.ownsRow_nil _ _ _ _, fun i hi => absurd hi (by omega), (Upd.refl _ _).alloc _, Nat.le_refl _⟩⟩
  case round =>
    obtain ⟨k, rows, oa, oc, rfl, hk, hst⟩ := hrel
    by_cases hk2 : k = tt.length
    · subst hk2
      have fin := hfin.out _ _ _ hst
      have d1 : ¬ (tt.length : Int) < tt.length := by omega
      have Hfin := Lib.hid fin; clear fin
      clear hst
      go_wp2_with fail
      go_ret
      exact Hfin.out
    · have hk3 : k < tt.length := by omega
      have d1 : (k : Int) < tt.length := by omega
      obtain ⟨b0, off, hix, hb0, hc⟩ := hX.out.index (P := Try.prog) Try.underlying22 (by kernel_rfl) (by kernel_rfl) hk3
      simp only [Nat.mul_one] at hix hc
      have hc0 : wr.cell? ⟨b0, off + k, none⟩ = some (H k) := (hst.up.none.cell (p := ⟨b0, off + k, none⟩) hb0).trans (hc 0 (by decide))
      have hf := hrows k hk3
      have hfl : (tt.getD k []).length ≤ 1000 := by
        refine h30 _ ?_
        simp [List.getD, hk3]
      have hns := Lib.hid (fun w3 w4 w5 a c g' c' ho3 u3 u4 ho5 hg5 hl5 => hst.next (w3 := w3) (w4 := w4) (w5 := w5) (a := a) (c := c) (g' := g') (c' := c') hk3 ho3 u3 u4 ho5 hg5 hl5)
      generalize tt.getD k [] = f at *
      obtain ⟨fa, fc, hfe⟩ : ∃ fa fc, H k = .slice fa f.length fc := by
        obtain ⟨fa, fc, h1, -⟩ := hf
        exact ⟨fa, fc, h1⟩
      rw [hfe] at hf hc0
      have hclo := Lib.hid (fun w' (u : Upd (fun _ => False) wr w') => clone_ints _ f w' (ints_upd hf (hst.up.trans u)) (by omega))
      have hS := Lib.hid hst
      have cb := hst.blk.cell 0 rfl
      clear hc hfe hf hst hk2
      go_wp2_with fail
      obtain ⟨wa, hwa⟩ : ∃ wa : World, wr.alloc (.cells #[.slice fa f.length fc] 68) = wa := ⟨_, rfl⟩
      have u1 : Upd (fun _ => False) wr wa := hwa ▸ (Upd.refl _ _).alloc _
      have hB1 := Lib.hid (show Blk wa wr.heap.size [.slice fa f.length fc] 68 from hwa ▸ Blk.new wr [.slice fa f.length fc] 68)
      rw [hwa]
      clear hwa
      have hcl1 := Lib.hid (fun w' (u : Upd (fun _ => False) wa.drew w') => hclo.out w' (u1.drew.trans u))
      have hC := Lib.hid (fun w' (u : Upd (fun _ => False) wa.drew w') => hS.out.still (u1.drew.trans u))
      have hBB := Lib.hid (fun w' (u : Upd (fun _ => False) wa.drew w') => (hB1.out.upd (((Upd.refl (fun _ => False) _).drew).trans u) (fun h => h)).cell 0 rfl)
      have Hu1 := Lib.hid u1
      have c1 := hB1.out.cell 0 rfl
      have c2 := (hS.out.still u1).blk.cell 0 rfl
      have hf1 := Lib.hid (fun w3 w4 w5 (u3 : Upd (fun _ => False) wa.drew w3) (u4 : Upd (fun _ => False) w3 w4) (v : Value) (hg5 : w4.grownBy w5 (Value.slice oa k oc).ownBlock) => show w5.frozen? ⟨w.heap.size, 0, none⟩ = false ∧ w5.cell? ⟨w.heap.size, 0, none⟩ = some (.slice oa k oc) from by
        have h5 := ((hS.out.still (u1.drew.trans u3)).still u4)
        have u5 : Upd (fun j => (Value.slice oa k oc).ownBlock = some j) w4 w5 := (Upd.refl _ _).grown hg5 (fun j e _ => e)
        have hb5 := h5.blk.upd u5 (fun e => by have := (h5.own.lt _ e).1; omega)
        exact ⟨hb5.free 0, hb5.cell 0 rfl⟩)
      have hk0 : k ≤ 1099511627776 := by omega
      clear u1 cb hclo hc0 hix
      have infoKind : (Try.prog.info? 68).map (fun i => (i.zero, i.size, i.bytes)) = some (some (.agg #[.slice none 0 0]), 1, 24) := by kernel_rfl
      have hsz := Lib.hid (show w.heap.size + 1 ≤ wa.heap.size from by have := hB1.out.lt; have := hS.out.blk.lt; omega)
      go_region_law (first
        | (go_simp; go_at_call 57; (with_reducible refine (hcl1.out _ (Upd.refl _ _)).mono ?_); rintro e w3 ⟨a, c, rfl, ho3, hu3⟩; have cb3 := (hC.out w3 hu3).blk.cell 0 rfl; have cB3 := hBB.out w3 hu3; have hown3 := Lib.hid ((hC.out w3 hu3).own.alloc (.cells #[.slice a f.length c] 68)); have cb4 := ((hC.out w3 hu3).blk.alloc (.cells #[.slice a f.length c] 68)).cell 0 rfl; have cB4 := ((hB1.out.upd (((Upd.refl (fun _ => False) _).drew).trans hu3) (fun h => h)).alloc (.cells #[.slice a f.length c] 68)).cell 0 rfl; have cN3 := (Blk.new w3 [.slice a f.length c] 68).cell 0 rfl; have hz3 := hu3.size; have Ho3 := Lib.hid (ho3.mono Hu1.out.size); have Hu3 := Lib.hid hu3; clear ho3 hu3)
        | (refine step_pushL rfl _ _ 22 68 rfl (.agg #[.slice none 0 0]) 24 Try.underlying22 infoKind rfl (w.heap.size + 1) _ _ _ rfl hown3.out w3.heap.size 1 (.slice a f.length c) rfl cN3 rfl hk0 (by decide) (by have := hsz.out; have : wa.drew.heap.size = wa.heap.size := rfl; omega) ?_; intro g5 c5 w5 ho5 hg5 hl5; obtain ⟨f5, c5b⟩ := hf1.out w3 _ w5 Hu3.out ((Upd.refl _ _).alloc _) (.slice a f.length c) hg5; have fin5 := Lib.hid (hns.out _ _ _ a c g5 c5 Ho3.out (Hu1.out.drew.trans Hu3.out) ((Upd.refl _ _).alloc _) ho5 hg5 hl5); clear ho5 hg5 hl5))
      all_goals
        go_wp2
        go_roundw
        case rel => exact ⟨k + 1, _, _, _, by go_num, by omega, fin5.out⟩
        case measure => simp [intOf]; omega
end Go.Proofs.Ytcnbcidbbeadcaa
