/- The document's marker: its functions' contracts. -/
import Derived.Test.YthaicpjgmplgcaaPushL
import Derived.Test.YthaicpjgmplgcaaRefPack
import Derived.Test.YthaicpjgmplgcaaMarkRefs
import Derived.Test.YthaicpjgmplgcaaLater
import Derived.Deep.RegionWith
import Derived.Deep.CutBlock
import Derived.Deep.DeepCutAuto
namespace Go.Proofs.Ythaicpjgmplgcaa
open Go.RowKit Go.ChangeShapes Go.WideShapes
set_option linter.unusedVariables false
attribute [local go_sem] ite_min ite_max

/-- The document's marker in block rb; its rows of bools in gm and gs; all that it holds lies at base or behind. -/
structure IsRk (w : World) (base rb gm gs : Nat) (x : Mk) : Prop where
  mm : BoolsAt base w gm x.n x.n x.m
  sc : BoolsAt base w gs x.n x.n x.s
  st : ∃ a c, Blk w rb [.slice (some ⟨gm, 0, none⟩) x.n x.n, .slice (some ⟨gs, 0, none⟩) x.n x.n, .slice a x.l.length c, .int .i64 x.room, .bool x.over] 105 ∧ w.ownsRow (rb + 1) 3 1 (.slice a x.l.length c) x.l.length (ints x.l)
  ne : gm < rb ∧ gs < rb ∧ gm ≠ gs
  room : x.room ≤ 2048
  len : x.l.length ≤ x.room
  n : x.n ≤ 1048576

section
variable {w w' : World} {base rb gm gs : Nat} {x : Mk}
theorem IsRk.ge (h : IsRk w base rb gm gs x) : base ≤ gm ∧ base ≤ gs ∧ base ≤ rb := by
  have h1 := h.mm.lt.1
  have h2 := h.sc.lt.1
  have h3 := h.ne.1
  exact ⟨h1, h2, by omega⟩
theorem IsRk.upd (h : IsRk w base rb gm gs x) {S : Nat → Prop} (u : Upd S w w') (hs : ∀ k, base ≤ k → ¬ S k) : IsRk w' base rb gm gs x := by
  obtain ⟨g1, g2, g3⟩ := h.ge
  obtain ⟨a, c, h1, h2⟩ := h.st
  exact ⟨h.mm.upd u (hs _ g1), h.sc.upd u (hs _ g2), ⟨a, c, h1.upd u (hs _ g3), ownsRow_upd h2 u (fun j hj => hs j (by omega))⟩, h.ne, h.room, h.len, h.n⟩
theorem IsRk.still (h : IsRk w base rb gm gs x) (u : Upd (fun _ => False) w w') : IsRk w' base rb gm gs x := h.upd u (fun _ _ e => e)
end

def RkPost (w : World) (base rb gm gs : Nat) (y : Mk) (v : Value) (e : Ending) (w' : World) : Prop :=
  e = .returned v ∧ IsRk w' base rb gm gs y ∧ Upd (fun j => base ≤ j) w w'

/-- Another entry of the marker's own block. -/
theorem rk_over {w : World} {base rb gm gs : Nat} {x : Mk} (h : IsRk w base rb gm gs x) (b : Bool) : IsRk (w.setCell ⟨rb, 4, none⟩ (.bool b)) base rb gm gs { x with over := b } := by
  obtain ⟨a, c, h1, h2⟩ := h.st
  have u : Upd (fun i => i = rb) w (w.setCell ⟨rb, 4, none⟩ (.bool b)) := (Upd.refl _ _).at _ _
  have h3 := h1.set 4 (.bool b)
  obtain ⟨n1, n2, n3⟩ := h.ne
  exact ⟨h.mm.upd u (by omega), h.sc.upd u (by omega), ⟨a, c, by simpa using h3, ownsRow_upd h2 u (fun j hj => by omega)⟩, h.ne, h.room, h.len, h.n⟩
theorem rk_mark {w : World} {base rb gm gs : Nat} {x : Mk} (h : IsRk w base rb gm gs x) (q : Nat) : IsRk (w.setCell ⟨gm, q, none⟩ (.bool true)) base rb gm gs { x with m := setF x.m q true } := by
  obtain ⟨a, c, h1, h2⟩ := h.st
  have u : Upd (fun i => i = gm) w (w.setCell ⟨gm, q, none⟩ (.bool true)) := (Upd.refl _ _).at _ _
  obtain ⟨n1, n2, n3⟩ := h.ne
  exact ⟨h.mm.set q true, h.sc.upd u (by omega), ⟨a, c, h1.upd u (by omega), ownsRow_upd h2 u (fun j hj => by omega)⟩, h.ne, h.room, h.len, h.n⟩
theorem rk_scan {w : World} {base rb gm gs : Nat} {x : Mk} (h : IsRk w base rb gm gs x) (q : Nat) : IsRk (w.setCell ⟨gs, q, none⟩ (.bool true)) base rb gm gs { x with s := setF x.s q true } := by
  obtain ⟨a, c, h1, h2⟩ := h.st
  have u : Upd (fun i => i = gs) w (w.setCell ⟨gs, q, none⟩ (.bool true)) := (Upd.refl _ _).at _ _
  obtain ⟨n1, n2, n3⟩ := h.ne
  exact ⟨h.mm.upd u (by omega), h.sc.set q true, ⟨a, c, h1.upd u (by omega), ownsRow_upd h2 u (fun j hj => by omega)⟩, h.ne, h.room, h.len, h.n⟩
theorem rk_up {w w' : World} {base k : Nat} (i : Nat) (v : Value) (hk : base ≤ k) (h : w' = w.setCell ⟨k, i, none⟩ v) : Upd (fun j => base ≤ j) w w' := by
  subst h
  exact (Upd.refl _ _).setCell (fun _ => hk) _

theorem ownsRow_pre {w : World} {base : Nat} {e : TypeId} {a : Option Addr} {n c : Nat} {xs : List Value} {m : Nat} (h : w.ownsRow base e 1 (.slice a n c) n xs) (hm : m ≤ n) (hn : 0 < n) : w.ownsRow base e 1 (.slice a m c) m (xs.take m) := by
  obtain ⟨h1, h2⟩ := h
  rcases h2 with ⟨h0, h3⟩ | ⟨g, cap, cur, hv, hg, hh, hc, hcm, hs, ht⟩
  · omega
  · cases hv
    refine ⟨by simp; omega, Or.inr ⟨g, c, cur, rfl, hg, hh, by omega, hcm, hs, ?_⟩⟩
    rw [← ht, List.take_take]
    congr 1
    omega

theorem rk_popped {w : World} {base rb gm gs : Nat} {x : Mk} {a : Option Addr} {c m : Nat} (h : IsRk w base rb gm gs x) (h1 : Blk w rb [.slice (some ⟨gm, 0, none⟩) x.n x.n, .slice (some ⟨gs, 0, none⟩) x.n x.n, .slice a x.l.length c, .int .i64 x.room, .bool x.over] 105)
    (h2 : w.ownsRow (rb + 1) 3 1 (.slice a x.l.length c) x.l.length (ints x.l)) (hm : x.l.length = m + 1) : IsRk (w.setCell ⟨rb, 2, none⟩ (.slice a m c)) base rb gm gs { x with l := x.l.dropLast } := by
  have u : Upd (fun i => i = rb) w (w.setCell ⟨rb, 2, none⟩ (.slice a m c)) := (Upd.refl _ _).at _ _
  have h3 := h1.set 2 (.slice a m c)
  obtain ⟨n1, n2, n3⟩ := h.ne
  have hl : x.l.dropLast.length = m := by simp; omega
  have h4 := ownsRow_pre h2 (m := m) (by omega) (by omega)
  have h5 : (ints x.l).take m = ints x.l.dropLast := by
    unfold ints
    rw [← List.map_take, List.dropLast_eq_take, hm]
    rfl
  rw [h5] at h4
  refine ⟨h.mm.upd u (by omega), h.sc.upd u (by omega), ⟨a, c, ?_, ?_⟩, h.ne, h.room, ?_, h.n⟩
  · show Blk _ _ [_, _, .slice a x.l.dropLast.length c, _, _] _
    rw [hl]
    simpa using h3
  · show World.ownsRow _ _ _ _ (.slice a x.l.dropLast.length c) x.l.dropLast.length _
    rw [hl]
    exact ownsRow_upd h4 u (fun j hj => by omega)
  · show x.l.dropLast.length ≤ x.room
    have := h.len
    omega

theorem rk_pushed {w w3 : World} {base rb gm gs : Nat} {x : Mk} {a : Option Addr} {c g' c' : Nat} {b : Int} {o : Obj} (h : IsRk w base rb gm gs x) (h1 : Blk w rb [.slice (some ⟨gm, 0, none⟩) x.n x.n, .slice (some ⟨gs, 0, none⟩) x.n x.n, .slice a x.l.length c, .int .i64 x.room, .bool x.over] 105)
    (h2 : w.ownsRow (rb + 1) 3 1 (.slice a x.l.length c) x.l.length (ints x.l)) (hlt : x.l.length < x.room)
    (ho : w3.ownsRow (rb + 1) 3 1 (.slice (some ⟨g', 0, none⟩) (x.l.length + 1) c') (x.l.length + 1) (ints x.l ++ [.int .i64 b])) (hg : (w.alloc o).grownBy w3 (Value.slice a x.l.length c).ownBlock) :
    RkPost w base rb gm gs (x.push b) (.bool true) (.returned (.bool true)) (w3.setCell ⟨rb, 2, none⟩ (.slice (some ⟨g', 0, none⟩) (x.l.length + 1) c')) := by
  have hp : x.push b = { x with l := x.l ++ [b], over := x.over } := by
    unfold Mk.push pushL
    rw [if_pos hlt, decide_eq_true hlt]
    simp
  rw [hp]
  obtain ⟨n1, n2, n3⟩ := h.ne
  obtain ⟨b1, b2, b3⟩ := h.ge
  have u1 : Upd (fun _ => False) w (w.alloc o) := (Upd.refl _ _).alloc _
  have u2 : Upd (fun j => rb + 1 ≤ j) (w.alloc o) w3 := (Upd.refl _ _).grown hg (fun j e _ => (h2.lt j e).1)
  have u3 : Upd (fun i => i = rb) w3 (w3.setCell ⟨rb, 2, none⟩ (.slice (some ⟨g', 0, none⟩) (x.l.length + 1) c')) := (Upd.refl _ _).at _ _
  have k1 := ((h1.upd u1 (fun x => x)).upd u2 (by omega)).set 2 (.slice (some ⟨g', 0, none⟩) (x.l.length + 1) c')
  have hrow : ints (x.l ++ [b]) = ints x.l ++ [.int .i64 b] := by simp [ints]
  refine ⟨rfl, ⟨((h.mm.upd u1 (fun x => x)).upd u2 (by omega)).upd u3 (by omega), ((h.sc.upd u1 (fun x => x)).upd u2 (by omega)).upd u3 (by omega), ⟨some ⟨g', 0, none⟩, c', ?_, ?_⟩, h.ne, h.room, ?_, h.n⟩, ?_⟩
  · show Blk _ _ [_, _, .slice _ (x.l ++ [b]).length c', _, _] _
    rw [List.length_append]
    simpa using k1
  · show World.ownsRow _ _ _ _ (.slice _ (x.l ++ [b]).length c') (x.l ++ [b]).length (ints (x.l ++ [b]))
    rw [hrow, List.length_append]
    exact ownsRow_upd ho u3 (fun j hj => by omega)
  · show (x.l ++ [b]).length ≤ x.room
    rw [List.length_append]
    exact hlt
  · exact ((u1.comp u2 (U := fun j => base ≤ j) (fun i _ e => e.elim) (fun i _ e => by omega)).comp u3 (fun i _ e => e) (fun i _ e => by omega))

theorem rk_cells {w : World} {rb gm gs : Nat} {n : Nat} {a : Option Addr} {l c room : Nat} {over : Bool} (h : Blk w rb [.slice (some ⟨gm, 0, none⟩) n n, .slice (some ⟨gs, 0, none⟩) n n, .slice a l c, .int .i64 room, .bool over] 105) :
    w.cell? ⟨rb, 0, none⟩ = some (.slice (some ⟨gm, 0, none⟩) n n) ∧ w.cell? ⟨rb, 1, none⟩ = some (.slice (some ⟨gs, 0, none⟩) n n) ∧ w.cell? ⟨rb, 2, none⟩ = some (.slice a l c) ∧ w.cell? ⟨rb, 3, none⟩ = some (.int .i64 room) ∧ w.cell? ⟨rb, 4, none⟩ = some (.bool over) :=
  ⟨h.cell 0 rfl, h.cell 1 rfl, h.cell 2 rfl, h.cell 3 rfl, h.cell 4 rfl⟩

set_option maxRecDepth 100000 in
set_option maxHeartbeats 1000000 in
theorem rk_push {w : World} {base rb gm gs : Nat} {x : Mk} (h : IsRk w base rb gm gs x) (b : Int) :
    Calls Try.prog 88 #[.pointer (some ⟨rb, 0, none⟩), .int .i64 b] w (RkPost w base rb gm gs (x.push b) (.bool (decide (x.l.length < x.room)))) := by
  obtain ⟨a, c, h1, h2⟩ := h.st
  have hk2 := fun (s : Later w) => show s.val.cell? ⟨rb, 2, none⟩ = _ from (h1.upd s.up (fun x => x)).cell 2 rfl
  have hk3 := fun (s : Later w) => show s.val.cell? ⟨rb, 3, none⟩ = _ from (h1.upd s.up (fun x => x)).cell 3 rfl
  by_cases hlt : x.l.length < x.room
  · rw [decide_eq_true hlt]
    have e1 : ¬ (x.room ≤ x.l.length) := by omega
    have hfin := fun w4 (u : Upd (fun _ => False) w w4) w3 g' c' ho hg => rk_pushed (w3 := w3) (b := b) (o := .cells #[.int .i64 b] 3) (g' := g') (c' := c') (h.still u) (h1.upd u (fun x => x)) (ownsRow_upd h2 u (fun _ _ x => x)) hlt ho hg
    have hl3 : x.l.length ≤ 1099511627776 := by have := h.len; have := h.room; omega
    generalize x.push b = y at *
    have Hh := Lib.hid h; clear h
    have Hh1 := Lib.hid h1; clear h1
    have Hh2 := Lib.hid h2; clear h2
    have Hhfin := Lib.hid hfin; clear hfin
    have Hhlt := Lib.hid hlt; clear hlt
    go_enter Try.func88, Try.ntmps88
    go_wp2_with fail
    refine wp_region_later (by kernel_rfl) (by kernel_rfl) ?_
    repeat (go_big_quiet_step (fail))
    refine wpQuiet_nil ?_
    intro w4 hw4
    have u4 : Upd (fun _ => False) w w4 := by
      obtain ⟨s, rfl⟩ := hw4
      exact s.up
    clear hw4
    clear hk2 hk3
    have k1 := Hh1.out.upd u4 (fun x => x)
    have k2 := ownsRow_upd Hh2.out u4 (fun _ _ x => x)
    obtain ⟨c0, c1, c2, c3, c4⟩ := rk_cells k1
    have fb := k1.free 2
    have hbs : rb + 1 ≤ (w4.alloc (.cells #[.int .i64 b] 3)).heap.size := by have := k1.lt; simp; omega
    have hcn := World.cell?_alloc_new w4 #[.int .i64 b] 3 0
    have hf4 := Hhfin.out w4 u4
    have Hk1 := Lib.hid k1; clear k1
    have Hk2 := Lib.hid k2; clear k2
    have Hhbs := Lib.hid hbs; clear hbs
    have Hhcn := Lib.hid hcn; clear hcn
    have Hhf4 := Lib.hid hf4; clear hf4
    clear Hhfin
    go_wp2_with (at_builtin; refine wpList_pushL rfl _ _ 37 3 rfl (.int .i64 0) 8 Try.underlying37 infoIntM rfl (rb + 1) _ _ _ rfl (Hk2.out.alloc _) w4.heap.size 1 (.int .i64 b) rfl Hhcn.out rfl hl3 (by decide) Hhbs.out ?_; intro g5 c5 w5 ho5 hg5 hl5; have hr5 := Blk.upd (Hk1.out.alloc (.cells #[.int .i64 b] 3)) ((Upd.refl (fun j => rb + 1 ≤ j) _).grown hg5 (fun j e _ => (Hk2.out.lt j e).1)) (by omega); have hr5f := hr5.free 2; have hr5c := hr5.cell 2 rfl; have Hf5 := Lib.hid (Hhf4.out w5 g5 c5 ho5 hg5); clear ho5 hg5 hl5 hr5)
    go_ret
    obtain ⟨f1, f2, f3⟩ := Hf5.out
    exact ⟨f1, f2, (u4.mono (fun _ _ e => e.elim)).trans f3⟩
  · rw [decide_eq_false hlt]
    have e1 : x.room ≤ x.l.length := by omega
    have hp : x.push b = { x with over := true } := by
      unfold Mk.push pushL
      rw [if_neg hlt, decide_eq_false hlt]
      simp
    rw [hp]
    have hb := h.ge.2.2
    have Hh := Lib.hid h; clear h
    have Hh1 := Lib.hid h1; clear h1
    have Hh2 := Lib.hid h2; clear h2
    have Hhlt := Lib.hid hlt; clear hlt
    have Hhb := Lib.hid hb; clear hb
    go_enter Try.func88, Try.ntmps88
    go_wp2_with fail
    refine wp_region_later (by kernel_rfl) (by kernel_rfl) ?_
    repeat (go_big_quiet_step (fail))
    refine wpQuiet_nil ?_
    intro w4 hw4
    have u4 : Upd (fun _ => False) w w4 := by
      obtain ⟨s, rfl⟩ := hw4
      exact s.up
    clear hw4
    clear hk2 hk3
    have h4 := Hh.out.still u4
    have k1 := Hh1.out.upd u4 (fun x => x)
    obtain ⟨c0, c1, c2, c3, c4⟩ := rk_cells k1
    have fb := k1.free 4
    have Hh4 := Lib.hid h4; clear h4
    have Hk1 := Lib.hid k1; clear k1
    go_wp2_with fail
    go_ret
    exact ⟨rfl, rk_over Hh4.out true, (u4.mono (fun _ _ e => e.elim)).trans (rk_up 4 (.bool true) Hhb.out rfl)⟩

theorem offB_cases (x : Mk) (b : Int) : (b < 0 ∧ offB x.n x.m b = false) ∨ (0 ≤ b ∧ (x.n : Int) ≤ b ∧ offB x.n x.m b = false) ∨ ∃ q : Nat, b = q ∧ q < x.n ∧ offB x.n x.m b = !x.m q := by
  unfold offB
  by_cases h0 : b < 0
  · exact Or.inl ⟨h0, by rw [decide_eq_false (by omega)]; rfl⟩
  · by_cases h1 : (x.n : Int) ≤ b
    · exact Or.inr (Or.inl ⟨by omega, h1, by rw [decide_eq_false (by omega)]; rfl⟩)
    · refine Or.inr (Or.inr ⟨b.toNat, by omega, by omega, ?_⟩)
      rw [decide_eq_true (by omega)]
      cases x.m b.toNat <;> rfl
theorem shade_off (x : Mk) (b : Int) (h : offB x.n x.m b = false) : x.shade b = x := by
  unfold Mk.shade
  rw [h]
  rfl
theorem black_off (x : Mk) (b : Int) (h : offB x.n x.m b = false) : x.black b = x := by
  unfold Mk.black
  rw [h]
  rfl

set_option maxRecDepth 100000 in
set_option maxHeartbeats 1000000 in
theorem rk_Shade {w : World} {base rb gm gs : Nat} {x : Mk} (h : IsRk w base rb gm gs x) (b : Int) :
    Calls Try.prog 67 #[.pointer (some ⟨rb, 0, none⟩), .int .i64 b] w (RkPost w base rb gm gs (x.shade b) (.bool (offB x.n x.m b))) := by
  obtain ⟨a, c, h1, h2⟩ := h.st
  obtain ⟨c0, c1, c2, c3, c4⟩ := rk_cells h1
  have hn := h.n
  have hsame : offB x.n x.m b = false → RkPost w base rb gm gs (x.shade b) (.bool (offB x.n x.m b)) (.returned (.bool false)) w := fun e => by
    rw [shade_off x b e, e]
    exact ⟨rfl, h, Upd.refl _ _⟩
  rcases offB_cases x b with ⟨t1, t2⟩ | ⟨t1, t2, t3⟩ | ⟨q, rfl, hq, t3⟩
  · have hfin := hsame t2
    have Hhfin := Lib.hid hfin; clear hfin
    clear h h1 h2 hsame t2
    go_enter Try.func67, Try.ntmps67
    go_wp2_with fail
    go_ret
    exact Hhfin.out
  · have hfin := hsame t3
    have Hhfin := Lib.hid hfin; clear hfin
    clear h h1 h2 hsame t3
    have t4 : ¬ (b < 0) := by omega
    go_enter Try.func67, Try.ntmps67
    go_wp2_with fail
    go_ret
    exact Hhfin.out
  · have hcm := h.mm.cell q hq
    have t4 : ¬ ((q : Int) < 0) := by omega
    have t5 : ¬ (x.n ≤ q) := by omega
    have t6 : (q : Int) < x.n := by omega
    cases hm : x.m q
    · rw [hm] at hcm t3
      have hs : x.shade (q : Int) = ({ x with m := setF x.m (q : Int) true } : Mk).push (q : Int) := by
        unfold Mk.shade
        rw [t3]
        rfl
      rw [hs, t3]
      have k1 := rk_mark h q
      have hp := rk_push k1 (q : Int)
      have hfr := World.ownsRow.frozenAt h.mm q
      have hu := rk_up (w := w) q (.bool true) h.ge.1 rfl
      unfold RkPost at hp
      have Hhp := Lib.hid hp; clear hp
      have Hhu := Lib.hid hu; clear hu
      have Hh := Lib.hid h; clear h
      have Hh1 := Lib.hid h1; clear h1
      have Hh2 := Lib.hid h2; clear h2
      clear k1 hs t3 hsame
      go_enter Try.func67, Try.ntmps67
      go_wp2_with fail
      refine Hhp.out.mono ?_
      rintro e w2 ⟨rfl, k2, u2⟩
      have Hk2 := Lib.hid k2; clear k2
      have Hu2 := Lib.hid u2; clear u2
      go_wp2_with fail
      go_ret
      exact ⟨rfl, Hk2.out, Hhu.out.trans Hu2.out⟩
    · rw [hm] at t3 hcm
      have hfin := hsame t3
      have Hhfin := Lib.hid hfin; clear hfin
      clear h h1 h2 hsame t3
      go_enter Try.func67, Try.ntmps67
      go_wp2_with fail
      go_ret
      exact Hhfin.out

theorem rk_black {w : World} {base rb gm gs : Nat} {x : Mk} (h : IsRk w base rb gm gs x) (q : Nat) :
    IsRk ((w.setCell ⟨gm, q, none⟩ (.bool true)).setCell ⟨gs, q, none⟩ (.bool true)) base rb gm gs { x with m := setF x.m q true, s := setF x.s q true } ∧ IsRk ((w.setCell ⟨gs, q, none⟩ (.bool true)).setCell ⟨gm, q, none⟩ (.bool true)) base rb gm gs { x with m := setF x.m q true, s := setF x.s q true } :=
  ⟨rk_scan (rk_mark h q) q, rk_mark (rk_scan h q) q⟩

set_option maxRecDepth 100000 in
set_option maxHeartbeats 1000000 in
theorem rk_Black {w : World} {base rb gm gs : Nat} {x : Mk} (h : IsRk w base rb gm gs x) (b : Int) :
    Calls Try.prog 66 #[.pointer (some ⟨rb, 0, none⟩), .int .i64 b] w (RkPost w base rb gm gs (x.black b) (.bool (offB x.n x.m b))) := by
  obtain ⟨a, c, h1, h2⟩ := h.st
  obtain ⟨c0, c1, c2, c3, c4⟩ := rk_cells h1
  have hn := h.n
  have hsame : offB x.n x.m b = false → RkPost w base rb gm gs (x.black b) (.bool (offB x.n x.m b)) (.returned (.bool false)) w := fun e => by
    rw [black_off x b e, e]
    exact ⟨rfl, h, Upd.refl _ _⟩
  rcases offB_cases x b with ⟨t1, t2⟩ | ⟨t1, t2, t3⟩ | ⟨q, rfl, hq, t3⟩
  · have hfin := hsame t2
    have Hhfin := Lib.hid hfin; clear hfin
    clear h h1 h2 hsame t2
    go_enter Try.func66, Try.ntmps66
    go_wp2_with fail
    go_ret
    exact Hhfin.out
  · have hfin := hsame t3
    have Hhfin := Lib.hid hfin; clear hfin
    clear h h1 h2 hsame t3
    have t4 : ¬ (b < 0) := by omega
    go_enter Try.func66, Try.ntmps66
    go_wp2_with fail
    go_ret
    exact Hhfin.out
  · have hcm := h.mm.cell q hq
    have hcs := h.sc.cell q hq
    have t4 : ¬ ((q : Int) < 0) := by omega
    have t5 : ¬ (x.n ≤ q) := by omega
    have t6 : (q : Int) < x.n := by omega
    cases hm : x.m q
    · rw [hm] at hcm t3
      have hs : x.black (q : Int) = { x with m := setF x.m (q : Int) true, s := setF x.s (q : Int) true } := by
        unfold Mk.black
        rw [t3]
        rfl
      rw [hs, t3]
      have hfr := World.ownsRow.frozenAt h.mm q
      have hfs := World.ownsRow.frozenAt h.sc q
      have hfin : ∀ w', (w' = (w.setCell ⟨gm, q, none⟩ (.bool true)).setCell ⟨gs, q, none⟩ (.bool true) ∨ w' = (w.setCell ⟨gs, q, none⟩ (.bool true)).setCell ⟨gm, q, none⟩ (.bool true)) → IsRk w' base rb gm gs { x with m := setF x.m (q : Int) true, s := setF x.s (q : Int) true } ∧ Upd (fun j => base ≤ j) w w' := fun w' hw => by
        rcases hw with rfl | rfl
        · exact ⟨(rk_black h q).1, (rk_up q (.bool true) h.ge.1 rfl).trans (rk_up q (.bool true) h.ge.2.1 rfl)⟩
        · exact ⟨(rk_black h q).2, (rk_up q (.bool true) h.ge.2.1 rfl).trans (rk_up q (.bool true) h.ge.1 rfl)⟩
      have hne := h.ne.2.2
      have n1 : gm ≠ rb := by have := h.ne.1; omega
      have n2 : gs ≠ rb := by have := h.ne.2.1; omega
      have Hhfin := Lib.hid hfin; clear hfin
      have Hh := Lib.hid h; clear h
      have Hh1 := Lib.hid h1; clear h1
      have Hh2 := Lib.hid h2; clear h2
      clear hs t3 hsame
      go_enter Try.func66, Try.ntmps66
      go_wp2_with fail
      go_region
      go_wp2_with fail
      go_ret
      obtain ⟨f1, f2⟩ := Hhfin.out _ (Or.inl rfl)
      exact ⟨rfl, f1.still ((Upd.refl _ _).drew), f2.drew⟩
    · rw [hm] at t3 hcm
      have hfin := hsame t3
      have Hhfin := Lib.hid hfin; clear hfin
      clear h h1 h2 hsame t3
      go_enter Try.func66, Try.ntmps66
      go_wp2_with fail
      go_ret
      exact Hhfin.out

theorem rk_Room (n : Int) (w : World) : Calls Try.prog 87 #[.int .i64 n] w (Same w (.int .i64 (roomOf n))) := by
  have hr : max 1 (min n 2048) = (roomOf n : Int) := by unfold roomOf; omega
  go_enter Try.func87, Try.ntmps87
  go_wp2_with fail
  go_ret
  exact ⟨rfl, rfl⟩

def RkNew (w : World) (n room : Int) (e : Ending) (w' : World) : Prop :=
  ∃ rb gm gs, e = .returned (.pointer (some ⟨rb, 0, none⟩)) ∧ IsRk w' w.heap.size rb gm gs ⟨(max 0 (min n 1048576)).toNat, fun _ => false, fun _ => false, [], roomOf room, false⟩ ∧ Upd (fun _ => False) w w'

theorem rk_made (w w0 : World) (k r gm gs : Nat) (u : Upd (fun _ => False) w w0) (hz : w0.heap.size = w.heap.size) (hk : k ≤ 1048576) (hr : r ≤ 2048) (hg : (gm = w.heap.size ∧ gs = w.heap.size + 1) ∨ (gs = w.heap.size ∧ gm = w.heap.size + 1)) :
    IsRk (((w0.alloc (.cells (madeCells #[.bool false] k) 4)).alloc (.cells (madeCells #[.bool false] k) 4)).alloc (.cells #[.slice (some ⟨gm, 0, none⟩) k k, .slice (some ⟨gs, 0, none⟩) k k, .slice none 0 0, .int .i64 r, .bool false] 105)) w.heap.size (w.heap.size + 2) gm gs ⟨k, fun _ => false, fun _ => false, [], r, false⟩ := by
  have m1 := made_bools w0 k hk
  have m2 := made_bools (w0.alloc (.cells (madeCells #[.bool false] k) 4)) k hk
  have hz2 : (w0.alloc (.cells (madeCells #[.bool false] k) 4)).heap.size = w.heap.size + 1 := by simp [hz]
  have hz3 : ((w0.alloc (.cells (madeCells #[.bool false] k) 4)).alloc (.cells (madeCells #[.bool false] k) 4)).heap.size = w.heap.size + 2 := by simp [hz]
  rw [hz] at m1
  rw [hz2] at m2
  generalize w0.alloc (.cells (madeCells #[.bool false] k) 4) = wa at *
  have ub : Upd (fun _ => False) wa (wa.alloc (.cells (madeCells #[.bool false] k) 4)) := (Upd.refl _ _).alloc _
  have m1 := m1.upd ub (fun x => x)
  generalize wa.alloc (.cells (madeCells #[.bool false] k) 4) = wb at *
  have hn := Blk.new wb [.slice (some ⟨gm, 0, none⟩) k k, .slice (some ⟨gs, 0, none⟩) k k, .slice none 0 0, .int .i64 r, .bool false] 105
  rw [hz3] at hn
  have uc : Upd (fun _ => False) wb (wb.alloc (.cells #[.slice (some ⟨gm, 0, none⟩) k k, .slice (some ⟨gs, 0, none⟩) k k, .slice none 0 0, .int .i64 r, .bool false] 105)) := (Upd.refl _ _).alloc _
  have m1 := m1.upd uc (fun x => x)
  have m2 := m2.upd uc (fun x => x)
  have m2 : BoolsAt w.heap.size _ (w.heap.size + 1) k k (fun _ => false) := ownsRow_base' m2 (Nat.le_succ _)
  rcases hg with ⟨rfl, rfl⟩ | ⟨rfl, rfl⟩
  · exact ⟨m1, m2, ⟨none, 0, hn, World.ownsRow_nil _ _ _ _⟩, ⟨by omega, by omega, by omega⟩, hr, Nat.zero_le _, hk⟩
  · exact ⟨m2, m1, ⟨none, 0, hn, World.ownsRow_nil _ _ _ _⟩, ⟨by omega, by omega, by omega⟩, hr, Nat.zero_le _, hk⟩

set_option maxRecDepth 100000 in
set_option maxHeartbeats 1000000 in
theorem rk_New (n room : Int) (w : World) : Calls Try.prog 65 #[.int .i64 n, .int .i64 room] w (RkNew w n room) := by
  obtain ⟨k, hk⟩ : ∃ k : Nat, max 0 (min n 1048576) = (k : Int) := ⟨(max 0 (min n 1048576)).toNat, by omega⟩
  unfold RkNew
  rw [show (max 0 (min n 1048576)).toNat = k from by omega]
  have hk2 : k ≤ 1048576 := by omega
  have hr := fun w' => rk_Room room w'
  have hr2 := roomOf_le room
  have hk3 : (k : Int) ≤ 1048576 := by omega
  generalize roomOf room = r at *
  have hmk := run_make_row' (P := Try.prog) 34 4 (.bool false) 1 Try.underlying34 infoBool rfl .i64 .i64 k (by omega) (by omega)
  have hfin := rk_made w
  have Hhr := Lib.hid hr; clear hr
  have Hhfin := Lib.hid hfin; clear hfin
  go_enter Try.func65, Try.ntmps65
  go_wp2_with fail
  clear hk
  go_region_with (go_at_call 87; refine (Hhr.out _).mono ?_; rintro e w2 ⟨rfl, rfl⟩)
  all_goals go_wp2
  all_goals go_ret
  all_goals first
    | exact ⟨w.heap.size + 2, _, _, rfl, Hhfin.out w.drew k r _ _ ((Upd.refl _ _).drew) rfl hk2 hr2 (Or.inl ⟨rfl, rfl⟩), (((((Upd.refl _ _).drew).alloc _).alloc _).alloc _)⟩
    | exact ⟨w.heap.size + 2, _, _, rfl, Hhfin.out w.drew k r _ _ ((Upd.refl _ _).drew) rfl hk2 hr2 (Or.inr ⟨rfl, rfl⟩), (((((Upd.refl _ _).drew).alloc _).alloc _).alloc _)⟩

end Go.Proofs.Ythaicpjgmplgcaa
