/- The document's marker: what its calls may turn, told finer. -/
import Derived.Test.YthaicpjgmplgcaaRefStep
import Derived.Deep.DeepCutAuto
import Derived.Deep.CutBlock
-- merged


namespace Go.Proofs.Ythaicpjgmplgcaa
open Go.RowKit Go.ChangeShapes Go.WideShapes
set_option linter.unusedVariables false
attribute [local go_sem] ite_min ite_max

/-- The marker's blocks, and all that is new, belong to T. -/
structure Tk (w : World) (T : Nat → Prop) (rb gm gs : Nat) : Prop where
  trb : T rb
  tgm : T gm
  tgs : T gs
  st : ∀ v, w.cell? ⟨rb, 2, none⟩ = some v → ∀ j, v.ownBlock = some j → T j
  nw : ∀ j, w.heap.size ≤ j → T j
theorem Tk.up {w w' : World} {T : Nat → Prop} {rb gm gs : Nat} (h : Tk w T rb gm gs) {S : Nat → Prop} (u : Upd S w w') (hb : rb < w.heap.size) (hs : ¬ S rb) : Tk w' T rb gm gs :=
  ⟨h.trb, h.tgm, h.tgs, fun v hv => h.st v (by
    have := u.block rb hb hs
    unfold World.cell? at hv ⊢
    rw [← this]
    exact hv), fun j hj => h.nw j (Nat.le_trans u.size hj)⟩
theorem Tk.to {w w' : World} {T : Nat → Prop} {rb gm gs : Nat} (h : Tk w T rb gm gs) (hz : w.heap.size ≤ w'.heap.size) {v : Value} (hc : w'.cell? ⟨rb, 2, none⟩ = some v) (hv : ∀ j, v.ownBlock = some j → T j) : Tk w' T rb gm gs :=
  ⟨h.trb, h.tgm, h.tgs, fun v2 h2 => by
    rw [hc] at h2
    cases h2
    exact hv, fun j hj => h.nw j (Nat.le_trans hz hj)⟩
structure IsRq (w : World) (T : Nat → Prop) (base rb gm gs : Nat) (x : Mk) : Prop where
  rk : IsRk w base rb gm gs x
  tk : Tk w T rb gm gs
theorem IsRk.lt {w : World} {base rb gm gs : Nat} {x : Mk} (h : IsRk w base rb gm gs x) : gm < w.heap.size ∧ gs < w.heap.size ∧ rb < w.heap.size := by
  obtain ⟨a, c, h1, h2⟩ := h.st
  exact ⟨h.mm.lt.2, h.sc.lt.2, h1.lt⟩
theorem IsRq.upd {w w' : World} {T : Nat → Prop} {base rb gm gs : Nat} {x : Mk} (h : IsRq w T base rb gm gs x) {S : Nat → Prop} (u : Upd S w w') (hs : ∀ k, base ≤ k → ¬ S k) : IsRq w' T base rb gm gs x :=
  ⟨h.rk.upd u hs, h.tk.up u h.rk.lt.2.2 (hs _ h.rk.ge.2.2)⟩
theorem IsRq.still {w w' : World} {T : Nat → Prop} {base rb gm gs : Nat} {x : Mk} (h : IsRq w T base rb gm gs x) (u : Upd (fun _ => False) w w') : IsRq w' T base rb gm gs x := h.upd u (fun _ _ e => e)
def RqPost (w : World) (T : Nat → Prop) (base rb gm gs : Nat) (y : Mk) (v : Value) (e : Ending) (w' : World) : Prop :=
  e = .returned v ∧ IsRq w' T base rb gm gs y ∧ Upd T w w'
theorem rq_up {w w' : World} {T : Nat → Prop} {k : Nat} (i : Nat) (v : Value) (hk : T k) (h : w' = w.setCell ⟨k, i, none⟩ v) : Upd T w w' := by
  subst h
  exact (Upd.refl _ _).setCell (fun _ => hk) _
theorem rq_over {w : World} {T : Nat → Prop} {base rb gm gs : Nat} {x : Mk} (h : IsRq w T base rb gm gs x) (b : Bool) : IsRq (w.setCell ⟨rb, 4, none⟩ (.bool b)) T base rb gm gs { x with over := b } := by
  have k := rk_over h.rk b
  refine ⟨k, ?_⟩
  obtain ⟨a, c, h1, h2⟩ := h.rk.st
  have hc := h1.cell 2 rfl
  obtain ⟨a2, c2, g1, g2⟩ := k.st
  have h3 := (h1.set 4 (.bool b)).cell 2 rfl
  exact h.tk.to (by simp) h3 (h.tk.st _ hc)
theorem rq_mark {w : World} {T : Nat → Prop} {base rb gm gs : Nat} {x : Mk} (h : IsRq w T base rb gm gs x) (q : Nat) : IsRq (w.setCell ⟨gm, q, none⟩ (.bool true)) T base rb gm gs { x with m := setF x.m q true } := by
  have hne := h.rk.ne.1
  exact ⟨rk_mark h.rk q, h.tk.up ((Upd.refl (fun i => i = gm) _).at _ _) h.rk.lt.2.2 (by omega)⟩
theorem rq_scan {w : World} {T : Nat → Prop} {base rb gm gs : Nat} {x : Mk} (h : IsRq w T base rb gm gs x) (q : Nat) : IsRq (w.setCell ⟨gs, q, none⟩ (.bool true)) T base rb gm gs { x with s := setF x.s q true } := by
  have hne := h.rk.ne.2.1
  exact ⟨rk_scan h.rk q, h.tk.up ((Upd.refl (fun i => i = gs) _).at _ _) h.rk.lt.2.2 (by omega)⟩

theorem rq_popped {w : World} {T : Nat → Prop} {base rb gm gs : Nat} {x : Mk} {a : Option Addr} {c m : Nat} (h : IsRq w T base rb gm gs x) (h1 : Blk w rb [.slice (some ⟨gm, 0, none⟩) x.n x.n, .slice (some ⟨gs, 0, none⟩) x.n x.n, .slice a x.l.length c, .int .i64 x.room, .bool x.over] 105)
    (h2 : w.ownsRow (rb + 1) 3 1 (.slice a x.l.length c) x.l.length (ints x.l)) (hm : x.l.length = m + 1) : IsRq (w.setCell ⟨rb, 2, none⟩ (.slice a m c)) T base rb gm gs { x with l := x.l.dropLast } := by
  refine ⟨rk_popped h.rk h1 h2 hm, h.tk.to (by simp) ((h1.set 2 (.slice a m c)).cell 2 rfl) (fun j hj => ?_)⟩
  exact h.tk.st _ (h1.cell 2 rfl) j (by
    cases a <;> exact hj)
theorem rq_pushed {w w3 : World} {T : Nat → Prop} {base rb gm gs : Nat} {x : Mk} {a : Option Addr} {c g' c' : Nat} {b : Int} {o : Obj} (h : IsRq w T base rb gm gs x) (h1 : Blk w rb [.slice (some ⟨gm, 0, none⟩) x.n x.n, .slice (some ⟨gs, 0, none⟩) x.n x.n, .slice a x.l.length c, .int .i64 x.room, .bool x.over] 105)
    (h2 : w.ownsRow (rb + 1) 3 1 (.slice a x.l.length c) x.l.length (ints x.l)) (hlt : x.l.length < x.room)
    (ho : w3.ownsRow (rb + 1) 3 1 (.slice (some ⟨g', 0, none⟩) (x.l.length + 1) c') (x.l.length + 1) (ints x.l ++ [.int .i64 b])) (hg : (w.alloc o).grownBy w3 (Value.slice a x.l.length c).ownBlock) (hgb : (Value.slice a x.l.length c).ownBlock = some g' ∨ g' = (w.alloc o).heap.size) :
    RqPost w T base rb gm gs (x.push b) (.bool true) (.returned (.bool true)) (w3.setCell ⟨rb, 2, none⟩ (.slice (some ⟨g', 0, none⟩) (x.l.length + 1) c')) := by
  obtain ⟨-, k, -⟩ := rk_pushed h.rk h1 h2 hlt ho hg
  have hst := h.tk.st (.slice a x.l.length c) (h1.cell 2 rfl)
  have u1 : Upd T w (w.alloc o) := (Upd.refl _ _).alloc _
  have u2 : Upd T (w.alloc o) w3 := (Upd.refl _ _).grown hg (fun j e _ => hst j e)
  have hr3 := ((h1.upd ((Upd.refl (fun _ => False) _).alloc o) (fun x => x)).upd ((Upd.refl (fun j => rb + 1 ≤ j) (w.alloc o)).grown hg (fun j e _ => (h2.lt j e).1)) (by omega)).set 2 (.slice (some ⟨g', 0, none⟩) (x.l.length + 1) c')
  have hu := (u1.trans u2).trans (rq_up (w := w3) 2 (.slice (some ⟨g', 0, none⟩) (x.l.length + 1) c') h.tk.trb rfl)
  refine ⟨rfl, ⟨k, h.tk.to hu.size (hr3.cell 2 rfl) (fun j hj => ?_)⟩, hu⟩
  have hj : g' = j := by cases hj; rfl
  subst hj
  rcases hgb with e | e
  · exact hst _ e
  · exact h.tk.nw _ (by rw [e]; simp)

set_option maxRecDepth 100000 in
set_option maxHeartbeats 1000000 in
theorem rq_push {w : World} {T : Nat → Prop} {base rb gm gs : Nat} {x : Mk} (h : IsRq w T base rb gm gs x) (b : Int) :
    Calls Try.prog 88 #[.pointer (some ⟨rb, 0, none⟩), .int .i64 b] w (RqPost w T base rb gm gs (x.push b) (.bool (decide (x.l.length < x.room)))) := by
  obtain ⟨a, c, h1, h2⟩ := h.rk.st
  have hk2 := fun (s : Later w) => show s.val.cell? ⟨rb, 2, none⟩ = _ from (h1.upd s.up (fun x => x)).cell 2 rfl
  have hk3 := fun (s : Later w) => show s.val.cell? ⟨rb, 3, none⟩ = _ from (h1.upd s.up (fun x => x)).cell 3 rfl
  by_cases hlt : x.l.length < x.room
  · rw [decide_eq_true hlt]
    have e1 : ¬ (x.room ≤ x.l.length) := by omega
    have hfin := fun w4 (u : Upd (fun _ => False) w w4) w3 g' c' ho hg hgb => rq_pushed (w3 := w3) (b := b) (o := .cells #[.int .i64 b] 3) (g' := g') (c' := c') (h.still u) (h1.upd u (fun x => x)) (ownsRow_upd h2 u (fun _ _ x => x)) hlt ho hg hgb
    have hl3 : x.l.length ≤ 1099511627776 := by have := h.rk.len; have := h.rk.room; omega
    generalize x.push b = y at *
    have Hh := Lib.hid h; clear h
    have Hh1 := Lib.hid h1; clear h1
    have Hh2 := Lib.hid h2; clear h2
    have Hhfin := Lib.hid hfin; clear hfin
    have Hhlt := Lib.hid hlt; clear hlt
    go_enter Try.func88, Try.ntmps88
    go_wp2_with fail
    refine wp_region_later (by kernel_rfl) (by kernel_rfl) ?_
    repeat (go_big_quiet_step (fail))
    refine wpQuiet_nil ?_
    intro w4 hw4
    have u4 : Upd (fun _ => False) w w4 := by
      obtain ⟨s, rfl⟩ := hw4
      exact s.up
    clear hw4
    clear hk2 hk3
    have k1 := Hh1.out.upd u4 (fun x => x)
    have k2 := ownsRow_upd Hh2.out u4 (fun _ _ x => x)
    obtain ⟨c0, c1, c2, c3, c4⟩ := rk_cells k1
    have fb := k1.free 2
    have hbs : rb + 1 ≤ (w4.alloc (.cells #[.int .i64 b] 3)).heap.size := by have := k1.lt; simp; omega
    have hcn := World.cell?_alloc_new w4 #[.int .i64 b] 3 0
    have hf4 := Hhfin.out w4 u4
    have Hk1 := Lib.hid k1; clear k1
    have Hk2 := Lib.hid k2; clear k2
    have Hhbs := Lib.hid hbs; clear hbs
    have Hhcn := Lib.hid hcn; clear hcn
    have Hhf4 := Lib.hid hf4; clear hf4
    clear Hhfin
    go_wp2_with (at_builtin; refine wpList_pushL rfl _ _ 37 3 rfl (.int .i64 0) 8 Try.underlying37 infoIntM rfl (rb + 1) _ _ _ rfl (Hk2.out.alloc _) w4.heap.size 1 (.int .i64 b) rfl Hhcn.out rfl hl3 (by decide) Hhbs.out ?_; intro g5 c5 w5 ho5 hg5 hl5; have hr5 := Blk.upd (Hk1.out.alloc (.cells #[.int .i64 b] 3)) ((Upd.refl (fun j => rb + 1 ≤ j) _).grown hg5 (fun j e _ => (Hk2.out.lt j e).1)) (by omega); have hr5f := hr5.free 2; have hr5c := hr5.cell 2 rfl; have Hf5 := Lib.hid (Hhf4.out w5 g5 c5 ho5 hg5 hl5); clear ho5 hg5 hl5 hr5)
    go_ret
    obtain ⟨f1, f2, f3⟩ := Hf5.out
    exact ⟨f1, f2, (u4.mono (fun _ _ e => e.elim)).trans f3⟩
  · rw [decide_eq_false hlt]
    have e1 : x.room ≤ x.l.length := by omega
    have hp : x.push b = { x with over := true } := by
      unfold Mk.push pushL
      rw [if_neg hlt, decide_eq_false hlt]
      simp
    rw [hp]
    have hb := h.tk.trb
    have Hh := Lib.hid h; clear h
    have Hh1 := Lib.hid h1; clear h1
    have Hh2 := Lib.hid h2; clear h2
    have Hhlt := Lib.hid hlt; clear hlt
    have Hhb := Lib.hid hb; clear hb
    go_enter Try.func88, Try.ntmps88
    go_wp2_with fail
    refine wp_region_later (by kernel_rfl) (by kernel_rfl) ?_
    repeat (go_big_quiet_step (fail))
    refine wpQuiet_nil ?_
    intro w4 hw4
    have u4 : Upd (fun _ => False) w w4 := by
      obtain ⟨s, rfl⟩ := hw4
      exact s.up
    clear hw4
    clear hk2 hk3
    have h4 := Hh.out.still u4
    have k1 := Hh1.out.upd u4 (fun x => x)
    obtain ⟨c0, c1, c2, c3, c4⟩ := rk_cells k1
    have fb := k1.free 4
    have Hh4 := Lib.hid h4; clear h4
    have Hk1 := Lib.hid k1; clear k1
    go_wp2_with fail
    go_ret
    exact ⟨rfl, rq_over Hh4.out true, (u4.mono (fun _ _ e => e.elim)).trans (rq_up 4 (.bool true) Hhb.out rfl)⟩


set_option maxRecDepth 100000 in
set_option maxHeartbeats 1000000 in
theorem rq_Shade {w : World} {T : Nat → Prop} {base rb gm gs : Nat} {x : Mk} (h : IsRq w T base rb gm gs x) (b : Int) :
    Calls Try.prog 67 #[.pointer (some ⟨rb, 0, none⟩), .int .i64 b] w (RqPost w T base rb gm gs (x.shade b) (.bool (offB x.n x.m b))) := by
  obtain ⟨a, c, h1, h2⟩ := h.rk.st
  obtain ⟨c0, c1, c2, c3, c4⟩ := rk_cells h1
  have hn := h.rk.n
  have hsame : offB x.n x.m b = false → RqPost w T base rb gm gs (x.shade b) (.bool (offB x.n x.m b)) (.returned (.bool false)) w := fun e => by
    rw [shade_off x b e, e]
    exact ⟨rfl, h, Upd.refl _ _⟩
  rcases offB_cases x b with ⟨t1, t2⟩ | ⟨t1, t2, t3⟩ | ⟨q, rfl, hq, t3⟩
  · have hfin := hsame t2
    have Hhfin := Lib.hid hfin; clear hfin
    clear h h1 h2 hsame t2
    go_enter Try.func67, Try.ntmps67
    go_wp2_with fail
    go_ret
    exact Hhfin.out
  · have hfin := hsame t3
    have Hhfin := Lib.hid hfin; clear hfin
    clear h h1 h2 hsame t3
    have t4 : ¬ (b < 0) := by omega
    go_enter Try.func67, Try.ntmps67
    go_wp2_with fail
    go_ret
    exact Hhfin.out
  · have hcm := h.rk.mm.cell q hq
    have t4 : ¬ ((q : Int) < 0) := by omega
    have t5 : ¬ (x.n ≤ q) := by omega
    have t6 : (q : Int) < x.n := by omega
    cases hm : x.m q
    · rw [hm] at hcm t3
      have hs : x.shade (q : Int) = ({ x with m := setF x.m (q : Int) true } : Mk).push (q : Int) := by
        unfold Mk.shade
        rw [t3]
        rfl
      rw [hs, t3]
      have k1 := rq_mark h q
      have hp := rq_push k1 (q : Int)
      have hfr := World.ownsRow.frozenAt h.rk.mm q
      have hu := rq_up (w := w) q (.bool true) h.tk.tgm rfl
      unfold RqPost at hp
      have Hhp := Lib.hid hp; clear hp
      have Hhu := Lib.hid hu; clear hu
      have Hh := Lib.hid h; clear h
      have Hh1 := Lib.hid h1; clear h1
      have Hh2 := Lib.hid h2; clear h2
      clear k1 hs t3 hsame
      go_enter Try.func67, Try.ntmps67
      go_wp2_with fail
      refine Hhp.out.mono ?_
      rintro e w2 ⟨rfl, k2, u2⟩
      have Hk2 := Lib.hid k2; clear k2
      have Hu2 := Lib.hid u2; clear u2
      go_wp2_with fail
      go_ret
      exact ⟨rfl, Hk2.out, Hhu.out.trans Hu2.out⟩
    · rw [hm] at t3 hcm
      have hfin := hsame t3
      have Hhfin := Lib.hid hfin; clear hfin
      clear h h1 h2 hsame t3
      go_enter Try.func67, Try.ntmps67
      go_wp2_with fail
      go_ret
      exact Hhfin.out


theorem rq_black {w : World} {T : Nat → Prop} {base rb gm gs : Nat} {x : Mk} (h : IsRq w T base rb gm gs x) (q : Nat) :
    IsRq ((w.setCell ⟨gm, q, none⟩ (.bool true)).setCell ⟨gs, q, none⟩ (.bool true)) T base rb gm gs { x with m := setF x.m q true, s := setF x.s q true } ∧ IsRq ((w.setCell ⟨gs, q, none⟩ (.bool true)).setCell ⟨gm, q, none⟩ (.bool true)) T base rb gm gs { x with m := setF x.m q true, s := setF x.s q true } :=
  ⟨rq_scan (rq_mark h q) q, rq_mark (rq_scan h q) q⟩


set_option maxRecDepth 100000 in
set_option maxHeartbeats 1000000 in
theorem rq_Black {w : World} {T : Nat → Prop} {base rb gm gs : Nat} {x : Mk} (h : IsRq w T base rb gm gs x) (b : Int) :
    Calls Try.prog 66 #[.pointer (some ⟨rb, 0, none⟩), .int .i64 b] w (RqPost w T base rb gm gs (x.black b) (.bool (offB x.n x.m b))) := by
  obtain ⟨a, c, h1, h2⟩ := h.rk.st
  obtain ⟨c0, c1, c2, c3, c4⟩ := rk_cells h1
  have hn := h.rk.n
  have hsame : offB x.n x.m b = false → RqPost w T base rb gm gs (x.black b) (.bool (offB x.n x.m b)) (.returned (.bool false)) w := fun e => by
    rw [black_off x b e, e]
    exact ⟨rfl, h, Upd.refl _ _⟩
  rcases offB_cases x b with ⟨t1, t2⟩ | ⟨t1, t2, t3⟩ | ⟨q, rfl, hq, t3⟩
  · have hfin := hsame t2
    have Hhfin := Lib.hid hfin; clear hfin
    clear h h1 h2 hsame t2
    go_enter Try.func66, Try.ntmps66
    go_wp2_with fail
    go_ret
    exact Hhfin.out
  · have hfin := hsame t3
    have Hhfin := Lib.hid hfin; clear hfin
    clear h h1 h2 hsame t3
    have t4 : ¬ (b < 0) := by omega
    go_enter Try.func66, Try.ntmps66
    go_wp2_with fail
    go_ret
    exact Hhfin.out
  · have hcm := h.rk.mm.cell q hq
    have hcs := h.rk.sc.cell q hq
    have t4 : ¬ ((q : Int) < 0) := by omega
    have t5 : ¬ (x.n ≤ q) := by omega
    have t6 : (q : Int) < x.n := by omega
    cases hm : x.m q
    · rw [hm] at hcm t3
      have hs : x.black (q : Int) = { x with m := setF x.m (q : Int) true, s := setF x.s (q : Int) true } := by
        unfold Mk.black
        rw [t3]
        rfl
      rw [hs, t3]
      have hfr := World.ownsRow.frozenAt h.rk.mm q
      have hfs := World.ownsRow.frozenAt h.rk.sc q
      have hfin : ∀ w', (w' = (w.setCell ⟨gm, q, none⟩ (.bool true)).setCell ⟨gs, q, none⟩ (.bool true) ∨ w' = (w.setCell ⟨gs, q, none⟩ (.bool true)).setCell ⟨gm, q, none⟩ (.bool true)) → IsRq w' T base rb gm gs { x with m := setF x.m (q : Int) true, s := setF x.s (q : Int) true } ∧ Upd T w w' := fun w' hw => by
        rcases hw with rfl | rfl
        · exact ⟨(rq_black h q).1, (rq_up q (.bool true) h.tk.tgm rfl).trans (rq_up q (.bool true) h.tk.tgs rfl)⟩
        · exact ⟨(rq_black h q).2, (rq_up q (.bool true) h.tk.tgs rfl).trans (rq_up q (.bool true) h.tk.tgm rfl)⟩
      have hne := h.rk.ne.2.2
      have n1 : gm ≠ rb := by have := h.rk.ne.1; omega
      have n2 : gs ≠ rb := by have := h.rk.ne.2.1; omega
      have Hhfin := Lib.hid hfin; clear hfin
      have Hh := Lib.hid h; clear h
      have Hh1 := Lib.hid h1; clear h1
      have Hh2 := Lib.hid h2; clear h2
      clear hs t3 hsame
      go_enter Try.func66, Try.ntmps66
      go_wp2_with fail
      go_region
      go_wp2_with fail
      go_ret
      obtain ⟨f1, f2⟩ := Hhfin.out _ (Or.inl rfl)
      exact ⟨rfl, f1.still ((Upd.refl _ _).drew), f2.drew⟩
    · rw [hm] at t3 hcm
      have hfin := hsame t3
      have Hhfin := Lib.hid hfin; clear hfin
      clear h h1 h2 hsame t3
      go_enter Try.func66, Try.ntmps66
      go_wp2_with fail
      go_ret
      exact Hhfin.out


theorem IsRk.rq {w : World} {T : Nat → Prop} {base rb gm gs : Nat} {x : Mk} (h : IsRk w base rb gm gs x) (hT : ∀ j, base ≤ j → T j) : IsRq w T base rb gm gs x := by
  obtain ⟨a, c, h1, h2⟩ := h.st
  obtain ⟨g1, g2, g3⟩ := h.ge
  refine ⟨h, ⟨hT _ g3, hT _ g1, hT _ g2, fun v hv j hj => ?_, fun j hj => hT j (by have := h.lt.1; omega)⟩⟩
  rw [h1.cell 2 rfl] at hv
  cases hv
  exact hT j (by have := (h2.lt j hj).1; omega)
end Go.Proofs.Ythaicpjgmplgcaa

/- The document's marker, told finer: its step. -/



namespace Go.Proofs.Ythaicpjgmplgcaa
open Go.RowKit Go.ChangeShapes Go.WideShapes
set_option linter.unusedVariables false

theorem own_below {W w w' : World} {T : Nat → Prop} (hb : Below W.heap.size W w) (h : ∀ j, T j → W.heap.size ≤ j) (hz : W.heap.size ≤ w.heap.size) (u : Upd T w w') : Below W.heap.size W w' :=
  ⟨u.os.trans hb.os, u.tape.trans hb.tape, u.output.trans hb.output, Nat.le_trans hz u.size, fun k hk => (u.block k (by omega) (fun e => by have := h k e; omega)).trans (hb.block k hk)⟩

set_option maxRecDepth 100000 in
set_option maxHeartbeats 2000000 in
theorem rq_took {W w : World} {T : Nat → Prop} {base rb gm gs : Nat} {x : Mk} {v : Value} {tt : List (List Int)} (h : IsRq w T base rb gm gs x) (hx : Ok x) (hl : x.l ≠ []) (hM : MatIn W v tt) (hW : Below W.heap.size W w) (hB : ∀ j, T j → W.heap.size ≤ j) (hlb : tt.length ≤ 1000 ∧ ∀ l ∈ tt, l.length ≤ 1000) :
    Calls Try.prog 68 #[.pointer (some ⟨rb, 0, none⟩), v] w (RqPost w T base rb gm gs (x.step (refsOf tt)) (.bool true)) := by
  rw [step_took hx hl]
  obtain ⟨a, c, h1, h2⟩ := h.rk.st
  obtain ⟨r1, r2, r3, r4⟩ := hx.rng _ (List.getLast_mem hl)
  rw [← getLastD_eq hl] at r1 r2 r3 r4
  obtain ⟨q, hq⟩ : ∃ q : Nat, x.l.getLastD 0 = q := ⟨(x.l.getLastD 0).toNat, by omega⟩
  obtain ⟨m, hm⟩ : ∃ m, x.l.length = m + 1 := ⟨x.l.length - 1, by have := List.length_pos_iff.2 hl; omega⟩
  have htook : x.took = { x with l := x.l.dropLast, s := setF x.s q true } := by unfold Mk.took; rw [hq]
  rw [hq] at r1 r2 r3 r4 ⊢
  rw [Int.toNat_natCast] at r3 r4
  have hqn : q < x.n := by omega
  obtain ⟨g, hix, hg, -, hcell0, -, hgb⟩ := ownsRow_index h2 (P := Try.prog) Try.underlying37 (by kernel_rfl) (by kernel_rfl) (show m < x.l.length by omega)
  have hcell : w.cell? ⟨g, m, none⟩ = some (.int .i64 q) := by
    have hll : x.l.getD m 0 = x.l.getLastD 0 := by
      rw [List.getD_eq_getElem?_getD, List.getLastD_eq_getLast?, List.getLast?_eq_getElem?, hm]
      rfl
    rw [hcell0, ← hq, ← hll]
    simp [ints, List.getD, show m < x.l.length by omega]
  have hpop := rq_popped h h1 h2 hm
  have k1 := rq_scan hpop q
  rw [show ({ ({ x with l := x.l.dropLast } : Mk) with s := setF ({ x with l := x.l.dropLast } : Mk).s q true } : Mk) = x.took from htook.symm] at k1
  obtain ⟨c0, c1, c2, c3, c4⟩ := rk_cells h1
  rw [hm] at c2
  have f2 := h1.free 2
  have hms : 2 ≤ 4 := by decide
  have u1 : Upd T w (w.setCell ⟨rb, 2, none⟩ (.slice a m c)) := rq_up 2 _ h.tk.trb rfl
  have cs0 := h.rk.sc.cell q hqn
  rw [r4] at cs0
  have fs0 := World.ownsRow.frozenAt h.rk.sc q
  have n2 : gs ≠ rb := by have := h.rk.ne.2.1; omega
  have hu2 := u1.trans (rq_up q (.bool true) h.tk.tgs rfl)
  have hcap : m ≤ c := by
    rcases h2.2 with ⟨h0, -⟩ | ⟨g, cap, cur, hv, -, -, hc, -⟩
    · have h3 := (Value.slice.inj h0).2.1
      omega
    · have h3 := (Value.slice.inj hv).2.2
      omega
  have hm3 : (m : Int) ≤ 2048 := by have := h.rk.len; have := h.rk.room; omega
  have hm0 : (0 : Int) < (m : Int) + 1 := by omega
  have hqn2 : (q : Int) < x.n := by omega
  have hn2 := h.rk.n
  rw [hm] at hix
  generalize x.took = y at *
  have Hh := Lib.hid h; clear h
  have Hh1 := Lib.hid h1; clear h1
  have Hh2 := Lib.hid h2; clear h2
  have Hhx := Lib.hid hx; clear hx
  have HhM := Lib.hid hM; clear hM
  have HhW := Lib.hid hW; clear hW
  have HhB := Lib.hid hB; clear hB
  have Hhlb := Lib.hid hlb; clear hlb
  have Hhpop := Lib.hid hpop; clear hpop
  have Hk1 := Lib.hid k1; clear k1
  have Hu1 := Lib.hid u1; clear u1
  have Hhu2 := Lib.hid hu2; clear hu2
  have Hhtook := Lib.hid htook; clear htook
  clear hl r1 r2 r3 r4 hq hcell0 hg hgb
  go_enter Try.func68, Try.ntmps68
  by_cases hqt : q < tt.length
  · have hr0 : refsOf tt (q : Int) = tt.getD q [] := by
      unfold refsOf
      rw [if_pos (by omega), Int.toNat_natCast]
    rw [hr0]
    obtain ⟨b0, off, ra, rc, hix2, hrow, hIn⟩ := mat_row HhM.out hqt
    have hlen : (tt.getD q []).length ≤ 1000 := Hhlb.out.2 _ (by simp [List.getD, hqt])
    have hcrow := hrow _ (own_below HhW.out HhB.out HhW.out.size Hhu2.out)
    obtain ⟨ta, tc, htv⟩ := mat_shape HhM.out
    subst htv
    have hqt2 : (q : Int) < tt.length := by omega
    generalize tt.getD q [] = rs at *
    have hlI : (rs.length : Int) ≤ 1000 := by omega
    have HhIn := Lib.hid hIn; clear hIn
    clear hr0 hqt hrow
    go_upto_block 0 with fail
    generalize (w.setCell ⟨rb, 2, none⟩ (.slice a m c)).setCell ⟨gs, q, none⟩ (.bool true) = w2 at *
    clear c0 c1 c2 c3 c4 f2 cs0 fs0 hcrow hcell hix hix2
    go_wp2_with fail
    go_loopw [58] (fun i wr => ∃ z : Nat, i = .int .i64 z ∧ z ≤ rs.length ∧ IsRq wr T base rb gm gs ((rs.take z).foldl Mk.shade y) ∧ Upd T w wr) (fun i _ => (rs.length - intOf i).toNat)
    case atStart => exact ⟨0, rfl, Nat.zero_le _, Hk1.out, Hhu2.out⟩
    case round =>
      obtain ⟨z, rfl, hz, hI, hu⟩ := hrel
      by_cases hzl : z = rs.length
      · have e1 : ¬ ((z : Int) < rs.length) := by omega
        rw [hzl, List.take_length] at hI
        have HhI := Lib.hid hI; clear hI
        have Hhu := Lib.hid hu; clear hu
        clear hzl
        go_wp2_with fail
        go_ret
        exact ⟨rfl, HhI.out, Hhu.out⟩
      · have e1 : (z : Int) < rs.length := by omega
        have hz3 : z < rs.length := by omega
        obtain ⟨b3, off3, hix3, hcc⟩ := int_atR HhIn.out hz3
        have hcell := hcc wr (own_below HhW.out HhB.out HhW.out.size hu)
        have hst : (rs.take (z + 1)).foldl Mk.shade y = ((rs.take z).foldl Mk.shade y).shade (rs.getD z 0) := by
          rw [List.take_succ_eq_append_getElem hz3, List.foldl_append]
          simp [List.getD, hz3]
        have hSh := rq_Shade hI (rs.getD z 0)
        unfold RqPost at hSh
        rw [← hst] at hSh
        generalize rs.getD z 0 = r at *
        generalize offB ((rs.take z).foldl Mk.shade y).n ((rs.take z).foldl Mk.shade y).m r = bb at *
        have HhSh := Lib.hid hSh; clear hSh
        have Hhu := Lib.hid hu; clear hu
        clear hst hI hcc hzl
        go_wp2_with (go_at_call 67; (with_reducible refine HhSh.out.mono ?_); rintro e w4 ⟨rfl, hI4, hu4⟩; have HI4 := Lib.hid hI4; have Hu4 := Lib.hid (Hhu.out.trans hu4); clear hI4 hu4)
        go_roundw
        case rel => exact ⟨z + 1, by go_num, by omega, HI4.out, Hu4.out⟩
        case measure => simp [intOf]; omega
  · have hr0 : refsOf tt (q : Int) = [] := by
      unfold refsOf
      rw [if_pos (by omega)]
      simp [List.getD, Nat.le_of_not_lt hqt]
    rw [hr0]
    obtain ⟨ta, tc, htv⟩ := mat_shape HhM.out
    subst htv
    have hqt2 : ¬ ((q : Int) < tt.length) := by omega
    clear hr0 hqt
    go_wp2_with fail
    go_ret
    exact ⟨rfl, Hk1.out, Hhu2.out⟩


set_option maxRecDepth 100000 in
set_option maxHeartbeats 2000000 in
theorem rq_rest {w : World} {T : Nat → Prop} {base rb gm gs : Nat} {x : Mk} {v : Value} (h : IsRq w T base rb gm gs x) (hl : x.l = []) (refs : Int → List Int) :
    Calls Try.prog 68 #[.pointer (some ⟨rb, 0, none⟩), v] w (RqPost w T base rb gm gs (x.step refs) (.bool (!x.done))) := by
  obtain ⟨a, c, h1, h2⟩ := h.rk.st
  obtain ⟨c0, c1, c2, c3, c4⟩ := rk_cells h1
  rw [show x.l.length = 0 from by rw [hl]; rfl] at c2
  cases ho : x.over
  · have hd : x.done = true := (done_iff x).2 ⟨hl, ho⟩
    rw [step_done hd, hd]
    rw [ho] at c4
    have Hh := Lib.hid h; clear h
    clear h1 h2 hl ho hd
    go_enter Try.func68, Try.ntmps68
    go_wp2_with fail
    go_ret
    exact ⟨rfl, Hh.out, Upd.refl _ _⟩
  · have hd : x.done = false := by
      cases hd : x.done
      · rfl
      · have := ((done_iff x).1 hd).2
        rw [ho] at this
        cases this
    rw [step_again hl ho, hd]
    rw [ho] at c4
    have k0 := rq_over h false
    have f4 := h1.free 4
    have hu0 := rq_up (w := w) 4 (.bool false) h.tk.trb rfl
    have hn2 := h.rk.n
    have hn3 : (x.n : Int) ≤ 1048576 := by omega
    have hag : x.again = ({ x with over := false } : Mk).againTo 0 (x.n - 0) := rfl
    have Hk0 := Lib.hid k0; clear k0
    have Hhu0 := Lib.hid hu0; clear hu0
    have Hhag := Lib.hid hag; clear hag
    clear h h1 h2 hl ho hd
    go_enter Try.func68, Try.ntmps68
    go_upto_block 2 with fail
    generalize w.setCell ⟨rb, 4, none⟩ (.bool false) = w1 at *
    clear c0 c1 c2 c3 c4 f4
    go_cut [79] (fun i wx => IsRq wx T base rb gm gs x.again ∧ Upd T w wx)
    case first =>
      go_wp2_with fail
      go_loopw [79] (fun i wr => ∃ (b : Nat) (y : Mk), i = .int .i64 b ∧ b ≤ x.n ∧ y.n = x.n ∧ x.again = y.againTo b (x.n - b) ∧ IsRq wr T base rb gm gs y ∧ Upd T w wr) (fun i _ => (x.n - intOf i).toNat)
      case atStart => exact ⟨0, { x with over := false }, rfl, Nat.zero_le _, rfl, Hhag.out, Hk0.out, Hhu0.out⟩
      case round =>
        obtain ⟨b, y, rfl, hb, hyn, ha, hI, hu⟩ := hrel
        by_cases hbn : b = x.n
        · have e1 : ¬ ((b : Int) < x.n) := by omega
          have ha2 : x.again = y := by rw [ha, hbn, show x.n - x.n = 0 from by omega]; rfl
          rw [← ha2] at hI
          have HhI := Lib.hid hI; clear hI
          have Hhu := Lib.hid hu; clear hu
          clear hbn ha ha2 Hhag hyn
          go_wp2_with fail
          go_meet
          exact ⟨HhI.out, Hhu.out⟩
        · have e1 : (b : Int) < x.n := by omega
          obtain ⟨d, hd⟩ : ∃ d, x.n - b = d + 1 := ⟨x.n - b - 1, by omega⟩
          have hd2 : d = x.n - (b + 1) := by omega
          rw [hd] at ha
          have hby : b < y.n := by omega
          have hbI : (b : Int) < y.n := by omega
          obtain ⟨a2, c2', k1, k2⟩ := hI.rk.st
          obtain ⟨g0, g1, -, -, -⟩ := rk_cells k1
          have cm := hI.rk.mm.cell b hby
          have cs := hI.rk.sc.cell b hby
          cases hm : y.m b
          · rw [againTo_pass y b d (by rw [hm]; rfl), hd2] at ha
            rw [hm] at cm
            have HhI := Lib.hid hI; clear hI
            have Hhu := Lib.hid hu; clear hu
            have Hha := Lib.hid ha; clear ha
            have Hhyn := Lib.hid hyn; clear hyn
            clear k1 k2 hbn Hhag hd hd2 hm
            go_wp2_with fail
            go_roundw
            case rel => exact ⟨b + 1, y, by go_num, by omega, Hhyn.out, Hha.out, HhI.out, Hhu.out⟩
            case measure => simp [intOf]; omega
          · cases hs : y.s b
            · rw [hm] at cm
              rw [hs] at cs
              have hp := rq_push hI (b : Int)
              unfold RqPost at hp
              by_cases hr : y.l.length < y.room
              · rw [decide_eq_true hr] at hp
                rw [againTo_go y b d (by rw [hm, hs]; rfl) hr, hd2] at ha
                have hyn2 : (y.push (b : Int)).n = x.n := hyn
                have HhI := Lib.hid hI; clear hI
                have Hhu := Lib.hid hu; clear hu
                have Hha := Lib.hid ha; clear ha
                have Hhyn2 := Lib.hid hyn2; clear hyn2
                have Hhp := Lib.hid hp; clear hp
                clear k1 k2 hbn Hhag hd hd2 hm hs hr hyn
                go_wp2_with (go_at_call 88; (with_reducible refine Hhp.out.mono ?_); rintro e w4 ⟨rfl, hI4, hu4⟩; have HI4 := Lib.hid hI4; have Hu4 := Lib.hid (Hhu.out.trans hu4); clear hI4 hu4)
                go_roundw
                case rel => exact ⟨b + 1, y.push (b : Int), by go_num, by omega, Hhyn2.out, Hha.out, HI4.out, Hu4.out⟩
                case measure => simp [intOf]; omega
              · rw [decide_eq_false hr] at hp
                rw [againTo_full y b d (by rw [hm, hs]; rfl) hr] at ha
                rw [← ha] at hp
                have HhI := Lib.hid hI; clear hI
                have Hhu := Lib.hid hu; clear hu
                have Hhp := Lib.hid hp; clear hp
                clear k1 k2 hbn Hhag hd hd2 hm hs hr hyn ha
                go_wp2_with (go_at_call 88; (with_reducible refine Hhp.out.mono ?_); rintro e w4 ⟨rfl, hI4, hu4⟩; have HI4 := Lib.hid hI4; have Hu4 := Lib.hid (Hhu.out.trans hu4); clear hI4 hu4)
                go_meet
                exact ⟨HI4.out, Hu4.out⟩
            · rw [againTo_pass y b d (by rw [hm, hs]; rfl), hd2] at ha
              rw [hm] at cm
              rw [hs] at cs
              have HhI := Lib.hid hI; clear hI
              have Hhu := Lib.hid hu; clear hu
              have Hha := Lib.hid ha; clear ha
              have Hhyn := Lib.hid hyn; clear hyn
              clear k1 k2 hbn Hhag hd hd2 hm hs
              go_wp2_with fail
              go_roundw
              case rel => exact ⟨b + 1, y, by go_num, by omega, Hhyn.out, Hha.out, HhI.out, Hhu.out⟩
              case measure => simp [intOf]; omega
    case rest =>
      obtain ⟨hI, hu⟩ := hcut
      have HhI := Lib.hid hI; clear hI
      have Hhu := Lib.hid hu; clear hu
      go_wp2_with fail
      go_ret
      exact ⟨rfl, HhI.out, Hhu.out⟩


theorem rq_Step {W w : World} {T : Nat → Prop} {base rb gm gs : Nat} {x : Mk} {v : Value} {tt : List (List Int)} (h : IsRq w T base rb gm gs x) (hx : Ok x) (hM : MatIn W v tt) (hW : Below W.heap.size W w) (hB : ∀ j, T j → W.heap.size ≤ j) (hlb : tt.length ≤ 1000 ∧ ∀ l ∈ tt, l.length ≤ 1000) :
    Calls Try.prog 68 #[.pointer (some ⟨rb, 0, none⟩), v] w (RqPost w T base rb gm gs (x.step (refsOf tt)) (.bool (!x.done))) := by
  by_cases hl : x.l = []
  · exact rq_rest h hl _
  · have hd : x.done = false := by
      cases hd : x.done
      · rfl
      · exact absurd ((done_iff x).1 hd).1 hl
    rw [hd]
    exact rq_took h hx hl hM hW hB hlb
end Go.Proofs.Ythaicpjgmplgcaa

