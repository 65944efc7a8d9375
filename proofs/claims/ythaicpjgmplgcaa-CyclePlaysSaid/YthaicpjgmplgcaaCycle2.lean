/- Package cycle: Begin, and the sweep of a page. -/
import Derived.Test.YthaicpjgmplgcaaCycle
import Derived.Test.YthaicpjgmplgcaaRefStep
namespace Go.Proofs.Ythaicpjgmplgcaa
open Go.RowKit Go.ChangeShapes Go.WideShapes
set_option linter.unusedVariables false

/-- A collection that is being begun. -/
structure Bg (w : World) (C L B : Nat) (N : Nat) (room ep : Int) (pg : Nat) (x : Mk) (wr : World) : Prop where
  hd : Blk wr C [.pointer (some ⟨L, 0, none⟩), .int .i64 room, .int .i64 0, .int .i64 ep, .pointer (some ⟨B + 5, 0, none⟩), .int .i64 (pg : Int)] 98
  im : IsMk wr B x
  ok : Ok x
  n : x.n = N
  up : Upd (fun j => j = C) w wr
  ge : w.heap.size ≤ B
  lt : C < w.heap.size
theorem Bg.next {w wr w2 : World} {C L B : Nat} {N : Nat} {room ep : Int} {pg : Nat} {x y : Mk} (h : Bg w C L B N room ep pg x wr) (hI : IsMk w2 B y) (hO : Ok y) (hn : y.n = x.n) (u : Upd (InMk B) wr w2) : Bg w C L B N room ep pg y w2 :=
  ⟨h.hd.upd u (fun e => by have := e.1; have := h.ge; have := h.lt; omega), hI, hO, hn.trans h.n, h.up.own u (fun i e => by have := e.1; have := h.ge; omega), h.ge, h.lt⟩

def BeginPost (w : World) (C L n0 n1 n2 n3 : Nat) (d : Cy) (e : Ending) (w' : World) : Prop :=
  e = .returned (.bool true) ∧ ∃ B, IsCy w' C L n0 n1 n2 n3 B d ∧ w.heap.size ≤ B ∧ Upd (fun j => j = C) w w'

theorem cell_set_other {w : World} {b i j : Nat} {v x : Value} (h : w.cell? ⟨b, j, none⟩ = some x) (hne : i ≠ j) : (w.setCell ⟨b, i, none⟩ v).cell? ⟨b, j, none⟩ = some x := by
  unfold World.setCell World.cell? at *
  simp only [Array.getElem?_modify] at *
  cases hb : w.heap[b]? with
  | none => simp_all
  | some o => cases o <;> simp_all

def CB (w w' : World) (C L : Nat) (room : Int) : Prop := Upd (fun _ => False) w w' ∧ w'.cell? ⟨C, 0, none⟩ = some (.pointer (some ⟨L, 0, none⟩)) ∧ w'.cell? ⟨C, 1, none⟩ = some (.int .i64 room)
theorem cb_later {w w' w2 : World} {C L : Nat} {room : Int} (h : CB w w' C L room) (u : Upd (fun _ => False) w' w2) : CB w w2 C L room :=
  ⟨h.1.trans u, (u.none.cell (World.block_lt_of_cell? w' _ h.2.1)).trans h.2.1, (u.none.cell (World.block_lt_of_cell? w' _ h.2.2)).trans h.2.2⟩

set_option maxRecDepth 100000 in
set_option maxHeartbeats 1000000 in
theorem cyc_Begin_no {w : World} {C L n0 n1 n2 n3 B : Nat} {c : Cy} (h : IsCy w C L n0 n1 n2 n3 B c) (hp : c.ph ≠ 0) (v1 v2 : Value) : Calls Try.prog 33 #[.pointer (some ⟨C, 0, none⟩), v1, v2] w (Same w (.bool false)) := by
  obtain ⟨mp, k1, -⟩ := h.hd
  have c2 := k1.cell 2 rfl
  have e1 : ((c.ph : Int) == 0) = false := by simp; omega
  generalize (c.ph : Int) = p at *
  have Hh := Lib.hid h; clear h
  have Hk1 := Lib.hid k1; clear k1
  clear hp
  go_enter Try.func33, Try.ntmps33
  go_wp2
  go_ret
  exact ⟨rfl, rfl⟩

set_option maxRecDepth 100000 in
set_option maxHeartbeats 2000000 in
theorem cyc_Begin {w : World} {C L n0 n1 n2 n3 B : Nat} {c : Cy} (h : IsCy w C L n0 n1 n2 n3 B c) (hp : c.ph = 0) (he : 0 ≤ c.ep ∧ c.ep ≤ 1000000) (v1 v2 : Value) (roots black : List Int) (h1 : IntsR w v1 .i64 roots) (h2 : IntsR w v2 .i64 black) (hC : ∀ w', Upd (fun j => j = C) w w' → IntsR w' v1 .i64 roots ∧ IntsR w' v2 .i64 black) (l1 : roots.length ≤ 100000) (l2 : black.length ≤ 100000) :
    Calls Try.prog 33 #[.pointer (some ⟨C, 0, none⟩), v1, v2] w (BeginPost w C L n0 n1 n2 n3 (c.begin_ roots black)) := by
  obtain ⟨N, room, ph, ep, mk, pg⟩ := c
  simp only at hp he
  subst hp
  obtain ⟨⟨mp, k1, -⟩, hL, hN, hb, -, hne, hok⟩ := h
  simp only at k1 hN
  obtain ⟨b0, b1, b2, b3⟩ := hb
  have hbl := fun w' (u : Upd (fun _ => False) w w') => lay_Blocks L n0 n1 n2 n3 b0 b1 b2 b3 w' (hL.upd u (fun x => x))
  have hLlt : L < w.heap.size := by obtain ⟨v, r, bi, lo, bl, wo, hB, -, -⟩ := hL; exact hB.lt
  have hN2 : N ≤ 160 := hok.N
  rw [hN] at hbl
  unfold RetK at hbl
  have hbc := fun w' (h : Upd (fun _ => False) w w') (ca : w'.cell? ⟨C, 0, none⟩ = some (.pointer (some ⟨L, 0, none⟩))) (cb : w'.cell? ⟨C, 1, none⟩ = some (.int .i64 room)) => (hbl w' h).mono (R' := fun e w2 => e = .returned (.int .i64 (N : Int)) ∧ CB w w2 C L room) fun e w2 ⟨q1, q2⟩ => ⟨q1, cb_later ⟨h, ca, cb⟩ q2⟩
  have hnc := fun w' (h : Upd (fun _ => False) w w') (ca : w'.cell? ⟨C, 0, none⟩ = some (.pointer (some ⟨L, 0, none⟩))) (cb : w'.cell? ⟨C, 1, none⟩ = some (.int .i64 room)) => (mark_New (N : Int) room w').mono (R' := fun e w2 => e = .returned (.pointer (some ⟨w'.heap.size + 5, 0, none⟩)) ∧ (IsMk w2 w'.heap.size (mkNew N room) ∧ w.heap.size ≤ w'.heap.size ∧ w2.cell? ⟨C, 4, none⟩ = some (.pointer mp) ∧ w2.frozen? ⟨C, 4, none⟩ = false) ∧ CB w w2 C L room) fun e w2 ⟨q1, q2, q3, q4⟩ => ⟨q1, ⟨(by rw [show (max 0 (min (N : Int) 1048576)).toNat = N from by omega] at q2; exact q2), h.size, (k1.upd (h.trans q3) (fun x => x)).cell 4 rfl, (k1.upd (h.trans q3) (fun x => x)).free 4⟩, cb_later ⟨h, ca, cb⟩ q3⟩
  unfold CB at hbc hnc
  have d0 := k1.cell 0 rfl
  have d1 := k1.cell 1 rfl
  have d2 := k1.cell 2 rfl
  have dd0 : w.drew.cell? ⟨C, 0, none⟩ = some (.pointer (some ⟨L, 0, none⟩)) := d0
  have dd1 : w.drew.cell? ⟨C, 1, none⟩ = some (.int .i64 room) := d1
  have hu0 := (Upd.refl (fun _ => False) w).drew
  obtain ⟨va1, vc1, hv1, -⟩ := (show RowsIn w v1 1 roots.length _ from h1)
  obtain ⟨va2, vc2, hv2, -⟩ := (show RowsIn w v2 1 black.length _ from h2)
  subst hv1 hv2
  have l1I : (roots.length : Int) ≤ 100000 := by omega
  have l2I : (black.length : Int) ≤ 100000 := by omega
  have hlt := k1.lt
  have heI : ep ≤ 1000000 := he.2
  have heI0 : 0 ≤ ep := he.1
  have Hk1 := Lib.hid k1; clear k1
  have HhL := Lib.hid hL; clear hL
  have HhN := Lib.hid hN; clear hN
  have Hhne := Lib.hid hne; clear hne
  have Hhok := Lib.hid hok; clear hok
  have Hhbc := Lib.hid hbc; clear hbc
  have Hhnc := Lib.hid hnc; clear hnc
  have Hh1 := Lib.hid h1; clear h1
  have Hh2 := Lib.hid h2; clear h2
  have HhC := Lib.hid hC; clear hC
  have Hhlt := Lib.hid hlt; clear hlt
  have HhLlt := Lib.hid hLlt; clear hLlt
  clear hbl
  go_enter Try.func33, Try.ntmps33
  go_wp2_with fail
  refine wp_hide (fun Q2 hQ2 => ?_)
  go_region_held3 (fun w' => w'.cell? ⟨C, 0, none⟩ = some (.pointer (some ⟨L, 0, none⟩)) ∧ w'.cell? ⟨C, 1, none⟩ = some (.int .i64 room))
    (((try go_split_ands); first | exact ⟨by assumption, by assumption⟩ | exact ⟨cell_set_other hca3 (by decide), cell_set_other hcb3 (by decide)⟩))
    (((try go_split_ands); first
      | (go_at_call 22; (with_reducible refine (Hhbc.out _ (by assumption) (by assumption) (by assumption)).mono ?_); rintro e w2 ⟨rfl, hu2, hca2, hcb2⟩)
      | (go_at_call 58; (with_reducible refine (Hhnc.out _ (by assumption) (by assumption) (by assumption)).mono ?_); rintro e w3 ⟨rfl, ⟨hI3, hz3, hcm3, hfm3⟩, hu3, hca3, hcb3⟩)))
  rw [hQ2.out]
  obtain ⟨B', hB'⟩ : ∃ B', B' = w2.heap.size := ⟨_, rfl⟩
  rw [← hB'] at hI3 hz3 ⊢
  have u3 : Upd (fun i => i = C) w3 (w3.setCell ⟨C, 4, none⟩ (.pointer (some ⟨B' + 5, 0, none⟩))) := (Upd.refl _ _).at _ _
  have hCB : ¬ InMk B' C := fun e => by have := e.1; have := Hhlt.out; omega
  have hbg : Bg w C L B' N room ep pg (mkNew N room) (w3.setCell ⟨C, 4, none⟩ (.pointer (some ⟨B' + 5, 0, none⟩))) :=
    ⟨(Hk1.out.upd hu3 (fun x => x)).set 4 _, hI3.upd u3 (fun k hk e => hCB (e ▸ hk)), mkNew_ok N room, rfl, (hu3.mono (fun _ _ h => h.elim)).trans u3, hz3, Hhlt.out⟩
  generalize w3.setCell ⟨C, 4, none⟩ (.pointer (some ⟨B' + 5, 0, none⟩)) = W1 at *
  clear hQ2 dd0 dd1 hu0 hu2 hca2 hcb2 hI3 hz3 hcm3 hfm3 hu3 hca3 hcb3 u3 d0 d1 d2 Hhbc Hhnc Hk1 hB'
  have Hhbg := Lib.hid hbg; clear hbg
  have HhCB := Lib.hid hCB; clear hCB
  go_upto_block 0 with fail
  go_cut [35] (fun i wx => Bg w C L B' N room ep pg (black.foldl Mk.black (mkNew N room)) wx)
  case first =>
    go_wp2_with fail
    go_loopw [35] (fun i wr => ∃ j : Nat, i = .int .i64 j ∧ j ≤ black.length ∧ Bg w C L B' N room ep pg ((black.take j).foldl Mk.black (mkNew N room)) wr) (fun i _ => (black.length - intOf i).toNat)
    case atStart => exact ⟨0, rfl, Nat.zero_le _, Hhbg.out⟩
    case round =>
      obtain ⟨j, rfl, hj, hg⟩ := hrel
      clear Hhbg
      by_cases hjl : j = black.length
      · have e1 : ¬ ((j : Int) < black.length) := by omega
        rw [hjl, List.take_length] at hg
        have Hhg := Lib.hid hg; clear hg
        clear hjl
        go_wp2_with fail
        go_meet
        exact Hhg.out
      · have e1 : (j : Int) < black.length := by omega
        have hj3 : j < black.length := by omega
        obtain ⟨q0, off, hix, hcc⟩ := int_atR (HhC.out wr hg.up).2 hj3
        have hcell := hcc wr (Below.refl _ _)
        have hst : (black.take (j + 1)).foldl Mk.black (mkNew N room) = ((black.take j).foldl Mk.black (mkNew N room)).black (black.getD j 0) := by
          rw [List.take_succ_eq_append_getElem hj3, List.foldl_append]
          simp [List.getD, hj3]
        have hop := mark_Black B' (black.getD j 0) _ wr hg.im
        unfold MkPost at hop
        have hO := ok_black hg.ok (black.getD j 0)
        have hn := black_same ((black.take j).foldl Mk.black (mkNew N room)) (black.getD j 0)
        have c4 := hg.hd.cell 4 rfl
        rw [← hst] at hop hO hn
        generalize offB ((black.take j).foldl Mk.black (mkNew N room)).n ((black.take j).foldl Mk.black (mkNew N room)).m (black.getD j 0) = r at *
        generalize black.getD j 0 = b at *
        have Hhop := Lib.hid hop; clear hop
        have Hhg := Lib.hid hg; clear hg
        have Hhst := Lib.hid hst; clear hst
        have HhO := Lib.hid hO; clear hO
        have Hhn := Lib.hid hn; clear hn
        clear hjl hcc
        go_wp2_with (go_at_call 59; (with_reducible refine Hhop.out.mono ?_); rintro e w4 ⟨rfl, hI4, hu4, -⟩; have Hg4 := Lib.hid (Bg.next Hhg.out hI4 HhO.out Hhn.out hu4); clear hI4 hu4)
        go_roundw
        case rel => exact ⟨j + 1, by go_num, by omega, Hg4.out⟩
        case measure => simp [intOf]; omega
  case rest =>
    obtain ⟨hg⟩ : Nonempty (Bg w C L B' N room ep pg (black.foldl Mk.black (mkNew N room)) wc) := ⟨hcut⟩
    clear Hhbg
    have Hhg := Lib.hid hg; clear hg
    go_upto_block 2 with fail
    obtain ⟨x0, hx0⟩ : ∃ x0, black.foldl Mk.black (mkNew N room) = x0 := ⟨_, rfl⟩
    rw [hx0] at Hhg
    have Hhx0 := Lib.hid hx0; clear hx0
    go_cut [48] (fun i wx => Bg w C L B' N room ep pg (roots.foldl Mk.shade x0) wx)
    case first =>
      go_wp2_with fail
      go_loopw [48] (fun i wr => ∃ j : Nat, i = .int .i64 j ∧ j ≤ roots.length ∧ Bg w C L B' N room ep pg ((roots.take j).foldl Mk.shade x0) wr) (fun i _ => (roots.length - intOf i).toNat)
      case atStart => exact ⟨0, rfl, Nat.zero_le _, Hhg.out⟩
      case round =>
        obtain ⟨j, rfl, hj, hg⟩ := hrel
        clear Hhg
        by_cases hjl : j = roots.length
        · have e1 : ¬ ((j : Int) < roots.length) := by omega
          rw [hjl, List.take_length] at hg
          have Hhg := Lib.hid hg; clear hg
          clear hjl
          go_wp2_with fail
          go_meet
          exact Hhg.out
        · have e1 : (j : Int) < roots.length := by omega
          have hj3 : j < roots.length := by omega
          obtain ⟨q0, off, hix, hcc⟩ := int_atR (HhC.out wr hg.up).1 hj3
          have hcell := hcc wr (Below.refl _ _)
          have hst : (roots.take (j + 1)).foldl Mk.shade x0 = ((roots.take j).foldl Mk.shade x0).shade (roots.getD j 0) := by
            rw [List.take_succ_eq_append_getElem hj3, List.foldl_append]
            simp [List.getD, hj3]
          have hop := mark_Shade B' (roots.getD j 0) _ wr hg.im
          unfold MkPost at hop
          have hO := ok_shade hg.ok (roots.getD j 0)
          have hn := (shade_same ((roots.take j).foldl Mk.shade x0) (roots.getD j 0)).1
          have c4 := hg.hd.cell 4 rfl
          rw [← hst] at hop hO hn
          generalize offB ((roots.take j).foldl Mk.shade x0).n ((roots.take j).foldl Mk.shade x0).m (roots.getD j 0) = r at *
          generalize roots.getD j 0 = b at *
          have Hhop := Lib.hid hop; clear hop
          have Hhg := Lib.hid hg; clear hg
          have Hhst := Lib.hid hst; clear hst
          have HhO := Lib.hid hO; clear hO
          have Hhn := Lib.hid hn; clear hn
          clear hjl hcc
          go_wp2_with (go_at_call 60; (with_reducible refine Hhop.out.mono ?_); rintro e w4 ⟨rfl, hI4, hu4, -⟩; have Hg4 := Lib.hid (Bg.next Hhg.out hI4 HhO.out Hhn.out hu4); clear hI4 hu4)
          go_roundw
          case rel => exact ⟨j + 1, by go_num, by omega, Hg4.out⟩
          case measure => simp [intOf]; omega
    case rest =>
      obtain ⟨hg2⟩ : Nonempty (Bg w C L B' N room ep pg (roots.foldl Mk.shade x0) wc) := ⟨hcut⟩
      clear Hhg
      have c2 := hg2.hd.cell 2 rfl
      have f2 := hg2.hd.free 2
      have c3 := hg2.hd.cell 3 rfl
      have f3 := hg2.hd.free 3
      have Hhg2 := Lib.hid hg2; clear hg2
      go_wp2_with fail
      go_ret
      have u2 : Upd (fun i => i = C) wc ((wc.setCell ⟨C, 2, none⟩ (.int .i64 1)).setCell ⟨C, 3, none⟩ (.int .i64 (ep + 1))) := ((Upd.refl _ _).at _ _).at _ _
      have hbe : (⟨N, room, 0, ep, mk, pg⟩ : Cy).begin_ roots black = ⟨N, room, 1, ep + 1, roots.foldl Mk.shade (black.foldl Mk.black (mkNew N room)), pg⟩ := rfl
      rw [hbe, Hhx0.out]
      have hok2 := Hhok.out.begin_ roots black
      rw [hbe, Hhx0.out] at hok2
      have hg := Hhg2.out
      have hg2 := hg.ge
      obtain ⟨p1, p2, p3⟩ := Hhne.out
      refine ⟨rfl, B', ⟨⟨_, (hg.hd.set 2 (.int .i64 1)).set 3 (.int .i64 (ep + 1)), fun _ => rfl⟩, HhL.out.upd (hg.up.trans u2) p1, HhN.out, ⟨b0, b1, b2, b3⟩, fun _ => hg.im.upd u2 (fun k hk e => HhCB.out (e ▸ hk)), ⟨p1, HhCB.out, fun e => ?_⟩, hok2⟩, hg.ge, hg.up.trans u2⟩
      have := e.1
      have := HhLlt.out
      omega

/-- A page is swept. -/
def CySweep (w : World) (C L n0 n1 n2 n3 B : Nat) (xs : List Int) (d : Cy) (e : Ending) (w' : World) : Prop :=
  ∃ a c, e = .returned (.slice a xs.length c) ∧ w'.ownsRow w.heap.size 3 1 (.slice a xs.length c) xs.length (ints xs) ∧ IsCy w' C L n0 n1 n2 n3 B d ∧ Upd (fun j => j = C) w w'

set_option maxRecDepth 100000 in
set_option maxHeartbeats 2000000 in
theorem cyc_sweep {w : World} {C L n0 n1 n2 n3 B : Nat} {c : Cy} (h : IsCy w C L n0 n1 n2 n3 B c) (hp : c.ph = 3) (hpg : c.pg ≤ 50) {pu : Value} {u : Int → Bool} (hu : GetsAs w pu u) :
    Calls Try.prog 64 #[.pointer (some ⟨C, 0, none⟩), pu] w (CySweep w C L n0 n1 n2 n3 B (c.blocks u) (c.step (fun _ => []))) := by
  obtain ⟨N, room, ph, ep, mk, pg⟩ := c
  simp only at hp hpg
  subst hp
  have hbe : (⟨N, room, 3, ep, mk, pg⟩ : Cy).blocks u = pageL N u (bitI mk.n mk.m) pg := rfl
  have hse : (⟨N, room, 3, ep, mk, pg⟩ : Cy).step (fun _ => []) = ⟨N, room, if (N + 7) / 8 ≤ pg + 1 then 0 else 3, ep, mk, pg + 1⟩ := rfl
  obtain ⟨np, hnp⟩ : ∃ np, (if (N + 7) / 8 ≤ pg + 1 then 0 else 3) = np := ⟨_, rfl⟩
  rw [hbe, hse, hnp]
  have hnp3 : np ≤ 3 := by rw [← hnp]; split <;> decide
  obtain ⟨⟨mp, k1, k2⟩, hL, hN, hb, hI, hne, hok⟩ := h
  simp only at k1 hN
  have k2 : mp = some ⟨B + 5, 0, none⟩ := k2 (by simp)
  have hI : IsMk w B mk := hI (by simp)
  subst k2
  obtain ⟨b0, b1, b2, b3⟩ := hb
  have hN2 : N ≤ 160 := hok.N
  have hmk := fun w' (u : Upd (fun _ => False) w w') => mark_Marks B mk w' (hI.still u)
  unfold CopyPost at hmk
  have hpage := fun w' (k : Upd (fun _ => False) w w') b g (hM : MapF w' b g mk.n mk.m) => sweep_Page (hL.upd k (fun x => x)) b0 b1 b2 b3 (hu.later k) (gets_map hM) (pg : Int)
  have hpgs := fun w' (k : Upd (fun j => j = C) w w') => lay_Pages L n0 n1 n2 n3 b0 b1 b2 b3 w' (hL.upd k hne.1)
  rw [hN] at hpage hpgs
  unfold RetInts at hpage
  unfold RetK at hpgs
  have d0 := k1.cell 0 rfl
  have d4 := k1.cell 4 rfl
  have d5 := k1.cell 5 rfl
  have dd0 : w.drew.cell? ⟨C, 0, none⟩ = some (.pointer (some ⟨L, 0, none⟩)) := d0
  have dd4 : w.drew.cell? ⟨C, 4, none⟩ = some (.pointer (some ⟨B + 5, 0, none⟩)) := d4
  have dd5 : w.drew.cell? ⟨C, 5, none⟩ = some (.int .i64 (pg : Int)) := d5
  have hu0 := (Upd.refl (fun _ => False) w).drew
  have hcells := fun w' (k : Upd (fun _ => False) w w') => show w'.cell? ⟨C, 0, none⟩ = some (.pointer (some ⟨L, 0, none⟩)) ∧ w'.cell? ⟨C, 4, none⟩ = some (.pointer (some ⟨B + 5, 0, none⟩)) ∧ w'.cell? ⟨C, 5, none⟩ = some (.int .i64 (pg : Int)) from ⟨(k1.upd k (fun x => x)).cell 0 rfl, (k1.upd k (fun x => x)).cell 4 rfl, (k1.upd k (fun x => x)).cell 5 rfl⟩
  have hpgI : (pg : Int) ≤ 50 := by omega
  have k1lt := k1.lt
  have Hk1 := Lib.hid k1; clear k1
  have HhL := Lib.hid hL; clear hL
  have HhN := Lib.hid hN; clear hN
  have Hhne := Lib.hid hne; clear hne
  have Hhok := Lib.hid hok; clear hok
  have HhI := Lib.hid hI; clear hI
  have Hhmk := Lib.hid hmk; clear hmk
  have Hhpage := Lib.hid hpage; clear hpage
  have Hhpgs := Lib.hid hpgs; clear hpgs
  have Hhcells := Lib.hid hcells; clear hcells
  have Hhu := Lib.hid hu; clear hu
  have Hhnp := Lib.hid hnp; clear hnp
  clear hbe hse
  go_enter Try.func64, Try.ntmps64
  go_wp2_with fail
  refine wp_hide (fun Q2 hQ2 => ?_)
  go_region_held3 (fun w' => w'.cell? ⟨C, 0, none⟩ = some (.pointer (some ⟨L, 0, none⟩)) ∧ w'.cell? ⟨C, 4, none⟩ = some (.pointer (some ⟨B + 5, 0, none⟩)) ∧ w'.cell? ⟨C, 5, none⟩ = some (.int .i64 (pg : Int)))
    (((try go_split_ands); exact ⟨by assumption, by assumption, by assumption⟩))
    (((try go_split_ands); first
      | (go_at_call 63; (with_reducible refine (Hhmk.out _ (by assumption)).mono ?_); rintro e w2 ⟨mb, mg, rfl, hM2, -, -, hu2⟩; have hu2w := hu0.trans hu2; obtain ⟨ha2, hb2, hc2⟩ := Hhcells.out w2 hu2w)
      | (go_at_call 18; (with_reducible refine (Hhpage.out _ hu2w _ _ hM2).mono ?_); rintro e w3 ⟨pa, pc, rfl, hpo, hu3⟩; have hu3w := hu2w.trans hu3; obtain ⟨ha3, hb3, hc3⟩ := Hhcells.out w3 hu3w)))
  rw [hQ2.out]
  have k3 := Hk1.out.upd hu3w (fun x => x)
  have hpo := ownsRow_base' hpo hu2w.size
  have hI3 := HhI.out.still hu3w
  have hL3 := HhL.out.upd hu3w (fun x => x)
  generalize pageL N u (bitI mk.n mk.m) (pg : Int) = xs at *
  have f5 := k3.free 5
  clear hQ2 dd0 dd4 dd5 hu0 d0 d4 d5 hu2 hu2w ha2 hb2 hc2 hM2 hu3 Hhmk Hhpage Hhcells Hhu HhI HhL Hk1
  have hpg1 : ((pg + 1 : Nat) : Int) = (pg : Int) + 1 := by simp
  have k4 := k3.set 5 (.int .i64 ((pg : Int) + 1))
  have u4 : Upd (fun i => i = C) w3 (w3.setCell ⟨C, 5, none⟩ (.int .i64 ((pg : Int) + 1))) := (Upd.refl _ _).at _ _
  have hCB := Hhne.out.2.1
  have hI4 := hI3.upd u4 (fun k hk e => hCB (e ▸ hk))
  have hL4 := hL3.upd u4 Hhne.out.1
  have hpo4 := ownsRow_upd hpo u4 (fun j hj e => by have := k1lt; omega)
  have u04 : Upd (fun j => j = C) w (w3.setCell ⟨C, 5, none⟩ (.int .i64 ((pg : Int) + 1))) := (hu3w.mono (fun _ _ h => h.elim)).trans u4
  have Hk3 := Lib.hid k3; clear k3
  have Hu04 := Lib.hid u04; clear u04
  have HhI4 := Lib.hid hI4; clear hI4
  have HhL4 := Lib.hid hL4; clear hL4
  have Hhpo4 := Lib.hid hpo4; clear hpo4
  have Hk4 := Lib.hid k4; clear k4
  have Hhpg1 := Lib.hid hpg1; clear hpg1
  clear hI3 hL3 hpo hu3w u4 hCB
  go_wp2_with fail
  generalize w3.setCell ⟨C, 5, none⟩ (.int .i64 ((pg : Int) + 1)) = W4 at *
  have hk0 := fun (s : Later W4) => show s.val.cell? ⟨C, 0, none⟩ = _ from (Hk4.out.upd s.up (fun x => x)).cell 0 rfl
  have hk5 := fun (s : Later W4) => show s.val.cell? ⟨C, 5, none⟩ = _ from (Hk4.out.upd s.up (fun x => x)).cell 5 rfl
  have hpc := Lib.hid (fun w' (k : Upd (fun _ => False) W4 w') => (Hhpgs.out w' (Hu04.out.trans (k.mono (fun _ _ h => h.elim)))).mono (R' := fun e w2 => e = .returned (.int .i64 (((N + 7) / 8 : Nat) : Int)) ∧ Upd (fun _ => False) W4 w2) fun e w2 ⟨q1, q2⟩ => ⟨q1, k.trans q2⟩)
  obtain ⟨P, hPe⟩ : ∃ P, (N + 7) / 8 = P := ⟨_, rfl⟩
  rw [hPe] at hpc
  have hnp := Hhnp.out
  rw [hPe] at hnp
  clear Hhpgs hPe Hhnp
  by_cases hP : P ≤ pg + 1
  · have e1 : (P : Int) ≤ (pg : Int) + 1 := by omega
    rw [if_pos hP] at hnp
    subst hnp
    clear hP
    refine wp_region_later (by kernel_rfl) (by kernel_rfl) ?_
    repeat (go_big_quiet_step ((go_at_call 23; exact calls_later (hpc.out _ (Later.up _)))))
    refine wpQuiet_nil ?_
    intro w4 hw4
    have u5 : Upd (fun _ => False) W4 w4 := by
      obtain ⟨s, rfl⟩ := hw4
      exact s.up
    clear hw4
    clear hk0 hk5
    have k5 := Hk4.out.upd u5 (fun x => x)
    have c2 := k5.cell 2 rfl
    have f2 := k5.free 2
    have c4 := k5.cell 4 rfl
    have f4 := k5.free 4
    have u6 : Upd (fun i => i = C) w4 ((w4.setCell ⟨C, 2, none⟩ (.int .i64 0)).setCell ⟨C, 4, none⟩ (.pointer none)) := ((Upd.refl _ _).at _ _).at _ _
    have hok2 : CyOk ⟨N, room, 0, ep, mk, pg + 1⟩ := ⟨by simp, fun h => absurd rfl h, by show pg + 1 ≤ 100; omega, Hhok.out.N⟩
    have hfin : IsCy ((w4.setCell ⟨C, 2, none⟩ (.int .i64 0)).setCell ⟨C, 4, none⟩ (.pointer none)) C L n0 n1 n2 n3 B ⟨N, room, 0, ep, mk, pg + 1⟩ :=
      ⟨⟨none, (by have := (k5.set 2 (.int .i64 0)).set 4 (.pointer none); simpa using this), fun h => absurd rfl h⟩, (HhL4.out.upd u5 (fun x => x)).upd u6 Hhne.out.1, HhN.out, ⟨b0, b1, b2, b3⟩, fun h => absurd rfl h, Hhne.out, hok2⟩
    have hpo6 := ownsRow_upd (ownsRow_upd Hhpo4.out u5 (fun _ _ x => x)) u6 (fun j hj e => by have := k1lt; omega)
    have u06 := (Hu04.out.trans (u5.mono (fun _ _ h => h.elim))).trans u6
    have Hhfin := Lib.hid hfin; clear hfin
    have Hhpo6 := Lib.hid hpo6; clear hpo6
    have Hu06 := Lib.hid u06; clear u06
    have Hk5 := Lib.hid k5; clear k5
    clear u6
    go_wp2_with fail
    go_ret
    exact ⟨pa, pc, rfl, Hhpo6.out, Hhfin.out, Hu06.out⟩
  · have e1 : ¬ ((P : Int) ≤ (pg : Int) + 1) := by omega
    rw [if_neg hP] at hnp
    subst hnp
    have e2 : decide ((P : Int) ≤ (pg : Int) + 1) = false := by simp; omega
    refine wp_region_later (by kernel_rfl) (by kernel_rfl) ?_
    repeat (go_big_quiet_step ((go_at_call 23; exact calls_later (hpc.out _ (Later.up _)))))
    refine wpQuiet_nil ?_
    intro w4 hw4
    have u5 : Upd (fun _ => False) W4 w4 := by
      obtain ⟨s, rfl⟩ := hw4
      exact s.up
    clear hw4
    clear hk0 hk5
    have k5 := Hk4.out.upd u5 (fun x => x)
    have hI5 := HhI4.out.still u5
    have hok2 : CyOk ⟨N, room, 3, ep, mk, pg + 1⟩ := ⟨by simp, fun _ => Hhok.out.ok (by simp), by show pg + 1 ≤ 100; omega, Hhok.out.N⟩
    have hfin : IsCy w4 C L n0 n1 n2 n3 B ⟨N, room, 3, ep, mk, pg + 1⟩ :=
      ⟨⟨_, (by have := k5; simpa using this), fun _ => rfl⟩, HhL4.out.upd u5 (fun x => x), HhN.out, ⟨b0, b1, b2, b3⟩, fun _ => hI5, Hhne.out, hok2⟩
    have hpo6 := ownsRow_upd Hhpo4.out u5 (fun _ _ x => x)
    have u06 := Hu04.out.trans (u5.mono (fun _ _ h => h.elim))
    have Hhfin := Lib.hid hfin; clear hfin
    have Hhpo6 := Lib.hid hpo6; clear hpo6
    have Hu06 := Lib.hid u06; clear u06
    have Hk5 := Lib.hid k5; clear k5
    clear hI5
    go_wp2_with fail
    go_ret
    exact ⟨pa, pc, rfl, Hhpo6.out, Hhfin.out, Hu06.out⟩
end Go.Proofs.Ythaicpjgmplgcaa
