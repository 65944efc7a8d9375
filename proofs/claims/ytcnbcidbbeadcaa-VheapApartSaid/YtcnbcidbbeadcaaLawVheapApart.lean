/- A field that is set is that, and no other field of any object changes. No condition. -/
import Derived.Test.YtcnbcidbbeadcaaVhSd
import Derived.SizedLaws
import Derived.Deep.RegionWith
import Derived.Deep.DeepCutAuto
import Derived.Deep.Cut
import Derived.Deep.CutBlock
namespace Go.Proofs.Ytcnbcidbbeadcaa.vheapApart
open Go.ChangeShapes Go.WideShapes Go.ChangeAt Go.RowKit Go.Deep
set_option linter.unusedVariables false
set_option maxRecDepth 100000 in
set_option maxHeartbeats 4000000 in
theorem walk {W : World} (lv : Value) (l : List Cal) (hl : CalsIn W lv l) (at_ : Int) (wa : (Lit.int .i64 at_).wf = true) (field : Int) (wf : (Lit.int .i64 field).wf = true) (v : Value) (vv : Val) (hv : v = vv.v ∧ vv.ok) :
    Calls Try.prog 8 #[lv, .int .i64 at_, .int .i64 field, v] W (LawPost W) := by
  obtain ⟨rfl, hvo⟩ := hv
  obtain ⟨va0, vn, re, im, r⟩ := vv
  show Calls _ _ #[lv, .int .i64 at_, .int .i64 field, .agg #[.int .i64 va0, .int .i64 vn, .int .u64 (re : Int), .int .u64 (im : Int), .int .i64 r]] _ _
  have k14 := Lib.hid kinds14
  have hB0 := Lib.hid (Blk.new W [.int .i64 va0, .int .i64 vn, .int .u64 (re : Int), .int .u64 (im : Int), .int .i64 r] 26)
  have hNw := Lib.hid (fun w1 v hm (hu : Upd (fun _ => False) (W.alloc (.cells #[.int .i64 va0, .int .i64 vn, .int .u64 (re : Int), .int .u64 (im : Int), .int .i64 r] 26)) w1) => BxSt.new (W := W) (w1 := w1) (v := v) hm (((Upd.refl (fun _ => False) W).alloc _).trans hu) (hB0.out.upd hu (fun x => x)))
  have hAw := Lib.hid awake14
  obtain ⟨la, lc, rfl, l1⟩ := hl.1.shape
  have HhC := Lib.hid hl.1
  have HhOk := Lib.hid hl.okAt
  clear hl wa wf
  go_enter Try.func8, Try.ntmps8
  go_upto_block 0 with (first
    | (go_at_call 24; (with_reducible refine (k14.out _).mono ?_); rintro e w1 ⟨v, rfl, hm1, hu1⟩; obtain ⟨va, vc, rfl⟩ := mat_shape hm1; have hN2b := Lib.hid (hNw.out w1 _ hm1 hu1); clear hm1 hu1)
    | (go_at_call 23; (with_reducible refine hN2b.out.mono ?_); rintro e w2 ⟨b, base, kv, rfl, h2⟩; have H2 := Lib.hid h2; clear h2 hN2b))
  clear k14 hNw
  go_cut [10] (fun i wx => BxSt W b base W.heap.size w2.heap.size kv [.int .i64 va0, .int .i64 vn, .int .u64 (re : Int), .int .u64 (im : Int), .int .i64 r] wx)
  case first =>
    go_wp2_with fail
    go_loopw [10] (fun i wr => ∃ k : Nat, i = .int .i64 k ∧ k ≤ 40 ∧ k ≤ l.length ∧ BxSt W b base W.heap.size w2.heap.size kv [.int .i64 va0, .int .i64 vn, .int .u64 (re : Int), .int .u64 (im : Int), .int .i64 r] wr) (fun i _ => (40 - intOf i).toNat)
    case atStart => exact ⟨0, rfl, Nat.zero_le _, Nat.zero_le _, H2.out⟩
    case round =>
      obtain ⟨k, rfl, hk, hkl, hst⟩ := hrel
      clear H2
      by_cases hk2 : k = l.length ∨ k = 40
      · have key : (¬ ((k : Int) < l.length)) ∨ (((k : Int) < l.length) ∧ ¬ ((k : Int) < 40)) := by omega
        have Hhst := Lib.hid hst; clear hst
        clear hk2
        rcases key with c1 | ⟨c1, c2⟩
        all_goals
          go_wp2_with fail
          go_meet
          exact Hhst.out
      · have c1 : (k : Int) < l.length := by omega
        have c2 : (k : Int) < 40 := by omega
        obtain ⟨b0, off, hix, hc⟩ := HhC.out.at (show k < l.length by omega)
        have hok := HhOk.out k
        obtain ⟨y0, y1, y2, y3, y4, y5, y6, y7⟩ := hc wr hst.st.up
        generalize l.getD k noCal = cc at *
        obtain ⟨cd, co, cf, ⟨xk, xn, xre, xim, xr⟩⟩ := cc
        simp only at y0 y1 y2 y3 y4 y5 y6 y7
        have hmk := Lib.hid (fun w' (u : Upd (fun _ => False) wr w') => (hst.still u).make cf)
        have hse := Lib.hid (fun w' (u : Upd (fun _ => False) wr w') => show Calls Try.prog 32 #[.pointer (some ⟨b, 0, none⟩), .int .i64 co, .int .i64 cf, .agg #[.int .i64 xk, .int .i64 xn, .int .u64 (xre : Int), .int .u64 (xim : Int), .int .i64 xr]] w' (fun e w' => ∃ n : Int, e = .returned (.int .i64 n) ∧ BxSt W b base W.heap.size w2.heap.size kv [.int .i64 va0, .int .i64 vn, .int .u64 (re : Int), .int .u64 (im : Int), .int .i64 r] w') from (hst.still u).set co cf ⟨xk, xn, xre, xim, xr⟩ hok)
        have yb := hst.bx
        have Hhst := Lib.hid hst; clear hst
        clear hc hk2 hok
        by_cases h0 : cd = 0
        · subst h0
          go_wp2_with fail
          go_region_with (go_at_call 25; (with_reducible refine (hmk.out _ ((Upd.refl _ _).drew)).mono ?_); rintro e w3 ⟨r1, r2, rfl, h3⟩; have H3 := Lib.hid h3; clear h3)
          all_goals
            go_wp2_with fail
            go_roundw
            case rel => exact ⟨k + 1, by go_num, by omega, by omega, H3.out⟩
            case measure => simp [intOf]; omega
        · have e0 : (cd == 0) = false := by rw [beq_eq_false_iff_ne]; exact h0
          by_cases h2 : cd = 2
          · subst h2
            go_wp2_with fail
            go_region_with (go_at_call 32; (with_reducible refine (hse.out _ ((Upd.refl _ _).drew)).mono ?_); rintro e w3 ⟨r1, rfl, h3⟩; have H3 := Lib.hid h3; clear h3)
            all_goals
              go_wp2_with fail
              go_roundw
              case rel => exact ⟨k + 1, by go_num, by omega, by omega, H3.out⟩
              case measure => simp [intOf]; omega
          · have e2 : (cd == 2) = false := by rw [beq_eq_false_iff_ne]; exact h2
            clear h0 h2
            go_wp2_with fail
            go_roundw
            case rel => exact ⟨k + 1, by go_num, by omega, by omega, Hhst.out⟩
            case measure => simp [intOf]; omega
  case rest =>
    clear H2 HhC HhOk
    obtain ⟨wq, hwq⟩ : ∃ wq : World, wq = wc := ⟨_, rfl⟩
    subst hwq
    obtain ⟨hbs, hbx, hbb, hne⟩ := hcut
    obtain ⟨o, hst, hko⟩ := hbs.st
    obtain ⟨F, hp⟩ := hst.hp
    have hup := Lib.hid hst.up
    have hlow := hp.low
    have hal64 : (allV o).length ≤ 64 := allTo_len o 64
    have hall := Lib.hid (vh_All hp)
    have hkin3 : ∀ i, i < 64 → (o i).used = true → (o i).f.length ≤ 3 := fun i hi hu => by
      obtain ⟨k1, k2, k3⟩ := hp.kin i hi hu
      rw [k3]
      have k2 : (o i).k < 4 := k2
      have : (o i).k = 0 ∨ (o i).k = 1 ∨ (o i).k = 2 ∨ (o i).k = 3 := by omega
      rcases this with h | h | h | h <;> rw [h] <;> decide
    have hrow := Lib.hid (fun i (hi : i < 64) j (e : (F i).ownBlock = some j) => show base ≤ j ∧ j < wq.heap.size from (hp.row i hi).lt j e)
    have hbxS := Lib.hid (fun w' (u : Upd (fun _ => False) wq w') => (World.cell?_of_block (a := ⟨w2.heap.size, 0, none⟩) (u.block _ (World.block_lt_of_cell? _ _ hbx) (fun x => x))).trans hbx)
    have hbbS := Lib.hid (fun w' (u : Upd (fun _ => False) wq w') => hbb.upd u (fun x => x))
    have hpS := Lib.hid (fun w' (u : Upd (fun _ => False) wq w') => hp.still u)
    clear hbs hst
    by_cases hz : (allV o).length = 0
    · have hnone : findV o (-1) = none := by
        have h1 := findV_place o 0 (by decide)
        have h1 : findV o (-1) = if (o 0).used = true then some 0 else none := h1
        rw [h1]
        by_cases hu : (o 0).used = true
        · have : (-1 : Int) ∈ allTo o 64 := (allTo_mem o 64 _).2 ⟨0, by decide, hu, rfl⟩
          have hz2 : allTo o 64 = [] := List.eq_nil_of_length_eq_zero hz
          rw [hz2] at this
          cases this
        · rw [if_neg hu]
      have hse := fun w' (u : Upd (fun _ => False) wq w') => vh_Set (hpS.out w' u) (-1) field ⟨va0, vn, re, im, r⟩ hvo
      have hsv : setV ks14 o (-1) field ⟨va0, vn, re, im, r⟩ = (o, 2) := by unfold setV; rw [hnone]
      rw [hsv] at hse
      have hse := Lib.hid (show ∀ w', Upd (fun _ => False) wq w' → Calls Try.prog 32 #[.pointer (some ⟨b, 0, none⟩), .int .i64 (-1), .int .i64 field, .agg #[.int .i64 va0, .int .i64 vn, .int .u64 (re : Int), .int .u64 (im : Int), .int .i64 r]] w' (RetSt w' b base ks14 kv F (o, 2)) from hse)
      generalize allV o = al at *
      obtain rfl : al = [] := List.eq_nil_of_length_eq_zero hz
      have hlen0 : ([] : List Int).length = 0 := rfl
      clear hz hnone hsv
      go_wp2_with (first
        | (go_at_call 33; (with_reducible refine hall.out.mono ?_); rintro e w3 ⟨aa, ac, rfl, -, hu3⟩; rw [hlen0]; have c3 := hbxS.out _ (hu3.alloc (.cells #[.slice aa 0 ac] 52)); have B3 := hbbS.out _ (hu3.alloc (.cells #[.slice aa 0 ac] 52)); have q0 := B3.cell 0 rfl; have q1 := B3.cell 1 rfl; have q2 := B3.cell 2 rfl; have q3 := B3.cell 3 rfl; have q4 := B3.cell 4 rfl; have Hu3 := Lib.hid (hu3.alloc (.cells #[.slice aa 0 ac] 52)); clear B3 hu3)
        | (go_at_call 32; (with_reducible refine (hse.out _ Hu3.out).mono ?_); rintro e w4 ⟨rfl, -, hu4⟩; have Hu4 := Lib.hid (show Upd (fun _ => False) W w4 from (hup.out.trans Hu3.out).own hu4 (fun j e => by obtain ⟨i, hi, e⟩ := e; have := (hrow.out i hi j e).1; omega)); clear hu4)
        | (go_at_call 28; (with_reducible refine (hAw.out _).mono ?_); rintro e w5 ⟨rfl, hu5⟩))
      go_ret
      exact ⟨rfl, (Hu4.out.trans hu5).none⟩
    · have hpos : 0 < (allV o).length := by omega
      obtain ⟨A, hA, hA2⟩ := rem_nat at_ ((allV o).length : Int) (by omega) (by omega)
      have hA3 : A < (allV o).length := by omega
      obtain ⟨⟨hE0, hE3⟩, hallE, hmain⟩ := apart_main hko hkin3 A hA3 field ⟨va0, vn, re, im, r⟩
      have hse := fun w' (u : Upd (fun _ => False) wq w') => vh_Set (hpS.out w' u) ((allV o).getD A 0) field ⟨va0, vn, re, im, r⟩ hvo
      have hlk := Lib.hid (fun w' (u : Upd (fun _ => False) wq w') ca chh aa ac hca hch hI => vh_look (hpS.out w' u) (ca := ca) (chh := chh) (aa := aa) (ac := ac) (al := allV o) hal64 hca hch hI)
      have hwl := lookL_len o (allV o)
      have hnl := lookL_len (setV ks14 o ((allV o).getD A 0) field ⟨va0, vn, re, im, r⟩).1 (allV o)
      have hwu : IntKind.u64.wrap ((allV o).length : Int) = (allV o).length := by rw [IntKind.wrap_u64]; omega
      have hz2 : (((allV o).length : Int) == 0) = false := by rw [beq_eq_false_iff_ne]; omega
      clear hko hkin3 hp hvo
      generalize setV ks14 o ((allV o).getD A 0) field ⟨va0, vn, re, im, r⟩ = sv at *
      obtain ⟨o', E⟩ := sv
      simp only at hE0 hE3 hmain hnl hallE
      have hlk2 := Lib.hid (fun w' (hp' : IsVh w' b base ks14 o' kv F) ca chh aa ac hca hch hI => vh_look hp' (ca := ca) (chh := chh) (aa := aa) (ac := ac) (al := allV o) hal64 hca hch hI)
      generalize hws : lookL o (allV o) = ws at *
      generalize hns : lookL o' (allV o) = ns at *
      clear hws hns hallE
      generalize allV o = al at *
      have hse := Lib.hid (show ∀ w', Upd (fun _ => False) wq w' → Calls Try.prog 32 #[.pointer (some ⟨b, 0, none⟩), .int .i64 (al.getD A 0), .int .i64 field, .agg #[.int .i64 va0, .int .i64 vn, .int .u64 (re : Int), .int .u64 (im : Int), .int .i64 r]] w' (RetSt w' b base ks14 kv F (o', E)) from hse)
      have Hhmain := Lib.hid hmain; clear hmain
      have HhE0 := Lib.hid hE0; clear hE0
      have HhE3 := Lib.hid hE3; clear hE3
      have Hhbb := Lib.hid hbb; clear hbb
      go_upto_region 17 with (first
        | (go_at_call 33; (with_reducible refine hall.out.mono ?_); rintro e w3 ⟨aa, ac, rfl, ho3, hu3⟩; have c3 := hbxS.out _ (hu3.alloc (.cells #[.slice aa al.length ac] 52)); have cA3 := (Blk.new w3 [.slice aa al.length ac] 52).cell 0 rfl; have I3 := ints_upd (ownsRow_intsR ho3) ((Upd.refl (fun _ => False) w3).alloc (.cells #[.slice aa al.length ac] 52)); have L3 := Lib.hid (hlk.out _ (hu3.alloc (.cells #[.slice aa al.length ac] 52)) w3.heap.size w2.heap.size aa ac cA3 c3 I3); have Hu3 := Lib.hid (hu3.alloc (.cells #[.slice aa al.length ac] 52)); have hI3 := Lib.hid I3; have hcA3 := Lib.hid cA3; have hs3 := Lib.hid hu3.size; have hO3 := Lib.hid (ho3.alloc (.cells #[.slice aa al.length ac] 52)); clear I3 ho3 hu3)
        | (go_at_call 34; (with_reducible refine L3.out.mono ?_); rintro e w5 ⟨sa, sc, rfl, ho5, hu5⟩; have Ho5 := Lib.hid ho5; have Hu5 := Lib.hid hu5; clear ho5 hu5))
      have u5 := Hu3.out.trans Hu5.out
      have hsz5 := Hu5.out.size
      have hsz3 := hs3.out
      have hsa : (w3.alloc (.cells #[.slice aa al.length ac] 52)).heap.size = w3.heap.size + 1 := alloc_size _ _
      have c5 := hbxS.out w5 u5
      have ca5 := (World.cell?_of_block (a := ⟨w3.heap.size, 0, none⟩) (Hu5.out.block _ (World.block_lt_of_cell? _ _ hcA3.out) (fun x => x))).trans hcA3.out
      have B5 := hbbS.out w5 u5
      have p0 := B5.cell 0 rfl
      have p1 := B5.cell 1 rfl
      have p2 := B5.cell 2 rfl
      have p3 := B5.cell 3 rfl
      have p4 := B5.cell 4 rfl
      obtain ⟨b1, o1, hix, hb1, hy⟩ := RowsIn.index (P := Try.prog) (ints_upd hI3.out Hu5.out) Try.underlying52 (by kernel_rfl) (by kernel_rfl) hA3
      simp only [Nat.mul_one] at hix hy
      have hy0 := hy 0 (by decide)
      simp only [Nat.add_zero] at hy0
      change w5.cell? _ = some (.int .i64 (al.getD A 0)) at hy0
      have hse5 := hse.out w5.drew u5.drew
      generalize al.getD A 0 = xA at *
      have hse5 := Lib.hid hse5
      have hA4 : (A : Int) < al.length := by omega
      clear hy hA hA2 c3 cA3
      have HB5 := Lib.hid B5
      have Hc5 := Lib.hid c5
      have Hca5 := Lib.hid ca5
      have Hup5 := Lib.hid (hup.out.trans u5)
      clear B5 u5
      go_cut [14] (fun ev wx => ev = .int .i64 E ∧ IsVh wx b base ks14 o' kv F ∧ Upd (fun j => base ≤ j ∧ j < wq.heap.size) w5 wx)
      case first =>
        go_region_with (go_at_call 32; (with_reducible refine hse5.out.mono ?_); rintro e w6 ⟨rfl, hp6, hu6⟩; have Hp6 := Lib.hid hp6; have Hu6 := Lib.hid (show Upd (fun j => base ≤ j ∧ j < wq.heap.size) w5 w6 from ((Upd.refl _ _).drew).trans (hu6.mono (fun j hj e => by obtain ⟨i, hi, e⟩ := e; exact hrow.out i hi j e))); clear hp6 hu6)
        all_goals
          go_wp2_with fail
          go_meet
          exact ⟨rfl, Hp6.out, Hu6.out⟩
      case rest =>
        obtain ⟨rfl, hp6, hu6⟩ := hcut
        obtain ⟨n1, n2, n3, n4, n5, n6⟩ := hne
        have cC := (World.cell?_of_block (a := ⟨w2.heap.size, 0, none⟩) (hu6.block _ (World.block_lt_of_cell? _ _ Hc5.out) (fun (x : base ≤ w2.heap.size ∧ w2.heap.size < wq.heap.size) => by omega))).trans Hc5.out
        have caC := (World.cell?_of_block (a := ⟨w3.heap.size, 0, none⟩) (hu6.block _ (World.block_lt_of_cell? _ _ Hca5.out) (fun (x : base ≤ w3.heap.size ∧ w3.heap.size < wq.heap.size) => by omega))).trans Hca5.out
        have IC := ownsRow_intsR (ownsRow_upd (ownsRow_upd hO3.out Hu5.out (fun _ _ x => x)) hu6 (fun j hj (e : base ≤ j ∧ j < wq.heap.size) => by omega))
        have L6 := Lib.hid (hlk2.out wc hp6 w3.heap.size w2.heap.size aa ac caC cC IC)
        have hWs := Lib.hid (ownsRow_upd Ho5.out hu6 (fun j hj (e : base ≤ j ∧ j < wq.heap.size) => by omega))
        have hBc := Lib.hid (HB5.out.upd hu6 (fun (x : base ≤ W.heap.size ∧ W.heap.size < wq.heap.size) => by omega))
        have hUp := Lib.hid (Hup5.out.own hu6 (fun j (e : base ≤ j ∧ j < wq.heap.size) => by omega))
        clear cC caC IC hp6 hu6 p0 p1 p2 p3 p4 hy0 hix c5 ca5 hse hse5 hlk2 hO3 HB5 Hc5 Hca5 Ho5 Hu5 L3 hI3 hcA3
        have cdummy := trivial
        go_wp2_with (go_at_call 34; (with_reducible refine L6.out.mono ?_); rintro e w7 ⟨na, nc, rfl, ho7, hu7⟩; rw [hnl])
        have hVw := ownsRow_vals (ownsRow_upd hWs.out hu7 (fun _ _ x => x))
        have hVn := ownsRow_vals ho7
        have hB7 := Lib.hid (hBc.out.upd hu7 (fun x => x))
        have hU7 := Lib.hid (hUp.out.trans hu7)
        have hVw : ValsR w7 (.slice sa (al.length * 3) sc) ws := by rw [← hwl]; exact hVw
        have hVn : ValsR w7 (.slice na (al.length * 3) nc) ns := by rw [← hnl]; exact hVn
        have HhVw := Lib.hid hVw; clear hVw
        have HhVn := Lib.hid hVn; clear hVn
        clear ho7 hu7 hWs hBc hUp L6
        go_loopw [98] (fun i wr => ∃ k : Nat, i = .int .i64 k ∧ k ≤ al.length * 3 ∧ Upd (fun _ => False) w7 wr) (fun i _ => (al.length * 3 - intOf i).toNat)
        case atStart => exact ⟨0, rfl, Nat.zero_le _, Upd.refl _ _⟩
        case round =>
          obtain ⟨k, rfl, hk, hu⟩ := hrel
          by_cases hk2 : k = al.length * 3
          · have e0 : ¬ ((k : Int) < al.length * 3) := by omega
            have hUr := Lib.hid (hU7.out.trans hu)
            clear hk2 hu
            go_wp2_with (go_at_call 28; (with_reducible refine (hAw.out _).mono ?_); rintro e w9 ⟨rfl, hu9⟩)
            go_ret
            exact ⟨rfl, (hUr.out.trans hu9).none⟩
          · have hk3 : k < al.length * 3 := by omega
            have e0 : (k : Int) < al.length * 3 := by omega
            have hVwr := HhVw.out
            have hVnr := HhVn.out
            obtain ⟨b1, o1, hix1, hb1, hy1⟩ := RowsIn.index (P := Try.prog) (show RowsIn w7 (.slice sa (al.length * 3) sc) 5 (al.length * 3) _ from by have h : RowsIn w7 (.slice sa (al.length * 3) sc) 5 ws.length _ := hVwr; rw [hwl] at h; exact h) Try.underlying23 (by kernel_rfl) (by kernel_rfl) hk3
            obtain ⟨b2, o2, hix2, hb2, hy2⟩ := RowsIn.index (P := Try.prog) (show RowsIn w7 (.slice na (al.length * 3) nc) 5 (al.length * 3) _ from by have h : RowsIn w7 (.slice na (al.length * 3) nc) 5 ns.length _ := hVnr; rw [hnl] at h; exact h) Try.underlying23 (by kernel_rfl) (by kernel_rfl) hk3
            have y1 := Lib.hid (fun w' (u : Upd (fun _ => False) w7 w') t ht => (u.none.cell (p := ⟨b1, o1 + k * 5 + t, none⟩) hb1).trans (hy1 t ht))
            have y2 := Lib.hid (fun w' (u : Upd (fun _ => False) w7 w') t ht => (u.none.cell (p := ⟨b2, o2 + k * 5 + t, none⟩) hb2).trans (hy2 t ht))
            obtain ⟨hm1, hm2⟩ := Hhmain.out k hk3
            generalize ws.getD k zeroV = x at *
            generalize ns.getD k zeroV = y at *
            obtain ⟨xk, xn, xre, xim, xr⟩ := x
            obtain ⟨yk, yn, yre, yim, yr⟩ := y
            generalize o1 + k * 5 = q1 at *
            generalize o2 + k * 5 = q2 at *
            have hs1 := same14 ⟨xk, xn, xre, xim, xr⟩ ⟨yk, yn, yre, yim, yr⟩
            have hs2 := same14 ⟨yk, yn, yre, yim, yr⟩ ⟨va0, vn, re, im, r⟩
            have hb7 := Lib.hid (fun w' (u : Upd (fun _ => False) w7 w') => hB7.out.upd u (fun x => x))
            have Hhu := Lib.hid hu; clear hu
            clear hy1 hy2 hVwr hVnr hk2
            obtain ⟨wn, hwn⟩ : ∃ wn : World, wn = wr := ⟨_, rfl⟩
            subst hwn
            have f0 := fun (s : Later wn) => y1.out s.val (Hhu.out.trans s.up) 0 (by decide)
            have f1 := fun (s : Later wn) => y1.out s.val (Hhu.out.trans s.up) 1 (by decide)
            have f2 := fun (s : Later wn) => y1.out s.val (Hhu.out.trans s.up) 2 (by decide)
            have f3 := fun (s : Later wn) => y1.out s.val (Hhu.out.trans s.up) 3 (by decide)
            have f4 := fun (s : Later wn) => y1.out s.val (Hhu.out.trans s.up) 4 (by decide)
            have g0 := fun (s : Later wn) => y2.out s.val (Hhu.out.trans s.up) 0 (by decide)
            have g1 := fun (s : Later wn) => y2.out s.val (Hhu.out.trans s.up) 1 (by decide)
            have g2 := fun (s : Later wn) => y2.out s.val (Hhu.out.trans s.up) 2 (by decide)
            have g3 := fun (s : Later wn) => y2.out s.val (Hhu.out.trans s.up) 3 (by decide)
            have g4 := fun (s : Later wn) => y2.out s.val (Hhu.out.trans s.up) 4 (by decide)
            have k0 := fun (s : Later wn) => (hb7.out s.val (Hhu.out.trans s.up)).cell 0 rfl
            have k1 := fun (s : Later wn) => (hb7.out s.val (Hhu.out.trans s.up)).cell 1 rfl
            have k2 := fun (s : Later wn) => (hb7.out s.val (Hhu.out.trans s.up)).cell 2 rfl
            have k3 := fun (s : Later wn) => (hb7.out s.val (Hhu.out.trans s.up)).cell 3 rfl
            have k4 := fun (s : Later wn) => (hb7.out s.val (Hhu.out.trans s.up)).cell 4 rfl
            simp only [Nat.add_zero] at f0 g0
            change ∀ s : Later wn, s.val.cell? _ = some (.int .i64 xk) at f0
            change ∀ s : Later wn, s.val.cell? _ = some (.int .i64 xn) at f1
            change ∀ s : Later wn, s.val.cell? _ = some (.int .u64 (xre : Int)) at f2
            change ∀ s : Later wn, s.val.cell? _ = some (.int .u64 (xim : Int)) at f3
            change ∀ s : Later wn, s.val.cell? _ = some (.int .i64 xr) at f4
            change ∀ s : Later wn, s.val.cell? _ = some (.int .i64 yk) at g0
            change ∀ s : Later wn, s.val.cell? _ = some (.int .i64 yn) at g1
            change ∀ s : Later wn, s.val.cell? _ = some (.int .u64 (yre : Int)) at g2
            change ∀ s : Later wn, s.val.cell? _ = some (.int .u64 (yim : Int)) at g3
            change ∀ s : Later wn, s.val.cell? _ = some (.int .i64 yr) at g4
            clear y1 y2
            by_cases hE : E = 0
            · subst hE
              obtain ⟨hf0, hf3⟩ := HhE3.out rfl
              obtain ⟨j, rfl⟩ : ∃ j : Nat, field = j := ⟨field.toNat, by omega⟩
              have hj3 : (j : Int) < 3 := hf3
              have hA5 : (A : Int) < 64 := by omega
              by_cases hm : (k : Int) = 3 * A + j
              · have hmm := hm2 ⟨rfl, hm⟩
                rw [hmm] at hs2
                have hs2 := Lib.hid (show ∀ w', Upd (fun _ => False) wn w' → Calls Try.prog 36 #[.agg #[.int .i64 yk, .int .i64 yn, .int .u64 (yre : Int), .int .u64 (yim : Int), .int .i64 yr], .agg #[.int .i64 va0, .int .i64 vn, .int .u64 (re : Int), .int .u64 (im : Int), .int .i64 r]] w' (fun e w'' => e = .returned (.bool true) ∧ Upd (fun _ => False) wn w'') from fun w' u => (hs2 w').mono (fun e w'' hh => ⟨hh.1, u.trans hh.2⟩))
                have e5 : ((k : Int) == 3 * (A : Int) + (j : Int)) = true := by rw [beq_iff_eq]; exact hm
                clear hs1 hm1 hm2 hmm f0 f1 f2 f3 f4 hf0 hf3 hm hix1
                go_wp2_with fail
                refine wp_region_later (by kernel_rfl) (by kernel_rfl) ?_
                repeat (go_big_quiet_step ((go_at_call 36; exact calls_later (hs2.out _ (Later.up _)))))
                refine wpQuiet_nil ?_
                intro w4 hw4
                have u8 : Upd (fun _ => False) wn w4 := by
                  obtain ⟨s, rfl⟩ := hw4
                  exact s.up
                clear hw4
                have Hu8 := Lib.hid u8
                clear u8 g0 g1 g2 g3 g4 k0 k1 k2 k3 k4
                go_wp2_with fail
                go_roundw
                case rel => exact ⟨k + 1, by go_num, by omega, Hhu.out.trans Hu8.out⟩
                case measure => simp [intOf]; omega
              · have hmm := hm1 (fun h => hm h.2)
                rw [hmm] at hs1
                have hs1 := Lib.hid (show ∀ w', Upd (fun _ => False) wn w' → Calls Try.prog 36 #[.agg #[.int .i64 xk, .int .i64 xn, .int .u64 (xre : Int), .int .u64 (xim : Int), .int .i64 xr], .agg #[.int .i64 yk, .int .i64 yn, .int .u64 (yre : Int), .int .u64 (yim : Int), .int .i64 yr]] w' (fun e w'' => e = .returned (.bool true) ∧ Upd (fun _ => False) wn w'') from fun w' u => (hs1 w').mono (fun e w'' hh => ⟨hh.1, u.trans hh.2⟩))
                have e5 : ((k : Int) == 3 * (A : Int) + (j : Int)) = false := by rw [beq_eq_false_iff_ne]; exact hm
                clear hs2 hm1 hm2 hmm hf0 hf3 hm k0 k1 k2 k3 k4
                go_wp2_with fail
                refine wp_region_later (by kernel_rfl) (by kernel_rfl) ?_
                repeat (go_big_quiet_step ((go_at_call 36; exact calls_later (hs1.out _ (Later.up _)))))
                refine wpQuiet_nil ?_
                intro w4 hw4
                have u8 : Upd (fun _ => False) wn w4 := by
                  obtain ⟨s, rfl⟩ := hw4
                  exact s.up
                clear hw4
                have Hu8 := Lib.hid u8
                clear u8 f0 f1 f2 f3 f4 g0 g1 g2 g3 g4
                go_wp2_with fail
                go_roundw
                case rel => exact ⟨k + 1, by go_num, by omega, Hhu.out.trans Hu8.out⟩
                case measure => simp [intOf]; omega
            · have hmm := hm1 (fun h => hE h.1)
              rw [hmm] at hs1
              have hs1 := Lib.hid (show ∀ w', Upd (fun _ => False) wn w' → Calls Try.prog 36 #[.agg #[.int .i64 xk, .int .i64 xn, .int .u64 (xre : Int), .int .u64 (xim : Int), .int .i64 xr], .agg #[.int .i64 yk, .int .i64 yn, .int .u64 (yre : Int), .int .u64 (yim : Int), .int .i64 yr]] w' (fun e w'' => e = .returned (.bool true) ∧ Upd (fun _ => False) wn w'') from fun w' u => (hs1 w').mono (fun e w'' hh => ⟨hh.1, u.trans hh.2⟩))
              have e5 : (E == 0) = false := by rw [beq_eq_false_iff_ne]; exact hE
              clear hs2 hm1 hm2 hmm hE k0 k1 k2 k3 k4
              go_wp2_with fail
              refine wp_region_later (by kernel_rfl) (by kernel_rfl) ?_
              repeat (go_big_quiet_step ((go_at_call 36; exact calls_later (hs1.out _ (Later.up _)))))
              refine wpQuiet_nil ?_
              intro w4 hw4
              have u8 : Upd (fun _ => False) wn w4 := by
                obtain ⟨s, rfl⟩ := hw4
                exact s.up
              clear hw4
              have Hu8 := Lib.hid u8
              clear u8 f0 f1 f2 f3 f4 g0 g1 g2 g3 g4
              go_wp2_with fail
              go_roundw
              case rel => exact ⟨k + 1, by go_num, by omega, Hhu.out.trans Hu8.out⟩
              case measure => simp [intOf]; omega

theorem own : ownKnob Try.prog.godebug = none := by kernel_rfl
theorem laidOut : laidOutB Try.prog = true := by kernel_rfl
set_option maxRecDepth 100000 in
theorem lifted (os : Os) (started : os.Started) (H : Type) (enc : TypeId × Value → H) :
    ReturnsInHanded {} Try.checked os 8 .any (Rows.vheapApartSpec.pre6 enc Try.prog Try.f8 Rows.vheapApartRow.domain false) (Rows.vheapApartSpec.post enc Try.prog Try.f8 false true false false) := by
  refine returnsInHanded_of_change_sized (C := Try.checked) own started (by kernel_rfl) Try.func8
    (ChangeSpec.witness6 (enc := enc) (C := Try.checked) false ⟨#[], #[.slice none 0 0, .int .i64 0, .int .i64 0, .agg #[.int .i64 0, .int .i64 0, .int .u64 0, .int .u64 0, .int .i64 0]], []⟩ 8 (by kernel_rfl) (by kernel_rfl) (by kernel_rfl) (by kernel_rfl)) ?_
  intro W base args ds gs before hval0 hW _ hsz0 _
  have hsz : (DataW.weightsEach Try.prog (Try.f8.params.toList ++ Rows.vheapApartSpec.plain.varTypes Try.prog) (ds ++ gs)).all (· ≤ reachBytes) = true := hsz0
  clear hsz0
  have hval : ∀ (j : Nat) t v, Try.f8.params[j]? = some t → args[j]? = some v → Value.okWide Try.prog W .any base t v := hval0
  have hW' := hW
  obtain ⟨p, q, hA0, hV, rfl, _, _⟩ := hW
  have hA : DataW.TrodAll enc Try.prog W 0 (fun _ => true) true Try.f8.params.toList args.toList ds p := hA0
  rw [Try.params8] at hA hval hsz
  obtain ⟨v0, vs0, d0, ds0, p0, q0, hargs, rfl, rfl, h0, r0⟩ := trodAll_cons hA
  obtain ⟨v1, vs1, d1, ds1, p1, q1, rfl, rfl, rfl, h1, r1⟩ := trodAll_cons r0
  obtain ⟨v2, vs2, d2, ds2, p2, q2, rfl, rfl, rfl, h2, r2⟩ := trodAll_cons r1
  obtain ⟨v3, vs3, d3, ds3, p3, q3, rfl, rfl, rfl, h3, r3⟩ := trodAll_cons r2
  obtain ⟨rfl, rfl, rfl⟩ := trodAll_nil r3
  obtain rfl : args = #[v0, v1, v2, v3] := by cases args; simp_all
  obtain ⟨rfl, rfl⟩ := trodVars_none hV
  clear hA0 hval0
  simp only [List.append_nil] at hW'
  have hlt : ∀ x, (x ∈ p0 ∨ x ∈ p1 ∨ x ∈ p2 ∨ x ∈ p3) → x.block < W.heap.size := fun x hx => by simpa using hW'.lt x (by simpa using hx)
  have k0 : ∀ (W' : World), Below W.heap.size W W' → DataW.Trod enc Try.prog W' 0 (fun b => decide (b < W.heap.size)) true 51 v0 d0 p0 :=
    fun W' hn => Below.trod laidOut (by kernel_rfl) (of_decide_eq_true (by kernel_rfl)) h0 hn (fun x hx => hlt x (Or.inl hx))
  have k1 : ∀ (W' : World), Below W.heap.size W W' → DataW.Trod enc Try.prog W' 0 (fun b => decide (b < W.heap.size)) true 3 v1 d1 p1 :=
    fun W' hn => Below.trod laidOut (by kernel_rfl) (of_decide_eq_true (by kernel_rfl)) h1 hn (fun x hx => hlt x (Or.inr (Or.inl hx)))
  have k2 : ∀ (W' : World), Below W.heap.size W W' → DataW.Trod enc Try.prog W' 0 (fun b => decide (b < W.heap.size)) true 3 v2 d2 p2 :=
    fun W' hn => Below.trod laidOut (by kernel_rfl) (of_decide_eq_true (by kernel_rfl)) h2 hn (fun x hx => hlt x (Or.inr (Or.inr (Or.inl hx))))
  have k3 : ∀ (W' : World), Below W.heap.size W W' → DataW.Trod enc Try.prog W' 0 (fun b => decide (b < W.heap.size)) true 26 v3 d3 p3 :=
    fun W' hn => Below.trod laidOut (by kernel_rfl) (of_decide_eq_true (by kernel_rfl)) h3 hn (fun x hx => hlt x (Or.inr (Or.inr (Or.inr (hx)))))
  obtain ⟨x0, hx0⟩ := open_cals (hval 0 51 v0 rfl rfl) h0 hsz 0 rfl rfl
  obtain ⟨a1, rfl, _, _, w1⟩ := open_int Try.underlying3 (hval 1 3 v1 rfl rfl) h1
  obtain ⟨a2, rfl, _, _, w2⟩ := open_int Try.underlying3 (hval 2 3 v2 rfl rfl) h2
  obtain ⟨x3, hx3⟩ := open_valAt _ _ _ _ _ Try.underlying26 (by kernel_rfl) (by decide) (by kernel_rfl) rfl rfl rfl rfl rfl Try.underlying3 Try.underlying2 Try.underlying24 Try.underlying24 Try.underlying3 (hval 3 26 v3 rfl rfl) h3 hsz 3 rfl rfl
  refine (walk (W := W) v0 x0 hx0 a1 w1 a2 w2 v3 x3 hx3).mono fun e W' ⟨he, hb⟩ => ?_
  subst he
  refine ⟨_, rfl, _, _, _, [], p0 ++ (p1 ++ (p2 ++ (p3 ++ ([])))), [], hW', ?_, ?_, rfl, hb.frame _, fun h => by cases h⟩
  · exact trodAll_cons_mk (shut_bool Try.underlying4 true) trodAll_mk0
  · exact trodAll_cons_mk (k0 _ hb) (trodAll_cons_mk (k1 _ hb) (trodAll_cons_mk (k2 _ hb) (trodAll_cons_mk (k3 _ hb) (trodAll_mk0))))

theorem over : Rows.vheapApartRow.holds Try.pinned (OpenSpec.ofChange Rows.vheapApartSpec) :=
  OpenClaim.holds_of_wide 8 Try.f8 rfl rfl rfl rfl rfl rfl rfl ⟨rfl, rfl, rfl, rfl, rfl⟩ rfl rfl rfl rfl rfl (by kernel_rfl) Try.func8 (by kernel_rfl)
    (of_decide_eq_true (by kernel_rfl)) (by unfold Func.isWrapper; first | (rw [if_pos (by decide +kernel)]; kernel_rfl) | (rw [if_neg (by decide +kernel)]; exact ⟨rfl, rfl⟩))
    (fun os started H enc _ => lifted os started H enc)

/-- The given statement. -/
theorem proved : Rows.VheapApartSaid := over
#print axioms proved
end Go.Proofs.Ytcnbcidbbeadcaa.vheapApart
