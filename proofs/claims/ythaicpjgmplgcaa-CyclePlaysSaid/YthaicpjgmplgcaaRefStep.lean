/- The document's marker: its step. -/
import Derived.Test.YthaicpjgmplgcaaRefMark
import Derived.Test.YthaicpjgmplgcaaMarkCom
import Derived.Deep.DeepCutAuto
import Derived.Deep.CutBlock
namespace Go.Proofs.Ythaicpjgmplgcaa
open Go.RowKit Go.ChangeShapes Go.WideShapes
set_option linter.unusedVariables false

theorem base_below {W w w' : World} {base : Nat} (hb : Below W.heap.size W w) (h : W.heap.size ≤ base) (hz : W.heap.size ≤ w.heap.size) (u : Upd (fun j => base ≤ j) w w') : Below W.heap.size W w' :=
  ⟨u.os.trans hb.os, u.tape.trans hb.tape, u.output.trans hb.output, Nat.le_trans hz u.size, fun k hk => (u.block k (by omega) (by omega)).trans (hb.block k hk)⟩

/-- The rest of a step: what the taken one refers to is shaded. -/
def Mk.from_ (x : Mk) (tt : List (List Int)) (q : Nat) : Mk := (refsOf tt q).foldl Mk.shade x

set_option maxRecDepth 100000 in
set_option maxHeartbeats 2000000 in
theorem rk_took {W w : World} {base rb gm gs : Nat} {x : Mk} {v : Value} {tt : List (List Int)} (h : IsRk w base rb gm gs x) (hx : Ok x) (hl : x.l ≠ []) (hM : MatIn W v tt) (hW : Below W.heap.size W w) (hB : W.heap.size ≤ base) (hlb : tt.length ≤ 1000 ∧ ∀ l ∈ tt, l.length ≤ 1000) :
    Calls Try.prog 68 #[.pointer (some ⟨rb, 0, none⟩), v] w (RkPost w base rb gm gs (x.step (refsOf tt)) (.bool true)) := by
  rw [step_took hx hl]
  obtain ⟨a, c, h1, h2⟩ := h.st
  obtain ⟨r1, r2, r3, r4⟩ := hx.rng _ (List.getLast_mem hl)
  rw [← getLastD_eq hl] at r1 r2 r3 r4
  obtain ⟨q, hq⟩ : ∃ q : Nat, x.l.getLastD 0 = q := ⟨(x.l.getLastD 0).toNat, by omega⟩
  obtain ⟨m, hm⟩ : ∃ m, x.l.length = m + 1 := ⟨x.l.length - 1, by have := List.length_pos_iff.2 hl; omega⟩
  have htook : x.took = { x with l := x.l.dropLast, s := setF x.s q true } := by unfold Mk.took; rw [hq]
  rw [hq] at r1 r2 r3 r4 ⊢
  rw [Int.toNat_natCast] at r3 r4
  have hqn : q < x.n := by omega
  obtain ⟨g, hix, hg, -, hcell0, -, hgb⟩ := ownsRow_index h2 (P := Try.prog) Try.underlying37 (by kernel_rfl) (by kernel_rfl) (show m < x.l.length by omega)
  have hcell : w.cell? ⟨g, m, none⟩ = some (.int .i64 q) := by
    have hll : x.l.getD m 0 = x.l.getLastD 0 := by
      rw [List.getD_eq_getElem?_getD, List.getLastD_eq_getLast?, List.getLast?_eq_getElem?, hm]
      rfl
    rw [hcell0, ← hq, ← hll]
    simp [ints, List.getD, show m < x.l.length by omega]
  have hpop := rk_popped h h1 h2 hm
  have k1 := rk_scan hpop q
  rw [show ({ ({ x with l := x.l.dropLast } : Mk) with s := setF ({ x with l := x.l.dropLast } : Mk).s q true } : Mk) = x.took from htook.symm] at k1
  obtain ⟨c0, c1, c2, c3, c4⟩ := rk_cells h1
  rw [hm] at c2
  have f2 := h1.free 2
  have hms : 2 ≤ 4 := by decide
  have u1 : Upd (fun j => base ≤ j) w (w.setCell ⟨rb, 2, none⟩ (.slice a m c)) := rk_up 2 _ h.ge.2.2 rfl
  have cs0 := h.sc.cell q hqn
  rw [r4] at cs0
  have fs0 := World.ownsRow.frozenAt h.sc q
  have n2 : gs ≠ rb := by have := h.ne.2.1; omega
  have hu2 := u1.trans (rk_up q (.bool true) h.ge.2.1 rfl)
  have hcap : m ≤ c := by
    rcases h2.2 with ⟨h0, -⟩ | ⟨g, cap, cur, hv, -, -, hc, -⟩
    · have h3 := (Value.slice.inj h0).2.1
      omega
    · have h3 := (Value.slice.inj hv).2.2
      omega
  have hm3 : (m : Int) ≤ 2048 := by have := h.len; have := h.room; omega
  have hm0 : (0 : Int) < (m : Int) + 1 := by omega
  have hqn2 : (q : Int) < x.n := by omega
  have hn2 := h.n
  rw [hm] at hix
  generalize x.took = y at *
  have Hh := Lib.hid h; clear h
  have Hh1 := Lib.hid h1; clear h1
  have Hh2 := Lib.hid h2; clear h2
  have Hhx := Lib.hid hx; clear hx
  have HhM := Lib.hid hM; clear hM
  have HhW := Lib.hid hW; clear hW
  have HhB := Lib.hid hB; clear hB
  have Hhlb := Lib.hid hlb; clear hlb
  have Hhpop := Lib.hid hpop; clear hpop
  have Hk1 := Lib.hid k1; clear k1
  have Hu1 := Lib.hid u1; clear u1
  have Hhu2 := Lib.hid hu2; clear hu2
  have Hhtook := Lib.hid htook; clear htook
  clear hl r1 r2 r3 r4 hq hcell0 hg hgb
  go_enter Try.func68, Try.ntmps68
  by_cases hqt : q < tt.length
  · have hr0 : refsOf tt (q : Int) = tt.getD q [] := by
      unfold refsOf
      rw [if_pos (by omega), Int.toNat_natCast]
    rw [hr0]
    obtain ⟨b0, off, ra, rc, hix2, hrow, hIn⟩ := mat_row HhM.out hqt
    have hlen : (tt.getD q []).length ≤ 1000 := Hhlb.out.2 _ (by simp [List.getD, hqt])
    have hcrow := hrow _ (base_below HhW.out HhB.out HhW.out.size Hhu2.out)
    obtain ⟨ta, tc, htv⟩ := mat_shape HhM.out
    subst htv
    have hqt2 : (q : Int) < tt.length := by omega
    generalize tt.getD q [] = rs at *
    have hlI : (rs.length : Int) ≤ 1000 := by omega
    have HhIn := Lib.hid hIn; clear hIn
    clear hr0 hqt hrow
    go_upto_block 0 with fail
    generalize (w.setCell ⟨rb, 2, none⟩ (.slice a m c)).setCell ⟨gs, q, none⟩ (.bool true) = w2 at *
    clear c0 c1 c2 c3 c4 f2 cs0 fs0 hcrow hcell hix hix2
    go_wp2_with fail
    go_loopw [58] (fun i wr => ∃ z : Nat, i = .int .i64 z ∧ z ≤ rs.length ∧ IsRk wr base rb gm gs ((rs.take z).foldl Mk.shade y) ∧ Upd (fun j => base ≤ j) w wr) (fun i _ => (rs.length - intOf i).toNat)
    case atStart => exact ⟨0, rfl, Nat.zero_le _, Hk1.out, Hhu2.out⟩
    case round =>
      obtain ⟨z, rfl, hz, hI, hu⟩ := hrel
      by_cases hzl : z = rs.length
      · have e1 : ¬ ((z : Int) < rs.length) := by omega
        rw [hzl, List.take_length] at hI
        have HhI := Lib.hid hI; clear hI
        have Hhu := Lib.hid hu; clear hu
        clear hzl
        go_wp2_with fail
        go_ret
        exact ⟨rfl, HhI.out, Hhu.out⟩
      · have e1 : (z : Int) < rs.length := by omega
        have hz3 : z < rs.length := by omega
        obtain ⟨b3, off3, hix3, hcc⟩ := int_atR HhIn.out hz3
        have hcell := hcc wr (base_below HhW.out HhB.out HhW.out.size hu)
        have hst : (rs.take (z + 1)).foldl Mk.shade y = ((rs.take z).foldl Mk.shade y).shade (rs.getD z 0) := by
          rw [List.take_succ_eq_append_getElem hz3, List.foldl_append]
          simp [List.getD, hz3]
        have hSh := rk_Shade hI (rs.getD z 0)
        unfold RkPost at hSh
        rw [← hst] at hSh
        generalize rs.getD z 0 = r at *
        generalize offB ((rs.take z).foldl Mk.shade y).n ((rs.take z).foldl Mk.shade y).m r = bb at *
        have HhSh := Lib.hid hSh; clear hSh
        have Hhu := Lib.hid hu; clear hu
        clear hst hI hcc hzl
        go_wp2_with (go_at_call 67; (with_reducible refine HhSh.out.mono ?_); rintro e w4 ⟨rfl, hI4, hu4⟩; have HI4 := Lib.hid hI4; have Hu4 := Lib.hid (Hhu.out.trans hu4); clear hI4 hu4)
        go_roundw
        case rel => exact ⟨z + 1, by go_num, by omega, HI4.out, Hu4.out⟩
        case measure => simp [intOf]; omega
  · have hr0 : refsOf tt (q : Int) = [] := by
      unfold refsOf
      rw [if_pos (by omega)]
      simp [List.getD, Nat.le_of_not_lt hqt]
    rw [hr0]
    obtain ⟨ta, tc, htv⟩ := mat_shape HhM.out
    subst htv
    have hqt2 : ¬ ((q : Int) < tt.length) := by omega
    clear hr0 hqt
    go_wp2_with fail
    go_ret
    exact ⟨rfl, Hk1.out, Hhu2.out⟩

theorem againTo_go (x : Mk) (b d : Nat) (h : (x.m b && !x.s b) = true) (hr : x.l.length < x.room) : x.againTo b (d + 1) = (x.push b).againTo (b + 1) d := by
  show (if x.m b && !x.s b then _ else _) = _
  rw [h, if_pos rfl, if_pos hr]
theorem againTo_full (x : Mk) (b d : Nat) (h : (x.m b && !x.s b) = true) (hr : ¬ x.l.length < x.room) : x.againTo b (d + 1) = x.push b := by
  show (if x.m b && !x.s b then _ else _) = _
  rw [h, if_pos rfl, if_neg hr]
theorem againTo_pass (x : Mk) (b d : Nat) (h : (x.m b && !x.s b) = false) : x.againTo b (d + 1) = x.againTo (b + 1) d := by
  show (if x.m b && !x.s b then _ else _) = _
  rw [h]
  rfl

set_option maxRecDepth 100000 in
set_option maxHeartbeats 2000000 in
theorem rk_rest {w : World} {base rb gm gs : Nat} {x : Mk} {v : Value} (h : IsRk w base rb gm gs x) (hl : x.l = []) (refs : Int → List Int) :
    Calls Try.prog 68 #[.pointer (some ⟨rb, 0, none⟩), v] w (RkPost w base rb gm gs (x.step refs) (.bool (!x.done))) := by
  obtain ⟨a, c, h1, h2⟩ := h.st
  obtain ⟨c0, c1, c2, c3, c4⟩ := rk_cells h1
  rw [show x.l.length = 0 from by rw [hl]; rfl] at c2
  cases ho : x.over
  · have hd : x.done = true := (done_iff x).2 ⟨hl, ho⟩
    rw [step_done hd, hd]
    rw [ho] at c4
    have Hh := Lib.hid h; clear h
    clear h1 h2 hl ho hd
    go_enter Try.func68, Try.ntmps68
    go_wp2_with fail
    go_ret
    exact ⟨rfl, Hh.out, Upd.refl _ _⟩
  · have hd : x.done = false := by
      cases hd : x.done
      · rfl
      · have := ((done_iff x).1 hd).2
        rw [ho] at this
        cases this
    rw [step_again hl ho, hd]
    rw [ho] at c4
    have k0 := rk_over h false
    have f4 := h1.free 4
    have hu0 := rk_up (w := w) 4 (.bool false) h.ge.2.2 rfl
    have hn2 := h.n
    have hn3 : (x.n : Int) ≤ 1048576 := by omega
    have hag : x.again = ({ x with over := false } : Mk).againTo 0 (x.n - 0) := rfl
    have Hk0 := Lib.hid k0; clear k0
    have Hhu0 := Lib.hid hu0; clear hu0
    have Hhag := Lib.hid hag; clear hag
    clear h h1 h2 hl ho hd
    go_enter Try.func68, Try.ntmps68
    go_upto_block 2 with fail
    generalize w.setCell ⟨rb, 4, none⟩ (.bool false) = w1 at *
    clear c0 c1 c2 c3 c4 f4
    go_cut [79] (fun i wx => IsRk wx base rb gm gs x.again ∧ Upd (fun j => base ≤ j) w wx)
    case first =>
      go_wp2_with fail
      go_loopw [79] (fun i wr => ∃ (b : Nat) (y : Mk), i = .int .i64 b ∧ b ≤ x.n ∧ y.n = x.n ∧ x.again = y.againTo b (x.n - b) ∧ IsRk wr base rb gm gs y ∧ Upd (fun j => base ≤ j) w wr) (fun i _ => (x.n - intOf i).toNat)
      case atStart => exact ⟨0, { x with over := false }, rfl, Nat.zero_le _, rfl, Hhag.out, Hk0.out, Hhu0.out⟩
      case round =>
        obtain ⟨b, y, rfl, hb, hyn, ha, hI, hu⟩ := hrel
        by_cases hbn : b = x.n
        · have e1 : ¬ ((b : Int) < x.n) := by omega
          have ha2 : x.again = y := by rw [ha, hbn, show x.n - x.n = 0 from by omega]; rfl
          rw [← ha2] at hI
          have HhI := Lib.hid hI; clear hI
          have Hhu := Lib.hid hu; clear hu
          clear hbn ha ha2 Hhag hyn
          go_wp2_with fail
          go_meet
          exact ⟨HhI.out, Hhu.out⟩
        · have e1 : (b : Int) < x.n := by omega
          obtain ⟨d, hd⟩ : ∃ d, x.n - b = d + 1 := ⟨x.n - b - 1, by omega⟩
          have hd2 : d = x.n - (b + 1) := by omega
          rw [hd] at ha
          have hby : b < y.n := by omega
          have hbI : (b : Int) < y.n := by omega
          obtain ⟨a2, c2', k1, k2⟩ := hI.st
          obtain ⟨g0, g1, -, -, -⟩ := rk_cells k1
          have cm := hI.mm.cell b hby
          have cs := hI.sc.cell b hby
          cases hm : y.m b
          · rw [againTo_pass y b d (by rw [hm]; rfl), hd2] at ha
            rw [hm] at cm
            have HhI := Lib.hid hI; clear hI
            have Hhu := Lib.hid hu; clear hu
            have Hha := Lib.hid ha; clear ha
            have Hhyn := Lib.hid hyn; clear hyn
            clear k1 k2 hbn Hhag hd hd2 hm
            go_wp2_with fail
            go_roundw
            case rel => exact ⟨b + 1, y, by go_num, by omega, Hhyn.out, Hha.out, HhI.out, Hhu.out⟩
            case measure => simp [intOf]; omega
          · cases hs : y.s b
            · rw [hm] at cm
              rw [hs] at cs
              have hp := rk_push hI (b : Int)
              unfold RkPost at hp
              by_cases hr : y.l.length < y.room
              · rw [decide_eq_true hr] at hp
                rw [againTo_go y b d (by rw [hm, hs]; rfl) hr, hd2] at ha
                have hyn2 : (y.push (b : Int)).n = x.n := hyn
                have HhI := Lib.hid hI; clear hI
                have Hhu := Lib.hid hu; clear hu
                have Hha := Lib.hid ha; clear ha
                have Hhyn2 := Lib.hid hyn2; clear hyn2
                have Hhp := Lib.hid hp; clear hp
                clear k1 k2 hbn Hhag hd hd2 hm hs hr hyn
                go_wp2_with (go_at_call 88; (with_reducible refine Hhp.out.mono ?_); rintro e w4 ⟨rfl, hI4, hu4⟩; have HI4 := Lib.hid hI4; have Hu4 := Lib.hid (Hhu.out.trans hu4); clear hI4 hu4)
                go_roundw
                case rel => exact ⟨b + 1, y.push (b : Int), by go_num, by omega, Hhyn2.out, Hha.out, HI4.out, Hu4.out⟩
                case measure => simp [intOf]; omega
              · rw [decide_eq_false hr] at hp
                rw [againTo_full y b d (by rw [hm, hs]; rfl) hr] at ha
                rw [← ha] at hp
                have HhI := Lib.hid hI; clear hI
                have Hhu := Lib.hid hu; clear hu
                have Hhp := Lib.hid hp; clear hp
                clear k1 k2 hbn Hhag hd hd2 hm hs hr hyn ha
                go_wp2_with (go_at_call 88; (with_reducible refine Hhp.out.mono ?_); rintro e w4 ⟨rfl, hI4, hu4⟩; have HI4 := Lib.hid hI4; have Hu4 := Lib.hid (Hhu.out.trans hu4); clear hI4 hu4)
                go_meet
                exact ⟨HI4.out, Hu4.out⟩
            · rw [againTo_pass y b d (by rw [hm, hs]; rfl), hd2] at ha
              rw [hm] at cm
              rw [hs] at cs
              have HhI := Lib.hid hI; clear hI
              have Hhu := Lib.hid hu; clear hu
              have Hha := Lib.hid ha; clear ha
              have Hhyn := Lib.hid hyn; clear hyn
              clear k1 k2 hbn Hhag hd hd2 hm hs
              go_wp2_with fail
              go_roundw
              case rel => exact ⟨b + 1, y, by go_num, by omega, Hhyn.out, Hha.out, HhI.out, Hhu.out⟩
              case measure => simp [intOf]; omega
    case rest =>
      obtain ⟨hI, hu⟩ := hcut
      have HhI := Lib.hid hI; clear hI
      have Hhu := Lib.hid hu; clear hu
      go_wp2_with fail
      go_ret
      exact ⟨rfl, HhI.out, Hhu.out⟩

theorem rk_Step {W w : World} {base rb gm gs : Nat} {x : Mk} {v : Value} {tt : List (List Int)} (h : IsRk w base rb gm gs x) (hx : Ok x) (hM : MatIn W v tt) (hW : Below W.heap.size W w) (hB : W.heap.size ≤ base) (hlb : tt.length ≤ 1000 ∧ ∀ l ∈ tt, l.length ≤ 1000) :
    Calls Try.prog 68 #[.pointer (some ⟨rb, 0, none⟩), v] w (RkPost w base rb gm gs (x.step (refsOf tt)) (.bool (!x.done))) := by
  by_cases hl : x.l = []
  · exact rk_rest h hl _
  · have hd : x.done = false := by
      cases hd : x.done
      · rfl
      · exact absurd ((done_iff x).1 hd).1 hl
    rw [hd]
    exact rk_took h hx hl hM hW hB hlb
end Go.Proofs.Ythaicpjgmplgcaa
