/- What is reached stays as it was, and just that stays. No condition. -/
import Derived.Test.YtcnbcidbbeadcaaVkB
import Derived.SizedLaws
import Derived.Deep.RegionWith
import Derived.Deep.DeepCutAuto
import Derived.Deep.Cut
import Derived.Deep.CutBlock
namespace Go.Proofs.Ytcnbcidbbeadcaa.vheapKeeps
open Go.ChangeShapes Go.WideShapes Go.ChangeAt Go.RowKit Go.Deep
set_option linter.unusedVariables false
set_option maxRecDepth 100000 in
set_option maxHeartbeats 4000000 in
theorem walk {W : World} (lv : Value) (lx : List Cal × (Nat → List Int)) (hl : CalsIn9 W lv lx) (fv : Value) (fs : List Int) (hfs : IntsIn W fv .i64 fs ∧ fs.length * 8 ≤ 140737488351232) :
    Calls Try.prog 14 #[lv, fv] W (LawPost W) := by
  obtain ⟨l, fl⟩ := lx
  obtain ⟨⟨hfI, hfw⟩, hfb⟩ := hfs
  have hAw := Lib.hid awake14
  obtain ⟨la, lc, rfl, l1⟩ := hl.1.shape
  simp only at l1
  obtain ⟨fa, fc, rfl⟩ : ∃ fa fc, fv = .slice fa fs.length fc := by
    obtain ⟨fa, fc, h1, -⟩ := hfI
    exact ⟨fa, fc, h1⟩
  have hfl : (fs.length : Int) ≤ 9223372036854775807 := by omega
  by_cases h20 : (20 : Int) < fs.length
  · clear hl hfI hfw hfb
    go_enter Try.func14, Try.ntmps14
    go_wp2_with (go_at_call 28; (with_reducible refine (hAw.out _).mono ?_); rintro e w9 ⟨rfl, hu9⟩)
    go_ret
    exact ⟨rfl, hu9.none⟩
  · have k14 := Lib.hid kinds14
    have k14U := Lib.hid kinds14U
    have hNw := Lib.hid (fun w1 v (hm : MatIn w1 v ks14) => vh_New v ks14 w1 hm (by decide) (by decide))
    have HhC := Lib.hid hl.1
    have HhOk := Lib.hid hl.okAt
    have HfI := Lib.hid hfI
    have Hfw := Lib.hid hfw
    have hf20 : fs.length ≤ 20 := by omega
    clear hl hfI hfw hfb
    go_enter Try.func14, Try.ntmps14
    go_upto_block 0 with (first
      | (go_at_call 24; (with_reducible refine (k14.out _).mono ?_); rintro e w1 ⟨v, rfl, hm1, hu1⟩; obtain ⟨va, vc, rfl⟩ := mat_shape hm1; have hN2b := Lib.hid (hNw.out w1 _ hm1); have Hu1 := Lib.hid hu1; clear hm1 hu1 k14)
      | (go_at_call 23; (with_reducible refine hN2b.out.mono ?_); rintro e w2 ⟨b, base, kv, rfl, hlo2, h2, hu2⟩; have H2 := Lib.hid h2; have Hu2 := Lib.hid (Hu1.out.trans hu2); have Hlo := Lib.hid (Nat.le_trans Hu1.out.size hlo2); clear h2 hN2b hlo2 hu2)
      | (go_at_call 24; (with_reducible refine (k14U.out _).mono ?_); rintro e w3 ⟨v3, rfl, hm3, hu3⟩; obtain ⟨va3, vc3, rfl⟩ := mat_shape (hm3 w3 (fun _ => False) (Upd.refl _ _) (fun _ x => x.elim)); have H3 := Lib.hid (H2.out.still hu3); have Hm3 := Lib.hid hm3; have Hu3 := Lib.hid (Hu2.out.trans hu3); clear hm3 hu3))
    rw [vo_zero]
    have hst0 : Duo W (fun _ => False) b base w3.heap.size kv (.slice va3 ks14.length vc3) (w3.alloc (.cells (voC (.slice va3 ks14.length vc3) no14 (fun _ => 0) (fun _ => .slice none 0 0)).toArray 75)) :=
      ⟨no14, Mid.start H3.out Hlo.out Hu3.out (fun w'' T u hT => Hm3.out w'' T u (fun j hj => by have := H2.out.blk.lt; have := hT j hj; omega)), KOk.no⟩
    generalize w3.alloc (.cells (voC (.slice va3 ks14.length vc3) no14 (fun _ => 0) (fun _ => .slice none 0 0)).toArray 75) = w4 at *
    generalize w3.heap.size = m at *
    generalize (voC (.slice va3 ks14.length vc3) no14 (fun _ => 0) (fun _ => .slice none 0 0)).toArray = VC at *
    have Hst0 := Lib.hid hst0
    clear hst0 k14U hNw H2 H3 Hm3 Hu1 Hu2 Hu3 Hlo
    go_cut [7] (fun i wx => Duo W (fun _ => False) b base m kv (.slice va3 ks14.length vc3) wx)
    case first =>
      go_wp2_with fail
      go_loopw [7] (fun i wr => ∃ k : Nat, i = .int .i64 k ∧ k ≤ 80 ∧ k ≤ l.length ∧ Duo W (fun _ => False) b base m kv (.slice va3 ks14.length vc3) wr) (fun i _ => (80 - intOf i).toNat)
      case atStart => exact ⟨0, rfl, Nat.zero_le _, Nat.zero_le _, Hst0.out⟩
      case round =>
        obtain ⟨k, rfl, hk, hkl, hst⟩ := hrel
        clear Hst0
        by_cases hk2 : k = l.length ∨ k = 80
        · have key : (¬ ((k : Int) < l.length)) ∨ (((k : Int) < l.length) ∧ ¬ ((k : Int) < 80)) := by omega
          have Hhst := Lib.hid hst; clear hst
          clear hk2
          rcases key with c1 | ⟨c1, c2⟩
          all_goals
            go_wp2_with fail
            go_meet
            exact Hhst.out
        · have c1 : (k : Int) < l.length := by omega
          have c2 : (k : Int) < 80 := by omega
          obtain ⟨b0, off, ga, gc, hix, hc⟩ := HhC.out.at (show k < l.length by omega)
          have hok := (HhOk.out k).1
          have hup : Upd (fun _ => False) W wr := by
            obtain ⟨o, h1, -⟩ := hst
            exact h1.up
          obtain ⟨y0, y1, y2, y3, y4, y5, y6, y7, y8, -⟩ := hc wr hup
          generalize l.getD k noCal = cc at *
          generalize (fl k).length = gn at *
          obtain ⟨cd, co, cf, ⟨xk, xn, xre, xim, xr⟩⟩ := cc
          simp only at y0 y1 y2 y3 y4 y5 y6 y7 hok
          have hMk := Lib.hid (do_Make hst co cf xk xn xre xim xr ga gn gc)
          have hSe := Lib.hid (do_Set hst co cf xk xn xre xim xr hok ga gn gc)
          have Hhst := Lib.hid hst; clear hst
          clear hc hk2 hok hup
          by_cases h0 : cd = 0
          · subst h0
            go_wp2_with (go_at_call 42; (with_reducible refine hMk.out.mono ?_); rintro e w5 ⟨rfl, h5, -⟩; have H5 := Lib.hid h5; clear h5)
            go_roundw
            case rel => exact ⟨k + 1, by go_num, by omega, by omega, H5.out⟩
            case measure => simp [intOf]; omega
          · have e0 : (cd == 0) = false := by rw [beq_eq_false_iff_ne]; exact h0
            by_cases h2 : cd = 2
            · subst h2
              go_wp2_with (go_at_call 42; (with_reducible refine hSe.out.mono ?_); rintro e w5 ⟨rfl, h5, -⟩; have H5 := Lib.hid h5; clear h5)
              go_roundw
              case rel => exact ⟨k + 1, by go_num, by omega, by omega, H5.out⟩
              case measure => simp [intOf]; omega
            · have e2 : (cd == 2) = false := by rw [beq_eq_false_iff_ne]; exact h2
              clear h0 h2
              go_wp2_with fail
              go_roundw
              case rel => exact ⟨k + 1, by go_num, by omega, by omega, Hhst.out⟩
              case measure => simp [intOf]; omega
    case rest =>
      obtain ⟨wq, hwq⟩ : ∃ wq : World, wq = wc := ⟨_, rfl⟩
      subst hwq
      obtain ⟨o, hmid, hko⟩ := hcut
      have Hmid := Lib.hid hmid
      have Hko := Lib.hid hko
      have hup := Lib.hid hmid.up
      have r15 := Lib.hid hmid.refs15
      have r64 := Lib.hid hmid.refsI
      have f15 := hmid.facts.1
      have hAt := Lib.hid (fun w' (u : Upd (fun _ => False) wq w') x => (hmid.still u).vAt x)
      have hRf := Lib.hid (fun w' (u : Upd (fun _ => False) wq w') x => (hmid.still u).vRefs f15 x)
      have hall := Lib.hid hmid.hAll
      have hal64 : (allV o).length ≤ 64 := allTo_len o 64
      have hfs64 : ∀ x ∈ fs, I64 x := fun x hx => wf_i64 (Hfw.out x hx)
      have Hhfs64 := Lib.hid hfs64; clear hfs64
      clear hmid HhC HhOk Hst0
      have hmm := @run_makeMap Try.prog
      go_upto_block 2 with (first
        | (go_at_call 33; (with_reducible refine hall.out.mono ?_); rintro e w5 ⟨ba, bc, rfl, ho5, hu5⟩; have Ho5 := Lib.hid ho5; have Hu5 := Lib.hid hu5; have hI5 := ints_upd HfI.out ((hup.out.trans hu5).alloc (.map #[] 0)); clear ho5 hu5)
        | (at_builtin; refine wpList_appendOnto rfl _ _ 52 3 rfl (.int .i64 0) 8 Try.underlying52 infoInt rfl (w5.heap.size + 1) (.slice none 0 0) 0 [] rfl (World.ownsRow_nil _ _ _ _) fa fs.length fc .i64 fs rfl rfl hI5 (by omega) (by decide) (by simp) ?_; intro ra rc w6 ho6 hg6; rw [Nat.zero_add] at ho6 ⊢; have Ho6 := Lib.hid ho6; have Hg6 := Lib.hid hg6; clear ho6 hg6))
      have hs0 : SrSt wq (w5.alloc (.map #[] 0)) w5.heap.size o fs 0 fs [] (.slice ra fs.length rc) w6 := by
        have u6 : Upd (fun _ => False) (w5.alloc (.map #[] 0)) w6 := (Upd.refl _ _).grown Hg6.out (fun j e => by cases e)
        have hz := Hu5.out.size
        refine ⟨(KSet.new w5).upd u6 (fun x => x), by simpa [ints] using Ho6.out, SInv.start o fs, Hhfs64.out, hz, (Hu5.out.alloc _).trans u6, u6.mono (fun _ _ x => x.elim)⟩
      clear hmm
      have hU5b := Lib.hid (show Upd (fun _ => False) w5 (w5.alloc (.map #[] 0)) from (Upd.refl _ _).alloc _)
      generalize hw5 : w5.alloc (.map #[] 0) = w5b at *
      generalize hbm : w5.heap.size = bm at *
      have Hs0 := Lib.hid hs0
      clear hs0 hI5 Ho6 Hg6 hall
      go_cut [10, 11] (fun rv kv wx => ∃ (row S : List Int) (ra : Option Addr) (rc : Nat), rv = .slice ra row.length rc ∧ SrSt wq w5b bm o fs row.length row S (.slice ra row.length rc) wx)
      case first =>
        go_wp2_with fail
        go_loopw [10, 11] (fun rv kk wr => ∃ (k : Nat) (row S : List Int) (ra : Option Addr) (rc : Nat), kk = .int .i64 k ∧ rv = .slice ra row.length rc ∧ SrSt wq w5b bm o fs k row S (.slice ra row.length rc) wr) (fun _ kk _ => (2000 - intOf kk).toNat)
        case atStart => exact ⟨0, fs, [], ra, rc, rfl, rfl, Hs0.out⟩
        case round =>
          obtain ⟨k, row, S, ra2, rc2, rfl, rfl, hst⟩ := hrel
          have hS64 := hst.inv.ok.len
          have hln := hst.inv.ln
          have hle := hst.inv.le
          have hrl : (row.length : Int) ≤ 1000 := by omega
          clear Hs0
          by_cases hk2 : k = row.length
          · have e0 : ¬ ((k : Int) < row.length) := by omega
            rw [hk2] at hst
            have Hhst := Lib.hid hst; clear hst
            clear hk2
            go_wp2_with fail
            go_meet
            exact ⟨row, S, ra2, rc2, rfl, Hhst.out⟩
          · have hk3 : k < row.length := by omega
            have e0 : (k : Int) < row.length := by omega
            have e1 : (k : Int) < 2000 := by omega
            have hI := ownsRow_intsR hst.own
            obtain ⟨b1, o1, hix, hb1, hy⟩ := RowsIn.index (P := Try.prog) hI Try.underlying52 (by kernel_rfl) (by kernel_rfl) hk3
            simp only [Nat.mul_one] at hix hy
            have hy0 := hy 0 (by decide)
            simp only [Nat.add_zero] at hy0
            change wr.cell? _ = some (.int .i64 (row.getD k 0)) at hy0
            have hxr : row.getD k 0 ∈ row := by
              have : row.getD k 0 = row[k] := by simp [List.getD, hk3]
              rw [this]
              exact List.getElem_mem hk3
            have hwf := Lib.hid (wf_of_i64 (hst.i64 _ hxr))
            have hks := Lib.hid hst.ks
            have hat := Lib.hid (hAt.out wr hst.up (row.getD k 0))
            have hps := Lib.hid (hst.pass hk3)
            have htk := Lib.hid (fun w7 w8 w9 hn hu hk7 u7 u8 a' c' ho9 hg9 => hst.take (w7 := w7) (w8 := w8) (w9 := w9) r15.out r64.out hk3 hn hu hk7 u7 u8 (a' := a') (c' := c') ho9 hg9)
            have hSb := Lib.hid (show S.length ≤ 100000 from by omega)
            have hc7 := Lib.hid (fun w7 (u : Upd (fun j => j = bm) wr w7) => show w7.cell? ⟨b1, o1 + k, none⟩ = some (.int .i64 (row.getD k 0)) ∧ w7.ownsRow (bm + 1) 3 1 (.slice ra2 row.length rc2) row.length (ints row) ∧ Upd (fun _ => False) wq w7 from by
              have ho7 := ownsRow_upd hst.own u (fun j hj (e : j = bm) => by omega)
              refine ⟨?_, ho7, hst.up.own u (fun j (e : j = bm) => by have := hst.lo; omega)⟩
              have hI7 := ownsRow_intsR ho7
              obtain ⟨b2, o2, hix2, hb2, hy2⟩ := RowsIn.index (P := Try.prog) hI7 Try.underlying52 (by kernel_rfl) (by kernel_rfl) hk3
              have q1 := hix wr
              have q2 := hix2 wr
              rw [q1] at q2
              simp only [Nat.mul_one] at q2 hy2
              injection q2 with q3
              injection q3 with q4
              injection q4 with q5
              injection q5 with q6 q7
              subst q6
              rw [q7]
              have := hy2 0 (by decide)
              simpa using this)
            generalize hxE : row.getD k 0 = x at *
            have r15x := r15.out x
            have hrf := Lib.hid (fun w' u => hRf.out w' u x)
            have hbz := Lib.hid (show bm < wr.heap.size from hst.ks.lt)
            generalize hrsE : refsV o x = rs at *
            clear hst hI hy hxr hxE
            by_cases hmem : x ∈ S
            · have hp := Lib.hid (hps.out (Or.inl hmem))
              have hif : (if x ∈ S then (1 : Int) else 0) = 1 := if_pos hmem
              clear hk2 htk hat hps hc7 hmem
              go_wp2_with (at_lookup; refine wpList_slook rfl _ _ rfl bm S hks.out rfl x hwf.out rfl ?_; rw [hif])
              go_roundw
              case rel => exact ⟨k + 1, row, S, ra2, rc2, by go_num, rfl, hp.out⟩
              case measure => simp [intOf]; omega
            · have hif : (if x ∈ S then (1 : Int) else 0) = 0 := if_neg hmem
              cases hfv : findV o x with
              | none =>
                have hp := Lib.hid (hps.out (Or.inr (by rw [hfv]; rfl)))
                have hat2 := Lib.hid (show Calls Try.prog 45 #[.pointer (some ⟨m, 0, none⟩), .int .i64 x] wr (Same wr (.int .i64 (-1))) from by
                  have := hat.out
                  unfold atV at this
                  rw [hfv] at this
                  exact this)
                clear hk2 htk hat hps hc7 hmem hfv
                go_wp2_with (first
                  | (at_lookup; refine wpList_slook rfl _ _ rfl bm S hks.out rfl x hwf.out rfl ?_; rw [hif])
                  | (go_at_call 45; (with_reducible refine hat2.out.mono ?_); rintro e w7 ⟨rfl, rfl⟩))
                go_roundw
                case rel => exact ⟨k + 1, row, S, ra2, rc2, by go_num, rfl, hp.out⟩
                case measure => simp [intOf]; omega
              | some i =>
                have hat2 := Lib.hid (show Calls Try.prog 45 #[.pointer (some ⟨m, 0, none⟩), .int .i64 x] wr (Same wr (.int .i64 (i : Int))) from by
                  have := hat.out
                  unfold atV at this
                  rw [hfv] at this
                  exact this)
                have hus : (findV o x).isSome = true := by rw [hfv]; rfl
                have hi0 : ¬ (i : Int) < 0 := by omega
                have htk2 := Lib.hid (fun w7 w8 w9 hk7 u7 u8 a' c' ho9 hg9 => htk.out w7 w8 w9 hmem hus hk7 u7 u8 a' c' ho9 hg9)
                have hn9 := Lib.hid (show row.length + rs.length ≤ 1099511627776 from by omega)
                have hll : (row ++ rs).length = row.length + rs.length := List.length_append
                have hme := Lib.hid (show Go.RowKit.wrap64 ((k : Int) + 1) = ((k + 1 : Nat) : Int) from by unfold Go.RowKit.wrap64; omega)
                have hmu := Lib.hid (show k < 2000 from by omega)
                have Hhmem := Lib.hid hmem; clear hmem
                have Hhll := Lib.hid hll; clear hll
                clear hk2 htk hat hps hfv hus
                go_wp2_with (first
                  | (at_lookup; refine wpList_slook rfl _ _ rfl bm S hks.out rfl x hwf.out rfl ?_; rw [hif])
                  | (go_at_call 45; (with_reducible refine hat2.out.mono ?_); rintro e w7 ⟨rfl, rfl⟩; clear hif hrl hln hle hS64 r15x hfl l1 h20 hf20 hal64 e1)
                  | (at_mapUpdate; refine wpList_sput rfl _ _ _ rfl bm S hks.out hSb.out rfl x hwf.out Hhmem.out rfl rfl ?_; intro w7 hk7 hu7; obtain ⟨y7, ho7, hup7⟩ := hc7.out w7 hu7; have hrf7 := Lib.hid (hrf.out w7 hup7); have Hk7 := Lib.hid hk7; have Hu7 := Lib.hid hu7; have Ho7 := Lib.hid ho7; have hz7 := Lib.hid hu7.size; clear hk7 hu7 ho7 hup7)
                  | (go_at_call 46; (with_reducible refine hrf7.out.mono ?_); rintro e w8 ⟨pa, pc, rfl, ho8, hu8⟩; have hI8 := ownsRow_intsR ho8; have hO8 := ownsRow_upd Ho7.out hu8 (fun _ _ x => x); have Hu8 := Lib.hid hu8; have hz8 := Nat.lt_of_lt_of_le hbz.out (Nat.le_trans hz7.out hu8.size); clear ho8 hu8)
                  | (at_builtin; refine wpList_appendOnto rfl _ _ 52 3 rfl (.int .i64 0) 8 Try.underlying52 infoInt rfl (bm + 1) _ _ _ rfl hO8 pa rs.length pc .i64 rs rfl rfl hI8 hn9.out (by decide) hz8 ?_; intro a9 c9 w9 ho9 hg9; have H9 := Lib.hid (htk2.out w7 w8 w9 Hk7.out Hu7.out Hu8.out a9 c9 ho9 hg9); clear ho9 hg9))
                go_roundw
                case rel => exact ⟨k + 1, row ++ rs, x :: S, a9, c9, by rw [hme.out], by rw [Hhll.out], H9.out⟩
                case measure => have := hmu.out; rw [hme.out]; simp [intOf]; omega
      case rest =>
        obtain ⟨row, S, ra3, rc3, rfl, hst⟩ := hcut
        obtain ⟨hSm, hSl⟩ := hst.inv.fin
        obtain ⟨hg1, hg2⟩ := gone_count o (keepV o fs) (keepV_mem o fs).1
        rw [← hSl] at hg1 hg2
        have hKp := Lib.hid ((Hmid.out.guard hst.up (fun g hg => Or.inr hg) : Mid W (fun g => wq.heap.size ≤ g ∧ g < wc.heap.size) b base m kv (.slice va3 ks14.length vc3) o o wc).hKeep (.slice fa fs.length fc) fs (ints_upd HfI.out (hup.out.trans hst.up)))
        have hks := Lib.hid hst.ks
        have hSb := Lib.hid (show S.length ≤ 64 from by omega)
        generalize hgd : (fun g => wq.heap.size ≤ g ∧ g < wc.heap.size) = gd at *
        have hfb := Lib.hid (show ∀ w7, Mid W gd b base m kv (.slice va3 ks14.length vc3) (dropV o (keepV o fs) 64) o w7 → Upd (fun j => ¬ gd j) wc w7 → KlSt W gd b base m kv (.slice va3 ks14.length vc3) o (keepV o fs) S bm (.slice ba (allV o).length bc) w7 from by
          rw [← hgd]
          intro w7 hm hu
          exact hst.kp (K := keepV o fs) hbm hU5b.out Ho5.out hm hu)
        clear hst hgd
        generalize goneTo o (keepV o fs) 64 = gN at *
        have hLn := Lib.hid (fun w7 (h : KlSt W gd b base m kv (.slice va3 ks14.length vc3) o (keepV o fs) S bm (.slice ba (allV o).length bc) w7) => show Calls Try.prog 27 #[.pointer (some ⟨b, 0, none⟩)] w7 (RetU w7 (.int .i64 (S.length : Int))) from by
          have := h.mid.hLen
          rw [hg2] at this
          exact this)
        have hAt := Lib.hid (fun w7 (h : KlSt W gd b base m kv (.slice va3 ks14.length vc3) o (keepV o fs) S bm (.slice ba (allV o).length bc) w7) x i (hf : findV o x = some i) => show Calls Try.prog 45 #[.pointer (some ⟨m, 0, none⟩), .int .i64 x] w7 (Same w7 (.int .i64 (i : Int))) from by
          have := h.mid.vAt x
          unfold atV at this
          rw [hf] at this
          exact this)
        have hKd := Lib.hid (fun w7 (h : KlSt W gd b base m kv (.slice va3 ks14.length vc3) o (keepV o fs) S bm (.slice ba (allV o).length bc) w7) x i (hf : findV o x = some i) (hx : x ∉ S) => show Calls Try.prog 39 #[.pointer (some ⟨b, 0, none⟩), .int .i64 x] w7 (RetU w7 (.tuple #[.int .i64 0, .int .i64 2])) from by
          have := h.mid.hKind x
          rw [drop_gone hf (fun e => hx ((hSm x).2 e))] at this
          exact this)
        have hGt := Lib.hid (fun w7 (h : KlSt W gd b base m kv (.slice va3 ks14.length vc3) o (keepV o fs) S bm (.slice ba (allV o).length bc) w7) x i (hf : findV o x = some i) (hx : x ∈ S) (n : Nat) (hn : n < (o i).f.length) => show Calls Try.prog 35 #[.pointer (some ⟨b, 0, none⟩), .int .i64 x, .int .i64 (n : Int)] w7 (RetU w7 (.tuple #[((o i).f.getD n zeroV).v, .int .i64 0])) from by
          have := h.mid.hGet x (n : Int)
          rw [drop_kept hf ((hSm x).1 hx) n hn] at this
          exact this)
        have hwr : IntKind.i64.wrap (((allV o).length : Int) - (S.length : Int)) = (gN : Int) := by rw [IntKind.wrap_i64]; omega
        have hal : ((allV o).length : Int) ≤ 64 := by omega
        have hat0 := Lib.hid (fun n hn => all_at o n hn)
        have Hf15 := Lib.hid f15; clear f15
        clear hSm hSl hg1 hg2 hRf r15 r64
        go_wp2_with (first
          | (go_at_call 44; (with_reducible refine hKp.out.mono ?_); rintro e w7 ⟨rfl, hm7, hu7⟩; have h7 := hfb.out w7 hm7 hu7; have L7 := Lib.hid (hLn.out w7 h7); have r7 := h7.ks.runLen 3; have S7 := Lib.hid h7; clear hm7 hu7 h7)
          | (go_at_call 27; (with_reducible refine L7.out.mono ?_); rintro e w8 ⟨rfl, hu8⟩; have r8 := (S7.out.still hu8).ks.runLen 3; have S8 := Lib.hid (S7.out.still hu8); clear hu8))
        clear hKp hfb
        have S8b := Lib.hid S8.out
        go_loopw [125] (fun i wr => ∃ n : Nat, i = .int .i64 n ∧ n ≤ (allV o).length ∧ KlSt W gd b base m kv (.slice va3 ks14.length vc3) o (keepV o fs) S bm (.slice ba (allV o).length bc) wr) (fun i _ => ((allV o).length - intOf i).toNat)
        case atStart => exact ⟨0, rfl, Nat.zero_le _, S8b.out⟩
        case round =>
          obtain ⟨n, rfl, hn, hst⟩ := hrel
          clear S8 S8b S7 L7 r7 r8
          by_cases hn2 : n = (allV o).length
          · have e0 : ¬ ((n : Int) < (allV o).length) := by omega
            have Hhst := Lib.hid hst; clear hst
            clear hn2
            go_wp2_with (go_at_call 28; (with_reducible refine (hAw.out _).mono ?_); rintro e w11 ⟨rfl, hu11⟩; have H11 := Lib.hid (Hhst.out.mid.up.trans hu11); clear hu11)
            go_ret
            exact ⟨rfl, H11.out.none⟩
          · have hn3 : n < (allV o).length := by omega
            have e0 : (n : Int) < (allV o).length := by omega
            obtain ⟨b1, o1, hix, hb1, hy⟩ := RowsIn.index (P := Try.prog) hst.bf Try.underlying52 (by kernel_rfl) (by kernel_rfl) hn3
            simp only [Nat.mul_one] at hix hy
            have hy0 := hy 0 (by decide)
            simp only [Nat.add_zero] at hy0
            change wr.cell? _ = some (.int .i64 ((allV o).getD n 0)) at hy0
            obtain ⟨i, hi, hu, hf⟩ := hat0.out n hn3
            have hA := Lib.hid (hAt.out wr hst _ i hf)
            have hK := fun hx => hKd.out wr hst _ i hf hx
            have hG := fun w7 h7 hx => hGt.out w7 h7 _ i hf hx
            have hks2 := Lib.hid hst.ks
            obtain ⟨ga, gc, hc1, hV⟩ := hst.mid.vRow i hi hu
            have h15 := Hf15.out i hi hu
            have hkk := Hko.out i
            have hmi : (i : Int) < 64 := by omega
            have hwf := Lib.hid (wf_of_i64 (show I64 ((allV o).getD n 0) from by obtain ⟨h1, h2⟩ := findV_isSome (o := o) (x := (allV o).getD n 0) (by rw [hf]; rfl); exact ⟨by omega, by omega⟩))
            generalize (allV o).getD n 0 = x at *
            generalize (o i).f = f at *
            have hhlo : wr.cell? ⟨m, 129 + i, none⟩ = some (.slice ga f.length gc) := hc1
            have Hhst := Lib.hid hst; clear hst
            have HhV := Lib.hid hV; clear hV
            have Hhkk := Lib.hid hkk; clear hkk
            clear hy hf hu hc1 hn2
            by_cases hx : x ∈ S
            · have hif : (if x ∈ S then (1 : Int) else 0) = 1 := if_pos hx
              have hG := Lib.hid (fun w7 h7 => hG w7 h7 hx)
              have hi2 : ¬ (i : Int) < 0 := by omega
              have hfl2 : (f.length : Int) ≤ 15 := by omega
              clear hK hx h15 hi
              go_wp2_with (first
                | (go_at_call 45; (with_reducible refine hA.out.mono ?_); rintro e w7 ⟨rfl, rfl⟩)
                | (at_lookup; refine wpList_slook rfl _ _ rfl bm S hks2.out rfl x hwf.out rfl ?_; rw [hif]))
              obtain ⟨wo, hwo⟩ : ∃ wo : World, wo = wr := ⟨_, rfl⟩
              subst hwo
              have Hn3 := Lib.hid hn3
              have He0 := Lib.hid e0
              clear hn3 e0 hy0 hix hhlo hA hif
              go_loopw [151] (fun i wr => ∃ q : Nat, i = .int .i64 q ∧ q ≤ f.length ∧ Upd (fun _ => False) wo wr) (fun i _ => (f.length - intOf i).toNat)
              case atStart => exact ⟨0, rfl, Nat.zero_le _, Upd.refl _ _⟩
              case round =>
                obtain ⟨q, rfl, hq, hu⟩ := hrel
                by_cases hq2 : q = f.length
                · have e1 : ¬ ((q : Int) < f.length) := by omega
                  have hn3 := Hn3.out
                  have Hhu := Lib.hid hu; clear hu
                  clear hq2
                  go_wp2_with fail
                  go_roundw
                  case rel => exact ⟨n + 1, by go_num, by omega, Hhst.out.still Hhu.out⟩
                  case measure => simp [intOf]; omega
                · have hq3 : q < f.length := by omega
                  have e1 : (q : Int) < f.length := by omega
                  obtain ⟨b2, o2, hix, hb2, hy⟩ := HhV.out.index (P := Try.prog) Try.underlying23 (by kernel_rfl) (by kernel_rfl) hq3
                  have y0 := (hu.none.cell (p := ⟨b2, o2 + q * 5 + 0, none⟩) hb2).trans (hy 0 (by decide))
                  have y1 := (hu.none.cell (p := ⟨b2, o2 + q * 5 + 1, none⟩) hb2).trans (hy 1 (by decide))
                  have y2 := (hu.none.cell (p := ⟨b2, o2 + q * 5 + 2, none⟩) hb2).trans (hy 2 (by decide))
                  have y3 := (hu.none.cell (p := ⟨b2, o2 + q * 5 + 3, none⟩) hb2).trans (hy 3 (by decide))
                  have y4 := (hu.none.cell (p := ⟨b2, o2 + q * 5 + 4, none⟩) hb2).trans (hy 4 (by decide))
                  simp only [Nat.add_zero] at y0
                  have hzin := Hhkk.out (f.getD q zeroV) (by
                    have : f.getD q zeroV = f[q] := by simp [List.getD, hq3]
                    rw [this]
                    exact List.getElem_mem hq3)
                  have hg := fun wr h => hG.out wr h q hq3
                  generalize f.getD q zeroV = z at *
                  generalize o2 + q * 5 = p2 at *
                  have hsv := ref_SameValue z z
                  rw [sameV_refl hzin.1 hzin.2] at hsv
                  obtain ⟨zk, zn, zre, zim, zr⟩ := z
                  change wr.cell? _ = some (.int .i64 zk) at y0
                  change wr.cell? _ = some (.int .i64 zn) at y1
                  change wr.cell? _ = some (.int .u64 (zre : Int)) at y2
                  change wr.cell? _ = some (.int .u64 (zim : Int)) at y3
                  change wr.cell? _ = some (.int .i64 zr) at y4
                  have hsv := Lib.hid (show ∀ w, Calls Try.prog 41 #[.agg #[.int .i64 zk, .int .i64 zn, .int .u64 (zre : Int), .int .u64 (zim : Int), .int .i64 zr], .agg #[.int .i64 zk, .int .i64 zn, .int .u64 (zre : Int), .int .u64 (zim : Int), .int .i64 zr]] w (RetU w (.bool true)) from hsv)
                  have hg := Lib.hid (show ∀ wr, KlSt W gd b base m kv (.slice va3 ks14.length vc3) o (keepV o fs) S bm (.slice ba (allV o).length bc) wr → Calls Try.prog 35 #[.pointer (some ⟨b, 0, none⟩), .int .i64 x, .int .i64 (q : Int)] wr (RetU wr (.tuple #[.agg #[.int .i64 zk, .int .i64 zn, .int .u64 (zre : Int), .int .u64 (zim : Int), .int .i64 zr], .int .i64 0])) from hg)
                  have hB := Lib.hid (Blk.new wr [.int .i64 zk, .int .i64 zn, .int .u64 (zre : Int), .int .u64 (zim : Int), .int .i64 zr] 26)
                  have G1 := Lib.hid (hg.out _ ((Hhst.out.still hu).still ((Upd.refl _ _).alloc (.cells #[.int .i64 zk, .int .i64 zn, .int .u64 (zre : Int), .int .u64 (zim : Int), .int .i64 zr] 26))))
                  have ua := Lib.hid (show Upd (fun _ => False) wr (wr.alloc (.cells #[.int .i64 zk, .int .i64 zn, .int .u64 (zre : Int), .int .u64 (zim : Int), .int .i64 zr] 26)) from (Upd.refl _ _).alloc _)
                  have Hhu := Lib.hid hu; clear hu
                  clear hy hzin hq2 hg
                  go_wp2_with (first
                    | (go_at_call 35; (with_reducible refine G1.out.mono ?_); rintro e w4 ⟨rfl, hu4⟩; have hB4 := Lib.hid ((hB.out.upd hu4 (fun h => h)).alloc (.cells #[.int .i64 zk, .int .i64 zn, .int .u64 (zre : Int), .int .u64 (zim : Int), .int .i64 zr] 26)); have q0 := hB4.out.cell 0 rfl; have q1 := hB4.out.cell 1 rfl; have q2 := hB4.out.cell 2 rfl; have q3 := hB4.out.cell 3 rfl; have q4 := hB4.out.cell 4 rfl; have Hu4 := Lib.hid ((ua.out.trans hu4).alloc (.cells #[.int .i64 zk, .int .i64 zn, .int .u64 (zre : Int), .int .u64 (zim : Int), .int .i64 zr] 26)); clear hu4)
                    | (go_at_call 41; (with_reducible refine (hsv.out _).mono ?_); rintro e w5 ⟨rfl, hu5⟩; have Hu5 := Lib.hid (Hu4.out.trans hu5); clear hu5))
                  go_roundw
                  case rel => exact ⟨q + 1, by go_num, by omega, Hhu.out.trans Hu5.out⟩
                  case measure => simp [intOf]; omega
            · have hif : (if x ∈ S then (1 : Int) else 0) = 0 := if_neg hx
              have hK := Lib.hid (hK hx)
              clear hG hx hhlo HhV Hhkk hi hmi h15
              go_wp2_with (first
                | (go_at_call 45; (with_reducible refine hA.out.mono ?_); rintro e w7 ⟨rfl, rfl⟩)
                | (at_lookup; refine wpList_slook rfl _ _ rfl bm S hks2.out rfl x hwf.out rfl ?_; rw [hif])
                | (go_at_call 39; (with_reducible refine hK.out.mono ?_); rintro e w8 ⟨rfl, hu8⟩; have H8 := Lib.hid (Hhst.out.still hu8); clear hu8))
              go_roundw
              case rel => exact ⟨n + 1, by go_num, by omega, H8.out⟩
              case measure => simp [intOf]; omega

theorem own : ownKnob Try.prog.godebug = none := by kernel_rfl
theorem laidOut : laidOutB Try.prog = true := by kernel_rfl
set_option maxRecDepth 100000 in
theorem lifted (os : Os) (started : os.Started) (H : Type) (enc : TypeId × Value → H) :
    ReturnsInHanded {} Try.checked os 14 .any (Rows.vheapKeepsSpec.pre6 enc Try.prog Try.f14 Rows.vheapKeepsRow.domain false) (Rows.vheapKeepsSpec.post enc Try.prog Try.f14 false true false false) := by
  refine returnsInHanded_of_change_sized (C := Try.checked) own started (by kernel_rfl) Try.func14
    (ChangeSpec.witness6 (enc := enc) (C := Try.checked) false ⟨#[], #[.slice none 0 0, .slice none 0 0], []⟩ 8 (by kernel_rfl) (by kernel_rfl) (by kernel_rfl) (by kernel_rfl)) ?_
  intro W base args ds gs before hval0 hW _ hsz0 _
  have hsz : (DataW.weightsEach Try.prog (Try.f14.params.toList ++ Rows.vheapKeepsSpec.plain.varTypes Try.prog) (ds ++ gs)).all (· ≤ reachBytes) = true := hsz0
  clear hsz0
  have hval : ∀ (j : Nat) t v, Try.f14.params[j]? = some t → args[j]? = some v → Value.okWide Try.prog W .any base t v := hval0
  have hW' := hW
  obtain ⟨p, q, hA0, hV, rfl, _, _⟩ := hW
  have hA : DataW.TrodAll enc Try.prog W 0 (fun _ => true) true Try.f14.params.toList args.toList ds p := hA0
  rw [Try.params14] at hA hval hsz
  obtain ⟨v0, vs0, d0, ds0, p0, q0, hargs, rfl, rfl, h0, r0⟩ := trodAll_cons hA
  obtain ⟨v1, vs1, d1, ds1, p1, q1, rfl, rfl, rfl, h1, r1⟩ := trodAll_cons r0
  obtain ⟨rfl, rfl, rfl⟩ := trodAll_nil r1
  obtain rfl : args = #[v0, v1] := by cases args; simp_all
  obtain ⟨rfl, rfl⟩ := trodVars_none hV
  clear hA0 hval0
  simp only [List.append_nil] at hW'
  have hlt : ∀ x, (x ∈ p0 ∨ x ∈ p1) → x.block < W.heap.size := fun x hx => by simpa using hW'.lt x (by simpa using hx)
  have k0 : ∀ (W' : World), Below W.heap.size W W' → DataW.Trod enc Try.prog W' 0 (fun b => decide (b < W.heap.size)) true 51 v0 d0 p0 :=
    fun W' hn => Below.trod laidOut (by kernel_rfl) (of_decide_eq_true (by kernel_rfl)) h0 hn (fun x hx => hlt x (Or.inl hx))
  have k1 : ∀ (W' : World), Below W.heap.size W W' → DataW.Trod enc Try.prog W' 0 (fun b => decide (b < W.heap.size)) true 52 v1 d1 p1 :=
    fun W' hn => Below.trod laidOut (by kernel_rfl) (of_decide_eq_true (by kernel_rfl)) h1 hn (fun x hx => hlt x (Or.inr (hx)))
  obtain ⟨x0, hx0⟩ := open_cals9 (hval 0 51 v0 rfl rfl) h0 hsz 0 rfl rfl
  obtain ⟨x1, hx1⟩ := open_intsAt (bytes := 8) Try.underlying52 Try.underlying3 (by kernel_rfl) (by kernel_rfl) (hval 1 52 v1 rfl rfl) h1 hsz 1 rfl rfl
  refine (walk (W := W) v0 x0 hx0 v1 x1 hx1).mono fun e W' ⟨he, hb⟩ => ?_
  subst he
  refine ⟨_, rfl, _, _, _, [], p0 ++ (p1 ++ ([])), [], hW', ?_, ?_, rfl, hb.frame _, fun h => by cases h⟩
  · exact trodAll_cons_mk (shut_bool Try.underlying4 true) trodAll_mk0
  · exact trodAll_cons_mk (k0 _ hb) (trodAll_cons_mk (k1 _ hb) (trodAll_mk0))

theorem over : Rows.vheapKeepsRow.holds Try.pinned (OpenSpec.ofChange Rows.vheapKeepsSpec) :=
  OpenClaim.holds_of_wide 14 Try.f14 rfl rfl rfl rfl rfl rfl rfl ⟨rfl, rfl, rfl, rfl, rfl⟩ rfl rfl rfl rfl rfl (by kernel_rfl) Try.func14 (by kernel_rfl)
    (of_decide_eq_true (by kernel_rfl)) (by unfold Func.isWrapper; first | (rw [if_pos (by decide +kernel)]; kernel_rfl) | (rw [if_neg (by decide +kernel)]; exact ⟨rfl, rfl⟩))
    (fun os started H enc _ => lifted os started H enc)

/-- The given statement. -/
theorem proved : Rows.VheapKeepsSaid := over
#print axioms proved
end Go.Proofs.Ytcnbcidbbeadcaa.vheapKeeps
