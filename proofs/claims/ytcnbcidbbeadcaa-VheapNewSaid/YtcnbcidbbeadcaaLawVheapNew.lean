/- A new object is what its kind has at first, whatever stood at its place before. No condition. -/
import Derived.Test.YtcnbcidbbeadcaaVhNw
import Derived.SizedLaws
import Derived.Deep.RegionWith
import Derived.Deep.DeepCutAuto
import Derived.Deep.Cut
import Derived.Deep.CutBlock
namespace Go.Proofs.Ytcnbcidbbeadcaa.vheapNew
open Go.ChangeShapes Go.WideShapes Go.ChangeAt Go.RowKit Go.Deep
set_option linter.unusedVariables false

set_option maxRecDepth 100000 in
set_option maxHeartbeats 4000000 in
theorem walk {W : World} (lv : Value) (l : List Cal) (hl : CalsIn W lv l) (gone : Int) (wg : (Lit.int .i64 gone).wf = true) (kind : Int) (wk : (Lit.int .i64 kind).wf = true) :
    Calls Try.prog 10 #[lv, .int .i64 gone, .int .i64 kind] W (LawPost W) := by
  have k14 := Lib.hid kinds14
  have hNw := Lib.hid (fun w1 v hm hu => AwSt.new (w := W) (w1 := w1) (v := v) hm hu)
  have hAw := Lib.hid awake14
  obtain ⟨la, lc, rfl, l1⟩ := hl.1.shape
  have HhC := Lib.hid hl.1
  have HhOk := Lib.hid hl.okAt
  clear hl wg wk
  obtain ⟨K, hK, hK2⟩ := rem_nat kind 3 (by decide) (by decide)
  go_enter Try.func10, Try.ntmps10
  go_upto_block 0 with (first
    | (go_at_call 24; (with_reducible refine (k14.out _).mono ?_); rintro e w1 ⟨v, rfl, hm1, hu1⟩; obtain ⟨va, vc, rfl⟩ := mat_shape hm1; have hN2b := Lib.hid (hNw.out w1 _ hm1 hu1); clear hm1 hu1)
    | (go_at_call 23; (with_reducible refine hN2b.out.mono ?_); rintro e w2 ⟨b, base, kv, rfl, h2⟩; have H2 := Lib.hid (show CaSt W b base kv w2 from ⟨_, h2, KOk.no⟩); clear h2 hN2b))
  clear k14 hNw
  go_cut [8] (fun i wx => CaSt W b base kv wx)
  case first =>
    go_wp2_with fail
    go_loopw [8] (fun i wr => ∃ k : Nat, i = .int .i64 k ∧ k ≤ 60 ∧ k ≤ l.length ∧ CaSt W b base kv wr) (fun i _ => (60 - intOf i).toNat)
    case atStart => exact ⟨0, rfl, Nat.zero_le _, Nat.zero_le _, H2.out⟩
    case round =>
      obtain ⟨k, rfl, hk, hkl, hst⟩ := hrel
      clear H2
      by_cases hk2 : k = l.length ∨ k = 60
      · have key : (¬ ((k : Int) < l.length)) ∨ (((k : Int) < l.length) ∧ ¬ ((k : Int) < 60)) := by omega
        have Hhst := Lib.hid hst; clear hst
        clear hk2
        rcases key with c1 | ⟨c1, c2⟩
        all_goals
          go_wp2_with fail
          go_meet
          exact Hhst.out
      · have c1 : (k : Int) < l.length := by omega
        have c2 : (k : Int) < 60 := by omega
        obtain ⟨b0, off, hix, hc⟩ := HhC.out.at (show k < l.length by omega)
        have hok := HhOk.out k
        obtain ⟨y0, y1, y2, y3, y4, y5, y6, y7⟩ := hc wr hst.up
        generalize l.getD k noCal = cc at *
        obtain ⟨cd, co, cf, ⟨xk, xn, xre, xim, xr⟩⟩ := cc
        simp only at y0 y1 y2 y3 y4 y5 y6 y7
        have hmk := Lib.hid (fun w' (u : Upd (fun _ => False) wr w') => (hst.still u).make cf)
        have hse := Lib.hid (fun w' (u : Upd (fun _ => False) wr w') => show Calls Try.prog 32 #[.pointer (some ⟨b, 0, none⟩), .int .i64 co, .int .i64 cf, .agg #[.int .i64 xk, .int .i64 xn, .int .u64 (xre : Int), .int .u64 (xim : Int), .int .i64 xr]] w' (fun e w' => ∃ n : Int, e = .returned (.int .i64 n) ∧ CaSt W b base kv w') from (hst.still u).set co cf ⟨xk, xn, xre, xim, xr⟩ hok)
        have Hhst := Lib.hid hst; clear hst
        clear hc hk2 hok
        by_cases h0 : cd = 0
        · subst h0
          go_wp2_with (go_at_call 25; (with_reducible refine (hmk.out _ (Upd.refl _ _)).mono ?_); rintro e w3 ⟨r1, r2, rfl, h3⟩; have H3 := Lib.hid h3; clear h3)
          go_roundw
          case rel => exact ⟨k + 1, by go_num, by omega, by omega, H3.out⟩
          case measure => simp [intOf]; omega
        · have e0 : (cd == 0) = false := by rw [beq_eq_false_iff_ne]; exact h0
          by_cases h2 : cd = 2
          · subst h2
            go_wp2_with fail
            go_region_with (go_at_call 32; (with_reducible refine (hse.out _ ((Upd.refl _ _).drew)).mono ?_); rintro e w3 ⟨r1, rfl, h3⟩; have H3 := Lib.hid h3; clear h3)
            all_goals
              go_wp2_with fail
              go_roundw
              case rel => exact ⟨k + 1, by go_num, by omega, by omega, H3.out⟩
              case measure => simp [intOf]; omega
          · have e2 : (cd == 2) = false := by rw [beq_eq_false_iff_ne]; exact h2
            clear h0 h2
            go_wp2_with fail
            go_roundw
            case rel => exact ⟨k + 1, by go_num, by omega, by omega, Hhst.out⟩
            case measure => simp [intOf]; omega
  case rest =>
    clear H2 HhC HhOk
    obtain ⟨o, hst, hko⟩ := hcut.st
    have k14 := Lib.hid kinds14
    have hrm := Lib.hid (hst.remove gone)
    clear hst hcut
    generalize removeV o gone = o1 at *
    have hK3 : K < 3 := by omega
    have hl64 : (allV o1).length ≤ 64 := allTo_len o1 64
    rcases new_cases o1 K hK3 with ⟨hm, h64⟩ | ⟨x, o', hm, h15, hkd, hgt, hln, hrf⟩
    · have hMk := fun wr (h : AwSt W b base kv o1 wr) => h.make (K : Int)
      rw [hm] at hMk
      have hMk := Lib.hid hMk
      have hLn := fun wr (h : AwSt W b base kv o1 wr) => h.len
      rw [h64] at hLn
      have hLn := Lib.hid hLn
      clear hm h64 hl64 hko
      go_wp2_with (first
        | (go_at_call 26; (with_reducible refine hrm.out.mono ?_); rintro e w3 ⟨rfl, h3⟩; have L3 := Lib.hid (hLn.out w3 h3); have H3 := Lib.hid h3; clear h3)
        | (go_at_call 27; (with_reducible refine L3.out.mono ?_); rintro e w4 ⟨rfl, hu4⟩; have M4 := Lib.hid (hMk.out w4 (H3.out.still hu4)); clear hu4)
        | (go_at_call 25; (with_reducible refine M4.out.mono ?_); rintro e w5 ⟨rfl, h5⟩; have H5 := Lib.hid h5; clear h5)
        | (go_at_call 28; (with_reducible refine (hAw.out _).mono ?_); rintro e w6 ⟨rfl, hu6⟩; have H6 := Lib.hid (H5.out.up.trans hu6); clear hu6))
      go_ret
      exact ⟨rfl, H6.out.none⟩
    · have hMk := fun wr (h : AwSt W b base kv o1 wr) => h.make (K : Int)
      rw [hm] at hMk
      have hMk := Lib.hid hMk
      have hLn := Lib.hid (fun wr (h : AwSt W b base kv o1 wr) => h.len)
      have hLn2 := fun wr (h : AwSt W b base kv o' wr) => h.len
      rw [hln] at hLn2
      have hLn2 := Lib.hid hLn2
      have hRf2 := fun wr (h : AwSt W b base kv o' wr) => h.refs x
      rw [hrf] at hRf2
      have hRf2 := Lib.hid hRf2
      have hKd2 := fun wr (h : AwSt W b base kv o' wr) => h.kind x
      rw [hkd] at hKd2
      have hKd2 := Lib.hid hKd2
      have hGt2 := Lib.hid (fun wr (h : AwSt W b base kv o' wr) n => h.get x n)
      have hkat := Lib.hid (fun w a n c (h : MatIn w (.slice a n c) ks14) => kinds_at h (show K < 4 by omega))
      have hzk := Lib.hid (zeroVals_kind (ks14.getD K []) (ks14.getD K []).length)
      have hzl := Lib.hid (zeroVals_len (ks14.getD K []) (ks14.getD K []).length)
      have hzc := Lib.hid (zeroTo_cells (ks14.getD K []) (ks14.getD K []).length)
      have hzr := Lib.hid (fun v w hv => ref_Zero v (ks14.getD K []) w hv h15)
      generalize ks14.getD K [] = f at *
      generalize (allV o1).length = n1 at *
      have Hhgt := Lib.hid hgt; clear hgt
      clear hm hln hrf hkd hko
      have w1 : IntKind.i64.wrap ((n1 : Int) + 1) = (n1 : Int) + 1 := by rw [IntKind.wrap_i64]; omega
      go_wp2_with (first
        | (go_at_call 26; (with_reducible refine hrm.out.mono ?_); rintro e w3 ⟨rfl, h3⟩; have L3 := Lib.hid (hLn.out w3 h3); have H3 := Lib.hid h3; clear h3)
        | (go_at_call 27; (with_reducible refine L3.out.mono ?_); rintro e w4 ⟨rfl, hu4⟩; have M4 := Lib.hid (hMk.out w4 (H3.out.still hu4)); clear hu4)
        | (go_at_call 25; (with_reducible refine M4.out.mono ?_); rintro e w5 ⟨rfl, h5⟩; have H5 := Lib.hid h5; have K5 := Lib.hid (hKd2.out w5 h5); clear h5)
        | (go_at_call 39; (with_reducible refine K5.out.mono ?_); rintro e w6 ⟨rfl, hu6⟩; have H6 := Lib.hid (H5.out.still hu6); clear hu6)
        | (go_at_call 24; (with_reducible refine (k14.out _).mono ?_); rintro e w7 ⟨v7, rfl, hm7, hu7⟩; obtain ⟨va7, vc7, rfl⟩ := mat_shape hm7; obtain ⟨b7, off7, fa7, fc7, hix7, hc7, hI7⟩ := hkat.out w7 _ _ _ hm7; have Z7 := Lib.hid (hzr.out _ w7 hI7); have H7 := Lib.hid (H6.out.still hu7); clear hm7 hu7 hI7)
        | (go_at_call 40; (with_reducible refine Z7.out.mono ?_); rintro e w8 ⟨za, zc, rfl, hz8, hu8⟩; have hz8b := Lib.hid hz8; have H8 := Lib.hid (H7.out.still hu8); clear hz8 hu8))
      have hV8 := Lib.hid (show ValsR w8 (.slice za f.length zc) (zeroVals f f.length) from by
        have h := hz8b.out
        rw [hzc.out] at h
        have hl := hzl.out
        refine ownsRow_vals (B := w7.heap.size) ?_
        rw [hl]
        exact h)
      clear hz8b hix7 hc7 hkat hzr hMk hKd2 hrm
      go_loopw [101] (fun i wr => ∃ n : Nat, i = .int .i64 n ∧ n ≤ f.length ∧ AwSt W b base kv o' wr ∧ Upd (fun _ => False) w8 wr) (fun i _ => (f.length - intOf i).toNat)
      case atStart => exact ⟨0, rfl, Nat.zero_le _, H8.out, Upd.refl _ _⟩
      case round =>
        obtain ⟨n, rfl, hn, hst, hu⟩ := hrel
        clear H8
        by_cases hn2 : n = f.length
        · have e0 : ¬ ((n : Int) < f.length) := by omega
          have R9 := Lib.hid (hRf2.out wr hst)
          have L9 := Lib.hid (hLn2.out wr hst)
          have Hhst := Lib.hid hst; clear hst
          clear hn2 hu
          go_wp2_with (first
            | (go_at_call 27; (with_reducible refine L9.out.mono ?_); rintro e w9 ⟨rfl, hu9⟩; have H9 := Lib.hid (Hhst.out.still hu9); have R10 := Lib.hid (hRf2.out w9 (Hhst.out.still hu9)); clear hu9)
            | (go_at_call 37; (with_reducible refine R10.out.mono ?_); rintro e w10 ⟨ra, rc, rfl, -, hu10⟩; have H10 := Lib.hid (H9.out.still hu10); clear hu10)
            | (go_at_call 28; (with_reducible refine (hAw.out _).mono ?_); rintro e w11 ⟨rfl, hu11⟩; have H11 := Lib.hid (H10.out.up.trans hu11); clear hu11))
          go_ret
          exact ⟨rfl, H11.out.none⟩
        · have hn3 : n < f.length := by omega
          have e0 : (n : Int) < f.length := by omega
          have hn4 : n < (zeroVals f f.length).length := by rw [hzl.out]; exact hn3
          have hVr := hV8.out
          obtain ⟨b1, o1', hix, hb1, hy⟩ := RowsIn.index (P := Try.prog) (show RowsIn w8 (.slice za f.length zc) 5 (zeroVals f f.length).length _ from hVr) Try.underlying23 (by kernel_rfl) (by kernel_rfl) hn4
          have y0 := (hu.none.cell (p := ⟨b1, o1' + n * 5 + 0, none⟩) hb1).trans (hy 0 (by decide))
          have y1 := (hu.none.cell (p := ⟨b1, o1' + n * 5 + 1, none⟩) hb1).trans (hy 1 (by decide))
          have y2 := (hu.none.cell (p := ⟨b1, o1' + n * 5 + 2, none⟩) hb1).trans (hy 2 (by decide))
          have y3 := (hu.none.cell (p := ⟨b1, o1' + n * 5 + 3, none⟩) hb1).trans (hy 3 (by decide))
          have y4 := (hu.none.cell (p := ⟨b1, o1' + n * 5 + 4, none⟩) hb1).trans (hy 4 (by decide))
          simp only [Nat.add_zero] at y0
          have hzin := hzk.out ((zeroVals f f.length).getD n zeroV) (by
            have : (zeroVals f f.length).getD n zeroV = (zeroVals f f.length)[n] := by simp [List.getD, hn4]
            rw [this]
            exact List.getElem_mem hn4)
          have hg := fun wr (h : AwSt W b base kv o' wr) => hGt2.out wr h (n : Int)
          rw [Hhgt.out n hn3] at hg
          generalize (zeroVals f f.length).getD n zeroV = z at *
          generalize o1' + n * 5 = p1 at *
          have hsv := ref_SameValue z z
          rw [sameV_refl hzin.1 (by omega)] at hsv
          obtain ⟨zk, zn, zre, zim, zr⟩ := z
          change wr.cell? _ = some (.int .i64 zk) at y0
          change wr.cell? _ = some (.int .i64 zn) at y1
          change wr.cell? _ = some (.int .u64 (zre : Int)) at y2
          change wr.cell? _ = some (.int .u64 (zim : Int)) at y3
          change wr.cell? _ = some (.int .i64 zr) at y4
          have hsv := Lib.hid (show ∀ w, Calls Try.prog 41 #[.agg #[.int .i64 zk, .int .i64 zn, .int .u64 (zre : Int), .int .u64 (zim : Int), .int .i64 zr], .agg #[.int .i64 zk, .int .i64 zn, .int .u64 (zre : Int), .int .u64 (zim : Int), .int .i64 zr]] w (RetU w (.bool true)) from hsv)
          have hg := Lib.hid (show ∀ wr, AwSt W b base kv o' wr → Calls Try.prog 35 #[.pointer (some ⟨b, 0, none⟩), .int .i64 x, .int .i64 (n : Int)] wr (RetU wr (.tuple #[.agg #[.int .i64 zk, .int .i64 zn, .int .u64 (zre : Int), .int .u64 (zim : Int), .int .i64 zr], .int .i64 0])) from hg)
          have hB := Lib.hid (Blk.new wr [.int .i64 zk, .int .i64 zn, .int .u64 (zre : Int), .int .u64 (zim : Int), .int .i64 zr] 26)
          have G1 := Lib.hid (hg.out _ (hst.still ((Upd.refl _ _).alloc (.cells #[.int .i64 zk, .int .i64 zn, .int .u64 (zre : Int), .int .u64 (zim : Int), .int .i64 zr] 26))))
          have ua := Lib.hid (show Upd (fun _ => False) wr (wr.alloc (.cells #[.int .i64 zk, .int .i64 zn, .int .u64 (zre : Int), .int .u64 (zim : Int), .int .i64 zr] 26)) from (Upd.refl _ _).alloc _)
          have Hhst := Lib.hid hst; clear hst
          have Hhu := Lib.hid hu; clear hu
          clear hy hVr hzin hn2 hn4
          go_wp2_with (first
            | (go_at_call 35; (with_reducible refine G1.out.mono ?_); rintro e w4 ⟨rfl, hu4⟩; have hB4 := Lib.hid ((hB.out.upd hu4 (fun h => h)).alloc (.cells #[.int .i64 zk, .int .i64 zn, .int .u64 (zre : Int), .int .u64 (zim : Int), .int .i64 zr] 26)); have q0 := hB4.out.cell 0 rfl; have q1 := hB4.out.cell 1 rfl; have q2 := hB4.out.cell 2 rfl; have q3 := hB4.out.cell 3 rfl; have q4 := hB4.out.cell 4 rfl; have Hu4 := Lib.hid ((ua.out.trans hu4).alloc (.cells #[.int .i64 zk, .int .i64 zn, .int .u64 (zre : Int), .int .u64 (zim : Int), .int .i64 zr] 26)); clear hu4)
            | (go_at_call 41; (with_reducible refine (hsv.out _).mono ?_); rintro e w5 ⟨rfl, hu5⟩; have Hu5 := Lib.hid (Hu4.out.trans hu5); clear hu5))
          go_roundw
          case rel => exact ⟨n + 1, by go_num, by omega, Hhst.out.still Hu5.out, Hhu.out.trans Hu5.out⟩
          case measure => simp [intOf]; omega

theorem own : ownKnob Try.prog.godebug = none := by kernel_rfl
theorem laidOut : laidOutB Try.prog = true := by kernel_rfl
set_option maxRecDepth 100000 in
theorem lifted (os : Os) (started : os.Started) (H : Type) (enc : TypeId × Value → H) :
    ReturnsInHanded {} Try.checked os 10 .any (Rows.vheapNewSpec.pre6 enc Try.prog Try.f10 Rows.vheapNewRow.domain false) (Rows.vheapNewSpec.post enc Try.prog Try.f10 false true false false) := by
  refine returnsInHanded_of_change_sized (C := Try.checked) own started (by kernel_rfl) Try.func10
    (ChangeSpec.witness6 (enc := enc) (C := Try.checked) false ⟨#[], #[.slice none 0 0, .int .i64 0, .int .i64 0], []⟩ 8 (by kernel_rfl) (by kernel_rfl) (by kernel_rfl) (by kernel_rfl)) ?_
  intro W base args ds gs before hval0 hW _ hsz0 _
  have hsz : (DataW.weightsEach Try.prog (Try.f10.params.toList ++ Rows.vheapNewSpec.plain.varTypes Try.prog) (ds ++ gs)).all (· ≤ reachBytes) = true := hsz0
  clear hsz0
  have hval : ∀ (j : Nat) t v, Try.f10.params[j]? = some t → args[j]? = some v → Value.okWide Try.prog W .any base t v := hval0
  have hW' := hW
  obtain ⟨p, q, hA0, hV, rfl, _, _⟩ := hW
  have hA : DataW.TrodAll enc Try.prog W 0 (fun _ => true) true Try.f10.params.toList args.toList ds p := hA0
  rw [Try.params10] at hA hval hsz
  obtain ⟨v0, vs0, d0, ds0, p0, q0, hargs, rfl, rfl, h0, r0⟩ := trodAll_cons hA
  obtain ⟨v1, vs1, d1, ds1, p1, q1, rfl, rfl, rfl, h1, r1⟩ := trodAll_cons r0
  obtain ⟨v2, vs2, d2, ds2, p2, q2, rfl, rfl, rfl, h2, r2⟩ := trodAll_cons r1
  obtain ⟨rfl, rfl, rfl⟩ := trodAll_nil r2
  obtain rfl : args = #[v0, v1, v2] := by cases args; simp_all
  obtain ⟨rfl, rfl⟩ := trodVars_none hV
  clear hA0 hval0
  simp only [List.append_nil] at hW'
  have hlt : ∀ x, (x ∈ p0 ∨ x ∈ p1 ∨ x ∈ p2) → x.block < W.heap.size := fun x hx => by simpa using hW'.lt x (by simpa using hx)
  have k0 : ∀ (W' : World), Below W.heap.size W W' → DataW.Trod enc Try.prog W' 0 (fun b => decide (b < W.heap.size)) true 51 v0 d0 p0 :=
    fun W' hn => Below.trod laidOut (by kernel_rfl) (of_decide_eq_true (by kernel_rfl)) h0 hn (fun x hx => hlt x (Or.inl hx))
  have k1 : ∀ (W' : World), Below W.heap.size W W' → DataW.Trod enc Try.prog W' 0 (fun b => decide (b < W.heap.size)) true 3 v1 d1 p1 :=
    fun W' hn => Below.trod laidOut (by kernel_rfl) (of_decide_eq_true (by kernel_rfl)) h1 hn (fun x hx => hlt x (Or.inr (Or.inl hx)))
  have k2 : ∀ (W' : World), Below W.heap.size W W' → DataW.Trod enc Try.prog W' 0 (fun b => decide (b < W.heap.size)) true 3 v2 d2 p2 :=
    fun W' hn => Below.trod laidOut (by kernel_rfl) (of_decide_eq_true (by kernel_rfl)) h2 hn (fun x hx => hlt x (Or.inr (Or.inr (hx))))
  obtain ⟨x0, hx0⟩ := open_cals (hval 0 51 v0 rfl rfl) h0 hsz 0 rfl rfl
  obtain ⟨a1, rfl, _, _, w1⟩ := open_int Try.underlying3 (hval 1 3 v1 rfl rfl) h1
  obtain ⟨a2, rfl, _, _, w2⟩ := open_int Try.underlying3 (hval 2 3 v2 rfl rfl) h2
  refine (walk (W := W) v0 x0 hx0 a1 w1 a2 w2).mono fun e W' ⟨he, hb⟩ => ?_
  subst he
  refine ⟨_, rfl, _, _, _, [], p0 ++ (p1 ++ (p2 ++ ([]))), [], hW', ?_, ?_, rfl, hb.frame _, fun h => by cases h⟩
  · exact trodAll_cons_mk (shut_bool Try.underlying4 true) trodAll_mk0
  · exact trodAll_cons_mk (k0 _ hb) (trodAll_cons_mk (k1 _ hb) (trodAll_cons_mk (k2 _ hb) (trodAll_mk0)))

theorem over : Rows.vheapNewRow.holds Try.pinned (OpenSpec.ofChange Rows.vheapNewSpec) :=
  OpenClaim.holds_of_wide 10 Try.f10 rfl rfl rfl rfl rfl rfl rfl ⟨rfl, rfl, rfl, rfl, rfl⟩ rfl rfl rfl rfl rfl (by kernel_rfl) Try.func10 (by kernel_rfl)
    (of_decide_eq_true (by kernel_rfl)) (by unfold Func.isWrapper; first | (rw [if_pos (by decide +kernel)]; kernel_rfl) | (rw [if_neg (by decide +kernel)]; exact ⟨rfl, rfl⟩))
    (fun os started H enc _ => lifted os started H enc)

/-- The given statement. -/
theorem proved : Rows.VheapNewSaid := over
#print axioms proved
end Go.Proofs.Ytcnbcidbbeadcaa.vheapNew
