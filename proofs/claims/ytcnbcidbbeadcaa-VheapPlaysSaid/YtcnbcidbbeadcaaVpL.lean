/- Behind all calls both tell the same. -/
import Derived.Test.YtcnbcidbbeadcaaVpG
import Derived.Laws.OwnMore
import Derived.SizedLaws
import Derived.Deep.RegionWith
import Derived.Deep.DeepCutAuto
import Derived.Deep.Cut
import Derived.Deep.CutBlock
namespace Go.Proofs.Ytcnbcidbbeadcaa
open Go.ChangeShapes Go.WideShapes Go.ChangeAt Go.RowKit Go.Deep
set_option linter.unusedVariables false

theorem kind_none {o : Nat → VOb} {x : Int} (h : findV o x = none) : kindV o x = (0, 2) ∧ atV o x = -1 ∧ refsV o x = [] := by
  unfold kindV atV refsV
  rw [h]
  exact ⟨rfl, rfl, rfl⟩
theorem kind_some {o : Nat → VOb} {x : Int} {i : Nat} (h : findV o x = some i) : kindV o x = ((o i).k, 0) ∧ atV o x = (i : Int) := by
  unfold kindV atV
  rw [h]
  exact ⟨rfl, rfl⟩
theorem get_at {o : Nat → VOb} {x : Int} {i : Nat} (h : findV o x = some i) (n : Nat) (hn : n < (o i).f.length) : getV o x (n : Int) = ((o i).f.getD n zeroV, 0) := by
  unfold getV
  rw [h]
  simp only
  rw [if_neg (by omega)]
  simp
theorem lit3 (w : World) (v : Value) {w' : World} (hv : v = .slice (some ⟨w.heap.size, 0, none⟩) 3 3) (hw : w' = w.alloc (.cells #[.int .i64 0, .int .i64 (-65), .int .i64 (-64)] 3)) : w'.ownsRow w.heap.size 3 1 v 3 (ints [0, -65, -64]) := by
  subst hv; subst hw
  exact World.ownsRow_lit w #[.int .i64 0, .int .i64 (-65), .int .i64 (-64)] 3 (Nat.le_refl _) (by decide) rfl
set_option maxRecDepth 100000 in
set_option maxHeartbeats 4000000 in
theorem like14 {W : World} {gd : Nat → Prop} {b base m : Nat} {kv kw : Value} {w0 : World} (h : Duo W gd b base m kv kw w0) :
    Calls Try.prog 43 #[.pointer (some ⟨b, 0, none⟩), .pointer (some ⟨m, 0, none⟩)] w0 (RetU w0 (.bool true)) := by
  obtain ⟨o, h, hko⟩ := h
  have Hko := Lib.hid hko
  have hall := Lib.hid h.vAll
  have hLn := Lib.hid (fun w' (u : Upd (fun _ => False) w0 w') => (h.still u).hLen)
  have hAl := Lib.hid (fun w' (u : Upd (fun _ => False) w0 w') => (h.still u).hAll)
  have hM := Lib.hid (fun w' (u : Upd (fun _ => False) w0 w') => h.still u)
  have f15 := Lib.hid h.facts.1
  have hal64 : (allV o).length ≤ 64 := allTo_len o 64
  generalize hal : allV o = al at *
  have e0 : ((al.length : Int) != (al.length : Int)) = false := by simp
  have hsame := Lib.hid (fun w u v (hu : IntsR w u .i64 al) (hv : IntsR w v .i64 al) => show Calls Try.prog 77 #[u, v] w (RetK w (.bool true)) from by simpa using ref_SameInts u v al al w hu hv)
  have hn67 := Lib.hid (show 3 + al.length ≤ 1099511627776 from by omega)
  have hal67 := Lib.hid (show (al.length : Int) ≤ 64 from by omega)
  clear h hal hko hal64
  go_enter Try.func43, Try.ntmps43
  go_wp2_with (first
    | (go_at_call 76; (with_reducible refine hall.out.mono ?_); rintro e w1 ⟨aa, ac, rfl, ho1, hu1⟩; have Ho1 := Lib.hid (ownsRow_intsR ho1); have Hu1 := Lib.hid hu1; clear ho1 hu1)
    | (go_at_call 27; (with_reducible refine (hLn.out w1 Hu1.out).mono ?_); rintro e w2 ⟨rfl, hu2⟩; have Hu2 := Lib.hid hu2; clear hu2)
    | (go_at_call 33; (with_reducible refine (hAl.out w2 (Hu1.out.trans Hu2.out)).mono ?_); rintro e w3 ⟨ba, bc, rfl, ho3, hu3⟩; have Ho3 := Lib.hid (ownsRow_intsR ho3); have Hu3 := Lib.hid hu3; have Ho1b := Lib.hid (ints_upd Ho1.out (Hu2.out.trans hu3)); clear ho3 hu3)
    | (go_at_call 77; (with_reducible refine (hsame.out w3 _ _ Ho3.out Ho1b.out).mono ?_); rintro e w4 ⟨rfl, hu4⟩; have Hu4 := Lib.hid hu4; have hI4 := ints_upd Ho1b.out (hu4.alloc (.cells #[.int .i64 0, .int .i64 (-65), .int .i64 (-64)] 3)); clear hu4)
    | (at_builtin; refine wpList_appendOnto rfl _ _ 52 3 rfl (.int .i64 0) 8 Try.underlying52 infoInt rfl w4.heap.size _ 3 (ints [0, -65, -64]) rfl (lit3 w4 _ rfl rfl) aa al.length ac .i64 al rfl rfl hI4 hn67.out (by decide) (by simp) ?_; intro ra rc w5 ho5 hg5; have Ho5 := Lib.hid ho5; have Hg5 := Lib.hid hg5; clear ho5 hg5))
  have hrow : ∃ row : List Int, row = [0, -65, -64] ++ al ∧ 3 + al.length = row.length := ⟨_, rfl, by simp; omega⟩
  obtain ⟨row, hr, hrl⟩ := hrow
  rw [hrl]
  have hI5 := Lib.hid (show IntsR w5 (.slice ra row.length rc) .i64 row from by
    have := Ho5.out
    rw [hrl] at this
    rw [show ints [0, -65, -64] ++ List.map (Value.int IntKind.i64) al = row.map (Value.int .i64) from by rw [hr]; simp [ints]] at this
    exact ownsRow_intsR this)
  have hU5 := Lib.hid (show Upd (fun _ => False) w0 w5 from by
    have u4 := (((Hu1.out.trans Hu2.out).trans Hu3.out).trans Hu4.out).alloc (.cells #[.int .i64 0, .int .i64 (-65), .int .i64 (-64)] 3)
    have hz := (((Hu1.out.trans Hu2.out).trans Hu3.out).trans Hu4.out).size
    exact u4.own ((Upd.refl _ _).grown Hg5.out (S := fun j => w4.heap.size ≤ j) (fun j e _ => by cases e; exact Nat.le_refl _)) (fun j (e : w4.heap.size ≤ j) => by omega))
  have hr67 : (row.length : Int) ≤ 67 := by have := hal67.out; omega
  clear hI4 e0 hr
  have HU5 := Lib.hid hU5.out
  go_loopw [33] (fun i wr => ∃ n : Nat, i = .int .i64 n ∧ n ≤ row.length ∧ Upd (fun _ => False) w5 wr) (fun i _ => (row.length - intOf i).toNat)
  case atStart => exact ⟨0, rfl, Nat.zero_le _, Upd.refl _ _⟩
  case round =>
    obtain ⟨n, rfl, hn, hu⟩ := hrel
    by_cases hn2 : n = row.length
    · have e0 : ¬ ((n : Int) < row.length) := by omega
      have Hhu := Lib.hid hu; clear hu
      clear hn2
      go_wp2_with fail
      go_ret
      exact ⟨rfl, HU5.out.trans Hhu.out⟩
    · have hn3 : n < row.length := by omega
      have e0 : (n : Int) < row.length := by omega
      obtain ⟨b1, o1, hix, hb1, hy⟩ := RowsIn.index (P := Try.prog) (ints_upd hI5.out hu) Try.underlying52 (by kernel_rfl) (by kernel_rfl) hn3
      simp only [Nat.mul_one] at hix hy
      have hy0 := hy 0 (by decide)
      simp only [Nat.add_zero] at hy0
      change wr.cell? _ = some (.int .i64 (row.getD n 0)) at hy0
      generalize row.getD n 0 = x at *
      have hu0 := HU5.out.trans hu
      have hK := (hM.out wr hu0).hKind x
      have hA := fun w' u => (hM.out w' u).vAt x
      have hme := Lib.hid (show Go.RowKit.wrap64 ((n : Int) + 1) = ((n + 1 : Nat) : Int) from by unfold Go.RowKit.wrap64; omega)
      cases hf : findV o x with
      | none =>
        obtain ⟨q1, q2, q3⟩ := kind_none hf
        rw [q1] at hK
        simp only [q2] at hA
        have hR := fun w' u => (hM.out w' u).hRefs x
        rw [q3] at hR
        have hA := Lib.hid hA
        have hR := Lib.hid hR
        have hK := Lib.hid hK
        have Hu0 := Lib.hid hu0
        have Hhu := Lib.hid hu; clear hu
        clear q1 q2 q3 hf hn2 hy hu0
        go_wp2_with (first
          | (go_at_call 39; (with_reducible refine hK.out.mono ?_); rintro e w6 ⟨rfl, hu6⟩; have Hu6 := Lib.hid hu6; clear hu6)
          | (go_at_call 45; (with_reducible refine (hA.out _ (Hu0.out.trans Hu6.out)).mono ?_); rintro e w7 ⟨rfl, rfl⟩)
          | (go_at_call 37; (with_reducible refine (hR.out _ (Hu0.out.trans Hu6.out)).mono ?_); rintro e w8 ⟨ca, cc, rfl, -, hu8⟩; have Hu8 := Lib.hid (Hu6.out.trans hu8); clear hu8))
        go_roundw
        case rel => exact ⟨n + 1, by go_num, by omega, Hhu.out.trans Hu8.out⟩
        case measure => simp [intOf]; omega
      | some i =>
        obtain ⟨q1, q2⟩ := kind_some hf
        obtain ⟨hi, hus, -⟩ := findV_some hf
        rw [q1] at hK
        have hA := fun w' (u : Upd (fun _ => False) wr w') => hA w' (hu0.trans u)
        simp only [q2] at hA
        have hR1 := Lib.hid (fun w' (u : Upd (fun _ => False) wr w') => (hM.out w' (hu0.trans u)).hRefs x)
        have hR2 := Lib.hid (fun w' (u : Upd (fun _ => False) wr w') => (hM.out w' (hu0.trans u)).vRefs f15.out x)
        have hKd := Lib.hid (fun w' (u : Upd (fun _ => False) wr w') => (hM.out w' (hu0.trans u)).vKd i hi hus)
        have hRow := Lib.hid (fun w' (u : Upd (fun _ => False) wr w') => (hM.out w' (hu0.trans u)).vRow i hi hus)
        have hG := Lib.hid (fun w' (u : Upd (fun _ => False) wr w') (q : Nat) (hq : q < (o i).f.length) => show Calls Try.prog 35 #[.pointer (some ⟨b, 0, none⟩), .int .i64 x, .int .i64 (q : Int)] w' (RetU w' (.tuple #[((o i).f.getD q zeroV).v, .int .i64 0])) from by
          have := (hM.out w' (hu0.trans u)).hGet x (q : Int)
          rw [get_at hf q hq] at this
          exact this)
        have hss := Lib.hid (fun w u v (hu : IntsR w u .i64 (refsV o x)) (hv : IntsR w v .i64 (refsV o x)) => show Calls Try.prog 77 #[u, v] w (RetK w (.bool true)) from by simpa using ref_SameInts u v _ _ w hu hv)
        have H15 := Lib.hid (f15.out i hi hus)
        have hkk := Lib.hid (Hko.out i)
        have hmi : (i : Int) < 64 := by omega
        have hi2 : ¬ (i : Int) < 0 := by omega
        generalize refsV o x = rs at *
        generalize (o i).f = f at *
        generalize (o i).k = kd at *
        have e5 : ((kd : Int) != kd) = false := by simp
        have hA := Lib.hid hA
        have hK := Lib.hid hK
        have Hhu := Lib.hid hu; clear hu
        have Hn3 := Lib.hid hn3
        clear q1 q2 hf hn2 hy hu0 hi hus hn3
        go_wp2_with (first
          | (go_at_call 39; (with_reducible refine hK.out.mono ?_); rintro e w6 ⟨rfl, hu6⟩; have Hu6 := Lib.hid hu6; have hc6 := hKd.out w6 hu6; clear hu6)
          | (go_at_call 45; (with_reducible refine (hA.out _ Hu6.out).mono ?_); rintro e w7 ⟨rfl, rfl⟩)
          | (go_at_call 37; (with_reducible refine (hR1.out _ Hu6.out).mono ?_); rintro e w8 ⟨ca, cc, rfl, ho8, hu8⟩; have Hu8 := Lib.hid (Hu6.out.trans hu8); have Ho8 := Lib.hid (ownsRow_intsR ho8); clear hu8 ho8)
          | (go_at_call 46; (with_reducible refine (hR2.out _ Hu8.out).mono ?_); rintro e w9 ⟨da, dc, rfl, ho9, hu9⟩; have Hu9 := Lib.hid (Hu8.out.trans hu9); have Ho9 := Lib.hid (ownsRow_intsR ho9); have Ho8b := Lib.hid (ints_upd Ho8.out hu9); clear hu9 ho9)
          | (go_at_call 77; (with_reducible refine (hss.out w9 _ _ Ho8b.out Ho9.out).mono ?_); rintro e w10 ⟨rfl, hu10⟩; have Hu10 := Lib.hid (Hu9.out.trans hu10); obtain ⟨ga, gc, hlo, hV⟩ := hRow.out w10 (Hu9.out.trans hu10); have HV := Lib.hid hV; clear hV hu10))
        obtain ⟨wo, hwo⟩ : ∃ wo : World, wo = wr := ⟨_, rfl⟩
        subst hwo
        have hfl2 : (f.length : Int) ≤ 15 := by have := H15.out; omega
        clear e0 hy0 hix hlo hA hK hc6
        go_loopw [90] (fun i wr => ∃ q : Nat, i = .int .i64 q ∧ q ≤ f.length ∧ Upd (fun _ => False) w10 wr) (fun i _ => (f.length - intOf i).toNat)
        case atStart => exact ⟨0, rfl, Nat.zero_le _, Upd.refl _ _⟩
        case round =>
          obtain ⟨q, rfl, hq, hu⟩ := hrel
          by_cases hq2 : q = f.length
          · have e1 : ¬ ((q : Int) < f.length) := by omega
            have Hz := Lib.hid (Hhu.out.trans (Hu10.out.trans hu))
            have hn3 := Hn3.out
            clear hq2 hu
            go_wp2_with fail
            go_roundw
            case rel => exact ⟨n + 1, by go_num, by omega, Hz.out⟩
            case measure => simp [intOf]; omega
          · have hq3 : q < f.length := by omega
            have e1 : (q : Int) < f.length := by omega
            obtain ⟨b2, o2, hix, hb2, hy⟩ := HV.out.index (P := Try.prog) Try.underlying23 (by kernel_rfl) (by kernel_rfl) hq3
            have y0 := (hu.none.cell (p := ⟨b2, o2 + q * 5 + 0, none⟩) hb2).trans (hy 0 (by decide))
            have y1 := (hu.none.cell (p := ⟨b2, o2 + q * 5 + 1, none⟩) hb2).trans (hy 1 (by decide))
            have y2 := (hu.none.cell (p := ⟨b2, o2 + q * 5 + 2, none⟩) hb2).trans (hy 2 (by decide))
            have y3 := (hu.none.cell (p := ⟨b2, o2 + q * 5 + 3, none⟩) hb2).trans (hy 3 (by decide))
            have y4 := (hu.none.cell (p := ⟨b2, o2 + q * 5 + 4, none⟩) hb2).trans (hy 4 (by decide))
            simp only [Nat.add_zero] at y0
            have hzin := hkk.out (f.getD q zeroV) (by
              have : f.getD q zeroV = f[q] := by simp [List.getD, hq3]
              rw [this]
              exact List.getElem_mem hq3)
            have hg := fun w' (u : Upd (fun _ => False) wo w') => hG.out w' u q hq3
            generalize f.getD q zeroV = z at *
            generalize o2 + q * 5 = p2 at *
            have hsv := ref_SameValue z z
            rw [sameV_refl hzin.1 hzin.2] at hsv
            obtain ⟨zk, zn, zre, zim, zr⟩ := z
            change wr.cell? _ = some (.int .i64 zk) at y0
            change wr.cell? _ = some (.int .i64 zn) at y1
            change wr.cell? _ = some (.int .u64 (zre : Int)) at y2
            change wr.cell? _ = some (.int .u64 (zim : Int)) at y3
            change wr.cell? _ = some (.int .i64 zr) at y4
            have hsv := Lib.hid (show ∀ w, Calls Try.prog 41 #[.agg #[.int .i64 zk, .int .i64 zn, .int .u64 (zre : Int), .int .u64 (zim : Int), .int .i64 zr], .agg #[.int .i64 zk, .int .i64 zn, .int .u64 (zre : Int), .int .u64 (zim : Int), .int .i64 zr]] w (RetU w (.bool true)) from hsv)
            have ua := Lib.hid (show Upd (fun _ => False) wr (wr.alloc (.cells #[.int .i64 zk, .int .i64 zn, .int .u64 (zre : Int), .int .u64 (zim : Int), .int .i64 zr] 26)) from (Upd.refl _ _).alloc _)
            have G1 := Lib.hid (show Calls Try.prog 35 #[.pointer (some ⟨b, 0, none⟩), .int .i64 x, .int .i64 (q : Int)] (wr.alloc (.cells #[.int .i64 zk, .int .i64 zn, .int .u64 (zre : Int), .int .u64 (zim : Int), .int .i64 zr] 26)) (RetU (wr.alloc (.cells #[.int .i64 zk, .int .i64 zn, .int .u64 (zre : Int), .int .u64 (zim : Int), .int .i64 zr] 26)) (.tuple #[.agg #[.int .i64 zk, .int .i64 zn, .int .u64 (zre : Int), .int .u64 (zim : Int), .int .i64 zr], .int .i64 0])) from hg _ ((Hu10.out.trans hu).trans ua.out))
            have hB := Lib.hid (Blk.new wr [.int .i64 zk, .int .i64 zn, .int .u64 (zre : Int), .int .u64 (zim : Int), .int .i64 zr] 26)
            have hmq := Lib.hid (show Go.RowKit.wrap64 ((q : Int) + 1) = ((q + 1 : Nat) : Int) from by unfold Go.RowKit.wrap64; omega)
            have HQ := Lib.hid hu
            clear hy hzin hq2 hg hu
            go_wp2_with (first
              | (go_at_call 35; (with_reducible refine G1.out.mono ?_); rintro e w4 ⟨rfl, hu4⟩; have hB4 := Lib.hid ((hB.out.upd hu4 (fun h => h)).alloc (.cells #[.int .i64 zk, .int .i64 zn, .int .u64 (zre : Int), .int .u64 (zim : Int), .int .i64 zr] 26)); have q0 := hB4.out.cell 0 rfl; have q1 := hB4.out.cell 1 rfl; have q2 := hB4.out.cell 2 rfl; have q3 := hB4.out.cell 3 rfl; have q4 := hB4.out.cell 4 rfl; have Hu4 := Lib.hid ((ua.out.trans hu4).alloc (.cells #[.int .i64 zk, .int .i64 zn, .int .u64 (zre : Int), .int .u64 (zim : Int), .int .i64 zr] 26)); clear hu4)
              | (go_at_call 41; (with_reducible refine (hsv.out _).mono ?_); rintro e w5x ⟨rfl, hu5⟩; have Hu5x := Lib.hid (Hu4.out.trans hu5); clear hu5))
            go_roundw
            case rel => exact ⟨q + 1, by go_num, by omega, HQ.out.trans Hu5x.out⟩
            case measure => simp [intOf]; omega
end Go.Proofs.Ytcnbcidbbeadcaa
