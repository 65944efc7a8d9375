/- Any calls of a collector, over any references: each answer. No condition. -/
import Derived.Test.YthaicpjgmplgcaaCqL
import Derived.Test.YthaicpjgmplgcaaRefLay
import Derived.Deep.RegionHeld3
import Derived.Deep.RegionWith
import Derived.SizedLaws
import Derived.Deep.DrawnRows
import Derived.Deep.DeepCutAuto
import Derived.Deep.CutBlock
namespace Go.Proofs.Ythaicpjgmplgcaa.cyclePlays
open Go.ChangeShapes Go.WideShapes Go.ChangeAt Go.RowKit
set_option linter.unusedVariables false

/-- Behind the document's collector. -/
def Q6 (w6 : World) (R rl N : Nat) (w' : World) : Prop := Upd (fun _ => False) w6 w' ∧ w'.cell? ⟨R, 0, none⟩ = some (.pointer (some ⟨rl, 0, none⟩)) ∧ w'.cell? ⟨rl, 18, none⟩ = some (.int .i64 (N : Int))
theorem q6 {w6 w' : World} {R rl N : Nat} {room : Value} (h : Blk w6 R [.pointer (some ⟨rl, 0, none⟩), room, .int .i64 0, .int .i64 0, .pointer none, .int .i64 0] 70) (h2 : IsRl w6 rl N) (u : Upd (fun _ => False) w6 w') : Q6 w6 R rl N w' :=
  ⟨u, (h.upd u (fun x => x)).cell 0 rfl, (h2.upd u (fun x => x)).cell⟩
set_option maxRecDepth 100000 in
set_option maxHeartbeats 4000000 in
theorem walk {W : World} (n : Int) (w0 : (Lit.int .i64 n).wf = true) (ra : Int) (w1 : (Lit.int .i64 ra).wf = true) (tv : Value) (tt : List (List Int)) (ht : MatIn W tv tt ∧ tt.length * 24 ≤ 140737488351232) (wv : Value) (ws : List Int) (hws : IntsIn W wv .i64 ws ∧ ws.length * 8 ≤ 140737488351232) (uv : Value) (us0 : List Int) (hus0 : IntsIn W uv .u64 us0 ∧ us0.length * 8 ≤ 140737488351232) (lv : Value) (l : List Cl) (hl0 : ClsR W lv l) :
    Calls Try.prog 10 #[.int .i64 n, .int .i64 ra, tv, wv, uv, lv] W (LawPost W) := by
  obtain ⟨hM, hMl⟩ := ht
  have hlight := law_light tv tt W hM hMl
  obtain ⟨ta, tc, htv⟩ := mat_shape hM
  subst htv
  obtain ⟨hwsM, hwsl⟩ := hws
  obtain ⟨wsa, wsc, hwsv⟩ := ints_shape hwsM
  subst hwsv
  have hwsI : (ws.length : Int) ≤ 17592186044416 := by omega
  clear hwsl
  obtain ⟨us, hus, -⟩ := intsIn_words hus0.1
  clear hus0
  obtain ⟨la, lc, rfl, l1⟩ := hl0.shape
  clear w0 w1 hMl
  by_cases hgo : lightM tt = true ∧ ws.length ≤ 20
  · obtain ⟨hlt, hwsN⟩ := hgo
    rw [hlt] at hlight
    have hlb := light_bounds hlt
    have hwsB : (ws.length : Int) ≤ 20 := by omega
    have hc := law_config21 n W
    have hcA := fun w => law_config21 n w
    obtain ⟨hN1, hN2⟩ := fNum_le n
    generalize fNum n = N at *
    unfold cfgV at hc hcA
    replace hcA : ∀ w, Calls Try.prog 31 #[.int .i64 n] w (fun e w' => ∃ v, e = .returned (.agg #[v, .int .i64 N, .int .i64 0, .int .i64 0, .int .i64 0, .int .i64 1, .int .i64 0, .int .i64 40]) ∧ MatIn w' v [[1]] ∧ Upd (fun _ => False) w w') := hcA
    replace hc : Calls Try.prog 31 #[.int .i64 n] W (fun e w' => ∃ v, e = .returned (.agg #[v, .int .i64 N, .int .i64 0, .int .i64 0, .int .i64 0, .int .i64 1, .int .i64 0, .int .i64 40]) ∧ MatIn w' v [[1]] ∧ Upd (fun _ => False) W w') := hc
    have Hhlight := Lib.hid hlight; clear hlight
    have HhM := Lib.hid hM; clear hM
    have Hhlb := Lib.hid hlb; clear hlb
    have Hhus := Lib.hid hus; clear hus
    have HhwsM := Lib.hid hwsM; clear hwsM
    have Hhc := Lib.hid hc; clear hc
    have HhcA := Lib.hid hcA; clear hcA
    have Hhl0 := Lib.hid hl0; clear hl0
    clear hlt
    go_enter Try.func10, Try.ntmps10
    go_wp2_with fail
    refine Hhlight.out.mono ?_
    rintro e w' ⟨rfl, rfl⟩
    go_wp2_with fail
    refine Hhc.out.mono ?_
    rintro e w1 ⟨v, rfl, hM1, u1⟩
    have hl := lay_config (n0 := N) (n1 := 0) (n2 := 0) (n3 := 0) hN2 (by decide) (by decide) (by decide) (by omega) hM1
    unfold LayPost at hl
    replace hl : Calls Try.prog 14 #[.agg #[v, .int .i64 N, .int .i64 0, .int .i64 0, .int .i64 0, .int .i64 1, .int .i64 0, .int .i64 40]] w1 _ := hl
    have Hhl := Lib.hid hl; clear hl
    have Hu1 := Lib.hid u1; clear u1
    clear hM1 Hhc Hhlight
    go_wp2_with fail
    refine Hhl.out.mono ?_
    rintro e w2 ⟨L, rfl, hL, hLz, hu2⟩
    have hn := cyc_New hL ⟨hN2, by decide, by decide, by decide⟩ (by obtain ⟨v, r, bi, lo, bl, wo, hB, -, -⟩ := hL; exact hB.lt) ra (w2.heap.size + 1) (Nat.le_refl _)
    replace hn : Calls Try.prog 32 #[.pointer (some ⟨L, 0, none⟩), .int .i64 ra] w2 (fun e w' => e = .returned (.pointer (some ⟨w2.heap.size, 0, none⟩)) ∧ IsCy w' w2.heap.size L N 0 0 0 (w2.heap.size + 1) ⟨N, ra, 0, 0, mkNew 0 0, 0⟩ ∧ Upd (fun _ => False) w2 w') := hn
    have u2 := Hu1.out.trans hu2
    have Hhn := Lib.hid hn; clear hn
    have Hu2 := Lib.hid u2; clear u2
    clear hL hLz hu2 Hhl Hu1
    go_wp2_with fail
    refine Hhn.out.mono ?_
    rintro e w3 ⟨rfl, hcy, hu3⟩
    obtain ⟨C, hC⟩ : ∃ C, C = w2.heap.size := ⟨_, rfl⟩
    rw [← hC] at hcy ⊢
    have hCW : W.heap.size ≤ C := by rw [hC]; exact Hu2.out.size
    have u3 := Hu2.out.trans hu3
    clear hu3 Hhn Hu2
    have hc2 := HhcA.out w3
    clear hC
    have hCz := hcy.lt
    have hLz := hcy.ltL
    have Hhcy := Lib.hid hcy; clear hcy
    have Hu3 := Lib.hid u3; clear u3
    have Hhc2 := Lib.hid hc2; clear hc2
    clear HhcA
    go_wp2_with fail
    refine Hhc2.out.mono ?_
    rintro e w4 ⟨v4, rfl, hM4, hu4⟩
    obtain ⟨va4, vc4, hve⟩ := mat_shape hM4
    have hl1 : ([[1]] : List (List Int)).length = 1 := rfl
    rw [hl1] at hve
    subst hve
    have hr := ref_Lay va4 vc4 N 0 0 0 hN2 (by decide) (by decide) (by decide) w4
    unfold RlPost cfgV at hr
    replace hr : Calls Try.prog 15 #[.agg #[.slice va4 1 vc4, .int .i64 N, .int .i64 0, .int .i64 0, .int .i64 0, .int .i64 1, .int .i64 0, .int .i64 40]] w4 (fun e w' => ∃ R, e = .returned (.pointer (some ⟨R, 0, none⟩)) ∧ IsRl w' R N ∧ w4.heap.size ≤ R ∧ Upd (fun _ => False) w4 w') := hr
    have hcy4 := Hhcy.out.still hu4
    have u4 := Hu3.out.trans hu4
    have hz4 := hu4.size
    have Hhcy4 := Lib.hid hcy4; clear hcy4
    have Hu4 := Lib.hid u4; clear u4
    have Hhr := Lib.hid hr; clear hr
    clear hM4 hu4 Hhc2 Hhcy Hu3
    go_wp2_with fail
    refine Hhr.out.mono ?_
    rintro e w5 ⟨rl, rfl, hR5, hrl, hu5⟩
    have hcy5 := Hhcy4.out.still hu5
    have u5 := Hu4.out.trans hu5
    have hz5 := hu5.size
    have Hhcy5 := Lib.hid hcy5; clear hcy5
    have Hu5 := Lib.hid u5; clear u5
    have HhR5 := Lib.hid hR5; clear hR5
    clear hu5 Hhr Hhcy4 Hu4 hl1
    go_wp2_with fail
    obtain ⟨R, hR⟩ : ∃ R, R = w5.heap.size := ⟨_, rfl⟩
    have hbR := Blk.new w5 [.pointer (some ⟨rl, 0, none⟩), .int .i64 ra, .int .i64 0, .int .i64 0, .pointer none, .int .i64 0] 70
    have uR : Upd (fun _ => False) w5 (w5.alloc (.cells #[.pointer (some ⟨rl, 0, none⟩), .int .i64 ra, .int .i64 0, .int .i64 0, .pointer none, .int .i64 0] 70)) := (Upd.refl _ _).alloc _
    have hzR : (w5.alloc (.cells #[.pointer (some ⟨rl, 0, none⟩), .int .i64 ra, .int .i64 0, .int .i64 0, .pointer none, .int .i64 0] 70)).heap.size = w5.heap.size + 1 := by simp
    rw [← hR] at hbR hzR ⊢
    have hbR : Blk (w5.alloc (.cells #[.pointer (some ⟨rl, 0, none⟩), .int .i64 ra, .int .i64 0, .int .i64 0, .pointer none, .int .i64 0] 70)) R [.pointer (some ⟨rl, 0, none⟩), .int .i64 ra, .int .i64 0, .int .i64 0, .pointer none, .int .i64 0] 70 := hbR
    generalize w5.alloc (.cells #[.pointer (some ⟨rl, 0, none⟩), .int .i64 ra, .int .i64 0, .int .i64 0, .pointer none, .int .i64 0] 70) = w6 at *
    have hcy6 := Hhcy5.out.still uR
    have u6 := Hu5.out.trans uR
    have hR6 := HhR5.out.upd uR (fun x => x)
    have hrl5 : rl < w5.heap.size := by obtain ⟨l9, h9, -⟩ := HhR5.out; exact h9.lt
    have hbl : ∀ w', Upd (fun _ => False) w6 w' → Calls Try.prog 22 #[.pointer (some ⟨L, 0, none⟩)] w' (fun e w2 => e = .returned (.int .i64 N) ∧ Q6 w6 R rl N w2 ∧ Upd (fun _ => False) w' w2) := fun w' u =>
      (lay_Blocks L N 0 0 0 hN2 (by decide) (by decide) (by decide) w' (hcy6.still u).lay).mono (fun e w2 ⟨q1, q2⟩ => ⟨q1, q6 hbR hR6 (u.trans q2), q2⟩)
    have hof : ∀ w', Upd (fun _ => False) w6 w' → Calls Try.prog 19 #[.int .i64 N, uv] w' (fun e w2 => (∃ b g, e = .returned (.pointer (some ⟨b, 0, none⟩)) ∧ MapF w2 b g N (bitW us) ∧ w6.heap.size ≤ b ∧ w6.heap.size ≤ g ∧ Q6 w6 R rl N w2 ∧ Upd (fun _ => False) w' w2)) := fun w' u => by
      have hof := map_OfF (N : Int) uv us w' (Hhus.out.upd (u6.trans u).none)
      unfold OfPost at hof
      rw [show (max 0 (min (N : Int) 1048576)).toNat = N from by omega] at hof
      exact hof.mono (fun e w2 ⟨b, g, q1, q2, q3, q4, q5⟩ => ⟨b, g, q1, q2, Nat.le_trans u.size q3, Nat.le_trans u.size q4, q6 hbR hR6 (u.trans q5), q5⟩)
    have hun : ∀ w', Upd (fun _ => False) w6 w' → Calls Try.prog 16 #[.int .i64 N, uv] w' (fun e w2 => (∃ g c, e = .returned (.slice (some ⟨g, 0, none⟩) N c) ∧ BoolsAt w6.heap.size w2 g c N (bitW us) ∧ Q6 w6 R rl N w2 ∧ Upd (fun _ => False) w' w2)) := fun w' u =>
      (ref_Unpack (N : Int) N uv us w' (Hhus.out.upd (u6.trans u).none) (by omega)).mono (fun e w2 ⟨g, c, q1, q2, q3⟩ => ⟨g, c, q1, ownsRow_base' q2 u.size, q6 hbR hR6 (u.trans q3), q3⟩)
    unfold Q6 at hbl hof hun
    have hsep : C < R ∧ L < R ∧ rl < R ∧ C < rl ∧ W.heap.size ≤ R := by have := Hu5.out.size; omega
    clear hR hrl5
    have d0 : w6.drew.cell? ⟨R, 0, none⟩ = some (.pointer (some ⟨rl, 0, none⟩)) := hbR.cell 0 rfl
    have d1 : w6.drew.cell? ⟨rl, 18, none⟩ = some (.int .i64 (N : Int)) := hR6.cell
    have hu0 := (Upd.refl (fun _ => False) w6).drew
    have hRlt := hbR.lt
    have Hhcy6 := Lib.hid hcy6; clear hcy6
    have Hu6 := Lib.hid u6; clear u6
    have HhR6 := Lib.hid hR6; clear hR6
    have HhbR := Lib.hid hbR; clear hbR
    have Hhbl := Lib.hid hbl; clear hbl
    have Hhof := Lib.hid hof; clear hof
    have Hhun := Lib.hid hun; clear hun
    have Hhsep := Lib.hid hsep; clear hsep
    clear uR HhR5 Hhcy5 Hu5 Hhus
    refine wp_hide (fun Q2 hQ2 => ?_)
    go_region_held3 (fun w' => w'.cell? ⟨R, 0, none⟩ = some (.pointer (some ⟨rl, 0, none⟩)) ∧ w'.cell? ⟨rl, 18, none⟩ = some (.int .i64 (N : Int)))
      (((try go_split_ands); exact ⟨by assumption, by assumption⟩))
      (((try go_split_ands); first
        | (go_at_call 22; (with_reducible refine (Hhbl.out _ (by assumption)).mono ?_); rintro e w7 ⟨rfl, ⟨hu7, ha7, hb7⟩, hv7⟩)
        | (go_at_call 19; (with_reducible refine (Hhof.out _ (by assumption)).mono ?_); rintro e w8 ⟨b, g, rfl, hM8, hb, hg, ⟨hu8, ha8, hb8⟩, hv8⟩)
        | (go_at_call 16; (with_reducible refine (Hhun.out _ (by assumption)).mono ?_); rintro e w9 ⟨vb, vc, rfl, hB9, ⟨hu9, ha9, hb9⟩, hv9⟩)))
    rw [hQ2.out]
    have hM9 := hM8.upd hv9 (fun x => x) (fun x => x)
    have hcy9 := Hhcy6.out.still hu9
    have hrc9 : IsRc w9 R rl (R + 1) 0 0 0 ⟨N, ra, 0, 0, mkNew 0 0, 0⟩ := ⟨⟨none, HhbR.out.upd hu9 (fun x => x), fun h => absurd rfl h⟩, HhR6.out.upd hu9 (fun x => x), fun h => absurd rfl h, ⟨by omega, by have := Hhsep.out.2.2.1; omega, by have := Hhsep.out.2.2.1; omega⟩, hcy9.ok⟩
    have u09 := Hu6.out.trans hu9
    obtain ⟨s1, s2, s3, s4, s5⟩ := Hhsep.out
    have hBz := hB9.lt
    have hMz := hM9.lt
    have hz69 := hu9.size
    clear hQ2 hM8 hu7 ha7 hb7 hv7 hu8 ha8 hb8 hv8 hu9 ha9 hb9 hv9 hu0 d0 d1 Hhbl Hhof Hhun Hhcy6 Hu6 HhR6 HhbR Hhsep
    have ks : Kst ⟨C, L, N, b, g, R, rl, vb, vc, w6.heap.size⟩ := ⟨by show C ≠ R; omega, by show C ≠ rl; omega, by show C ≠ b; omega, by show C ≠ g; omega, by show C ≠ vb; omega, by show R ≠ L; omega, by show R ≠ b; omega, by show R ≠ g; omega, by show R ≠ vb; omega⟩
    have hp0 : Pc W (fun _ => False) ⟨C, L, N, b, g, R, rl, vb, vc, w6.heap.size⟩ (bitW us) ⟨N, ra, 0, 0, mkNew 0 0, 0⟩ ⟨N, ra, 0, 0, mkNew 0 0, 0⟩ w9 := by
      refine ⟨_, R + 1, 0, 0, 0, hcy9, hrc9, hM9, hB9, u09, rfl, rfl, ⟨hCW, s5⟩, fun j hj => ?_, fun e => absurd rfl e, fun e => absurd rfl e, fun j hj => hj.elim⟩
      rcases hj with hj | hj | hj | hj | hj | hj | hj
      · have hj : j = C := hj
        omega
      · have hj : j = L := hj
        omega
      · have hj : j = b := hj
        omega
      · have hj : j = g := hj
        omega
      · have hj : j = R := hj
        omega
      · have hj : j = rl := hj
        omega
      · have hj : j = vb := hj
        omega
    have hok0 : CpOk N 0 ⟨N, ra, 0, 0, mkNew 0 0, 0⟩ := ⟨rfl, ⟨Int.le_refl _, Int.le_refl _⟩, Nat.zero_le _, fun _ => Nat.zero_le _⟩
    clear hcy9 hrc9 hM9 hB9 u09 hBz hMz hz69 s1 s2 s3 s4 s5 hb hg hCW
    generalize (⟨N, ra, 0, 0, mkNew 0 0, 0⟩ : Cy) = c0 at *
    obtain ⟨k, hk⟩ : ∃ k : Kb, k = ⟨C, L, N, b, g, R, rl, vb, vc, w6.heap.size⟩ := ⟨_, rfl⟩
    rw [← hk] at ks hp0
    obtain ⟨e1, e2, e3, e4, e5, e6, e7, e8, e9⟩ : C = k.C ∧ L = k.L ∧ N = k.N ∧ b = k.b ∧ g = k.g ∧ R = k.R ∧ rl = k.rl ∧ vb = k.vb ∧ vc = k.vc := by rw [hk]; exact ⟨rfl, rfl, rfl, rfl, rfl, rfl, rfl, rfl, rfl⟩
    clear hk hLz hCz hz4 hz5
    subst e1 e2 e3 e4 e5 e6 e7 e8 e9
    generalize bitW us = f at *
    have Hhp0 := Lib.hid hp0; clear hp0
    have Hhok0 := Lib.hid hok0; clear hok0
    have hlb2 := Hhlb.out
    clear hzR hRlt hrl
    have hAw := Lib.hid (fun w' (u : Upd (fun _ => False) W w') => awake21 W w' u)
    have hM2 := HhM.out
    go_upto_block 0 with fail
    go_cut [19] (fun i wx => Upd (fun _ => False) W wx)
    case first =>
      go_wp2_with fail
      go_loopw [19] (fun i wr => ∃ (j : Nat) (c : Cy), i = .int .i64 j ∧ j ≤ l.length ∧ j ≤ 150 ∧ Pc W (fun _ => False) k f c c wr ∧ CpOk k.N j c) (fun i _ => (150 - intOf i).toNat)
      case atStart => exact ⟨0, c0, rfl, Nat.zero_le _, Nat.zero_le _, Hhp0.out, Hhok0.out⟩
      case round =>
        obtain ⟨j, c, rfl, hj, hj150, hp, hok⟩ := hrel
        clear Hhp0 Hhok0
        by_cases hjN : j = l.length ∨ j = 150
        · have key : (¬ ((j : Int) < l.length)) ∨ (((j : Int) < l.length) ∧ ¬ ((j : Int) < 150)) := by omega
          have Hup := Lib.hid hp.up
          clear hp hok hjN
          rcases key with c1 | ⟨c1, c2⟩
          all_goals
            go_wp2_with fail
            go_meet
            exact Hup.out
        · have c1 : (j : Int) < l.length := by omega
          have c2 : (j : Int) < 150 := by omega
          obtain ⟨b0, off, ra2, rc2, ba2, bc2, hix, hc, hI1, hI2⟩ := Hhl0.out.at (show j < l.length by omega)
          obtain ⟨y0, y1, y2, y3⟩ := hc wr hp.up
          generalize l.getD j noCl = x at *
          obtain ⟨d, b, rs, bs⟩ := x
          simp only at y0 y1 y2 y3 hI1 hI2
          have hu : Upd (fun _ => False) wr (wr.alloc (.cells #[.int .i64 d, .int .i64 b, .slice ra2 rs.length rc2, .slice ba2 bs.length bc2] 75)) := (Upd.refl _ _).alloc _
          have hB := Blk.new wr [.int .i64 d, .int .i64 b, .slice ra2 rs.length rc2, .slice ba2 bs.length bc2] 75
          have hG : Pc W (fun q => q = wr.heap.size) k f c c (wr.alloc (.cells #[.int .i64 d, .int .i64 b, .slice ra2 rs.length rc2, .slice ba2 bs.length bc2] 75)) := hp.guard ks hu (fun q hq => Or.inr ⟨by omega, by subst hq; simp⟩)
          clear hc hjN
          by_cases h30 : (30 : Int) < rs.length ∨ (30 : Int) < bs.length
          · have Hs := Lib.hid (hp.still ks hu)
            have Hok := Lib.hid hok.later
            clear hp hok hG hB hI1 hI2
            have key : ((30 : Int) < rs.length) ∨ ((¬ (30 : Int) < rs.length) ∧ (30 : Int) < bs.length) := by omega
            clear h30
            rcases key with d1 | ⟨d1, d2⟩
            all_goals
              go_wp2_with fail
              go_roundw
              case rel => exact ⟨j + 1, c, by go_num, by omega, by omega, Hs.out, Hok.out⟩
              case measure => simp [intOf]; omega
          · have d1 : ¬ (30 : Int) < rs.length := by omega
            have d2 : ¬ (30 : Int) < bs.length := by omega
            clear h30 hp
            by_cases e0 : d = 0
            · subst e0
              go_wp2_with fail
              generalize wr.alloc (.cells #[.int .i64 0, .int .i64 b, .slice ra2 rs.length rc2, .slice ba2 bs.length bc2] 75) = wb at *
              have h1 := fun w' (u : Upd (fun _ => False) wb w') => (hG.still ks u).cBegin ks (fun e => e) ⟨hok.ep.1, by have := hok.ep.2; omega⟩ _ _ rs bs hI1 hI2 (by omega) (by omega)
              have h2 := fun w' (h : Pc W (fun q => q = wr.heap.size) k f (c.begin_ rs bs) c w') => h.mBegin ks ⟨hok.ep.1, by have := hok.ep.2; omega⟩ _ _ rs bs hI1 hI2 (by omega) (by omega)
              have Hok := Lib.hid (hok.begin_ rs bs)
              generalize c.begin_ rs bs = y at *
              generalize decide (c.ph = 0) = r at *
              have hB : Blk wb wr.heap.size [.int .i64 0, .int .i64 b, .slice ra2 rs.length rc2, .slice ba2 bs.length bc2] 75 := hB
              have HB := Lib.hid hB
              have hT := HB.out
              have k2 := hB.cell 2 rfl
              have k3 := hB.cell 3 rfl
              have huD := Lib.hid (fun nq w' (u : Upd (fun q => ¬ (q = wr.heap.size)) (wb.drewN nq) w') => show Upd (fun q => ¬ (q = wr.heap.size)) wb w' from ((Upd.refl _ _).drewN nq).trans u)
              have h1 := Lib.hid (show ∀ w', Upd (fun _ => False) wb w' → Calls Try.prog 33 #[.pointer (some ⟨k.C, 0, none⟩), .slice ra2 rs.length rc2, .slice ba2 bs.length bc2] w' (PcPost W (fun q => q = wr.heap.size) k f y c w' (.bool r)) from h1)
              have h2 := Lib.hid (show ∀ w', Pc W (fun q => q = wr.heap.size) k f y c w' → Calls Try.prog 39 #[.pointer (some ⟨k.R, 0, none⟩), .slice ra2 rs.length rc2, .slice ba2 bs.length bc2] w' (PcPost W (fun q => q = wr.heap.size) k f y y w' (.bool r)) from h2)
              have z0 : (r != r) = false := by simp
              clear hG hu hB hT hI1 hI2 hok
              refine wp_hide (fun Q2 hQ2 => ?_)
              go_region_held3 (fun w' => w'.cell? ⟨wr.heap.size, 2, none⟩ = some (.slice ra2 rs.length rc2) ∧ w'.cell? ⟨wr.heap.size, 3, none⟩ = some (.slice ba2 bs.length bc2))
                (((try go_split_ands); exact ⟨by first | assumption | simpa using k2, by first | assumption | simpa using k3⟩))
                (((try go_split_ands); first
                  | (go_at_call 33; (with_reducible refine (h1.out _ (by first | exact (Upd.refl _ _) | exact (Upd.refl _ _).drew | exact (Upd.refl _ _).drewN _)).mono ?_); rintro e w2 ⟨rfl, hp2, hu2⟩; have hu2b := huD.out _ w2 hu2; have hT := HB.out.upd hu2b (fun e => e rfl); have c2x := hT.cell 2 rfl; have c3x := hT.cell 3 rfl; have HT2 := Lib.hid hT; have V2 := Lib.hid (h2.out _ hp2); clear hT hu2 hu2b hp2)
                  | (go_at_call 39; (with_reducible refine V2.out.mono ?_); rintro e w3 ⟨rfl, hp3, hu3⟩; have H3 := Lib.hid hp3; have hT3 := HT2.out.upd hu3 (fun e => e rfl); have d2x := hT3.cell 2 rfl; have d3x := hT3.cell 3 rfl; have HT3 := Lib.hid hT3; clear hT3 hp3 hu3)))
              all_goals rw [hQ2.out]
              clear k2 k3
              go_wp2_with fail
              obtain ⟨l1, l2, l3, l4, l5, l6⟩ := H3.out.look ks b
              have q1 := fun (s : Later w3) => show s.val.cell? ⟨wr.heap.size, 1, none⟩ = some (.int .i64 b) from (HT3.out.upd s.up (fun x => x)).cell 1 rfl
              have z1 : (((y).ph : Int) != ((y).ph : Int)) = false := by simp
              have z2 : ((y).ep != (y).ep) = false := by simp
              generalize ((y).ph : Int) = p1 at l1 l5 z1
              generalize (y).ep = p2 at l2 l6 z2
              generalize (y).marked b = p3 at l3 l4
              have z3 : (p3 != p3) = false := by simp
              have Hs := Lib.hid (fun w4 (u : Upd (fun _ => False) w3 w4) => (show Pc W (fun _ => False) k f (y) (y) w4 from (H3.out.guard ks u (fun q hq => hq.elim))))
              have Hl1 := Lib.hid l1; clear l1
              have Hl2 := Lib.hid l2; clear l2
              have Hl3 := Lib.hid l3; clear l3
              have Hl4 := Lib.hid l4; clear l4
              refine wp_region_later (by kernel_rfl) (by kernel_rfl) ?_
              repeat (go_big_quiet_step ((first | (go_at_call 35; exact calls_later (Hl1.out _ (Later.up _))) | (go_at_call 43; exact calls_later (Hl2.out _ (Later.up _))) | (go_at_call 44; exact calls_later (Hl3.out _ (Later.up _))) | (go_at_call 45; exact calls_later (Hl4.out _ (Later.up _))))))
              refine wpQuiet_nil ?_
              intro w4 hw4
              have u4 : Upd (fun _ => False) w3 w4 := by
                obtain ⟨s, rfl⟩ := hw4
                exact s.up
              clear hw4
              clear q1 l5 l6
              go_wp2_with fail
              go_roundw
              case rel => exact ⟨j + 1, y, by go_num, by omega, by omega, Hs.out _ u4, Hok.out⟩
              case measure => simp [intOf]; omega
            · have f0 : (d == 0) = false := by rw [beq_eq_false_iff_ne]; exact e0
              by_cases e1 : d = 1
              · subst e1
                clear e0
                go_wp2_with fail
                generalize wr.alloc (.cells #[.int .i64 1, .int .i64 b, .slice ra2 rs.length rc2, .slice ba2 bs.length bc2] 75) = wb at *
                have h1 := fun w' (u : Upd (fun _ => False) wb w') => (hG.still ks u).cShade ks b
                have h2 := fun w' (h : Pc W (fun q => q = wr.heap.size) k f (c.shade b) c w') => h.mShade ks b
                have Hok := Lib.hid (hok.shade b)
                generalize c.shade b = y at *
                generalize c.shades b = r at *
                have hB : Blk wb wr.heap.size [.int .i64 1, .int .i64 b, .slice ra2 rs.length rc2, .slice ba2 bs.length bc2] 75 := hB
                have HB := Lib.hid hB
                have hT := HB.out
                have k1 := hB.cell 1 rfl
                have huD := Lib.hid (fun nq w' (u : Upd (fun q => ¬ (q = wr.heap.size)) (wb.drewN nq) w') => show Upd (fun q => ¬ (q = wr.heap.size)) wb w' from ((Upd.refl _ _).drewN nq).trans u)
                have h1 := Lib.hid (show ∀ w', Upd (fun _ => False) wb w' → Calls Try.prog 37 #[.pointer (some ⟨k.C, 0, none⟩), .int .i64 b] w' (PcPost W (fun q => q = wr.heap.size) k f y c w' (.bool r)) from h1)
                have h2 := Lib.hid (show ∀ w', Pc W (fun q => q = wr.heap.size) k f y c w' → Calls Try.prog 40 #[.pointer (some ⟨k.R, 0, none⟩), .int .i64 b] w' (PcPost W (fun q => q = wr.heap.size) k f y y w' (.bool r)) from h2)
                have z0 : (r != r) = false := by simp
                clear hG hu hB hT hI1 hI2 hok
                refine wp_hide (fun Q2 hQ2 => ?_)
                go_region_held3 (fun w' => w'.cell? ⟨wr.heap.size, 1, none⟩ = some (.int .i64 b))
                  (((try go_split_ands); first | assumption | simpa using k1))
                  (((try go_split_ands); first
                    | (go_at_call 37; (with_reducible refine (h1.out _ (by first | exact (Upd.refl _ _) | exact (Upd.refl _ _).drew | exact (Upd.refl _ _).drewN _)).mono ?_); rintro e w2 ⟨rfl, hp2, hu2⟩; have hu2b := huD.out _ w2 hu2; have hT := HB.out.upd hu2b (fun e => e rfl); have c1x := hT.cell 1 rfl; have HT2 := Lib.hid hT; have V2 := Lib.hid (h2.out _ hp2); clear hT hu2 hu2b hp2)
                    | (go_at_call 40; (with_reducible refine V2.out.mono ?_); rintro e w3 ⟨rfl, hp3, hu3⟩; have H3 := Lib.hid hp3; have hT3 := HT2.out.upd hu3 (fun e => e rfl); have d1x := hT3.cell 1 rfl; have HT3 := Lib.hid hT3; clear hT3 hp3 hu3)))
                all_goals rw [hQ2.out]
                clear k1
                go_wp2_with fail
                obtain ⟨l1, l2, l3, l4, l5, l6⟩ := H3.out.look ks b
                have q1 := fun (s : Later w3) => show s.val.cell? ⟨wr.heap.size, 1, none⟩ = some (.int .i64 b) from (HT3.out.upd s.up (fun x => x)).cell 1 rfl
                have z1 : (((y).ph : Int) != ((y).ph : Int)) = false := by simp
                have z2 : ((y).ep != (y).ep) = false := by simp
                generalize ((y).ph : Int) = p1 at l1 l5 z1
                generalize (y).ep = p2 at l2 l6 z2
                generalize (y).marked b = p3 at l3 l4
                have z3 : (p3 != p3) = false := by simp
                have Hs := Lib.hid (fun w4 (u : Upd (fun _ => False) w3 w4) => (show Pc W (fun _ => False) k f (y) (y) w4 from (H3.out.guard ks u (fun q hq => hq.elim))))
                have Hl1 := Lib.hid l1; clear l1
                have Hl2 := Lib.hid l2; clear l2
                have Hl3 := Lib.hid l3; clear l3
                have Hl4 := Lib.hid l4; clear l4
                refine wp_region_later (by kernel_rfl) (by kernel_rfl) ?_
                repeat (go_big_quiet_step ((first | (go_at_call 35; exact calls_later (Hl1.out _ (Later.up _))) | (go_at_call 43; exact calls_later (Hl2.out _ (Later.up _))) | (go_at_call 44; exact calls_later (Hl3.out _ (Later.up _))) | (go_at_call 45; exact calls_later (Hl4.out _ (Later.up _))))))
                refine wpQuiet_nil ?_
                intro w4 hw4
                have u4 : Upd (fun _ => False) w3 w4 := by
                  obtain ⟨s, rfl⟩ := hw4
                  exact s.up
                clear hw4
                clear q1 l5 l6
                go_wp2_with fail
                go_roundw
                case rel => exact ⟨j + 1, y, by go_num, by omega, by omega, Hs.out _ u4, Hok.out⟩
                case measure => simp [intOf]; omega
              · have f1 : (d == 1) = false := by rw [beq_eq_false_iff_ne]; exact e1
                by_cases e2 : d = 2
                · subst e2
                  clear e0 e1
                  go_wp2_with fail
                  generalize wr.alloc (.cells #[.int .i64 2, .int .i64 b, .slice ra2 rs.length rc2, .slice ba2 bs.length bc2] 75) = wb at *
                  have h1 := fun w' (u : Upd (fun _ => False) wb w') => (hG.still ks u).cAlloc ks b
                  have h2 := fun w' (h : Pc W (fun q => q = wr.heap.size) k f (c.alloc b) c w') => h.mAlloc ks b
                  have Hok := Lib.hid (hok.alloc b)
                  generalize c.alloc b = y at *
                  generalize c.allocs b = r at *
                  have hB : Blk wb wr.heap.size [.int .i64 2, .int .i64 b, .slice ra2 rs.length rc2, .slice ba2 bs.length bc2] 75 := hB
                  have HB := Lib.hid hB
                  have hT := HB.out
                  have k1 := hB.cell 1 rfl
                  have huD := Lib.hid (fun nq w' (u : Upd (fun q => ¬ (q = wr.heap.size)) (wb.drewN nq) w') => show Upd (fun q => ¬ (q = wr.heap.size)) wb w' from ((Upd.refl _ _).drewN nq).trans u)
                  have h1 := Lib.hid (show ∀ w', Upd (fun _ => False) wb w' → Calls Try.prog 38 #[.pointer (some ⟨k.C, 0, none⟩), .int .i64 b] w' (PcPost W (fun q => q = wr.heap.size) k f y c w' (.bool r)) from h1)
                  have h2 := Lib.hid (show ∀ w', Pc W (fun q => q = wr.heap.size) k f y c w' → Calls Try.prog 41 #[.pointer (some ⟨k.R, 0, none⟩), .int .i64 b] w' (PcPost W (fun q => q = wr.heap.size) k f y y w' (.bool r)) from h2)
                  have z0 : (r != r) = false := by simp
                  clear hG hu hB hT hI1 hI2 hok
                  refine wp_hide (fun Q2 hQ2 => ?_)
                  go_region_held3 (fun w' => w'.cell? ⟨wr.heap.size, 1, none⟩ = some (.int .i64 b))
                    (((try go_split_ands); first | assumption | simpa using k1))
                    (((try go_split_ands); first
                      | (go_at_call 38; (with_reducible refine (h1.out _ (by first | exact (Upd.refl _ _) | exact (Upd.refl _ _).drew | exact (Upd.refl _ _).drewN _)).mono ?_); rintro e w2 ⟨rfl, hp2, hu2⟩; have hu2b := huD.out _ w2 hu2; have hT := HB.out.upd hu2b (fun e => e rfl); have c1x := hT.cell 1 rfl; have HT2 := Lib.hid hT; have V2 := Lib.hid (h2.out _ hp2); clear hT hu2 hu2b hp2)
                      | (go_at_call 41; (with_reducible refine V2.out.mono ?_); rintro e w3 ⟨rfl, hp3, hu3⟩; have H3 := Lib.hid hp3; have hT3 := HT2.out.upd hu3 (fun e => e rfl); have d1x := hT3.cell 1 rfl; have HT3 := Lib.hid hT3; clear hT3 hp3 hu3)))
                  all_goals rw [hQ2.out]
                  clear k1
                  go_wp2_with fail
                  obtain ⟨l1, l2, l3, l4, l5, l6⟩ := H3.out.look ks b
                  have q1 := fun (s : Later w3) => show s.val.cell? ⟨wr.heap.size, 1, none⟩ = some (.int .i64 b) from (HT3.out.upd s.up (fun x => x)).cell 1 rfl
                  have z1 : (((y).ph : Int) != ((y).ph : Int)) = false := by simp
                  have z2 : ((y).ep != (y).ep) = false := by simp
                  generalize ((y).ph : Int) = p1 at l1 l5 z1
                  generalize (y).ep = p2 at l2 l6 z2
                  generalize (y).marked b = p3 at l3 l4
                  have z3 : (p3 != p3) = false := by simp
                  have Hs := Lib.hid (fun w4 (u : Upd (fun _ => False) w3 w4) => (show Pc W (fun _ => False) k f (y) (y) w4 from (H3.out.guard ks u (fun q hq => hq.elim))))
                  have Hl1 := Lib.hid l1; clear l1
                  have Hl2 := Lib.hid l2; clear l2
                  have Hl3 := Lib.hid l3; clear l3
                  have Hl4 := Lib.hid l4; clear l4
                  refine wp_region_later (by kernel_rfl) (by kernel_rfl) ?_
                  repeat (go_big_quiet_step ((first | (go_at_call 35; exact calls_later (Hl1.out _ (Later.up _))) | (go_at_call 43; exact calls_later (Hl2.out _ (Later.up _))) | (go_at_call 44; exact calls_later (Hl3.out _ (Later.up _))) | (go_at_call 45; exact calls_later (Hl4.out _ (Later.up _))))))
                  refine wpQuiet_nil ?_
                  intro w4 hw4
                  have u4 : Upd (fun _ => False) w3 w4 := by
                    obtain ⟨s, rfl⟩ := hw4
                    exact s.up
                  clear hw4
                  clear q1 l5 l6
                  go_wp2_with fail
                  go_roundw
                  case rel => exact ⟨j + 1, y, by go_num, by omega, by omega, Hs.out _ u4, Hok.out⟩
                  case measure => simp [intOf]; omega
                · have f2 : (d == 2) = false := by rw [beq_eq_false_iff_ne]; exact e2
                  clear e0 e1 e2
                  obtain ⟨wb, hwb⟩ : ∃ wb, wb = wr.alloc (.cells #[.int .i64 d, .int .i64 b, .slice ra2 rs.length rc2, .slice ba2 bs.length bc2] 75) := ⟨_, rfl⟩
                  rw [← hwb] at hu hB hG
                  have HB := Lib.hid hB
                  have hrf := law_refs ta tt.length tc wb
                  unfold RefsPost refsFn at hrf
                  have hpg : c.pg ≤ 50 := by have := hok.pg; omega
                  have hst := fun w2 bx (hc : w2.cell? ⟨bx, 0, none⟩ = some (.slice ta tt.length tc)) (hb : wb.heap.size ≤ bx) (u2 : Upd (fun _ => False) wb w2) => hG.cStep ks hpg hM2 hlb2 hc hb u2 HhwsM.out.1 (by omega : ws.length ≤ 1000)
                  have hmt := fun (gd : Nat → Prop) w' (h : Pc W gd k f (c.step (refsOf tt)) c w') => h.mStep ks hpg hM2 hlb2 HhwsM.out.1 (by omega : ws.length ≤ 1000)
                  have Hok := Lib.hid (hok.step (by omega) (refsOf tt))
                  generalize c.step (refsOf tt) = y at *
                  generalize c.weaks ws = xs at *
                  generalize c.blocks (bitI k.N f) = ys at *
                  unfold refsFn PcWork at hst
                  unfold PcTold at hmt
                  have hsm := Lib.hid (fun w u v (z : List Int) (hu : IntsR w u .i64 z) (hv : IntsR w v .i64 z) => show Calls Try.prog 17 #[u, v] w (RetK w (.bool true)) from by simpa using ref_SameInts u v z z w hu hv)
                  have Hhrf := Lib.hid hrf; clear hrf
                  have Hhst := Lib.hid hst; clear hst
                  have Hhmt := Lib.hid hmt; clear hmt
                  clear hG hu hB hI1 hI2 hok hpg
                  go_wp2_with (first
                    | (go_at_call 34; rw [← hwb]; (with_reducible refine Hhrf.out.mono ?_); rintro e w2 ⟨bx, rfl, hc2, hbx, hbx2, hu2⟩; have S2 := Lib.hid (Hhst.out w2 bx hc2 hbx hu2); have Hu2 := Lib.hid hu2; have HB2 := Lib.hid (HB.out.upd hu2 (fun x => x)); clear hc2 hbx hbx2 hu2)
                    | (go_at_call 36; (with_reducible refine S2.out.mono ?_); rintro e w3 ⟨a1, c1s, a2, c2s, rfl, ho1, ho2, hp3, hu3⟩; have HB3 := Lib.hid ((HB2.out.upd hu3 (fun e => e rfl)).alloc (.cells #[.slice a1 xs.length c1s, .slice a2 ys.length c2s] 60)); have HW3 := Lib.hid (Blk.new w3 [.slice a1 xs.length c1s, .slice a2 ys.length c2s] 60); have Ho1 := Lib.hid ho1; have Ho2 := Lib.hid ho2; have hg3 := Lib.hid (hp3.guard ks ((Upd.refl (fun _ => False) w3).alloc (.cells #[.slice a1 xs.length c1s, .slice a2 ys.length c2s] 60)) (gd' := (fun q => (q = wr.heap.size ∨ (wb.heap.size ≤ q ∧ q < w3.heap.size)) ∨ q = w3.heap.size)) (fun q hq => hq.elim Or.inl (fun e => Or.inr ⟨by omega, by subst e; simp⟩))); have M3 := Lib.hid (Hhmt.out _ _ hg3.out); clear ho1 ho2 hp3 hu3)
                    | (go_at_call 42; (with_reducible refine M3.out.mono ?_); rintro e w5 ⟨b1, d1s, b2, d2s, rfl, hi1, hi2, hp5, hu5⟩; have HB5 := Lib.hid (HB3.out.upd hu5 (fun e => e (Or.inl (Or.inl rfl)))); have hW5 := HW3.out.upd hu5 (fun e => e (Or.inr rfl)); have q0 := hW5.cell 0 rfl; have q1 := hW5.cell 1 rfl; have Hp5 := Lib.hid hp5; have Hs1 := Lib.hid (hsm.out w5 _ _ xs (ownsRow_intsR (ownsRow_own (ownsRow_upd Ho1.out ((Upd.refl (fun _ => False) w3).alloc (.cells #[.slice a1 xs.length c1s, .slice a2 ys.length c2s] 60)) (fun _ _ x => x)) hu5 (fun q e hn => hn (Or.inl (Or.inr (Ho1.out.lt q e)))))) hi1); have Hs2 := Lib.hid (fun w6 (u : Upd (fun _ => False) w5 w6) => hsm.out w6 _ _ ys (ints_upd (ownsRow_intsR (ownsRow_own (ownsRow_upd Ho2.out ((Upd.refl (fun _ => False) w3).alloc (.cells #[.slice a1 xs.length c1s, .slice a2 ys.length c2s] 60)) (fun _ _ x => x)) hu5 (fun q e hn => hn (Or.inl (Or.inr (Ho2.out.lt q e)))))) u) (ints_upd hi2 u)); clear hW5 hi1 hi2 hp5 hu5)
                    | (go_at_call 17; (with_reducible refine Hs1.out.mono ?_); rintro e w6 ⟨rfl, hu6⟩; have Hu6 := Lib.hid hu6; have q1b := (hu6.none.cell (World.block_lt_of_cell? w5 _ q1)).trans q1; clear hu6)
                    | (go_at_call 17; (with_reducible refine (Hs2.out w6 Hu6.out).mono ?_); rintro e w7 ⟨rfl, hu7⟩; have HT7 := Lib.hid (HB5.out.upd (Hu6.out.trans hu7) (fun x => x)); have H7 := Lib.hid (Hp5.out.still ks (Hu6.out.trans hu7)); clear hu7))
                  obtain ⟨l1, l2, l3, l4, l5, l6⟩ := H7.out.look ks b
                  have q1 := fun (s : Later w7) => show s.val.cell? ⟨wr.heap.size, 1, none⟩ = some (.int .i64 b) from (HT7.out.upd s.up (fun x => x)).cell 1 rfl
                  have z1 : (((y).ph : Int) != ((y).ph : Int)) = false := by simp
                  have z2 : ((y).ep != (y).ep) = false := by simp
                  generalize ((y).ph : Int) = p1 at l1 l5 z1
                  generalize (y).ep = p2 at l2 l6 z2
                  generalize (y).marked b = p3 at l3 l4
                  have z3 : (p3 != p3) = false := by simp
                  have Hs := Lib.hid (fun w4 (u : Upd (fun _ => False) w7 w4) => (show Pc W (fun _ => False) k f (y) (y) w4 from (H7.out.guard ks u (fun q hq => hq.elim))))
                  have Hl1 := Lib.hid l1; clear l1
                  have Hl2 := Lib.hid l2; clear l2
                  have Hl3 := Lib.hid l3; clear l3
                  have Hl4 := Lib.hid l4; clear l4
                  refine wp_region_later (by kernel_rfl) (by kernel_rfl) ?_
                  repeat (go_big_quiet_step ((first | (go_at_call 35; exact calls_later (Hl1.out _ (Later.up _))) | (go_at_call 43; exact calls_later (Hl2.out _ (Later.up _))) | (go_at_call 44; exact calls_later (Hl3.out _ (Later.up _))) | (go_at_call 45; exact calls_later (Hl4.out _ (Later.up _))))))
                  refine wpQuiet_nil ?_
                  intro w4 hw4
                  have u4 : Upd (fun _ => False) w7 w4 := by
                    obtain ⟨s, rfl⟩ := hw4
                    exact s.up
                  clear hw4
                  clear q1 l5 l6
                  go_wp2_with fail
                  go_roundw
                  case rel => exact ⟨j + 1, y, by go_num, by omega, by omega, Hs.out _ u4, Hok.out⟩
                  case measure => simp [intOf]; omega
    case rest =>
      have hup := hcut
      clear Hhp0 Hhok0 HhM Hhl0 Hhlb hlb2
      have Hhup := Lib.hid hup; clear hup
      go_wp2_with (go_at_call 30; (with_reducible refine (hAw.out _ Hhup.out).mono ?_); rintro e w10 ⟨rfl, hu10⟩)
      go_ret
      exact ⟨rfl, hu10.none⟩
  · have haw := awake21 W W (Upd.refl _ _)
    cases hlt : lightM tt
    · rw [hlt] at hlight
      have Hhlight := Lib.hid hlight; clear hlight
      have Hhaw := Lib.hid haw; clear haw
      have Hhl0 := Lib.hid hl0; clear hl0
      clear hM hgo hlt
      go_enter Try.func10, Try.ntmps10
      go_wp2_with (first | (go_at_call 29; (with_reducible refine Hhlight.out.mono ?_); rintro e w2 ⟨rfl, rfl⟩) | (go_at_call 30; (with_reducible refine Hhaw.out.mono ?_); rintro e w2 ⟨rfl, hu⟩))
      go_ret
      exact ⟨rfl, hu.none⟩
    · rw [hlt] at hlight hgo
      have key : ((20 : Int) < ws.length) := by
        have hgo2 : ¬ (ws.length ≤ 20) := fun h => hgo ⟨rfl, h⟩
        omega
      have Hhlight := Lib.hid hlight; clear hlight
      have Hhaw := Lib.hid haw; clear haw
      have Hhl0 := Lib.hid hl0; clear hl0
      clear hM hgo hlt
      have c1 := key
      clear key
      all_goals
        go_enter Try.func10, Try.ntmps10
        go_wp2_with (first | (go_at_call 29; (with_reducible refine Hhlight.out.mono ?_); rintro e w2 ⟨rfl, rfl⟩) | (go_at_call 30; (with_reducible refine Hhaw.out.mono ?_); rintro e w2 ⟨rfl, hu⟩))
        go_ret
        exact ⟨rfl, hu.none⟩

theorem own : ownKnob Try.prog.godebug = none := by kernel_rfl
theorem laidOut : laidOutB Try.prog = true := by kernel_rfl
set_option maxRecDepth 100000 in
theorem lifted (os : Os) (started : os.Started) (H : Type) (enc : TypeId × Value → H) :
    ReturnsInHanded {} Try.checked os 10 .any (Rows.cyclePlaysSpec.pre6 enc Try.prog Try.f10 Rows.cyclePlaysRow.domain false) (Rows.cyclePlaysSpec.post enc Try.prog Try.f10 false true false false) := by
  refine returnsInHanded_of_change_sized (C := Try.checked) own started (by kernel_rfl) Try.func10
    (ChangeSpec.witness6 (enc := enc) (C := Try.checked) false ⟨#[], #[.int .i64 0, .int .i64 0, .slice none 0 0, .slice none 0 0, .slice none 0 0, .slice none 0 0], []⟩ 8 (by kernel_rfl) (by kernel_rfl) (by kernel_rfl) (by kernel_rfl)) ?_
  intro W base args ds gs before hval0 hW _ hsz0 _
  have hsz : (DataW.weightsEach Try.prog (Try.f10.params.toList ++ Rows.cyclePlaysSpec.plain.varTypes Try.prog) (ds ++ gs)).all (· ≤ reachBytes) = true := hsz0
  clear hsz0
  have hval : ∀ (j : Nat) t v, Try.f10.params[j]? = some t → args[j]? = some v → Value.okWide Try.prog W .any base t v := hval0
  have hW' := hW
  obtain ⟨p, q, hA0, hV, rfl, _, _⟩ := hW
  have hA : DataW.TrodAll enc Try.prog W 0 (fun _ => true) true Try.f10.params.toList args.toList ds p := hA0
  rw [Try.params10] at hA hval hsz
  obtain ⟨v0, vs0, d0, ds0, p0, q0, hargs, rfl, rfl, h0, r0⟩ := trodAll_cons hA
  obtain ⟨v1, vs1, d1, ds1, p1, q1, rfl, rfl, rfl, h1, r1⟩ := trodAll_cons r0
  obtain ⟨v2, vs2, d2, ds2, p2, q2, rfl, rfl, rfl, h2, r2⟩ := trodAll_cons r1
  obtain ⟨v3, vs3, d3, ds3, p3, q3, rfl, rfl, rfl, h3, r3⟩ := trodAll_cons r2
  obtain ⟨v4, vs4, d4, ds4, p4, q4, rfl, rfl, rfl, h4, r4⟩ := trodAll_cons r3
  obtain ⟨v5, vs5, d5, ds5, p5, q5, rfl, rfl, rfl, h5, r5⟩ := trodAll_cons r4
  obtain ⟨rfl, rfl, rfl⟩ := trodAll_nil r5
  obtain rfl : args = #[v0, v1, v2, v3, v4, v5] := by cases args; simp_all
  obtain ⟨rfl, rfl⟩ := trodVars_none hV
  clear hA0 hval0
  simp only [List.append_nil] at hW'
  have hlt : ∀ x, (x ∈ p0 ∨ x ∈ p1 ∨ x ∈ p2 ∨ x ∈ p3 ∨ x ∈ p4 ∨ x ∈ p5) → x.block < W.heap.size := fun x hx => by simpa using hW'.lt x (by simpa using hx)
  have k0 : ∀ (W' : World), Below W.heap.size W W' → DataW.Trod enc Try.prog W' 0 (fun b => decide (b < W.heap.size)) true 3 v0 d0 p0 :=
    fun W' hn => Below.trod laidOut (by kernel_rfl) (of_decide_eq_true (by kernel_rfl)) h0 hn (fun x hx => hlt x (Or.inl hx))
  have k1 : ∀ (W' : World), Below W.heap.size W W' → DataW.Trod enc Try.prog W' 0 (fun b => decide (b < W.heap.size)) true 3 v1 d1 p1 :=
    fun W' hn => Below.trod laidOut (by kernel_rfl) (of_decide_eq_true (by kernel_rfl)) h1 hn (fun x hx => hlt x (Or.inr (Or.inl hx)))
  have k2 : ∀ (W' : World), Below W.heap.size W W' → DataW.Trod enc Try.prog W' 0 (fun b => decide (b < W.heap.size)) true 52 v2 d2 p2 :=
    fun W' hn => Below.trod laidOut (by kernel_rfl) (of_decide_eq_true (by kernel_rfl)) h2 hn (fun x hx => hlt x (Or.inr (Or.inr (Or.inl hx))))
  have k3 : ∀ (W' : World), Below W.heap.size W W' → DataW.Trod enc Try.prog W' 0 (fun b => decide (b < W.heap.size)) true 37 v3 d3 p3 :=
    fun W' hn => Below.trod laidOut (by kernel_rfl) (of_decide_eq_true (by kernel_rfl)) h3 hn (fun x hx => hlt x (Or.inr (Or.inr (Or.inr (Or.inl hx)))))
  have k4 : ∀ (W' : World), Below W.heap.size W W' → DataW.Trod enc Try.prog W' 0 (fun b => decide (b < W.heap.size)) true 23 v4 d4 p4 :=
    fun W' hn => Below.trod laidOut (by kernel_rfl) (of_decide_eq_true (by kernel_rfl)) h4 hn (fun x hx => hlt x (Or.inr (Or.inr (Or.inr (Or.inr (Or.inl hx))))))
  have k5 : ∀ (W' : World), Below W.heap.size W W' → DataW.Trod enc Try.prog W' 0 (fun b => decide (b < W.heap.size)) true 66 v5 d5 p5 :=
    fun W' hn => Below.trod laidOut (by kernel_rfl) (of_decide_eq_true (by kernel_rfl)) h5 hn (fun x hx => hlt x (Or.inr (Or.inr (Or.inr (Or.inr (Or.inr (hx)))))))
  obtain ⟨a0, rfl, _, _, w0⟩ := open_int Try.underlying3 (hval 0 3 v0 rfl rfl) h0
  obtain ⟨a1, rfl, _, _, w1⟩ := open_int Try.underlying3 (hval 1 3 v1 rfl rfl) h1
  obtain ⟨x2, hx2⟩ := open_matAt Try.underlying52 Try.underlying37 Try.underlying3 (by kernel_rfl) (by kernel_rfl) (by kernel_rfl) (hval 2 52 v2 rfl rfl) h2 hsz 2 rfl rfl
  obtain ⟨x3, hx3⟩ := open_intsAt (bytes := 8) Try.underlying37 Try.underlying3 (by kernel_rfl) (by kernel_rfl) (hval 3 37 v3 rfl rfl) h3 hsz 3 rfl rfl
  obtain ⟨x4, hx4⟩ := open_intsAt (bytes := 8) Try.underlying23 Try.underlying82 (by kernel_rfl) (by kernel_rfl) (hval 4 23 v4 rfl rfl) h4 hsz 4 rfl rfl
  obtain ⟨x5, hx5⟩ := open_cls (hval 5 66 v5 rfl rfl) h5 hsz 5 rfl rfl
  refine (walk (W := W) a0 w0 a1 w1 v2 x2 hx2 v3 x3 hx3 v4 x4 hx4 v5 x5 hx5).mono fun e W' ⟨he, hb⟩ => ?_
  subst he
  refine ⟨_, rfl, _, _, _, [], p0 ++ (p1 ++ (p2 ++ (p3 ++ (p4 ++ (p5 ++ ([])))))), [], hW', ?_, ?_, rfl, hb.frame _, fun h => by cases h⟩
  · exact trodAll_cons_mk (shut_bool Try.underlying4 true) trodAll_mk0
  · exact trodAll_cons_mk (k0 _ hb) (trodAll_cons_mk (k1 _ hb) (trodAll_cons_mk (k2 _ hb) (trodAll_cons_mk (k3 _ hb) (trodAll_cons_mk (k4 _ hb) (trodAll_cons_mk (k5 _ hb) (trodAll_mk0))))))

theorem over : Rows.cyclePlaysRow.holds Try.pinned (OpenSpec.ofChange Rows.cyclePlaysSpec) :=
  OpenClaim.holds_of_wide 10 Try.f10 rfl rfl rfl rfl rfl rfl rfl ⟨rfl, rfl, rfl, rfl, rfl⟩ rfl rfl rfl rfl rfl (by kernel_rfl) Try.func10 (by kernel_rfl)
    (of_decide_eq_true (by kernel_rfl)) (by unfold Func.isWrapper; first | (rw [if_pos (by decide +kernel)]; kernel_rfl) | (rw [if_neg (by decide +kernel)]; exact ⟨rfl, rfl⟩))
    (fun os started H enc _ => lifted os started H enc)

/-- The given statement. -/
theorem proved : Rows.CyclePlaysSaid := over
#print axioms proved
end Go.Proofs.Ythaicpjgmplgcaa.cyclePlays
