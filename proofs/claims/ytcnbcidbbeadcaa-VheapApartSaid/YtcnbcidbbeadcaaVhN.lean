/- A heap of volatile objects: the walk of Make. -/
import Derived.Test.YtcnbcidbbeadcaaVhM
import Derived.Deep.RegionWith
namespace Go.Proofs.Ytcnbcidbbeadcaa
open Go.RowKit Go.Deep
set_option linter.unusedVariables false

set_option maxRecDepth 100000 in
set_option maxHeartbeats 4000000 in
theorem vh_Make {w : World} {b base : Nat} {ks : List (List Int)} {o : Nat → VOb} {kv : Value} {F : Nat → Value} (h : IsVh w b base ks o kv F) (k : Int) :
    Calls Try.prog 25 #[.pointer (some ⟨b, 0, none⟩), .int .i64 k] w (RetMk w b base ks kv (makeV ks o k)) := by
  obtain ⟨r, hr⟩ : ∃ r, makeV ks o k = r := ⟨_, rfl⟩
  rw [hr]
  have hof : ofK ks k = if 0 ≤ k ∧ k < ks.length ∧ k < 16 ∧ MayK (ks.getD k.toNat []) = true then some (ks.getD k.toNat []) else none := rfl
  obtain ⟨H, hR, hrows⟩ := h.kinds w (Upd.refl _ _)
  have hX := Lib.hid hR
  obtain ⟨va, vc, rfl, hcap1, hcap, -⟩ := hR
  have l1 : (ks.length : Int) ≤ 9223372036854775807 := by unfold maxLen at hcap; omega
  have hc0 : w.cell? ⟨b, 0, none⟩ = some (.slice va ks.length vc) := h.blk.cell 0 rfl
  have hno := Lib.hid (fun (n : Int) (hn : r = (o, 0, n)) w' (u : Upd (fun _ => False) w w') => show RetMk w b base ks (.slice va ks.length vc) r (.returned (.tuple #[.int .i64 0, .int .i64 n])) w' from hn ▸ mk_same h n u)
  unfold makeV at hr
  clear hcap hcap1
  by_cases k0 : k < 0
  · rw [if_neg (fun h => by omega)] at hof
    rw [hof] at hr
    have fin := Lib.hid (hno.out 3 hr.symm)
    clear hof hr h hrows hno
    go_enter Try.func25, Try.ntmps25
    go_wp2
    go_step3
    go_wp2
    rw [Exit.noGoto_ret]
    go_ret2
    exact fin.out _ (Upd.refl _ _)
  · by_cases k1 : k < ks.length
    · by_cases k2 : k < 16
      · obtain ⟨kn, rfl⟩ : ∃ kn : Nat, k = kn := ⟨k.toNat, by omega⟩
        have hy : kn < ks.length := by omega
        obtain ⟨b0, off, hix, hb0, hc⟩ := hX.out.index (P := Try.prog) Try.underlying22 (by kernel_rfl) (by kernel_rfl) hy
        simp only [Nat.mul_one] at hix hc
        have hck : w.cell? ⟨b0, off + kn, none⟩ = some (H kn) := hc 0 (by decide)
        have hf := hrows kn hy
        have k16 : ¬ (kn : Int) ≥ 16 := by omega
        have k1' : ¬ (kn : Int) ≥ ks.length := by omega
        rw [show (kn : Int).toNat = kn from by omega] at hof
        obtain ⟨fa, fc, hfe⟩ : ∃ fa fc, H kn = .slice fa (ks.getD kn []).length fc := by
          obtain ⟨fa, fc, h1, -⟩ := hf
          exact ⟨fa, fc, h1⟩
        rw [hfe] at hf hck
        have hm := Lib.hid (fun w' (u : Upd (fun _ => False) w w') => kind_May _ _ w' (ints_upd hf u))
        by_cases hMay : MayK (ks.getD kn []) = true
        · rw [if_pos ⟨by omega, by omega, by omega, hMay⟩] at hof
          rw [hof] at hr
          simp only at hr
          have h15 := (mayK_facts _ hMay).2.1
          rw [hMay] at hm
          generalize ks.getD kn [] = f at *
          have hzr := Lib.hid (fun w' (u : Upd (fun _ => False) w w') => kind_Zero _ f w' (ints_upd hf u) h15)
          have hcs := Lib.hid (fun w' (u : Upd (fun _ => False) w w') i (hi : i < 64) => ((h.still u).cell i hi))
          have hfr := Lib.hid (fun w' (u : Upd (fun _ => False) w w') j => (h.still u).blk.free j)
          have hput := Lib.hid (fun w2 w3 (u2 : Upd (fun _ => False) w w2) (u3 : Upd (fun _ => False) w2 w3) i (hi : i < 64) a c hr y hy => mk_put (o := o) h u2 u3 hi (kn : Int) hof h15 (a := a) (c := c) hr y hy)
          have hcc := Lib.hid (fun w' (u : Upd (fun _ => False) w w') => (⟨(h.still u).blk.cell 0 rfl, (u.none.cell (p := ⟨b0, off + kn, none⟩) hb0).trans hck⟩ : w'.cell? ⟨b, 0, none⟩ = some (.slice va ks.length vc) ∧ w'.cell? ⟨b0, off + kn, none⟩ = some (.slice fa f.length fc)))
          have hpl := Lib.hid (fun (i : Nat) (hi : i < 64) w => vh_place (i : Int) w (by omega) (by omega))
          clear hof hf hMay h hfe hrows hc
          have Hhr := Lib.hid hr; clear hr
          go_enter Try.func25, Try.ntmps25
          go_wp2
          refine wp_scope_loop 0 (fun a' w' => ∃ (i : Nat) (u2 u3 u4 u5 u7 u8 u9 u10 u11 u12 u13 u14 u15 u16 u17 u18 u19 u20 u21 u22 u23 u24 u25 u26 u27 u28 u29 u30 u31 u32 u33 u34 u35 u36 u37 u38 u39 u40 u41 u42 u43 u44 u45 u46 u47 u48 u49 u50 u51 u52 u53 u54 u55 u56 u57 u58 u59 u60 u61 u62 : Value), a' = { tmps := #[.pointer (some ⟨b, 0, none⟩), .int .i64 kn, u2, u3, u4, u5, .int .i64 i, u7, u8, u9, u10, u11, u12, u13, u14, u15, u16, u17, u18, u19, u20, u21, u22, u23, u24, u25, u26, u27, u28, u29, u30, u31, u32, u33, u34, u35, u36, u37, u38, u39, u40, u41, u42, u43, u44, u45, u46, u47, u48, u49, u50, u51, u52, u53, u54, u55, u56, u57, u58, u59, u60, u61, u62], defers := [] } ∧ i ≤ 64 ∧ freeFrom o i (64 - i) = freeV o ∧ Upd (fun _ => False) w w') (fun a' _ => (64 - intOf (a'.tmps.getD 6 undef)).toNat) rfl ?_ ?_
          · rintro a' w2 ⟨i, u2, u3, u4, u5, u7, u8, u9, u10, u11, u12, u13, u14, u15, u16, u17, u18, u19, u20, u21, u22, u23, u24, u25, u26, u27, u28, u29, u30, u31, u32, u33, u34, u35, u36, u37, u38, u39, u40, u41, u42, u43, u44, u45, u46, u47, u48, u49, u50, u51, u52, u53, u54, u55, u56, u57, u58, u59, u60, u61, u62, rfl, hi, hfree, hu⟩
            clear hc0 hck
            obtain ⟨hc0, hck⟩ := hcc.out w2 hu
            by_cases hi2 : i = 64
            · subst hi2
              have fin := Lib.hid (hno.out 5 (by have := Hhr.out; rw [← hfree] at this; exact this.symm) w2 hu)
              clear hu hfree
              rw [show ((64 : Nat) : Int) = 64 from rfl]
              go_wp2
              simp only [Exit.jump]
              go_ret2
              exact fin.out
            · have hi3 : i < 64 := by omega
              have hi4 : (i : Int) < 64 := by omega
              have hi5 : ((i : Int) == 64) = false := by rw [beq_eq_false_iff_ne]; omega
              obtain ⟨c1, c2, c3⟩ := hcs.out w2 hu i hi3
              have hfs : freeFrom o i (64 - i) = if (o i).used = true then freeFrom o (i + 1) (64 - (i + 1)) else some i := by
                obtain ⟨m, hm⟩ : ∃ m, 64 - i = m + 1 := ⟨63 - i, by omega⟩
                rw [hm, show 64 - (i + 1) = m from by omega]
                rfl
              cases hus : (o i).used with
              | true =>
                rw [hus] at c1 hfs
                rw [if_pos rfl] at hfs
                have hfree2 := hfs.symm.trans hfree
                have Hhu := Lib.hid hu; clear hu
                have Hhfree2 := Lib.hid hfree2; clear hfree2
                clear hfree hfs hi2
                go_wp2
                go_step3
                exact ⟨rfl, ⟨i + 1, _, _, _, _, _, _, _, _, _, _, _, _, _, _, _, _, _, _, _, _, _, _, _, _, _, _, _, _, _, _, _, _, _, _, _, _, _, _, _, _, _, _, _, _, _, _, _, _, _, _, _, _, _, _, _, _, _, _, _, _, rfl, by omega, Hhfree2.out, Hhu.out⟩, by simp [intOf]; omega⟩
              | false =>
                rw [hus] at c1 hfs
                rw [if_neg (by decide)] at hfs
                have hre : r = (setO o i ⟨true, (kn : Int), zeroVals f f.length⟩, -1 - (i : Int), 0) := by
                  have := Hhr.out
                  rw [← hfree, hfs] at this
                  exact this.symm
                have hcD := Lib.hid (fun w3 (u3 : Upd (fun _ => False) w2.drew w3) => hcs.out w3 (hu.drew.trans u3) i hi3)
                have hfD := Lib.hid (fun w3 (u3 : Upd (fun _ => False) w2.drew w3) j => hfr.out w3 (hu.drew.trans u3) j)
                have hzD := Lib.hid (hzr.out w2.drew hu.drew)
                have fin := Lib.hid (fun w3 (u3 : Upd (fun _ => False) w2.drew w3) a c ho y hy => show RetMk w b base ks (.slice va ks.length vc) r _ _ from hre ▸ hput.out w2.drew w3 hu.drew u3 i hi3 a c ho y hy)
                have hplc := Lib.hid (hpl.out i hi3)
                have Hhu := Lib.hid hu; clear hu
                have Hhre := Lib.hid hre; clear hre
                clear hfree hfs hi2 hzr hput
                go_wp2_with fail
                go_region_with (go_at_call 59; (with_reducible refine hzD.out.mono ?_); rintro e w3 ⟨a, c, rfl, ho3, hu3⟩; obtain ⟨g1, g2, g3⟩ := hcD.out w3 hu3; have q1 := hfD.out w3 hu3 (1 + i * 3); have q2 := hfD.out w3 hu3 (1 + i * 3 + 1); have q3 := hfD.out w3 hu3 (1 + i * 3 + 2); have Ho3 := Lib.hid ho3; have Hu3 := Lib.hid hu3; clear ho3 hu3)
                all_goals go_wp2_with (go_at_call 60; (with_reducible refine (hplc.out _).mono ?_); rintro e w4 ⟨rfl, rfl⟩)
                all_goals simp only [Exit.jump]
                all_goals go_ret2
                all_goals exact fin.out _ Hu3.out _ _ Ho3.out _ rfl
          · intro Hk
            have hm0 := Lib.hid (hm.out w (Upd.refl _ _))
            go_wp2_with (go_at_call 58; (with_reducible refine hm0.out.mono ?_); rintro e w2 ⟨rfl, hu2⟩; have Hu2 := Lib.hid hu2; clear hu2)
            go_step3
            rename_i hK
            exact hK _ _ (Hk _ _ ⟨0, _, _, _, _, _, _, _, _, _, _, _, _, _, _, _, _, _, _, _, _, _, _, _, _, _, _, _, _, _, _, _, _, _, _, _, _, _, _, _, _, _, _, _, _, _, _, _, _, _, _, _, _, _, _, _, _, _, _, _, _, rfl, by omega, rfl, Hu2.out⟩)
        · rw [if_neg (fun h => hMay h.2.2.2)] at hof
          rw [hof] at hr
          rw [show MayK (ks.getD kn []) = false from by simpa using hMay] at hm
          have fin := Lib.hid (hno.out 3 hr.symm)
          have hm0 := Lib.hid (hm.out w (Upd.refl _ _))
          generalize (ks.getD kn []).length = fl at *
          clear hof hr h hrows hno hf hMay hfe hc hm
          go_enter Try.func25, Try.ntmps25
          go_wp2
          go_step3
          go_wp2_with (go_at_call 58; (with_reducible refine hm0.out.mono ?_); rintro e w2 ⟨rfl, hu2⟩; have Hu2 := Lib.hid hu2; clear hu2)
          rw [Exit.noGoto_ret]
          go_ret2
          exact fin.out _ Hu2.out
      · rw [if_neg (fun h => k2 h.2.2.1)] at hof
        rw [hof] at hr
        have fin := Lib.hid (hno.out 3 hr.symm)
        have k16 : (16 : Int) ≤ k := by omega
        have k1' : ¬ k ≥ (ks.length : Int) := by omega
        clear hof hr h hrows hno
        go_enter Try.func25, Try.ntmps25
        go_wp2
        go_step3
        go_wp2
        rw [Exit.noGoto_ret]
        go_ret2
        exact fin.out _ (Upd.refl _ _)
    · rw [if_neg (fun h => k1 h.2.1)] at hof
      rw [hof] at hr
      have fin := Lib.hid (hno.out 3 hr.symm)
      have k1' : (ks.length : Int) ≤ k := by omega
      clear hof hr h hrows hno
      go_enter Try.func25, Try.ntmps25
      go_wp2
      go_step3
      go_wp2
      rw [Exit.noGoto_ret]
      go_ret2
      exact fin.out _ (Upd.refl _ _)
end Go.Proofs.Ytcnbcidbbeadcaa
