/- An object's words are its header and its fields' words, each where Field says. No condition. -/
import Derived.Test.YtcnbcidbbeadcaaObjR
import Derived.Test.YtcnbcidbbeadcaaAw11
import Derived.Test.YtcnbcidbbeadcaaLater
import Derived.SizedLaws
import Derived.Deep.DrawnRows
namespace Go.Proofs.Ytcnbcidbbeadcaa.objectParts
open Go.ChangeShapes Go.WideShapes Go.ChangeAt Go.RowKit
set_option linter.unusedVariables false

theorem encO_cases (ks : List (List Int)) (k : Int) (xs : List Val) (ep : Nat) : (∃ m : Int, m ≠ 0 ∧ encO ks k xs ep = ([], m)) ∨
    ∃ f ws, ofK ks k = some f ∧ xs.length = f.length ∧ vwTo f xs f.length = some ws ∧ encO ks k xs ep = (makeN k.toNat (kW f) ep :: ws, 0) := by
  unfold encO
  cases ho : ofK ks k with
  | none => exact Or.inl ⟨3, by decide, rfl⟩
  | some f =>
    by_cases hl : xs.length ≠ f.length
    · simp only [if_pos hl]
      exact Or.inl ⟨4, by decide, rfl⟩
    · simp only [if_neg hl]
      cases hv : vwTo f xs f.length with
      | none => exact Or.inl ⟨3, by decide, rfl⟩
      | some ws => exact Or.inr ⟨f, ws, rfl, by omega, hv, rfl⟩
theorem vwTo_prefix {f : List Int} {xs : List Val} {n : Nat} {ws : List Nat} (h : vwTo f xs n = some ws) : ∀ k, k ≤ n → ∃ us post, vwTo f xs k = some us ∧ ws = us ++ post := by
  induction n generalizing ws with
  | zero =>
    intro k hk
    obtain rfl : k = 0 := by omega
    exact ⟨ws, [], h, by simp⟩
  | succ n ih =>
    intro k hk
    by_cases e : k = n + 1
    · subst e
      exact ⟨ws, [], h, by simp⟩
    · obtain ⟨us, vs, h1, h2, rfl⟩ := vwTo_inv h
      obtain ⟨a, b, h3, rfl⟩ := ih h1 k (by omega)
      exact ⟨a, b ++ vs, h3, by simp⟩
theorem part_at {ks : List (List Int)} {k : Int} {f : List Int} {xs : List Val} {ws pre : List Nat} {j : Nat} (ho : ofK ks k = some f) (hw : vwTo f xs f.length = some ws) (hj : j < f.length) (hp : vwTo f xs j = some pre) :
    ∃ us, vwTo f xs (j + 1) = some (pre ++ us) ∧ fldO ks k j (xs.getD j zeroV) = (1 + (pre.length : Int), us, 0) ∧ ∃ post, ws = pre ++ us ++ post := by
  obtain ⟨us2, post, h1, h2⟩ := vwTo_prefix hw (j + 1) (by omega)
  obtain ⟨a, us, h3, h4, rfl⟩ := vwTo_inv h1
  rw [hp] at h3
  cases h3
  refine ⟨us, h1, ?_, post, h2⟩
  unfold fldO
  rw [ho]
  have hk := (mayK_facts f (ofK_some ho).2.2.2.1).2.2.2.1
  simp only [show ¬ ((j : Int) < 0 ∨ (f.length : Int) ≤ j) from by omega, if_false, show (j : Int).toNat = j from by omega, h4]
  congr 1
  unfold offK
  rw [if_neg (by omega), show (j : Int).toNat = j from by omega, ← vwTo_len (by omega) hp]
theorem whole_len {ks : List (List Int)} {k : Int} {f : List Int} {xs : List Val} {ws : List Nat} (ho : ofK ks k = some f) (hw : vwTo f xs f.length = some ws) : 1 + ws.length = kW f := by
  have hk := (mayK_facts f (ofK_some ho).2.2.2.1).2.2.2.1
  rw [kW_eq f hk, vwTo_len (Nat.le_refl _) hw, List.take_length]

theorem ref_header' (kn n ep kw hd : Nat) (w : World) (hk : kn < 16) (h1 : 0 < kw) (h2 : kw ≤ 16) (he : ep < 2 ^ 64) (hn : n = kw) (hh : makeN kn kw ep = hd) : Calls Try.prog 22 #[.int .i64 kn, .int .i64 n, .int .u64 ep] w (fun e w' => e = .returned (.int .u64 (hd : Int)) ∧ Upd (fun _ => False) w w') := by
  subst hn hh
  exact (ref_header kn n ep w hk h1 h2 he).mono (fun e w' h => ⟨h.1, by obtain ⟨-, rfl⟩ := h; exact Upd.refl _ _⟩)

set_option maxRecDepth 100000 in
set_option maxHeartbeats 4000000 in
theorem walk {W : World} (kv : Value) (ks : List (List Int)) (hks : MatIn W kv ks ∧ ks.length * 24 ≤ 140737488351232) (k : Int) (wk : (Lit.int .i64 k).wf = true) (fv : Value) (xs : List Val) (hxs : ValsIn W fv xs)
    (epI : Int) (we : (Lit.int .u64 epI).wf = true) :
    Calls Try.prog 4 #[kv, .int .i64 k, fv, .int .u64 epI] W (LawPost W) := by
  obtain ⟨ep, rfl, hep⟩ := wf_u64 we
  obtain ⟨hF, hoks⟩ := hxs
  have hM := hks.1
  clear hks wk we
  have hE := Lib.hid (fun w' (u : Upd (fun _ => False) W w') => object_Encode kv fv ks k xs ep hep hoks w' (hM.upd u.none) (hF.upd u.none))
  have hzok : ∀ j, (xs.getD j zeroV).ok := by
    intro j
    by_cases hj : j < xs.length
    · have : xs.getD j zeroV = xs[j] := by simp [List.getD, hj]
      rw [this]
      exact hoks _ (List.getElem_mem hj)
    · have : xs.getD j zeroV = zeroV := by simp [List.getD, hj]
      rw [this]
      exact zeroV_ok
  have hD := Lib.hid (fun (j : Nat) w' (u : Upd (fun _ => False) W w') => object_Field kv ks k j (xs.getD j zeroV) (hzok j) w' (hM.upd u.none))
  have hFX := Lib.hid hF
  obtain ⟨fa, fc, rfl, hfc1, hfc2, -⟩ := hF
  have hx1 : (xs.length : Int) ≤ 9223372036854775807 := by unfold maxLen at hfc2; omega
  have hl := Lib.hid (light11 kv ks _ hM)
  clear hfc1 hfc2 hoks hzok hM
  have hcs := Lib.hid (encO_cases ks k xs ep)
  go_enter Try.func4, Try.ntmps4
  go_wp2_with fail
  refine hl.out.mono ?_
  rintro e w2 ⟨b, rfl, hu2⟩
  have HU2 := Lib.hid hu2
  clear hu2
  cases b with
  | false =>
    go_wp2_with (go_at_call 16; (with_reducible refine (awake11 _).mono ?_); rintro e w3 ⟨rfl, hu3⟩; have HU3 := Lib.hid (HU2.out.trans hu3); clear hu3)
    go_ret
    exact ⟨rfl, Upd.none HU3.out⟩
  | true =>
    by_cases h40 : (40 : Int) < xs.length
    · go_wp2_with (go_at_call 16; (with_reducible refine (awake11 _).mono ?_); rintro e w3 ⟨rfl, hu3⟩; have HU3 := Lib.hid (HU2.out.trans hu3); clear hu3)
      go_ret
      exact ⟨rfl, Upd.none HU3.out⟩
    · go_wp2_with fail
      refine (hE.out _ HU2.out).mono ?_
      rintro e w3 ⟨hu3, va, vc, rfl, hW⟩
      have HU3 := Lib.hid (HU2.out.trans hu3)
      clear hu3 hE hl
      rcases hcs.out with ⟨m, hm0, hr⟩ | ⟨f, ws, ho, hlf, hws, hr⟩
      · rw [hr] at hW
        rw [hr]
        have hm1 : (m != 0) = true := by rw [bne_iff_ne]; exact hm0
        clear hr hm0 hcs hW
        go_wp2_with (go_at_call 16; (with_reducible refine (awake11 _).mono ?_); rintro e w4 ⟨rfl, hu4⟩; have HU4 := Lib.hid (HU3.out.trans hu4); clear hu4)
        go_ret
        exact ⟨rfl, Upd.none HU4.out⟩
      · rw [hr] at hW
        rw [hr]
        clear hr hcs
        obtain ⟨k0, -, k16, hMay, -⟩ := ofK_some ho
        obtain ⟨hf0, hf15, hok, hkp, hk16⟩ := mayK_facts f hMay
        obtain ⟨kn, rfl⟩ : ∃ kn : Nat, k = kn := ⟨k.toNat, by omega⟩
        rw [show (kn : Int).toNat = kn from by omega] at *
        have hlen := whole_len ho hws
        have hhdr := Lib.hid (fun hd n w' hn hh => ref_header' kn n ep (kW f) hd w' (by omega) hkp hk16 hep hn hh)
        have hhd : makeN kn (kW f) ep = makeN kn (kW f) ep := rfl
        have hpart := Lib.hid (fun j pre (hj : j < f.length) (hp : vwTo f xs j = some pre) => part_at ho hws hj hp)
        have hvl := Lib.hid (fun j pre (hj : j ≤ f.length) (hp : vwTo f xs j = some pre) => vwTo_len hj hp)
        have hwhole : ∀ pre, vwTo f xs f.length = some pre → pre.length = ws.length := fun pre h => by rw [hws] at h; cases h; rfl
        have hwlt : ws.length ≤ 15 := by omega
        have hL : (makeN kn (kW f) ep :: ws).length = ws.length + 1 := rfl
        obtain ⟨hd, hhde⟩ : ∃ hd, makeN kn (kW f) ep = hd := ⟨_, rfl⟩
        rw [hhde] at hW hL
        simp only [hhde]
        have hhdr := Lib.hid (fun n w' (hn : n = 1 + ws.length) => hhdr.out hd n w' (by omega) hhde)
        have HW := Lib.hid hW
        clear hW hhd hhde hMay hok hkp hk16 hep k0 k16 hf0
        obtain ⟨L, hLe⟩ : ∃ L, (hd :: ws).length = L := ⟨_, rfl⟩
        rw [hLe] at hL HW
        simp only [hLe]
        have hwx : ∀ w' (t : Nat) (y : Nat), Upd (fun _ => False) w3 w' → (hd :: ws)[t]? = some y → ∃ b0 off, (∀ w', (Instr.indexAt 29 (.slice va L vc) (.int .i64 (t : Int))).run Try.prog w' = .ok (.pointer (some ⟨b0, off + t, none⟩)) w') ∧ ∀ s : Later w', s.val.cell? ⟨b0, off + t, none⟩ = some (.int .u64 (y : Int)) := by
          intro w' t y u hy
          have ht : t < (hd :: ws).length := (List.getElem?_eq_some_iff.1 hy).1
          obtain ⟨b0, off, h1, h2, h3⟩ := HW.out.1.index (P := Try.prog) Try.underlying29 (by kernel_rfl) (by kernel_rfl) ht
          rw [Nat.mul_one] at h1 h3
          refine ⟨b0, off, h1, fun s => ((u.trans s.up).none.cell (p := ⟨b0, off + t, none⟩) h2).trans ((h3 0 (by decide)).trans ?_)⟩
          rw [List.getD_eq_getElem?_getD, hy]
          rfl
        have Hhwx := Lib.hid hwx; clear hwx
        have Hhlf := Lib.hid hlf; clear hlf
        have Hhwhole := Lib.hid hwhole; clear hwhole
        have HhL := Lib.hid hL; clear hL
        clear hLe
        go_wp2
        go_loopw [45, 11] (fun i n wr => ∃ (j : Nat) (pre : List Nat), i = .int .i64 j ∧ n = .int .i64 (1 + (pre.length : Int)) ∧ j ≤ f.length ∧ vwTo f xs j = some pre ∧ Upd (fun _ => False) w3 wr) (fun i _ _ => (f.length - intOf i).toNat)
        case atStart => exact ⟨0, [], rfl, rfl, Nat.zero_le _, rfl, Upd.refl _ _⟩
        case round =>
          obtain ⟨wo, hwo⟩ : ∃ wo : World, wo = wr := ⟨_, rfl⟩
          subst hwo
          obtain ⟨j, pre, rfl, rfl, hj, hpre, hu⟩ := hrel
          by_cases hje : j = f.length
          · have e1 : ¬ ((j : Int) < xs.length) := by have := Hhlf.out; omega
            have hpl : pre.length = ws.length := Hhwhole.out pre (hje ▸ hpre)
            have hnL : 1 + (pre.length : Int) = (L : Int) := by have := HhL.out; omega
            have hhn := Lib.hid (fun w' (u : Upd (fun _ => False) wo w') => (hhdr.out L w' (by have := HhL.out; omega)).mono (fun e w'' h => show e = _ ∧ Upd (fun _ => False) wo w'' from ⟨h.1, u.trans h.2⟩))
            have haw := Lib.hid (fun w' (u : Upd (fun _ => False) wo w') => (awake11 w').mono (fun e w'' h => show e = _ ∧ Upd (fun _ => False) wo w'' from ⟨h.1, u.trans h.2⟩))
            rw [hnL]
            clear hnL
            obtain ⟨b0, off, hix, hcx⟩ := Hhwx.out wo 0 hd hu rfl
            have hix : ∀ w', (Instr.indexAt 29 (.slice va L vc) (.int .i64 0)).run Try.prog w' = .ok (.pointer (some ⟨b0, off + 0, none⟩)) w' := hix
            rw [Nat.add_zero] at hix hcx
            have hbb : (hd == hd) = true := by simp
            have hbi : ((hd : Int) == (hd : Int)) = true := by simp
            clear hpre hje hpl hpart hvl
            have Hhu := Lib.hid hu; clear hu
            go_wp2
            refine wp_region_later (by kernel_rfl) (by kernel_rfl) ?_
            repeat (go_big_quiet_step ((first | (go_at_call 22; exact calls_later (hhn.out _ (Later.up _))) | (go_at_call 16; exact calls_later (haw.out _ (Later.up _))))))
            refine wpQuiet_nil ?_
            intro w4 hw4
            have u4 : Upd (fun _ => False) wo w4 := by
              obtain ⟨s, rfl⟩ := hw4
              exact s.up
            clear hw4
            go_wp2
            go_ret
            exact ⟨rfl, Upd.none ((HU3.out.trans Hhu.out).trans u4)⟩
          · have hjl : j < f.length := by omega
            have hjx : j < xs.length := by have := Hhlf.out; omega
            have d2 : (j : Int) < xs.length := by omega
            obtain ⟨b1, of1, hiy, hb1, hy⟩ := hFX.out.index (P := Try.prog) Try.underlying23 (by kernel_rfl) (by kernel_rfl) hjx
            have U02 := HU3.out.trans hu
            have y0 := (U02.none.cell (p := ⟨b1, of1 + j * 5 + 0, none⟩) hb1).trans (hy 0 (by decide))
            have y1 := (U02.none.cell (p := ⟨b1, of1 + j * 5 + 1, none⟩) hb1).trans (hy 1 (by decide))
            have y2 := (U02.none.cell (p := ⟨b1, of1 + j * 5 + 2, none⟩) hb1).trans (hy 2 (by decide))
            have y3 := (U02.none.cell (p := ⟨b1, of1 + j * 5 + 3, none⟩) hb1).trans (hy 3 (by decide))
            have y4 := (U02.none.cell (p := ⟨b1, of1 + j * 5 + 4, none⟩) hb1).trans (hy 4 (by decide))
            simp only [Nat.add_zero] at y0
            obtain ⟨us, hnx, hfl, post, hwp⟩ := hpart.out j pre hjl hpre
            have hDj := hD.out j
            rw [hfl] at hDj
            unfold RetFld at hDj
            simp only at hDj
            clear hfl
            generalize xs.getD j zeroV = x at *
            generalize of1 + j * 5 = o1 at *
            have hcl : ∃ a n re im rr, x = ⟨a, n, re, im, rr⟩ := ⟨_, _, _, _, _, rfl⟩
            obtain ⟨xa, xn, re, im, rr, rfl⟩ := hcl
            change wo.cell? _ = some (.int .i64 xa) at y0
            change wo.cell? _ = some (.int .i64 xn) at y1
            change wo.cell? _ = some (.int .u64 (re : Int)) at y2
            change wo.cell? _ = some (.int .u64 (im : Int)) at y3
            change wo.cell? _ = some (.int .i64 rr) at y4
            change ∀ w', _ → Calls _ _ #[kv, .int .i64 kn, .int .i64 j, .agg #[.int .i64 xa, .int .i64 xn, .int .u64 (re : Int), .int .u64 (im : Int), .int .i64 rr]] w' _ at hDj
            have hal : Upd (fun _ => False) wo (wo.alloc (.cells #[.int .i64 xa, .int .i64 xn, .int .u64 (re : Int), .int .u64 (im : Int), .int .i64 rr] 26)) := (Upd.refl _ _).alloc _
            have hUa := U02.trans hal
            have hua := hu.trans hal
            have hsum : 1 + pre.length + us.length ≤ L := by
              have := HhL.out
              have := congrArg List.length hwp
              simp at this
              omega
            have hnl : 1 + (pre ++ us).length = 1 + pre.length + us.length := by simp; omega
            have hget : ∀ t y, us[t]? = some y → (hd :: ws)[1 + pre.length + t]? = some y := by
              intro t y hty
              have ht : t < us.length := (List.getElem?_eq_some_iff.1 hty).1
              rw [show 1 + pre.length + t = (pre.length + t) + 1 from by omega, List.getElem?_cons_succ, hwp, List.append_assoc, List.getElem?_append_right (by omega), show pre.length + t - pre.length = t from by omega, List.getElem?_append_left ht]
              exact hty
            have hL16 : L ≤ 16 := by have := HhL.out; omega
            obtain ⟨pl, hpl⟩ : ∃ pl, pre.length = pl := ⟨_, rfl⟩
            simp only [hpl] at hsum hnl hget hDj
            rw [hpl]
            have Hhget := Lib.hid hget; clear hget
            have Hhnl := Lib.hid hnl; clear hnl
            have Hhnx := Lib.hid hnx; clear hnx
            have Hpl := Lib.hid hpl
            clear hpl
            have hnn : ((1 + (pl : Int)) != (1 + (pl : Int))) = false := by simp
            have hgt : ¬ ((L : Int) < 1 + (pl : Int) + us.length) := by omega
            have hn16 : pl ≤ 16 := by omega
            have hu16 : us.length ≤ 16 := by omega
            clear hy hjx hwp
            have Hhu := Lib.hid hu; clear hu
            have HU02 := Lib.hid U02; clear U02
            have HhDj := Lib.hid hDj; clear hDj
            have Hhal := Lib.hid hal; clear hal
            have HhUa := Lib.hid hUa; clear hUa
            have Hhua := Lib.hid hua; clear hua
            go_wp2_with (go_at_call 19; (with_reducible refine (HhDj.out _ HhUa.out).mono ?_); rintro e w5 ⟨hu5, va5, vc5, rfl, hW5⟩; have HW5 := Lib.hid hW5; have Hu5 := Lib.hid (Hhua.out.trans hu5); clear hu5 hW5)
            go_loopw [77] (fun i2 wt => ∃ t : Nat, i2 = .int .i64 t ∧ t ≤ us.length ∧ Upd (fun _ => False) w5 wt) (fun i2 _ => (us.length - intOf i2).toNat)
            case atStart => exact ⟨0, rfl, Nat.zero_le _, Upd.refl _ _⟩
            case round =>
              obtain ⟨t, rfl, ht, hut⟩ := hrel
              by_cases hte : t = us.length
              · have e3 : ¬ ((t : Int) < us.length) := by omega
                have Hhut := Lib.hid hut; clear hut
                clear hte
                go_wp2
                go_roundw
                case rel => exact ⟨j + 1, pre ++ us, by go_num, by rw [List.length_append, Hpl.out]; simp; omega, by omega, Hhnx.out, Hu5.out.trans Hhut.out⟩
                case measure => simp [intOf]; omega
              · have ht2 : t < us.length := by omega
                have e3 : (t : Int) < us.length := by omega
                obtain ⟨y, hy⟩ : ∃ y, us[t]? = some y := ⟨us[t], List.getElem?_eq_getElem ht2⟩
                obtain ⟨b2, o2, hi2, hc2⟩ := Hhwx.out wr (1 + pl + t) y (Hu5.out.trans hut) (Hhget.out t y hy)
                have hi2 : ∀ w', (Instr.indexAt 29 (.slice va L vc) (.int .i64 (1 + (pl : Int) + (t : Int)))).run Try.prog w' = .ok (.pointer (some ⟨b2, o2 + (1 + pl + t), none⟩)) w' := fun w' => (by rw [show 1 + (pl : Int) + (t : Int) = ((1 + pl + t : Nat) : Int) from by omega]; exact hi2 w')
                have hc2 : wr.cell? ⟨b2, o2 + (1 + pl + t), none⟩ = some (.int .u64 (y : Int)) := hc2 ⟨wr, Upd.refl _ _⟩
                generalize o2 + (1 + pl + t) = o2 at *
                obtain ⟨b3, o3, hi3, hb3, hc3⟩ := HW5.out.1.index (P := Try.prog) Try.underlying29 (by kernel_rfl) (by kernel_rfl) ht2
                rw [Nat.mul_one] at hi3 hc3
                have hc3 : wr.cell? ⟨b3, o3 + t, none⟩ = some (.int .u64 (y : Int)) := (hut.none.cell (p := ⟨b3, o3 + t, none⟩) hb3).trans ((hc3 0 (by decide)).trans (by rw [List.getD_eq_getElem?_getD, hy]; rfl))
                generalize o3 + t = o3 at *
                have hyy : ((y : Int) != (y : Int)) = false := by simp
                clear hy hte
                have Hhut := Lib.hid hut; clear hut
                go_wp2
                go_quiet (fail)
                go_wp2
                go_roundw
                case rel => exact ⟨t + 1, by go_num, by omega, Hhut.out.drewN _⟩
                case measure => simp [intOf]; omega
theorem own : ownKnob Try.prog.godebug = none := by kernel_rfl
theorem laidOut : laidOutB Try.prog = true := by kernel_rfl
set_option maxRecDepth 100000 in
theorem lifted (os : Os) (started : os.Started) (H : Type) (enc : TypeId × Value → H) :
    ReturnsInHanded {} Try.checked os 4 .any (Rows.objectPartsSpec.pre6 enc Try.prog Try.f4 Rows.objectPartsRow.domain false) (Rows.objectPartsSpec.post enc Try.prog Try.f4 false true false false) := by
  refine returnsInHanded_of_change_sized (C := Try.checked) own started (by kernel_rfl) Try.func4
    (ChangeSpec.witness6 (enc := enc) (C := Try.checked) false ⟨#[], #[.slice none 0 0, .int .i64 0, .slice none 0 0, .int .u64 0], []⟩ 8 (by kernel_rfl) (by kernel_rfl) (by kernel_rfl) (by kernel_rfl)) ?_
  intro W base args ds gs before hval0 hW _ hsz0 _
  have hsz : (DataW.weightsEach Try.prog (Try.f4.params.toList ++ Rows.objectPartsSpec.plain.varTypes Try.prog) (ds ++ gs)).all (· ≤ reachBytes) = true := hsz0
  clear hsz0
  have hval : ∀ (j : Nat) t v, Try.f4.params[j]? = some t → args[j]? = some v → Value.okWide Try.prog W .any base t v := hval0
  have hW' := hW
  obtain ⟨p, q, hA0, hV, rfl, _, _⟩ := hW
  have hA : DataW.TrodAll enc Try.prog W 0 (fun _ => true) true Try.f4.params.toList args.toList ds p := hA0
  rw [Try.params4] at hA hval hsz
  obtain ⟨v0, vs0, d0, ds0, p0, q0, hargs, rfl, rfl, h0, r0⟩ := trodAll_cons hA
  obtain ⟨v1, vs1, d1, ds1, p1, q1, rfl, rfl, rfl, h1, r1⟩ := trodAll_cons r0
  obtain ⟨v2, vs2, d2, ds2, p2, q2, rfl, rfl, rfl, h2, r2⟩ := trodAll_cons r1
  obtain ⟨v3, vs3, d3, ds3, p3, q3, rfl, rfl, rfl, h3, r3⟩ := trodAll_cons r2
  obtain ⟨rfl, rfl, rfl⟩ := trodAll_nil r3
  obtain rfl : args = #[v0, v1, v2, v3] := by cases args; simp_all
  obtain ⟨rfl, rfl⟩ := trodVars_none hV
  clear hA0 hval0
  simp only [List.append_nil] at hW'
  have hlt : ∀ x, (x ∈ p0 ∨ x ∈ p1 ∨ x ∈ p2 ∨ x ∈ p3) → x.block < W.heap.size := fun x hx => by simpa using hW'.lt x (by simpa using hx)
  have k0 : ∀ (W' : World), Below W.heap.size W W' → DataW.Trod enc Try.prog W' 0 (fun b => decide (b < W.heap.size)) true 22 v0 d0 p0 :=
    fun W' hn => Below.trod laidOut (by kernel_rfl) (of_decide_eq_true (by kernel_rfl)) h0 hn (fun x hx => hlt x (Or.inl hx))
  have k1 : ∀ (W' : World), Below W.heap.size W W' → DataW.Trod enc Try.prog W' 0 (fun b => decide (b < W.heap.size)) true 3 v1 d1 p1 :=
    fun W' hn => Below.trod laidOut (by kernel_rfl) (of_decide_eq_true (by kernel_rfl)) h1 hn (fun x hx => hlt x (Or.inr (Or.inl hx)))
  have k2 : ∀ (W' : World), Below W.heap.size W W' → DataW.Trod enc Try.prog W' 0 (fun b => decide (b < W.heap.size)) true 23 v2 d2 p2 :=
    fun W' hn => Below.trod laidOut (by kernel_rfl) (of_decide_eq_true (by kernel_rfl)) h2 hn (fun x hx => hlt x (Or.inr (Or.inr (Or.inl hx))))
  have k3 : ∀ (W' : World), Below W.heap.size W W' → DataW.Trod enc Try.prog W' 0 (fun b => decide (b < W.heap.size)) true 24 v3 d3 p3 :=
    fun W' hn => Below.trod laidOut (by kernel_rfl) (of_decide_eq_true (by kernel_rfl)) h3 hn (fun x hx => hlt x (Or.inr (Or.inr (Or.inr (hx)))))
  obtain ⟨x0, hx0⟩ := open_kindsAt (k := 0) _ Try.underlying22 Try.underlying68 (by kernel_rfl) (by decide) (by kernel_rfl) (by kernel_rfl) rfl Try.underlying52 Try.underlying3 (by kernel_rfl) (hval 0 22 v0 rfl rfl) h0 hsz 0 rfl rfl
  obtain ⟨a1, rfl, _, _, w1⟩ := open_int Try.underlying3 (hval 1 3 v1 rfl rfl) h1
  obtain ⟨x2, hx2⟩ := open_valsAt _ _ _ _ _ Try.underlying23 Try.underlying26 (by kernel_rfl) (by decide) (by kernel_rfl) (by kernel_rfl) rfl rfl rfl rfl rfl Try.underlying3 Try.underlying2 Try.underlying24 Try.underlying24 Try.underlying3 (hval 2 23 v2 rfl rfl) h2 hsz 2 rfl rfl
  obtain ⟨a3, rfl, _, _, w3⟩ := open_int Try.underlying24 (hval 3 24 v3 rfl rfl) h3
  refine (walk (W := W) v0 x0 hx0 a1 w1 v2 x2 hx2 a3 w3).mono fun e W' ⟨he, hb⟩ => ?_
  subst he
  refine ⟨_, rfl, _, _, _, [], p0 ++ (p1 ++ (p2 ++ (p3 ++ ([])))), [], hW', ?_, ?_, rfl, hb.frame _, fun h => by cases h⟩
  · exact trodAll_cons_mk (shut_bool Try.underlying4 true) trodAll_mk0
  · exact trodAll_cons_mk (k0 _ hb) (trodAll_cons_mk (k1 _ hb) (trodAll_cons_mk (k2 _ hb) (trodAll_cons_mk (k3 _ hb) (trodAll_mk0))))

theorem over : Rows.objectPartsRow.holds Try.pinned (OpenSpec.ofChange Rows.objectPartsSpec) :=
  OpenClaim.holds_of_wide 4 Try.f4 rfl rfl rfl rfl rfl rfl rfl ⟨rfl, rfl, rfl, rfl, rfl⟩ rfl rfl rfl rfl rfl (by kernel_rfl) Try.func4 (by kernel_rfl)
    (of_decide_eq_true (by kernel_rfl)) (by unfold Func.isWrapper; first | (rw [if_pos (by decide +kernel)]; kernel_rfl) | (rw [if_neg (by decide +kernel)]; exact ⟨rfl, rfl⟩))
    (fun os started H enc _ => lifted os started H enc)

/-- The given statement. -/
theorem proved : Rows.ObjectPartsSaid := over
#print axioms proved
end Go.Proofs.Ytcnbcidbbeadcaa.objectParts
