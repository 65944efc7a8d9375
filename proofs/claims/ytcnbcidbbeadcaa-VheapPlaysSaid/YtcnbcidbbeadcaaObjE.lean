/- An object as words: object.Encode. -/
import Derived.Test.YtcnbcidbbeadcaaObjF
import Derived.Test.YtcnbcidbbeadcaaHeader
namespace Go.Proofs.Ytcnbcidbbeadcaa
open Go.RowKit Go.Deep
set_option linter.unusedVariables false

/-- Words, and why not. -/
def RetEnc (w : World) (r : List Nat × Int) (e : Ending) (w' : World) : Prop :=
  Upd (fun _ => False) w w' ∧ ∃ va c, e = .returned (.tuple #[.slice va r.1.length c, .int .i64 r.2]) ∧ WordsR w' (.slice va r.1.length c) r.1
theorem retEnc_none {w w' : World} {n : Int} (u : Upd (fun _ => False) w w') : RetEnc w ([], n) (.returned (.tuple #[.slice none 0 0, .int .i64 n])) w' := ⟨u, none, 0, rfl, wordsR_nil _⟩
theorem infoU64 : (Try.prog.info? 24).map (fun i => (i.zero, i.size, i.bytes)) = some (some (.int .u64 0), 1, 8) := by kernel_rfl
theorem WordsR.ints {w : World} {v : Value} {ws : List Nat} (h : WordsR w v ws) : IntsR w v .u64 (ws.map fun (x : Nat) => (x : Int)) := by
  obtain ⟨a, cap, g1, g2, g3, g4⟩ := h.1
  unfold IntsR
  rw [List.length_map]
  refine ⟨a, cap, g1, g2, g3, fun hn => ?_⟩
  obtain ⟨b, off, k1, k2, k3⟩ := g4 hn
  refine ⟨b, off, k1, k2, fun i hi j hj => ?_⟩
  rw [k3 i hi j hj]
  simp [List.getD, hi]
theorem words_map (ws : List Nat) : (ws.map fun (x : Nat) => (x : Int)).map (Value.int .u64) = words ws := by
  unfold words
  rw [List.map_map]
  rfl
theorem words_append (us ws : List Nat) : words us ++ words ws = words (us ++ ws) := by
  unfold words
  rw [List.map_append]
/-- The encoder in its loop. -/
def EncSt (w w' : World) (B : Nat) (f : List Int) (hd : Nat) (ws : List Nat) (oa : Option Addr) (oc n : Nat) : Prop :=
  ∃ w3 va vc, Upd (fun _ => False) w w3 ∧ Blk w3 B [.slice va f.length vc] 68 ∧ IntsR w3 (.slice va f.length vc) .i64 f ∧ Upd (fun _ => False) w3 w' ∧ n = ws.length + 1 ∧
    w'.ownsRow w3.heap.size 24 1 (.slice oa n oc) n (words (hd :: ws))
theorem ownsRow_keep {w w' : World} {base : Nat} {e : TypeId} {size : Nat} {v : Value} {n : Nat} {xs : List Value} (h : w.ownsRow base e size v n xs) (u : Upd (fun _ => False) w w') : w'.ownsRow base e size v n xs := by
  refine ⟨h.1, ?_⟩
  rcases h.2 with ⟨h0, h1⟩ | ⟨g, cap, cur, hv, hg, hh, r⟩
  · exact Or.inl ⟨h0, h1⟩
  · refine Or.inr ⟨g, cap, cur, hv, hg, ?_, r⟩
    have hlt : g < w.heap.size := (Array.getElem?_eq_some_iff.1 hh).1
    rw [u.block g hlt (fun h => h)]
    exact hh
theorem ownBlock_le {w : World} {base : Nat} {e : TypeId} {size : Nat} {v : Value} {n : Nat} {xs : List Value} (h : w.ownsRow base e size v n xs) (hn : 0 < n) {k : Nat} (hk : v.ownBlock = some k) : base ≤ k := by
  obtain ⟨g, cap, rfl, hb, -⟩ := h.form hn
  have : g = k := by simpa [Value.ownBlock] using hk
  omega
theorem EncSt.start {w w2 w5 : World} {f : List Int} {hd g : Nat} {va : Option Addr} {vc : Nat} (u2 : Upd (fun _ => False) w w2) (hV : IntsR w2 (.slice va f.length vc) .i64 f)
    (u5 : Upd (fun _ => False) (w2.alloc (.cells #[.slice va f.length vc] 68)) w5) (hg : g = w5.heap.size) : EncSt w (w5.alloc (.cells #[.int .u64 (hd : Int)] 24)) w2.heap.size f hd [] (some ⟨g, 0, none⟩) 1 1 := by
  subst hg
  have ua : Upd (fun _ => False) w2 (w2.alloc (.cells #[.slice va f.length vc] 68)) := (Upd.refl _ _).alloc _
  exact ⟨_, va, vc, u2.trans ua, Blk.new w2 [.slice va f.length vc] 68, ints_upd hV ua, u5.alloc _, rfl, World.ownsRow_lit w5 #[.int .u64 (hd : Int)] 1 u5.size (by decide) rfl⟩
theorem EncSt.append {w w' w4 w5 : World} {B : Nat} {f : List Int} {hd : Nat} {ws us : List Nat} {w3 : World} {va : Option Addr} {vc : Nat} {oa oa' : Option Addr} {oc oc' n : Nat}
    (h1 : Upd (fun _ => False) w w3) (h2 : Blk w3 B [.slice va f.length vc] 68) (h3 : IntsR w3 (.slice va f.length vc) .i64 f) (h4 : Upd (fun _ => False) w3 w') (hn : n = ws.length + 1) (h6 : Upd (fun _ => False) w' w4)
    (hr : ∀ k, (Value.slice oa n oc).ownBlock = some k → w3.heap.size ≤ k) (hg : w4.grownBy w5 (Value.slice oa n oc).ownBlock)
    (ho : w5.ownsRow w3.heap.size 24 1 (.slice oa' (n + us.length) oc') (n + us.length) (words (hd :: ws) ++ (us.map fun (x : Nat) => (x : Int)).map (Value.int .u64))) :
    EncSt w w5 B f hd (ws ++ us) oa' oc' (n + us.length) := by
  refine ⟨w3, va, vc, h1, h2, h3, (h4.trans h6).grown hg (fun k e hk => ?_), by rw [hn, List.length_append]; omega, ?_⟩
  · have := hr k e
    omega
  · rw [words_map, words_append] at ho
    exact ho

--BEGIN
set_option maxRecDepth 100000 in
set_option maxHeartbeats 2000000 in
theorem object_Encode (v fv : Value) (ks : List (List Int)) (k : Int) (xs : List Val) (ep : Nat) (hep : ep < 2 ^ 64) (hxs : ∀ x ∈ xs, x.ok) (w : World) (hM : MatIn w v ks) (hF : ValsR w fv xs) :
    Calls Try.prog 17 #[v, .int .i64 k, fv, .int .u64 ep] w (RetEnc w (encO ks k xs ep)) := by
  have hr : encO ks k xs ep = match ofK ks k with
    | none => ([], 3)
    | some f => if xs.length ≠ f.length then ([], 4) else match vwTo f xs f.length with
      | none => ([], 3)
      | some ws => (makeN k.toNat (kW f) ep :: ws, 0) := rfl
  generalize encO ks k xs ep = r at *
  have hof := object_of v ks k w hM
  have hFX := Lib.hid hF
  obtain ⟨fa, fc, rfl, hfc1, hfc2, -⟩ := hF
  have hx1 : (xs.length : Int) ≤ 9223372036854775807 := by unfold maxLen at hfc2; omega
  clear hM hfc1 hfc2
  cases ho : ofK ks k with
  | none =>
    rw [ho] at hof hr
    simp only at hr
    subst hr
    have hof := Lib.hid (hof.mono (fun e w' h => retOf_none h))
    clear ho
    go_enter Try.func17, Try.ntmps17
    go_wp2
    go_step3
    go_wp2_with (go_at_call 47; (with_reducible refine hof.out.mono ?_); rintro e w2 ⟨rfl, hu2⟩)
    rw [Exit.noGoto_ret]
    go_ret2
    exact retEnc_none ((by assumption : Upd (fun _ => False) w _).alloc _)
  | some f =>
    rw [ho] at hof hr
    simp only at hr
    have hof := Lib.hid (hof.mono (fun e w' h => retOf_some h))
    obtain ⟨k0, -, k16, hMay, -⟩ := ofK_some ho
    obtain ⟨hf0, hf15, hok, hkp, hk16⟩ := mayK_facts f hMay
    have l1 : (f.length : Int) ≤ 15 := by omega
    clear ho hMay hok
    by_cases hl : xs.length = f.length
    · rw [if_neg (fun h => h hl)] at hr
      have hl1 : ((xs.length : Int) != f.length) = false := by rw [bne_eq_false_iff_eq]; omega
      obtain ⟨kn, rfl⟩ : ∃ kn : Nat, k = kn := ⟨k.toNat, by omega⟩
      rw [show (kn : Int).toNat = kn from by omega] at hr
      have hmk := Lib.hid (fun w' => header_make kn (kW f) ep w' (by omega) (by omega) hk16 hep)
      have hkw := Lib.hid (fun v' w' h => kind_Words v' f w' h)
      have hml := makeN_lt kn (kW f) ep
      have hval := Lib.hid (fun q (j : Nat) w' => value_Words q (xs.getD j zeroV) (by
        by_cases hj : j < xs.length
        · have : xs.getD j zeroV = xs[j] := by simp [List.getD, hj]
          rw [this]
          exact hxs _ (List.getElem_mem hj)
        · have : xs.getD j zeroV = zeroV := by simp [List.getD, hj]
          rw [this]
          exact zeroV_ok) w')
      have hlt := Lib.hid (fun j ws (h : vwTo f xs j = some ws) => vwTo_lt hxs h)
      generalize kW f = kw at *
      generalize makeN kn kw ep = hd at *
      have hlen := Lib.hid (fun j ws (hj : j ≤ f.length) (h : vwTo f xs j = some ws) => show ws.length ≤ 30 from by
        have h1 := vwTo_len hj h
        have h2 := sumW_take_le f j
        omega)
      clear k0 k16 hkp hk16 hep hxs
      have Hhr := Lib.hid hr; clear hr
      have Hhl := Lib.hid hl; clear hl
      go_enter Try.func17, Try.ntmps17
      go_wp2
      refine wp_scope_loop 0 (fun a' w' => ∃ (j B : Nat) (ws : List Nat) (oa : Option Addr) (oc n : Nat) (u4 u5 u6 u7 u8 u9 u11 u13 u15 u16 u17 u18 u19 u20 u21 u22 u23 u24 u25 u26 u27 u28 u29 u30 u31 u32 u33 u34 u35 u36 u37 u38 u39 u40 u41 u42 u43 u44 u45 u46 u47 u48 u49 u50 u51 u52 u53 u54 u55 u56 u57 u58 u59 u60 u61 : Value), a' = { tmps := #[v, .int .i64 kn, .slice fa xs.length fc, .int .u64 ep, u4, u5, u6, u7, u8, u9, .pointer (some ⟨B, 0, none⟩), u11, .int .i64 j, u13, .slice oa n oc, u15, u16, u17, u18, u19, u20, u21, u22, u23, u24, u25, u26, u27, u28, u29, u30, u31, u32, u33, u34, u35, u36, u37, u38, u39, u40, u41, u42, u43, u44, u45, u46, u47, u48, u49, u50, u51, u52, u53, u54, u55, u56, u57, u58, u59, u60, u61], defers := [] } ∧ j ≤ f.length ∧ vwTo f xs j = some ws ∧ EncSt w w' B f hd ws oa oc n) (fun a' _ => (f.length - intOf (a'.tmps.getD 12 undef)).toNat) rfl ?_ ?_
      · rintro a' w2 ⟨j, B, ws, oa, oc, n, u4, u5, u6, u7, u8, u9, u11, u13, u15, u16, u17, u18, u19, u20, u21, u22, u23, u24, u25, u26, u27, u28, u29, u30, u31, u32, u33, u34, u35, u36, u37, u38, u39, u40, u41, u42, u43, u44, u45, u46, u47, u48, u49, u50, u51, u52, u53, u54, u55, u56, u57, u58, u59, u60, u61, rfl, hj, hws, w3, va, vc, U3, hB, hV, U2, hn, hown⟩
        by_cases hje : j = f.length
        · have e1 : ((j : Int) == xs.length) = true := by rw [beq_iff_eq]; have := Hhl.out; omega
          have fin : RetEnc w r (.returned (.tuple #[.slice oa n oc, .int .i64 0])) w2 := by
            subst hje
            rw [Hhr.out, hws]
            refine ⟨U3.trans U2, oa, oc, by rw [hn]; rfl, ?_⟩
            subst hn
            exact ownsRow_words (ws := hd :: ws) hown (by
              intro y hy
              rcases List.mem_cons.1 hy with rfl | hy
              · exact hml
              · exact hlt.out _ _ hws y hy)
          clear hown hB hV U3 U2 hje hn
          have Hfin := Lib.hid fin; clear fin
          go_wp2
          simp only [Exit.jump]
          go_ret2
          exact Hfin.out
        · have hjl : j < f.length := by omega
          have hjx : j < xs.length := by have := Hhl.out; omega
          have e1 : ((j : Int) == xs.length) = false := by rw [beq_eq_false_iff_ne]; have := Hhl.out; omega
          have d1 : (j : Int) < f.length := by omega
          have d2 : (j : Int) < xs.length := by have := Hhl.out; omega
          have cB := (hB.upd U2 (fun h => h)).cell 0 rfl
          obtain ⟨b0, off, hix, hb0, hc⟩ := hV.index (P := Try.prog) Try.underlying52 (by kernel_rfl) (by kernel_rfl) hjl
          simp only [Nat.mul_one] at hix hc
          have hcq : w2.cell? ⟨b0, off + j, none⟩ = some (.int .i64 (f.getD j 0)) := (U2.none.cell (p := ⟨b0, off + j, none⟩) hb0).trans (hc 0 (by decide))
          obtain ⟨b1, of1, hiy, hb1, hy⟩ := hFX.out.index (P := Try.prog) Try.underlying23 (by kernel_rfl) (by kernel_rfl) hjx
          have U02 := U3.trans U2
          have y0 := (U02.none.cell (p := ⟨b1, of1 + j * 5 + 0, none⟩) hb1).trans (hy 0 (by decide))
          have y1 := (U02.none.cell (p := ⟨b1, of1 + j * 5 + 1, none⟩) hb1).trans (hy 1 (by decide))
          have y2 := (U02.none.cell (p := ⟨b1, of1 + j * 5 + 2, none⟩) hb1).trans (hy 2 (by decide))
          have y3 := (U02.none.cell (p := ⟨b1, of1 + j * 5 + 3, none⟩) hb1).trans (hy 3 (by decide))
          have y4 := (U02.none.cell (p := ⟨b1, of1 + j * 5 + 4, none⟩) hb1).trans (hy 4 (by decide))
          simp only [Nat.add_zero] at y0
          have hvj := hval.out (f.getD j 0) j
          have hsome := fun us => vwTo_succ (us := us) hws
          have hnone := vwTo_fail hws
          generalize f.getD j 0 = q at *
          generalize xs.getD j zeroV = x at *
          generalize of1 + j * 5 = o1 at *
          have hln := hlen.out j ws hj hws
          have hcl : ∃ a n re im rr, x = ⟨a, n, re, im, rr⟩ := ⟨_, _, _, _, _, rfl⟩
          obtain ⟨xa, xn, re, im, rr, rfl⟩ := hcl
          change w2.cell? _ = some (.int .i64 xa) at y0
          change w2.cell? _ = some (.int .i64 xn) at y1
          change w2.cell? _ = some (.int .u64 (re : Int)) at y2
          change w2.cell? _ = some (.int .u64 (im : Int)) at y3
          change w2.cell? _ = some (.int .i64 rr) at y4
          change ∀ w', Calls _ _ #[.int .i64 q, .agg #[.int .i64 xa, .int .i64 xn, .int .u64 (re : Int), .int .u64 (im : Int), .int .i64 rr]] w' _ at hvj
          generalize hxe : (⟨xa, xn, re, im, rr⟩ : Val) = x at *
          clear hxe hc hy hjx
          have hrow : ∀ k, (Value.slice oa n oc).ownBlock = some k → w3.heap.size ≤ k := fun k e => ownBlock_le hown (by omega) e
          cases hv : vw q x with
          | none =>
            rw [hv] at hvj
            have hvj := Lib.hid (fun w' => (hvj w').mono (fun e w'' h => retVW_inv_none h))
            have hrn : r = ([], 3) := by rw [Hhr.out, hnone hv f.length hjl]
            have fin := Lib.hid (fun w' (u : Upd (fun _ => False) w w') => show RetEnc w r (.returned (.tuple #[.slice none 0 0, .int .i64 3])) w' from hrn ▸ retEnc_none u)
            clear hrow hown hv hsome hnone hws hB hV U3 U2 hln hn hrn
            have HU02 := Lib.hid U02; clear U02
            go_wp2_with fail
            go_region_with (go_at_call 50; (with_reducible refine (hvj.out _).mono ?_); rintro e w4 ⟨rfl, hu4⟩)
            all_goals go_wp2
            all_goals simp only [Exit.jump]
            all_goals go_ret2
            all_goals exact fin.out _ (HU02.out.drew.trans (by assumption))
          | some us =>
            rw [hv] at hvj
            have hvj := Lib.hid (fun w' => (hvj w').mono (fun e w'' h => retVW_inv_some h))
            have hws2 := hsome us hv
            have hlu : us.length ≤ 30 := by
              have := hlen.out (j + 1) _ hjl hws2
              rw [List.length_append] at this
              omega
            have hcap : n + us.length ≤ 1099511627776 := by omega
            have hszz := U2.size
            have hEA := Lib.hid (fun w4 w5 oa' oc' (h6 : Upd (fun _ => False) w2 w4) hg ho => EncSt.append (hd := hd) (w4 := w4) (w5 := w5) (us := us) (oa' := oa') (oc' := oc') U3 hB hV U2 hn h6 hrow hg ho)
            clear hv hsome hnone hws hB hV U3 U02 hln hrow hn hje
            have Hhown := Lib.hid hown; clear hown
            have HU2 := Lib.hid U2; clear U2
            have Hhws2 := Lib.hid hws2; clear hws2
            go_wp2_with fail
            go_region_with (go_at_call 50; (with_reducible refine (hvj.out _).mono ?_); rintro e w4 ⟨g, c, rfl, hW, hu4⟩; have hu4' : Upd (fun _ => False) w2 w4 := ((Upd.refl _ _).drew).trans hu4; have HW := Lib.hid hW.ints; have Ho4 := Lib.hid (ownsRow_keep Hhown.out hu4'); have hz4 := Nat.le_trans hszz hu4'.size; clear hW hu4)
            all_goals go_wp2_with (at_builtin; refine wpList_appendOnto rfl _ _ 29 24 rfl (.int .u64 0) 8 Try.underlying29 infoU64 rfl w3.heap.size _ _ _ rfl Ho4.out _ us.length c .u64 _ (List.length_map _).symm rfl HW.out hcap (by decide) hz4 ?_; intro oa' oc' w5 ho5 hg5; have HE := Lib.hid (hEA.out w4 w5 oa' oc' hu4' hg5 ho5); clear ho5 hg5)
            all_goals go_step3
            all_goals exact ⟨rfl, ⟨j + 1, B, ws ++ us, oa', oc', n + us.length, _, _, _, _, _, _, _, _, _, _, _, _, _, _, _, _, _, _, _, _, _, _, _, _, _, _, _, _, _, _, _, _, _, _, _, _, _, _, _, _, _, _, _, _, _, _, _, _, _, _, _, _, _, _, _, rfl, by omega, Hhws2.out, HE.out⟩, by simp [intOf]; omega⟩
      · intro H
        go_wp2_with (first
          | (go_at_call 47; (with_reducible refine hof.out.mono ?_); rintro e w2 ⟨va, vc, rfl, hV, hu2⟩; have HV := Lib.hid hV; have Hu2 := Lib.hid hu2; have HV3 := Lib.hid (ints_upd hV ((Upd.refl (fun _ => False) w2).alloc (.cells #[.slice va f.length vc] 68))); clear hV hu2)
          | (go_at_call 49; (with_reducible refine (hkw.out _ _ HV3.out).mono ?_); rintro e w4 ⟨rfl, hu4⟩; have Hu4 := Lib.hid hu4; clear hu4)
          | (go_at_call 48; (with_reducible refine (hmk.out _).mono ?_); rintro e w5 ⟨rfl, hu5⟩; have Hu5 := Lib.hid (Hu4.out.trans hu5); clear hu5))
        go_step3
        rename_i hK
        exact hK _ _ (H _ _ ⟨0, w2.heap.size, [], _, _, _, _, _, _, _, _, _, _, _, _, _, _, _, _, _, _, _, _, _, _, _, _, _, _, _, _, _, _, _, _, _, _, _, _, _, _, _, _, _, _, _, _, _, _, _, _, _, _, _, _, _, _, _, _, _, _, rfl, Nat.zero_le _, rfl, EncSt.start Hu2.out HV.out Hu5.out rfl⟩)
    · rw [if_pos hl] at hr
      subst hr
      have hl1 : ((xs.length : Int) != f.length) = true := by rw [bne_iff_ne]; omega
      clear hl hf0 hf15 hkp hk16
      go_enter Try.func17, Try.ntmps17
      go_wp2
      go_step3
      go_wp2_with (go_at_call 47; (with_reducible refine hof.out.mono ?_); rintro e w2 ⟨va, vc, rfl, hV, hu2⟩)
      rw [Exit.noGoto_ret]
      go_ret2
      exact retEnc_none ((by assumption : Upd (fun _ => False) w _).alloc _)
--END
end Go.Proofs.Ytcnbcidbbeadcaa
