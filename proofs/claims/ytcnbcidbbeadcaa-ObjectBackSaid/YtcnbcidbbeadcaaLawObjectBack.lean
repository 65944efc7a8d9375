/- What is encoded is decoded as it was, whatever stands behind; a field that is written into its words is that field, and no other changes. No condition. -/
import Derived.Test.YtcnbcidbbeadcaaObjB
import Derived.Test.YtcnbcidbbeadcaaAw11
import Derived.Test.YtcnbcidbbeadcaaLater
import Derived.SizedLaws
import Derived.Deep.DrawnRows
namespace Go.Proofs.Ytcnbcidbbeadcaa.objectBack
open Go.ChangeShapes Go.WideShapes Go.ChangeAt Go.RowKit Go.Deep
set_option linter.unusedVariables false

theorem ints_words {w : World} {v : Value} {xs : List Int} (h : IntsIn w v .u64 xs) : ∃ ws : List Nat, WordsR w v ws := by
  obtain ⟨hr, hx⟩ := h
  have each : ∀ i, i < xs.length → ∃ y : Nat, xs.getD i 0 = y ∧ y < 2 ^ 64 := by
    intro i hi
    have := hx (xs.getD i 0) (by simp [List.getD, hi])
    exact wf_u64 this
  obtain ⟨Z, hZ⟩ := choose_lt each
  refine ⟨(List.range xs.length).map Z, ?_, ?_⟩
  · rw [List.length_map, List.length_range]
    obtain ⟨a, cap, g1, g2, g3, g4⟩ := hr
    refine ⟨a, cap, g1, g2, g3, fun hn => ?_⟩
    obtain ⟨b, off, k1, k2, k3⟩ := g4 hn
    refine ⟨b, off, k1, k2, fun i hi j hj => ?_⟩
    rw [k3 i hi j hj]
    show some (Value.int .u64 (xs.getD i 0)) = some (Value.int .u64 ((((List.range xs.length).map Z).getD i 0 : Nat) : Int))
    rw [(hZ i hi).1]
    simp [List.getD, hi]
  · intro y hy
    simp only [List.mem_map, List.mem_range] at hy
    obtain ⟨i, hi, rfl⟩ := hy
    exact (hZ i hi).2

theorem WordsR.take {w : World} {a : Option Addr} {n c : Nat} {ws : List Nat} (h : WordsR w (.slice a n c) ws) {m : Nat} (hm : m ≤ n) : WordsR w (.slice a m c) (ws.take m) := by
  obtain ⟨⟨a', cap, e, g2, g3, g4⟩, hlt⟩ := h
  cases e
  have hl : (ws.take m).length = m := by rw [List.length_take]; omega
  refine ⟨?_, fun x hx => hlt x (List.mem_of_mem_take hx)⟩
  rw [hl]
  refine ⟨_, _, rfl, by omega, g3, fun hm0 => ?_⟩
  obtain ⟨b, off, e, k2, k3⟩ := g4 (by omega)
  refine ⟨b, off, e, k2, fun t ht j hj => ?_⟩
  rw [k3 t (by omega) j hj]
  simp [List.getD, ht]
theorem wpList_appendNil {P : Program} {w : World} {ops : Array Oper} {rest : List Oper} {o : Oper} {a : Act} {Q : Exit → Act → World → Prop} (hgd : o.guard = none) (s x : Operand) (t e : TypeId)
    (ho : o.op = .call { callee := .builtin .append, args := #[s, x], argTypes := #[t, t] }) (z : Value) (bytes : Nat) (ht : P.underlying t = some (.slice e)) (hinfo : (P.info? e).map (fun i => (i.zero, i.size, i.bytes)) = some (some z, 1, bytes)) (hzs : z.cells.size = 1)
    (hs : a.eval s = .slice none 0 0) (ao : Option Addr) (m c : Nat) (k : IntKind) (xs : List Int) (hm : m = xs.length) (hx : a.eval x = .slice ao m c) (hin : IntsR w (.slice ao m c) k xs)
    (hn : m ≤ 1099511627776) (hb : bytes ≤ 64)
    (h : ∀ a' c' w', w'.ownsRow w.heap.size e 1 (.slice a' m c') m (xs.map (Value.int k)) → Upd (fun _ => False) w w' → wpList P ops Q rest (a.put o.dst (.slice a' m c')) w') : wpList P ops Q (o :: rest) a w := by
  refine wpList_appendOnto hgd s x t e ho z bytes ht hinfo hzs w.heap.size _ 0 [] hs (World.ownsRow_nil _ _ _ _) ao m c k xs hm hx hin (by omega) hb (Nat.le_refl _) ?_
  intro a' c' w' h1 h2
  rw [Nat.zero_add] at h1 ⊢
  rw [List.nil_append] at h1
  exact h a' c' w' h1 ((Upd.refl _ _).grown h2 (fun k e => by simp [Value.ownBlock] at e))
theorem fldO_cases (ks : List (List Int)) (k i : Int) (x : Val) {f : List Int} (ho : ofK ks k = some f) : (∃ m : Int, m ≠ 0 ∧ fldO ks k i x = (0, [], m)) ∨
    ∃ (n p : Nat) (us : List Nat), i = n ∧ n < f.length ∧ vw (f.getD n 0) x = some us ∧ p = 1 + sumW (f.take n) ∧ fldO ks k i x = ((p : Int), us, 0) := by
  unfold fldO
  rw [ho]
  simp only
  by_cases hi : i < 0 ∨ (f.length : Int) ≤ i
  · rw [if_pos hi]
    exact Or.inl ⟨4, by decide, rfl⟩
  · rw [if_neg hi]
    cases hv : vw (f.getD i.toNat 0) x with
    | none => exact Or.inl ⟨3, by decide, rfl⟩
    | some us =>
      obtain ⟨n, rfl⟩ : ∃ n : Nat, i = n := ⟨i.toNat, by omega⟩
      have hn : n < f.length := by omega
      rw [show (n : Int).toNat = n from by omega] at hv
      refine Or.inr ⟨n, _, us, rfl, hn, hv, rfl, ?_⟩
      simp only
      rw [off_at (ofK_some ho).2.2.2.1 hn]
theorem own_words {w : World} {B : Nat} {a : Option Addr} {n c : Nat} {ws : List Nat} (h : w.ownsRow B 24 1 (.slice a n c) n (words ws)) (hlt : ∀ x ∈ ws, x < 2 ^ 64) (hn : n = ws.length) : WordsR w (.slice a n c) ws := by
  subst hn
  exact ownsRow_words h hlt

theorem own_shape {w : World} {B n c : Nat} {e : TypeId} {a : Option Addr} {xs : List Value} (h : w.ownsRow B e 1 (.slice a n c) n xs) (hn : 0 < n) : ∃ g, a = some ⟨g, 0, none⟩ ∧ B ≤ g ∧ n ≤ c := by
  rcases h.2 with ⟨_, h0⟩ | ⟨g, cap, cur, hv, hb, hg, hc, _⟩
  · omega
  · cases hv
    exact ⟨g, rfl, hb, hc⟩

set_option maxRecDepth 100000 in
set_option maxHeartbeats 8000000 in
theorem walk {W : World} (kv : Value) (ks : List (List Int)) (hks : MatIn W kv ks ∧ ks.length * 24 ≤ 140737488351232) (k : Int) (wk : (Lit.int .i64 k).wf = true) (fv : Value) (xs : List Val) (hxs : ValsIn W fv xs)
    (epI : Int) (we : (Lit.int .u64 epI).wf = true) (i : Int) (wi : (Lit.int .i64 i).wf = true) (xv : Value) (x : Val) (hx : xv = x.v ∧ x.ok) (mv : Value) (mi : List Int) (hmi : IntsIn W mv .u64 mi ∧ mi.length * 8 ≤ 140737488351232) :
    Calls Try.prog 11 #[kv, .int .i64 k, fv, .int .u64 epI, .int .i64 i, xv, mv] W (LawPost W) := by
  obtain ⟨rfl, hok⟩ := hx
  obtain ⟨ep, rfl, hep⟩ := wf_u64 we
  obtain ⟨hF, hoks⟩ := hxs
  obtain ⟨mws, hMW⟩ := ints_words hmi.1
  have hM := hks.1
  clear hks wk we wi hmi
  have hE := Lib.hid (fun w' (u : Upd (fun _ => False) W w') => object_Encode kv fv ks k xs ep hep hoks w' (hM.upd u.none) (hF.upd u.none))
  have hD := fun w' (u : Upd (fun _ => False) W w') => object_Field kv ks k i x hok w' (hM.upd u.none)
  have hDec := Lib.hid (fun wv ws w' (u : Upd (fun _ => False) W w') (h : WordsR w' wv ws) => object_Decode kv wv ks ws w' (hM.upd u.none) h)
  have hand : bits .and .u64 (ep : Int) 4294967295 = ((ep % 2 ^ 32 : Nat) : Int) := and_ones ep 32 hep (by decide)
  have hFX := Lib.hid hF
  have hMX := Lib.hid hMW
  obtain ⟨fa, fc, rfl, hfc1, hfc2, -⟩ := hF
  have hx1 : (xs.length : Int) ≤ 9223372036854775807 := by unfold maxLen at hfc2; omega
  obtain ⟨ma, mc, rfl, hmc1, hmc2, -⟩ := hMW.1
  have hx2 : (mws.length : Int) ≤ 9223372036854775807 := by unfold maxLen at hmc2; omega
  have hcs := Lib.hid (encO_cases ks k xs ep)
  have hOk := Lib.hid hok
  have hOks := Lib.hid hoks
  have hxe : ∃ x', x' = x := ⟨x, rfl⟩
  obtain ⟨x', hxe⟩ := hxe
  rw [← hxe] at hOk
  have hfc := Lib.hid (fun (f : List Int) (ho : ofK ks k = some f) => fldO_cases ks k i x ho)
  obtain ⟨q, hqe⟩ : ∃ q, fldO ks k i x = q := ⟨_, rfl⟩
  rw [hqe] at hD
  rw [hqe, ← hxe] at hfc
  obtain ⟨xa, xn, re, im, rr⟩ := x
  change ∀ w', _ → Calls _ _ #[kv, .int .i64 k, .int .i64 i, .agg #[.int .i64 xa, .int .i64 xn, .int .u64 (re : Int), .int .u64 (im : Int), .int .i64 rr]] w' _ at hD
  show Calls _ _ #[kv, .int .i64 k, .slice fa xs.length fc, .int .u64 (ep : Int), .int .i64 i, .agg #[.int .i64 xa, .int .i64 xn, .int .u64 (re : Int), .int .u64 (im : Int), .int .i64 rr], .slice ma mws.length mc] _ _
  have hu1 : Upd (fun _ => False) W (W.alloc (.cells #[.int .i64 xa, .int .i64 xn, .int .u64 (re : Int), .int .u64 (im : Int), .int .i64 rr] 26)) := (Upd.refl _ _).alloc _
  have hB := Blk.new W [.int .i64 xa, .int .i64 xn, .int .u64 (re : Int), .int .u64 (im : Int), .int .i64 rr] 26
  have hl := Lib.hid (light11 kv ks _ (hM.upd hu1.none))
  clear hfc1 hfc2 hmc1 hmc2 hMW hok hoks hqe
  have Hhu1 := Lib.hid hu1; clear hu1
  have HhB := Lib.hid hB; clear hB
  have HhD := Lib.hid hD; clear hD
  have Hhxe := Lib.hid hxe; clear hxe
  clear hM
  go_enter Try.func11, Try.ntmps11
  go_wp2_with fail
  refine hl.out.mono ?_
  rintro e w2 ⟨b, rfl, hu2⟩
  have HU2 := Lib.hid (Hhu1.out.trans hu2)
  have HB2 := Lib.hid (HhB.out.upd hu2 (fun h => h))
  clear hu2 hl
  cases b with
  | false =>
    go_wp2_with (go_at_call 16; (with_reducible refine (awake11 _).mono ?_); rintro e w3 ⟨rfl, hu3⟩; have HU3 := Lib.hid (HU2.out.trans hu3); clear hu3)
    go_ret
    exact ⟨rfl, Upd.none HU3.out⟩
  | true =>
    by_cases h40 : (40 : Int) < xs.length
    · go_wp2_with (go_at_call 16; (with_reducible refine (awake11 _).mono ?_); rintro e w3 ⟨rfl, hu3⟩; have HU3 := Lib.hid (HU2.out.trans hu3); clear hu3)
      go_ret
      exact ⟨rfl, Upd.none HU3.out⟩
    · by_cases h20 : (20 : Int) < mws.length
      · go_wp2_with (go_at_call 16; (with_reducible refine (awake11 _).mono ?_); rintro e w3 ⟨rfl, hu3⟩; have HU3 := Lib.hid (HU2.out.trans hu3); clear hu3)
        go_ret
        exact ⟨rfl, Upd.none HU3.out⟩
      · go_wp2_with fail
        refine (hE.out _ HU2.out).mono ?_
        rintro e w3 ⟨hu3, va, vc, rfl, hW⟩
        have HU3 := Lib.hid (HU2.out.trans hu3)
        have HB3 := Lib.hid (HB2.out.upd hu3 (fun h => h))
        clear hu3 hE
        rcases hcs.out with ⟨m, hm0, hr⟩ | ⟨f, ws, ho, hlf, hws, hr⟩
        · rw [hr]
          have hm1 : (m != 0) = true := by rw [bne_iff_ne]; exact hm0
          clear hr hm0 hcs hW
          go_wp2_with (go_at_call 16; (with_reducible refine (awake11 _).mono ?_); rintro e w4 ⟨rfl, hu4⟩; have HU4 := Lib.hid (HU3.out.trans hu4); clear hu4)
          go_ret
          exact ⟨rfl, Upd.none HU4.out⟩
        · rw [hr] at hW
          rw [hr]
          obtain ⟨k0, -, k16, hMay, -⟩ := ofK_some ho
          obtain ⟨hf0, hf15, hok, hkp, hk16⟩ := mayK_facts f hMay
          obtain ⟨kn, rfl⟩ : ∃ kn : Nat, k = kn := ⟨k.toNat, by omega⟩
          rw [show (kn : Int).toNat = kn from by omega] at *
          have hkn16 : kn < 16 := by omega
          have hlen := whole_len ho hws
          have hwl15 : ws.length ≤ 15 := by omega
          obtain ⟨ys, hd1, hsame⟩ := back_first (more := mws) hkn16 ho hlf hws hOks.out
          have hshort := Lib.hid (back_short (ep := ep) hkn16 ho hws)
          have hset := Lib.hid (fun n us (hn : n < f.length) (hu : vw (f.getD n 0) x' = some us) p hp => back_set (ep := ep) hkn16 ho hlf hws hOks.out hn hOk.out hu p hp)
          have hfc := Lib.hid (hfc.out f ho)
          have hysl : ys.length = xs.length := by
            unfold sameVs at hsame
            rw [decide_eq_true_eq] at hsame
            exact hsame.1.symm
          obtain ⟨hd, hhde⟩ : ∃ hd, makeN kn (kW f) ep = hd := ⟨_, rfl⟩
          have hdlt : ∀ y ∈ hd :: ws, y < 2 ^ 64 := by
            rw [hhde] at hW
            exact hW.2
          have hm2 := hMX.out.2
          rw [hhde] at hW hd1 hshort hset
          simp only [hhde]
          have hW : WordsR w3 (.slice va (ws.length + 1) vc) (hd :: ws) := hW
          have HW3 := Lib.hid hW
          have HWI := Lib.hid hW.ints
          have hdc1 := Lib.hid (fun wv w' (u : Upd (fun _ => False) W w') (h : WordsR w' wv (hd :: ws ++ mws)) => show Calls _ _ _ _ (fun e w'' => ∃ va c, e = .returned (.tuple #[.int .i64 kn, .slice va xs.length c, .int .u64 ((ep % 2 ^ 32 : Nat) : Int), .int .i64 0]) ∧ ValsR w'' (.slice va xs.length c) ys ∧ Upd (fun _ => False) w' w'') from (hDec.out wv _ w' u h).mono (fun e w'' hh => by
            rw [hd1] at hh
            obtain ⟨u1, va, c, h1, h2⟩ := hh
            simp only at h1 h2
            rw [hysl] at h1 h2
            exact ⟨va, c, h1, h2, u1⟩))
          have hsv := Lib.hid (fun u v w' h1 h2 => (ref_SameValues u v xs ys w' h1 h2).mono (fun e w'' h => show e = .returned (.bool true) ∧ Upd (fun _ => False) w' w'' from ⟨by rw [← hsame]; exact h.1, h.2⟩))
          have hk1 : ((kn : Int) != (kn : Int)) = false := by simp
          have hwm : ws.length + 1 + mws.length ≤ 1099511627776 := by omega
          have hw1 : ws.length + 1 ≤ 1099511627776 := by omega
          have hwlen : ((hd :: ws).map fun (x : Nat) => (x : Int)).length = ws.length + 1 := by simp
          have HMI := Lib.hid (fun w' (u : Upd (fun _ => False) W w') => (hMX.out.upd u.none).ints)
          obtain ⟨em, hem⟩ : ∃ em, ep % 2 ^ 32 = em := ⟨_, rfl⟩
          rw [hem] at hdc1 hand
          have hem1 : ((em : Int) != (em : Int)) = false := by simp
          have hown1 := Lib.hid (fun (w4 : World) B a1 c1 (h : w4.ownsRow B 24 1 (.slice a1 (ws.length + 1) c1) (ws.length + 1) (((hd :: ws).map fun (x : Nat) => (x : Int)).map (Value.int .u64))) => show w4.ownsRow B 24 1 (.slice a1 (ws.length + 1) c1) (ws.length + 1) (words (hd :: ws)) from by rw [words_map] at h; exact h)
          have hown2 := Lib.hid (fun (w5 : World) B a1 c1 (h : w5.ownsRow B 24 1 (.slice a1 (ws.length + 1 + mws.length) c1) (ws.length + 1 + mws.length) (words (hd :: ws) ++ (mws.map fun (x : Nat) => (x : Int)).map (Value.int .u64))) => show WordsR w5 (.slice a1 (ws.length + 1 + mws.length) c1) (hd :: ws ++ mws) from by
            rw [words_map, words_append] at h
            exact own_words h (fun y hy => (List.mem_append.1 hy).elim (fun h => hdlt y h) (fun h => hm2 y h)) (by simp; omega))
          clear hr hcs hW hd1 hsame hysl hhde hMay hok hkp hk16 k0 k16 hf0 hkn16 hlen hem
          have Hhdlt := Lib.hid hdlt; clear hdlt
          have Hhm2 := Lib.hid hm2; clear hm2
          have Hhlf := Lib.hid hlf; clear hlf
          have Hhws := Lib.hid hws; clear hws
          have Hho := Lib.hid ho; clear ho
          go_wp2_with (first
            | (at_builtin; refine wpList_appendNil rfl _ _ 29 24 rfl (.int .u64 0) 8 Try.underlying29 infoU64 rfl rfl va (ws.length + 1) vc .u64 _ hwlen.symm rfl HWI.out hw1 (by decide) ?_; intro a1 c1 w4 ho4 hu4; have Ho4 := Lib.hid (hown1.out _ _ _ _ ho4); have HU4 := Lib.hid hu4; clear ho4 hu4)
            | (at_builtin; refine wpList_appendOnto rfl _ _ 29 24 rfl (.int .u64 0) 8 Try.underlying29 infoU64 rfl w3.heap.size _ _ _ rfl Ho4.out ma mws.length mc .u64 _ (List.length_map _).symm rfl (HMI.out _ (HU3.out.trans HU4.out)) hwm (by decide) HU4.out.size ?_; intro a2 c2 w5 ho5 hg5; have HW5 := Lib.hid (hown2.out _ _ _ _ ho5); have HU5 := Lib.hid (HU4.out.grown hg5 (fun k e hk => absurd hk (by have := ownBlock_le Ho4.out (by omega) e; omega))); clear ho5 hg5)
            | (go_at_call 29; (with_reducible refine (hdc1.out _ _ (HU3.out.trans HU5.out) HW5.out).mono ?_); rintro e w6 ⟨va6, vc6, rfl, hV6, hu6⟩; have HV6 := Lib.hid hV6; have HU6 := Lib.hid (HU5.out.trans hu6); clear hV6 hu6)
            | (go_at_call 31; (with_reducible refine (hsv.out _ _ _ (hFX.out.upd (HU3.out.trans HU6.out).none) HV6.out).mono ?_); rintro e w7 ⟨rfl, hu7⟩; have HU7 := Lib.hid (HU3.out.trans (HU6.out.trans hu7)); have hT7 := HB3.out.upd (HU6.out.trans hu7) (fun h => h); have c0 := hT7.cell 0 rfl; have c1 := hT7.cell 1 rfl; have c2 := hT7.cell 2 rfl; have c3 := hT7.cell 3 rfl; have c4 := hT7.cell 4 rfl; have HB7 := Lib.hid hT7; have HW7 := Lib.hid (HW3.out.upd (HU6.out.trans hu7).none); clear hT7 hu7))
          refine (HhD.out _ HU7.out).mono ?_
          rintro e w8 ⟨hu8, va8, vc8, rfl, hW8⟩
          have HU8 := Lib.hid (HU7.out.trans hu8)
          have HB8 := Lib.hid (HB7.out.upd hu8 (fun h => h))
          have HWw8 := Lib.hid (HW7.out.upd hu8.none)
          clear hu8 c0 c1 c2 c3 c4
          rcases hfc.out with ⟨m, hm0, hq⟩ | ⟨n, p, us, rfl, hn, hvw, hp, hq⟩
          · rw [hq]
            have hm1 : (m != 0) = true := by rw [bne_iff_ne]; exact hm0
            clear hq hm0 hfc hW8
            go_wp2_with (go_at_call 16; (with_reducible refine (awake11 _).mono ?_); rintro e w15 ⟨rfl, hu15⟩; have HU15 := Lib.hid hu15; clear hu15)
            go_ret
            exact ⟨rfl, Upd.none (HU8.out.trans HU15.out)⟩
          · rw [hq] at hW8
            rw [hq]
            have hW8 : WordsR w8 (.slice va8 us.length vc8) us := hW8
            have HW8 := Lib.hid hW8
            obtain ⟨hfit, zs, hd2, hzl, hzz⟩ := hset.out n us hn hvw p hp
            have hfit : p + us.length ≤ ws.length + 1 := hfit
            have hus0 : 0 < us.length := by
              have := vw_len hvw
              omega
            have p1 : ¬ (p : Int) < 1 := by omega
            have p2 : ¬ ((ws.length : Int) + 1 < (p : Int) + us.length) := by omega
            have p3 : p < ws.length + 1 := by omega
            have hzx : zs.length = xs.length := by rw [hzl, Hhlf.out]
            have hdc2 := Lib.hid (fun wv w' (u : Upd (fun _ => False) W w') (h : WordsR w' wv ((hd :: ws).take p ++ us ++ (hd :: ws).drop (p + us.length))) => show Calls _ _ _ _ (fun e w'' => ∃ va c, e = .returned (.tuple #[.int .i64 kn, .slice va xs.length c, .int .u64 ((ep % 2 ^ 32 : Nat) : Int), .int .i64 0]) ∧ ValsR w'' (.slice va xs.length c) zs ∧ Upd (fun _ => False) w' w'') from (hDec.out wv _ w' u h).mono (fun e w'' hh => by
              rw [hd2] at hh
              obtain ⟨u1, va, c, h1, h2⟩ := hh
              simp only at h1 h2
              rw [hzx] at h1 h2
              exact ⟨va, c, h1, h2, u1⟩))
            have hdc3 := Lib.hid (fun wv w' (u : Upd (fun _ => False) W w') (h : WordsR w' wv ((hd :: ws).take ws.length)) => show Calls _ _ _ _ (fun e w'' => ∃ va c, e = .returned (.tuple #[.int .i64 0, .slice va 0 c, .int .u64 0, .int .i64 8]) ∧ Upd (fun _ => False) w' w'') from (hDec.out wv _ w' u h).mono (fun e w'' hh => by
              rw [hshort.out] at hh
              obtain ⟨u1, va, c, h1, h2⟩ := hh
              exact ⟨va, c, h1, u1⟩))
            have hWlt : ∀ y ∈ (hd :: ws).take p ++ us ++ (hd :: ws).drop (p + us.length), y < 2 ^ 64 := by
              intro y hy
              rcases List.mem_append.1 hy with h | h
              · rcases List.mem_append.1 h with h | h
                · exact Hhdlt.out y (List.mem_of_mem_take h)
                · exact hW8.2 y h
              · exact Hhdlt.out y (List.mem_of_mem_drop h)
            have hown3 := Lib.hid (fun (w' : World) B a1 c1 (h : w'.ownsRow B 24 1 (.slice a1 (ws.length + 1) c1) (ws.length + 1) (words ((hd :: ws).take p ++ us ++ (hd :: ws).drop (p + us.length)))) => own_words h hWlt (by simp; omega))
            have hzq := Lib.hid (fun t (ht : t < xs.length) => hzz t (by have := Hhlf.out; omega))
            have HW8I := Lib.hid HWw8.out.ints
            clear hfc hset hd2 hzl hzz hq hvw hp hW8 hWlt hDec hdc1 hsv hshort
            have Hhfit := Lib.hid hfit; clear hfit
            have Hhzx := Lib.hid hzx; clear hzx
            have Hhn := Lib.hid hn; clear hn
            go_wp2_with (first
              | (at_builtin; refine wpList_appendNil rfl _ _ 29 24 rfl (.int .u64 0) 8 Try.underlying29 infoU64 rfl rfl va (ws.length + 1) vc .u64 _ hwlen.symm rfl HW8I.out hw1 (by decide) ?_; intro a9 c9 w9 ho9 hu9; have ho9 := hown1.out _ _ _ _ ho9; obtain ⟨g9, hg9, hgl, hgc⟩ := own_shape ho9 (Nat.succ_pos _); subst hg9; have Ho9 := Lib.hid ho9; have HU9 := Lib.hid hu9; have Hgl := Lib.hid hgl; have hgc2 : (ws.length : Int) + 1 ≤ c9 := (by omega); have hgc3 : p < c9 := (by omega); have hgc4 : ¬ c9 = p := (by omega); have hgc5 : ¬ c9 - p = 0 := (by omega); have hgc6 : p ≤ ws.length + 1 := (by omega); clear ho9 hu9 hgl)
              | (refine wpList_copyInto rfl _ _ 29 24 rfl Try.underlying29 (by kernel_rfl) w8.heap.size g9 (ws.length + 1) c9 (hd :: ws) us Ho9.out p Hhfit.out hus0 (ws.length + 1 - p) (c9 - p) rfl rfl va8 us.length vc8 rfl rfl (HW8.out.upd HU9.out.none) ?_; intro w10 ho10 hu10; have HW10 := Lib.hid (hown3.out _ _ _ _ ho10); have HU10 := Lib.hid (HU9.out.own hu10 (fun j e => (by have := Hgl.out; omega))); clear ho10 hu10)
              | (go_at_call 29; (with_reducible refine (hdc2.out _ _ (HU8.out.trans HU10.out) HW10.out).mono ?_); rintro e w11 ⟨va11, vc11, rfl, hV11, hu11⟩; have HV11 := Lib.hid hV11; have HU11 := Lib.hid (HU10.out.trans hu11); clear hV11 hu11))
            have HUW := Lib.hid (HU8.out.trans HU11.out)
            have HB11 := Lib.hid (HB8.out.upd HU11.out (fun h => h))
            have HWw11 := Lib.hid (HWw8.out.upd HU11.out.none)
            go_loopw [149] (fun i wr => ∃ t : Nat, i = .int .i64 t ∧ t ≤ xs.length ∧ Upd (fun _ => False) w11 wr) (fun i _ => (xs.length - intOf i).toNat)
            case atStart => exact ⟨0, rfl, Nat.zero_le _, Upd.refl _ _⟩
            case round =>
              obtain ⟨t, rfl, ht, hu⟩ := hrel
              by_cases hte : t = xs.length
              · have d1 : ¬ ((t : Int) < xs.length) := by omega
                have HW13 := Lib.hid (WordsR.take (HWw11.out.upd hu.none) (m := ws.length) (by omega))
                have HU13 := Lib.hid (HUW.out.trans hu)
                have hvc : ws.length + 1 ≤ vc := by
                  obtain ⟨a, cap, e, g2, -⟩ := HWw11.out.1
                  cases e
                  exact g2
                have hvc2 : (ws.length : Int) ≤ vc := by omega
                clear hte hu
                go_wp2_with (first
                  | (go_at_call 29; (with_reducible refine (hdc3.out _ _ HU13.out HW13.out).mono ?_); rintro e w14 ⟨va14, vc14, rfl, hu14⟩; have HU14 := Lib.hid (HU13.out.trans hu14); clear hu14)
                  | (go_at_call 16; (with_reducible refine (awake11 _).mono ?_); rintro e w15 ⟨rfl, hu15⟩; have HU15 := Lib.hid hu15; clear hu15))
                go_ret
                exact ⟨rfl, Upd.none (HU14.out.trans HU15.out)⟩
              · have d1 : (t : Int) < xs.length := by omega
                have t1 : t < xs.length := by omega
                have t2 : t < zs.length := by have := Hhzx.out; omega
                obtain ⟨b1, of1, hix, hb1, hc1⟩ := hFX.out.index (P := Try.prog) Try.underlying23 (by kernel_rfl) (by kernel_rfl) t1
                obtain ⟨b2, of2, hiz, hb2, hc2⟩ := HV11.out.index (P := Try.prog) Try.underlying23 (by kernel_rfl) (by kernel_rfl) (i := t) (by have := Hhzx.out; omega)
                have U02 := HUW.out.trans hu
                have x0 := (U02.none.cell (p := ⟨b1, of1 + t * 5 + 0, none⟩) hb1).trans (hc1 0 (by decide))
                have x1 := (U02.none.cell (p := ⟨b1, of1 + t * 5 + 1, none⟩) hb1).trans (hc1 1 (by decide))
                have x2 := (U02.none.cell (p := ⟨b1, of1 + t * 5 + 2, none⟩) hb1).trans (hc1 2 (by decide))
                have x3 := (U02.none.cell (p := ⟨b1, of1 + t * 5 + 3, none⟩) hb1).trans (hc1 3 (by decide))
                have x4 := (U02.none.cell (p := ⟨b1, of1 + t * 5 + 4, none⟩) hb1).trans (hc1 4 (by decide))
                simp only [Nat.add_zero] at x0
                have hzt := hzq.out t t1
                have hz := fun (o : Obj) (s : Later (wr.alloc o)) (j : Nat) (hj : j < 5) => show s.val.cell? ⟨b2, of2 + t * 5 + j, none⟩ = _ from (((hu.alloc o).trans s.up).none.cell (p := ⟨b2, of2 + t * 5 + j, none⟩) hb2).trans (hc2 j hj)
                generalize xs.getD t zeroV = X at *
                generalize zs.getD t zeroV = Z at *
                generalize of1 + t * 5 = o1 at *
                generalize of2 + t * 5 = o2 at *
                have hTr := HB11.out.upd hu (fun h => h)
                obtain ⟨Xa, Xn, Xre, Xim, Xr⟩ := X
                obtain ⟨Za, Zn, Zre, Zim, Zr⟩ := Z
                change wr.cell? _ = some (.int .i64 Xa) at x0
                change wr.cell? _ = some (.int .i64 Xn) at x1
                change wr.cell? _ = some (.int .u64 (Xre : Int)) at x2
                change wr.cell? _ = some (.int .u64 (Xim : Int)) at x3
                change wr.cell? _ = some (.int .i64 Xr) at x4
                have hbw : W.heap.size < wr.heap.size := hTr.lt
                by_cases htn : t = n
                · rw [if_pos htn, Hhxe.out] at hzt
                  subst htn
                  have hsvv := Lib.hid (fun w' (u : Upd (fun _ => False) (wr.alloc (.cells #[.int .i64 xa, .int .i64 xn, .int .u64 (re : Int), .int .u64 (im : Int), .int .i64 rr] 26)) w') => (ref_SameValue ⟨Za, Zn, Zre, Zim, Zr⟩ ⟨xa, xn, re, im, rr⟩ w').mono (fun e w'' h => show e = .returned (.bool true) ∧ Upd (fun _ => False) (wr.alloc (.cells #[.int .i64 xa, .int .i64 xn, .int .u64 (re : Int), .int .u64 (im : Int), .int .i64 rr] 26)) w'' from ⟨by rw [← hzt]; exact h.1, u.trans h.2⟩))
                  have hsvv := Lib.hid (show ∀ w' (u : Upd (fun _ => False) (wr.alloc (.cells #[.int .i64 xa, .int .i64 xn, .int .u64 (re : Int), .int .u64 (im : Int), .int .i64 rr] 26)) w'), Calls Try.prog 41 #[.agg #[.int .i64 Za, .int .i64 Zn, .int .u64 (Zre : Int), .int .u64 (Zim : Int), .int .i64 Zr], .agg #[.int .i64 xa, .int .i64 xn, .int .u64 (re : Int), .int .u64 (im : Int), .int .i64 rr]] w' (fun e w'' => e = .returned (.bool true) ∧ Upd (fun _ => False) (wr.alloc (.cells #[.int .i64 xa, .int .i64 xn, .int .u64 (re : Int), .int .u64 (im : Int), .int .i64 rr] 26)) w'') from hsvv.out)
                  have z0 := fun (s : Later (wr.alloc (.cells #[.int .i64 xa, .int .i64 xn, .int .u64 (re : Int), .int .u64 (im : Int), .int .i64 rr] 26))) => show s.val.cell? ⟨b2, o2 + 0, none⟩ = some (.int .i64 Za) from hz (.cells #[.int .i64 xa, .int .i64 xn, .int .u64 (re : Int), .int .u64 (im : Int), .int .i64 rr] 26) s 0 (by decide)
                  have z1 := fun (s : Later (wr.alloc (.cells #[.int .i64 xa, .int .i64 xn, .int .u64 (re : Int), .int .u64 (im : Int), .int .i64 rr] 26))) => show s.val.cell? ⟨b2, o2 + 1, none⟩ = some (.int .i64 Zn) from hz (.cells #[.int .i64 xa, .int .i64 xn, .int .u64 (re : Int), .int .u64 (im : Int), .int .i64 rr] 26) s 1 (by decide)
                  have z2 := fun (s : Later (wr.alloc (.cells #[.int .i64 xa, .int .i64 xn, .int .u64 (re : Int), .int .u64 (im : Int), .int .i64 rr] 26))) => show s.val.cell? ⟨b2, o2 + 2, none⟩ = some (.int .u64 (Zre : Int)) from hz (.cells #[.int .i64 xa, .int .i64 xn, .int .u64 (re : Int), .int .u64 (im : Int), .int .i64 rr] 26) s 2 (by decide)
                  have z3 := fun (s : Later (wr.alloc (.cells #[.int .i64 xa, .int .i64 xn, .int .u64 (re : Int), .int .u64 (im : Int), .int .i64 rr] 26))) => show s.val.cell? ⟨b2, o2 + 3, none⟩ = some (.int .u64 (Zim : Int)) from hz (.cells #[.int .i64 xa, .int .i64 xn, .int .u64 (re : Int), .int .u64 (im : Int), .int .i64 rr] 26) s 3 (by decide)
                  have z4 := fun (s : Later (wr.alloc (.cells #[.int .i64 xa, .int .i64 xn, .int .u64 (re : Int), .int .u64 (im : Int), .int .i64 rr] 26))) => show s.val.cell? ⟨b2, o2 + 4, none⟩ = some (.int .i64 Zr) from hz (.cells #[.int .i64 xa, .int .i64 xn, .int .u64 (re : Int), .int .u64 (im : Int), .int .i64 rr] 26) s 4 (by decide)
                  have n0 := fun (s : Later (wr.alloc (.cells #[.int .i64 xa, .int .i64 xn, .int .u64 (re : Int), .int .u64 (im : Int), .int .i64 rr] 26))) => ((Blk.new wr [.int .i64 xa, .int .i64 xn, .int .u64 (re : Int), .int .u64 (im : Int), .int .i64 rr] 26).upd s.up (fun h => h)).cell 0 rfl
                  have n1 := fun (s : Later (wr.alloc (.cells #[.int .i64 xa, .int .i64 xn, .int .u64 (re : Int), .int .u64 (im : Int), .int .i64 rr] 26))) => ((Blk.new wr [.int .i64 xa, .int .i64 xn, .int .u64 (re : Int), .int .u64 (im : Int), .int .i64 rr] 26).upd s.up (fun h => h)).cell 1 rfl
                  have n2 := fun (s : Later (wr.alloc (.cells #[.int .i64 xa, .int .i64 xn, .int .u64 (re : Int), .int .u64 (im : Int), .int .i64 rr] 26))) => ((Blk.new wr [.int .i64 xa, .int .i64 xn, .int .u64 (re : Int), .int .u64 (im : Int), .int .i64 rr] 26).upd s.up (fun h => h)).cell 2 rfl
                  have n3 := fun (s : Later (wr.alloc (.cells #[.int .i64 xa, .int .i64 xn, .int .u64 (re : Int), .int .u64 (im : Int), .int .i64 rr] 26))) => ((Blk.new wr [.int .i64 xa, .int .i64 xn, .int .u64 (re : Int), .int .u64 (im : Int), .int .i64 rr] 26).upd s.up (fun h => h)).cell 3 rfl
                  have n4 := fun (s : Later (wr.alloc (.cells #[.int .i64 xa, .int .i64 xn, .int .u64 (re : Int), .int .u64 (im : Int), .int .i64 rr] 26))) => ((Blk.new wr [.int .i64 xa, .int .i64 xn, .int .u64 (re : Int), .int .u64 (im : Int), .int .i64 rr] 26).upd s.up (fun h => h)).cell 4 rfl
                  simp only [Nat.add_zero] at z0
                  have hTa := hTr.alloc (.cells #[.int .i64 Xa, .int .i64 Xn, .int .u64 (Xre : Int), .int .u64 (Xim : Int), .int .i64 Xr] 26)
                  have c0 := hTa.cell 0 rfl
                  have c1 := hTa.cell 1 rfl
                  have c2 := hTa.cell 2 rfl
                  have c3 := hTa.cell 3 rfl
                  have c4 := hTa.cell 4 rfl
                  clear hTa hTr hte U02 hc1 hc2
                  clear hz
                  have Hhu := Lib.hid hu; clear hu
                  go_wp2_with fail
                  clear c0 c1 c2 c3 c4 x0 x1 x2 x3 x4
                  refine wp_region_later (by kernel_rfl) (by kernel_rfl) ?_
                  repeat (go_big_quiet_step ((go_at_call 41; exact calls_later (hsvv.out _ (Later.up _)))))
                  refine wpQuiet_nil ?_
                  intro w14 hw4
                  have u14 : Upd (fun _ => False) (wr.alloc (.cells #[.int .i64 xa, .int .i64 xn, .int .u64 (re : Int), .int .u64 (im : Int), .int .i64 rr] 26)) w14 := by
                    obtain ⟨s, rfl⟩ := hw4
                    exact s.up
                  clear hw4
                  clear z0 z1 z2 z3 z4 n0 n1 n2 n3 n4
                  go_wp2
                  go_roundw
                  case rel => exact ⟨t + 1, by go_num, by omega, (Hhu.out.alloc _).trans u14⟩
                  case measure => simp [intOf]; omega
                · rw [if_neg htn] at hzt
                  have e2 : ((t : Int) == (n : Int)) = false := by rw [beq_eq_false_iff_ne]; omega
                  have hsvv := Lib.hid (fun w' (u : Upd (fun _ => False) (wr.alloc (.cells #[.int .i64 Xa, .int .i64 Xn, .int .u64 (Xre : Int), .int .u64 (Xim : Int), .int .i64 Xr] 26)) w') => (ref_SameValue ⟨Za, Zn, Zre, Zim, Zr⟩ ⟨Xa, Xn, Xre, Xim, Xr⟩ w').mono (fun e w'' h => show e = .returned (.bool true) ∧ Upd (fun _ => False) (wr.alloc (.cells #[.int .i64 Xa, .int .i64 Xn, .int .u64 (Xre : Int), .int .u64 (Xim : Int), .int .i64 Xr] 26)) w'' from ⟨by rw [← hzt]; exact h.1, u.trans h.2⟩))
                  have hsvv := Lib.hid (show ∀ w' (u : Upd (fun _ => False) (wr.alloc (.cells #[.int .i64 Xa, .int .i64 Xn, .int .u64 (Xre : Int), .int .u64 (Xim : Int), .int .i64 Xr] 26)) w'), Calls Try.prog 41 #[.agg #[.int .i64 Za, .int .i64 Zn, .int .u64 (Zre : Int), .int .u64 (Zim : Int), .int .i64 Zr], .agg #[.int .i64 Xa, .int .i64 Xn, .int .u64 (Xre : Int), .int .u64 (Xim : Int), .int .i64 Xr]] w' (fun e w'' => e = .returned (.bool true) ∧ Upd (fun _ => False) (wr.alloc (.cells #[.int .i64 Xa, .int .i64 Xn, .int .u64 (Xre : Int), .int .u64 (Xim : Int), .int .i64 Xr] 26)) w'') from hsvv.out)
                  have z0 := fun (s : Later (wr.alloc (.cells #[.int .i64 Xa, .int .i64 Xn, .int .u64 (Xre : Int), .int .u64 (Xim : Int), .int .i64 Xr] 26))) => show s.val.cell? ⟨b2, o2 + 0, none⟩ = some (.int .i64 Za) from hz (.cells #[.int .i64 Xa, .int .i64 Xn, .int .u64 (Xre : Int), .int .u64 (Xim : Int), .int .i64 Xr] 26) s 0 (by decide)
                  have z1 := fun (s : Later (wr.alloc (.cells #[.int .i64 Xa, .int .i64 Xn, .int .u64 (Xre : Int), .int .u64 (Xim : Int), .int .i64 Xr] 26))) => show s.val.cell? ⟨b2, o2 + 1, none⟩ = some (.int .i64 Zn) from hz (.cells #[.int .i64 Xa, .int .i64 Xn, .int .u64 (Xre : Int), .int .u64 (Xim : Int), .int .i64 Xr] 26) s 1 (by decide)
                  have z2 := fun (s : Later (wr.alloc (.cells #[.int .i64 Xa, .int .i64 Xn, .int .u64 (Xre : Int), .int .u64 (Xim : Int), .int .i64 Xr] 26))) => show s.val.cell? ⟨b2, o2 + 2, none⟩ = some (.int .u64 (Zre : Int)) from hz (.cells #[.int .i64 Xa, .int .i64 Xn, .int .u64 (Xre : Int), .int .u64 (Xim : Int), .int .i64 Xr] 26) s 2 (by decide)
                  have z3 := fun (s : Later (wr.alloc (.cells #[.int .i64 Xa, .int .i64 Xn, .int .u64 (Xre : Int), .int .u64 (Xim : Int), .int .i64 Xr] 26))) => show s.val.cell? ⟨b2, o2 + 3, none⟩ = some (.int .u64 (Zim : Int)) from hz (.cells #[.int .i64 Xa, .int .i64 Xn, .int .u64 (Xre : Int), .int .u64 (Xim : Int), .int .i64 Xr] 26) s 3 (by decide)
                  have z4 := fun (s : Later (wr.alloc (.cells #[.int .i64 Xa, .int .i64 Xn, .int .u64 (Xre : Int), .int .u64 (Xim : Int), .int .i64 Xr] 26))) => show s.val.cell? ⟨b2, o2 + 4, none⟩ = some (.int .i64 Zr) from hz (.cells #[.int .i64 Xa, .int .i64 Xn, .int .u64 (Xre : Int), .int .u64 (Xim : Int), .int .i64 Xr] 26) s 4 (by decide)
                  have n0 := fun (s : Later (wr.alloc (.cells #[.int .i64 Xa, .int .i64 Xn, .int .u64 (Xre : Int), .int .u64 (Xim : Int), .int .i64 Xr] 26))) => ((Blk.new wr [.int .i64 Xa, .int .i64 Xn, .int .u64 (Xre : Int), .int .u64 (Xim : Int), .int .i64 Xr] 26).upd s.up (fun h => h)).cell 0 rfl
                  have n1 := fun (s : Later (wr.alloc (.cells #[.int .i64 Xa, .int .i64 Xn, .int .u64 (Xre : Int), .int .u64 (Xim : Int), .int .i64 Xr] 26))) => ((Blk.new wr [.int .i64 Xa, .int .i64 Xn, .int .u64 (Xre : Int), .int .u64 (Xim : Int), .int .i64 Xr] 26).upd s.up (fun h => h)).cell 1 rfl
                  have n2 := fun (s : Later (wr.alloc (.cells #[.int .i64 Xa, .int .i64 Xn, .int .u64 (Xre : Int), .int .u64 (Xim : Int), .int .i64 Xr] 26))) => ((Blk.new wr [.int .i64 Xa, .int .i64 Xn, .int .u64 (Xre : Int), .int .u64 (Xim : Int), .int .i64 Xr] 26).upd s.up (fun h => h)).cell 2 rfl
                  have n3 := fun (s : Later (wr.alloc (.cells #[.int .i64 Xa, .int .i64 Xn, .int .u64 (Xre : Int), .int .u64 (Xim : Int), .int .i64 Xr] 26))) => ((Blk.new wr [.int .i64 Xa, .int .i64 Xn, .int .u64 (Xre : Int), .int .u64 (Xim : Int), .int .i64 Xr] 26).upd s.up (fun h => h)).cell 3 rfl
                  have n4 := fun (s : Later (wr.alloc (.cells #[.int .i64 Xa, .int .i64 Xn, .int .u64 (Xre : Int), .int .u64 (Xim : Int), .int .i64 Xr] 26))) => ((Blk.new wr [.int .i64 Xa, .int .i64 Xn, .int .u64 (Xre : Int), .int .u64 (Xim : Int), .int .i64 Xr] 26).upd s.up (fun h => h)).cell 4 rfl
                  simp only [Nat.add_zero] at z0
                  clear hTr hte U02 hc1 hc2
                  have Hhu := Lib.hid hu; clear hu
                  go_wp2_with fail
                  clear x0 x1 x2 x3 x4
                  refine wp_region_later (by kernel_rfl) (by kernel_rfl) ?_
                  repeat (go_big_quiet_step ((go_at_call 41; exact calls_later (hsvv.out _ (Later.up _)))))
                  refine wpQuiet_nil ?_
                  intro w14 hw4
                  have u14 : Upd (fun _ => False) (wr.alloc (.cells #[.int .i64 Xa, .int .i64 Xn, .int .u64 (Xre : Int), .int .u64 (Xim : Int), .int .i64 Xr] 26)) w14 := by
                    obtain ⟨s, rfl⟩ := hw4
                    exact s.up
                  clear hw4
                  clear z0 z1 z2 z3 z4 n0 n1 n2 n3 n4
                  go_wp2
                  go_roundw
                  case rel => exact ⟨t + 1, by go_num, by omega, (Hhu.out.alloc _).trans u14⟩
                  case measure => simp [intOf]; omega
theorem own : ownKnob Try.prog.godebug = none := by kernel_rfl
theorem laidOut : laidOutB Try.prog = true := by kernel_rfl
set_option maxRecDepth 100000 in
theorem lifted (os : Os) (started : os.Started) (H : Type) (enc : TypeId × Value → H) :
    ReturnsInHanded {} Try.checked os 11 .any (Rows.objectBackSpec.pre6 enc Try.prog Try.f11 Rows.objectBackRow.domain false) (Rows.objectBackSpec.post enc Try.prog Try.f11 false true false false) := by
  refine returnsInHanded_of_change_sized (C := Try.checked) own started (by kernel_rfl) Try.func11
    (ChangeSpec.witness6 (enc := enc) (C := Try.checked) false ⟨#[], #[.slice none 0 0, .int .i64 0, .slice none 0 0, .int .u64 0, .int .i64 0, .agg #[.int .i64 0, .int .i64 0, .int .u64 0, .int .u64 0, .int .i64 0], .slice none 0 0], []⟩ 8 (by kernel_rfl) (by kernel_rfl) (by kernel_rfl) (by kernel_rfl)) ?_
  intro W base args ds gs before hval0 hW _ hsz0 _
  have hsz : (DataW.weightsEach Try.prog (Try.f11.params.toList ++ Rows.objectBackSpec.plain.varTypes Try.prog) (ds ++ gs)).all (· ≤ reachBytes) = true := hsz0
  clear hsz0
  have hval : ∀ (j : Nat) t v, Try.f11.params[j]? = some t → args[j]? = some v → Value.okWide Try.prog W .any base t v := hval0
  have hW' := hW
  obtain ⟨p, q, hA0, hV, rfl, _, _⟩ := hW
  have hA : DataW.TrodAll enc Try.prog W 0 (fun _ => true) true Try.f11.params.toList args.toList ds p := hA0
  rw [Try.params11] at hA hval hsz
  obtain ⟨v0, vs0, d0, ds0, p0, q0, hargs, rfl, rfl, h0, r0⟩ := trodAll_cons hA
  obtain ⟨v1, vs1, d1, ds1, p1, q1, rfl, rfl, rfl, h1, r1⟩ := trodAll_cons r0
  obtain ⟨v2, vs2, d2, ds2, p2, q2, rfl, rfl, rfl, h2, r2⟩ := trodAll_cons r1
  obtain ⟨v3, vs3, d3, ds3, p3, q3, rfl, rfl, rfl, h3, r3⟩ := trodAll_cons r2
  obtain ⟨v4, vs4, d4, ds4, p4, q4, rfl, rfl, rfl, h4, r4⟩ := trodAll_cons r3
  obtain ⟨v5, vs5, d5, ds5, p5, q5, rfl, rfl, rfl, h5, r5⟩ := trodAll_cons r4
  obtain ⟨v6, vs6, d6, ds6, p6, q6, rfl, rfl, rfl, h6, r6⟩ := trodAll_cons r5
  obtain ⟨rfl, rfl, rfl⟩ := trodAll_nil r6
  obtain rfl : args = #[v0, v1, v2, v3, v4, v5, v6] := by cases args; simp_all
  obtain ⟨rfl, rfl⟩ := trodVars_none hV
  clear hA0 hval0
  simp only [List.append_nil] at hW'
  have hlt : ∀ x, (x ∈ p0 ∨ x ∈ p1 ∨ x ∈ p2 ∨ x ∈ p3 ∨ x ∈ p4 ∨ x ∈ p5 ∨ x ∈ p6) → x.block < W.heap.size := fun x hx => by simpa using hW'.lt x (by simpa using hx)
  have k0 : ∀ (W' : World), Below W.heap.size W W' → DataW.Trod enc Try.prog W' 0 (fun b => decide (b < W.heap.size)) true 22 v0 d0 p0 :=
    fun W' hn => Below.trod laidOut (by kernel_rfl) (of_decide_eq_true (by kernel_rfl)) h0 hn (fun x hx => hlt x (Or.inl hx))
  have k1 : ∀ (W' : World), Below W.heap.size W W' → DataW.Trod enc Try.prog W' 0 (fun b => decide (b < W.heap.size)) true 3 v1 d1 p1 :=
    fun W' hn => Below.trod laidOut (by kernel_rfl) (of_decide_eq_true (by kernel_rfl)) h1 hn (fun x hx => hlt x (Or.inr (Or.inl hx)))
  have k2 : ∀ (W' : World), Below W.heap.size W W' → DataW.Trod enc Try.prog W' 0 (fun b => decide (b < W.heap.size)) true 23 v2 d2 p2 :=
    fun W' hn => Below.trod laidOut (by kernel_rfl) (of_decide_eq_true (by kernel_rfl)) h2 hn (fun x hx => hlt x (Or.inr (Or.inr (Or.inl hx))))
  have k3 : ∀ (W' : World), Below W.heap.size W W' → DataW.Trod enc Try.prog W' 0 (fun b => decide (b < W.heap.size)) true 24 v3 d3 p3 :=
    fun W' hn => Below.trod laidOut (by kernel_rfl) (of_decide_eq_true (by kernel_rfl)) h3 hn (fun x hx => hlt x (Or.inr (Or.inr (Or.inr (Or.inl hx)))))
  have k4 : ∀ (W' : World), Below W.heap.size W W' → DataW.Trod enc Try.prog W' 0 (fun b => decide (b < W.heap.size)) true 3 v4 d4 p4 :=
    fun W' hn => Below.trod laidOut (by kernel_rfl) (of_decide_eq_true (by kernel_rfl)) h4 hn (fun x hx => hlt x (Or.inr (Or.inr (Or.inr (Or.inr (Or.inl hx))))))
  have k5 : ∀ (W' : World), Below W.heap.size W W' → DataW.Trod enc Try.prog W' 0 (fun b => decide (b < W.heap.size)) true 26 v5 d5 p5 :=
    fun W' hn => Below.trod laidOut (by kernel_rfl) (of_decide_eq_true (by kernel_rfl)) h5 hn (fun x hx => hlt x (Or.inr (Or.inr (Or.inr (Or.inr (Or.inr (Or.inl hx)))))))
  have k6 : ∀ (W' : World), Below W.heap.size W W' → DataW.Trod enc Try.prog W' 0 (fun b => decide (b < W.heap.size)) true 29 v6 d6 p6 :=
    fun W' hn => Below.trod laidOut (by kernel_rfl) (of_decide_eq_true (by kernel_rfl)) h6 hn (fun x hx => hlt x (Or.inr (Or.inr (Or.inr (Or.inr (Or.inr (Or.inr (hx))))))))
  obtain ⟨x0, hx0⟩ := open_kindsAt (k := 0) _ Try.underlying22 Try.underlying68 (by kernel_rfl) (by decide) (by kernel_rfl) (by kernel_rfl) rfl Try.underlying52 Try.underlying3 (by kernel_rfl) (hval 0 22 v0 rfl rfl) h0 hsz 0 rfl rfl
  obtain ⟨a1, rfl, _, _, w1⟩ := open_int Try.underlying3 (hval 1 3 v1 rfl rfl) h1
  obtain ⟨x2, hx2⟩ := open_valsAt _ _ _ _ _ Try.underlying23 Try.underlying26 (by kernel_rfl) (by decide) (by kernel_rfl) (by kernel_rfl) rfl rfl rfl rfl rfl Try.underlying3 Try.underlying2 Try.underlying24 Try.underlying24 Try.underlying3 (hval 2 23 v2 rfl rfl) h2 hsz 2 rfl rfl
  obtain ⟨a3, rfl, _, _, w3⟩ := open_int Try.underlying24 (hval 3 24 v3 rfl rfl) h3
  obtain ⟨a4, rfl, _, _, w4⟩ := open_int Try.underlying3 (hval 4 3 v4 rfl rfl) h4
  obtain ⟨x5, hx5⟩ := open_valAt _ _ _ _ _ Try.underlying26 (by kernel_rfl) (by decide) (by kernel_rfl) rfl rfl rfl rfl rfl Try.underlying3 Try.underlying2 Try.underlying24 Try.underlying24 Try.underlying3 (hval 5 26 v5 rfl rfl) h5 hsz 5 rfl rfl
  obtain ⟨x6, hx6⟩ := open_intsAt (bytes := 8) Try.underlying29 Try.underlying24 (by kernel_rfl) (by kernel_rfl) (hval 6 29 v6 rfl rfl) h6 hsz 6 rfl rfl
  refine (walk (W := W) v0 x0 hx0 a1 w1 v2 x2 hx2 a3 w3 a4 w4 v5 x5 hx5 v6 x6 hx6).mono fun e W' ⟨he, hb⟩ => ?_
  subst he
  refine ⟨_, rfl, _, _, _, [], p0 ++ (p1 ++ (p2 ++ (p3 ++ (p4 ++ (p5 ++ (p6 ++ ([]))))))), [], hW', ?_, ?_, rfl, hb.frame _, fun h => by cases h⟩
  · exact trodAll_cons_mk (shut_bool Try.underlying4 true) trodAll_mk0
  · exact trodAll_cons_mk (k0 _ hb) (trodAll_cons_mk (k1 _ hb) (trodAll_cons_mk (k2 _ hb) (trodAll_cons_mk (k3 _ hb) (trodAll_cons_mk (k4 _ hb) (trodAll_cons_mk (k5 _ hb) (trodAll_cons_mk (k6 _ hb) (trodAll_mk0)))))))

theorem over : Rows.objectBackRow.holds Try.pinned (OpenSpec.ofChange Rows.objectBackSpec) :=
  OpenClaim.holds_of_wide 11 Try.f11 rfl rfl rfl rfl rfl rfl rfl ⟨rfl, rfl, rfl, rfl, rfl⟩ rfl rfl rfl rfl rfl (by kernel_rfl) Try.func11 (by kernel_rfl)
    (of_decide_eq_true (by kernel_rfl)) (by unfold Func.isWrapper; first | (rw [if_pos (by decide +kernel)]; kernel_rfl) | (rw [if_neg (by decide +kernel)]; exact ⟨rfl, rfl⟩))
    (fun os started H enc _ => lifted os started H enc)

/-- The given statement. -/
theorem proved : Rows.ObjectBackSaid := over
#print axioms proved
end Go.Proofs.Ytcnbcidbbeadcaa.objectBack
