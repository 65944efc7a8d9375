/- The document's volatile objects: Move. -/
import Derived.Test.YtcnbcidbbeadcaaVoT
import Derived.Test.YtcnbcidbbeadcaaVhMv
import Derived.Test.YtcnbcidbbeadcaaVoG
-- merged



namespace Go.Proofs.Ytcnbcidbbeadcaa
open Go.RowKit Go.Deep
set_option linter.unusedVariables false

/-- append([]Value(nil), s...), s may be nil. -/
theorem wpList_copyValsO {w : World} {ops : Array Oper} {rest : List Oper} {o : Oper} {a : Act} {Q : Exit → Act → World → Prop} (hgd : o.guard = none) (s x : Operand)
    (ho : o.op = .call { callee := .builtin .append, args := #[s, x], argTypes := #[23, 23] }) (hs : a.eval s = .slice none 0 0) (ao : Option Addr) (n c : Nat) (xs : List Val) (hx : a.eval x = .slice ao n c) (hv : ValsR w (.slice ao n c) xs) (hl : xs.length ≤ 1000)
    (h : ∀ a' c' w', w'.ownsRow w.heap.size 26 5 (.slice a' xs.length c') xs.length (cellsV xs) → Upd (fun _ => False) w w' → wpList Try.prog ops Q rest (a.put o.dst (.slice a' xs.length c')) w') : wpList Try.prog ops Q (o :: rest) a w := by
  obtain ⟨i0, hi, hz0, hz1, hz2⟩ := info_parts infoVal
  cases ao with
  | none =>
    have h0 : xs.length = 0 := by
      obtain ⟨a0, c0, e, h1, h2, h3⟩ := hv
      rcases Nat.eq_zero_or_pos xs.length with h0 | h0
      · exact h0
      · obtain ⟨b, off, k1, -⟩ := h3 h0
        cases e
        cases k1
    have hxs : xs = [] := List.eq_nil_of_length_eq_zero h0
    subst hxs
    have hn : n = 0 := by
      obtain ⟨a0, c0, e, -⟩ := hv
      cases e
      rfl
    subst hn
    refine wpList_plain hgd fun K hK' => ?_
    have hrun := run_append_nil (P := Try.prog) w 23 o.type 26 i0 none 0 0 c (Nat.le_refl _) Try.underlying23 hi
    unfold Oper.wp
    simp [execOp, ho, resolve, invoke, builtin, hs, hx, hrun, Result.andThen]
    exact hK' _ _ (h none 0 w (World.ownsRow_nil _ _ _ _) (Upd.refl _ _))
  | some ad =>
    obtain ⟨hn, hc⟩ := hv.cells
    have hO : w.ownsRow w.heap.size 26 5 (.slice none 0 0) 0 [] := World.ownsRow_nil _ _ _ _
    refine wpList_append_own w hgd s x 23 ho w.heap.size 26 i0 _ 5 40 Try.underlying23 hi hz0 hz1 hz2 rfl (by decide) _ 0 [] hs hO ad n c (cellsV xs) hx (by rw [cellsV_len, hn]) hc (cellsV_one xs) (by unfold maxLen; omega) (by omega) (Nat.le_refl _) (fun v' w' h1 h2 _ => ?_)
    rw [Nat.zero_add, List.nil_append, hn] at h1
    obtain ⟨a', c', rfl⟩ := ownsRow_shape h1
    exact h a' _ w' h1 ((Upd.refl _ _).grown h2 (fun k e => by cases e))
/-- A row of values of the call's own, cell by cell. -/
theorem own_rowC {w : World} {B : Nat} {fa : Option Addr} {n c : Nat} {xs : List Val} (h : w.ownsRow B 26 5 (.slice fa n c) n (cellsV xs)) (hn : n = xs.length) (hp : 0 < n) :
    ∃ g, fa = some ⟨g, 0, none⟩ ∧ B ≤ g ∧ ∀ k, k < n → ∀ t, t < 5 → w.cell? ⟨g, k * 5 + t, none⟩ = some ((xs.getD k zeroV).cell t) ∧ w.frozen? ⟨g, k * 5 + t, none⟩ = false := by
  subst hn
  rcases h.2 with ⟨hv, h0⟩ | ⟨g, cap, cur, hv, hg, hh, hn, hcap, hsz, htake⟩
  · omega
  · cases hv
    have hb : Blk w g cur.toList 26 := hh
    refine ⟨g, rfl, hg, fun k hk t ht => ⟨hb.cell _ ?_, hb.free _⟩⟩
    have h1 : (cur.toList.take (xs.length * 5))[k * 5 + t]? = (cellsV xs)[k * 5 + t]? := by rw [htake]
    rw [List.getElem?_take, if_pos (by omega), cellsV_get xs k t hk ht] at h1
    exact h1
theorem own_mv {w : World} {B g c : Nat} {p q : Int} {f : List Val} {t : Nat} (h : w.ownsRow B 26 5 (.slice (some ⟨g, 0, none⟩) f.length c) f.length (cellsV (mvK p q f t))) (ht : t < f.length) (hz : (f.getD t zeroV).k = 3 ∧ (f.getD t zeroV).r = p) :
    (w.setCell ⟨g, t * 5 + 4, none⟩ (.int .i64 q)).ownsRow B 26 5 (.slice (some ⟨g, 0, none⟩) f.length c) f.length (cellsV (mvK p q f (t + 1))) := by
  have hl := mvK_len p q f t
  have r5 := ownsRow_setCell h (t * 5 + 4) (by omega) (.int .i64 q)
  rw [cellsV_setR (mvK p q f t) t (by omega) q, mvK_get p q f t ht] at r5
  have e2 : (mvK p q f t).set t { f.getD t zeroV with r := q } = mvK p q f (t + 1) := by
    rw [mvK_succ p q f t ht]
    unfold mv1
    rw [if_pos hz]
  rw [e2] at r5
  exact r5
theorem voC_cellsV {w : World} {m : Nat} {T : Nat → Prop} {ks : List (List Int)} {o : Nat → VOb} {kv : Value} {Kd : Nat → Int} {G : Nat → Value} (h : IsVo w m T ks o kv Kd G) {i : Nat} (hi : i < 64) (hus : (o i).used = true) (vs : List Val) {w5 : World} (u : Upd (fun _ => False) w w5) {vv : Value}
    (hr : w5.ownsRow w.heap.size 26 5 vv vs.length (cellsV vs)) :
    (∃ Kd G, IsVo (w5.setCell ⟨m, 129 + i, none⟩ vv) m T ks (setO o i ⟨true, (o i).k, vs⟩) kv Kd G) ∧ Upd (fun j => j = m) w (w5.setCell ⟨m, 129 + i, none⟩ vv) := by
  have h5 := h.still u
  have hb := h5.blk.set (129 + i) vv
  rw [voC_setG kv o Kd G i hi ⟨true, (o i).k, vs⟩ _ hus.symm] at hb
  have u6 := (Upd.refl (fun j => j = m) w5).at (129 + i) vv
  have hlt := h.lt
  have hm := h.self
  refine ⟨⟨_, _, h5.put hi ⟨true, (o i).k, vs⟩ (Kd i) _ hb u6 (fun _ w3 u3 => ?_) (fun _ => h.kd i hi hus)⟩, (u.mono (fun _ _ x => x.elim)).trans u6⟩
  exact ownsRow_vals (ownsRow_upd (ownsRow_upd hr u6 (fun j hj (e : j = m) => by subst e; have := hlt _ hm; omega)) u3 (fun j hj e => by have := hlt _ e; omega))
/-- While the document moves references. -/
structure VmSt (w : World) (m : Nat) (T : Nat → Prop) (ks : List (List Int)) (kv : Value) (p q : Int) (o : Nat → VOb) (k c : Nat) (wr : World) : Prop where
  st : ∃ Kd G, IsVo wr m T ks (mvL p q o (allTo o k)) kv Kd G
  up : Upd (fun j => j = m) w wr
  cnt : c = cntL p o (allTo o k)
theorem allTo_off {o : Nat → VOb} {k : Nat} (h : (o k).used = false) : allTo o (k + 1) = allTo o k := by
  show allTo o k ++ (if (o k).used then _ else _) = _
  rw [h]
  simp
theorem allTo_on {o : Nat → VOb} {k : Nat} (h : (o k).used = true) : allTo o (k + 1) = allTo o k ++ [-1 - (k : Int)] := by
  show allTo o k ++ (if (o k).used then _ else _) = _
  rw [h]
  simp
theorem allTo_no (o : Nat → VOb) (k : Nat) : (-1 - (k : Int)) ∉ allTo o k := fun h => by
  obtain ⟨i, h1, -, h2⟩ := (allTo_mem o k _).1 h
  omega
theorem mvL_cur (p q : Int) (o : Nat → VOb) (k : Nat) : mvL p q o (allTo o k) k = o k := by
  unfold mvL
  rw [if_neg (allTo_no o k)]
theorem VmSt.off {w : World} {m : Nat} {T : Nat → Prop} {ks : List (List Int)} {kv : Value} {p q : Int} {o : Nat → VOb} {k c : Nat} {wr : World} (h : VmSt w m T ks kv p q o k c wr) (hu : (o k).used = false) : VmSt w m T ks kv p q o (k + 1) c wr :=
  ⟨by rw [allTo_off hu]; exact h.st, h.up, by rw [allTo_off hu]; exact h.cnt⟩
theorem VmSt.on {w : World} {m : Nat} {T : Nat → Prop} {ks : List (List Int)} {kv : Value} {p q : Int} {o : Nat → VOb} {k c d : Nat} {wr w5 : World} (h : VmSt w m T ks kv p q o k c wr) (hk : k < 64) (hu : (o k).used = true) (u : Upd (fun _ => False) wr w5) {vv : Value}
    (hr : w5.ownsRow wr.heap.size 26 5 vv (o k).f.length (cellsV (mvK p q (o k).f (o k).f.length))) (hd : d = c + cntF p (o k).f) : VmSt w m T ks kv p q o (k + 1) d (w5.setCell ⟨m, 129 + k, none⟩ vv) := by
  obtain ⟨Kd, G, h1⟩ := h.st
  have e1 := mvL_cur p q o k
  have h2 := voC_cellsV (i := k) (w5 := w5) h1 hk (by rw [e1]; exact hu) (mvF p q (o k).f) u (vv := vv) (by
    rw [mvK_all] at hr
    have : (mvF p q (o k).f).length = (o k).f.length := by simp [mvF]
    rw [this]
    exact hr)
  have e3 := mvL_snoc p q o (allTo o k) k (allTo_no o k)
  rw [e1] at h2 e3
  rw [hu] at e3
  refine ⟨by rw [allTo_on hu, e3]; exact h2.1, h.up.trans h2.2, ?_⟩
  rw [allTo_on hu, cntL_snoc, ← h.cnt, show (-1 - (-1 - (k : Int))).toNat = k from by omega]
  exact hd
end Go.Proofs.Ytcnbcidbbeadcaa

/- The document's volatile objects: Move, the walk. -/

namespace Go.Proofs.Ytcnbcidbbeadcaa
open Go.RowKit Go.Deep
set_option linter.unusedVariables false

set_option maxRecDepth 100000 in
set_option maxHeartbeats 4000000 in
theorem vo_Move {w : World} {m : Nat} {T : Nat → Prop} {ks : List (List Int)} {o : Nat → VOb} {kv : Value} {Kd : Nat → Int} {G : Nat → Value} (h : IsVo w m T ks o kv Kd G) (p q : Int) (h15 : ∀ i, i < 64 → (o i).used = true → (o i).f.length ≤ 15) :
    Calls Try.prog 75 #[.pointer (some ⟨m, 0, none⟩), .int .i64 p, .int .i64 q] w (VoRm w m T ks kv (mvL p q o (allV o)) (.int .i64 (cntL p o (allV o) : Int))) := by
  have hs0 : VmSt w m T ks kv p q o 0 0 w := ⟨⟨Kd, G, by show IsVo _ _ _ _ (mvL p q o []) _ _ _; rw [mvL_nil]; exact h⟩, Upd.refl _ _, rfl⟩
  have fin := Lib.hid (fun wr (c : Nat) (hh : VmSt w m T ks kv p q o 64 c wr) => show VoRm w m T ks kv (mvL p q o (allV o)) (.int .i64 (cntL p o (allV o) : Int)) (.returned (.int .i64 (c : Int))) wr from ⟨by rw [hh.cnt]; rfl, hh.st, hh.up⟩)
  have H15 := Lib.hid h15
  have Hs0 := Lib.hid hs0
  clear h h15 hs0
  go_enter Try.func75, Try.ntmps75
  go_wp2_with fail
  go_loopw [7, 11] (fun n i wr => ∃ k c : Nat, i = .int .i64 k ∧ k ≤ 64 ∧ n = .int .i64 c ∧ c ≤ k * 15 ∧ VmSt w m T ks kv p q o k c wr) (fun _ i _ => (64 - intOf i).toNat)
  case atStart => exact ⟨0, 0, rfl, Nat.zero_le _, rfl, Nat.le_refl _, Hs0.out⟩
  case round =>
    obtain ⟨k, c, rfl, hk, rfl, hc, hst⟩ := hrel
    clear Hs0
    by_cases hk2 : k = 64
    · subst hk2
      have e := Lib.hid (fin.out wr c hst)
      clear hst
      go_wp2_with fail
      go_ret
      exact e.out
    · have d2 : (k : Int) < 64 := by omega
      have hk3 : k < 64 := by omega
      have d1 : ¬ (k : Int) < 0 := by omega
      obtain ⟨Kd1, G1, h1⟩ := hst.st
      obtain ⟨-, cu, -, cG⟩ := h1.cell k hk3
      rw [mvL_cur p q o k] at cu
      cases hu : (o k).used with
      | false =>
        rw [hu] at cu
        have e := Lib.hid (hst.off hu)
        clear hst h1 hu cG hk2
        go_wp2_with fail
        go_roundw
        case rel => exact ⟨k + 1, c, by go_num, by omega, rfl, by omega, e.out⟩
        case measure => simp [intOf]; omega
      | true =>
        rw [hu] at cu
        have hv := h1.row k hk3 (by rw [mvL_cur]; exact hu) wr (Upd.refl _ _)
        rw [mvL_cur] at hv
        have hfr := Lib.hid (fun w' (u : Upd (fun _ => False) wr w') => (h1.still u).blk.free (129 + k))
        have hf15 := H15.out k hk3 hu
        have hon := Lib.hid (fun d w5 vv u hr hd => hst.on (d := d) (w5 := w5) (vv := vv) hk3 hu u hr hd)
        have hc3 := Lib.hid (fun w' (u : Upd (fun _ => False) wr w') => ((h1.still u).cell k hk3).2.2.2)
        clear hst h1 hu hk2
        generalize hfE : (o k).f = f at *
        obtain ⟨ga, gc, hGe⟩ : ∃ ga gc, G1 k = .slice ga f.length gc := by
          obtain ⟨ga, gc, h2, -⟩ := hv
          exact ⟨ga, gc, h2⟩
        rw [hGe] at cG hv
        have hfl : (f.length : Int) ≤ 15 := by omega
        have hfl2 : f.length ≤ 1000 := by omega
        have hcl := Lib.hid (cntF_le p f)
        have hst0 := Lib.hid (mvK_zero p q f)
        obtain ⟨wo, hwo⟩ : ∃ wo : World, wo = wr := ⟨_, rfl⟩
        subst hwo
        clear hfE hGe
        go_wp2_with (at_builtin; apply wpList_copyValsO rfl _ _ rfl rfl ga f.length gc f rfl hv hfl2; intro fa fc w5 ho5 hu5; have Ho5 := Lib.hid ho5; have Hu5 := Lib.hid hu5; clear ho5 hu5)
        have hs5 : w5.ownsRow wo.heap.size 26 5 (.slice fa f.length fc) f.length (cellsV (mvK p q f 0)) := by rw [hst0.out]; exact Ho5.out
        have Hs5 := Lib.hid hs5
        clear hs5 Ho5 cG cu hv
        go_loopw [7, 30] (fun n i wr => ∃ t d : Nat, i = .int .i64 t ∧ t ≤ f.length ∧ n = .int .i64 d ∧ d = c + cntF p (f.take t) ∧ d ≤ c + t ∧ wr.ownsRow wo.heap.size 26 5 (.slice fa f.length fc) f.length (cellsV (mvK p q f t)) ∧ Upd (fun _ => False) wo wr) (fun _ i _ => (16 - intOf i).toNat)
        case atStart => exact ⟨0, c, rfl, Nat.zero_le _, rfl, by simp [cntF], Nat.le_refl _, Hs5.out, Hu5.out⟩
        case round =>
          obtain ⟨t, d, rfl, ht, rfl, hde, hdl, hrow, hup⟩ := hrel
          clear Hs5 Hu5
          by_cases ht2 : t = f.length
          · have d3 : ¬ (t : Int) < f.length := by omega
            rw [ht2] at hrow
            have hd2 : d = c + cntF p f := by rw [hde, ht2, List.take_length]
            have e := Lib.hid (hon.out d wr (.slice fa f.length fc) hup hrow hd2)
            have ffr := hfr.out wr hup
            have c3 := hc3.out wr hup
            have hdb : d ≤ (k + 1) * 15 := by omega
            clear hrow hup hd2 hde ht2
            go_wp2_with fail
            go_roundw
            case rel => exact ⟨k + 1, d, by go_num, by omega, rfl, by omega, e.out⟩
            case measure => simp [intOf]; omega
          · have ht3 : t < f.length := by omega
            have d3 : (t : Int) < f.length := by omega
            obtain ⟨g, hga, hg, hcs⟩ := own_rowC hrow (mvK_len p q f t).symm (by omega)
            subst hga
            have hix2 := idx_own5 g f.length fc t ht3
            have htk : f.take (t + 1) = f.take t ++ [f.getD t zeroV] := snoc_take f t ht3
            have hcs1 := cntF_snoc p (f.take t) (f.getD t zeroV)
            rw [← htk] at hcs1
            have y0 := (hcs t ht3 0 (by decide)).1
            have y4 := (hcs t ht3 4 (by decide)).1
            have f4 := (hcs t ht3 4 (by decide)).2
            rw [mvK_get p q f t ht3] at y0 y4
            have hmiss := Lib.hid (fun hz => mv_miss (p := p) (q := q) ht3 hz)
            have hhit := Lib.hid (fun hz => own_mv (q := q) hrow ht3 hz)
            have hupS := Lib.hid (fun v => hup.own ((Upd.refl (fun j => j = g) wr).at (t * 5 + 4) v) (fun j (e : j = g) => by omega))
            have Hhrow := Lib.hid hrow; clear hrow
            have Hhup := Lib.hid hup; clear hup
            generalize f.getD t zeroV = z at *
            obtain ⟨za, zn, zre, zim, zr⟩ := z
            simp only [Nat.add_zero] at y0
            change wr.cell? _ = some (.int .i64 za) at y0
            change wr.cell? _ = some (.int .i64 zr) at y4
            unfold cnt1 at hcs1
            simp only at hcs1 hmiss hhit
            have Hhcs1 := Lib.hid hcs1; clear hcs1
            have Hhde := Lib.hid hde; clear hde
            clear hcs htk ht2 hon hfr hc3
            by_cases hza : za = 3
            · subst hza
              by_cases hzr : zr = p
              · subst hzr
                have hc2 := Hhcs1.out
                rw [if_pos ⟨rfl, rfl⟩] at hc2
                have hn := Lib.hid (hhit.out ⟨rfl, rfl⟩)
                have w1 : IntKind.i64.wrap ((d : Int) + 1) = ((d + 1 : Nat) : Int) := by rw [IntKind.wrap_i64]; omega
                have Hhc2 := Lib.hid hc2; clear hc2
                clear hhit hmiss
                go_wp2_with fail
                go_roundw
                case rel => exact ⟨t + 1, d + 1, by go_num, by omega, by first | rfl | (rw [w1]) | go_num, by rw [Hhc2.out, Hhde.out]; omega, by omega, hn.out, hupS.out _⟩
                case measure => simp [intOf]; omega
              · have hc2 := Hhcs1.out
                rw [if_neg (fun h => hzr h.2)] at hc2
                have hmm := hmiss.out (fun h => hzr h.2)
                have e4 : (zr == p) = false := by rw [beq_eq_false_iff_ne]; exact hzr
                have Hhc2 := Lib.hid hc2; clear hc2
                have Hhmm := Lib.hid hmm; clear hmm
                clear hhit hmiss hzr
                go_wp2_with fail
                go_roundw
                case rel => exact ⟨t + 1, d, by go_num, by omega, rfl, by rw [Hhc2.out, Hhde.out]; rfl, by omega, by rw [Hhmm.out]; exact Hhrow.out, Hhup.out⟩
                case measure => simp [intOf]; omega
            · have hc2 := Hhcs1.out
              rw [if_neg (fun h => hza h.1)] at hc2
              have hmm := hmiss.out (fun h => hza h.1)
              have e4 : (za == 3) = false := by rw [beq_eq_false_iff_ne]; exact hza
              have Hhc2 := Lib.hid hc2; clear hc2
              have Hhmm := Lib.hid hmm; clear hmm
              clear hhit hmiss hza
              go_wp2_with fail
              go_roundw
              case rel => exact ⟨t + 1, d, by go_num, by omega, rfl, by rw [Hhc2.out, Hhde.out]; rfl, by omega, by rw [Hhmm.out]; exact Hhrow.out, Hhup.out⟩
              case measure => simp [intOf]; omega
end Go.Proofs.Ytcnbcidbbeadcaa

/- The document's volatile objects: Keep; what lies in memory while it searches, and while it drops. -/


namespace Go.Proofs.Ytcnbcidbbeadcaa
open Go.RowKit Go.Deep
set_option linter.unusedVariables false

def keepB (S : List Int) : List Value := (List.range 64).map (fun i : Nat => Value.bool (decide ((-1 - (i : Int)) ∈ S)))
theorem keepB_get (S : List Int) (i : Nat) (hi : i < 64) : (keepB S)[i]? = some (.bool (decide ((-1 - (i : Int)) ∈ S))) := by
  unfold keepB
  rw [List.getElem?_map, List.getElem?_range hi]
  rfl
theorem keepB_len (S : List Int) : (keepB S).length = 64 := by simp [keepB]
theorem keepB_set (S : List Int) (i : Nat) (hi : i < 64) : (keepB S).set i (.bool true) = keepB ((-1 - (i : Int)) :: S) := by
  apply List.ext_getElem?
  intro t
  by_cases ht : t < 64
  · rw [keepB_get _ t ht]
    by_cases e : t = i
    · subst e
      rw [List.getElem?_set_self (by rw [keepB_len]; exact hi)]
      simp
    · rw [List.getElem?_set_ne (fun h => e h.symm), keepB_get _ t ht]
      have : ((-1 - (t : Int)) ∈ (-1 - (i : Int)) :: S) ↔ (-1 - (t : Int)) ∈ S := by
        rw [List.mem_cons]
        constructor
        · rintro (h | h)
          · omega
          · exact h
        · exact Or.inr
      simp only [this]
  · rw [List.getElem?_eq_none (by rw [List.length_set, keepB_len]; omega), List.getElem?_eq_none (by rw [keepB_len]; omega)]
theorem keepB_nil : keepB [] = List.replicate 64 (.bool false) := by kernel_rfl
structure VkSt (w : World) (kb : Nat) (o : Nat → VOb) (fs : List Int) (k : Nat) (row S : List Int) (rv : Value) (wr : World) : Prop where
  kbk : Blk wr kb (keepB S) 71
  own : wr.ownsRow (kb + 1) 3 1 rv row.length (ints row)
  inv : SInv o fs k row S
  lo : w.heap.size ≤ kb
  up : Upd (fun _ => False) w wr
theorem VkSt.pass {w : World} {kb : Nat} {o : Nat → VOb} {fs : List Int} {k : Nat} {row S : List Int} {rv : Value} {wr : World} (h : VkSt w kb o fs k row S rv wr) (hk : k < row.length) (hc : row.getD k 0 ∈ S ∨ (findV o (row.getD k 0)).isSome = false) : VkSt w kb o fs (k + 1) row S rv wr :=
  ⟨h.kbk, h.own, h.inv.pass hk hc, h.lo, h.up⟩
theorem VkSt.take {w : World} {kb : Nat} {o : Nat → VOb} {fs : List Int} {k : Nat} {row S : List Int} {rv : Value} {wr w8 w9 : World} (h : VkSt w kb o fs k row S rv wr) (r15 : ∀ x, (refsV o x).length ≤ 15) (hk : k < row.length) {i : Nat} (hf : findV o (row.getD k 0) = some i) (hn : row.getD k 0 ∉ S)
    (u8 : Upd (fun _ => False) (wr.setCell ⟨kb, i, none⟩ (.bool true)) w8) {a' : Option Addr} {c' : Nat}
    (ho9 : w9.ownsRow (kb + 1) 3 1 (.slice a' (row.length + (refsV o (row.getD k 0)).length) c') (row.length + (refsV o (row.getD k 0)).length) (ints row ++ (refsV o (row.getD k 0)).map (Value.int .i64))) (hg9 : w8.grownBy w9 rv.ownBlock) :
    VkSt w kb o fs (k + 1) (row ++ refsV o (row.getD k 0)) (row.getD k 0 :: S) (.slice a' (row ++ refsV o (row.getD k 0)).length c') w9 := by
  have hlo := h.lo
  obtain ⟨hi, -, hx⟩ := findV_some hf
  have u9 : Upd (fun j => kb < j) w8 w9 := (Upd.refl _ _).grown hg9 (fun j e _ => by have := (h.own.lt j e).1; omega)
  have hb := h.kbk.set i (.bool true)
  rw [keepB_set S i hi, ← hx] at hb
  have u7 := (Upd.refl (fun j => j = kb) wr).at i (.bool true)
  refine ⟨(hb.upd u8 (fun x => x)).upd u9 (fun (x : kb < kb) => by omega), ?_, h.inv.take r15 hk hn (by rw [hf]; rfl), h.lo, ((h.up.own u7 (fun j (e : j = kb) => by omega)).trans u8).own u9 (fun j (e : kb < j) => by omega)⟩
  rw [List.length_append]
  have : ints (row ++ refsV o (row.getD k 0)) = ints row ++ (refsV o (row.getD k 0)).map (Value.int .i64) := by simp [ints]
  rw [this]
  exact ho9
theorem dropV_congr (o : Nat → VOb) {S K : List Int} (h : ∀ x, x ∈ S ↔ x ∈ K) (n : Nat) : dropV o S n = dropV o K n := by
  funext i
  unfold dropV
  simp only [h]
theorem goneTo_congr (o : Nat → VOb) {S K : List Int} (h : ∀ x, x ∈ S ↔ x ∈ K) (n : Nat) : goneTo o S n = goneTo o K n := by
  induction n with
  | zero => rfl
  | succ n ih =>
    unfold goneTo
    rw [ih]
    simp only [h]
/-- While what is not reached is dropped. -/
structure VdSt (w : World) (m : Nat) (T : Nat → Prop) (ks : List (List Int)) (kv : Value) (kb : Nat) (o : Nat → VOb) (S : List Int) (j : Nat) (wr : World) : Prop where
  st : ∃ Kd G, IsVo wr m T ks (dropV o S j) kv Kd G
  kbk : Blk wr kb (keepB S) 71
  up : Upd (fun j => j = m) w wr
theorem dropV_none (o : Nat → VOb) (S : List Int) : dropV o S 0 = o := by
  funext i
  exact dropV_behind o S 0 i (Nat.zero_le _)
theorem VdSt.stay {w : World} {m : Nat} {T : Nat → Prop} {ks : List (List Int)} {kv : Value} {kb : Nat} {o : Nat → VOb} {S : List Int} {j : Nat} {wr : World} (h : VdSt w m T ks kv kb o S j wr) (hc : ¬ ((o j).used = true ∧ (-1 - (j : Int)) ∉ S)) : VdSt w m T ks kv kb o S (j + 1) wr ∧ goneTo o S (j + 1) = goneTo o S j :=
  ⟨⟨by rw [dropV_succ, if_neg hc]; exact h.st, h.kbk, h.up⟩, by show goneTo o S j + (if _ then 1 else 0) = _; rw [if_neg hc]; rfl⟩
theorem VdSt.gone {w : World} {m : Nat} {T : Nat → Prop} {ks : List (List Int)} {kv : Value} {kb : Nat} {o : Nat → VOb} {S : List Int} {j : Nat} {wr : World} (h : VdSt w m T ks kv kb o S j wr) (hj : j < 64) (hkb : kb ≠ m) (hc : (o j).used = true ∧ (-1 - (j : Int)) ∉ S) :
    Calls Try.prog 73 #[.pointer (some ⟨m, 0, none⟩), .int .i64 (-1 - (j : Int))] wr (fun e w' => e = .returned (.bool true) ∧ VdSt w m T ks kv kb o S (j + 1) w') ∧ goneTo o S (j + 1) = goneTo o S j + 1 := by
  obtain ⟨Kd, G, h1⟩ := h.st
  have hf : findV (dropV o S j) (-1 - (j : Int)) = some j := by rw [findV_place _ j hj, dropV_behind o S j j (Nat.le_refl _), if_pos hc.1]
  have hr := vo_Remove h1 (-1 - (j : Int))
  rw [hf] at hr
  have e : removeV (dropV o S j) (-1 - (j : Int)) = dropV o S (j + 1) := by
    unfold removeV
    rw [hf, dropV_succ, if_pos hc]
  rw [e] at hr
  exact ⟨hr.mono (fun e w' hh => ⟨hh.1, hh.2.1, h.kbk.upd hh.2.2 (fun e => hkb e), h.up.trans hh.2.2⟩), by show goneTo o S j + (if _ then 1 else 0) = _; rw [if_pos hc]⟩
end Go.Proofs.Ytcnbcidbbeadcaa

/- The document's volatile objects: Keep, the walk. -/

namespace Go.Proofs.Ytcnbcidbbeadcaa
open Go.RowKit Go.Deep
set_option linter.unusedVariables false

set_option maxRecDepth 100000 in
set_option maxHeartbeats 4000000 in
theorem vo_Keep {w : World} {m : Nat} {T : Nat → Prop} {ks : List (List Int)} {o : Nat → VOb} {kv : Value} {Kd : Nat → Int} {G : Nat → Value} (h : IsVo w m T ks o kv Kd G) (v : Value) (fs : List Int) (hl : IntsR w v .i64 fs) (h20 : fs.length ≤ 20) (h15 : ∀ i, i < 64 → (o i).used = true → (o i).f.length ≤ 15) :
    Calls Try.prog 74 #[.pointer (some ⟨m, 0, none⟩), v] w (VoRm w m T ks kv (dropV o (keepV o fs) 64) (.int .i64 (goneTo o (keepV o fs) 64 : Int))) := by
  obtain ⟨fa, fc, rfl⟩ : ∃ fa fc, v = .slice fa fs.length fc := by
    obtain ⟨fa, fc, h1, -⟩ := hl
    exact ⟨fa, fc, h1⟩
  have r15 : ∀ x, (refsV o x).length ≤ 15 := fun x => by
    unfold refsV
    split
    · simp
    · rename_i i hi
      have := h15 i (findV_some hi).1 (findV_some hi).2.1
      have := refsTo5_len (o i).f
      omega
  have hmw : m < w.heap.size := h.blk.lt
  have hAt := Lib.hid (fun w' (u : Upd (fun _ => False) w w') x => vo_At (h.still u) x)
  have hRf := Lib.hid (fun w' (u : Upd (fun _ => False) w w') x => vo_Refs (h.still u) x h15)
  have hB0 : Blk (w.alloc (.cells #[.bool false, .bool false, .bool false, .bool false, .bool false, .bool false, .bool false, .bool false, .bool false, .bool false, .bool false, .bool false, .bool false, .bool false, .bool false, .bool false, .bool false, .bool false, .bool false, .bool false, .bool false, .bool false, .bool false, .bool false, .bool false, .bool false, .bool false, .bool false, .bool false, .bool false, .bool false, .bool false, .bool false, .bool false, .bool false, .bool false, .bool false, .bool false, .bool false, .bool false, .bool false, .bool false, .bool false, .bool false, .bool false, .bool false, .bool false, .bool false, .bool false, .bool false, .bool false, .bool false, .bool false, .bool false, .bool false, .bool false, .bool false, .bool false, .bool false, .bool false, .bool false, .bool false, .bool false, .bool false] 71)) w.heap.size (keepB []) 71 := by
    have e : (keepB []).toArray = #[.bool false, .bool false, .bool false, .bool false, .bool false, .bool false, .bool false, .bool false, .bool false, .bool false, .bool false, .bool false, .bool false, .bool false, .bool false, .bool false, .bool false, .bool false, .bool false, .bool false, .bool false, .bool false, .bool false, .bool false, .bool false, .bool false, .bool false, .bool false, .bool false, .bool false, .bool false, .bool false, .bool false, .bool false, .bool false, .bool false, .bool false, .bool false, .bool false, .bool false, .bool false, .bool false, .bool false, .bool false, .bool false, .bool false, .bool false, .bool false, .bool false, .bool false, .bool false, .bool false, .bool false, .bool false, .bool false, .bool false, .bool false, .bool false, .bool false, .bool false, .bool false, .bool false, .bool false, .bool false] := by kernel_rfl
    have := Blk.new w (keepB []) 71
    rw [e] at this
    exact this
  have hI0 := ints_upd hl ((Upd.refl _ w).alloc (.cells #[.bool false, .bool false, .bool false, .bool false, .bool false, .bool false, .bool false, .bool false, .bool false, .bool false, .bool false, .bool false, .bool false, .bool false, .bool false, .bool false, .bool false, .bool false, .bool false, .bool false, .bool false, .bool false, .bool false, .bool false, .bool false, .bool false, .bool false, .bool false, .bool false, .bool false, .bool false, .bool false, .bool false, .bool false, .bool false, .bool false, .bool false, .bool false, .bool false, .bool false, .bool false, .bool false, .bool false, .bool false, .bool false, .bool false, .bool false, .bool false, .bool false, .bool false, .bool false, .bool false, .bool false, .bool false, .bool false, .bool false, .bool false, .bool false, .bool false, .bool false, .bool false, .bool false, .bool false, .bool false] 71))
  have hs0 := Lib.hid (fun a' c' w6 (ho : w6.ownsRow (w.heap.size + 1) 3 1 (.slice a' (0 + fs.length) c') (0 + fs.length) ([] ++ fs.map (Value.int .i64))) (hg : (w.alloc (.cells #[.bool false, .bool false, .bool false, .bool false, .bool false, .bool false, .bool false, .bool false, .bool false, .bool false, .bool false, .bool false, .bool false, .bool false, .bool false, .bool false, .bool false, .bool false, .bool false, .bool false, .bool false, .bool false, .bool false, .bool false, .bool false, .bool false, .bool false, .bool false, .bool false, .bool false, .bool false, .bool false, .bool false, .bool false, .bool false, .bool false, .bool false, .bool false, .bool false, .bool false, .bool false, .bool false, .bool false, .bool false, .bool false, .bool false, .bool false, .bool false, .bool false, .bool false, .bool false, .bool false, .bool false, .bool false, .bool false, .bool false, .bool false, .bool false, .bool false, .bool false, .bool false, .bool false, .bool false, .bool false] 71)).grownBy w6 (Value.slice none 0 0).ownBlock) => show VkSt w w.heap.size o fs 0 fs [] (.slice a' (0 + fs.length) c') w6 from by
    have u6 : Upd (fun _ => False) (w.alloc (.cells #[.bool false, .bool false, .bool false, .bool false, .bool false, .bool false, .bool false, .bool false, .bool false, .bool false, .bool false, .bool false, .bool false, .bool false, .bool false, .bool false, .bool false, .bool false, .bool false, .bool false, .bool false, .bool false, .bool false, .bool false, .bool false, .bool false, .bool false, .bool false, .bool false, .bool false, .bool false, .bool false, .bool false, .bool false, .bool false, .bool false, .bool false, .bool false, .bool false, .bool false, .bool false, .bool false, .bool false, .bool false, .bool false, .bool false, .bool false, .bool false, .bool false, .bool false, .bool false, .bool false, .bool false, .bool false, .bool false, .bool false, .bool false, .bool false, .bool false, .bool false, .bool false, .bool false, .bool false, .bool false] 71)) w6 := (Upd.refl _ _).grown hg (fun j e => by cases e)
    rw [Nat.zero_add] at ho ⊢
    exact ⟨hB0.upd u6 (fun x => x), by simpa [ints] using ho, SInv.start o fs, Nat.le_refl _, ((Upd.refl _ _).alloc _).trans u6⟩)
  have hfl : (fs.length : Int) ≤ 20 := by omega
  have h20b : 0 + fs.length ≤ 1099511627776 := by omega
  have H := Lib.hid h
  have hzz : w.heap.size + 1 ≤ (w.alloc (.cells #[.bool false, .bool false, .bool false, .bool false, .bool false, .bool false, .bool false, .bool false, .bool false, .bool false, .bool false, .bool false, .bool false, .bool false, .bool false, .bool false, .bool false, .bool false, .bool false, .bool false, .bool false, .bool false, .bool false, .bool false, .bool false, .bool false, .bool false, .bool false, .bool false, .bool false, .bool false, .bool false, .bool false, .bool false, .bool false, .bool false, .bool false, .bool false, .bool false, .bool false, .bool false, .bool false, .bool false, .bool false, .bool false, .bool false, .bool false, .bool false, .bool false, .bool false, .bool false, .bool false, .bool false, .bool false, .bool false, .bool false, .bool false, .bool false, .bool false, .bool false, .bool false, .bool false, .bool false, .bool false] 71)).heap.size := by simp
  have hfin := Lib.hid (fun (S : List Int) (hm : ∀ x, x ∈ S ↔ x ∈ keepV o fs) wr (n : Nat) (hn : n = goneTo o S 64) (hh : VdSt w m T ks kv w.heap.size o S 64 wr) => show VoRm w m T ks kv (dropV o (keepV o fs) 64) (.int .i64 (goneTo o (keepV o fs) 64 : Int)) (.returned (.int .i64 (n : Int))) wr from by
    rw [← dropV_congr o hm, ← goneTo_congr o hm]
    exact ⟨by rw [hn], hh.st, hh.up⟩)
  have Hr15 := Lib.hid r15; clear r15
  clear h h15 hl hB0
  go_enter Try.func74, Try.ntmps74
  go_wp2_with (at_builtin; refine wpList_appendOnto rfl _ _ 52 3 rfl (.int .i64 0) 8 Try.underlying52 infoInt rfl (w.heap.size + 1) (.slice none 0 0) 0 [] rfl (World.ownsRow_nil _ _ _ _) fa fs.length fc .i64 fs rfl rfl hI0 h20b (by decide) hzz ?_; intro ra rc w6 ho6 hg6; have Hs0 := Lib.hid (hs0.out ra rc w6 ho6 hg6); clear ho6 hg6 hI0 hzz hs0)
  generalize hkbE : w.heap.size = kb at *
  have hkm : kb ≠ m := by omega
  go_loopw [6, 7] (fun rv kk wr => ∃ (k : Nat) (row S : List Int) (ra : Option Addr) (rc : Nat), kk = .int .i64 k ∧ rv = .slice ra row.length rc ∧ VkSt w kb o fs k row S (.slice ra row.length rc) wr) (fun _ kk _ => (2000 - intOf kk).toNat)
  case atStart => exact ⟨0, fs, [], ra, rc, rfl, rfl, by have := Hs0.out; rw [Nat.zero_add] at this; exact this⟩
  case round =>
    obtain ⟨k, row, S, ra2, rc2, rfl, rfl, hst⟩ := hrel
    have hS64 := hst.inv.ok.len
    have hln := hst.inv.ln
    have hle := hst.inv.le
    have hrl : (row.length : Int) ≤ 1000 := by omega
    clear Hs0
    by_cases hk2 : k = row.length
    · have e0 : ¬ ((k : Int) < row.length) := by omega
      rw [hk2] at hst
      have hfm := hst.inv.fin.1
      have hd0 : VdSt w m T ks kv kb o S 0 wr := ⟨⟨Kd, G, by rw [dropV_none]; exact H.out.still hst.up⟩, hst.kbk, hst.up.mono (fun _ _ x => x.elim)⟩
      have Hd0 := Lib.hid hd0
      have fin := Lib.hid (fun wr n hn hh => hfin.out S hfm wr n hn hh)
      clear hst hd0 hS64 hln hle hk2 hfm hrl hkbE hmw
      go_wp2_with fail
      obtain ⟨wo, hwo⟩ : ∃ wo : World, wo = wr := ⟨_, rfl⟩
      subst hwo
      go_loopw [9, 42] (fun n i wr => ∃ j : Nat, i = .int .i64 j ∧ j ≤ 64 ∧ n = .int .i64 (goneTo o S j : Int) ∧ goneTo o S j ≤ j ∧ VdSt w m T ks kv kb o S j wr) (fun _ i _ => (64 - intOf i).toNat)
      case atStart => exact ⟨0, rfl, Nat.zero_le _, rfl, Nat.le_refl _, Hd0.out⟩
      case round =>
        obtain ⟨j, rfl, hj, rfl, hgj, hst⟩ := hrel
        clear Hd0 e0
        by_cases hj2 : j = 64
        · subst hj2
          have e := Lib.hid (fin.out wr _ rfl hst)
          clear hst
          generalize goneTo o S 64 = gn at *
          go_wp2_with fail
          go_ret
          exact e.out
        · have d2 : (j : Int) < 64 := by omega
          have hj3 : j < 64 := by omega
          have d1 : ¬ (j : Int) < 0 := by omega
          obtain ⟨Kd1, G1, h1⟩ := hst.st
          obtain ⟨-, cu, -, -⟩ := h1.cell j hj3
          rw [dropV_behind o S j j (Nat.le_refl _)] at cu
          have kc := hst.kbk.cell j (keepB_get S j hj3)
          by_cases hc : (o j).used = true ∧ (-1 - (j : Int)) ∉ S
          · obtain ⟨hr, hg⟩ := hst.gone hj3 hkm hc
            rw [hc.1] at cu
            rw [show decide ((-1 - (j : Int)) ∈ S) = false from by simp [hc.2]] at kc
            have w0 : IntKind.i64.wrap (-1 - (j : Int)) = -1 - (j : Int) := by rw [IntKind.wrap_i64]; omega
            have w1 : IntKind.i64.wrap ((goneTo o S j : Int) + 1) = ((goneTo o S j + 1 : Nat) : Int) := by rw [IntKind.wrap_i64]; omega
            have hg2 : goneTo o S j + 1 ≤ j + 1 := by omega
            have Hhr := Lib.hid hr; clear hr
            have Hhg := Lib.hid hg; clear hg
            have Hhg2 := Lib.hid hg2; clear hg2
            clear hst h1 hc hj2
            go_wp2_with (go_at_call 73; (with_reducible refine Hhr.out.mono ?_); rintro e w7 ⟨rfl, h7⟩; have H7 := Lib.hid h7; clear h7)
            go_roundw
            case rel => exact ⟨j + 1, by go_num, by omega, by rw [Hhg.out]; first | rfl | (rw [w1]) | go_num, by rw [Hhg.out]; exact Hhg2.out, H7.out⟩
            case measure => simp [intOf]; omega
          · obtain ⟨hs, hg⟩ := hst.stay hc
            have hs := Lib.hid hs
            have Hhg := Lib.hid hg; clear hg
            cases hu : (o j).used with
            | false =>
              rw [hu] at cu
              clear hst h1 hc hj2 hu kc
              go_wp2_with fail
              go_roundw
              case rel => exact ⟨j + 1, by go_num, by omega, by rw [Hhg.out], by rw [Hhg.out]; omega, hs.out⟩
              case measure => simp [intOf]; omega
            | true =>
              rw [hu] at cu
              rw [show decide ((-1 - (j : Int)) ∈ S) = true from by simp only [decide_eq_true_eq]; exact Classical.byContradiction (fun e => hc ⟨hu, e⟩)] at kc
              clear hst h1 hc hj2 hu
              go_wp2_with fail
              go_roundw
              case rel => exact ⟨j + 1, by go_num, by omega, by rw [Hhg.out], by rw [Hhg.out]; omega, hs.out⟩
              case measure => simp [intOf]; omega
    · have hk3 : k < row.length := by omega
      have e0 : (k : Int) < row.length := by omega
      have hI := ownsRow_intsR hst.own
      obtain ⟨b1, o1, hix, hb1, hy⟩ := RowsIn.index (P := Try.prog) hI Try.underlying52 (by kernel_rfl) (by kernel_rfl) hk3
      simp only [Nat.mul_one] at hix hy
      have hy0 := hy 0 (by decide)
      simp only [Nat.add_zero] at hy0
      change wr.cell? _ = some (.int .i64 (row.getD k 0)) at hy0
      have hat := Lib.hid (hAt.out wr hst.up (row.getD k 0))
      have hps := Lib.hid (hst.pass hk3)
      have htk := Lib.hid (fun i hf hn w8 w9 u8 a' c' ho9 hg9 => hst.take (w8 := w8) (w9 := w9) Hr15.out hk3 (i := i) hf hn u8 (a' := a') (c' := c') ho9 hg9)
      have hkc := fun i (hi : i < 64) => hst.kbk.cell i (keepB_get S i hi)
      have hkf := hst.kbk.free
      have hbk := hst.kbk
      have hc7 := Lib.hid (fun i => show (wr.setCell ⟨kb, i, none⟩ (.bool true)).cell? ⟨b1, o1 + k, none⟩ = some (.int .i64 (row.getD k 0)) ∧ (wr.setCell ⟨kb, i, none⟩ (.bool true)).ownsRow (kb + 1) 3 1 (.slice ra2 row.length rc2) row.length (ints row) ∧ Upd (fun _ => False) w (wr.setCell ⟨kb, i, none⟩ (.bool true)) ∧ kb + 1 ≤ (wr.setCell ⟨kb, i, none⟩ (.bool true)).heap.size from by
        have u := (Upd.refl (fun j => j = kb) wr).at i (.bool true)
        have ho7 := ownsRow_upd hst.own u (fun j hj (e : j = kb) => by omega)
        refine ⟨?_, ho7, hst.up.own u (fun j (e : j = kb) => by have := hst.lo; omega), Nat.lt_of_lt_of_le hbk.lt u.size⟩
        have hI7 := ownsRow_intsR ho7
        obtain ⟨b2, o2, hix2, hb2, hy2⟩ := RowsIn.index (P := Try.prog) hI7 Try.underlying52 (by kernel_rfl) (by kernel_rfl) hk3
        have q1 := hix wr
        have q2 := hix2 wr
        rw [q1] at q2
        simp only [Nat.mul_one] at q2 hy2
        injection q2 with q3
        injection q3 with q4
        injection q4 with q5
        injection q5 with q6 q7
        subst q6
        rw [q7]
        have := hy2 0 (by decide)
        simpa using this)
      generalize hxE : row.getD k 0 = x at *
      have r15x := Hr15.out x
      have hrf := Lib.hid (fun w' u => hRf.out w' u x)
      generalize hrsE : refsV o x = rs at *
      have hxp := fun i (hf : findV o x = some i) => (findV_some hf).2.2
      have hxi := fun i (hf : findV o x = some i) => (findV_some hf).1
      clear hst hI hy hxE hbk
      have hme := Lib.hid (show Go.RowKit.wrap64 ((k : Int) + 1) = ((k + 1 : Nat) : Int) from by unfold Go.RowKit.wrap64; omega)
      have hmu := Lib.hid (show k < 2000 from by omega)
      cases hfv : findV o x with
      | none =>
        have hp := Lib.hid (hps.out (Or.inr (by rw [hfv]; rfl)))
        have hat2 := Lib.hid (show Calls Try.prog 45 #[.pointer (some ⟨m, 0, none⟩), .int .i64 x] wr (Same wr (.int .i64 (-1))) from by
          have := hat.out
          unfold atV at this
          rw [hfv] at this
          exact this)
        clear hk2 htk hat hps hc7 hfv hkc hkf hxp hxi
        go_wp2_with (go_at_call 45; (with_reducible refine hat2.out.mono ?_); rintro e w7 ⟨rfl, rfl⟩)
        go_roundw
        case rel => exact ⟨k + 1, row, S, ra2, rc2, by go_num, rfl, hp.out⟩
        case measure => have := hmu.out; simp [intOf]; omega
      | some i =>
        have hat2 := Lib.hid (show Calls Try.prog 45 #[.pointer (some ⟨m, 0, none⟩), .int .i64 x] wr (Same wr (.int .i64 (i : Int))) from by
          have := hat.out
          unfold atV at this
          rw [hfv] at this
          exact this)
        have hi := hxi i hfv
        have hx := hxp i hfv
        have hi0 : ¬ (i : Int) < 0 := by omega
        have hi1 : (i : Int) < 64 := by omega
        have kc := hkc i hi
        rw [← hx] at kc
        have kf := hkf i
        by_cases hmem : x ∈ S
        · have hp := Lib.hid (hps.out (Or.inl hmem))
          rw [show decide (x ∈ S) = true from by simp [hmem]] at kc
          clear hk2 htk hat hps hc7 hfv hkc hkf hxp hxi hmem hi hx
          go_wp2_with (go_at_call 45; (with_reducible refine hat2.out.mono ?_); rintro e w7 ⟨rfl, rfl⟩)
          go_roundw
          case rel => exact ⟨k + 1, row, S, ra2, rc2, by go_num, rfl, hp.out⟩
          case measure => have := hmu.out; simp [intOf]; omega
        · rw [show decide (x ∈ S) = false from by simp [hmem]] at kc
          have htk2 := Lib.hid (fun w8 w9 u8 a' c' ho9 hg9 => htk.out i hfv hmem w8 w9 u8 a' c' ho9 hg9)
          have hn9 := Lib.hid (show row.length + rs.length ≤ 1099511627776 from by omega)
          have hll : (row ++ rs).length = row.length + rs.length := List.length_append
          obtain ⟨y7, o7, u7, z7⟩ := hc7.out i
          have hrf7 := Lib.hid (hrf.out _ u7)
          have O7 := Lib.hid o7
          have Z7 := Lib.hid z7
          have Hhll := Lib.hid hll; clear hll
          clear hk2 htk hat hps hc7 hfv hkc hkf hxp hxi hmem o7 z7 u7 hrl hln hle hS64 r15x h20 h20b hfl hi hx
          go_wp2_with (first
            | (go_at_call 45; (with_reducible refine hat2.out.mono ?_); rintro e w7 ⟨rfl, rfl⟩)
            | (go_at_call 46; (with_reducible refine hrf7.out.mono ?_); rintro e w8 ⟨pa, pc, rfl, ho8, hu8⟩; have hI8 := ownsRow_intsR ho8; have hO8 := ownsRow_upd O7.out hu8 (fun _ _ x => x); have Hu8 := Lib.hid hu8; have hz8 := Nat.le_trans Z7.out hu8.size; clear ho8 hu8)
            | (at_builtin; refine wpList_appendOnto rfl _ _ 52 3 rfl (.int .i64 0) 8 Try.underlying52 infoInt rfl (kb + 1) _ _ _ rfl hO8 pa rs.length pc .i64 rs rfl rfl hI8 hn9.out (by decide) hz8 ?_; intro a9 c9 w9 ho9 hg9; have H9 := Lib.hid (htk2.out _ w9 Hu8.out a9 c9 ho9 hg9); clear ho9 hg9))
          go_roundw
          case rel => exact ⟨k + 1, row ++ rs, x :: S, a9, c9, by rw [hme.out], by rw [Hhll.out], H9.out⟩
          case measure => have := hmu.out; rw [hme.out]; simp [intOf]; omega
end Go.Proofs.Ytcnbcidbbeadcaa

