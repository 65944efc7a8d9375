/- same and look of VheapApart. -/
import Derived.Test.YtcnbcidbbeadcaaVhNw
-- merged


namespace Go.Proofs.Ytcnbcidbbeadcaa
open Go.RowKit Go.Deep
set_option linter.unusedVariables false

set_option maxRecDepth 100000 in
set_option maxHeartbeats 2000000 in
theorem same14 (x y : Val) (w : World) : Calls Try.prog 36 #[x.v, y.v] w (RetU w (.bool (sameV x y))) := by
  obtain ⟨a, n, re, im, r⟩ := x
  obtain ⟨a2, n2, re2, im2, r2⟩ := y
  show Calls _ _ #[.agg #[.int .i64 a, .int .i64 n, .int .u64 (re : Int), .int .u64 (im : Int), .int .i64 r], .agg #[.int .i64 a2, .int .i64 n2, .int .u64 (re2 : Int), .int .u64 (im2 : Int), .int .i64 r2]] _ _
  have hu : Upd (fun _ => False) w ((w.alloc (.cells #[.int .i64 a, .int .i64 n, .int .u64 (re : Int), .int .u64 (im : Int), .int .i64 r] 26)).alloc (.cells #[.int .i64 a2, .int .i64 n2, .int .u64 (re2 : Int), .int .u64 (im2 : Int), .int .i64 r2] 26)) := ((Upd.refl _ _).alloc _).alloc _
  have hs : sameV ⟨a, n, re, im, r⟩ ⟨a2, n2, re2, im2, r2⟩ = (decide (a = a2) && (if a = 0 then true else if a = 1 then decide (n = n2) else if a = 2 then decide (re = re2) && decide (im = im2) else if a = 3 then decide (r = r2) else false)) := rfl
  rw [hs]
  clear hs
  have Hhu := Lib.hid hu; clear hu
  by_cases e : a = a2
  · subst e
    rw [decide_eq_true rfl, Bool.true_and]
    have e0 : (a != a) = false := by simp
    by_cases k1 : a = 1
    · subst k1
      have hr : (if (1 : Int) = 0 then true else if (1 : Int) = 1 then decide (n = n2) else if (1 : Int) = 2 then decide (re = re2) && decide (im = im2) else if (1 : Int) = 3 then decide (r = r2) else false) = decide (n = n2) := by simp
      rw [hr, ← beq_int]
      clear hr
      go_enter Try.func36, Try.ntmps36
      go_wp2
      go_ret
      exact ⟨rfl, Hhu.out⟩
    · by_cases k2 : a = 2
      · subst k2
        have hr : (if (2 : Int) = 0 then true else if (2 : Int) = 1 then decide (n = n2) else if (2 : Int) = 2 then decide (re = re2) && decide (im = im2) else if (2 : Int) = 3 then decide (r = r2) else false) = (decide (re = re2) && decide (im = im2)) := by simp
        rw [hr, ← beq_nat, ← beq_nat]
        clear hr
        cases hre : ((re : Int) == (re2 : Int)) with
        | false =>
          go_enter Try.func36, Try.ntmps36
          go_wp2
          go_ret
          exact ⟨rfl, Hhu.out⟩
        | true =>
          go_enter Try.func36, Try.ntmps36
          go_wp2
          go_ret
          exact ⟨rfl, Hhu.out⟩
      · by_cases k3 : a = 3
        · subst k3
          have hr : (if (3 : Int) = 0 then true else if (3 : Int) = 1 then decide (n = n2) else if (3 : Int) = 2 then decide (re = re2) && decide (im = im2) else if (3 : Int) = 3 then decide (r = r2) else false) = decide (r = r2) := by simp
          rw [hr, ← beq_int]
          clear hr
          go_enter Try.func36, Try.ntmps36
          go_wp2
          go_ret
          exact ⟨rfl, Hhu.out⟩
        · have hr : (if a = 0 then true else if a = 1 then decide (n = n2) else if a = 2 then decide (re = re2) && decide (im = im2) else if a = 3 then decide (r = r2) else false) = (a == 0) := by
            rw [if_neg k1, if_neg k2, if_neg k3, beq_int]
            by_cases h : a = 0 <;> simp [h]
          rw [hr]
          have k1' : (a == 1) = false := by rw [beq_eq_false_iff_ne]; exact k1
          have k2' : (a == 2) = false := by rw [beq_eq_false_iff_ne]; exact k2
          have k3' : (a == 3) = false := by rw [beq_eq_false_iff_ne]; exact k3
          clear hr k1 k2 k3
          go_enter Try.func36, Try.ntmps36
          go_wp2
          go_ret
          exact ⟨rfl, Hhu.out⟩
  · rw [decide_eq_false e, Bool.false_and]
    have e0 : (a != a2) = true := by rw [bne_iff_ne]; exact e
    clear e
    go_enter Try.func36, Try.ntmps36
    go_wp2
    go_ret
    exact ⟨rfl, Hhu.out⟩
/-- What the first fields of an object read as. -/
def look1 (o : Nat → VOb) (x : Int) : Nat → List Val
  | 0 => []
  | f + 1 => look1 o x f ++ [(getV o x f).1]
def lookL (o : Nat → VOb) : List Int → List Val
  | [] => []
  | x :: xs => look1 o x 3 ++ lookL o xs
theorem lookL_snoc (o : Nat → VOb) (xs : List Int) (x : Int) : lookL o (xs ++ [x]) = lookL o xs ++ look1 o x 3 := by
  induction xs with
  | nil => simp [lookL]
  | cons y ys ih => simp [lookL, ih]
theorem look1_len (o : Nat → VOb) (x : Int) (f : Nat) : (look1 o x f).length = f := by
  induction f with
  | zero => rfl
  | succ f ih => simp [look1, ih]
theorem lookL_len (o : Nat → VOb) (xs : List Int) : (lookL o xs).length = xs.length * 3 := by
  induction xs with
  | nil => rfl
  | cons x xs ih =>
    simp only [lookL, List.length_append, look1_len, ih, List.length_cons]
    omega
theorem look1_get (o : Nat → VOb) (x : Int) (n f : Nat) (hf : f < n) : (look1 o x n)[f]? = some (getV o x f).1 := by
  induction n with
  | zero => omega
  | succ n ih =>
    unfold look1
    by_cases e : f = n
    · subst e
      rw [List.getElem?_append_right (by rw [look1_len]; omega), look1_len]
      simp
    · rw [List.getElem?_append_left (by rw [look1_len]; omega)]
      exact ih (by omega)
theorem lookL_get (o : Nat → VOb) (xs : List Int) (m f : Nat) (hm : m < xs.length) (hf : f < 3) : (lookL o xs)[m * 3 + f]? = some (getV o (xs.getD m 0) f).1 := by
  induction xs generalizing m with
  | nil => simp at hm
  | cons x xs ih =>
    unfold lookL
    by_cases e : m = 0
    · subst e
      rw [List.getElem?_append_left (by rw [look1_len]; omega), Nat.zero_mul, Nat.zero_add]
      exact look1_get o x 3 f hf
    · obtain ⟨m', rfl⟩ : ∃ m', m = m' + 1 := ⟨m - 1, by omega⟩
      rw [List.getElem?_append_right (by rw [look1_len]; omega), look1_len, show (m' + 1) * 3 + f - 3 = m' * 3 + f from by omega]
      rw [ih m' (by simpa using hm)]
      rfl
end Go.Proofs.Ytcnbcidbbeadcaa

/- look of VheapApart. -/

namespace Go.Proofs.Ytcnbcidbbeadcaa
open Go.RowKit Go.Deep
set_option linter.unusedVariables false

def RetLook (w : World) (vs : List Val) (e : Ending) (w' : World) : Prop :=
  ∃ a c, e = .returned (.slice a vs.length c) ∧ w'.ownsRow w.heap.size 26 5 (.slice a vs.length c) vs.length (cellsV vs) ∧ Upd (fun _ => False) w w'
theorem look_push {w wr w4 : World} {us : List Val} {oa : Option Addr} {oc : Nat} (ho : wr.ownsRow w.heap.size 26 5 (.slice oa us.length oc) us.length (cellsV us)) (hu : Upd (fun _ => False) w wr) (z : Val) {w3 : World} (u3 : Upd (fun _ => False) wr w3) {a' : Option Addr} {c' : Nat}
    (ho4 : w4.ownsRow w.heap.size 26 5 (.slice a' (us.length + 1) c') (us.length + 1) (cellsV us ++ [.int .i64 z.k, .int .i64 z.n, .int .u64 (z.re : Int), .int .u64 (z.im : Int), .int .i64 z.r])) (hg4 : w3.grownBy w4 (Value.slice oa us.length oc).ownBlock) :
    w4.ownsRow w.heap.size 26 5 (.slice a' (us ++ [z]).length c') (us ++ [z]).length (cellsV (us ++ [z])) ∧ Upd (fun _ => False) w w4 := by
  refine ⟨?_, (hu.trans u3).grown hg4 (fun j e hj => absurd (ho.lt j e).1 (by omega))⟩
  rw [List.length_append, ← cellsV_append]
  exact ho4
set_option maxRecDepth 100000 in
set_option maxHeartbeats 4000000 in
theorem vh_look {w : World} {b base : Nat} {ks : List (List Int)} {o : Nat → VOb} {kv : Value} {F : Nat → Value} (h : IsVh w b base ks o kv F) {ca chh : Nat} {aa : Option Addr} {ac : Nat} {al : List Int} (hal : al.length ≤ 64)
    (hca : w.cell? ⟨ca, 0, none⟩ = some (.slice aa al.length ac)) (hch : w.cell? ⟨chh, 0, none⟩ = some (.pointer (some ⟨b, 0, none⟩))) (hI : IntsR w (.slice aa al.length ac) .i64 al) :
    Calls Try.prog 34 #[.pointer (some ⟨ca, 0, none⟩), .pointer (some ⟨chh, 0, none⟩)] w (RetLook w (lookL o al)) := by
  have hch2 := Lib.hid (fun w' (u : Upd (fun _ => False) w w') => (World.cell?_of_block (a := ⟨chh, 0, none⟩) (u.block chh (World.block_lt_of_cell? _ _ hch) (fun x => x))).trans hch)
  have hIs := Lib.hid (fun w' (u : Upd (fun _ => False) w w') => ints_upd hI u)
  have hGt := Lib.hid (fun w' (u : Upd (fun _ => False) w w') x j => vh_Get (h.still u) x j)
  clear hch hI h
  go_enter Try.func34, Try.ntmps34
  go_wp2_with fail
  go_loopw [3, 11] (fun ov i wr => ∃ (m : Nat) (oa : Option Addr) (oc : Nat), i = .int .i64 m ∧ m ≤ al.length ∧ ov = .slice oa (lookL o (al.take m)).length oc ∧ wr.ownsRow w.heap.size 26 5 (.slice oa (lookL o (al.take m)).length oc) (lookL o (al.take m)).length (cellsV (lookL o (al.take m))) ∧ Upd (fun _ => False) w wr) (fun _ i _ => (al.length - intOf i).toNat)
  case atStart => exact ⟨0, none, 0, rfl, Nat.zero_le _, rfl, World.ownsRow_nil _ _ _ _, Upd.refl _ _⟩
  case round =>
    obtain ⟨m, oa, oc, rfl, hm, rfl, ho, hu⟩ := hrel
    by_cases hm2 : m = al.length
    · have e0 : ¬ ((m : Int) < al.length) := by omega
      rw [hm2, List.take_length] at ho
      have hl : (lookL o (al.take m)).length = (lookL o al).length := by rw [hm2, List.take_length]
      have fin := Lib.hid (show RetLook w (lookL o al) (.returned (.slice oa (lookL o al).length oc)) wr from ⟨_, _, rfl, ho, hu⟩)
      rw [hl]
      generalize (lookL o al).length = n3 at *
      clear ho hu hm2 hl
      go_wp2_with fail
      go_ret
      exact fin.out
    · have hm3 : m < al.length := by omega
      have e0 : (m : Int) < al.length := by omega
      obtain ⟨b1, o1, hix, hb1, hy⟩ := RowsIn.index (P := Try.prog) (hIs.out wr hu) Try.underlying52 (by kernel_rfl) (by kernel_rfl) hm3
      simp only [Nat.mul_one] at hix hy
      have hy0 := hy 0 (by decide)
      simp only [Nat.add_zero] at hy0
      change wr.cell? _ = some (.int .i64 (al.getD m 0)) at hy0
      have htk : al.take (m + 1) = al.take m ++ [al.getD m 0] := by
        rw [List.take_succ_eq_append_getElem hm3]
        simp [List.getD, hm3]
      have hln := lookL_snoc o (al.take m) (al.getD m 0)
      rw [← htk] at hln
      have hl3 := lookL_len o (al.take m)
      rw [List.length_take] at hl3
      generalize hLE : lookL o (al.take (m + 1)) = ln at *
      generalize al.getD m 0 = x at *
      generalize lookL o (al.take m) = vs at *
      have Hhln := Lib.hid hln; clear hln
      have HhLE := Lib.hid hLE; clear hLE
      clear hy htk hm2
      go_wp2_with fail
      obtain ⟨wz, hwz⟩ : ∃ wz : World, wz = wr := ⟨_, rfl⟩
      subst hwz
      have hx0 : look1 o x 0 = [] := rfl
      have hs0 : wz.ownsRow w.heap.size 26 5 (.slice oa (vs ++ look1 o x 0).length oc) (vs ++ look1 o x 0).length (cellsV (vs ++ look1 o x 0)) := by rw [hx0, List.append_nil]; exact ho
      go_loopw [3, 15] (fun ov i wr => ∃ (f : Nat) (oa : Option Addr) (oc : Nat), i = .int .i64 f ∧ f ≤ 3 ∧ ov = .slice oa (vs ++ look1 o x f).length oc ∧ wr.ownsRow w.heap.size 26 5 (.slice oa (vs ++ look1 o x f).length oc) (vs ++ look1 o x f).length (cellsV (vs ++ look1 o x f)) ∧ Upd (fun _ => False) w wr) (fun _ i _ => (3 - intOf i).toNat)
      case atStart => exact ⟨0, oa, oc, rfl, Nat.zero_le _, by rw [hx0, List.append_nil], hs0, hu⟩
      case round =>
        obtain ⟨f, pa, pc, rfl, hf, rfl, ho5, hu5⟩ := hrel
        clear hs0 ho hu
        by_cases hf2 : f = 3
        · subst hf2
          rw [← Hhln.out] at ho5 ⊢
          rw [show ((3 : Nat) : Int) = 3 from rfl]
          have Hho5 := Lib.hid ho5; clear ho5
          have Hhu5 := Lib.hid hu5; clear hu5
          go_wp2_with fail
          go_roundw
          case rel => exact ⟨m + 1, pa, pc, by go_num, by omega, by rw [HhLE.out], by rw [HhLE.out]; exact Hho5.out, Hhu5.out⟩
          case measure => simp [intOf]; omega
        · have hf3 : f < 3 := by omega
          have d3 : (f : Int) < 3 := by omega
          have hst : vs ++ look1 o x (f + 1) = (vs ++ look1 o x f) ++ [(getV o x f).1] := by
            rw [List.append_assoc]; rfl
          have hul : (vs ++ look1 o x f).length ≤ 1048576 := by rw [List.length_append, look1_len]; omega
          have hg := hGt.out wr hu5 x (f : Int)
          generalize hUE : vs ++ look1 o x (f + 1) = un at *
          generalize vs ++ look1 o x f = us at *
          generalize getV o x f = zz at *
          obtain ⟨⟨zk, zn, zre, zim, zr⟩, er⟩ := zz
          have hg := Lib.hid (show Calls Try.prog 35 #[.pointer (some ⟨b, 0, none⟩), .int .i64 x, .int .i64 (f : Int)] wr (RetU wr (.tuple #[.agg #[.int .i64 zk, .int .i64 zn, .int .u64 (zre : Int), .int .u64 (zim : Int), .int .i64 zr], .int .i64 er])) from hg)
          have c1 := hch2.out wr hu5
          have hnb := Lib.hid (fun (w3 : World) => show ((w3.alloc (.cells #[.int .i64 zk, .int .i64 zn, .int .u64 (zre : Int), .int .u64 (zim : Int), .int .i64 zr] 26)).alloc (.cells #[.int .i64 zk, .int .i64 zn, .int .u64 (zre : Int), .int .u64 (zim : Int), .int .i64 zr] 26)).heap[w3.heap.size + 1]? = some (.cells (List.toArray [.int .i64 zk, .int .i64 zn, .int .u64 (zre : Int), .int .u64 (zim : Int), .int .i64 zr]) 26 (0, 0)) from by
            have := Blk.new (w3.alloc (.cells #[.int .i64 zk, .int .i64 zn, .int .u64 (zre : Int), .int .u64 (zim : Int), .int .i64 zr] 26)) [.int .i64 zk, .int .i64 zn, .int .u64 (zre : Int), .int .u64 (zim : Int), .int .i64 zr] 26
            simpa [Blk] using this)
          have hoS := Lib.hid (fun w3 (u : Upd (fun _ => False) wr w3) => ownsRow_upd ho5 u (fun _ _ x => x))
          have hpu := Lib.hid (fun w3 (u : Upd (fun _ => False) wr w3) w4 a' c' ho4 hg4 => look_push (w4 := w4) ho5 hu5 ⟨zk, zn, zre, zim, zr⟩ u (a' := a') (c' := c') ho4 hg4)
          have hsz := Lib.hid hu5.size
          have Hhst := Lib.hid hst; clear hst
          have HhUE := Lib.hid hUE; clear hUE
          clear hf2 ho5 hu5
          go_wp2_with (first
            | (go_at_call 35; (with_reducible refine hg.out.mono ?_); rintro e w3 ⟨rfl, hu3⟩; have Hu3 := Lib.hid hu3; clear hu3)
            | (at_builtin; refine wpList_pushN rfl _ _ 23 26 rfl (.agg #[.int .i64 0, .int .i64 0, .int .u64 0, .int .u64 0, .int .i64 0]) 5 40 (by decide) Try.underlying23 infoVal rfl w.heap.size _ _ _ rfl (((hoS.out w3 Hu3.out).alloc _).alloc _) (w3.heap.size + 1) 1 [.int .i64 zk, .int .i64 zn, .int .u64 (zre : Int), .int .u64 (zim : Int), .int .i64 zr] rfl rfl 26 (0, 0) (hnb.out w3) (by intro u hu; simp only [List.mem_cons, List.not_mem_nil, or_false] at hu; rcases hu with rfl | rfl | rfl | rfl | rfl <;> rfl) hul (by decide) (by have := hsz.out; have := Hu3.out.size; simp; omega) ?_; intro oa' oc' w4 ho4 hg4; have H4 := Lib.hid (hpu.out _ ((Hu3.out.alloc _).alloc _) w4 oa' oc' ho4 hg4); clear ho4 hg4))
          go_roundw
          case rel => exact ⟨f + 1, oa', oc', by go_num, by omega, by rw [HhUE.out, Hhst.out]; simp, by rw [HhUE.out, Hhst.out]; exact H4.out.1, H4.out.2⟩
          case measure => simp [intOf]; omega
end Go.Proofs.Ytcnbcidbbeadcaa

