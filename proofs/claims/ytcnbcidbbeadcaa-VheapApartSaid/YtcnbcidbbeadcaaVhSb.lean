/- look of VheapApart. -/
import Derived.Test.YtcnbcidbbeadcaaVhSa
namespace Go.Proofs.Ytcnbcidbbeadcaa
open Go.RowKit Go.Deep
set_option linter.unusedVariables false

def RetLook (w : World) (vs : List Val) (e : Ending) (w' : World) : Prop :=
  ∃ a c, e = .returned (.slice a vs.length c) ∧ w'.ownsRow w.heap.size 26 5 (.slice a vs.length c) vs.length (cellsV vs) ∧ Upd (fun _ => False) w w'
theorem look_push {w wr w4 : World} {us : List Val} {oa : Option Addr} {oc : Nat} (ho : wr.ownsRow w.heap.size 26 5 (.slice oa us.length oc) us.length (cellsV us)) (hu : Upd (fun _ => False) w wr) (z : Val) {w3 : World} (u3 : Upd (fun _ => False) wr w3) {a' : Option Addr} {c' : Nat}
    (ho4 : w4.ownsRow w.heap.size 26 5 (.slice a' (us.length + 1) c') (us.length + 1) (cellsV us ++ [.int .i64 z.k, .int .i64 z.n, .int .u64 (z.re : Int), .int .u64 (z.im : Int), .int .i64 z.r])) (hg4 : w3.grownBy w4 (Value.slice oa us.length oc).ownBlock) :
    w4.ownsRow w.heap.size 26 5 (.slice a' (us ++ [z]).length c') (us ++ [z]).length (cellsV (us ++ [z])) ∧ Upd (fun _ => False) w w4 := by
  refine ⟨?_, (hu.trans u3).grown hg4 (fun j e hj => absurd (ho.lt j e).1 (by omega))⟩
  rw [List.length_append, ← cellsV_append]
  exact ho4
set_option maxRecDepth 100000 in
set_option maxHeartbeats 4000000 in
theorem vh_look {w : World} {b base : Nat} {ks : List (List Int)} {o : Nat → VOb} {kv : Value} {F : Nat → Value} (h : IsVh w b base ks o kv F) {ca chh : Nat} {aa : Option Addr} {ac : Nat} {al : List Int} (hal : al.length ≤ 64)
    (hca : w.cell? ⟨ca, 0, none⟩ = some (.slice aa al.length ac)) (hch : w.cell? ⟨chh, 0, none⟩ = some (.pointer (some ⟨b, 0, none⟩))) (hI : IntsR w (.slice aa al.length ac) .i64 al) :
    Calls Try.prog 34 #[.pointer (some ⟨ca, 0, none⟩), .pointer (some ⟨chh, 0, none⟩)] w (RetLook w (lookL o al)) := by
  have hch2 := Lib.hid (fun w' (u : Upd (fun _ => False) w w') => (World.cell?_of_block (a := ⟨chh, 0, none⟩) (u.block chh (World.block_lt_of_cell? _ _ hch) (fun x => x))).trans hch)
  have hIs := Lib.hid (fun w' (u : Upd (fun _ => False) w w') => ints_upd hI u)
  have hGt := Lib.hid (fun w' (u : Upd (fun _ => False) w w') x j => vh_Get (h.still u) x j)
  clear hch hI h
  go_enter Try.func34, Try.ntmps34
  go_wp2_with fail
  go_loopw [3, 11] (fun ov i wr => ∃ (m : Nat) (oa : Option Addr) (oc : Nat), i = .int .i64 m ∧ m ≤ al.length ∧ ov = .slice oa (lookL o (al.take m)).length oc ∧ wr.ownsRow w.heap.size 26 5 (.slice oa (lookL o (al.take m)).length oc) (lookL o (al.take m)).length (cellsV (lookL o (al.take m))) ∧ Upd (fun _ => False) w wr) (fun _ i _ => (al.length - intOf i).toNat)
  case atStart => exact ⟨0, none, 0, rfl, Nat.zero_le _, rfl, World.ownsRow_nil _ _ _ _, Upd.refl _ _⟩
  case round =>
    obtain ⟨m, oa, oc, rfl, hm, rfl, ho, hu⟩ := hrel
    by_cases hm2 : m = al.length
    · have e0 : ¬ ((m : Int) < al.length) := by omega
      rw [hm2, List.take_length] at ho
      have hl : (lookL o (al.take m)).length = (lookL o al).length := by rw [hm2, List.take_length]
      have fin := Lib.hid (show RetLook w (lookL o al) (.returned (.slice oa (lookL o al).length oc)) wr from ⟨_, _, rfl, ho, hu⟩)
      rw [hl]
      generalize (lookL o al).length = n3 at *
      clear ho hu hm2 hl
      go_wp2_with fail
      go_ret
      exact fin.out
    · have hm3 : m < al.length := by omega
      have e0 : (m : Int) < al.length := by omega
      obtain ⟨b1, o1, hix, hb1, hy⟩ := RowsIn.index (P := Try.prog) (hIs.out wr hu) Try.underlying52 (by kernel_rfl) (by kernel_rfl) hm3
      simp only [Nat.mul_one] at hix hy
      have hy0 := hy 0 (by decide)
      simp only [Nat.add_zero] at hy0
      change wr.cell? _ = some (.int .i64 (al.getD m 0)) at hy0
      have htk : al.take (m + 1) = al.take m ++ [al.getD m 0] := by
        rw [List.take_succ_eq_append_getElem hm3]
        simp [List.getD, hm3]
      have hln := lookL_snoc o (al.take m) (al.getD m 0)
      rw [← htk] at hln
      have hl3 := lookL_len o (al.take m)
      rw [List.length_take] at hl3
      generalize hLE : lookL o (al.take (m + 1)) = ln at *
      generalize al.getD m 0 = x at *
      generalize lookL o (al.take m) = vs at *
      have Hhln := Lib.hid hln; clear hln
      have HhLE := Lib.hid hLE; clear hLE
      clear hy htk hm2
      go_wp2_with fail
      obtain ⟨wz, hwz⟩ : ∃ wz : World, wz = wr := ⟨_, rfl⟩
      subst hwz
      have hx0 : look1 o x 0 = [] := rfl
      have hs0 : wz.ownsRow w.heap.size 26 5 (.slice oa (vs ++ look1 o x 0).length oc) (vs ++ look1 o x 0).length (cellsV (vs ++ look1 o x 0)) := by rw [hx0, List.append_nil]; exact ho
      go_loopw [3, 15] (fun ov i wr => ∃ (f : Nat) (oa : Option Addr) (oc : Nat), i = .int .i64 f ∧ f ≤ 3 ∧ ov = .slice oa (vs ++ look1 o x f).length oc ∧ wr.ownsRow w.heap.size 26 5 (.slice oa (vs ++ look1 o x f).length oc) (vs ++ look1 o x f).length (cellsV (vs ++ look1 o x f)) ∧ Upd (fun _ => False) w wr) (fun _ i _ => (3 - intOf i).toNat)
      case atStart => exact ⟨0, oa, oc, rfl, Nat.zero_le _, by rw [hx0, List.append_nil], hs0, hu⟩
      case round =>
        obtain ⟨f, pa, pc, rfl, hf, rfl, ho5, hu5⟩ := hrel
        clear hs0 ho hu
        by_cases hf2 : f = 3
        · subst hf2
          rw [← Hhln.out] at ho5 ⊢
          rw [show ((3 : Nat) : Int) = 3 from rfl]
          have Hho5 := Lib.hid ho5; clear ho5
          have Hhu5 := Lib.hid hu5; clear hu5
          go_wp2_with fail
          go_roundw
          case rel => exact ⟨m + 1, pa, pc, by go_num, by omega, by rw [HhLE.out], by rw [HhLE.out]; exact Hho5.out, Hhu5.out⟩
          case measure => simp [intOf]; omega
        · have hf3 : f < 3 := by omega
          have d3 : (f : Int) < 3 := by omega
          have hst : vs ++ look1 o x (f + 1) = (vs ++ look1 o x f) ++ [(getV o x f).1] := by
            rw [List.append_assoc]; rfl
          have hul : (vs ++ look1 o x f).length ≤ 1048576 := by rw [List.length_append, look1_len]; omega
          have hg := hGt.out wr hu5 x (f : Int)
          generalize hUE : vs ++ look1 o x (f + 1) = un at *
          generalize vs ++ look1 o x f = us at *
          generalize getV o x f = zz at *
          obtain ⟨⟨zk, zn, zre, zim, zr⟩, er⟩ := zz
          have hg := Lib.hid (show Calls Try.prog 35 #[.pointer (some ⟨b, 0, none⟩), .int .i64 x, .int .i64 (f : Int)] wr (RetU wr (.tuple #[.agg #[.int .i64 zk, .int .i64 zn, .int .u64 (zre : Int), .int .u64 (zim : Int), .int .i64 zr], .int .i64 er])) from hg)
          have c1 := hch2.out wr hu5
          have hnb := Lib.hid (fun (w3 : World) => show ((w3.alloc (.cells #[.int .i64 zk, .int .i64 zn, .int .u64 (zre : Int), .int .u64 (zim : Int), .int .i64 zr] 26)).alloc (.cells #[.int .i64 zk, .int .i64 zn, .int .u64 (zre : Int), .int .u64 (zim : Int), .int .i64 zr] 26)).heap[w3.heap.size + 1]? = some (.cells (List.toArray [.int .i64 zk, .int .i64 zn, .int .u64 (zre : Int), .int .u64 (zim : Int), .int .i64 zr]) 26 (0, 0)) from by
            have := Blk.new (w3.alloc (.cells #[.int .i64 zk, .int .i64 zn, .int .u64 (zre : Int), .int .u64 (zim : Int), .int .i64 zr] 26)) [.int .i64 zk, .int .i64 zn, .int .u64 (zre : Int), .int .u64 (zim : Int), .int .i64 zr] 26
            simpa [Blk] using this)
          have hoS := Lib.hid (fun w3 (u : Upd (fun _ => False) wr w3) => ownsRow_upd ho5 u (fun _ _ x => x))
          have hpu := Lib.hid (fun w3 (u : Upd (fun _ => False) wr w3) w4 a' c' ho4 hg4 => look_push (w4 := w4) ho5 hu5 ⟨zk, zn, zre, zim, zr⟩ u (a' := a') (c' := c') ho4 hg4)
          have hsz := Lib.hid hu5.size
          have Hhst := Lib.hid hst; clear hst
          have HhUE := Lib.hid hUE; clear hUE
          clear hf2 ho5 hu5
          go_wp2_with (first
            | (go_at_call 35; (with_reducible refine hg.out.mono ?_); rintro e w3 ⟨rfl, hu3⟩; have Hu3 := Lib.hid hu3; clear hu3)
            | (at_builtin; refine wpList_pushN rfl _ _ 23 26 rfl (.agg #[.int .i64 0, .int .i64 0, .int .u64 0, .int .u64 0, .int .i64 0]) 5 40 (by decide) Try.underlying23 infoVal rfl w.heap.size _ _ _ rfl (((hoS.out w3 Hu3.out).alloc _).alloc _) (w3.heap.size + 1) 1 [.int .i64 zk, .int .i64 zn, .int .u64 (zre : Int), .int .u64 (zim : Int), .int .i64 zr] rfl rfl 26 (0, 0) (hnb.out w3) (by intro u hu; simp only [List.mem_cons, List.not_mem_nil, or_false] at hu; rcases hu with rfl | rfl | rfl | rfl | rfl <;> rfl) hul (by decide) (by have := hsz.out; have := Hu3.out.size; simp; omega) ?_; intro oa' oc' w4 ho4 hg4; have H4 := Lib.hid (hpu.out _ ((Hu3.out.alloc _).alloc _) w4 oa' oc' ho4 hg4); clear ho4 hg4))
          go_roundw
          case rel => exact ⟨f + 1, oa', oc', by go_num, by omega, by rw [HhUE.out, Hhst.out]; simp, by rw [HhUE.out, Hhst.out]; exact H4.out.1, H4.out.2⟩
          case measure => simp [intOf]; omega
end Go.Proofs.Ytcnbcidbbeadcaa
