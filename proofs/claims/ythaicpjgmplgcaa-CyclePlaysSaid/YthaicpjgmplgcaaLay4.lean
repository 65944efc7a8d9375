/- Package layout: blocks and pages; the laws' configs. -/
import Derived.Test.YthaicpjgmplgcaaLay3
namespace Go.Proofs.Ythaicpjgmplgcaa
open Go.RowKit Go.ChangeShapes Go.WideShapes
set_option linter.unusedVariables false

theorem mat_one (w : World) : MatIn ((w.alloc (.cells #[.int .i64 1] 3)).alloc (.cells #[.slice (some ⟨w.heap.size, 0, none⟩) 1 1] 81)) (.slice (some ⟨w.heap.size + 1, 0, none⟩) 1 1) [[1]] := by
  have hf : IntsR (w.alloc (.cells #[.int .i64 1] 3)) (.slice (some ⟨w.heap.size, 0, none⟩) 1 1) .i64 [1] :=
    ownsRow_intsR (base := w.heap.size) (E := 3) (World.ownsRow_lit w #[.int .i64 1] 1 (Nat.le_refl _) (by decide) rfl)
  have hf2 := ints_upd hf ((Upd.refl (fun _ => False) (w.alloc (.cells #[.int .i64 1] 3))).alloc (.cells #[.slice (some ⟨w.heap.size, 0, none⟩) 1 1] 81))
  refine ⟨fun _ => .slice (some ⟨w.heap.size, 0, none⟩) 1 1, ⟨some ⟨w.heap.size + 1, 0, none⟩, 1, rfl, Nat.le_refl _, by decide, fun _ => ⟨w.heap.size + 1, 0, rfl, by simp, fun i hi j hj => ?_⟩⟩, fun i hi => ?_⟩
  · have hi : i < 1 := hi
    obtain rfl : i = 0 := by omega
    obtain rfl : j = 0 := by omega
    simp
  · have hi : i < 1 := hi
    obtain rfl : i = 0 := by omega
    exact hf2

def ConfigPost (w : World) (e : Ending) (w' : World) : Prop :=
  ∃ v n0 n1 n2 n3, e = .returned (cfgV v n0 n1 n2 n3) ∧ n0 ≤ 40 ∧ n1 ≤ 40 ∧ n2 ≤ 40 ∧ n3 ≤ 40 ∧ 0 < n0 + n1 + n2 + n3 ∧ MatIn w' v [[1]] ∧ Upd (fun _ => False) w w'

def fNum (n : Int) : Nat := (Go.RowKit.wrap64 ((IntKind.u64.wrap n).tmod 40)).toNat + 1
theorem fNum_le (n : Int) : 1 ≤ fNum n ∧ fNum n ≤ 40 := by
  obtain ⟨k, h1, h2⟩ := rem_nat n 40 (by decide) (by decide)
  unfold fNum
  rw [h1]
  omega
set_option maxRecDepth 100000 in
set_option maxHeartbeats 1000000 in
theorem law_config21 (n : Int) (w : World) : Calls Try.prog 31 #[.int .i64 n] w (fun e w' => ∃ v, e = .returned (cfgV v (fNum n) 0 0 0) ∧ MatIn w' v [[1]] ∧ Upd (fun _ => False) w w') := by
  obtain ⟨k, hk, hk2⟩ := rem_nat n 40 (by decide) (by decide)
  have hf : fNum n = k + 1 := by unfold fNum; rw [hk]; rfl
  rw [hf]
  unfold cfgV
  have hM := mat_one (w.alloc (.cells #[.slice (some ⟨w.heap.size + 1 + 1, 0, none⟩) 1 1, .int .i64 ((k : Int) + 1), .int .i64 0, .int .i64 0, .int .i64 0, .int .i64 1, .int .i64 0, .int .i64 40] 26))
  rw [show (w.alloc (.cells #[.slice (some ⟨w.heap.size + 1 + 1, 0, none⟩) 1 1, .int .i64 ((k : Int) + 1), .int .i64 0, .int .i64 0, .int .i64 0, .int .i64 1, .int .i64 0, .int .i64 40] 26)).heap.size = w.heap.size + 1 from by simp] at hM
  have HhM := Lib.hid hM; clear hM
  clear hf
  go_enter Try.func31, Try.ntmps31
  go_wp2_with fail
  refine bodyPost_ret (v := .agg #[.slice (some ⟨w.heap.size + 1 + 1, 0, none⟩) 1 1, .int .i64 ((k : Int) + 1), .int .i64 0, .int .i64 0, .int .i64 0, .int .i64 1, .int .i64 0, .int .i64 40]) ?_ rfl ⟨_, by simp, HhM.out, (((Upd.refl _ _).alloc _).alloc _).alloc _⟩
  rw [results_cell1 rfl]
  go_simp

/-- The law's config on its way. -/
structure CS (w : World) (B : Nat) (a0 a1 a2 a3 : Int) (v : Value) (m0 m1 m2 m3 : Nat) (wr : World) : Prop where
  n : Blk wr B [.int .i64 a0, .int .i64 a1, .int .i64 a2, .int .i64 a3] 22
  z : Blk wr (B + 1) [.slice none 0 0, .int .i64 0, .int .i64 0, .int .i64 0, .int .i64 0, .int .i64 0, .int .i64 0, .int .i64 0] 26
  c : Blk wr (B + 4) (cfgL v m0 m1 m2 m3) 26
  u : Upd (fun _ => False) w wr
  i : Blk wr (B + 2) [.int .i64 1] 3
  k : Blk wr (B + 3) [.slice (some ⟨B + 2, 0, none⟩) 1 1] 81
theorem mat_blk {w : World} {i k : Nat} (h1 : Blk w i [.int .i64 1] 3) (h2 : Blk w k [.slice (some ⟨i, 0, none⟩) 1 1] 81) : MatIn w (.slice (some ⟨k, 0, none⟩) 1 1) [[1]] := by
  refine ⟨fun _ => .slice (some ⟨i, 0, none⟩) 1 1, ⟨some ⟨k, 0, none⟩, 1, rfl, Nat.le_refl _, by decide, fun _ => ⟨k, 0, rfl, h2.lt, fun p hp j hj => ?_⟩⟩, fun p hp => ?_⟩
  · have hp : p < 1 := hp
    obtain rfl : p = 0 := by omega
    obtain rfl : j = 0 := by omega
    exact h2.cell 0 rfl
  · have hp : p < 1 := hp
    obtain rfl : p = 0 := by omega
    refine ⟨some ⟨i, 0, none⟩, 1, rfl, Nat.le_refl _, by decide, fun _ => ⟨i, 0, rfl, h1.lt, fun p hp j hj => ?_⟩⟩
    have hp : p < 1 := hp
    obtain rfl : p = 0 := by omega
    obtain rfl : j = 0 := by omega
    exact h1.cell 0 rfl

theorem eq_zero4 (w : World) (k0 k1 k2 k3 : Nat) : (Op.equalIn 10000 22 (.agg #[.int .i64 k0, .int .i64 k1, .int .i64 k2, .int .i64 k3]) (.agg #[.int .i64 0, .int .i64 0, .int .i64 0, .int .i64 0])).run Try.prog w = .ok (decide (k0 = 0) && (decide (k1 = 0) && (decide (k2 = 0) && decide (k3 = 0)))) w := by
  have hu : Try.prog.underlying 22 = some (.array 4 3) := by kernel_rfl
  have he : Try.prog.underlying 3 = some (.int .i64) := by kernel_rfl
  have hs : ∀ w', (sizeOf 3).run Try.prog w' = .ok 1 w' := fun w' => by kernel_rfl
  have hb : ∀ k : Nat, ((k : Int) == 0) = decide (k = 0) := fun k => by
    rw [Bool.eq_iff_iff, beq_iff_eq, decide_eq_true_iff]
    omega
  have p0 : ∀ w', (part 3 #[.int .i64 k0, .int .i64 k1, .int .i64 k2, .int .i64 k3] 0).run Try.prog w' = .ok (.int .i64 k0) w' := fun w' => by kernel_rfl
  have z0 : ∀ w', (part 3 #[.int .i64 0, .int .i64 0, .int .i64 0, .int .i64 0] 0).run Try.prog w' = .ok (.int .i64 0) w' := fun w' => by kernel_rfl
  have p1 : ∀ w', (part 3 #[.int .i64 k0, .int .i64 k1, .int .i64 k2, .int .i64 k3] 1).run Try.prog w' = .ok (.int .i64 k1) w' := fun w' => by kernel_rfl
  have z1 : ∀ w', (part 3 #[.int .i64 0, .int .i64 0, .int .i64 0, .int .i64 0] 1).run Try.prog w' = .ok (.int .i64 0) w' := fun w' => by kernel_rfl
  have p2 : ∀ w', (part 3 #[.int .i64 k0, .int .i64 k1, .int .i64 k2, .int .i64 k3] 2).run Try.prog w' = .ok (.int .i64 k2) w' := fun w' => by kernel_rfl
  have z2 : ∀ w', (part 3 #[.int .i64 0, .int .i64 0, .int .i64 0, .int .i64 0] 2).run Try.prog w' = .ok (.int .i64 0) w' := fun w' => by kernel_rfl
  have p3 : ∀ w', (part 3 #[.int .i64 k0, .int .i64 k1, .int .i64 k2, .int .i64 k3] 3).run Try.prog w' = .ok (.int .i64 k3) w' := fun w' => by kernel_rfl
  have z3 : ∀ w', (part 3 #[.int .i64 0, .int .i64 0, .int .i64 0, .int .i64 0] 3).run Try.prog w' = .ok (.int .i64 0) w' := fun w' => by kernel_rfl
  have h9 : ∀ (k : Nat) (w' : World), (Op.equalIn 9999 3 (.int .i64 k) (.int .i64 0)).run Try.prog w' = .ok (decide (k = 0)) w' := fun k w' => by
    rw [← hb]
    exact run_equalIn_int w' 9998 _ _ _ _ _ he
  have g0 := h9 k0
  have g1 := h9 k1
  have g2 := h9 k2
  have g3 := h9 k3
  clear hb he h9
  generalize decide (k0 = 0) = b0 at *
  generalize decide (k1 = 0) = b1 at *
  generalize decide (k2 = 0) = b2 at *
  generalize decide (k3 = 0) = b3 at *
  unfold Op.equalIn
  cases b0 <;> cases b1 <;> cases b2 <;> cases b3 <;> simp [List.range', Sem.run_bind, Result.andThen, p0, p1, p2, p3, z0, z1, z2, z3, g0, g1, g2, g3, hs, run_underlying hu]
def csq (k0 k1 k2 k3 : Nat) (P : Nat → Nat → Nat → Nat → Prop) : Nat → Prop
  | 0 => P 0 0 0 0
  | 1 => P k0 0 0 0
  | 2 => P k0 k1 0 0
  | 3 => P k0 k1 k2 0
  | _ => P k0 k1 k2 k3

theorem cs_new (a0 a1 a2 a3 : Int) (w : World) : CS w w.heap.size a0 a1 a2 a3 (.slice (some ⟨w.heap.size + 1 + 1 + 1, 0, none⟩) 1 1) 0 0 0 0 (((((w.alloc (Obj.cells #[Value.int IntKind.i64 a0, Value.int IntKind.i64 a1, Value.int IntKind.i64 a2, Value.int IntKind.i64 a3] 22)).alloc (Obj.cells #[Value.slice none 0 0, Value.int IntKind.i64 0, Value.int IntKind.i64 0, Value.int IntKind.i64 0, Value.int IntKind.i64 0, Value.int IntKind.i64 0, Value.int IntKind.i64 0, Value.int IntKind.i64 0] 26)).alloc (Obj.cells #[Value.int IntKind.i64 1] 3)).alloc (Obj.cells #[Value.slice (some ⟨w.heap.size + 1 + 1, 0, none⟩) 1 1] 81)).alloc (Obj.cells #[Value.slice (some ⟨w.heap.size + 1 + 1 + 1, 0, none⟩) 1 1, Value.int IntKind.i64 0, Value.int IntKind.i64 0, Value.int IntKind.i64 0, Value.int IntKind.i64 0, Value.int IntKind.i64 1, Value.int IntKind.i64 0, Value.int IntKind.i64 40] 26)) := by
  have b0 := Blk.new w [.int .i64 a0, .int .i64 a1, .int .i64 a2, .int .i64 a3] 22
  have u0 : Upd (fun _ => False) w (w.alloc (Obj.cells #[Value.int IntKind.i64 a0, Value.int IntKind.i64 a1, Value.int IntKind.i64 a2, Value.int IntKind.i64 a3] 22)) := (Upd.refl _ _).alloc _
  have z0 : (w.alloc (Obj.cells #[Value.int IntKind.i64 a0, Value.int IntKind.i64 a1, Value.int IntKind.i64 a2, Value.int IntKind.i64 a3] 22)).heap.size = w.heap.size + 1 := by simp
  generalize w.alloc (Obj.cells #[Value.int IntKind.i64 a0, Value.int IntKind.i64 a1, Value.int IntKind.i64 a2, Value.int IntKind.i64 a3] 22) = wa at *
  have b1 := Blk.new wa [.slice none 0 0, .int .i64 0, .int .i64 0, .int .i64 0, .int .i64 0, .int .i64 0, .int .i64 0, .int .i64 0] 26
  have u1 : Upd (fun _ => False) wa (wa.alloc (Obj.cells #[Value.slice none 0 0, Value.int IntKind.i64 0, Value.int IntKind.i64 0, Value.int IntKind.i64 0, Value.int IntKind.i64 0, Value.int IntKind.i64 0, Value.int IntKind.i64 0, Value.int IntKind.i64 0] 26)) := (Upd.refl _ _).alloc _
  have z1 : (wa.alloc (Obj.cells #[Value.slice none 0 0, Value.int IntKind.i64 0, Value.int IntKind.i64 0, Value.int IntKind.i64 0, Value.int IntKind.i64 0, Value.int IntKind.i64 0, Value.int IntKind.i64 0, Value.int IntKind.i64 0] 26)).heap.size = w.heap.size + 1 + 1 := by simp [z0]
  rw [z0] at b1
  generalize wa.alloc (Obj.cells #[Value.slice none 0 0, Value.int IntKind.i64 0, Value.int IntKind.i64 0, Value.int IntKind.i64 0, Value.int IntKind.i64 0, Value.int IntKind.i64 0, Value.int IntKind.i64 0, Value.int IntKind.i64 0] 26) = wb at *
  have b2 := Blk.new wb [.int .i64 1] 3
  have u2 : Upd (fun _ => False) wb (wb.alloc (Obj.cells #[Value.int IntKind.i64 1] 3)) := (Upd.refl _ _).alloc _
  have z2 : (wb.alloc (Obj.cells #[Value.int IntKind.i64 1] 3)).heap.size = w.heap.size + 3 := by simp [z1]
  rw [z1] at b2
  generalize wb.alloc (Obj.cells #[Value.int IntKind.i64 1] 3) = wc at *
  have b3 := Blk.new wc [.slice (some ⟨w.heap.size + 2, 0, none⟩) 1 1] 81
  rw [z2] at b3
  have u3 : Upd (fun _ => False) wc (wc.alloc (Obj.cells #[Value.slice (some ⟨w.heap.size + 1 + 1, 0, none⟩) 1 1] 81)) := (Upd.refl _ _).alloc _
  have z3 : (wc.alloc (Obj.cells #[Value.slice (some ⟨w.heap.size + 1 + 1, 0, none⟩) 1 1] 81)).heap.size = w.heap.size + 4 := by simp [z2]
  have b3 : Blk (wc.alloc (Obj.cells #[Value.slice (some ⟨w.heap.size + 1 + 1, 0, none⟩) 1 1] 81)) (w.heap.size + 3) [.slice (some ⟨w.heap.size + 2, 0, none⟩) 1 1] 81 := b3
  generalize wc.alloc (Obj.cells #[Value.slice (some ⟨w.heap.size + 1 + 1, 0, none⟩) 1 1] 81) = wk at *
  have b4 := Blk.new wk (cfgL (.slice (some ⟨w.heap.size + 1 + 1 + 1, 0, none⟩) 1 1) 0 0 0 0) 26
  rw [z3] at b4
  have u4 : Upd (fun _ => False) wk (wk.alloc (Obj.cells #[Value.slice (some ⟨w.heap.size + 1 + 1 + 1, 0, none⟩) 1 1, Value.int IntKind.i64 0, Value.int IntKind.i64 0, Value.int IntKind.i64 0, Value.int IntKind.i64 0, Value.int IntKind.i64 1, Value.int IntKind.i64 0, Value.int IntKind.i64 40] 26)) := (Upd.refl _ _).alloc _
  have u34 := u3.trans u4
  have u234 := u2.trans u34
  exact ⟨(b0.upd u1 (fun x => x)).upd u234 (fun x => x), b1.upd u234 (fun x => x), b4, (u0.trans u1).trans u234, b2.upd u34 (fun x => x), b3.upd u4 (fun x => x)⟩

set_option maxRecDepth 100000 in
set_option maxHeartbeats 2000000 in
theorem law_config20 (a0 a1 a2 a3 : Int) (w : World) : Calls Try.prog 13 #[.agg #[.int .i64 a0, .int .i64 a1, .int .i64 a2, .int .i64 a3]] w (ConfigPost w) := by
  obtain ⟨k0, e0, l0⟩ := rem_nat a0 40 (by decide) (by decide)
  obtain ⟨k1, e1, l1⟩ := rem_nat a1 40 (by decide) (by decide)
  obtain ⟨k2, e2, l2⟩ := rem_nat a2 40 (by decide) (by decide)
  obtain ⟨k3, e3, l3⟩ := rem_nat a3 40 (by decide) (by decide)
  unfold ConfigPost cfgV
  have hst := cs_new a0 a1 a2 a3 w
  obtain ⟨v, hv⟩ : ∃ v, v = Value.slice (some ⟨w.heap.size + 1 + 1 + 1, 0, none⟩) 1 1 := ⟨_, rfl⟩
  obtain ⟨B, hB⟩ : ∃ B, B = w.heap.size := ⟨_, rfl⟩
  go_enter Try.func13, Try.ntmps13
  go_upto_block 0 with fail
  generalize ((((w.alloc (Obj.cells #[Value.int IntKind.i64 a0, Value.int IntKind.i64 a1, Value.int IntKind.i64 a2, Value.int IntKind.i64 a3] 22)).alloc (Obj.cells #[Value.slice none 0 0, Value.int IntKind.i64 0, Value.int IntKind.i64 0, Value.int IntKind.i64 0, Value.int IntKind.i64 0, Value.int IntKind.i64 0, Value.int IntKind.i64 0, Value.int IntKind.i64 0] 26)).alloc (Obj.cells #[Value.int IntKind.i64 1] 3)).alloc (Obj.cells #[Value.slice (some ⟨w.heap.size + 1 + 1, 0, none⟩) 1 1] 81)).alloc (Obj.cells #[Value.slice (some ⟨w.heap.size + 1 + 1 + 1, 0, none⟩) 1 1, Value.int IntKind.i64 0, Value.int IntKind.i64 0, Value.int IntKind.i64 0, Value.int IntKind.i64 0, Value.int IntKind.i64 1, Value.int IntKind.i64 0, Value.int IntKind.i64 40] 26) = W1 at *
  rw [← hv] at hst ⊢
  rw [← hB] at hst hv ⊢
  rw [show B + 1 + 1 + 1 + 1 = B + 4 from rfl]
  have Hhst := Lib.hid hst; clear hst
  have Hhv := Lib.hid hv; clear hv
  have HhB := Lib.hid hB; clear hB
  go_wp2_with fail
  go_loopw [9] (fun i wr => ∃ q : Nat, i = .int .i64 q ∧ q ≤ 4 ∧ csq k0 k1 k2 k3 (fun m0 m1 m2 m3 => CS w B a0 a1 a2 a3 v m0 m1 m2 m3 wr) q) (fun i _ => (4 - intOf i).toNat)
  case atStart => exact ⟨0, rfl, by omega, Hhst.out⟩
  case round =>
    obtain ⟨q, rfl, hq, hcs⟩ := hrel
    have hq5 : q = 0 ∨ q = 1 ∨ q = 2 ∨ q = 3 ∨ q = 4 := by omega
    rcases hq5 with rfl | rfl | rfl | rfl | rfl
    · rw [show ((0 : Nat) : Int) = 0 from rfl]
      have hcs : CS w B a0 a1 a2 a3 v 0 0 0 0 wr := hcs
      have ca := hcs.n.cell 0 rfl
      have cc := hcs.c.cell 1 rfl
      have fc := hcs.c.free 1
      have hn : CS w B a0 a1 a2 a3 v k0 0 0 0 (wr.setCell ⟨B + 4, 1, none⟩ (.int .i64 k0)) := ⟨hcs.n.setOther (by show B + 4 ≠ B; omega) _, hcs.z.setOther (by show B + 4 ≠ B + 1; omega) _, hcs.c.set 1 _, hcs.u.fresh _ (by show w.heap.size ≤ B + 4; have := HhB.out; omega) _, hcs.i.setOther (by show B + 4 ≠ B + 2; omega) _, hcs.k.setOther (by show B + 4 ≠ B + 3; omega) _⟩
      have Hhcs := Lib.hid hcs; clear hcs
      have Hhn := Lib.hid hn; clear hn
      go_wp2_with fail
      go_roundw
      case rel => exact ⟨1, rfl, by omega, Hhn.out⟩
      case measure => simp [intOf]
    · rw [show ((1 : Nat) : Int) = 1 from rfl]
      have hcs : CS w B a0 a1 a2 a3 v k0 0 0 0 wr := hcs
      have ca := hcs.n.cell 1 rfl
      have cc := hcs.c.cell 2 rfl
      have fc := hcs.c.free 2
      have hn : CS w B a0 a1 a2 a3 v k0 k1 0 0 (wr.setCell ⟨B + 4, 2, none⟩ (.int .i64 k1)) := ⟨hcs.n.setOther (by show B + 4 ≠ B; omega) _, hcs.z.setOther (by show B + 4 ≠ B + 1; omega) _, hcs.c.set 2 _, hcs.u.fresh _ (by show w.heap.size ≤ B + 4; have := HhB.out; omega) _, hcs.i.setOther (by show B + 4 ≠ B + 2; omega) _, hcs.k.setOther (by show B + 4 ≠ B + 3; omega) _⟩
      have Hhcs := Lib.hid hcs; clear hcs
      have Hhn := Lib.hid hn; clear hn
      go_wp2_with fail
      go_roundw
      case rel => exact ⟨2, rfl, by omega, Hhn.out⟩
      case measure => simp [intOf]
    · rw [show ((2 : Nat) : Int) = 2 from rfl]
      have hcs : CS w B a0 a1 a2 a3 v k0 k1 0 0 wr := hcs
      have ca := hcs.n.cell 2 rfl
      have cc := hcs.c.cell 3 rfl
      have fc := hcs.c.free 3
      have hn : CS w B a0 a1 a2 a3 v k0 k1 k2 0 (wr.setCell ⟨B + 4, 3, none⟩ (.int .i64 k2)) := ⟨hcs.n.setOther (by show B + 4 ≠ B; omega) _, hcs.z.setOther (by show B + 4 ≠ B + 1; omega) _, hcs.c.set 3 _, hcs.u.fresh _ (by show w.heap.size ≤ B + 4; have := HhB.out; omega) _, hcs.i.setOther (by show B + 4 ≠ B + 2; omega) _, hcs.k.setOther (by show B + 4 ≠ B + 3; omega) _⟩
      have Hhcs := Lib.hid hcs; clear hcs
      have Hhn := Lib.hid hn; clear hn
      go_wp2_with fail
      go_roundw
      case rel => exact ⟨3, rfl, by omega, Hhn.out⟩
      case measure => simp [intOf]
    · rw [show ((3 : Nat) : Int) = 3 from rfl]
      have hcs : CS w B a0 a1 a2 a3 v k0 k1 k2 0 wr := hcs
      have ca := hcs.n.cell 3 rfl
      have cc := hcs.c.cell 4 rfl
      have fc := hcs.c.free 4
      have hn : CS w B a0 a1 a2 a3 v k0 k1 k2 k3 (wr.setCell ⟨B + 4, 4, none⟩ (.int .i64 k3)) := ⟨hcs.n.setOther (by show B + 4 ≠ B; omega) _, hcs.z.setOther (by show B + 4 ≠ B + 1; omega) _, hcs.c.set 4 _, hcs.u.fresh _ (by show w.heap.size ≤ B + 4; have := HhB.out; omega) _, hcs.i.setOther (by show B + 4 ≠ B + 2; omega) _, hcs.k.setOther (by show B + 4 ≠ B + 3; omega) _⟩
      have Hhcs := Lib.hid hcs; clear hcs
      have Hhn := Lib.hid hn; clear hn
      go_wp2_with fail
      go_roundw
      case rel => exact ⟨4, rfl, by omega, Hhn.out⟩
      case measure => simp [intOf]
    · rw [show ((4 : Nat) : Int) = 4 from rfl]
      have hcs : CS w B a0 a1 a2 a3 v k0 k1 k2 k3 wr := hcs
      obtain ⟨va, hva⟩ : ∃ va, v = Value.slice (some va) 1 1 := ⟨_, Hhv.out⟩
      subst hva
      have d0 := hcs.c.cell 0 rfl
      have d1 := hcs.c.cell 1 rfl
      have d2 := hcs.c.cell 2 rfl
      have d3 := hcs.c.cell 3 rfl
      have d4 := hcs.c.cell 4 rfl
      have d5 := hcs.c.cell 5 rfl
      have d6 := hcs.c.cell 6 rfl
      have d7 := hcs.c.cell 7 rfl
      have f1 := hcs.c.free 1
      have z0 := hcs.z.cell 0 rfl
      have z1 := hcs.z.cell 1 rfl
      have z2 := hcs.z.cell 2 rfl
      have z3 := hcs.z.cell 3 rfl
      have z4 := hcs.z.cell 4 rfl
      have z5 := hcs.z.cell 5 rfl
      have z6 := hcs.z.cell 6 rfl
      have z7 := hcs.z.cell 7 rfl
      have y0 := hcs.z.free 0
      have y1 := hcs.z.free 1
      have y2 := hcs.z.free 2
      have y3 := hcs.z.free 3
      have y4 := hcs.z.free 4
      have y5 := hcs.z.free 5
      have y6 := hcs.z.free 6
      have y7 := hcs.z.free 7
      have hge : w.heap.size ≤ B + 1 := by have := HhB.out; omega
      clear e0 e1 e2 e3
      by_cases hz : k0 = 0 ∧ k1 = 0 ∧ k2 = 0 ∧ k3 = 0
      · obtain ⟨rfl, rfl, rfl, rfl⟩ := hz
        rw [show ((0 : Nat) : Int) = 0 from rfl] at d1 d2 d3 d4
        have heq : ∀ w', (Op.equalIn 10000 22 (.agg #[.int .i64 0, .int .i64 0, .int .i64 0, .int .i64 0]) (.agg #[.int .i64 0, .int .i64 0, .int .i64 0, .int .i64 0])).run Try.prog w' = .ok true w' := fun w' => eq_zero4 w' 0 0 0 0
        have hcs2 : CS w B a0 a1 a2 a3 (.slice (some va) 1 1) 1 0 0 0 (wr.setCell ⟨B + 4, 1, none⟩ (.int .i64 1)) := ⟨hcs.n.setOther (by show B + 4 ≠ B; omega) _, hcs.z.setOther (by show B + 4 ≠ B + 1; omega) _, hcs.c.set 1 _, hcs.u.fresh _ (by show w.heap.size ≤ B + 4; omega) _, hcs.i.setOther (by show B + 4 ≠ B + 2; omega) _, hcs.k.setOther (by show B + 4 ≠ B + 3; omega) _⟩
        have Hhcs := Lib.hid hcs; clear hcs
        have Hhcs2 := Lib.hid hcs2; clear hcs2
        go_wp2_with fail
        refine bodyPost_ret (v := .agg #[.slice (some va) 1 1, .int .i64 1, .int .i64 0, .int .i64 0, .int .i64 0, .int .i64 1, .int .i64 0, .int .i64 40]) ?_ rfl ?_
        · rw [results_cell1 rfl]
          go_simp
        · refine ⟨.slice (some va) 1 1, 1, 0, 0, 0, rfl, by omega, by omega, by omega, by omega, by omega, ?_, ?_⟩
          · rw [Hhv.out]
            exact mat_blk ((((((((Hhcs2.out.i.setOther (p := ⟨B + 1, 0, none⟩) (by show B + 1 ≠ B + 2; omega) _).setOther (p := ⟨B + 1, 1, none⟩) (by show B + 1 ≠ B + 2; omega) _).setOther (p := ⟨B + 1, 2, none⟩) (by show B + 1 ≠ B + 2; omega) _).setOther (p := ⟨B + 1, 3, none⟩) (by show B + 1 ≠ B + 2; omega) _).setOther (p := ⟨B + 1, 4, none⟩) (by show B + 1 ≠ B + 2; omega) _).setOther (p := ⟨B + 1, 5, none⟩) (by show B + 1 ≠ B + 2; omega) _).setOther (p := ⟨B + 1, 6, none⟩) (by show B + 1 ≠ B + 2; omega) _).setOther (p := ⟨B + 1, 7, none⟩) (by show B + 1 ≠ B + 2; omega) _) ((((((((Hhcs2.out.k.setOther (p := ⟨B + 1, 0, none⟩) (by show B + 1 ≠ B + 3; omega) _).setOther (p := ⟨B + 1, 1, none⟩) (by show B + 1 ≠ B + 3; omega) _).setOther (p := ⟨B + 1, 2, none⟩) (by show B + 1 ≠ B + 3; omega) _).setOther (p := ⟨B + 1, 3, none⟩) (by show B + 1 ≠ B + 3; omega) _).setOther (p := ⟨B + 1, 4, none⟩) (by show B + 1 ≠ B + 3; omega) _).setOther (p := ⟨B + 1, 5, none⟩) (by show B + 1 ≠ B + 3; omega) _).setOther (p := ⟨B + 1, 6, none⟩) (by show B + 1 ≠ B + 3; omega) _).setOther (p := ⟨B + 1, 7, none⟩) (by show B + 1 ≠ B + 3; omega) _)
          · exact (((((((Hhcs2.out.u.fresh ⟨B + 1, 0, none⟩ hge _).fresh ⟨B + 1, 1, none⟩ hge _).fresh ⟨B + 1, 2, none⟩ hge _).fresh ⟨B + 1, 3, none⟩ hge _).fresh ⟨B + 1, 4, none⟩ hge _).fresh ⟨B + 1, 5, none⟩ hge _).fresh ⟨B + 1, 6, none⟩ hge _).fresh ⟨B + 1, 7, none⟩ hge _
      · have heq : ∀ w', (Op.equalIn 10000 22 (.agg #[.int .i64 k0, .int .i64 k1, .int .i64 k2, .int .i64 k3]) (.agg #[.int .i64 0, .int .i64 0, .int .i64 0, .int .i64 0])).run Try.prog w' = .ok false w' := fun w' => by
          rw [eq_zero4]
          congr 1
          by_cases q0 : k0 = 0 <;> by_cases q1 : k1 = 0 <;> by_cases q2 : k2 = 0 <;> by_cases q3 : k3 = 0 <;> simp_all
        have Hhcs := Lib.hid hcs; clear hcs
        go_wp2_with fail
        refine bodyPost_ret (v := .agg #[.slice (some va) 1 1, .int .i64 k0, .int .i64 k1, .int .i64 k2, .int .i64 k3, .int .i64 1, .int .i64 0, .int .i64 40]) ?_ rfl ?_
        · rw [results_cell1 rfl]
          go_simp
        · refine ⟨.slice (some va) 1 1, k0, k1, k2, k3, rfl, by omega, by omega, by omega, by omega, by omega, ?_, ?_⟩
          · rw [Hhv.out]
            exact mat_blk ((((((((Hhcs.out.i.setOther (p := ⟨B + 1, 0, none⟩) (by show B + 1 ≠ B + 2; omega) _).setOther (p := ⟨B + 1, 1, none⟩) (by show B + 1 ≠ B + 2; omega) _).setOther (p := ⟨B + 1, 2, none⟩) (by show B + 1 ≠ B + 2; omega) _).setOther (p := ⟨B + 1, 3, none⟩) (by show B + 1 ≠ B + 2; omega) _).setOther (p := ⟨B + 1, 4, none⟩) (by show B + 1 ≠ B + 2; omega) _).setOther (p := ⟨B + 1, 5, none⟩) (by show B + 1 ≠ B + 2; omega) _).setOther (p := ⟨B + 1, 6, none⟩) (by show B + 1 ≠ B + 2; omega) _).setOther (p := ⟨B + 1, 7, none⟩) (by show B + 1 ≠ B + 2; omega) _) ((((((((Hhcs.out.k.setOther (p := ⟨B + 1, 0, none⟩) (by show B + 1 ≠ B + 3; omega) _).setOther (p := ⟨B + 1, 1, none⟩) (by show B + 1 ≠ B + 3; omega) _).setOther (p := ⟨B + 1, 2, none⟩) (by show B + 1 ≠ B + 3; omega) _).setOther (p := ⟨B + 1, 3, none⟩) (by show B + 1 ≠ B + 3; omega) _).setOther (p := ⟨B + 1, 4, none⟩) (by show B + 1 ≠ B + 3; omega) _).setOther (p := ⟨B + 1, 5, none⟩) (by show B + 1 ≠ B + 3; omega) _).setOther (p := ⟨B + 1, 6, none⟩) (by show B + 1 ≠ B + 3; omega) _).setOther (p := ⟨B + 1, 7, none⟩) (by show B + 1 ≠ B + 3; omega) _)
          · exact (((((((Hhcs.out.u.fresh ⟨B + 1, 0, none⟩ hge _).fresh ⟨B + 1, 1, none⟩ hge _).fresh ⟨B + 1, 2, none⟩ hge _).fresh ⟨B + 1, 3, none⟩ hge _).fresh ⟨B + 1, 4, none⟩ hge _).fresh ⟨B + 1, 5, none⟩ hge _).fresh ⟨B + 1, 6, none⟩ hge _).fresh ⟨B + 1, 7, none⟩ hge _

def sumN (n0 n1 n2 n3 : Nat) : Nat := n0 + n1 + n2 + n3
set_option maxRecDepth 100000 in
set_option maxHeartbeats 1000000 in
theorem lay_Range3 (L n0 n1 n2 n3 : Nat) (h0 : n0 ≤ 40) (h1 : n1 ≤ 40) (h2 : n2 ≤ 40) (h3 : n3 ≤ 40) (w : World) (h : IsLay w L n0 n1 n2 n3) :
    Calls Try.prog 54 #[.pointer (some ⟨L, 0, none⟩), .int .i64 3] w (RetK w (.tuple #[.int .i64 (n0 + n1 + n2 : Nat), .int .i64 (sumN n0 n1 n2 n3)])) := by
  obtain ⟨v, r, bi, lo, bl, wo, hb, -, -⟩ := h
  have i0 : (n0 : Int) ≤ 40 := by omega
  have i1 : (n1 : Int) ≤ 40 := by omega
  have i2 : (n2 : Int) ≤ 40 := by omega
  have i3 : (n3 : Int) ≤ 40 := by omega
  have d1 := hb.cell 1 rfl
  have d2 := hb.cell 2 rfl
  have d3 := hb.cell 3 rfl
  have d4 := hb.cell 4 rfl
  rw [show ((n0 + n1 + n2 : Nat) : Int) = (n0 : Int) + n1 + n2 by omega, show ((sumN n0 n1 n2 n3 : Nat) : Int) = (n0 : Int) + n1 + n2 + n3 by unfold sumN; omega]
  have hk4 := fun (s : Later w) => show s.val.cell? ⟨L, 4, none⟩ = _ from (hb.upd s.up (fun x => x)).cell 4 rfl
  have Hhb := Lib.hid hb; clear hb
  go_enter Try.func54, Try.ntmps54
  go_wp2_with fail
  go_loop [26, 6] (fun i c => ∃ q : Nat, i = .int .i64 q ∧ q ≤ 3 ∧ c = .int .i64 (cntN n0 n1 n2 n3 q)) (fun i _ => (3 - intOf i).toNat)
  case atStart => exact ⟨0, rfl, by omega, rfl⟩
  case round =>
    obtain ⟨q, rfl, hq, rfl⟩ := hrel
    have hq5 : q = 0 ∨ q = 1 ∨ q = 2 ∨ q = 3 := by omega
    rcases hq5 with rfl | rfl | rfl | rfl
    · rw [show ((0 : Nat) : Int) = 0 from rfl, show ((cntN n0 n1 n2 n3 0 : Nat) : Int) = 0 from rfl]
      go_wp2_with fail
      go_round
      case rel => exact ⟨1, rfl, by omega, by simp [cntN]⟩
      case measure => simp [intOf]
    · rw [show ((1 : Nat) : Int) = 1 from rfl, show ((cntN n0 n1 n2 n3 1 : Nat) : Int) = n0 from rfl]
      go_wp2_with fail
      go_round
      case rel => exact ⟨2, rfl, by omega, by simp [cntN]⟩
      case measure => simp [intOf]
    · rw [show ((2 : Nat) : Int) = 2 from rfl, show ((cntN n0 n1 n2 n3 2 : Nat) : Int) = (n0 : Int) + n1 by simp [cntN]]
      go_wp2_with fail
      go_round
      case rel => exact ⟨3, rfl, by omega, by simp [cntN]⟩
      case measure => simp [intOf]
    · rw [show ((3 : Nat) : Int) = 3 from rfl, show ((cntN n0 n1 n2 n3 3 : Nat) : Int) = (n0 : Int) + n1 + n2 by simp [cntN]]
      go_wp2_with fail
      refine wp_region_later (by kernel_rfl) (by kernel_rfl) ?_
      repeat (go_big_quiet_step (fail))
      refine wpQuiet_nil ?_
      intro w4 hw4
      have u4 : Upd (fun _ => False) w w4 := by
        obtain ⟨s, rfl⟩ := hw4
        exact s.up
      clear hw4
      clear hk4
      go_wp2_with fail
      go_ret2
      exact ⟨rfl, u4⟩
theorem lay_Blocks (L n0 n1 n2 n3 : Nat) (h0 : n0 ≤ 40) (h1 : n1 ≤ 40) (h2 : n2 ≤ 40) (h3 : n3 ≤ 40) (w : World) (h : IsLay w L n0 n1 n2 n3) :
    Calls Try.prog 22 #[.pointer (some ⟨L, 0, none⟩)] w (RetK w (.int .i64 (sumN n0 n1 n2 n3))) := by
  have hr := lay_Range3 L n0 n1 n2 n3 h0 h1 h2 h3 w h
  unfold RetK at hr
  have Hhr := Lib.hid hr; clear hr
  have Hh := Lib.hid h; clear h
  go_enter Try.func22, Try.ntmps22
  go_wp2_with (go_at_call 54; (with_reducible refine Hhr.out.mono ?_); rintro e w2 ⟨rfl, hu⟩)
  go_ret
  exact ⟨rfl, hu⟩
theorem lay_Pages (L n0 n1 n2 n3 : Nat) (h0 : n0 ≤ 40) (h1 : n1 ≤ 40) (h2 : n2 ≤ 40) (h3 : n3 ≤ 40) (w : World) (h : IsLay w L n0 n1 n2 n3) :
    Calls Try.prog 23 #[.pointer (some ⟨L, 0, none⟩)] w (RetK w (.int .i64 (((sumN n0 n1 n2 n3 + 7) / 8 : Nat) : Int))) := by
  have hr := lay_Blocks L n0 n1 n2 n3 h0 h1 h2 h3 w h
  have hs : sumN n0 n1 n2 n3 ≤ 160 := by unfold sumN; omega
  have hd : ((sumN n0 n1 n2 n3 : Int) + 8 - 1).tdiv 8 = (((sumN n0 n1 n2 n3 + 7) / 8 : Nat) : Int) := by
    rw [Int.tdiv_eq_ediv_of_nonneg (by omega)]
    omega
  have hP : (((sumN n0 n1 n2 n3 + 7) / 8 : Nat) : Int) ≤ 100 := by omega
  generalize (sumN n0 n1 n2 n3 + 7) / 8 = P at *
  generalize sumN n0 n1 n2 n3 = S at *
  have hs2 : (S : Int) ≤ 160 := by omega
  unfold RetK at hr
  have Hhr := Lib.hid hr; clear hr
  have Hh := Lib.hid h; clear h
  go_enter Try.func23, Try.ntmps23
  go_wp2_with (go_at_call 22; (with_reducible refine Hhr.out.mono ?_); rintro e w2 ⟨rfl, hu⟩)
  go_ret
  exact ⟨rfl, hu⟩
/-- No layout. -/
theorem lay_nil (w : World) : Calls Try.prog 22 #[.pointer none] w (Same w (.int .i64 0)) ∧ Calls Try.prog 23 #[.pointer none] w (Same w (.int .i64 0)) := by
  have hr : ∀ w, Calls Try.prog 54 #[.pointer none, .int .i64 3] w (Same w (.tuple #[.int .i64 0, .int .i64 0])) := fun w => by
    go_enter Try.func54, Try.ntmps54
    go_wp2_with fail
    go_ret2
    exact ⟨rfl, rfl⟩
  have Hhr := Lib.hid hr; clear hr
  have hb : ∀ w, Calls Try.prog 22 #[.pointer none] w (Same w (.int .i64 0)) := fun w => by
    go_enter Try.func22, Try.ntmps22
    go_wp2_with (go_at_call 54; (with_reducible refine (Hhr.out _).mono ?_); rintro e w2 ⟨rfl, rfl⟩)
    go_ret
    exact ⟨rfl, rfl⟩
  refine ⟨hb w, ?_⟩
  have Hhb := Lib.hid hb; clear hb
  go_enter Try.func23, Try.ntmps23
  go_wp2_with (go_at_call 22; (with_reducible refine (Hhb.out _).mono ?_); rintro e w2 ⟨rfl, rfl⟩)
  go_ret
  exact ⟨rfl, rfl⟩
theorem IsLay.upd {w w' : World} {L n0 n1 n2 n3 : Nat} (h : IsLay w L n0 n1 n2 n3) {S : Nat → Prop} (u : Upd S w w') (hs : ¬ S L) : IsLay w' L n0 n1 n2 n3 := by
  obtain ⟨v, r, bi, lo, bl, wo, hb, h1, h2⟩ := h
  exact ⟨v, r, bi, lo, bl, wo, hb.upd u hs, h1, h2⟩
end Go.Proofs.Ythaicpjgmplgcaa
