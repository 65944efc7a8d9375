/- Laws of chapter 8: the common part. -/
import Derived.Test.YtgnmcldedifjaaaRefKind
namespace Go.Proofs.Ytgnmcldedifjaaa
open Go.RowKit
set_option linter.unusedVariables false

/-- The result, with two cells of the law's own as they were. -/
def K2 (W : World) (A : Addr) (va : Value) (B : Addr) (vb : Value) (v : Value) (e : Ending) (w2 : World) : Prop :=
  e = .returned v ∧ Upd (fun _ => False) W w2 ∧ w2.cell? A = some va ∧ w2.cell? B = some vb
theorem k2 {P : Program} {f : FuncId} {a : Array Value} {W w' : World} {v : Value} {A B : Addr} {va vb : Value} (h : Calls P f a w' (RetK w' v)) (hu : Upd (fun _ => False) W w') (ha : w'.cell? A = some va) (hb : w'.cell? B = some vb) :
    Calls P f a w' (K2 W A va B vb v) :=
  h.mono fun e w2 ⟨he, u⟩ => ⟨he, hu.trans u, (u.none.cell (World.block_lt_of_cell? w' A ha)).trans ha, (u.none.cell (World.block_lt_of_cell? w' B hb)).trans hb⟩

theorem two_kinds (W : World) (va vb : Value) (T : TypeId) : Upd (fun _ => False) W ((W.alloc (.cells #[va] T)).alloc (.cells #[vb] T)) ∧
    ((W.alloc (.cells #[va] T)).alloc (.cells #[vb] T)).cell? ⟨W.heap.size, 0, none⟩ = some va ∧ ((W.alloc (.cells #[va] T)).alloc (.cells #[vb] T)).cell? ⟨W.heap.size + 1, 0, none⟩ = some vb := by
  refine ⟨((Upd.refl _ W).alloc _).alloc _, ((Blk.new W [va] T).alloc _).cell 0 rfl, ?_⟩
  simp

set_option maxRecDepth 100000 in
set_option maxHeartbeats 400000 in
theorem awake8 (W w : World) (u : Upd (fun _ => False) W w) : Calls Try.prog 21 #[] w (RetK W (.bool true)) := by
  go_enter Try.func21, Try.ntmps21
  go_wp2_with (fail)
  have hf : IntsR (w.alloc (.cells #[.int .i64 1, .int .i64 2, .int .i64 3] 3)) (.slice (some ⟨w.heap.size, 0, none⟩) 3 3) .i64 [1, 2, 3] :=
    ownsRow_intsR (base := w.heap.size) (E := 3) (World.ownsRow_lit w #[.int .i64 1, .int .i64 2, .int .i64 3] 3 (Nat.le_refl _) (by decide) rfl)
  have hu1 := (Upd.refl (fun _ => False) (w.alloc (.cells #[.int .i64 1, .int .i64 2, .int .i64 3] 3))).alloc (.cells #[.slice (some ⟨w.heap.size, 0, none⟩) 3 3] 38)
  have hf := ints_upd hf hu1
  have hu2 := (u.alloc (.cells #[.int .i64 1, .int .i64 2, .int .i64 3] 3)).trans hu1
  have hc : ((w.alloc (.cells #[.int .i64 1, .int .i64 2, .int .i64 3] 3)).alloc (.cells #[.slice (some ⟨w.heap.size, 0, none⟩) 3 3] 38)).cell? ⟨w.heap.size + 1, 0, none⟩ = some (.slice (some ⟨w.heap.size, 0, none⟩) 3 3) := by
    simp
  generalize ((w.alloc (.cells #[.int .i64 1, .int .i64 2, .int .i64 3] 3)).alloc (.cells #[.slice (some ⟨w.heap.size, 0, none⟩) 3 3] 38)) = W1 at *
  generalize w.heap.size + 1 = B at *
  generalize Value.slice (some ⟨w.heap.size, 0, none⟩) 3 3 = v at *
  have hM := Lib.hid (fun (w' : World) (h : Upd (fun _ => False) W1 w') => show _ → _ from fun hc => k2 (A := ⟨B, 0, none⟩) (B := ⟨B, 0, none⟩) (va := v) (vb := v) (kind_May v [1, 2, 3] w' (ints_upd hf h)) h hc hc)
  have hW := Lib.hid (fun (w' : World) (h : Upd (fun _ => False) W1 w') => show _ → _ from fun hc => k2 (A := ⟨B, 0, none⟩) (B := ⟨B, 0, none⟩) (va := v) (vb := v) (kind_Words v [1, 2, 3] w' (ints_upd hf h)) h hc hc)
  have hO := Lib.hid (fun (w' : World) (h : Upd (fun _ => False) W1 w') => show _ → _ from fun hc => k2 (A := ⟨B, 0, none⟩) (B := ⟨B, 0, none⟩) (va := v) (vb := v) (kind_Offset v [1, 2, 3] 2 w' (ints_upd hf h)) h hc hc)
  rw [show MayK [1, 2, 3] = true from by decide] at hM
  rw [show kW [1, 2, 3] = 5 from by decide] at hW
  rw [show offK [1, 2, 3] 2 = 4 from by decide] at hO
  have hu0 := Upd.refl (fun _ => False) W1
  refine (hM.out _ hu0 hc).mono ?_
  rintro e w2 ⟨rfl, hu, hca, hcb⟩
  clear hc hcb hu1 hu0
  go_wp2_with (first | (go_at_call 23; (first | (with_reducible refine (hW.out _ (by assumption) (by assumption)).mono ?_)); rintro e w3 ⟨rfl, hu3, hca3, -⟩) | (go_at_call 24; (first | (with_reducible refine (hO.out _ (by assumption) (by assumption)).mono ?_)); rintro e w4 ⟨rfl, hu4, hca4, -⟩))
  go_ret
  exact ⟨rfl, hu2.trans (by assumption)⟩
end Go.Proofs.Ytgnmcldedifjaaa
