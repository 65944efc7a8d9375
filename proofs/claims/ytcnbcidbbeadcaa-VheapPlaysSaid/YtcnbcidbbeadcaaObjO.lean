/- The value of a field's words: value.Of and the document's ValueOf. -/
import Derived.Test.YtcnbcidbbeadcaaObjV
import Derived.Test.YtcnbcidbbeadcaaLater
import Derived.Laws.ResultCell
import Derived.Laws.Externs
import Derived.Laws.Cover3
import Derived.Deep.RegionWith
namespace Go.Proofs.Ytcnbcidbbeadcaa
open Go.RowKit Go.Deep
set_option linter.unusedVariables false

theorem results_cell1 {fn : Func} {p : Tmp} {ty : TypeId} (h : fn.results = #[.cell p ty]) (tmps : Array Value) (P : Program) (w : World) : (results fn tmps).run P w = ((asAddr (tmps.getD p undef)).run P w).andThen fun a w₁ => (loadVar ty a).run P w₁ := by
  simp only [results, h]
  simp [Sem.run_bind, Result.andThen]
/-- The value of a field's words. -/
def vof (k : Int) (ws : List Nat) : Option Val :=
  if k = 1 ∧ ws.length = 1 then some ⟨1, wrap64 ((ws.getD 0 0 : Nat) : Int), 0, 0, 0⟩
  else if k = 2 ∧ ws.length = 2 then some ⟨2, 0, ws.getD 0 0, ws.getD 1 0, 0⟩
  else if k = 3 ∧ ws.length = 1 ∧ ws.getD 0 0 ≤ 1099511627777 then some (if ws.getD 0 0 = 0 then zeroV else ⟨3, 0, 0, 0, ((ws.getD 0 0 - 1 : Nat) : Int)⟩)
  else none
def ofV : Option Val → Value
  | some x => .tuple #[x.v, .bool true]
  | none => .tuple #[zeroV.v, .bool false]
def VAL (k n : Int) (re im : Nat) (r : Int) : Value := .agg #[.int .i64 k, .int .i64 n, .int .u64 (re : Int), .int .u64 (im : Int), .int .i64 r]

theorem word_toInt (x : Nat) (w : World) : Calls Try.prog 88 #[.int .u64 x] w (Same w (.int .i64 (wrap64 x))) := by
  go_enter Try.func88, Try.ntmps88
  go_wp2
  go_ret
  exact ⟨rfl, rfl⟩
theorem value_Int (n : Int) (w : World) : Calls Try.prog 87 #[.int .i64 n] w (RetU w (.agg #[.int .i64 1, .int .i64 n, .int .u64 0, .int .u64 0, .int .i64 0])) := by
  have hu : Upd (fun _ => False) w (w.alloc (.cells #[.int .i64 1, .int .i64 n, .int .u64 0, .int .u64 0, .int .i64 0] 26)) := (Upd.refl _ _).alloc _
  have Hhu := Lib.hid hu; clear hu
  go_enter Try.func87, Try.ntmps87
  go_wp2
  refine bodyPost_ret (v := .agg #[.int .i64 1, .int .i64 n, .int .u64 0, .int .u64 0, .int .i64 0]) ?_ rfl ?_
  · rw [results_cell1 rfl]; go_simp
  · exact ⟨rfl, Hhu.out⟩
theorem value_Ref (n : Int) (w : World) : Calls Try.prog 92 #[.int .i64 n] w (RetU w (.agg #[.int .i64 3, .int .i64 0, .int .u64 0, .int .u64 0, .int .i64 n])) := by
  have hu : Upd (fun _ => False) w (w.alloc (.cells #[.int .i64 3, .int .i64 0, .int .u64 0, .int .u64 0, .int .i64 n] 26)) := (Upd.refl _ _).alloc _
  have Hhu := Lib.hid hu; clear hu
  go_enter Try.func92, Try.ntmps92
  go_wp2
  refine bodyPost_ret (v := .agg #[.int .i64 3, .int .i64 0, .int .u64 0, .int .u64 0, .int .i64 n]) ?_ rfl ?_
  · rw [results_cell1 rfl]; go_simp
  · exact ⟨rfl, Hhu.out⟩
theorem value_Nil (w : World) : Calls Try.prog 91 #[] w (RetU w (.agg #[.int .i64 0, .int .i64 0, .int .u64 0, .int .u64 0, .int .i64 0])) := by
  have hu : Upd (fun _ => False) w (w.alloc (.cells #[.int .i64 0, .int .i64 0, .int .u64 0, .int .u64 0, .int .i64 0] 26)) := (Upd.refl _ _).alloc _
  have Hhu := Lib.hid hu; clear hu
  go_enter Try.func91, Try.ntmps91
  go_wp2
  refine bodyPost_ret (v := .agg #[.int .i64 0, .int .i64 0, .int .u64 0, .int .u64 0, .int .i64 0]) ?_ rfl ?_
  · rw [results_cell1 rfl]; go_simp
  · exact ⟨rfl, Hhu.out⟩
theorem run_frombits (x : Nat) (w : World) : (callFunc 100 #[.int .u64 (x : Int)]).run Try.prog w = .ok (.value (.float .f64 x)) w := by
  rw [run_callFunc_extern Try.func100 (by kernel_rfl) (by kernel_rfl) (by kernel_rfl) (e := Extern.MathFloatBits.float64frombits) (by kernel_rfl)]
  rfl
theorem run_tobits (x : Nat) (w : World) : (callFunc 102 #[.float .f64 x]).run Try.prog w = .ok (.value (.int .u64 (x : Int))) w := by
  rw [run_callFunc_extern Try.func102 (by kernel_rfl) (by kernel_rfl) (by kernel_rfl) (e := Extern.MathFloatBits.float64bits) (by kernel_rfl)]
  rfl
theorem cplx_Of (x y : Nat) (w : World) : Calls Try.prog 90 #[.int .u64 x, .int .u64 y] w (Same w (.complex .f64 x y)) := by
  have h1 := run_frombits x
  have h2 := run_frombits y
  go_enter Try.func90, Try.ntmps90
  go_wp2
  go_ret
  exact ⟨rfl, rfl⟩
theorem cplx_Words (x y : Nat) (w : World) : Calls Try.prog 99 #[.complex .f64 x y] w (Same w (.tuple #[.int .u64 x, .int .u64 y])) := by
  have h1 := run_tobits x
  have h2 := run_tobits y
  go_enter Try.func99, Try.ntmps99
  go_wp2
  go_ret2
  exact ⟨rfl, rfl⟩
theorem value_Complex (x y : Nat) (w : World) : Calls Try.prog 89 #[.complex .f64 x y] w (RetU w (.agg #[.int .i64 2, .int .i64 0, .int .u64 x, .int .u64 y, .int .i64 0])) := by
  have hu : Upd (fun _ => False) w (w.alloc (.cells #[.int .i64 2, .int .i64 0, .int .u64 x, .int .u64 y, .int .i64 0] 26)) := (Upd.refl _ _).alloc _
  have hw := Lib.hid (cplx_Words x y)
  have Hhu := Lib.hid hu; clear hu
  go_enter Try.func89, Try.ntmps89
  go_wp2_with (go_at_call 99; (with_reducible refine (hw.out _).mono ?_); rintro e w2 ⟨rfl, rfl⟩)
  refine bodyPost_ret (v := .agg #[.int .i64 2, .int .i64 0, .int .u64 x, .int .u64 y, .int .i64 0]) ?_ rfl ?_
  · rw [results_cell1 rfl]; go_simp
  · exact ⟨rfl, Hhu.out⟩

theorem words1 {w : World} {v : Value} {x : Nat} (h : WordsR w v [x]) : ∃ va vc b off, v = .slice va 1 vc ∧ (∀ w', (Instr.indexAt 29 (.slice va 1 vc) (.int .i64 0)).run Try.prog w' = .ok (.pointer (some ⟨b, off, none⟩)) w') ∧ b < w.heap.size ∧ w.cell? ⟨b, off, none⟩ = some (.int .u64 (x : Int)) ∧ x < 2 ^ 64 := by
  have h1 := h.1
  obtain ⟨va, vc, rfl, -⟩ := h1
  obtain ⟨b0, off, hix, hb0, hc⟩ := h.1.index (P := Try.prog) Try.underlying29 (by kernel_rfl) (by kernel_rfl) (i := 0) (by simp)
  exact ⟨va, vc, b0, off, rfl, hix, hb0, hc 0 (by decide), h.2 x (by simp)⟩
theorem words2 {w : World} {v : Value} {x y : Nat} (h : WordsR w v [x, y]) : ∃ va vc b off b1 off1, v = .slice va 2 vc ∧ (∀ w', (Instr.indexAt 29 (.slice va 2 vc) (.int .i64 0)).run Try.prog w' = .ok (.pointer (some ⟨b, off, none⟩)) w') ∧ b < w.heap.size ∧ w.cell? ⟨b, off, none⟩ = some (.int .u64 (x : Int)) ∧
    (∀ w', (Instr.indexAt 29 (.slice va 2 vc) (.int .i64 1)).run Try.prog w' = .ok (.pointer (some ⟨b1, off1 + 1, none⟩)) w') ∧ b1 < w.heap.size ∧ w.cell? ⟨b1, off1 + 1, none⟩ = some (.int .u64 (y : Int)) := by
  have h1 := h.1
  obtain ⟨va, vc, rfl, -⟩ := h1
  obtain ⟨b0, off, hix, hb0, hc⟩ := h.1.index (P := Try.prog) Try.underlying29 (by kernel_rfl) (by kernel_rfl) (i := 0) (by simp)
  obtain ⟨b1, off1, hiy, hb1, hd⟩ := h.1.index (P := Try.prog) Try.underlying29 (by kernel_rfl) (by kernel_rfl) (i := 1) (by simp)
  exact ⟨va, vc, b0, off, b1, off1, rfl, hix, hb0, hc 0 (by decide), hiy, hb1, hd 0 (by decide)⟩

theorem upd_set5 {w w3 : World} (u : Upd (fun _ => False) w w3) {B : Nat} (hB : w.heap.size ≤ B) (a b c d e : Value) :
    Upd (fun _ => False) w (((((w3.setCell ⟨B, 0, none⟩ a).setCell ⟨B, 1, none⟩ b).setCell ⟨B, 2, none⟩ c).setCell ⟨B, 3, none⟩ d).setCell ⟨B, 4, none⟩ e) := by
  have h : ∀ j, (⟨B, j, none⟩ : Addr).block < w.heap.size → False := fun j h => absurd (show B < w.heap.size from h) (by omega)
  exact ((((u.setCell (h 0) a).setCell (h 1) b).setCell (h 2) c).setCell (h 3) d).setCell (h 4) e

set_option maxRecDepth 100000 in
set_option maxHeartbeats 1000000 in
theorem value_Of1 (x : Nat) (v : Value) (w : World) (hW : WordsR w v [x]) : Calls Try.prog 64 #[.int .i64 1, v] w (RetU w (ofV (some ⟨1, wrap64 x, 0, 0, 0⟩))) := by
  obtain ⟨va, vc, b, off, rfl, hix, hb, hc, hx⟩ := words1 hW
  have hu : Upd (fun _ => False) w (w.alloc (.cells #[.int .i64 0, .int .i64 0, .int .u64 0, .int .u64 0, .int .i64 0] 26)) := (Upd.refl _ _).alloc _
  have hB := Lib.hid (Blk.new w [.int .i64 0, .int .i64 0, .int .u64 0, .int .u64 0, .int .i64 0] 26)
  have hc0 := (hu.none.cell (p := ⟨b, off, none⟩) hb).trans hc
  have h1 := Lib.hid (word_toInt x)
  have h2 := Lib.hid (value_Int (wrap64 x))
  generalize wrap64 x = z at *
  clear hW
  have Hhu := Lib.hid hu; clear hu
  go_enter Try.func64, Try.ntmps64
  go_wp2_with (first
    | (go_at_call 88; (with_reducible refine (h1.out _).mono ?_); rintro e w2 ⟨rfl, rfl⟩)
    | (go_at_call 87; (with_reducible refine (h2.out _).mono ?_); rintro e w3 ⟨rfl, hu3⟩; have hT := hB.out.upd hu3 (fun h => h); have c0 := hT.cell 0 rfl; have c1 := hT.cell 1 rfl; have c2 := hT.cell 2 rfl; have c3 := hT.cell 3 rfl; have c4 := hT.cell 4 rfl; have f0 := hT.free 0; have f1 := hT.free 1; have f2 := hT.free 2; have f3 := hT.free 3; have f4 := hT.free 4))
  refine bodyPost_ret (v := .tuple #[.agg #[.int .i64 1, .int .i64 z, .int .u64 0, .int .u64 0, .int .i64 0], .bool true]) ?_ rfl ?_
  · rw [results_cell_tmp rfl]; go_simp
  · exact ⟨rfl, upd_set5 (Hhu.out.trans (by assumption)) (Nat.le_refl _) _ _ _ _ _⟩
set_option maxRecDepth 100000 in
set_option maxHeartbeats 1000000 in
theorem value_Of2 (x y : Nat) (v : Value) (w : World) (hW : WordsR w v [x, y]) : Calls Try.prog 64 #[.int .i64 2, v] w (RetU w (ofV (some ⟨2, 0, x, y, 0⟩))) := by
  obtain ⟨va, vc, b, off, b1, off1, rfl, hix, hb, hc, hiy, hb1, hd⟩ := words2 hW
  have hu : Upd (fun _ => False) w (w.alloc (.cells #[.int .i64 0, .int .i64 0, .int .u64 0, .int .u64 0, .int .i64 0] 26)) := (Upd.refl _ _).alloc _
  have hB := Lib.hid (Blk.new w [.int .i64 0, .int .i64 0, .int .u64 0, .int .u64 0, .int .i64 0] 26)
  have hc0 := (hu.none.cell (p := ⟨b, off, none⟩) hb).trans hc
  have hd0 := (hu.none.cell (p := ⟨b1, off1 + 1, none⟩) hb1).trans hd
  have h1 := Lib.hid (cplx_Of x y)
  have h2 := Lib.hid (value_Complex x y)
  clear hW
  have Hhu := Lib.hid hu; clear hu
  go_enter Try.func64, Try.ntmps64
  go_wp2_with fail
  go_region_with (first
    | (go_at_call 90; (with_reducible refine (h1.out _).mono ?_); rintro e w2 ⟨rfl, rfl⟩)
    | (go_at_call 89; (with_reducible refine (h2.out _).mono ?_); rintro e w3 ⟨rfl, hu3⟩; replace hu3 := ((Upd.refl (fun _ => False) _).drew).trans hu3; have hT := hB.out.upd hu3 (fun h => h); have c0 := hT.cell 0 rfl; have c1 := hT.cell 1 rfl; have c2 := hT.cell 2 rfl; have c3 := hT.cell 3 rfl; have c4 := hT.cell 4 rfl; have f0 := hT.free 0; have f1 := hT.free 1; have f2 := hT.free 2; have f3 := hT.free 3; have f4 := hT.free 4))
  all_goals go_wp2
  all_goals (
    refine bodyPost_ret (v := .tuple #[.agg #[.int .i64 2, .int .i64 0, .int .u64 x, .int .u64 y, .int .i64 0], .bool true]) ?_ rfl ?_
    · rw [results_cell_tmp rfl]; go_simp
    · exact ⟨rfl, upd_set5 (Hhu.out.trans (by assumption)) (Nat.le_refl _) _ _ _ _ _⟩)
set_option maxRecDepth 100000 in
set_option maxHeartbeats 1000000 in
theorem value_Of3 (x : Nat) (v : Value) (w : World) (hW : WordsR w v [x]) (hM : x ≤ 1099511627777) : Calls Try.prog 64 #[.int .i64 3, v] w (RetU w (ofV (some (if x = 0 then zeroV else ⟨3, 0, 0, 0, ((x - 1 : Nat) : Int)⟩)))) := by
  obtain ⟨va, vc, b, off, rfl, hix, hb, hc, hx⟩ := words1 hW
  have hu : Upd (fun _ => False) w (w.alloc (.cells #[.int .i64 0, .int .i64 0, .int .u64 0, .int .u64 0, .int .i64 0] 26)) := (Upd.refl _ _).alloc _
  have hB := Lib.hid (Blk.new w [.int .i64 0, .int .i64 0, .int .u64 0, .int .u64 0, .int .i64 0] 26)
  have hc0 := (hu.none.cell (p := ⟨b, off, none⟩) hb).trans hc
  have h1 := Lib.hid value_Nil
  by_cases h0 : x = 0
  · subst h0
    rw [if_pos rfl]
    clear hW hM hx
    have hc0 : (w.alloc (.cells #[.int .i64 0, .int .i64 0, .int .u64 0, .int .u64 0, .int .i64 0] 26)).cell? ⟨b, off, none⟩ = some (.int .u64 0) := hc0
    have Hhu := Lib.hid hu; clear hu
    go_enter Try.func64, Try.ntmps64
    go_wp2_with (go_at_call 91; (with_reducible refine (h1.out _).mono ?_); rintro e w3 ⟨rfl, hu3⟩; have hT := hB.out.upd hu3 (fun h => h); have c0 := hT.cell 0 rfl; have c1 := hT.cell 1 rfl; have c2 := hT.cell 2 rfl; have c3 := hT.cell 3 rfl; have c4 := hT.cell 4 rfl; have f0 := hT.free 0; have f1 := hT.free 1; have f2 := hT.free 2; have f3 := hT.free 3; have f4 := hT.free 4)
    refine bodyPost_ret (v := .tuple #[.agg #[.int .i64 0, .int .i64 0, .int .u64 0, .int .u64 0, .int .i64 0], .bool true]) ?_ rfl ?_
    · rw [results_cell_tmp rfl]; go_simp
    · exact ⟨rfl, upd_set5 (Hhu.out.trans (by assumption)) (Nat.le_refl _) _ _ _ _ _⟩
  · rw [if_neg h0]
    have e0 : ((x : Int) == 0) = false := by rw [beq_eq_false_iff_ne]; omega
    have e1 : (x : Int) ≤ 1099511627777 := by omega
    have e2 : (1 : Int) ≤ x := by omega
    rw [show ((x - 1 : Nat) : Int) = (x : Int) - 1 from by omega]
    have h2 := Lib.hid (value_Ref ((x : Int) - 1))
    clear hW hM hx h0
    have Hhu := Lib.hid hu; clear hu
    go_enter Try.func64, Try.ntmps64
    go_wp2_with (go_at_call 92; (with_reducible refine (h2.out _).mono ?_); rintro e w3 ⟨rfl, hu3⟩; have hT := hB.out.upd hu3 (fun h => h); have c0 := hT.cell 0 rfl; have c1 := hT.cell 1 rfl; have c2 := hT.cell 2 rfl; have c3 := hT.cell 3 rfl; have c4 := hT.cell 4 rfl; have f0 := hT.free 0; have f1 := hT.free 1; have f2 := hT.free 2; have f3 := hT.free 3; have f4 := hT.free 4)
    refine bodyPost_ret (v := .tuple #[.agg #[.int .i64 3, .int .i64 0, .int .u64 0, .int .u64 0, .int .i64 ((x : Int) - 1)], .bool true]) ?_ rfl ?_
    · rw [results_cell_tmp rfl]; go_simp
    · exact ⟨rfl, upd_set5 (Hhu.out.trans (by assumption)) (Nat.le_refl _) _ _ _ _ _⟩
set_option maxRecDepth 100000 in
set_option maxHeartbeats 1000000 in
theorem value_Of3n (x : Nat) (v : Value) (w : World) (hW : WordsR w v [x]) (hM : ¬ x ≤ 1099511627777) : Calls Try.prog 64 #[.int .i64 3, v] w (RetU w (ofV none)) := by
  obtain ⟨va, vc, b, off, rfl, hix, hb, hc, hx⟩ := words1 hW
  have hu : Upd (fun _ => False) w (w.alloc (.cells #[.int .i64 0, .int .i64 0, .int .u64 0, .int .u64 0, .int .i64 0] 26)) := (Upd.refl _ _).alloc _
  have hB := Lib.hid (Blk.new w [.int .i64 0, .int .i64 0, .int .u64 0, .int .u64 0, .int .i64 0] 26)
  have hc0 := (hu.none.cell (p := ⟨b, off, none⟩) hb).trans hc
  have e0 : ((x : Int) == 0) = false := by rw [beq_eq_false_iff_ne]; omega
  have e1 : ¬ (x : Int) ≤ 1099511627777 := by omega
  clear hW hM hx
  have Hhu := Lib.hid hu; clear hu
  go_enter Try.func64, Try.ntmps64
  go_wp2
  refine bodyPost_ret (v := .tuple #[.agg #[.int .i64 0, .int .i64 0, .int .u64 0, .int .u64 0, .int .i64 0], .bool false]) ?_ rfl ?_
  · rw [results_cell_tmp rfl]; go_simp
  · exact ⟨rfl, Hhu.out⟩
set_option maxRecDepth 100000 in
set_option maxHeartbeats 1000000 in
theorem value_Ofn (k : Int) (n : Nat) (va : Option Addr) (vc : Nat) (w : World) (hn : (n : Int) ≤ 9223372036854775807) (g1 : ¬ (k = 1 ∧ n = 1)) (g2 : ¬ (k = 2 ∧ n = 2)) (g3 : ¬ (k = 3 ∧ n = 1)) : Calls Try.prog 64 #[.int .i64 k, .slice va n vc] w (RetU w (ofV none)) := by
  have hu : Upd (fun _ => False) w (w.alloc (.cells #[.int .i64 0, .int .i64 0, .int .u64 0, .int .u64 0, .int .i64 0] 26)) := (Upd.refl _ _).alloc _
  have hB := Lib.hid (Blk.new w [.int .i64 0, .int .i64 0, .int .u64 0, .int .u64 0, .int .i64 0] 26)
  have Hhu := Lib.hid hu; clear hu
  by_cases k1 : k = 1
  · subst k1
    have e1 : ((n : Int) == 1) = false := by rw [beq_eq_false_iff_ne]; omega
    have e2 : ¬ n = 1 := by omega
    clear g1 g2 g3
    go_enter Try.func64, Try.ntmps64
    go_wp2
    refine bodyPost_ret (v := .tuple #[.agg #[.int .i64 0, .int .i64 0, .int .u64 0, .int .u64 0, .int .i64 0], .bool false]) ?_ rfl ?_
    · rw [results_cell_tmp rfl]; go_simp
    · exact ⟨rfl, Hhu.out⟩
  · by_cases k2 : k = 2
    · subst k2
      have e1 : ((n : Int) == 2) = false := by rw [beq_eq_false_iff_ne]; omega
      have e2 : ¬ n = 2 := by omega
      clear g1 g2 g3 k1
      go_enter Try.func64, Try.ntmps64
      go_wp2
      refine bodyPost_ret (v := .tuple #[.agg #[.int .i64 0, .int .i64 0, .int .u64 0, .int .u64 0, .int .i64 0], .bool false]) ?_ rfl ?_
      · rw [results_cell_tmp rfl]; go_simp
      · exact ⟨rfl, Hhu.out⟩
    · by_cases k3 : k = 3
      · subst k3
        have e1 : ((n : Int) == 1) = false := by rw [beq_eq_false_iff_ne]; omega
        have e2 : ¬ n = 1 := by omega
        clear g1 g2 g3 k1 k2
        go_enter Try.func64, Try.ntmps64
        go_wp2
        refine bodyPost_ret (v := .tuple #[.agg #[.int .i64 0, .int .i64 0, .int .u64 0, .int .u64 0, .int .i64 0], .bool false]) ?_ rfl ?_
        · rw [results_cell_tmp rfl]; go_simp
        · exact ⟨rfl, Hhu.out⟩
      · have k1' : (k == 1) = false := by rw [beq_eq_false_iff_ne]; exact k1
        have k2' : (k == 2) = false := by rw [beq_eq_false_iff_ne]; exact k2
        have k3' : (k == 3) = false := by rw [beq_eq_false_iff_ne]; exact k3
        clear g1 g2 g3
        go_enter Try.func64, Try.ntmps64
        go_wp2
        refine bodyPost_ret (v := .tuple #[.agg #[.int .i64 0, .int .i64 0, .int .u64 0, .int .u64 0, .int .i64 0], .bool false]) ?_ rfl ?_
        · rw [results_cell_tmp rfl]; go_simp
        · first
            | exact ⟨rfl, Hhu.out⟩
            | exact ⟨rfl, (Upd.refl _ _).alloc _⟩
            | exact ⟨rfl, ((Upd.refl _ _).alloc _).drew⟩
            | exact ⟨rfl, (Upd.refl _ _).drew.alloc _⟩
            | exact ⟨rfl, upd_set5 (Hhu.out.trans (by assumption)) (Nat.le_refl _) _ _ _ _ _⟩
            | exact ⟨rfl, upd_set5 (Hhu.out.drew.trans (by assumption)) (Nat.le_refl _) _ _ _ _ _⟩
            | exact ⟨rfl, upd_set5 Hhu.out.drew (Nat.le_refl _) _ _ _ _ _⟩
theorem value_Of (k : Int) (v : Value) (ws : List Nat) (w : World) (hW : WordsR w v ws) : Calls Try.prog 64 #[.int .i64 k, v] w (RetU w (ofV (vof k ws))) := by
  unfold vof
  by_cases g1 : k = 1 ∧ ws.length = 1
  · obtain ⟨rfl, hl⟩ := g1
    obtain ⟨x, rfl⟩ := List.length_eq_one_iff.1 hl
    exact value_Of1 x v w hW
  · rw [if_neg g1]
    by_cases g2 : k = 2 ∧ ws.length = 2
    · obtain ⟨rfl, hl⟩ := g2
      obtain ⟨x, y, rfl⟩ : ∃ x y, ws = [x, y] := by
        match ws, hl with
        | [x, y], _ => exact ⟨x, y, rfl⟩
      exact value_Of2 x y v w hW
    · rw [if_neg g2]
      by_cases g3 : k = 3 ∧ ws.length = 1
      · obtain ⟨rfl, hl⟩ := g3
        obtain ⟨x, rfl⟩ := List.length_eq_one_iff.1 hl
        by_cases hM : x ≤ 1099511627777
        · rw [if_pos ⟨rfl, rfl, hM⟩]
          exact value_Of3 x v w hW hM
        · rw [if_neg (fun h => hM h.2.2)]
          exact value_Of3n x v w hW hM
      · rw [if_neg (fun h => g3 ⟨h.1, h.2.1⟩)]
        obtain ⟨va, vc, rfl, hc1, hc2, -⟩ := hW.1
        exact value_Ofn k ws.length va vc w (by unfold maxLen at hc2; omega) g1 g2 g3
set_option maxRecDepth 100000 in
set_option maxHeartbeats 1000000 in
theorem ref_ValueOf1 (x : Nat) (v : Value) (w : World) (hW : WordsR w v [x]) : Calls Try.prog 66 #[.int .i64 1, v] w (RetU w (ofV (some ⟨1, wrap64 x, 0, 0, 0⟩))) := by
  obtain ⟨va, vc, b, off, rfl, hix, hb, hc, hx⟩ := words1 hW
  have hu : Upd (fun _ => False) w (w.alloc (.cells #[.int .i64 0, .int .i64 0, .int .u64 0, .int .u64 0, .int .i64 0] 26)) := (Upd.refl _ _).alloc _
  have hB := Lib.hid (Blk.new w [.int .i64 0, .int .i64 0, .int .u64 0, .int .u64 0, .int .i64 0] 26)
  have hc0 := (hu.none.cell (p := ⟨b, off, none⟩) hb).trans hc
  have h1 := Lib.hid (word_toInt x)
  have h2 := Lib.hid (value_Int (wrap64 x))
  clear hW
  have Hhu := Lib.hid hu; clear hu
  go_enter Try.func66, Try.ntmps66
  go_wp2
  refine bodyPost_ret (v := .tuple #[.agg #[.int .i64 1, .int .i64 (wrap64 x), .int .u64 0, .int .u64 0, .int .i64 0], .bool true]) ?_ rfl ?_
  · rw [results_cell_tmp rfl]; go_simp
  · exact ⟨rfl, (Upd.refl _ _).alloc _⟩
set_option maxRecDepth 100000 in
set_option maxHeartbeats 1000000 in
theorem ref_ValueOf2 (x y : Nat) (v : Value) (w : World) (hW : WordsR w v [x, y]) : Calls Try.prog 66 #[.int .i64 2, v] w (RetU w (ofV (some ⟨2, 0, x, y, 0⟩))) := by
  obtain ⟨va, vc, b, off, b1, off1, rfl, hix, hb, hc, hiy, hb1, hd⟩ := words2 hW
  have hu : Upd (fun _ => False) w (w.alloc (.cells #[.int .i64 0, .int .i64 0, .int .u64 0, .int .u64 0, .int .i64 0] 26)) := (Upd.refl _ _).alloc _
  have hB := Lib.hid (Blk.new w [.int .i64 0, .int .i64 0, .int .u64 0, .int .u64 0, .int .i64 0] 26)
  have hc0 := (hu.none.cell (p := ⟨b, off, none⟩) hb).trans hc
  have hd0 := (hu.none.cell (p := ⟨b1, off1 + 1, none⟩) hb1).trans hd
  have h1 := Lib.hid (cplx_Of x y)
  have h2 := Lib.hid (value_Complex x y)
  clear hW
  have Hhu := Lib.hid hu; clear hu
  go_enter Try.func66, Try.ntmps66
  go_wp2_with fail
  go_region
  all_goals go_wp2
  all_goals (
    refine bodyPost_ret (v := .tuple #[.agg #[.int .i64 2, .int .i64 0, .int .u64 x, .int .u64 y, .int .i64 0], .bool true]) ?_ rfl ?_
    · rw [results_cell_tmp rfl]; go_simp
    · exact ⟨rfl, ((Upd.refl _ _).alloc _).drew⟩)
set_option maxRecDepth 100000 in
set_option maxHeartbeats 1000000 in
theorem ref_ValueOf3 (x : Nat) (v : Value) (w : World) (hW : WordsR w v [x]) (hM : x ≤ 1099511627777) : Calls Try.prog 66 #[.int .i64 3, v] w (RetU w (ofV (some (if x = 0 then zeroV else ⟨3, 0, 0, 0, ((x - 1 : Nat) : Int)⟩)))) := by
  obtain ⟨va, vc, b, off, rfl, hix, hb, hc, hx⟩ := words1 hW
  have hu : Upd (fun _ => False) w (w.alloc (.cells #[.int .i64 0, .int .i64 0, .int .u64 0, .int .u64 0, .int .i64 0] 26)) := (Upd.refl _ _).alloc _
  have hB := Lib.hid (Blk.new w [.int .i64 0, .int .i64 0, .int .u64 0, .int .u64 0, .int .i64 0] 26)
  have hc0 := (hu.none.cell (p := ⟨b, off, none⟩) hb).trans hc
  have h1 := Lib.hid value_Nil
  by_cases h0 : x = 0
  · subst h0
    rw [if_pos rfl]
    clear hW hM hx
    have hc0 : (w.alloc (.cells #[.int .i64 0, .int .i64 0, .int .u64 0, .int .u64 0, .int .i64 0] 26)).cell? ⟨b, off, none⟩ = some (.int .u64 0) := hc0
    have Hhu := Lib.hid hu; clear hu
    go_enter Try.func66, Try.ntmps66
    go_wp2
    refine bodyPost_ret (v := .tuple #[.agg #[.int .i64 0, .int .i64 0, .int .u64 0, .int .u64 0, .int .i64 0], .bool true]) ?_ rfl ?_
    · rw [results_cell_tmp rfl]; go_simp
    · exact ⟨rfl, (Upd.refl _ _).alloc _⟩
  · rw [if_neg h0]
    have e0 : ((x : Int) == 0) = false := by rw [beq_eq_false_iff_ne]; omega
    have e1 : (x : Int) ≤ 1099511627777 := by omega
    have e2 : (1 : Int) ≤ x := by omega
    rw [show ((x - 1 : Nat) : Int) = (x : Int) - 1 from by omega]
    have h2 := Lib.hid (value_Ref ((x : Int) - 1))
    clear hW hM hx h0
    have Hhu := Lib.hid hu; clear hu
    go_enter Try.func66, Try.ntmps66
    go_wp2
    refine bodyPost_ret (v := .tuple #[.agg #[.int .i64 3, .int .i64 0, .int .u64 0, .int .u64 0, .int .i64 ((x : Int) - 1)], .bool true]) ?_ rfl ?_
    · rw [results_cell_tmp rfl]; go_simp
    · exact ⟨rfl, (Upd.refl _ _).alloc _⟩
set_option maxRecDepth 100000 in
set_option maxHeartbeats 1000000 in
theorem ref_ValueOf3n (x : Nat) (v : Value) (w : World) (hW : WordsR w v [x]) (hM : ¬ x ≤ 1099511627777) : Calls Try.prog 66 #[.int .i64 3, v] w (RetU w (ofV none)) := by
  obtain ⟨va, vc, b, off, rfl, hix, hb, hc, hx⟩ := words1 hW
  have hu : Upd (fun _ => False) w (w.alloc (.cells #[.int .i64 0, .int .i64 0, .int .u64 0, .int .u64 0, .int .i64 0] 26)) := (Upd.refl _ _).alloc _
  have hB := Lib.hid (Blk.new w [.int .i64 0, .int .i64 0, .int .u64 0, .int .u64 0, .int .i64 0] 26)
  have hc0 := (hu.none.cell (p := ⟨b, off, none⟩) hb).trans hc
  have e0 : ((x : Int) == 0) = false := by rw [beq_eq_false_iff_ne]; omega
  have e1 : ¬ (x : Int) ≤ 1099511627777 := by omega
  clear hW hM hx
  have Hhu := Lib.hid hu; clear hu
  go_enter Try.func66, Try.ntmps66
  go_wp2
  refine bodyPost_ret (v := .tuple #[.agg #[.int .i64 0, .int .i64 0, .int .u64 0, .int .u64 0, .int .i64 0], .bool false]) ?_ rfl ?_
  · rw [results_cell_tmp rfl]; go_simp
  · exact ⟨rfl, Hhu.out⟩
set_option maxRecDepth 100000 in
set_option maxHeartbeats 1000000 in
theorem ref_ValueOfn (k : Int) (n : Nat) (va : Option Addr) (vc : Nat) (w : World) (hn : (n : Int) ≤ 9223372036854775807) (g1 : ¬ (k = 1 ∧ n = 1)) (g2 : ¬ (k = 2 ∧ n = 2)) (g3 : ¬ (k = 3 ∧ n = 1)) : Calls Try.prog 66 #[.int .i64 k, .slice va n vc] w (RetU w (ofV none)) := by
  have hu : Upd (fun _ => False) w (w.alloc (.cells #[.int .i64 0, .int .i64 0, .int .u64 0, .int .u64 0, .int .i64 0] 26)) := (Upd.refl _ _).alloc _
  have hB := Lib.hid (Blk.new w [.int .i64 0, .int .i64 0, .int .u64 0, .int .u64 0, .int .i64 0] 26)
  have Hhu := Lib.hid hu; clear hu
  by_cases k1 : k = 1
  · subst k1
    have e1 : ((n : Int) == 1) = false := by rw [beq_eq_false_iff_ne]; omega
    have e2 : ¬ n = 1 := by omega
    clear g1 g2 g3
    go_enter Try.func66, Try.ntmps66
    go_wp2
    refine bodyPost_ret (v := .tuple #[.agg #[.int .i64 0, .int .i64 0, .int .u64 0, .int .u64 0, .int .i64 0], .bool false]) ?_ rfl ?_
    · rw [results_cell_tmp rfl]; go_simp
    · exact ⟨rfl, Hhu.out⟩
  · by_cases k2 : k = 2
    · subst k2
      have e1 : ((n : Int) == 2) = false := by rw [beq_eq_false_iff_ne]; omega
      have e2 : ¬ n = 2 := by omega
      clear g1 g2 g3 k1
      go_enter Try.func66, Try.ntmps66
      go_wp2
      refine bodyPost_ret (v := .tuple #[.agg #[.int .i64 0, .int .i64 0, .int .u64 0, .int .u64 0, .int .i64 0], .bool false]) ?_ rfl ?_
      · rw [results_cell_tmp rfl]; go_simp
      · exact ⟨rfl, Hhu.out⟩
    · by_cases k3 : k = 3
      · subst k3
        have e1 : ((n : Int) == 1) = false := by rw [beq_eq_false_iff_ne]; omega
        have e2 : ¬ n = 1 := by omega
        clear g1 g2 g3 k1 k2
        go_enter Try.func66, Try.ntmps66
        go_wp2
        refine bodyPost_ret (v := .tuple #[.agg #[.int .i64 0, .int .i64 0, .int .u64 0, .int .u64 0, .int .i64 0], .bool false]) ?_ rfl ?_
        · rw [results_cell_tmp rfl]; go_simp
        · exact ⟨rfl, Hhu.out⟩
      · have k1' : (k == 1) = false := by rw [beq_eq_false_iff_ne]; exact k1
        have k2' : (k == 2) = false := by rw [beq_eq_false_iff_ne]; exact k2
        have k3' : (k == 3) = false := by rw [beq_eq_false_iff_ne]; exact k3
        clear g1 g2 g3
        go_enter Try.func66, Try.ntmps66
        go_wp2
        refine bodyPost_ret (v := .tuple #[.agg #[.int .i64 0, .int .i64 0, .int .u64 0, .int .u64 0, .int .i64 0], .bool false]) ?_ rfl ?_
        · rw [results_cell_tmp rfl]; go_simp
        · first
            | exact ⟨rfl, Hhu.out⟩
            | exact ⟨rfl, (Upd.refl _ _).alloc _⟩
            | exact ⟨rfl, ((Upd.refl _ _).alloc _).drew⟩
            | exact ⟨rfl, (Upd.refl _ _).drew.alloc _⟩
            | exact ⟨rfl, upd_set5 (Hhu.out.trans (by assumption)) (Nat.le_refl _) _ _ _ _ _⟩
            | exact ⟨rfl, upd_set5 (Hhu.out.drew.trans (by assumption)) (Nat.le_refl _) _ _ _ _ _⟩
            | exact ⟨rfl, upd_set5 Hhu.out.drew (Nat.le_refl _) _ _ _ _ _⟩
theorem ref_ValueOf (k : Int) (v : Value) (ws : List Nat) (w : World) (hW : WordsR w v ws) : Calls Try.prog 66 #[.int .i64 k, v] w (RetU w (ofV (vof k ws))) := by
  unfold vof
  by_cases g1 : k = 1 ∧ ws.length = 1
  · obtain ⟨rfl, hl⟩ := g1
    obtain ⟨x, rfl⟩ := List.length_eq_one_iff.1 hl
    exact ref_ValueOf1 x v w hW
  · rw [if_neg g1]
    by_cases g2 : k = 2 ∧ ws.length = 2
    · obtain ⟨rfl, hl⟩ := g2
      obtain ⟨x, y, rfl⟩ : ∃ x y, ws = [x, y] := by
        match ws, hl with
        | [x, y], _ => exact ⟨x, y, rfl⟩
      exact ref_ValueOf2 x y v w hW
    · rw [if_neg g2]
      by_cases g3 : k = 3 ∧ ws.length = 1
      · obtain ⟨rfl, hl⟩ := g3
        obtain ⟨x, rfl⟩ := List.length_eq_one_iff.1 hl
        by_cases hM : x ≤ 1099511627777
        · rw [if_pos ⟨rfl, rfl, hM⟩]
          exact ref_ValueOf3 x v w hW hM
        · rw [if_neg (fun h => hM h.2.2)]
          exact ref_ValueOf3n x v w hW hM
      · rw [if_neg (fun h => g3 ⟨h.1, h.2.1⟩)]
        obtain ⟨va, vc, rfl, hc1, hc2, -⟩ := hW.1
        exact ref_ValueOfn k ws.length va vc w (by unfold maxLen at hc2; omega) g1 g2 g3
end Go.Proofs.Ytcnbcidbbeadcaa
