/- The document's layout. -/
import Derived.Test.YthaicpjgmplgcaaRef20
namespace Go.Proofs.Ythaicpjgmplgcaa
open Go.RowKit Go.ChangeShapes Go.WideShapes
set_option linter.unusedVariables false

theorem ref_line (n : Nat) (hn : n ≤ 100000) (w : World) : Calls Try.prog 49 #[.int .i64 n] w (Same w (.int .i64 (((n + 7) / 8 * 8 : Nat) : Int))) := by
  have h1 : ((n : Int) + 8 - 1).tdiv 8 = (((n + 7) / 8 : Nat) : Int) := by
    rw [Int.tdiv_eq_ediv_of_nonneg (by omega)]
    omega
  have h2 : (n : Int) ≤ 100000 := by omega
  have h3 : ((((n + 7) / 8 : Nat) : Int)) ≤ 100000 := by omega
  have h4 : (((n + 7) / 8 * 8 : Nat) : Int) = (((n + 7) / 8 : Nat) : Int) * 8 := by omega
  rw [h4]
  generalize (((n + 7) / 8 : Nat)) = q at *
  go_enter Try.func49, Try.ntmps49
  go_wp2
  go_ret
  exact ⟨rfl, rfl⟩
theorem ref_size (i : Nat) (hi : i < 4) (w : World) : Calls Try.prog 50 #[.int .i64 (i : Int)] w (Same w (.int .i64 ((2 * 2 ^ i : Nat) : Int))) := by
  have h : i = 0 ∨ i = 1 ∨ i = 2 ∨ i = 3 := by omega
  rcases h with rfl | rfl | rfl | rfl
  · show Calls Try.prog 50 #[.int .i64 0] w (Same w (.int .i64 2))
    go_enter Try.func50, Try.ntmps50
    go_wp2
    go_ret
    exact ⟨rfl, rfl⟩
  · show Calls Try.prog 50 #[.int .i64 1] w (Same w (.int .i64 4))
    go_enter Try.func50, Try.ntmps50
    go_wp2
    go_ret
    exact ⟨rfl, rfl⟩
  · show Calls Try.prog 50 #[.int .i64 2] w (Same w (.int .i64 8))
    go_enter Try.func50, Try.ntmps50
    go_wp2
    go_ret
    exact ⟨rfl, rfl⟩
  · show Calls Try.prog 50 #[.int .i64 3] w (Same w (.int .i64 16))
    go_enter Try.func50, Try.ntmps50
    go_wp2
    go_ret
    exact ⟨rfl, rfl⟩

def RlPost (w : World) (N : Nat) (e : Ending) (w' : World) : Prop :=
  ∃ R, e = .returned (.pointer (some ⟨R, 0, none⟩)) ∧ IsRl w' R N ∧ w.heap.size ≤ R ∧ Upd (fun _ => False) w w'

set_option maxRecDepth 100000 in
set_option maxHeartbeats 2000000 in
theorem ref_Lay (a : Option Addr) (c : Nat) (n0 n1 n2 n3 : Nat) (h0 : n0 ≤ 40) (h1 : n1 ≤ 40) (h2 : n2 ≤ 40) (h3 : n3 ≤ 40) (w : World) :
    Calls Try.prog 15 #[cfgV (.slice a 1 c) n0 n1 n2 n3] w (RlPost w (sumN n0 n1 n2 n3)) := by
  unfold cfgV
  have i0 : (n0 : Int) ≤ 40 := by omega
  have i1 : (n1 : Int) ≤ 40 := by omega
  have i2 : (n2 : Int) ≤ 40 := by omega
  have i3 : (n3 : Int) ≤ 40 := by omega
  have ix0 : ∀ w, (Instr.index 22 (.agg #[.int .i64 n0, .int .i64 n1, .int .i64 n2, .int .i64 n3]) (.int .i64 0)).run Try.prog w = .ok (.int .i64 n0) w := fun _ => by kernel_rfl
  have ix1 : ∀ w, (Instr.index 22 (.agg #[.int .i64 n0, .int .i64 n1, .int .i64 n2, .int .i64 n3]) (.int .i64 1)).run Try.prog w = .ok (.int .i64 n1) w := fun _ => by kernel_rfl
  have ix2 : ∀ w, (Instr.index 22 (.agg #[.int .i64 n0, .int .i64 n1, .int .i64 n2, .int .i64 n3]) (.int .i64 2)).run Try.prog w = .ok (.int .i64 n2) w := fun _ => by kernel_rfl
  have ix3 : ∀ w, (Instr.index 22 (.agg #[.int .i64 n0, .int .i64 n1, .int .i64 n2, .int .i64 n3]) (.int .i64 3)).run Try.prog w = .ok (.int .i64 n3) w := fun _ => by kernel_rfl
  have s0 : ∀ w, Calls Try.prog 50 #[.int .i64 0] w (Same w (.int .i64 2)) := ref_size 0 (by decide)
  have s1 : ∀ w, Calls Try.prog 50 #[.int .i64 1] w (Same w (.int .i64 4)) := ref_size 1 (by decide)
  have s2 : ∀ w, Calls Try.prog 50 #[.int .i64 2] w (Same w (.int .i64 8)) := ref_size 2 (by decide)
  have s3 : ∀ w, Calls Try.prog 50 #[.int .i64 3] w (Same w (.int .i64 16)) := ref_size 3 (by decide)
  have l1 : ∀ w, Calls Try.prog 49 #[.int .i64 10] w (Same w (.int .i64 16)) := ref_line 10 (by omega)
  have l2 : ∀ w, Calls Try.prog 49 #[.int .i64 17] w (Same w (.int .i64 24)) := ref_line 17 (by omega)
  have hw17 : IntKind.i64.wrap 17 = 17 := by kernel_rfl
  have Hs0 := Lib.hid s0; clear s0
  have Hs1 := Lib.hid s1; clear s1
  have Hs2 := Lib.hid s2; clear s2
  have Hs3 := Lib.hid s3; clear s3
  have Hl1 := Lib.hid l1; clear l1
  have Hl2 := Lib.hid l2; clear l2
  go_enter Try.func15, Try.ntmps15
  go_wp2_with (go_at_call 49; (with_reducible refine (Hl1.out _).mono ?_); rintro e w2 ⟨rfl, rfl⟩)
  refine wp_region_st 8 (by kernel_rfl) (by kernel_rfl) ?_
  simp only [List.take_succ_cons, List.take_zero, List.drop_succ_cons, List.drop_zero]
  repeat (first | still_step | fail)
  refine wpStill_nil ?_
  go_wp2_with fail
  refine wp_hide (fun Q2 hQ2 => ?_)
  go_region_held3 (fun w' => w'.cell? ⟨w.heap.size + 1, 9, none⟩ = some (.int .i64 17) ∧ w'.cell? ⟨w.heap.size, 6, none⟩ = some (.int .i64 0))
    (((try go_split_ands); exact ⟨by simp, by simp⟩))
    (((try go_split_ands); (go_at_call 49; (with_reducible refine (Hl2.out _).mono ?_); rintro e w2 ⟨rfl, rfl⟩)))
  rw [hQ2.out]
  go_wp2_with fail
  go_loopw [44, 4] (fun i cc wr => ∃ q : Nat, i = .int .i64 q ∧ ((q = 0 ∧ cc = .int .i64 (0) ∧ wr = ((w.alloc (Obj.cells #[Value.slice a 1 c, Value.int IntKind.i64 ↑n0, Value.int IntKind.i64 ↑n1, Value.int IntKind.i64 ↑n2, Value.int IntKind.i64 ↑n3, Value.int IntKind.i64 1, Value.int IntKind.i64 0, Value.int IntKind.i64 40] 26)).alloc (Obj.cells #[Value.slice a 1 c, Value.int IntKind.i64 ↑n0, Value.int IntKind.i64 ↑n1, Value.int IntKind.i64 ↑n2, Value.int IntKind.i64 ↑n3, Value.int IntKind.i64 1, Value.int IntKind.i64 0, Value.int IntKind.i64 40, Value.int IntKind.i64 16, Value.int IntKind.i64 17, Value.int IntKind.i64 24, Value.int IntKind.i64 0, Value.int IntKind.i64 0, Value.int IntKind.i64 0, Value.int IntKind.i64 (0), Value.int IntKind.i64 (0), Value.int IntKind.i64 (0), Value.int IntKind.i64 (0), Value.int IntKind.i64 (0), Value.int IntKind.i64 0] 73)).drew.drew) ∨ (q = 1 ∧ cc = .int .i64 ((n0 : Int)) ∧ wr = ((w.alloc (Obj.cells #[Value.slice a 1 c, Value.int IntKind.i64 ↑n0, Value.int IntKind.i64 ↑n1, Value.int IntKind.i64 ↑n2, Value.int IntKind.i64 ↑n3, Value.int IntKind.i64 1, Value.int IntKind.i64 0, Value.int IntKind.i64 40] 26)).alloc (Obj.cells #[Value.slice a 1 c, Value.int IntKind.i64 ↑n0, Value.int IntKind.i64 ↑n1, Value.int IntKind.i64 ↑n2, Value.int IntKind.i64 ↑n3, Value.int IntKind.i64 1, Value.int IntKind.i64 0, Value.int IntKind.i64 40, Value.int IntKind.i64 16, Value.int IntKind.i64 17, Value.int IntKind.i64 24, Value.int IntKind.i64 0, Value.int IntKind.i64 0, Value.int IntKind.i64 0, Value.int IntKind.i64 (0), Value.int IntKind.i64 (0), Value.int IntKind.i64 (0), Value.int IntKind.i64 (0), Value.int IntKind.i64 (0), Value.int IntKind.i64 0] 73)).drew.drew) ∨ (q = 2 ∧ cc = .int .i64 ((n0 : Int) + n1) ∧ wr = ((w.alloc (Obj.cells #[Value.slice a 1 c, Value.int IntKind.i64 ↑n0, Value.int IntKind.i64 ↑n1, Value.int IntKind.i64 ↑n2, Value.int IntKind.i64 ↑n3, Value.int IntKind.i64 1, Value.int IntKind.i64 0, Value.int IntKind.i64 40] 26)).alloc (Obj.cells #[Value.slice a 1 c, Value.int IntKind.i64 ↑n0, Value.int IntKind.i64 ↑n1, Value.int IntKind.i64 ↑n2, Value.int IntKind.i64 ↑n3, Value.int IntKind.i64 1, Value.int IntKind.i64 0, Value.int IntKind.i64 40, Value.int IntKind.i64 16, Value.int IntKind.i64 17, Value.int IntKind.i64 24, Value.int IntKind.i64 0, Value.int IntKind.i64 0, Value.int IntKind.i64 0, Value.int IntKind.i64 (0), Value.int IntKind.i64 ((n0 : Int)), Value.int IntKind.i64 (0), Value.int IntKind.i64 (0), Value.int IntKind.i64 (0), Value.int IntKind.i64 0] 73)).drew.drew) ∨ (q = 3 ∧ cc = .int .i64 ((n0 : Int) + n1 + n2) ∧ wr = ((w.alloc (Obj.cells #[Value.slice a 1 c, Value.int IntKind.i64 ↑n0, Value.int IntKind.i64 ↑n1, Value.int IntKind.i64 ↑n2, Value.int IntKind.i64 ↑n3, Value.int IntKind.i64 1, Value.int IntKind.i64 0, Value.int IntKind.i64 40] 26)).alloc (Obj.cells #[Value.slice a 1 c, Value.int IntKind.i64 ↑n0, Value.int IntKind.i64 ↑n1, Value.int IntKind.i64 ↑n2, Value.int IntKind.i64 ↑n3, Value.int IntKind.i64 1, Value.int IntKind.i64 0, Value.int IntKind.i64 40, Value.int IntKind.i64 16, Value.int IntKind.i64 17, Value.int IntKind.i64 24, Value.int IntKind.i64 0, Value.int IntKind.i64 0, Value.int IntKind.i64 0, Value.int IntKind.i64 (0), Value.int IntKind.i64 ((n0 : Int)), Value.int IntKind.i64 ((n0 : Int) + n1), Value.int IntKind.i64 (0), Value.int IntKind.i64 (0), Value.int IntKind.i64 0] 73)).drew.drew) ∨ (q = 4 ∧ cc = .int .i64 ((n0 : Int) + n1 + n2 + n3) ∧ wr = ((w.alloc (Obj.cells #[Value.slice a 1 c, Value.int IntKind.i64 ↑n0, Value.int IntKind.i64 ↑n1, Value.int IntKind.i64 ↑n2, Value.int IntKind.i64 ↑n3, Value.int IntKind.i64 1, Value.int IntKind.i64 0, Value.int IntKind.i64 40] 26)).alloc (Obj.cells #[Value.slice a 1 c, Value.int IntKind.i64 ↑n0, Value.int IntKind.i64 ↑n1, Value.int IntKind.i64 ↑n2, Value.int IntKind.i64 ↑n3, Value.int IntKind.i64 1, Value.int IntKind.i64 0, Value.int IntKind.i64 40, Value.int IntKind.i64 16, Value.int IntKind.i64 17, Value.int IntKind.i64 24, Value.int IntKind.i64 0, Value.int IntKind.i64 0, Value.int IntKind.i64 0, Value.int IntKind.i64 (0), Value.int IntKind.i64 ((n0 : Int)), Value.int IntKind.i64 ((n0 : Int) + n1), Value.int IntKind.i64 ((n0 : Int) + n1 + n2), Value.int IntKind.i64 (0), Value.int IntKind.i64 0] 73)).drew.drew))) (fun i _ _ => (4 - intOf i).toNat)
  case atStart => exact ⟨0, rfl, Or.inl ⟨rfl, rfl, rfl⟩⟩
  case round =>
    obtain ⟨q, rfl, hq⟩ := hrel
    rcases hq with ⟨rfl, rfl, rfl⟩ | ⟨rfl, rfl, rfl⟩ | ⟨rfl, rfl, rfl⟩ | ⟨rfl, rfl, rfl⟩ | ⟨rfl, rfl, rfl⟩
    · rw [show ((0 : Nat) : Int) = 0 from rfl]
      go_wp2_with fail
      go_roundw
      case rel => exact ⟨1, rfl, by simp⟩
      case measure => simp [intOf]
    · rw [show ((1 : Nat) : Int) = 1 from rfl]
      go_wp2_with fail
      go_roundw
      case rel => exact ⟨2, rfl, by simp⟩
      case measure => simp [intOf]
    · rw [show ((2 : Nat) : Int) = 2 from rfl]
      go_wp2_with fail
      go_roundw
      case rel => exact ⟨3, rfl, by simp⟩
      case measure => simp [intOf]
    · rw [show ((3 : Nat) : Int) = 3 from rfl]
      go_wp2_with fail
      go_roundw
      case rel => exact ⟨4, rfl, by simp⟩
      case measure => simp [intOf]
    · rw [show ((4 : Nat) : Int) = 4 from rfl]
      obtain ⟨C, hC⟩ : ∃ C : Nat, (C : Int) = (n0 : Int) + n1 + n2 + n3 := ⟨n0 + n1 + n2 + n3, by omega⟩
      have hCs : sumN n0 n1 n2 n3 = C := by unfold sumN; omega
      rw [hCs]
      have hC2 : (C : Int) ≤ 160 := by omega
      have hD : ((C : Int) + 63).tdiv 64 = (((C + 63) / 64 : Nat) : Int) := by
        rw [Int.tdiv_eq_ediv_of_nonneg (by omega)]
        omega
      obtain ⟨D, hDD⟩ : ∃ D, (C + 63) / 64 = D := ⟨_, rfl⟩
      have hD2 : D ≤ 4 := by omega
      rw [hDD] at hD
      have l3 := ref_line (24 + D) (by omega)
      obtain ⟨E, hE⟩ : ∃ E, (24 + D + 7) / 8 * 8 = E := ⟨_, rfl⟩
      have hE2 : E ≤ 40 := by omega
      rw [hE, show ((24 + D : Nat) : Int) = 24 + (D : Int) by simp] at l3
      have hD3 : (D : Int) ≤ 4 := by omega
      have hE3 : (E : Int) ≤ 40 := by omega
      clear hDD hE
      have HCs := Lib.hid hCs
      clear hCs
      rw [← hC]
      clear hC
      have Hl3 := Lib.hid l3; clear l3
      go_wp2_with (go_at_call 49; (with_reducible refine (Hl3.out _).mono ?_); rintro e w2 ⟨rfl, rfl⟩)
      refine wp_region_st 8 (by kernel_rfl) (by kernel_rfl) ?_
      simp only [List.take_succ_cons, List.take_zero, List.drop_succ_cons, List.drop_zero]
      repeat (first | still_step | fail)
      refine wpStill_nil ?_
      go_upto_block 2 with fail
      have hb0 := Blk.new w [.slice a 1 c, .int .i64 n0, .int .i64 n1, .int .i64 n2, .int .i64 n3, .int .i64 1, .int .i64 0, .int .i64 40] 26
      have hu0 : Upd (fun _ => False) w (w.alloc (.cells [.slice a 1 c, .int .i64 n0, .int .i64 n1, .int .i64 n2, .int .i64 n3, .int .i64 1, .int .i64 0, .int .i64 40].toArray 26)) := (Upd.refl _ _).alloc _
      have hz0 : (w.alloc (.cells [.slice a 1 c, .int .i64 n0, .int .i64 n1, .int .i64 n2, .int .i64 n3, .int .i64 1, .int .i64 0, .int .i64 40].toArray 26)).heap.size = w.heap.size + 1 := by simp
      have hb1 := Blk.new (w.alloc (.cells [.slice a 1 c, .int .i64 n0, .int .i64 n1, .int .i64 n2, .int .i64 n3, .int .i64 1, .int .i64 0, .int .i64 40].toArray 26)) [.slice a 1 c, .int .i64 n0, .int .i64 n1, .int .i64 n2, .int .i64 n3, .int .i64 1, .int .i64 0, .int .i64 40, .int .i64 16, .int .i64 17, .int .i64 24, .int .i64 E, .int .i64 ((E : Int) + 40), .int .i64 ((E : Int) + 40), .int .i64 0, .int .i64 n0, .int .i64 ((n0 : Int) + n1), .int .i64 ((n0 : Int) + n1 + n2), .int .i64 C, .int .i64 0] 73
      rw [hz0] at hb1
      have hb1 := hb1.drew.drew.drew
      have hu1 := ((((hu0.alloc (.cells [.slice a 1 c, .int .i64 n0, .int .i64 n1, .int .i64 n2, .int .i64 n3, .int .i64 1, .int .i64 0, .int .i64 40, .int .i64 16, .int .i64 17, .int .i64 24, .int .i64 E, .int .i64 ((E : Int) + 40), .int .i64 ((E : Int) + 40), .int .i64 0, .int .i64 n0, .int .i64 ((n0 : Int) + n1), .int .i64 ((n0 : Int) + n1 + n2), .int .i64 C, .int .i64 0].toArray 73)).drew).drew).drew)
      clear hb0 hu0 hz0
      have hb1 : Blk (((w.alloc (Obj.cells #[Value.slice a 1 c, Value.int IntKind.i64 ↑n0, Value.int IntKind.i64 ↑n1, Value.int IntKind.i64 ↑n2, Value.int IntKind.i64 ↑n3, Value.int IntKind.i64 1, Value.int IntKind.i64 0, Value.int IntKind.i64 40] 26)).alloc (Obj.cells #[Value.slice a 1 c, Value.int IntKind.i64 ↑n0, Value.int IntKind.i64 ↑n1, Value.int IntKind.i64 ↑n2, Value.int IntKind.i64 ↑n3, Value.int IntKind.i64 1, Value.int IntKind.i64 0, Value.int IntKind.i64 40, Value.int IntKind.i64 16, Value.int IntKind.i64 17, Value.int IntKind.i64 24, Value.int IntKind.i64 ↑E, Value.int IntKind.i64 (↑E + 40), Value.int IntKind.i64 (↑E + 40), Value.int IntKind.i64 0, Value.int IntKind.i64 ↑n0, Value.int IntKind.i64 (↑n0 + ↑n1), Value.int IntKind.i64 (↑n0 + ↑n1 + ↑n2), Value.int IntKind.i64 ↑C, Value.int IntKind.i64 0] 73)).drew.drew.drew) (w.heap.size + 1) [.slice a 1 c, .int .i64 n0, .int .i64 n1, .int .i64 n2, .int .i64 n3, .int .i64 1, .int .i64 0, .int .i64 40, .int .i64 16, .int .i64 17, .int .i64 24, .int .i64 E, .int .i64 ((E : Int) + 40), .int .i64 ((E : Int) + 40), .int .i64 0, .int .i64 n0, .int .i64 ((n0 : Int) + n1), .int .i64 ((n0 : Int) + n1 + n2), .int .i64 C, .int .i64 0] 73 := hb1
      have hu1 : Upd (fun _ => False) w (((w.alloc (Obj.cells #[Value.slice a 1 c, Value.int IntKind.i64 ↑n0, Value.int IntKind.i64 ↑n1, Value.int IntKind.i64 ↑n2, Value.int IntKind.i64 ↑n3, Value.int IntKind.i64 1, Value.int IntKind.i64 0, Value.int IntKind.i64 40] 26)).alloc (Obj.cells #[Value.slice a 1 c, Value.int IntKind.i64 ↑n0, Value.int IntKind.i64 ↑n1, Value.int IntKind.i64 ↑n2, Value.int IntKind.i64 ↑n3, Value.int IntKind.i64 1, Value.int IntKind.i64 0, Value.int IntKind.i64 40, Value.int IntKind.i64 16, Value.int IntKind.i64 17, Value.int IntKind.i64 24, Value.int IntKind.i64 ↑E, Value.int IntKind.i64 (↑E + 40), Value.int IntKind.i64 (↑E + 40), Value.int IntKind.i64 0, Value.int IntKind.i64 ↑n0, Value.int IntKind.i64 (↑n0 + ↑n1), Value.int IntKind.i64 (↑n0 + ↑n1 + ↑n2), Value.int IntKind.i64 ↑C, Value.int IntKind.i64 0] 73)).drew.drew.drew) := hu1
      generalize ((w.alloc (Obj.cells #[Value.slice a 1 c, Value.int IntKind.i64 ↑n0, Value.int IntKind.i64 ↑n1, Value.int IntKind.i64 ↑n2, Value.int IntKind.i64 ↑n3, Value.int IntKind.i64 1, Value.int IntKind.i64 0, Value.int IntKind.i64 40] 26)).alloc (Obj.cells #[Value.slice a 1 c, Value.int IntKind.i64 ↑n0, Value.int IntKind.i64 ↑n1, Value.int IntKind.i64 ↑n2, Value.int IntKind.i64 ↑n3, Value.int IntKind.i64 1, Value.int IntKind.i64 0, Value.int IntKind.i64 40, Value.int IntKind.i64 16, Value.int IntKind.i64 17, Value.int IntKind.i64 24, Value.int IntKind.i64 ↑E, Value.int IntKind.i64 (↑E + 40), Value.int IntKind.i64 (↑E + 40), Value.int IntKind.i64 0, Value.int IntKind.i64 ↑n0, Value.int IntKind.i64 (↑n0 + ↑n1), Value.int IntKind.i64 (↑n0 + ↑n1 + ↑n2), Value.int IntKind.i64 ↑C, Value.int IntKind.i64 0] 73)).drew.drew.drew = W9 at *
      obtain ⟨R, hR⟩ : ∃ R, R = w.heap.size + 1 := ⟨_, rfl⟩
      rw [← hR] at hb1 ⊢
      have c19 := hb1.cell 19 rfl
      have f19 := hb1.free 19
      have Hhb1 := Lib.hid hb1; clear hb1
      have Hhu1 := Lib.hid hu1; clear hu1
      have HhR := Lib.hid hR; clear hR
      go_wp2_with fail
      go_loop [98, 7] (fun i t => ∃ q : Nat, i = .int .i64 q ∧ ((q = 0 ∧ t = .int .i64 ((E : Int) + 40)) ∨ (q = 1 ∧ t = .int .i64 ((E : Int) + 40 + (n0 : Int) * 2)) ∨ (q = 2 ∧ t = .int .i64 ((E : Int) + 40 + (n0 : Int) * 2 + (n1 : Int) * 4)) ∨ (q = 3 ∧ t = .int .i64 ((E : Int) + 40 + (n0 : Int) * 2 + (n1 : Int) * 4 + (n2 : Int) * 8)) ∨ (q = 4 ∧ t = .int .i64 ((E : Int) + 40 + (n0 : Int) * 2 + (n1 : Int) * 4 + (n2 : Int) * 8 + (n3 : Int) * 16)))) (fun i _ => (4 - intOf i).toNat)
      case atStart => exact ⟨0, rfl, Or.inl ⟨rfl, rfl⟩⟩
      case round =>
        obtain ⟨q, rfl, hq⟩ := hrel
        rcases hq with ⟨rfl, rfl⟩ | ⟨rfl, rfl⟩ | ⟨rfl, rfl⟩ | ⟨rfl, rfl⟩ | ⟨rfl, rfl⟩
        · rw [show ((0 : Nat) : Int) = 0 from rfl]
          go_wp2_with (go_at_call 50; (with_reducible refine (Hs0.out _).mono ?_); rintro e w2 ⟨rfl, rfl⟩)
          go_round
          case rel => exact ⟨1, rfl, by simp⟩
          case measure => simp [intOf]
        · rw [show ((1 : Nat) : Int) = 1 from rfl]
          go_wp2_with (go_at_call 50; (with_reducible refine (Hs1.out _).mono ?_); rintro e w2 ⟨rfl, rfl⟩)
          go_round
          case rel => exact ⟨2, rfl, by simp⟩
          case measure => simp [intOf]
        · rw [show ((2 : Nat) : Int) = 2 from rfl]
          go_wp2_with (go_at_call 50; (with_reducible refine (Hs2.out _).mono ?_); rintro e w2 ⟨rfl, rfl⟩)
          go_round
          case rel => exact ⟨3, rfl, by simp⟩
          case measure => simp [intOf]
        · rw [show ((3 : Nat) : Int) = 3 from rfl]
          go_wp2_with (go_at_call 50; (with_reducible refine (Hs3.out _).mono ?_); rintro e w2 ⟨rfl, rfl⟩)
          go_round
          case rel => exact ⟨4, rfl, by simp⟩
          case measure => simp [intOf]
        · rw [show ((4 : Nat) : Int) = 4 from rfl]
          obtain ⟨A, hA⟩ : ∃ A : Nat, (A : Int) = (E : Int) + 40 + (n0 : Int) * 2 + (n1 : Int) * 4 + (n2 : Int) * 8 + (n3 : Int) * 16 := ⟨E + 40 + n0 * 2 + n1 * 4 + n2 * 8 + n3 * 16, by omega⟩
          have l4 := ref_line A (by omega)
          rw [← hA]
          generalize (A + 7) / 8 * 8 = F at *
          clear hA
          have Hl4 := Lib.hid l4; clear l4
          go_wp2_with (go_at_call 49; (with_reducible refine (Hl4.out _).mono ?_); rintro e w2 ⟨rfl, rfl⟩)
          go_ret
          exact ⟨R, rfl, ⟨_, Hhb1.out.set 19 (.int .i64 F), by rw [HCs.out]; rfl⟩, by have := HhR.out; omega, Hhu1.out.setCell (fun h => absurd h (by show ¬ R < w.heap.size; have := HhR.out; omega)) _⟩
end Go.Proofs.Ythaicpjgmplgcaa
