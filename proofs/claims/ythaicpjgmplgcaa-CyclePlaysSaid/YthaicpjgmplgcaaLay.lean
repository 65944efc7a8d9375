/- Package layout, at a config of one kind: its functions' contracts. -/
import Derived.Test.YthaicpjgmplgcaaKind
import Derived.Test.YthaicpjgmplgcaaMarkCom
import Derived.Test.YthaicpjgmplgcaaLater
import Derived.Deep.RegionHeld3
import Derived.Deep.CutBlock
import Derived.Deep.DeepCutAuto
namespace Go.Proofs.Ythaicpjgmplgcaa
open Go.RowKit Go.ChangeShapes Go.WideShapes
set_option linter.unusedVariables false

theorem lay_within (n m : Int) (w : World) : Calls Try.prog 73 #[.int .i64 n, .int .i64 m] w (Same w (.bool (decide (0 ≤ n ∧ n ≤ m)))) := by
  have e1 : decide (0 ≤ n ∧ n ≤ m) = (decide (0 ≤ n) && decide (n ≤ m)) := by
    rw [Bool.eq_iff_iff]
    simp
  rw [e1]
  by_cases h0 : 0 ≤ n
  · by_cases h1 : n ≤ m
    · go_enter Try.func73, Try.ntmps73
      go_wp2
      go_ret
      exact ⟨by simp [h0, h1], rfl⟩
    · go_enter Try.func73, Try.ntmps73
      go_wp2
      go_ret
      exact ⟨by simp [h1], rfl⟩
  · go_enter Try.func73, Try.ntmps73
    go_wp2
    go_ret
    exact ⟨by simp; omega, rfl⟩
theorem lay_size0 (w : World) : Calls Try.prog 75 #[.int .i64 0] w (Same w (.int .i64 2)) := by
  go_enter Try.func75, Try.ntmps75
  go_wp2
  go_ret
  exact ⟨rfl, rfl⟩
theorem lay_size1 (w : World) : Calls Try.prog 75 #[.int .i64 1] w (Same w (.int .i64 4)) := by
  go_enter Try.func75, Try.ntmps75
  go_wp2
  go_ret
  exact ⟨rfl, rfl⟩
theorem lay_size2 (w : World) : Calls Try.prog 75 #[.int .i64 2] w (Same w (.int .i64 8)) := by
  go_enter Try.func75, Try.ntmps75
  go_wp2
  go_ret
  exact ⟨rfl, rfl⟩
theorem lay_size3 (w : World) : Calls Try.prog 75 #[.int .i64 3] w (Same w (.int .i64 16)) := by
  go_enter Try.func75, Try.ntmps75
  go_wp2
  go_ret
  exact ⟨rfl, rfl⟩
theorem lay_line (n : Nat) (hn : n ≤ 100000) (w : World) : Calls Try.prog 76 #[.int .i64 n] w (Same w (.int .i64 (((n + 7) / 8 * 8 : Nat) : Int))) := by
  have h1 : ((n : Int) + 8 - 1).tdiv 8 = (((n + 7) / 8 : Nat) : Int) := by
    rw [Int.tdiv_eq_ediv_of_nonneg (by omega)]
    omega
  have h2 : (n : Int) ≤ 100000 := by omega
  have h3 : ((((n + 7) / 8 : Nat) : Int)) ≤ 100000 := by omega
  have h4 : (((n + 7) / 8 * 8 : Nat) : Int) = (((n + 7) / 8 : Nat) : Int) * 8 := by omega
  rw [h4]
  generalize (((n + 7) / 8 : Nat)) = q at *
  go_enter Try.func76, Try.ntmps76
  go_wp2
  go_ret
  exact ⟨rfl, rfl⟩
theorem redo_need (w : World) : Calls Try.prog 74 #[.int .i64 16] w (Same w (.int .i64 40)) := by
  go_enter Try.func74, Try.ntmps74
  go_wp2
  go_ret
  exact ⟨rfl, rfl⟩

def cntN (n0 n1 n2 n3 : Nat) : Nat → Nat
  | 0 => 0
  | 1 => n0
  | 2 => n0 + n1
  | 3 => n0 + n1 + n2
  | _ => n0 + n1 + n2 + n3
def allN (n0 n1 n2 n3 : Nat) : Nat → Nat
  | 0 => 0
  | 1 => n0 * 2
  | 2 => n0 * 2 + n1 * 4
  | 3 => n0 * 2 + n1 * 4 + n2 * 8
  | _ => n0 * 2 + n1 * 4 + n2 * 8 + n3 * 16

/-- A config of one kind, and its own place. -/
def cfgL (v : Value) (n0 n1 n2 n3 : Nat) : List Value := [v, .int .i64 n0, .int .i64 n1, .int .i64 n2, .int .i64 n3, .int .i64 1, .int .i64 0, .int .i64 40]
def cfgV (v : Value) (n0 n1 n2 n3 : Nat) : Value := .agg #[v, .int .i64 n0, .int .i64 n1, .int .i64 n2, .int .i64 n3, .int .i64 1, .int .i64 0, .int .i64 40]
/-- A layout in block L. -/
def IsLay (w : World) (L : Nat) (n0 n1 n2 n3 : Nat) : Prop :=
  ∃ (v : Value) (r bi lo bl wo : Int), Blk w L (cfgL v n0 n1 n2 n3 ++ [.int .i64 r, .int .i64 bi, .int .i64 lo, .int .i64 bl, .int .i64 wo]) 110 ∧ 0 ≤ wo ∧ wo ≤ 65536
def PlacePost (w : World) (n0 n1 n2 n3 : Nat) (e : Ending) (w' : World) : Prop :=
  ∃ L, e = .returned (.pointer (some ⟨L, 0, none⟩)) ∧ IsLay w' L n0 n1 n2 n3 ∧ w.heap.size ≤ L ∧ Upd (fun _ => False) w w'

set_option maxRecDepth 100000 in
set_option maxHeartbeats 1000000 in
theorem lay_place (a : Option Addr) (c : Nat) (n0 n1 n2 n3 : Nat) (h0 : n0 ≤ 40) (h1 : n1 ≤ 40) (h2 : n2 ≤ 40) (h3 : n3 ≤ 40) (w : World) :
    Calls Try.prog 47 #[cfgV (.slice a 1 c) n0 n1 n2 n3] w (PlacePost w n0 n1 n2 n3) := by
  unfold cfgV
  have i0 : (n0 : Int) ≤ 40 := by omega
  have i1 : (n1 : Int) ≤ 40 := by omega
  have i2 : (n2 : Int) ≤ 40 := by omega
  have i3 : (n3 : Int) ≤ 40 := by omega
  have ix0 : ∀ w, (Instr.index 22 (.agg #[.int .i64 n0, .int .i64 n1, .int .i64 n2, .int .i64 n3]) (.int .i64 0)).run Try.prog w = .ok (.int .i64 n0) w := fun _ => by kernel_rfl
  have ix1 : ∀ w, (Instr.index 22 (.agg #[.int .i64 n0, .int .i64 n1, .int .i64 n2, .int .i64 n3]) (.int .i64 1)).run Try.prog w = .ok (.int .i64 n1) w := fun _ => by kernel_rfl
  have ix2 : ∀ w, (Instr.index 22 (.agg #[.int .i64 n0, .int .i64 n1, .int .i64 n2, .int .i64 n3]) (.int .i64 2)).run Try.prog w = .ok (.int .i64 n2) w := fun _ => by kernel_rfl
  have ix3 : ∀ w, (Instr.index 22 (.agg #[.int .i64 n0, .int .i64 n1, .int .i64 n2, .int .i64 n3]) (.int .i64 3)).run Try.prog w = .ok (.int .i64 n3) w := fun _ => by kernel_rfl
  have s0 := Lib.hid lay_size0
  have s1 := Lib.hid lay_size1
  have s2 := Lib.hid lay_size2
  have s3 := Lib.hid lay_size3
  go_enter Try.func47, Try.ntmps47
  go_wp2_with fail
  go_loop [13, 4, 5] (fun i c al => ∃ q : Nat, i = .int .i64 q ∧ q ≤ 4 ∧ c = .int .i64 (cntN n0 n1 n2 n3 q) ∧ al = .int .i64 (allN n0 n1 n2 n3 q)) (fun i _ _ => (4 - intOf i).toNat)
  case atStart => exact ⟨0, rfl, by omega, rfl, rfl⟩
  case round =>
    obtain ⟨q, rfl, hq, rfl, rfl⟩ := hrel
    have hq5 : q = 0 ∨ q = 1 ∨ q = 2 ∨ q = 3 ∨ q = 4 := by omega
    rcases hq5 with rfl | rfl | rfl | rfl | rfl
    · rw [show ((0 : Nat) : Int) = 0 from rfl, show ((cntN n0 n1 n2 n3 0 : Nat) : Int) = 0 from rfl, show ((allN n0 n1 n2 n3 0 : Nat) : Int) = 0 from rfl]
      go_wp2_with (go_at_call 75; (with_reducible refine (s0.out _).mono ?_); rintro e w2 ⟨rfl, rfl⟩)
      go_round
      case rel => exact ⟨1, rfl, by omega, by simp [cntN], by simp [allN]⟩
      case measure => simp [intOf]
    · rw [show ((1 : Nat) : Int) = 1 from rfl, show ((cntN n0 n1 n2 n3 1 : Nat) : Int) = n0 from rfl, show ((allN n0 n1 n2 n3 1 : Nat) : Int) = (n0 : Int) * 2 by simp [allN]]
      go_wp2_with (go_at_call 75; (with_reducible refine (s1.out _).mono ?_); rintro e w2 ⟨rfl, rfl⟩)
      go_round
      case rel => exact ⟨2, rfl, by omega, by simp [cntN], by simp [allN]⟩
      case measure => simp [intOf]
    · rw [show ((2 : Nat) : Int) = 2 from rfl, show ((cntN n0 n1 n2 n3 2 : Nat) : Int) = (n0 : Int) + n1 by simp [cntN], show ((allN n0 n1 n2 n3 2 : Nat) : Int) = (n0 : Int) * 2 + (n1 : Int) * 4 by simp [allN]]
      go_wp2_with (go_at_call 75; (with_reducible refine (s2.out _).mono ?_); rintro e w2 ⟨rfl, rfl⟩)
      go_round
      case rel => exact ⟨3, rfl, by omega, by simp [cntN], by simp [allN]⟩
      case measure => simp [intOf]
    · rw [show ((3 : Nat) : Int) = 3 from rfl, show ((cntN n0 n1 n2 n3 3 : Nat) : Int) = (n0 : Int) + n1 + n2 by simp [cntN], show ((allN n0 n1 n2 n3 3 : Nat) : Int) = (n0 : Int) * 2 + (n1 : Int) * 4 + (n2 : Int) * 8 by simp [allN]]
      go_wp2_with (go_at_call 75; (with_reducible refine (s3.out _).mono ?_); rintro e w2 ⟨rfl, rfl⟩)
      go_round
      case rel => exact ⟨4, rfl, by omega, by simp [cntN], by simp [allN]⟩
      case measure => simp [intOf]
    · rw [show ((4 : Nat) : Int) = 4 from rfl]
      obtain ⟨C, hC⟩ : ∃ C, cntN n0 n1 n2 n3 4 = C := ⟨_, rfl⟩
      obtain ⟨A, hA⟩ : ∃ A, allN n0 n1 n2 n3 4 = A := ⟨_, rfl⟩
      have hC2 : (C : Int) ≤ 160 := by rw [← hC]; simp [cntN]; omega
      have hA2 : (A : Int) ≤ 1200 := by rw [← hA]; simp [allN]; omega
      rw [hC, hA]
      clear hC hA s0 s1 s2 s3
      have l1 := lay_line 10 (by omega)
      have l2 := lay_line 17 (by omega)
      have l1 : ∀ w, Calls Try.prog 76 #[.int .i64 10] w (Same w (.int .i64 16)) := l1
      have l2 : ∀ w, Calls Try.prog 76 #[.int .i64 17] w (Same w (.int .i64 24)) := l2
      have hD : ((C : Int) + 64 - 1).tdiv 64 = (((C + 63) / 64 : Nat) : Int) := by
        rw [Int.tdiv_eq_ediv_of_nonneg (by omega)]
        omega
      obtain ⟨D, hDD⟩ : ∃ D, (C + 63) / 64 = D := ⟨_, rfl⟩
      have hD2 : D ≤ 4 := by omega
      rw [hDD] at hD
      have l3 := lay_line (24 + D) (by omega)
      obtain ⟨E, hE⟩ : ∃ E, (24 + D + 7) / 8 * 8 = E := ⟨_, rfl⟩
      have hE2 : E ≤ 40 := by omega
      rw [hE, show ((24 + D : Nat) : Int) = 24 + (D : Int) by simp] at l3
      have l4 := lay_line (E + 40 + A) (by omega)
      obtain ⟨F, hF⟩ : ∃ F, (E + 40 + A + 7) / 8 * 8 = F := ⟨_, rfl⟩
      have hF2 : F ≤ 65536 := by omega
      rw [hF, show ((E + 40 + A : Nat) : Int) = (E : Int) + 40 + (A : Int) by simp] at l4
      have hD3 : (D : Int) ≤ 4 := by omega
      have hE3 : (E : Int) ≤ 40 := by omega
      clear hDD hE hF
      have Hl1 := Lib.hid l1; clear l1
      have Hl2 := Lib.hid l2; clear l2
      have Hl3 := Lib.hid l3; clear l3
      have Hl4 := Lib.hid l4; clear l4
      go_wp2_with (go_at_call 76; first | ((with_reducible refine (Hl1.out _).mono ?_); rintro e w2 ⟨rfl, rfl⟩) | ((with_reducible refine (Hl2.out _).mono ?_); rintro e w2 ⟨rfl, rfl⟩) | ((with_reducible refine (Hl3.out _).mono ?_); rintro e w2 ⟨rfl, rfl⟩) | ((with_reducible refine (Hl4.out _).mono ?_); rintro e w2 ⟨rfl, rfl⟩))
      have hw17 : IntKind.i64.wrap 17 = 17 := by kernel_rfl
      refine wp_hide (fun Q2 hQ2 => ?_)
      go_region_held3 (fun w' => w'.cell? ⟨w.heap.size + 1, 8, none⟩ = some (.int .i64 16) ∧ w'.cell? ⟨w.heap.size, 5, none⟩ = some (.int .i64 1) ∧ w'.cell? ⟨w.heap.size, 6, none⟩ = some (.int .i64 0))
        (((try go_split_ands); exact ⟨by simp, by simp, by simp⟩))
        (((try go_split_ands); (go_at_call 76; (first | ((with_reducible refine (Hl1.out _).mono ?_); rintro e w2 ⟨rfl, rfl⟩) | ((with_reducible refine (Hl2.out _).mono ?_); rintro e w2 ⟨rfl, rfl⟩) | ((with_reducible refine (Hl3.out _).mono ?_); rintro e w2 ⟨rfl, rfl⟩) | ((with_reducible refine (Hl4.out _).mono ?_); rintro e w2 ⟨rfl, rfl⟩)))))
      rw [hQ2.out]
      go_wp2_with (go_at_call 76; (first | ((with_reducible refine (Hl1.out _).mono ?_); rintro e w2 ⟨rfl, rfl⟩) | ((with_reducible refine (Hl2.out _).mono ?_); rintro e w2 ⟨rfl, rfl⟩) | ((with_reducible refine (Hl3.out _).mono ?_); rintro e w2 ⟨rfl, rfl⟩) | ((with_reducible refine (Hl4.out _).mono ?_); rintro e w2 ⟨rfl, rfl⟩)))
      refine wp_region_st 8 (by kernel_rfl) (by kernel_rfl) ?_
      simp only [List.take_succ_cons, List.take_zero, List.drop_succ_cons, List.drop_zero]
      repeat (first | still_step | fail)
      refine wpStill_nil ?_
      go_wp2_with (go_at_call 76; (first | ((with_reducible refine (Hl1.out _).mono ?_); rintro e w2 ⟨rfl, rfl⟩) | ((with_reducible refine (Hl2.out _).mono ?_); rintro e w2 ⟨rfl, rfl⟩) | ((with_reducible refine (Hl3.out _).mono ?_); rintro e w2 ⟨rfl, rfl⟩) | ((with_reducible refine (Hl4.out _).mono ?_); rintro e w2 ⟨rfl, rfl⟩)))
      go_ret
      have hb := Blk.new (w.alloc (.cells #[.slice a 1 c, .int .i64 n0, .int .i64 n1, .int .i64 n2, .int .i64 n3, .int .i64 1, .int .i64 0, .int .i64 40] 26)) (cfgL (.slice a 1 c) n0 n1 n2 n3 ++ [.int .i64 16, .int .i64 24, .int .i64 E, .int .i64 ((E : Int) + 40), .int .i64 F]) 110
      rw [show (w.alloc (.cells #[.slice a 1 c, .int .i64 n0, .int .i64 n1, .int .i64 n2, .int .i64 n3, .int .i64 1, .int .i64 0, .int .i64 40] 26)).heap.size = w.heap.size + 1 from by simp] at hb
      exact ⟨w.heap.size + 1, rfl, ⟨_, 16, 24, E, (E : Int) + 40, F, hb.drew.drew, by omega, by omega⟩, by omega, ((((Upd.refl _ _).alloc _).alloc _).drew).drew⟩

/-- The words of a new layout are few. -/
theorem lay_words {w : World} {L n0 n1 n2 n3 : Nat} (h : IsLay w L n0 n1 n2 n3) : ∃ wo : Int, w.cell? ⟨L, 12, none⟩ = some (.int .i64 wo) ∧ 0 ≤ wo ∧ wo ≤ 65536 := by
  obtain ⟨v, r, bi, lo, bl, wo, hb, h1, h2⟩ := h
  exact ⟨wo, hb.cell 12 rfl, h1, h2⟩

/-- []api.Kind, read as rows of ints. -/
theorem kinds_at {w : World} {v : Value} {tt : List (List Int)} (h : MatIn w v tt) {k : Nat} (hk : k < tt.length) :
    ∃ b off ra rc, (∀ w', (Instr.indexAt 24 v (.int .i64 (k : Int))).run Try.prog w' = .ok (.pointer (some ⟨b, off + k, none⟩)) w') ∧ (∀ w', Below w.heap.size w w' → w'.cell? ⟨b, off + k, none⟩ = some (.slice ra (tt.getD k []).length rc)) ∧ IntsR w (.slice ra (tt.getD k []).length rc) .i64 (tt.getD k []) := by
  obtain ⟨H, hR, hE⟩ := h
  obtain ⟨b0, off, hix, hb0, hcc⟩ := hR.index (P := Try.prog) Try.underlying24 (by kernel_rfl) (by kernel_rfl) hk
  simp only [Nat.mul_one] at hix hcc
  have hrow := hcc 0 (by decide)
  simp only [Nat.add_zero] at hrow
  have hIn := hE k hk
  obtain ⟨ra, rc, hrv, -⟩ := (show RowsIn w (H k) 1 (tt.getD k []).length _ from hIn)
  rw [hrv] at hIn hrow
  exact ⟨b0, off, ra, rc, hix, fun w' u => (u.cell (p := ⟨b0, off + k, none⟩) hb0).trans hrow, hIn⟩

set_option maxRecDepth 100000 in
theorem lay_may1 (v : Value) (f : List Int) (w : World) (hv : IntsR w v .i64 f) : Calls Try.prog 71 #[.agg #[v]] w (RetK w (.bool (!MayK f))) := by
  have hm := fun w' (u : Upd (fun _ => False) w w') => kind_May v f w' (ints_upd hv u)
  have hm2 := hm _ ((Upd.refl _ w).alloc (.cells #[v] 81))
  unfold RetK at hm2
  have Hhm2 := Lib.hid hm2; clear hm2
  clear hm hv
  go_enter Try.func71, Try.ntmps71
  go_wp2_with (go_at_call 72; (with_reducible refine Hhm2.out.mono ?_); rintro e w2 ⟨rfl, hu⟩)
  go_ret
  exact ⟨rfl, ((Upd.refl _ _).alloc _).trans hu⟩

/-- IndexFunc over one kind that may be: none is found. -/
theorem idx_kinds (v : Value) (w : World) (h : MatIn w v [[1]]) : Calls Try.prog 89 #[v, .func (.func 71) #[] #[]] w (RetK w (.int .i64 (-1))) := by
  obtain ⟨va, vc, hv⟩ := mat_shape h
  subst hv
  obtain ⟨b, off, ra, rc, hix, hcc, hI⟩ := kinds_at h (k := 0) (by decide)
  have hcell := hcc w (Below.refl _ _)
  have hI : IntsR w (.slice ra 1 rc) .i64 [1] := hI
  have hcell : w.cell? ⟨b, off, none⟩ = some (.slice ra 1 rc) := hcell
  have hix : ∀ w', (Instr.indexAt 24 (.slice va 1 vc) (.int .i64 0)).run Try.prog w' = .ok (.pointer (some ⟨b, off, none⟩)) w' := hix
  have hm := lay_may1 _ [1] w hI
  rw [show (!MayK [1]) = false from by decide] at hm
  unfold RetK at hm
  have h : True := trivial
  have Hhm := Lib.hid hm; clear hm
  clear hI hcc
  have hl1 : ([[1]] : List (List Int)).length = 1 := rfl
  simp only [hl1]
  go_enter Try.func89, Try.ntmps89
  go_wp2_with fail
  go_loopw [8] (fun i wr => (i = .int .i64 0 ∧ wr = w) ∨ (i = .int .i64 1 ∧ Upd (fun _ => False) w wr)) (fun i _ => (1 - intOf i).toNat)
  case atStart => exact Or.inl ⟨rfl, rfl⟩
  case round =>
    rcases hrel with ⟨rfl, rfl⟩ | ⟨rfl, hu⟩
    · go_wp2_with (go_at_call 71; (with_reducible refine Hhm.out.mono ?_); rintro e w2 ⟨rfl, hu⟩)
      go_roundw
      case rel => exact Or.inr ⟨rfl, hu⟩
      case measure => simp [intOf]
    · have Hhu := Lib.hid hu; clear hu
      go_wp2_with fail
      go_ret
      exact ⟨rfl, Hhu.out⟩
theorem contains_kinds (v : Value) (w : World) (h : MatIn w v [[1]]) : Calls Try.prog 70 #[v, .func (.func 71) #[] #[]] w (RetK w (.bool false)) := by
  have hi := idx_kinds v w h
  unfold RetK at hi
  have Hhi := Lib.hid hi; clear hi
  have Hh := Lib.hid h; clear h
  go_enter Try.func70, Try.ntmps70
  go_wp2_with (go_at_call 89; (with_reducible refine Hhi.out.mono ?_); rintro e w2 ⟨rfl, hu⟩)
  go_ret
  exact ⟨rfl, hu⟩
end Go.Proofs.Ythaicpjgmplgcaa
