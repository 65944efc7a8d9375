/- The type of a number: object.of and the document's kindOf. -/
import Derived.Test.YtcnbcidbbeadcaaObjV
import Derived.Test.YtcnbcidbbeadcaaRefKind
import Derived.Laws.ResultCell
namespace Go.Proofs.Ytcnbcidbbeadcaa
open Go.RowKit Go.Deep
set_option linter.unusedVariables false

/-- The type, or none. -/
def RetOf (w : World) (o : Option (List Int)) (e : Ending) (w' : World) : Prop :=
  Upd (fun _ => False) w w' ∧ ((∃ f v, o = some f ∧ IntsR w' v .i64 f ∧ e = .returned (.tuple #[.agg #[v], .bool true])) ∨ (o = none ∧ e = .returned (.tuple #[.agg #[.slice none 0 0], .bool false])))

set_option maxRecDepth 100000 in
set_option maxHeartbeats 1000000 in
theorem object_of (v : Value) (ks : List (List Int)) (k : Int) (w : World) (hM : MatIn w v ks) : Calls Try.prog 47 #[v, .int .i64 k] w (RetOf w (ofK ks k)) := by
  have ho : ofK ks k = if 0 ≤ k ∧ k < ks.length ∧ k < 16 ∧ MayK (ks.getD k.toNat []) = true then some (ks.getD k.toNat []) else none := rfl
  have hu : Upd (fun _ => False) w (w.alloc (.cells #[.slice none 0 0] 68)) := (Upd.refl _ _).alloc _
  have hbad := Lib.hid (fun (h : ofK ks k = none) w' (u : Upd (fun _ => False) w w') => show RetOf w (ofK ks k) (.returned (.tuple #[.agg #[.slice none 0 0], .bool false])) w' from ⟨u, Or.inr ⟨h, rfl⟩⟩)
  obtain ⟨H, hR, hrows⟩ := hM
  have hX := Lib.hid hR
  obtain ⟨a, cap, rfl, hcap1, hcap, -⟩ := hR
  have l1 : (ks.length : Int) ≤ 9223372036854775807 := by unfold maxLen at hcap; omega
  by_cases k0 : k < 0
  · rw [if_neg (fun h => by omega)] at ho
    have fin := Lib.hid (hbad.out ho)
    clear ho hcap hcap1 hrows l1
    have Hhu := Lib.hid hu; clear hu
    go_enter Try.func47, Try.ntmps47
    go_wp2
    refine bodyPost_ret (v := .tuple #[.agg #[.slice none 0 0], .bool false]) ?_ rfl ?_
    · rw [results_cell_tmp rfl]; go_simp
    · first | exact fin.out _ Hhu.out | exact fin.out _ (Upd.setCell Hhu.out (fun h => absurd (show w.heap.size < w.heap.size from h) (by omega)) _)
  · by_cases k1 : k < ks.length
    · have k1' : ¬ k ≥ (ks.length : Int) := by omega
      by_cases k2 : k < 16
      · obtain ⟨y, rfl⟩ : ∃ y : Nat, k = y := ⟨k.toNat, by omega⟩
        have hy : y < ks.length := by omega
        obtain ⟨b0, off, hix, hb0, hc⟩ := hX.out.index (P := Try.prog) Try.underlying22 (by kernel_rfl) (by kernel_rfl) hy
        simp only [Nat.mul_one] at hix hc
        have hc0 : (w.alloc (.cells #[.slice none 0 0] 68)).cell? ⟨b0, off + y, none⟩ = some (H y) := (hu.none.cell (p := ⟨b0, off + y, none⟩) hb0).trans (hc 0 (by decide))
        have hf := hrows y hy
        have hsh : ∃ va vc, H y = .slice va (ks.getD y []).length vc := by
          obtain ⟨va, vc, h1, -⟩ := hf
          exact ⟨va, vc, h1⟩
        have hm := Lib.hid (kind_May (H y) _ _ (ints_upd hf hu))
        have k16 : ¬ (y : Int) ≥ 16 := by omega
        have k15 : ¬ (15 : Int) < (y : Int) := by omega
        rw [show (y : Int).toNat = y from by omega] at ho
        by_cases hMay : MayK (ks.getD y []) = true
        · rw [if_pos ⟨by omega, by omega, by omega, hMay⟩] at ho
          rw [hMay] at hm
          have fin := Lib.hid (fun w' (u : Upd (fun _ => False) w w') => show RetOf w (ofK ks y) (.returned (.tuple #[.agg #[H y], .bool true])) w' from ⟨u, Or.inl ⟨_, _, ho, ints_upd hf u, rfl⟩⟩)
          clear ho hcap hcap1 hrows hc hf hMay hbad
          generalize H y = vv at *
          obtain ⟨va, vc, rfl⟩ := hsh
          generalize (ks.getD y []).length = vn at *
          generalize ofK ks y = oo at *
          generalize ks.getD y [] = ff at *
          have Hhu := Lib.hid hu; clear hu
          go_enter Try.func47, Try.ntmps47
          go_wp2_with (go_at_call 58; (with_reducible refine hm.out.mono ?_); rintro e w' ⟨rfl, hu1⟩; have hc1 : w'.cell? ⟨b0, off + y, none⟩ = some (.slice va vn vc) := (hu1.none.cell (p := ⟨b0, off + y, none⟩) (Nat.lt_of_lt_of_le hb0 Hhu.out.size)).trans hc0; have hT1 := Blk.upd (Blk.new w [.slice none 0 0] 68) hu1 (fun h => h); have hT2 := Blk.cell hT1 0 rfl; have hT3 := Blk.free hT1 0)
          refine bodyPost_ret (v := .tuple #[.agg #[.slice va vn vc], .bool true]) ?_ rfl ?_
          · rw [results_cell_tmp rfl]; go_simp
          · exact fin.out _ (Upd.setCell (Hhu.out.trans (by assumption)) (fun h => absurd (show w.heap.size < w.heap.size from h) (by omega)) _)
        · rw [if_neg (fun h => hMay h.2.2.2)] at ho
          rw [show MayK (ks.getD y []) = false from by simpa using hMay] at hm
          have fin := Lib.hid (hbad.out ho)
          clear ho hcap hcap1 hrows hc hf hMay hbad
          generalize H y = vv at *
          obtain ⟨va, vc, rfl⟩ := hsh
          generalize (ks.getD y []).length = vn at *
          generalize ofK ks y = oo at *
          generalize ks.getD y [] = ff at *
          have Hhu := Lib.hid hu; clear hu
          go_enter Try.func47, Try.ntmps47
          go_wp2_with (go_at_call 58; (with_reducible refine hm.out.mono ?_); rintro e w' ⟨rfl, hu1⟩; have hT1 := Blk.upd (Blk.new w [.slice none 0 0] 68) hu1 (fun h => h); have hT2 := Blk.cell hT1 0 rfl; have hT3 := Blk.free hT1 0)
          refine bodyPost_ret (v := .tuple #[.agg #[.slice none 0 0], .bool false]) ?_ rfl ?_
          · rw [results_cell_tmp rfl]; go_simp
          · exact fin.out _ (Upd.setCell (Hhu.out.trans (by assumption)) (fun h => absurd (show w.heap.size < w.heap.size from h) (by omega)) _)
      · rw [if_neg (fun h => k2 h.2.2.1)] at ho
        have k16 : (16 : Int) ≤ k := by omega
        have k17 : (15 : Int) < k := by omega
        have fin := Lib.hid (hbad.out ho)
        clear ho hcap hcap1 hrows l1 k2
        have Hhu := Lib.hid hu; clear hu
        go_enter Try.func47, Try.ntmps47
        go_wp2
        refine bodyPost_ret (v := .tuple #[.agg #[.slice none 0 0], .bool false]) ?_ rfl ?_
        · rw [results_cell_tmp rfl]; go_simp
        · first | exact fin.out _ Hhu.out | exact fin.out _ (Upd.setCell Hhu.out (fun h => absurd (show w.heap.size < w.heap.size from h) (by omega)) _)
    · rw [if_neg (fun h => k1 h.2.1)] at ho
      have k1' : (ks.length : Int) ≤ k := by omega
      have fin := Lib.hid (hbad.out ho)
      clear ho hcap hcap1 hrows l1 k1
      have Hhu := Lib.hid hu; clear hu
      go_enter Try.func47, Try.ntmps47
      go_wp2
      refine bodyPost_ret (v := .tuple #[.agg #[.slice none 0 0], .bool false]) ?_ rfl ?_
      · rw [results_cell_tmp rfl]; go_simp
      · first | exact fin.out _ Hhu.out | exact fin.out _ (Upd.setCell Hhu.out (fun h => absurd (show w.heap.size < w.heap.size from h) (by omega)) _)
set_option maxRecDepth 100000 in
set_option maxHeartbeats 1000000 in
theorem ref_kindOf (v : Value) (ks : List (List Int)) (k : Int) (w : World) (hM : MatIn w v ks) : Calls Try.prog 51 #[v, .int .i64 k] w (RetOf w (ofK ks k)) := by
  have ho : ofK ks k = if 0 ≤ k ∧ k < ks.length ∧ k < 16 ∧ MayK (ks.getD k.toNat []) = true then some (ks.getD k.toNat []) else none := rfl
  have hu : Upd (fun _ => False) w (w.alloc (.cells #[.slice none 0 0] 68)) := (Upd.refl _ _).alloc _
  have hbad := Lib.hid (fun (h : ofK ks k = none) w' (u : Upd (fun _ => False) w w') => show RetOf w (ofK ks k) (.returned (.tuple #[.agg #[.slice none 0 0], .bool false])) w' from ⟨u, Or.inr ⟨h, rfl⟩⟩)
  obtain ⟨H, hR, hrows⟩ := hM
  have hX := Lib.hid hR
  obtain ⟨a, cap, rfl, hcap1, hcap, -⟩ := hR
  have l1 : (ks.length : Int) ≤ 9223372036854775807 := by unfold maxLen at hcap; omega
  by_cases k0 : k < 0
  · rw [if_neg (fun h => by omega)] at ho
    have fin := Lib.hid (hbad.out ho)
    clear ho hcap hcap1 hrows l1
    have Hhu := Lib.hid hu; clear hu
    go_enter Try.func51, Try.ntmps51
    go_wp2
    refine bodyPost_ret (v := .tuple #[.agg #[.slice none 0 0], .bool false]) ?_ rfl ?_
    · rw [results_cell_tmp rfl]; go_simp
    · first | exact fin.out _ Hhu.out | exact fin.out _ (Upd.setCell Hhu.out (fun h => absurd (show w.heap.size < w.heap.size from h) (by omega)) _)
  · by_cases k1 : k < ks.length
    · have k1' : ¬ k ≥ (ks.length : Int) := by omega
      by_cases k2 : k < 16
      · obtain ⟨y, rfl⟩ : ∃ y : Nat, k = y := ⟨k.toNat, by omega⟩
        have hy : y < ks.length := by omega
        obtain ⟨b0, off, hix, hb0, hc⟩ := hX.out.index (P := Try.prog) Try.underlying22 (by kernel_rfl) (by kernel_rfl) hy
        simp only [Nat.mul_one] at hix hc
        have hc0 : (w.alloc (.cells #[.slice none 0 0] 68)).cell? ⟨b0, off + y, none⟩ = some (H y) := (hu.none.cell (p := ⟨b0, off + y, none⟩) hb0).trans (hc 0 (by decide))
        have hf := hrows y hy
        have hsh : ∃ va vc, H y = .slice va (ks.getD y []).length vc := by
          obtain ⟨va, vc, h1, -⟩ := hf
          exact ⟨va, vc, h1⟩
        have hm := Lib.hid (ref_MayKind (H y) _ _ (ints_upd hf hu))
        have k16 : ¬ (y : Int) ≥ 16 := by omega
        have k15 : ¬ (15 : Int) < (y : Int) := by omega
        rw [show (y : Int).toNat = y from by omega] at ho
        by_cases hMay : MayK (ks.getD y []) = true
        · rw [if_pos ⟨by omega, by omega, by omega, hMay⟩] at ho
          rw [hMay] at hm
          have fin := Lib.hid (fun w' (u : Upd (fun _ => False) w w') => show RetOf w (ofK ks y) (.returned (.tuple #[.agg #[H y], .bool true])) w' from ⟨u, Or.inl ⟨_, _, ho, ints_upd hf u, rfl⟩⟩)
          clear ho hcap hcap1 hrows hc hf hMay hbad
          generalize H y = vv at *
          obtain ⟨va, vc, rfl⟩ := hsh
          generalize (ks.getD y []).length = vn at *
          generalize ofK ks y = oo at *
          generalize ks.getD y [] = ff at *
          have Hhu := Lib.hid hu; clear hu
          go_enter Try.func51, Try.ntmps51
          go_wp2_with (go_at_call 84; (with_reducible refine hm.out.mono ?_); rintro e w' ⟨rfl, hu1⟩; have hc1 : w'.cell? ⟨b0, off + y, none⟩ = some (.slice va vn vc) := (hu1.none.cell (p := ⟨b0, off + y, none⟩) (Nat.lt_of_lt_of_le hb0 Hhu.out.size)).trans hc0; have hT1 := Blk.upd (Blk.new w [.slice none 0 0] 68) hu1 (fun h => h); have hT2 := Blk.cell hT1 0 rfl; have hT3 := Blk.free hT1 0)
          refine bodyPost_ret (v := .tuple #[.agg #[.slice va vn vc], .bool true]) ?_ rfl ?_
          · rw [results_cell_tmp rfl]; go_simp
          · exact fin.out _ (Upd.setCell (Hhu.out.trans (by assumption)) (fun h => absurd (show w.heap.size < w.heap.size from h) (by omega)) _)
        · rw [if_neg (fun h => hMay h.2.2.2)] at ho
          rw [show MayK (ks.getD y []) = false from by simpa using hMay] at hm
          have fin := Lib.hid (hbad.out ho)
          clear ho hcap hcap1 hrows hc hf hMay hbad
          generalize H y = vv at *
          obtain ⟨va, vc, rfl⟩ := hsh
          generalize (ks.getD y []).length = vn at *
          generalize ofK ks y = oo at *
          generalize ks.getD y [] = ff at *
          have Hhu := Lib.hid hu; clear hu
          go_enter Try.func51, Try.ntmps51
          go_wp2_with (go_at_call 84; (with_reducible refine hm.out.mono ?_); rintro e w' ⟨rfl, hu1⟩; have hT1 := Blk.upd (Blk.new w [.slice none 0 0] 68) hu1 (fun h => h); have hT2 := Blk.cell hT1 0 rfl; have hT3 := Blk.free hT1 0)
          refine bodyPost_ret (v := .tuple #[.agg #[.slice none 0 0], .bool false]) ?_ rfl ?_
          · rw [results_cell_tmp rfl]; go_simp
          · exact fin.out _ (Upd.setCell (Hhu.out.trans (by assumption)) (fun h => absurd (show w.heap.size < w.heap.size from h) (by omega)) _)
      · rw [if_neg (fun h => k2 h.2.2.1)] at ho
        have k16 : (16 : Int) ≤ k := by omega
        have k17 : (15 : Int) < k := by omega
        have fin := Lib.hid (hbad.out ho)
        clear ho hcap hcap1 hrows l1 k2
        have Hhu := Lib.hid hu; clear hu
        go_enter Try.func51, Try.ntmps51
        go_wp2
        refine bodyPost_ret (v := .tuple #[.agg #[.slice none 0 0], .bool false]) ?_ rfl ?_
        · rw [results_cell_tmp rfl]; go_simp
        · first | exact fin.out _ Hhu.out | exact fin.out _ (Upd.setCell Hhu.out (fun h => absurd (show w.heap.size < w.heap.size from h) (by omega)) _)
    · rw [if_neg (fun h => k1 h.2.1)] at ho
      have k1' : (ks.length : Int) ≤ k := by omega
      have fin := Lib.hid (hbad.out ho)
      clear ho hcap hcap1 hrows l1 k1
      have Hhu := Lib.hid hu; clear hu
      go_enter Try.func51, Try.ntmps51
      go_wp2
      refine bodyPost_ret (v := .tuple #[.agg #[.slice none 0 0], .bool false]) ?_ rfl ?_
      · rw [results_cell_tmp rfl]; go_simp
      · first | exact fin.out _ Hhu.out | exact fin.out _ (Upd.setCell Hhu.out (fun h => absurd (show w.heap.size < w.heap.size from h) (by omega)) _)
end Go.Proofs.Ytcnbcidbbeadcaa
