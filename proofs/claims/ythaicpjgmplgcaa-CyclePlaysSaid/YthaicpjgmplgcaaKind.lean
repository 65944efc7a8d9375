/- Package kind: contracts. -/
import Derived.Test.YthaicpjgmplgcaaKindP
import Derived.Test.YthaicpjgmplgcaaOpen
import Derived.Test.YthaicpjgmplgcaaWord
namespace Go.Proofs.Ythaicpjgmplgcaa
open Go.RowKit
set_option linter.unusedVariables false

/-- The result, in a world that has at most grown. -/
def RetK (w : World) (v : Value) (e : Ending) (w' : World) : Prop := e = .returned v ∧ Upd (fun _ => False) w w'
theorem retKFrom {P : Program} {f : FuncId} {a : Array Value} {W w' : World} {v : Value} (h : Calls P f a w' (RetK w' v)) (u : Upd (fun _ => False) W w') : Calls P f a w' (RetK W v) :=
  h.mono fun e w2 ⟨he, hu⟩ => ⟨he, u.trans hu⟩
theorem ints_upd {w w' : World} {c : Value} {k : IntKind} {xs : List Int} (h : IntsR w c k xs) (u : Upd (fun _ => False) w w') : IntsR w' c k xs := IntsR.upd h u.none

theorem kind_words (x : Int) (w : World) : Calls Try.prog 95 #[.int .i64 x] w (Same w (.int .i64 (fw x))) := by
  by_cases h1 : x = 1
  · subst h1
    go_enter Try.func95, Try.ntmps95
    go_wp2
    go_ret
    exact ⟨rfl, rfl⟩
  · by_cases h3 : x = 3
    · subst h3
      go_enter Try.func95, Try.ntmps95
      go_wp2
      go_ret
      exact ⟨rfl, rfl⟩
    · have e1 : (x == 1) = false := by simp [h1]
      have e3 : (x == 3) = false := by simp [h3]
      by_cases h2 : x = 2
      · subst h2
        clear h1 h3
        go_enter Try.func95, Try.ntmps95
        go_wp2
        go_ret
        exact ⟨rfl, rfl⟩
      · have e2 : (x == 2) = false := by simp [h2]
        have hf : fw x = 0 := by unfold fw; simp [h1, h2, h3]
        rw [hf]
        clear h1 h2 h3 hf
        go_enter Try.func95, Try.ntmps95
        go_wp2
        go_ret
        exact ⟨rfl, rfl⟩

set_option maxRecDepth 100000 in
set_option maxHeartbeats 600000 in
theorem kind_Words (v : Value) (f : List Int) (w : World) (hv : IntsR w v .i64 f) : Calls Try.prog 90 #[.agg #[v]] w (RetK w (.int .i64 (kW f))) := by
  have hX := Lib.hid hv
  obtain ⟨a, cap, rfl, -, hcap, -⟩ := hv
  have hu : Upd (fun _ => False) w (w.alloc (.cells #[.slice a f.length cap] 81)) := (Upd.refl _ _).alloc _
  by_cases h0 : f.length = 0
  · have e0 : kW f = 0 := by unfold kW; simp [h0]
    have e1 : ((f.length : Int) == 0) = true := by simp [h0]
    rw [e0]
    have hu := Lib.hid hu
    clear e0 h0
    go_enter Try.func90, Try.ntmps90
    go_wp2
    go_ret
    exact ⟨rfl, hu.out⟩
  · have e1 : ((f.length : Int) == 0) = false := by rw [beq_eq_false_iff_ne]; omega
    by_cases h15 : 15 < f.length
    · have e0 : kW f = 0 := by unfold kW; simp [h15]
      have e2 : (15 : Int) < f.length := by omega
      rw [e0]
      have hu := Lib.hid hu
      clear e0 h0
      go_enter Try.func90, Try.ntmps90
      go_wp2
      go_ret
      exact ⟨rfl, hu.out⟩
    · have e2 : ¬ ((15 : Int) < f.length) := by omega
      have e3 : (f.length : Int) ≤ 15 := by omega
      have hu := Lib.hid hu
      go_enter Try.func90, Try.ntmps90
      go_wp2
      go_loop [3, 19] (fun s i => ∃ k : Nat, k ≤ f.length ∧ i = .int .i64 k ∧ s = .int .i64 (1 + sumW (f.take k) : Nat) ∧ okW (f.take k) = true) (fun _ i => (f.length - intOf i).toNat)
      case atStart => exact ⟨0, Nat.zero_le _, rfl, rfl, rfl⟩
      case round =>
        obtain ⟨k, hk, rfl, rfl, hok⟩ := hrel
        have hs := sumW_take_le f k
        by_cases hkl : k = f.length
        · have d1 : ¬ ((k : Int) < f.length) := by omega
          have hfin : kW f = 1 + sumW (f.take k) := by
            rw [hkl, List.take_length] at hok ⊢
            exact kW_eq f ((kW_pos f).2 ⟨h0, by omega, hok⟩)
          have Hhfin := Lib.hid hfin; clear hfin
          have Hhkl := Lib.hid hkl; clear hkl
          have Hhok := Lib.hid hok; clear hok
          go_wp2
          go_ret
          exact ⟨by rw [Hhfin.out]; rfl, hu.out⟩
        · have d1 : (k : Int) < f.length := by omega
          have d1' : k < f.length := by omega
          obtain ⟨b0, off, hix, hb0, hc⟩ := hX.out.index (P := Try.prog) Try.underlying37 (by kernel_rfl) (by kernel_rfl) d1'
          simp only [Nat.mul_one] at hix hc
          have hc0 : (w.alloc (.cells #[.slice a f.length cap] 81)).cell? ⟨b0, off + k, none⟩ = some (.int .i64 (f.getD k 0)) := (hu.out.none.cell (p := ⟨b0, off + k, none⟩) hb0).trans (hc 0 (by decide))
          have hsn := sumW_snoc f k d1'
          have hon := okW_snoc f k d1'
          have hfail := okW_fail f k d1'
          have hle := fw_le (f.getD k 0)
          generalize f.getD k 0 = x at *
          have hw := kind_words x (w.alloc (.cells #[.slice a f.length cap] 81))
          by_cases hx : fw x = 0
          · have e0 : kW f = 0 := by
              unfold kW
              rw [if_pos (Or.inr (Or.inr (hfail hx)))]
            rw [hx] at hw
            rw [e0]
            have hw : Calls Try.prog 95 #[.int .i64 x] (w.alloc (.cells #[.slice a f.length cap] 81)) (Same (w.alloc (.cells #[.slice a f.length cap] 81)) (.int .i64 0)) := hw
            clear hsn hon hfail e0 hx hok hkl hc
            have Hhw := Lib.hid hw; clear hw
            go_wp2_with (first | (go_at_call 95; (first | (with_reducible refine Hhw.out.mono ?_)); rintro e w' ⟨rfl, rfl⟩))
            go_ret
            exact ⟨rfl, hu.out⟩
          · have hn : ((fw x : Int) == 0) = false := by simp; omega
            have hon2 : okW (f.take (k + 1)) = true := by rw [hon, hok]; simp [hx]
            have hsn2 : ((1 + sumW (f.take (k + 1)) : Nat) : Int) = 1 + ((sumW (f.take k) : Nat) : Int) + fw x := by rw [hsn]; omega
            clear hsn hon hfail hx hok hkl hc
            have Hhw := Lib.hid hw; clear hw
            have Hhon2 := Lib.hid hon2; clear hon2
            have Hhsn2 := Lib.hid hsn2; clear hsn2
            go_wp2_with (first | (go_at_call 95; (first | (with_reducible refine Hhw.out.mono ?_)); rintro e w' ⟨rfl, rfl⟩))
            exact ⟨⟨k + 1, by omega, by go_num, by rw [Hhsn2.out], Hhon2.out⟩, by simp [intOf]; omega⟩

set_option maxRecDepth 100000 in
set_option maxHeartbeats 600000 in
theorem kind_May (v : Value) (f : List Int) (w : World) (hv : IntsR w v .i64 f) : Calls Try.prog 72 #[.agg #[v]] w (RetK w (.bool (MayK f))) := by
  have hu : Upd (fun _ => False) w (w.alloc (.cells #[v] 81)) := (Upd.refl _ _).alloc _
  have h1 := Lib.hid (retKFrom (kind_Words v f _ (ints_upd hv hu)) hu)
  have hle := kW_le f
  have key : (MayK f = true ∧ (0 : Int) < kW f ∧ (kW f : Int) ≤ 16) ∨ (MayK f = false ∧ ¬ (0 : Int) < kW f) ∨ (MayK f = false ∧ (0 : Int) < kW f ∧ ¬ (kW f : Int) ≤ 16) := by
    unfold MayK
    simp
    omega
  clear hv hu
  rcases key with ⟨e, c1, c2⟩ | ⟨e, c1⟩ | ⟨e, c1, c2⟩
  all_goals
    rw [e]
    clear e
    generalize kW f = q at *
    go_enter Try.func72, Try.ntmps72
    go_wp2_with (go_at_call 90; (with_reducible refine h1.out.mono ?_); rintro e w' ⟨rfl, hu⟩)
    go_ret
    refine ⟨?_, hu⟩
    first | rfl | (simp; omega)

theorem infoInt : (Try.prog.info? 3).map (fun i => (i.zero, i.size, i.bytes)) = some (some (.int .i64 0), 1, 8) := by kernel_rfl

/-- The result is a slice of ints of the call's own. -/
def RetOwn (w : World) (xs : List Int) (e : Ending) (w' : World) : Prop :=
  ∃ v, e = .returned v ∧ w'.ownsRow w.heap.size 3 1 v xs.length (xs.map (Value.int .i64)) ∧ Upd (fun _ => False) w w'

theorem same_step (a b : List Int) (k : Nat) (ha : k < a.length) (hl : a.length = b.length) (h : a.take k = b.take k) (hx : a.getD k 0 = b.getD k 0) : a.take (k + 1) = b.take (k + 1) := by
  rw [List.take_succ_eq_append_getElem ha, List.take_succ_eq_append_getElem (by omega), h]
  rw [List.getD_eq_getElem?_getD, List.getD_eq_getElem?_getD, List.getElem?_eq_getElem ha, List.getElem?_eq_getElem (by omega)] at hx
  simp only [Option.getD_some] at hx
  rw [hx]
theorem same_no (a b : List Int) (k : Nat) (hx : a.getD k 0 ≠ b.getD k 0) : a ≠ b := fun e => hx (by rw [e])

set_option maxRecDepth 100000 in
set_option maxHeartbeats 600000 in
theorem ref_SameInts (u v : Value) (f g : List Int) (w : World) (hu : IntsR w u .i64 f) (hv : IntsR w v .i64 g) : Calls Try.prog 17 #[u, v] w (RetK w (.bool (decide (f = g)))) := by
  have hX := Lib.hid hu
  have hY := Lib.hid hv
  obtain ⟨a, ca, rfl, hca1, hca, -⟩ := hu
  obtain ⟨b, cb, rfl, hcb1, hcb, -⟩ := hv
  have l1 : (f.length : Int) ≤ 9223372036854775807 := by unfold maxLen at hca; omega
  by_cases hl : f.length = g.length
  · have e1 : ((f.length : Int) != g.length) = false := by rw [bne_eq_false_iff_eq]; omega
    have hl2 := Lib.hid hl
    clear hl
    go_enter Try.func17, Try.ntmps17
    go_wp2
    go_loopw [13] (fun i wr => ∃ k : Nat, k ≤ f.length ∧ i = .int .i64 k ∧ f.take k = g.take k ∧ Upd (fun _ => False) w wr) (fun i _ => (f.length - intOf i).toNat)
    case atStart => exact ⟨0, Nat.zero_le _, rfl, rfl, Upd.refl _ _⟩
    case round =>
      obtain ⟨k, hk, rfl, hfg, hu⟩ := hrel
      by_cases hkl : k = f.length
      · have d1 : ¬ ((k : Int) < f.length) := by omega
        have e0 : decide (f = g) = true := by
          rw [hkl, List.take_length, hl2.out, List.take_length] at hfg
          rw [decide_eq_true_eq]
          exact hfg
        have He0 := Lib.hid e0; clear e0
        clear hfg hkl
        go_wp2
        go_ret
        exact ⟨by rw [He0.out]; rfl, hu⟩
      · have d1 : (k : Int) < f.length := by omega
        have d1' : k < f.length := by omega
        have d2' : k < g.length := by have := hl2.out; omega
        have d2 : (k : Int) < g.length := by omega
        obtain ⟨b0, off, hix, hb0, hc⟩ := hX.out.index (P := Try.prog) Try.underlying37 (by kernel_rfl) (by kernel_rfl) d1'
        obtain ⟨b1, off1, hiy, hb1, hcy⟩ := hY.out.index (P := Try.prog) Try.underlying37 (by kernel_rfl) (by kernel_rfl) d2'
        simp only [Nat.mul_one] at hix hc hiy hcy
        have hc0 : wr.cell? ⟨b0, off + k, none⟩ = some (.int .i64 (f.getD k 0)) := (hu.none.cell (p := ⟨b0, off + k, none⟩) hb0).trans (hc 0 (by decide))
        have hc1 : wr.cell? ⟨b1, off1 + k, none⟩ = some (.int .i64 (g.getD k 0)) := (hu.none.cell (p := ⟨b1, off1 + k, none⟩) hb1).trans (hcy 0 (by decide))
        have hst := same_step f g k d1' hl2.out hfg
        have hno := same_no f g k
        generalize f.getD k 0 = x at *
        generalize g.getD k 0 = y at *
        by_cases hxy : x = y
        · have hst2 := Lib.hid (hst hxy)
          subst hxy
          clear hst hno hfg hc hcy hkl
          have Hhu := Lib.hid hu; clear hu
          go_wp2
          go_quiet (fail)
          go_wp2
          go_roundw
          case rel => exact ⟨k + 1, by omega, by go_num, hst2.out, Hhu.out.drewN _⟩
          case measure => simp [intOf]; omega
        · have e0 : decide (f = g) = false := by rw [decide_eq_false_iff_not]; exact hno hxy
          have hne : (x != y) = true := by rw [bne_iff_ne]; exact hxy
          clear hst hno hfg hc hcy hkl hxy
          have Hhu := Lib.hid hu; clear hu
          have He0 := Lib.hid e0; clear e0
          go_wp2
          go_quiet (fail)
          go_wp2
          go_ret
          exact ⟨by rw [He0.out]; rfl, Hhu.out.drewN _⟩
  · have e1 : ((f.length : Int) != g.length) = true := by rw [bne_iff_ne]; omega
    have e2 : decide (f = g) = false := by
      rw [decide_eq_false_iff_not]
      exact fun e => hl (by rw [e])
    rw [e2]
    clear hl e2
    go_enter Try.func17, Try.ntmps17
    go_wp2
    go_ret
    exact ⟨rfl, Upd.refl _ _⟩

end Go.Proofs.Ythaicpjgmplgcaa
