/- The reference's kinds (scullionref6): contracts. -/
import Derived.Test.YtcnbcidbbeadcaaKind
namespace Go.Proofs.Ytcnbcidbbeadcaa
open Go.RowKit
set_option linter.unusedVariables false

set_option maxRecDepth 100000 in
set_option maxHeartbeats 600000 in
theorem ref_KindWords (v : Value) (f : List Int) (w : World) (hv : IntsR w v .i64 f) : Calls Try.prog 52 #[.agg #[v]] w (RetK w (.int .i64 (kW f))) := by
  have hX := Lib.hid hv
  obtain ⟨a, cap, rfl, -, hcap, -⟩ := hv
  have hu : Upd (fun _ => False) w (w.alloc (.cells #[.slice a f.length cap] 68)) := (Upd.refl _ _).alloc _
  by_cases h0 : f.length = 0
  · have e0 : kW f = 0 := by unfold kW; simp [h0]
    have e1 : (f.length : Int) < 1 := by omega
    rw [e0]
    have hu := Lib.hid hu
    clear e0 h0
    go_enter Try.func52, Try.ntmps52
    go_wp2
    go_ret
    exact ⟨rfl, hu.out⟩
  · have e1 : ¬ ((f.length : Int) < 1) := by omega
    by_cases h15 : 15 < f.length
    · have e0 : kW f = 0 := by unfold kW; simp [h15]
      have e2 : (15 : Int) < f.length := by omega
      rw [e0]
      have hu := Lib.hid hu
      clear e0 h0
      go_enter Try.func52, Try.ntmps52
      go_wp2
      go_ret
      exact ⟨rfl, hu.out⟩
    · have e2 : ¬ ((15 : Int) < f.length) := by omega
      have e3 : (f.length : Int) ≤ 15 := by omega
      have hu := Lib.hid hu
      go_enter Try.func52, Try.ntmps52
      go_wp2
      go_loop [3, 19] (fun s i => ∃ k : Nat, k ≤ f.length ∧ i = .int .i64 k ∧ s = .int .i64 (1 + sumW (f.take k) : Nat) ∧ okW (f.take k) = true) (fun _ i => (f.length - intOf i).toNat)
      case atStart => exact ⟨0, Nat.zero_le _, rfl, rfl, rfl⟩
      case round =>
        obtain ⟨k, hk, rfl, rfl, hok⟩ := hrel
        have hs := sumW_take_le f k
        by_cases hkl : k = f.length
        · have d1 : ¬ ((k : Int) < f.length) := by omega
          have hfin : kW f = 1 + sumW (f.take k) := by
            rw [hkl, List.take_length] at hok ⊢
            exact kW_eq f ((kW_pos f).2 ⟨h0, by omega, hok⟩)
          have Hhfin := Lib.hid hfin; clear hfin
          have Hhkl := Lib.hid hkl; clear hkl
          have Hhok := Lib.hid hok; clear hok
          go_wp2
          go_ret
          exact ⟨by rw [Hhfin.out]; rfl, hu.out⟩
        · have d1 : (k : Int) < f.length := by omega
          have d1' : k < f.length := by omega
          obtain ⟨b0, off, hix, hb0, hc⟩ := hX.out.index (P := Try.prog) Try.underlying52 (by kernel_rfl) (by kernel_rfl) d1'
          simp only [Nat.mul_one] at hix hc
          have hc0 : (w.alloc (.cells #[.slice a f.length cap] 68)).cell? ⟨b0, off + k, none⟩ = some (.int .i64 (f.getD k 0)) := (hu.out.none.cell (p := ⟨b0, off + k, none⟩) hb0).trans (hc 0 (by decide))
          have hsn := sumW_snoc f k d1'
          have hon := okW_snoc f k d1'
          have hfail := okW_fail f k d1'
          generalize f.getD k 0 = x at *
          have key : (fw x = 0 ∧ (x == 1) = false ∧ (x == 3) = false ∧ (x == 2) = false) ∨ (x = 1 ∧ fw x = 1) ∨ (x = 3 ∧ fw x = 1) ∨ (x = 2 ∧ fw x = 2) := by
            unfold fw
            by_cases c1 : x = 1
            · simp [c1]
            · by_cases c3 : x = 3
              · simp [c3]
              · by_cases c2 : x = 2
                · simp [c2]
                · simp [c1, c2, c3]
          rcases key with ⟨hx, q1, q3, q2⟩ | ⟨hx, q⟩ | ⟨hx, q⟩ | ⟨hx, q⟩
          · have e0 : kW f = 0 := by
              unfold kW
              rw [if_pos (Or.inr (Or.inr (hfail hx)))]
            clear hsn hon hfail hx hok hkl hc
            have He0 := Lib.hid e0; clear e0
            go_wp2
            go_ret
            exact ⟨by rw [He0.out]; rfl, hu.out⟩
          all_goals
            rw [q] at hsn hon
            have hon2 : okW (f.take (k + 1)) = true := by rw [hon, hok]; rfl
            subst hx
            clear hon hfail hok hkl hc q
            have Hhon2 := Lib.hid hon2; clear hon2
            have Hhsn := Lib.hid hsn; clear hsn
            go_wp2
            exact ⟨⟨k + 1, by omega, by go_num, by rw [Hhsn.out]; congr 1, Hhon2.out⟩, by simp [intOf]; omega⟩

set_option maxRecDepth 100000 in
set_option maxHeartbeats 600000 in
theorem ref_MayKind (v : Value) (f : List Int) (w : World) (hv : IntsR w v .i64 f) : Calls Try.prog 84 #[.agg #[v]] w (RetK w (.bool (MayK f))) := by
  have hu : Upd (fun _ => False) w (w.alloc (.cells #[v] 68)) := (Upd.refl _ _).alloc _
  have h1 := Lib.hid (retKFrom (ref_KindWords v f _ (ints_upd hv hu)) hu)
  have hle := kW_le f
  have key : (MayK f = true ∧ (0 : Int) < kW f ∧ (kW f : Int) ≤ 16) ∨ (MayK f = false ∧ ¬ (0 : Int) < kW f) ∨ (MayK f = false ∧ (0 : Int) < kW f ∧ ¬ (kW f : Int) ≤ 16) := by
    unfold MayK
    simp
    omega
  clear hv hu
  rcases key with ⟨e, c1, c2⟩ | ⟨e, c1⟩ | ⟨e, c1, c2⟩
  all_goals
    rw [e]
    clear e
    generalize kW f = q at *
    go_enter Try.func84, Try.ntmps84
    go_wp2_with (go_at_call 52; (with_reducible refine h1.out.mono ?_); rintro e w' ⟨rfl, hu⟩)
    go_ret
    refine ⟨?_, hu⟩
    first | rfl | (simp; omega)

theorem ref_off_step (f : List Int) (k : Nat) (h : k < f.length) (hok : okW f = true) : (1 + ((sumW (f.take (k + 1)) : Nat) : Int)) = 1 + ((sumW (f.take k) : Nat) : Int) + 1 + (if f.getD k 0 = 2 then 1 else 0) := by
  rw [sumW_snoc f k h]
  have := fw_cases _ (okW_get f k h hok)
  unfold fw
  rcases this with c | c | c <;> rw [c] <;> simp <;> omega

set_option maxRecDepth 100000 in
set_option maxHeartbeats 600000 in
theorem ref_Offset (v : Value) (f : List Int) (i : Int) (w : World) (hv : IntsR w v .i64 f) : Calls Try.prog 55 #[.agg #[v], .int .i64 i] w (RetK w (.int .i64 (offK f i))) := by
  have hX := Lib.hid hv
  obtain ⟨a, cap, rfl, hlc, hcap, -⟩ := hv
  have hu : Upd (fun _ => False) w (w.alloc (.cells #[.slice a f.length cap] 68)) := (Upd.refl _ _).alloc _
  have h1' := Lib.hid (ref_KindWords (.slice a f.length cap) f _ (ints_upd hX.out hu))
  have hle := kW_le f
  clear hu
  have key : (offK f i = -1 ∧ ((kW f : Int) == 0) = true) ∨ (offK f i = -1 ∧ ((kW f : Int) == 0) = false ∧ i < 0) ∨ (offK f i = -1 ∧ ((kW f : Int) == 0) = false ∧ 0 ≤ i ∧ (f.length : Int) ≤ i) ∨ (∃ m : Nat, i = m ∧ m < f.length ∧ offK f i = 1 + sumW (f.take m) ∧ ((kW f : Int) == 0) = false) := by
    unfold offK
    by_cases c1 : kW f = 0
    · left; simp [c1]
    · have e1 : ((kW f : Int) == 0) = false := by rw [beq_eq_false_iff_ne]; omega
      by_cases c2 : i < 0
      · right; left; simp [c2, e1]
      · by_cases c3 : (f.length : Int) ≤ i
        · right; right; left; simp [c3, e1]; omega
        · right; right; right
          refine ⟨i.toNat, by omega, by omega, ?_, e1⟩
          rw [if_neg (by omega)]
  rcases key with ⟨e, c1⟩ | ⟨e, c1, c2⟩ | ⟨e, c1, c2, c3⟩ | ⟨m, rfl, c2, e, c1⟩
  case inr.inr.inr =>
    rw [e]
    clear e
    have hpos := (kW_pos f).1 (by rw [beq_eq_false_iff_ne] at c1; omega)
    have hm15 : f.length ≤ 15 := hpos.2.1
    have hok := Lib.hid hpos.2.2
    clear hpos
    generalize kW f = q at *
    have d2 : (0 : Int) ≤ (m : Int) := by omega
    have d3 : ¬ ((f.length : Int) ≤ m) := by omega
    have d4 : (m : Int) ≤ cap := by omega
    go_enter Try.func55, Try.ntmps55
    go_wp2_with (go_at_call 52; (with_reducible refine h1'.out.mono ?_); rintro e w2 ⟨rfl, hu2⟩; have hbx : w2.cell? ⟨w.heap.size, 0, none⟩ = some (.slice a f.length cap) := (hu2.none.cell (p := ⟨w.heap.size, 0, none⟩) (by simp)).trans (World.cell?_alloc_new w #[.slice a f.length cap] _ 0))
    have hu : Upd (fun _ => False) w w2 := ((Upd.refl _ _).alloc _).trans hu2
    go_loop [5, 27] (fun s i => ∃ k : Nat, k ≤ m ∧ i = .int .i64 k ∧ s = .int .i64 (1 + (sumW (f.take k) : Nat) : Int)) (fun _ i => (m - intOf i).toNat)
    case atStart => exact ⟨0, Nat.zero_le _, rfl, rfl⟩
    case round =>
      obtain ⟨k, hk, rfl, rfl⟩ := hrel
      have hs := sumW_take_le f k
      by_cases hkm : k = m
      · have e0 : ¬ ((k : Int) < m) := by omega
        rw [hkm] at e0 ⊢
        clear hkm
        go_wp2
        go_ret
        exact ⟨rfl, hu⟩
      · have d1' : k < f.length := by omega
        have d1 : (k : Int) < m := by omega
        obtain ⟨b0, off, hix, hb0, hc⟩ := (rows_take hX.out (show m ≤ f.length by omega)).index (P := Try.prog) Try.underlying52 (by kernel_rfl) (by kernel_rfl) (show k < m by omega)
        simp only [Nat.mul_one] at hix hc
        have hc0 : w2.cell? ⟨b0, off + k, none⟩ = some (.int .i64 (f.getD k 0)) := (hu.none.cell (p := ⟨b0, off + k, none⟩) hb0).trans (hc 0 (by decide))
        have hsn := ref_off_step f k d1' hok.out
        generalize f.getD k 0 = x at *
        by_cases hx : x = 2
        · subst hx
          rw [if_pos rfl] at hsn
          clear hc hkm
          have Hhsn := Lib.hid hsn; clear hsn
          have Hhu := Lib.hid hu; clear hu
          go_wp2
          exact ⟨⟨k + 1, by omega, by go_num, by rw [Hhsn.out]⟩, by simp [intOf]; omega⟩
        · have e2 : (x == 2) = false := by simp [hx]
          rw [if_neg hx, Int.add_zero] at hsn
          clear hc hkm hx
          have Hhsn := Lib.hid hsn; clear hsn
          have Hhu := Lib.hid hu; clear hu
          go_wp2
          exact ⟨⟨k + 1, by omega, by go_num, by rw [Hhsn.out]⟩, by simp [intOf]; omega⟩
  all_goals
    rw [e]
    clear e
    generalize kW f = q at *
    go_enter Try.func55, Try.ntmps55
    go_wp2_with (go_at_call 52; (with_reducible refine h1'.out.mono ?_); rintro e w2 ⟨rfl, hu2⟩; have hbx : w2.cell? ⟨w.heap.size, 0, none⟩ = some (.slice a f.length cap) := (hu2.none.cell (p := ⟨w.heap.size, 0, none⟩) (by simp)).trans (World.cell?_alloc_new w #[.slice a f.length cap] _ 0))
    go_ret
    exact ⟨rfl, ((Upd.refl _ _).alloc _).trans hu2⟩
end Go.Proofs.Ytcnbcidbbeadcaa
