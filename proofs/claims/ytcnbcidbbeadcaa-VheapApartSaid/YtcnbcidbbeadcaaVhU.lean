/- kind.Fits in general. -/
import Derived.Test.YtcnbcidbbeadcaaVhT
namespace Go.Proofs.Ytcnbcidbbeadcaa
open Go.RowKit Go.Deep
set_option linter.unusedVariables false

def fitsV (f : List Int) (i : Int) (x : Val) : Bool := decide (0 ≤ i ∧ i < f.length ∧ fw (f.getD i.toNat 0) ≠ 0 ∧ (x.k = f.getD i.toNat 0 ∨ (x.k = 0 ∧ f.getD i.toNat 0 = 3)))
set_option maxRecDepth 100000 in
set_option maxHeartbeats 1000000 in
theorem vh_Fits (v : Value) (f : List Int) (i : Int) (x : Val) (w : World) (hv : IntsR w v .i64 f) : Calls Try.prog 68 #[.agg #[v], .int .i64 i, x.v] w (RetU w (.bool (fitsV f i x))) := by
  obtain ⟨R, hR⟩ : ∃ R, fitsV f i x = R := ⟨_, rfl⟩
  rw [hR]
  unfold fitsV at hR
  obtain ⟨a, n, re, im, r⟩ := x
  show Calls _ _ #[.agg #[v], .int .i64 i, .agg #[.int .i64 a, .int .i64 n, .int .u64 (re : Int), .int .u64 (im : Int), .int .i64 r]] _ _
  simp only at hR
  have hX := Lib.hid hv
  obtain ⟨va, vc, rfl, hc1, hc2, -⟩ := hv
  have l1 : (f.length : Int) ≤ 9223372036854775807 := by unfold maxLen at hc2; omega
  clear hc1 hc2
  have hu : Upd (fun _ => False) w ((w.alloc (.cells #[.slice va f.length vc] 68)).alloc (.cells #[.int .i64 a, .int .i64 n, .int .u64 (re : Int), .int .u64 (im : Int), .int .i64 r] 26)) := ((Upd.refl _ _).alloc _).alloc _
  by_cases i0 : i < 0
  · obtain rfl : R = false := by rw [← hR, decide_eq_false_iff_not]; intro h; omega
    have Hhu := Lib.hid hu; clear hu
    clear hR
    go_enter Try.func68, Try.ntmps68
    go_wp2
    go_ret
    exact ⟨rfl, by first | exact Hhu.out | exact Hhu.out.drew | exact Hhu.out.drewN _⟩
  · by_cases i1 : (f.length : Int) ≤ i
    · obtain rfl : R = false := by rw [← hR, decide_eq_false_iff_not]; intro h; omega
      have Hhu := Lib.hid hu; clear hu
      clear hR
      go_enter Try.func68, Try.ntmps68
      go_wp2
      go_ret
      exact ⟨rfl, by first | exact Hhu.out | exact Hhu.out.drew | exact Hhu.out.drewN _⟩
    · obtain ⟨k, rfl⟩ : ∃ k : Nat, i = k := ⟨i.toNat, by omega⟩
      have hk : k < f.length := by omega
      have d2 : (k : Int) < f.length := by omega
      rw [show (k : Int).toNat = k from by omega] at hR
      obtain ⟨b0, off, hix, hb0, hc⟩ := hX.out.index (P := Try.prog) Try.underlying52 (by kernel_rfl) (by kernel_rfl) hk
      simp only [Nat.mul_one] at hix hc
      have hcx := (hu.none.cell (p := ⟨b0, off + k, none⟩) hb0).trans (hc 0 (by decide))
      generalize f.getD k 0 = q at *
      have hw := Lib.hid (kind_words q)
      clear hc
      by_cases hq0 : fw q = 0
      · obtain rfl : R = false := by rw [← hR, decide_eq_false_iff_not]; intro h; exact h.2.2.1 hq0
        rw [hq0] at hw
        have Hhu := Lib.hid hu; clear hu
        clear hR hq0
        have hw := Lib.hid (show ∀ w, Calls Try.prog 82 #[.int .i64 q] w (Same w (.int .i64 0)) from hw.out)
        go_enter Try.func68, Try.ntmps68
        go_wp2_with (go_at_call 82; (with_reducible refine (hw.out _).mono ?_); rintro e w2 ⟨rfl, rfl⟩)
        go_ret
        exact ⟨rfl, by first | exact Hhu.out | exact Hhu.out.drew | exact Hhu.out.drewN _⟩
      · have hfq : ((fw q : Nat) : Int) = fw q := rfl
        have hne : ((fw q : Int) == 0) = false := by rw [beq_eq_false_iff_ne]; omega
        obtain ⟨m, hm⟩ : ∃ m, fw q = m := ⟨_, rfl⟩
        rw [hm] at hw hne hR hq0
        clear hfq hm
        by_cases h1 : a = q
        · obtain rfl : R = true := by rw [← hR, decide_eq_true_eq]; exact ⟨by omega, by omega, hq0, Or.inl h1⟩
          subst h1
          have e1 : decide (a = a) = true := by simp
          have Hhu := Lib.hid hu; clear hu
          clear hR
          go_enter Try.func68, Try.ntmps68
          go_wp2_with (go_at_call 82; (with_reducible refine (hw.out _).mono ?_); rintro e w2 ⟨rfl, rfl⟩)
          go_quiet (fail)
          go_wp2
          go_ret
          exact ⟨rfl, by first | exact Hhu.out | exact Hhu.out.drew | exact Hhu.out.drewN _⟩
        · have e1 : (a == q) = false := by rw [beq_eq_false_iff_ne]; exact h1
          have e1' : decide (a = q) = false := by simpa using h1
          by_cases h2 : a = 0
          · subst h2
            by_cases h3 : q = 3
            · subst h3
              obtain rfl : R = true := by rw [← hR, decide_eq_true_eq]; exact ⟨by omega, by omega, hq0, Or.inr ⟨rfl, rfl⟩⟩
              have Hhu := Lib.hid hu; clear hu
              clear hR h1 e1 e1'
              go_enter Try.func68, Try.ntmps68
              go_wp2_with (go_at_call 82; (with_reducible refine (hw.out _).mono ?_); rintro e w2 ⟨rfl, rfl⟩)
              go_quiet (fail)
              go_wp2
              go_ret
              exact ⟨rfl, by first | exact Hhu.out | exact Hhu.out.drew | exact Hhu.out.drewN _⟩
            · obtain rfl : R = false := by rw [← hR, decide_eq_false_iff_not]; intro h; rcases h.2.2.2 with h | h; exact h1 h; exact h3 h.2
              have e3 : (q == 3) = false := by rw [beq_eq_false_iff_ne]; exact h3
              have e4 : ((0 : Int) == q) = false := e1
              have Hhu := Lib.hid hu; clear hu
              clear hR
              go_enter Try.func68, Try.ntmps68
              go_wp2_with (go_at_call 82; (with_reducible refine (hw.out _).mono ?_); rintro e w2 ⟨rfl, rfl⟩)
              go_quiet (fail)
              go_wp2
              go_ret
              exact ⟨rfl, by first | exact Hhu.out | exact Hhu.out.drew | exact Hhu.out.drewN _⟩
          · obtain rfl : R = false := by rw [← hR, decide_eq_false_iff_not]; intro h; rcases h.2.2.2 with h | h; exact h1 h; exact h2 h.1
            have e2 : (a == 0) = false := by rw [beq_eq_false_iff_ne]; exact h2
            have e2' : decide (a = 0) = false := by simpa using h2
            have Hhu := Lib.hid hu; clear hu
            clear hR
            go_enter Try.func68, Try.ntmps68
            go_wp2_with (go_at_call 82; (with_reducible refine (hw.out _).mono ?_); rintro e w2 ⟨rfl, rfl⟩)
            go_quiet (fail)
            go_wp2
            go_ret
            exact ⟨rfl, by first | exact Hhu.out | exact Hhu.out.drew | exact Hhu.out.drewN _⟩
end Go.Proofs.Ytcnbcidbbeadcaa
