/- The document's SameValue and SameValues. -/
import Derived.Test.YtcnbcidbbeadcaaObjO
import Derived.Test.YtcnbcidbbeadcaaLater
namespace Go.Proofs.Ytcnbcidbbeadcaa
open Go.RowKit Go.Deep
set_option linter.unusedVariables false

def sameV (x y : Val) : Bool :=
  decide (x.k = y.k) && (if x.k = 0 then true else if x.k = 1 then decide (x.n = y.n) else if x.k = 2 then decide (x.re = y.re) && decide (x.im = y.im) else if x.k = 3 then decide (x.r = y.r) else false)
def sameVs (xs ys : List Val) : Bool := decide (xs.length = ys.length ∧ ∀ i, i < xs.length → sameV (xs.getD i zeroV) (ys.getD i zeroV) = true)

theorem beq_nat {a b : Nat} : ((a : Int) == (b : Int)) = decide (a = b) := by
  by_cases h : a = b
  · subst h; simp
  · rw [decide_eq_false h, beq_eq_false_iff_ne]; omega
theorem beq_int {a b : Int} : (a == b) = decide (a = b) := by
  by_cases h : a = b
  · subst h; simp
  · rw [decide_eq_false h, beq_eq_false_iff_ne]; exact h

set_option maxRecDepth 100000 in
set_option maxHeartbeats 1000000 in
theorem ref_SameValue (x y : Val) (w : World) : Calls Try.prog 41 #[x.v, y.v] w (RetU w (.bool (sameV x y))) := by
  obtain ⟨a, n, re, im, r⟩ := x
  obtain ⟨a2, n2, re2, im2, r2⟩ := y
  show Calls _ _ #[.agg #[.int .i64 a, .int .i64 n, .int .u64 (re : Int), .int .u64 (im : Int), .int .i64 r], .agg #[.int .i64 a2, .int .i64 n2, .int .u64 (re2 : Int), .int .u64 (im2 : Int), .int .i64 r2]] _ _
  have hu : Upd (fun _ => False) w ((w.alloc (.cells #[.int .i64 a, .int .i64 n, .int .u64 (re : Int), .int .u64 (im : Int), .int .i64 r] 26)).alloc (.cells #[.int .i64 a2, .int .i64 n2, .int .u64 (re2 : Int), .int .u64 (im2 : Int), .int .i64 r2] 26)) := ((Upd.refl _ _).alloc _).alloc _
  have hs : sameV ⟨a, n, re, im, r⟩ ⟨a2, n2, re2, im2, r2⟩ = (decide (a = a2) && (if a = 0 then true else if a = 1 then decide (n = n2) else if a = 2 then decide (re = re2) && decide (im = im2) else if a = 3 then decide (r = r2) else false)) := rfl
  rw [hs]
  clear hs
  by_cases ha : a = a2
  · subst ha
    have e0 : (a != a) = false := by simp
    rw [decide_eq_true rfl, Bool.true_and]
    by_cases k0 : a = 0
    · subst k0
      rw [if_pos rfl]
      have Hhu := Lib.hid hu; clear hu
      go_enter Try.func41, Try.ntmps41
      go_wp2
      go_ret
      exact ⟨rfl, Hhu.out⟩
    · rw [if_neg k0]
      by_cases k1 : a = 1
      · subst k1
        rw [if_pos rfl, ← beq_int]
        have Hhu := Lib.hid hu; clear hu
        obtain ⟨bb, hbb⟩ : ∃ bb, (n == n2) = bb := ⟨_, rfl⟩
        rw [hbb]
        cases bb
        · go_enter Try.func41, Try.ntmps41
          go_wp2
          go_ret
          exact ⟨rfl, Hhu.out⟩
        · go_enter Try.func41, Try.ntmps41
          go_wp2
          go_ret
          exact ⟨rfl, Hhu.out⟩
      · rw [if_neg k1]
        by_cases k2 : a = 2
        · subst k2
          rw [if_pos rfl]
          have Hhu := Lib.hid hu; clear hu
          by_cases g1 : re = re2
          · subst g1
            have d1 : ((re : Int) == (re : Int)) = true := by simp
            rw [decide_eq_true rfl, Bool.true_and, ← beq_nat]
            obtain ⟨bb, hbb⟩ : ∃ bb, ((im : Int) == (im2 : Int)) = bb := ⟨_, rfl⟩
            rw [hbb]
            by_cases g2 : im = im2
            · subst g2
              obtain rfl : bb = true := by rw [← hbb]; simp
              go_enter Try.func41, Try.ntmps41
              go_wp2
              go_ret
              exact ⟨rfl, Hhu.out⟩
            · obtain rfl : bb = false := by rw [← hbb, beq_eq_false_iff_ne]; omega
              go_enter Try.func41, Try.ntmps41
              go_wp2
              go_ret
              exact ⟨rfl, Hhu.out⟩
          · have d1 : ((re : Int) == (re2 : Int)) = false := by rw [beq_eq_false_iff_ne]; omega
            rw [decide_eq_false g1, Bool.false_and]
            go_enter Try.func41, Try.ntmps41
            go_wp2
            go_ret
            exact ⟨rfl, Hhu.out⟩
        · rw [if_neg k2]
          by_cases k3 : a = 3
          · subst k3
            rw [if_pos rfl, ← beq_int]
            have Hhu := Lib.hid hu; clear hu
            obtain ⟨bb, hbb⟩ : ∃ bb, (r == r2) = bb := ⟨_, rfl⟩
            rw [hbb]
            cases bb
            · go_enter Try.func41, Try.ntmps41
              go_wp2
              go_ret
              exact ⟨rfl, Hhu.out⟩
            · go_enter Try.func41, Try.ntmps41
              go_wp2
              go_ret
              exact ⟨rfl, Hhu.out⟩
          · rw [if_neg k3]
            have k0' : (a == 0) = false := by rw [beq_eq_false_iff_ne]; exact k0
            have k1' : (a == 1) = false := by rw [beq_eq_false_iff_ne]; exact k1
            have k2' : (a == 2) = false := by rw [beq_eq_false_iff_ne]; exact k2
            have k3' : (a == 3) = false := by rw [beq_eq_false_iff_ne]; exact k3
            have Hhu := Lib.hid hu; clear hu
            go_enter Try.func41, Try.ntmps41
            go_wp2
            go_ret
            exact ⟨rfl, Hhu.out⟩
  · have e0 : (a != a2) = true := by rw [bne_iff_ne]; exact ha
    rw [decide_eq_false ha, Bool.false_and]
    have Hhu := Lib.hid hu; clear hu
    go_enter Try.func41, Try.ntmps41
    go_wp2
    go_ret
    exact ⟨rfl, Hhu.out⟩

set_option maxRecDepth 100000 in
set_option maxHeartbeats 1000000 in
theorem ref_SameValues (u v : Value) (xs ys : List Val) (w : World) (hx : ValsR w u xs) (hy : ValsR w v ys) : Calls Try.prog 31 #[u, v] w (RetU w (.bool (sameVs xs ys))) := by
  obtain ⟨R, hR⟩ : ∃ R, sameVs xs ys = R := ⟨_, rfl⟩
  rw [hR]
  unfold sameVs at hR
  have hX := Lib.hid hx
  have hY := Lib.hid hy
  obtain ⟨a, ca, rfl, hca1, hca, -⟩ := hx
  obtain ⟨b, cb, rfl, hcb1, hcb, -⟩ := hy
  have l1 : (xs.length : Int) ≤ 9223372036854775807 := by unfold maxLen at hca; omega
  have l2 : (ys.length : Int) ≤ 9223372036854775807 := by unfold maxLen at hcb; omega
  clear hca1 hca hcb1 hcb
  by_cases hl : xs.length = ys.length
  · have e1 : ((xs.length : Int) != ys.length) = false := by rw [bne_eq_false_iff_eq]; omega
    have Hhl := Lib.hid hl; clear hl
    have HhR := Lib.hid hR; clear hR
    go_enter Try.func31, Try.ntmps31
    go_wp2
    go_loopw [13] (fun i wr => ∃ k : Nat, k ≤ xs.length ∧ i = .int .i64 k ∧ (∀ t, t < k → sameV (xs.getD t zeroV) (ys.getD t zeroV) = true) ∧ Upd (fun _ => False) w wr) (fun i _ => (xs.length - intOf i).toNat)
    case atStart => exact ⟨0, Nat.zero_le _, rfl, fun t h => by omega, Upd.refl _ _⟩
    case round =>
      obtain ⟨k, hk, rfl, hal, hu⟩ := hrel
      by_cases hkl : k = xs.length
      · have d1 : ¬ ((k : Int) < xs.length) := by omega
        have e0 : R = true := by
          rw [← HhR.out, decide_eq_true_eq]
          exact ⟨Hhl.out, hkl ▸ hal⟩
        have He0 := Lib.hid e0; clear e0
        have Hhu := Lib.hid hu; clear hu
        clear hal hkl
        go_wp2
        go_ret
        exact ⟨by rw [He0.out]; rfl, Hhu.out⟩
      · have d1 : (k : Int) < xs.length := by omega
        have d1' : k < xs.length := by omega
        have d2' : k < ys.length := by have := Hhl.out; omega
        have d2 : (k : Int) < ys.length := by omega
        obtain ⟨b0, off, hix, hb0, hc⟩ := hX.out.index (P := Try.prog) Try.underlying23 (by kernel_rfl) (by kernel_rfl) d1'
        obtain ⟨b1, of1, hiy, hb1, hd⟩ := hY.out.index (P := Try.prog) Try.underlying23 (by kernel_rfl) (by kernel_rfl) d2'
        have hsv := ref_SameValue (xs.getD k zeroV) (ys.getD k zeroV)
        have hst : sameV (xs.getD k zeroV) (ys.getD k zeroV) = true → ∀ t, t < k + 1 → sameV (xs.getD t zeroV) (ys.getD t zeroV) = true := by
          intro h t ht
          by_cases e : t = k
          · subst e; exact h
          · exact hal t (by omega)
        have hno : sameV (xs.getD k zeroV) (ys.getD k zeroV) = false → R = false := by
          intro h
          rw [← HhR.out, decide_eq_false_iff_not]
          intro h2
          rw [h2.2 k d1'] at h
          cases h
        have x0 := fun (s : Later wr) => show s.val.cell? ⟨b0, off + k * 5 + 0, none⟩ = _ from ((hu.trans s.up).none.cell (p := ⟨b0, off + k * 5 + 0, none⟩) hb0).trans (hc 0 (by decide))
        have x1 := fun (s : Later wr) => show s.val.cell? ⟨b0, off + k * 5 + 1, none⟩ = _ from ((hu.trans s.up).none.cell (p := ⟨b0, off + k * 5 + 1, none⟩) hb0).trans (hc 1 (by decide))
        have x2 := fun (s : Later wr) => show s.val.cell? ⟨b0, off + k * 5 + 2, none⟩ = _ from ((hu.trans s.up).none.cell (p := ⟨b0, off + k * 5 + 2, none⟩) hb0).trans (hc 2 (by decide))
        have x3 := fun (s : Later wr) => show s.val.cell? ⟨b0, off + k * 5 + 3, none⟩ = _ from ((hu.trans s.up).none.cell (p := ⟨b0, off + k * 5 + 3, none⟩) hb0).trans (hc 3 (by decide))
        have x4 := fun (s : Later wr) => show s.val.cell? ⟨b0, off + k * 5 + 4, none⟩ = _ from ((hu.trans s.up).none.cell (p := ⟨b0, off + k * 5 + 4, none⟩) hb0).trans (hc 4 (by decide))
        have y0 := fun (s : Later wr) => show s.val.cell? ⟨b1, of1 + k * 5 + 0, none⟩ = _ from ((hu.trans s.up).none.cell (p := ⟨b1, of1 + k * 5 + 0, none⟩) hb1).trans (hd 0 (by decide))
        have y1 := fun (s : Later wr) => show s.val.cell? ⟨b1, of1 + k * 5 + 1, none⟩ = _ from ((hu.trans s.up).none.cell (p := ⟨b1, of1 + k * 5 + 1, none⟩) hb1).trans (hd 1 (by decide))
        have y2 := fun (s : Later wr) => show s.val.cell? ⟨b1, of1 + k * 5 + 2, none⟩ = _ from ((hu.trans s.up).none.cell (p := ⟨b1, of1 + k * 5 + 2, none⟩) hb1).trans (hd 2 (by decide))
        have y3 := fun (s : Later wr) => show s.val.cell? ⟨b1, of1 + k * 5 + 3, none⟩ = _ from ((hu.trans s.up).none.cell (p := ⟨b1, of1 + k * 5 + 3, none⟩) hb1).trans (hd 3 (by decide))
        have y4 := fun (s : Later wr) => show s.val.cell? ⟨b1, of1 + k * 5 + 4, none⟩ = _ from ((hu.trans s.up).none.cell (p := ⟨b1, of1 + k * 5 + 4, none⟩) hb1).trans (hd 4 (by decide))
        simp only [Nat.add_zero] at x0 y0
        generalize xs.getD k zeroV = x at *
        generalize ys.getD k zeroV = y at *
        generalize off + k * 5 = o0 at *
        generalize of1 + k * 5 = o1 at *
        obtain ⟨bb, hbb⟩ : ∃ bb, sameV x y = bb := ⟨_, rfl⟩
        have hsv : ∀ w' (u : Upd (fun _ => False) wr w'), Calls Try.prog 41 #[x.v, y.v] w' (fun e w'' => e = .returned (.bool bb) ∧ Upd (fun _ => False) wr w'') := fun w' u => (hsv w').mono (fun e w'' h => ⟨by rw [← hbb]; exact h.1, u.trans h.2⟩)
        rw [hbb] at hst hno
        clear hbb
        obtain ⟨xa, xn, xre, xim, xr⟩ := x
        obtain ⟨ya, yn, yre, yim, yr⟩ := y
        change ∀ s : Later wr, s.val.cell? _ = some (.int .i64 xa) at x0
        change ∀ s : Later wr, s.val.cell? _ = some (.int .i64 xn) at x1
        change ∀ s : Later wr, s.val.cell? _ = some (.int .u64 (xre : Int)) at x2
        change ∀ s : Later wr, s.val.cell? _ = some (.int .u64 (xim : Int)) at x3
        change ∀ s : Later wr, s.val.cell? _ = some (.int .i64 xr) at x4
        change ∀ s : Later wr, s.val.cell? _ = some (.int .i64 ya) at y0
        change ∀ s : Later wr, s.val.cell? _ = some (.int .i64 yn) at y1
        change ∀ s : Later wr, s.val.cell? _ = some (.int .u64 (yre : Int)) at y2
        change ∀ s : Later wr, s.val.cell? _ = some (.int .u64 (yim : Int)) at y3
        change ∀ s : Later wr, s.val.cell? _ = some (.int .i64 yr) at y4
        change ∀ w', _ → Calls _ _ #[.agg #[.int .i64 xa, .int .i64 xn, .int .u64 (xre : Int), .int .u64 (xim : Int), .int .i64 xr], .agg #[.int .i64 ya, .int .i64 yn, .int .u64 (yre : Int), .int .u64 (yim : Int), .int .i64 yr]] w' _ at hsv
        have Hhsv := Lib.hid hsv; clear hsv
        have Hhst := Lib.hid hst; clear hst
        have Hhno := Lib.hid hno; clear hno
        have Hhu := Lib.hid hu; clear hu
        clear hc hd hal hkl
        cases bb
        · go_wp2
          refine wp_region_later (by kernel_rfl) (by kernel_rfl) ?_
          repeat (go_big_quiet_step ((go_at_call 41; exact calls_later (Hhsv.out _ (Later.up _)))))
          refine wpQuiet_nil ?_
          intro w4 hw4
          have u4 : Upd (fun _ => False) wr w4 := by
            obtain ⟨s, rfl⟩ := hw4
            exact s.up
          clear hw4
          clear x0 x1 x2 x3 x4 y0 y1 y2 y3 y4
          go_wp2
          go_ret
          exact ⟨by rw [show R = false from (by first | exact Hhno.out rfl | exact Hhno.out trivial)]; rfl, Hhu.out.trans u4⟩
        · go_wp2
          refine wp_region_later (by kernel_rfl) (by kernel_rfl) ?_
          repeat (go_big_quiet_step ((go_at_call 41; exact calls_later (Hhsv.out _ (Later.up _)))))
          refine wpQuiet_nil ?_
          intro w4 hw4
          have u4 : Upd (fun _ => False) wr w4 := by
            obtain ⟨s, rfl⟩ := hw4
            exact s.up
          clear hw4
          clear x0 x1 x2 x3 x4 y0 y1 y2 y3 y4
          go_wp2
          go_roundw
          case rel => exact ⟨k + 1, by omega, by go_num, (by first | exact Hhst.out rfl | exact Hhst.out trivial), Hhu.out.trans u4⟩
          case measure => simp [intOf]; omega
  · have e1 : ((xs.length : Int) != ys.length) = true := by rw [bne_iff_ne]; omega
    have e0 : R = false := by
      rw [← hR, decide_eq_false_iff_not]
      exact fun h => hl h.1
    have He0 := Lib.hid e0; clear e0
    clear hl hR
    go_enter Try.func31, Try.ntmps31
    go_wp2
    go_ret
    exact ⟨by rw [He0.out]; rfl, Upd.refl _ _⟩
end Go.Proofs.Ytcnbcidbbeadcaa
