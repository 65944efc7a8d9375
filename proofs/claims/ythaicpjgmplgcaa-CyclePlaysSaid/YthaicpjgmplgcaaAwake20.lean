/- Laws of chapter 20: what they share. -/
import Derived.Test.YthaicpjgmplgcaaSweep2
import Derived.Test.YthaicpjgmplgcaaArr4
namespace Go.Proofs.Ythaicpjgmplgcaa
open Go.RowKit Go.ChangeShapes Go.WideShapes
set_option linter.unusedVariables false

theorem RetInts.shape {w w' : World} {xs : List Int} {e : Ending} (h : RetInts w xs e w') : ∃ a c, e = .returned (.slice a xs.length c) ∧ w'.ownsRow w.heap.size 3 1 (.slice a xs.length c) xs.length (ints xs) ∧ Upd (fun _ => False) w w' := h

/-- A new layout of the law's config. -/
theorem lay_config {w : World} {v : Value} {n0 n1 n2 n3 : Nat} (h0 : n0 ≤ 40) (h1 : n1 ≤ 40) (h2 : n2 ≤ 40) (h3 : n3 ≤ 40) (hs : 0 < n0 + n1 + n2 + n3) (hm : MatIn w v [[1]]) :
    Calls Try.prog 14 #[.agg #[v, .int .i64 n0, .int .i64 n1, .int .i64 n2, .int .i64 n3, .int .i64 1, .int .i64 0, .int .i64 40]] w (LayPost w n0 n1 n2 n3) := lay_New v n0 n1 n2 n3 h0 h1 h2 h3 hs w hm

theorem takeB_awake (N : Nat) (hN : 0 < N) : pageL N (bitI 10 (bitW [515])) (bitI 10 (bitW [2])) 0 = [0] := by
  have hb : ∀ b : Nat, b < 8 → (bitI 10 (bitW [515]) b && !bitI 10 (bitW [2]) b) = decide (b = 0) := by decide
  have ht : ∀ b : Nat, b < 8 → takeB N (bitI 10 (bitW [515])) (bitI 10 (bitW [2])) b = decide (b = 0) := fun b h => by
    unfold takeB
    rw [hb b h]
    by_cases e : b = 0
    · subst e
      simp [hN]
    · simp [e]
  unfold pageL
  rw [if_neg (by omega)]
  simp only [pageTo, show (0 : Int).toNat = 0 from rfl, Nat.zero_mul, Nat.zero_add]
  rw [ht 0 (by omega), ht 1 (by omega), ht 2 (by omega), ht 3 (by omega), ht 4 (by omega), ht 5 (by omega), ht 6 (by omega), ht 7 (by omega)]
  decide

theorem words_lit (w : World) (x : Nat) (hx : x < 2 ^ 64) : WordsR (w.alloc (.cells #[.int .u64 (x : Int)] 82)) (.slice (some ⟨w.heap.size, 0, none⟩) 1 1) [x] :=
  ownsRow_words (ws := [x]) (World.ownsRow_lit (base := w.heap.size) w #[.int .u64 (x : Int)] 1 (Nat.le_refl _) (by decide) rfl) (by intro y hy; simp at hy; subst hy; exact hx)

set_option maxRecDepth 100000 in
set_option maxHeartbeats 1000000 in
theorem awake20 (W w : World) (u : Upd (fun _ => False) W w) : Calls Try.prog 21 #[] w (RetU W (.bool true)) := by
  have hc := law_config20 10 0 0 0 w
  unfold ConfigPost cfgV at hc
  have Hhc := Lib.hid hc; clear hc
  have Hu := Lib.hid u; clear u
  go_enter Try.func21, Try.ntmps21
  go_wp2_with fail
  refine Hhc.out.mono ?_
  rintro e w1 ⟨v, n0, n1, n2, n3, rfl, h0, h1, h2, h3, hs, hM, hu1⟩
  have hl := lay_config h0 h1 h2 h3 hs hM
  unfold LayPost at hl
  have Hhl := Lib.hid hl; clear hl
  have Hhu1 := Lib.hid hu1; clear hu1
  go_wp2_with fail
  refine Hhl.out.mono ?_
  rintro e w2 ⟨L, rfl, hL, hLz, hu2⟩
  have ho1 := map_OfF 10 _ _ _ (words_lit w2 515 (by decide))
  unfold OfPost at ho1
  have Hu2 := Lib.hid ((Hhu1.out.trans hu2).alloc (.cells #[.int .u64 515] 82))
  have hL2 := hL.upd ((Upd.refl (fun _ => False) w2).alloc (.cells #[.int .u64 515] 82)) (fun x => x)
  have Hho1 := Lib.hid ho1; clear ho1
  have HhL2 := Lib.hid hL2; clear hL2
  clear hL hu2 hM
  go_wp2_with fail
  refine Hho1.out.mono ?_
  rintro e w3 ⟨b1, g1, rfl, hM1, -, -, hu3⟩
  have ho2 := map_OfF 10 _ _ _ (words_lit w3 2 (by decide))
  unfold OfPost at ho2
  have Hu3 := Lib.hid ((Hu2.out.trans hu3).alloc (.cells #[.int .u64 2] 82))
  have hL3 := (HhL2.out.upd hu3 (fun x => x)).upd ((Upd.refl (fun _ => False) w3).alloc (.cells #[.int .u64 2] 82)) (fun x => x)
  have hM2 := hM1.upd ((Upd.refl (fun _ => False) w3).alloc (.cells #[.int .u64 2] 82)) (fun x => x) (fun x => x)
  have Hho2 := Lib.hid ho2; clear ho2
  have HhL3 := Lib.hid hL3; clear hL3
  have HhM2 := Lib.hid hM2; clear hM2
  clear hM1 hu3
  go_wp2_with fail
  refine Hho2.out.mono ?_
  rintro e w4 ⟨b2, g2, rfl, hM4, -, -, hu4⟩
  have hp := sweep_Page (HhL3.out.upd hu4 (fun x => x)) h0 h1 h2 h3 (gets_map (HhM2.out.upd hu4 (fun x => x) (fun x => x))) (gets_map hM4) 0
  have hp : Calls Try.prog 18 #[.pointer (some ⟨L, 0, none⟩), .pointer (some ⟨b1, 0, none⟩), .pointer (some ⟨b2, 0, none⟩), .int .i64 0] w4 (RetInts w4 (pageL (sumN n0 n1 n2 n3) (bitI 10 (bitW [515])) (bitI 10 (bitW [2])) 0)) := hp
  rw [takeB_awake _ (by unfold sumN; omega)] at hp
  have hp : Calls Try.prog 18 #[.pointer (some ⟨L, 0, none⟩), .pointer (some ⟨b1, 0, none⟩), .pointer (some ⟨b2, 0, none⟩), .int .i64 0] w4 (fun e w' => ∃ a c, e = .returned (.slice a 1 c) ∧ w'.ownsRow w4.heap.size 3 1 (.slice a 1 c) 1 (ints [0]) ∧ Upd (fun _ => False) w4 w') := hp
  have Hu4 := Lib.hid (Hu3.out.trans hu4)
  have Hhp := Lib.hid hp; clear hp
  clear hM4 hu4
  go_wp2_with fail
  refine Hhp.out.mono ?_
  rintro e w5 ⟨a, c, rfl, ho, hu5⟩
  obtain ⟨g, hix, hg, -, hcell0, -, hgb⟩ := ownsRow_index ho (P := Try.prog) Try.underlying37 (by kernel_rfl) (by kernel_rfl) (show 0 < 1 by decide)
  have hix : ∀ w', (Instr.indexAt 37 (.slice a 1 c) (.int .i64 0)).run Try.prog w' = .ok (.pointer (some ⟨g, 0, none⟩)) w' := hix
  have hcell : w5.cell? ⟨g, 0, none⟩ = some (.int .i64 0) := hcell0
  have Hu5 := Lib.hid ((Hu.out.trans Hu4.out).trans hu5)
  clear ho hcell0 hu5
  go_wp2_with fail
  go_ret
  exact ⟨rfl, Hu5.out⟩
end Go.Proofs.Ythaicpjgmplgcaa
