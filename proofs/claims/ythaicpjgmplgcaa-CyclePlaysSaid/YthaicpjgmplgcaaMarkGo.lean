/- Package mark: Step. -/
import Derived.Test.YthaicpjgmplgcaaMarkStep
import Derived.Test.YthaicpjgmplgcaaMarkLaw
namespace Go.Proofs.Ythaicpjgmplgcaa
open Go.RowKit
set_option linter.unusedVariables false

def StepPost (w : World) (B : Nat) (x : Mk) (refs : Int → List Int) (e : Ending) (w' : World) : Prop := e = .returned (.bool (!x.done)) ∧ IsMk w' B (x.step refs) ∧ Upd (InMk B) w w'
/-- What a function of references hands back. -/
def RefPost (w : World) (rs : List Int) (e : Ending) (w' : World) : Prop := ∃ v, e = .returned v ∧ w'.ownsRow w.heap.size 3 1 v rs.length (ints rs) ∧ Upd (fun _ => False) w w'

theorem run_equalIn_func_nil (d : Nat) (F : FuncId) (c : Array Value) (w : World) : (Op.equalIn (d + 1) 57 (.func (.func F) #[] c) .nilFunc).run Try.prog w = .ok false w := by
  simp [Op.equalIn, run_underlying Try.underlying57]
theorem run_equalIn_nil_nil (d : Nat) (w : World) : (Op.equalIn (d + 1) 57 .nilFunc .nilFunc).run Try.prog w = .ok true w := by
  simp [Op.equalIn, run_underlying Try.underlying57]
theorem run_func_nil (F : FuncId) (c : Array Value) (w : World) : (binOp .neq 57 (.func (.func F) #[] c) .nilFunc).run Try.prog w = .ok (.bool true) w := by
  simp only [binOp]
  simp [Op.equal, Op.maxDepth, run_equalIn_func_nil 9999 F c w]
theorem run_nil_nil (w : World) : (binOp .neq 57 .nilFunc .nilFunc).run Try.prog w = .ok (.bool false) w := by
  simp only [binOp]
  simp [Op.equal, Op.maxDepth, run_equalIn_nil_nil 9999 w]

/-- Pop from a marker's stack. -/
theorem mk_pop (B : Nat) (x : Mk) (w : World) (h : IsMk w B x) :
    Calls Try.prog 84 #[.pointer (some ⟨B + 4, 0, none⟩)] w (MkPost w B { x with l := x.l.dropLast } (.tuple #[.int .i64 (x.l.getLastD 0), .bool (!x.l.isEmpty)])) := by
  refine (grey_pop (B + 4) x.l x.room x.over w h.2.2.2).mono ?_
  rintro e w2 ⟨rfl, h1, h2, h3⟩
  exact ⟨rfl, ⟨h.1.upd h2 (by omega), h.2.1.upd h2 (by omega) (by omega), h.2.2.1.upd h2 (by omega) (by omega), h1⟩, h2.mono (fun i _ e => ⟨by omega, by omega⟩), h3⟩
/-- Set in a marker's scanned. -/
theorem mk_scan (B : Nat) (b : Int) (x : Mk) (w : World) (h : IsMk w B x) (hb : offB x.n x.s b = true) :
    Calls Try.prog 81 #[.pointer (some ⟨B + 3, 0, none⟩), .int .i64 b, .bool true] w (MkPost w B { x with s := setF x.s b true } (.bool true)) := by
  refine (map_SetF (B + 3) (B + 2) x.n x.s b true w h.2.2.1).mono ?_
  rintro e w2 ⟨rfl, h1, h2, h3, -⟩
  exact ⟨by rw [show (decide (0 ≤ b ∧ b < x.n) && (x.s b.toNat != true)) = true from hb], ⟨h.1.upd h2 (by omega), h.2.1.upd h2 (by omega) (by omega), h1, h.2.2.2.upd h2 (by omega)⟩, h2.mono (fun i _ e => ⟨by omega, by omega⟩), h3⟩

set_option maxRecDepth 100000 in
set_option maxHeartbeats 1000000 in
theorem step_rest (B : Nat) (x : Mk) (w : World) (h : IsMk w B x) (hn : x.n ≤ 1048576) (refs : Int → List Int) (hl : x.l = []) (RF : Value) :
    Calls Try.prog 62 #[.pointer (some ⟨B + 5, 0, none⟩), RF] w (StepPost w B x refs) := by
  obtain ⟨c0, c1, c2⟩ := h.cells
  have hD := mark_Done B x w h
  unfold StepPost
  cases hd : x.done
  · have ho : x.over = true := by
      rcases step_cases x with h1 | h1 | h1
      · rw [h1] at hd; cases hd
      · exact absurd hl h1
      · exact h1.2
    rw [step_again hl ho]
    rw [hd] at hD
    have hP := mk_pop B x w h
    unfold MkPost at hP
    have hx : ({ x with l := x.l.dropLast } : Mk) = x := by
      cases x
      simp only at hl
      subst hl
      rfl
    rw [hx, hl] at hP
    have hP : Calls Try.prog 84 #[.pointer (some ⟨B + 4, 0, none⟩)] w (fun e w' => e = .returned (.tuple #[.int .i64 0, .bool false]) ∧ IsMk w' B x ∧ Upd (InMk B) w w' ∧ w'.heap.size = w.heap.size) := hP
    have HhD := Lib.hid hD; clear hD
    have HhP := Lib.hid hP; clear hP
    have Hh := Lib.hid h; clear h
    have Hhn := Lib.hid hn; clear hn
    clear hx hl ho hd
    go_enter Try.func62, Try.ntmps62
    go_wp2_with fail
    refine wp_scope_loop 0 (fun a' w' => ∃ (u1 u2 u3 u4 u5 u6 u7 u8 u9 u10 u11 u12 u13 u14 u15 u16 u17 u18 u19 u20 u21 u22 u23 u24 u25 u26 u27 u28 u29 u30 u31 u32 u33 u34 u35 u36 u37 u38 u39 u40 u41 u42 u43 u44 : Value), a' = { tmps := #[.pointer (some ⟨B + 5, 0, none⟩), u1, u2, u3, u4, u5, u6, u7, u8, u9, u10, u11, u12, u13, u14, u15, u16, u17, u18, u19, u20, u21, u22, u23, u24, u25, u26, u27, u28, u29, u30, u31, u32, u33, u34, u35, u36, u37, u38, u39, u40, u41, u42, u43, u44], defers := [] } ∧ IsMk w' B x ∧ Upd (InMk B) w w') (fun _ _ => 0) rfl ?_ ?_
    · rintro a' w2 ⟨u1, u2, u3, u4, u5, u6, u7, u8, u9, u10, u11, u12, u13, u14, u15, u16, u17, u18, u19, u20, u21, u22, u23, u24, u25, u26, u27, u28, u29, u30, u31, u32, u33, u34, u35, u36, u37, u38, u39, u40, u41, u42, u43, u44, rfl, hI, hu⟩
      have hA := mark_again B x w2 hI Hhn.out
      unfold MkPost at hA
      have HhA := Lib.hid hA; clear hA
      have Hhu := Lib.hid hu; clear hu
      clear hI c0 c1 c2
      go_wp2_with (go_at_call 85; (with_reducible refine HhA.out.mono ?_); rintro e w3 ⟨rfl, hI3, hu3, -⟩)
      simp only [Exit.jump]
      go_ret
      exact ⟨rfl, hI3, Hhu.out.trans hu3⟩
    · intro H
      clear H
      go_wp2_with (first | (go_at_call 83; (with_reducible refine HhD.out.mono ?_); rintro e w3 ⟨rfl, rfl⟩) | (go_at_call 84; (with_reducible refine HhP.out.mono ?_); rintro e w3 ⟨rfl, hI3, hu3, -⟩))
      go_step3
      exact ⟨rfl, _, _, _, _, _, _, _, _, _, _, _, _, _, _, _, _, _, _, _, _, _, _, _, _, _, _, _, _, _, _, _, _, _, _, _, _, _, _, _, _, _, _, _, _, rfl, hI3, hu3⟩
  · rw [step_done hd]
    rw [hd] at hD
    have HhD := Lib.hid hD; clear hD
    have Hh := Lib.hid h; clear h
    clear hl hd
    go_enter Try.func62, Try.ntmps62
    go_wp2_with fail
    refine wp_scope_loop 0 (fun a' w' => False) (fun _ _ => 0) rfl (fun _ _ h => h.elim) ?_
    intro H
    clear H
    go_wp2_with (go_at_call 83; (with_reducible refine HhD.out.mono ?_); rintro e w3 ⟨rfl, rfl⟩)
    simp only [Exit.jump]
    go_ret
    exact ⟨rfl, Hh.out, Upd.refl _ _⟩

set_option maxRecDepth 100000 in
set_option maxHeartbeats 1000000 in
theorem step_nil (B : Nat) (x : Mk) (w : World) (h : IsMk w B x) (hx : Ok x) (hn : x.n ≤ 1048576) (hl : x.l ≠ []) :
    Calls Try.prog 62 #[.pointer (some ⟨B + 5, 0, none⟩), .nilFunc] w (StepPost w B x (fun _ => [])) := by
  obtain ⟨c0, c1, c2⟩ := h.cells
  have hneq := run_nil_nil
  have hD := mark_Done B x w h
  have hd : x.done = false := by
    cases hd : x.done
    · rfl
    · exact absurd ((done_iff x).1 hd).1 hl
  unfold StepPost
  rw [step_took hx hl, hd]
  rw [hd] at hD
  obtain ⟨r1, r2, r3, r4⟩ := hx.rng _ (List.getLast_mem hl)
  have hGD := getLastD_eq hl
  have hoff : offB x.n x.s (x.l.getLastD 0) = true := (offB_iff _ _ _).2 (by rw [hGD]; exact ⟨r1, r2, r4⟩)
  have hP := mk_pop B x w h
  unfold MkPost at hP
  rw [show (!x.l.isEmpty) = true from by simp [hl]] at hP
  have hT : ∀ w', IsMk w' B { x with l := x.l.dropLast } → Calls Try.prog 81 #[.pointer (some ⟨B + 3, 0, none⟩), .int .i64 (x.l.getLastD 0), .bool true] w' (MkPost w' B x.took (.bool true)) := fun w' hI => mk_scan B (x.l.getLastD 0) { x with l := x.l.dropLast } w' hI hoff
  have hlt := h.lt
  clear hGD hoff r1 r2 r3 r4 hx hd
  generalize x.took = y at *
  generalize x.l.getLastD 0 = b at *
  have HhD := Lib.hid hD; clear hD
  have HhP := Lib.hid hP; clear hP
  have HhT := Lib.hid hT; clear hT
  have Hh := Lib.hid h; clear h
  have Hhn := Lib.hid hn; clear hn
  have Hhl := Lib.hid hl; clear hl
  go_enter Try.func62, Try.ntmps62
  go_wp2_with fail
  refine wp_scope_loop 0 (fun a' w' => False) (fun _ _ => 0) rfl (fun _ _ h => h.elim) ?_
  intro H
  clear H
  go_wp2_with (go_at_call 83; (with_reducible refine HhD.out.mono ?_); rintro e w3 ⟨rfl, rfl⟩)
  refine HhP.out.mono ?_
  rintro e w1 ⟨rfl, hI1, hu1, hz1⟩
  obtain ⟨d0, d1, d2⟩ := hI1.cells
  have hS := HhT.out w1 hI1
  unfold MkPost at hS
  have HhS := Lib.hid hS; clear hS
  have Hhu1 := Lib.hid hu1; clear hu1
  have Hhz1 := Lib.hid hz1; clear hz1
  clear hI1 c0 c1 c2 HhP HhT
  go_wp2_with fail
  refine HhS.out.mono ?_
  rintro e w2 ⟨rfl, hI2, hu2, hz2⟩
  have hu12 := Hhu1.out.trans hu2
  have HhI2 := Lib.hid hI2; clear hI2
  have Hhu12 := Lib.hid hu12; clear hu12
  clear hu2 hz2 d0 d1 d2 HhS
  go_wp2_with fail
  simp only [Exit.jump]
  go_ret
  exact ⟨rfl, HhI2.out, Hhu12.out⟩

set_option maxRecDepth 100000 in
set_option maxHeartbeats 1000000 in
theorem step_refs (B : Nat) (x : Mk) (w : World) (h : IsMk w B x) (hx : Ok x) (hn : x.n ≤ 1048576) (tp : Addr) (refs : Int → List Int)
    (hrefs : ∀ w', Upd (InMk B) w w' → ∀ b : Int, Calls Try.prog 61 #[.int .i64 b, .pointer (some tp)] w' (RefPost w' (refs b))) (hrb : ∀ b, (refs b).length ≤ 1000) (hl : x.l ≠ []) :
    Calls Try.prog 62 #[.pointer (some ⟨B + 5, 0, none⟩), .func (.func 61) #[] #[.pointer (some tp)]] w (StepPost w B x refs) := by
  obtain ⟨c0, c1, c2⟩ := h.cells
  have hneq := run_func_nil 61 #[.pointer (some tp)]
  have hD := mark_Done B x w h
  have hd : x.done = false := by
    cases hd : x.done
    · rfl
    · exact absurd ((done_iff x).1 hd).1 hl
  unfold StepPost
  rw [step_took hx hl, hd]
  rw [hd] at hD
  obtain ⟨r1, r2, r3, r4⟩ := hx.rng _ (List.getLast_mem hl)
  have hGD := getLastD_eq hl
  have hoff : offB x.n x.s (x.l.getLastD 0) = true := (offB_iff _ _ _).2 (by rw [hGD]; exact ⟨r1, r2, r4⟩)
  have hP := mk_pop B x w h
  unfold MkPost at hP
  rw [show (!x.l.isEmpty) = true from by simp [hl]] at hP
  have hT : ∀ w', IsMk w' B { x with l := x.l.dropLast } → Calls Try.prog 81 #[.pointer (some ⟨B + 3, 0, none⟩), .int .i64 (x.l.getLastD 0), .bool true] w' (MkPost w' B x.took (.bool true)) := fun w' hI => mk_scan B (x.l.getLastD 0) { x with l := x.l.dropLast } w' hI hoff
  have hlt := h.lt
  have hrefs := fun w' u => hrefs w' u (x.l.getLastD 0)
  have hrb := hrb (x.l.getLastD 0)
  generalize refs (x.l.getLastD 0) = rs at *
  have Hhrefs := Lib.hid hrefs; clear hrefs
  clear hGD hoff r1 r2 r3 r4 hx hd
  generalize x.took = y at *
  generalize x.l.getLastD 0 = b at *
  have HhD := Lib.hid hD; clear hD
  have HhP := Lib.hid hP; clear hP
  have HhT := Lib.hid hT; clear hT
  have Hh := Lib.hid h; clear h
  have Hhn := Lib.hid hn; clear hn
  have Hhl := Lib.hid hl; clear hl
  go_enter Try.func62, Try.ntmps62
  go_wp2_with fail
  refine wp_scope_loop 0 (fun a' w' => False) (fun _ _ => 0) rfl (fun _ _ h => h.elim) ?_
  intro H
  clear H
  go_wp2_with (go_at_call 83; (with_reducible refine HhD.out.mono ?_); rintro e w3 ⟨rfl, rfl⟩)
  refine HhP.out.mono ?_
  rintro e w1 ⟨rfl, hI1, hu1, hz1⟩
  obtain ⟨d0, d1, d2⟩ := hI1.cells
  have hS := HhT.out w1 hI1
  unfold MkPost at hS
  have HhS := Lib.hid hS; clear hS
  have Hhu1 := Lib.hid hu1; clear hu1
  have Hhz1 := Lib.hid hz1; clear hz1
  clear hI1 c0 c1 c2 HhP HhT
  go_wp2_with fail
  refine HhS.out.mono ?_
  rintro e w2 ⟨rfl, hI2, hu2, hz2⟩
  have hu12 := Hhu1.out.trans hu2
  have HhI2 := Lib.hid hI2; clear hI2
  have Hhu12 := Lib.hid hu12; clear hu12
  clear hu2 hz2 d0 d1 d2 HhS
  have hcall := Hhrefs.out w2 Hhu12.out
  have hzz : B + 5 < w2.heap.size := by have := Hhu12.out.size; omega
  go_wp2_with fail
  refine hcall.mono ?_
  rintro e w3 ⟨v, rfl, ho, hu3⟩
  obtain ⟨va, vc, rfl⟩ := ownsRow_shape ho
  have hI3 := HhI2.out.still hu3
  have hu13 : Upd (InMk B) w w3 := Hhu12.out.trans (hu3.mono (fun _ _ h => h.elim))
  have hrI : (rs.length : Int) ≤ 1000 := by omega
  clear hcall hrb
  have Hho := Lib.hid ho; clear ho
  have HhI3 := Lib.hid hI3; clear hI3
  have Hhu13 := Lib.hid hu13; clear hu13
  have Hhu3 := Lib.hid hu3; clear hu3
  clear HhI2 Hhu12
  go_wp2_with fail
  go_loopw [35] (fun i wr => ∃ k : Nat, i = .int .i64 k ∧ k ≤ rs.length ∧ IsMk wr B ((rs.take k).foldl Mk.shade y) ∧ wr.ownsRow w2.heap.size 3 1 (.slice va rs.length vc) rs.length (ints rs) ∧ Upd (InMk B) w wr) (fun i _ => (rs.length - intOf i).toNat)
  case atStart => exact ⟨0, rfl, Nat.zero_le _, HhI3.out, Hho.out, Hhu13.out⟩
  case round =>
    obtain ⟨k, rfl, hk, hI, hO, hu⟩ := hrel
    by_cases hkl : k = rs.length
    · have d1 : ¬ ((k : Int) < rs.length) := by omega
      rw [hkl, List.take_length] at hI
      have HhI := Lib.hid hI; clear hI
      have Hhu := Lib.hid hu; clear hu
      clear hkl hO
      go_wp2
      simp only [Exit.jump]
      go_ret
      exact ⟨rfl, HhI.out, Hhu.out⟩
    · have d1 : (k : Int) < rs.length := by omega
      have d2 : k < rs.length := by omega
      obtain ⟨g, hix, hg, -, hcell0, -, hgb⟩ := ownsRow_index hO (P := Try.prog) Try.underlying37 (by kernel_rfl) (by kernel_rfl) d2
      have hcell : wr.cell? ⟨g, k, none⟩ = some (.int .i64 (rs.getD k 0)) := by
        rw [hcell0]
        simp [ints, List.getD, d2]
      have hst : (rs.take (k + 1)).foldl Mk.shade y = ((rs.take k).foldl Mk.shade y).shade (rs.getD k 0) := by
        rw [List.take_succ_eq_append_getElem d2, List.foldl_append]
        simp [List.getD, d2]
      have hSh := mark_Shade B (rs.getD k 0) _ wr hI
      unfold MkPost at hSh
      rw [← hst] at hSh
      generalize rs.getD k 0 = r at *
      generalize offB ((rs.take k).foldl Mk.shade y).n ((rs.take k).foldl Mk.shade y).m r = bb at *
      have HhSh := Lib.hid hSh; clear hSh
      have Hhu := Lib.hid hu; clear hu
      have HhO := Lib.hid hO; clear hO
      clear hst hI hcell0 hkl hgb
      go_wp2_with (go_at_call 60; (with_reducible refine HhSh.out.mono ?_); rintro e w4 ⟨rfl, hI4, hu4, hz4⟩; have HI4 := Lib.hid hI4; have Hu4 := Lib.hid hu4; clear hI4 hu4 hz4)
      go_roundw
      case rel => exact ⟨k + 1, by go_num, by omega, HI4.out, ownsRow_upd HhO.out Hu4.out (fun i hi e => by have := e.2; omega), Hhu.out.trans Hu4.out⟩
      case measure => simp [intOf]; omega

end Go.Proofs.Ythaicpjgmplgcaa
