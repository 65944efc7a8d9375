/- Laws of chapter 19: the common part. -/
import Derived.Test.YthcimfblmpapeaaMarkRefs
import Derived.Test.YthcimfblmpapeaaAwake5
namespace Go.Proofs.Ythcimfblmpapeaa
open Go.RowKit
set_option linter.unusedVariables false

/-- The function of a table's references. -/
def refsFn (bx : Nat) : Value := .func (.func 53) #[] #[.pointer (some ⟨bx, 0, none⟩)]
def RefsPost (w : World) (v : Value) (e : Ending) (w' : World) : Prop := ∃ bx, e = .returned (refsFn bx) ∧ w'.cell? ⟨bx, 0, none⟩ = some v ∧ w.heap.size ≤ bx ∧ bx < w'.heap.size ∧ Upd (fun _ => False) w w'
theorem law_refs (a : Option Addr) (n c : Nat) (w : World) : Calls Try.prog 37 #[.slice a n c] w (RefsPost w (.slice a n c)) := by
  generalize hv : Value.slice a n c = v
  have hfin : RefsPost w v (.returned (refsFn w.heap.size)) (w.alloc (.cells #[v] 49)) :=
    ⟨_, rfl, by simp, Nat.le_refl _, by simp, (Upd.refl _ _).alloc _⟩
  unfold refsFn at hfin
  rw [← hv] at hfin ⊢
  have Hhfin := Lib.hid hfin; clear hfin
  clear hv
  go_enter Try.func37, Try.ntmps37
  go_wp2
  go_ret
  exact Hhfin.out

theorem mark_Step_refs (B : Nat) (x : Mk) (w : World) (h : IsMk w B x) (hx : Ok x) (hn : x.n ≤ 1048576) (bx : Nat) (refs : Int → List Int)
    (hrefs : ∀ w', Upd (InMk B) w w' → ∀ b : Int, Calls Try.prog 53 #[.int .i64 b, .pointer (some ⟨bx, 0, none⟩)] w' (RefPost w' (refs b))) (hrb : ∀ b, (refs b).length ≤ 1000) :
    Calls Try.prog 38 #[.pointer (some ⟨B + 5, 0, none⟩), refsFn bx] w (StepPost w B x refs) := by
  by_cases hl : x.l = []
  · exact step_rest B x w h hn refs hl _
  · exact step_refs B x w h hx hn ⟨bx, 0, none⟩ refs hrefs hrb hl
theorem mark_Step_table (B : Nat) (x : Mk) (w : World) (h : IsMk w B x) (hx : Ok x) (hn : x.n ≤ 1048576) (bx : Nat) (v : Value) (tt : List (List Int)) (hc : w.cell? ⟨bx, 0, none⟩ = some v) (hbx : ¬ InMk B bx)
    (hM : ∀ w', Upd (InMk B) w w' → MatIn w' v tt) (h70 : tt.length ≤ 1000) (h30 : ∀ l ∈ tt, l.length ≤ 1000) :
    Calls Try.prog 38 #[.pointer (some ⟨B + 5, 0, none⟩), refsFn bx] w (StepPost w B x (refsOf tt)) := by
  refine mark_Step_refs B x w h hx hn bx _ (fun w' u b => ?_) (fun b => ?_)
  · refine law_refs1 b _ v tt w' ?_ (hM w' u) h70 h30
    exact (World.cell?_of_block (a := ⟨bx, 0, none⟩) (u.block bx (World.block_lt_of_cell? w _ hc) hbx)).trans hc
  · unfold refsOf
    split
    · by_cases hb : b.toNat < tt.length
      · exact h30 _ (by simp [List.getD, hb])
      · simp [List.getD, Nat.le_of_not_lt hb]
    · simp
theorem mark_Step_nilF (B : Nat) (x : Mk) (w : World) (h : IsMk w B x) (hx : Ok x) (hn : x.n ≤ 1048576) :
    Calls Try.prog 38 #[.pointer (some ⟨B + 5, 0, none⟩), .nilFunc] w (StepPost w B x (fun _ => [])) := by
  by_cases hl : x.l = []
  · exact step_rest B x w h hn _ hl _
  · exact step_nil B x w h hx hn hl

theorem mark_Step_none (RF : Value) (w : World) : Calls Try.prog 38 #[.pointer none, RF] w (Same w (.bool false)) := by
  have hD := Lib.hid (mark_nil 0 w).2.2.1
  go_enter Try.func38, Try.ntmps38
  go_wp2_with fail
  refine wp_scope_loop 0 (fun a' w' => False) (fun _ _ => 0) rfl (fun _ _ h => h.elim) ?_
  intro H
  clear H
  go_wp2_with (go_at_call 40; (with_reducible refine hD.out.mono ?_); rintro e w3 ⟨rfl, rfl⟩)
  simp only [Exit.jump]
  go_ret
  exact ⟨rfl, rfl⟩

def refsA (b : Int) : List Int := if b = 0 then [1, 2] else []
theorem awk_refs (b : Int) (w : World) : Calls Try.prog 50 #[.int .i64 b] w (RefPost w (refsA b)) := by
  by_cases hb : b = 0
  · subst hb
    have hfin : RefPost w (refsA 0) (.returned (.slice (some ⟨w.heap.size, 0, none⟩) 2 2)) (w.alloc (.cells #[.int .i64 1, .int .i64 2] 3)) :=
      ⟨_, rfl, World.ownsRow_lit (base := w.heap.size) w #[.int .i64 1, .int .i64 2] 2 (Nat.le_refl _) (by decide) rfl, (Upd.refl _ _).alloc _⟩
    have Hhfin := Lib.hid hfin; clear hfin
    go_enter Try.func50, Try.ntmps50
    go_wp2
    go_ret
    exact Hhfin.out
  · have hne : (b == 0) = false := by simp [hb]
    have hfin : RefPost w (refsA b) (.returned (.slice none 0 0)) w := by
      unfold refsA
      rw [if_neg hb]
      exact ⟨_, rfl, World.ownsRow_nil _ _ _ _, Upd.refl _ _⟩
    have Hhfin := Lib.hid hfin; clear hfin
    clear hb
    go_enter Try.func50, Try.ntmps50
    go_wp2
    go_ret
    exact Hhfin.out

def awk0 : Mk := (⟨3, fun _ => false, fun _ => false, [], 1, false⟩ : Mk).shade 0
def awk : Nat → Mk
  | 0 => awk0
  | k + 1 => (awk k).step refsA
theorem awk_n (k : Nat) : (awk k).n = 3 ∧ Ok (awk k) := by
  induction k with
  | zero => exact ⟨by decide, ok_shade (ok_new 3 1 (Nat.le_refl _)) 0⟩
  | succ k ih =>
    obtain ⟨h1, h2⟩ := ih
    refine ⟨?_, step_ok h2 refsA⟩
    show ((awk k).step refsA).n = 3
    rcases step_cases (awk k) with hd | hl | ⟨hl, ho⟩
    · rw [step_done hd]; exact h1
    · rw [step_took h2 hl, (shades_same _ _).1]; exact h1
    · rw [step_again hl ho, (again_ok h2 hl).2.1]; exact h1
theorem mark_Step_awk (B k : Nat) (w : World) (h : IsMk w B (awk k)) :
    Calls Try.prog 38 #[.pointer (some ⟨B + 5, 0, none⟩), .func (.func 50) #[] #[]] w (StepPost w B (awk k) refsA) := by
  obtain ⟨h1, h2⟩ := awk_n k
  by_cases hl : (awk k).l = []
  · exact step_rest B _ w h (by omega) refsA hl _
  · refine step_awk B _ w h h2 (by omega) refsA (fun w' _ b => awk_refs b w') (fun b => ?_) hl
    unfold refsA
    split <;> simp

set_option maxRecDepth 100000 in
set_option maxHeartbeats 1000000 in
theorem awake19 (W w : World) (u : Upd (fun _ => False) W w) : Calls Try.prog 32 #[] w (RetU W (.bool true)) := by
  have hnew := mark_New 3 1 w
  unfold NewPost at hnew
  go_enter Try.func32, Try.ntmps32
  go_wp2_with fail
  refine hnew.mono ?_
  rintro e w1 ⟨rfl, hI, hu1, hz1⟩
  have hI : IsMk w1 w.heap.size ⟨3, fun _ => false, fun _ => false, [], 1, false⟩ := hI
  have hW := u.size
  generalize w.heap.size = B at *
  have hSh := mark_Shade B 0 _ w1 hI
  unfold MkPost at hSh
  rw [show offB 3 (fun _ => false) 0 = true from by decide] at hSh
  have hu01 := u.trans hu1
  have HhSh := Lib.hid hSh; clear hSh
  have Hhu01 := Lib.hid hu01; clear hu01
  have HhW := Lib.hid hW; clear hW
  clear hI hnew hu1 hz1 u
  go_wp2_with fail
  refine HhSh.out.mono ?_
  rintro e w2 ⟨rfl, hI2, hu2, hz2⟩
  have hu2W : Upd (fun _ => False) W w2 := Hhu01.out.own hu2 (fun i e => by have := e.1; have := HhW.out; omega)
  have hI2 : IsMk w2 B (awk 0) := hI2
  have HhI2 := Lib.hid hI2; clear hI2
  have Hhu2W := Lib.hid hu2W; clear hu2W
  clear HhSh hu2 hz2 Hhu01
  go_wp2_with fail
  go_loopw [3] (fun n wr => ∃ k : Nat, n = .int .i64 k ∧ k ≤ 4 ∧ IsMk wr B (awk k) ∧ Upd (fun _ => False) W wr) (fun n _ => (4 - intOf n).toNat)
  case atStart => exact ⟨0, rfl, by omega, HhI2.out, Hhu2W.out⟩
  case round =>
    obtain ⟨k, rfl, hk, hI, hu⟩ := hrel
    have hS := mark_Step_awk B k wr hI
    unfold StepPost at hS
    have c20 : (k : Int) < 20 := by omega
    have kcase : k = 0 ∨ k = 1 ∨ k = 2 ∨ k = 3 ∨ k = 4 := by omega
    by_cases h4 : k = 4
    · subst h4
      rw [show (!(awk 4).done) = false from by decide] at hS
      have hst : (awk 4).step refsA = awk 4 := step_done (by decide) _
      rw [hst] at hS
      have HhS := Lib.hid hS; clear hS
      have Hhu := Lib.hid hu; clear hu
      clear hI hst kcase
      go_wp2_with fail
      refine HhS.out.mono ?_
      rintro e w3 ⟨rfl, hI3, hu3⟩
      have hD := mark_Done B _ w3 hI3
      rw [show (awk 4).done = true from by decide] at hD
      have hM2 := mark_Marked B 2 _ w3 hI3
      rw [show (decide ((0 : Int) ≤ 2 ∧ (2 : Int) < (awk 4).n) && (awk 4).m (2 : Int).toNat) = true from by decide] at hM2
      have hM3 := mark_Marked B 3 _ w3 hI3
      rw [show (decide ((0 : Int) ≤ 3 ∧ (3 : Int) < (awk 4).n) && (awk 4).m (3 : Int).toNat) = false from by decide] at hM3
      have hfin : Upd (fun _ => False) W w3 := Hhu.out.own hu3 (fun i e => by have := e.1; have := HhW.out; omega)
      have HhD := Lib.hid hD; clear hD
      have HhM2 := Lib.hid hM2; clear hM2
      have HhM3 := Lib.hid hM3; clear hM3
      have Hhfin := Lib.hid hfin; clear hfin
      clear hI3 hu3
      go_wp2_with (first
        | (go_at_call 40; ((with_reducible refine HhD.out.mono ?_); rintro e w4 ⟨rfl, rfl⟩))
        | (go_at_call 39; first | ((with_reducible refine HhM2.out.mono ?_); rintro e w4 ⟨rfl, rfl⟩) | ((with_reducible refine HhM3.out.mono ?_); rintro e w4 ⟨rfl, rfl⟩)))
      go_ret
      exact ⟨rfl, Hhfin.out⟩
    · have hdn : (!(awk k).done) = true := by
        rcases kcase with rfl | rfl | rfl | rfl | rfl
        · decide
        · decide
        · decide
        · decide
        · exact absurd rfl h4
      rw [hdn] at hS
      have hS : Calls Try.prog 38 #[.pointer (some ⟨B + 5, 0, none⟩), .func (.func 50) #[] #[]] wr (fun e w' => e = .returned (.bool true) ∧ IsMk w' B (awk (k + 1)) ∧ Upd (InMk B) wr w') := hS
      have HhS := Lib.hid hS; clear hS
      have Hhu := Lib.hid hu; clear hu
      clear hI hdn kcase
      go_wp2_with (go_at_call 38; (with_reducible refine HhS.out.mono ?_); rintro e w3 ⟨rfl, hI3, hu3⟩; have HI3 := Lib.hid hI3; have Hu3 := Lib.hid hu3; clear hI3 hu3)
      go_roundw
      case rel => exact ⟨k + 1, by go_num, by omega, HI3.out, Hhu.out.own Hu3.out (fun i e => by have := e.1; have := HhW.out; omega)⟩
      case measure => simp [intOf]; omega
end Go.Proofs.Ythcimfblmpapeaa
