/- Laws of chapter 19: the common part. -/
import Derived.Test.YthaicpjgmplgcaaMarkRefs
import Derived.Test.YthaicpjgmplgcaaAwake5
namespace Go.Proofs.Ythaicpjgmplgcaa
open Go.RowKit
set_option linter.unusedVariables false

/-- The function of a table's references. -/
def refsFn (bx : Nat) : Value := .func (.func 61) #[] #[.pointer (some ⟨bx, 0, none⟩)]
def RefsPost (w : World) (v : Value) (e : Ending) (w' : World) : Prop := ∃ bx, e = .returned (refsFn bx) ∧ w'.cell? ⟨bx, 0, none⟩ = some v ∧ w.heap.size ≤ bx ∧ bx < w'.heap.size ∧ Upd (fun _ => False) w w'
theorem law_refs (a : Option Addr) (n c : Nat) (w : World) : Calls Try.prog 34 #[.slice a n c] w (RefsPost w (.slice a n c)) := by
  generalize hv : Value.slice a n c = v
  have hfin : RefsPost w v (.returned (refsFn w.heap.size)) (w.alloc (.cells #[v] 52)) :=
    ⟨_, rfl, by simp, Nat.le_refl _, by simp, (Upd.refl _ _).alloc _⟩
  unfold refsFn at hfin
  rw [← hv] at hfin ⊢
  have Hhfin := Lib.hid hfin; clear hfin
  clear hv
  go_enter Try.func34, Try.ntmps34
  go_wp2
  go_ret
  exact Hhfin.out

theorem mark_Step_refs (B : Nat) (x : Mk) (w : World) (h : IsMk w B x) (hx : Ok x) (hn : x.n ≤ 1048576) (bx : Nat) (refs : Int → List Int)
    (hrefs : ∀ w', Upd (InMk B) w w' → ∀ b : Int, Calls Try.prog 61 #[.int .i64 b, .pointer (some ⟨bx, 0, none⟩)] w' (RefPost w' (refs b))) (hrb : ∀ b, (refs b).length ≤ 1000) :
    Calls Try.prog 62 #[.pointer (some ⟨B + 5, 0, none⟩), refsFn bx] w (StepPost w B x refs) := by
  by_cases hl : x.l = []
  · exact step_rest B x w h hn refs hl _
  · exact step_refs B x w h hx hn ⟨bx, 0, none⟩ refs hrefs hrb hl
theorem mark_Step_table (B : Nat) (x : Mk) (w : World) (h : IsMk w B x) (hx : Ok x) (hn : x.n ≤ 1048576) (bx : Nat) (v : Value) (tt : List (List Int)) (hc : w.cell? ⟨bx, 0, none⟩ = some v) (hbx : ¬ InMk B bx)
    (hM : ∀ w', Upd (InMk B) w w' → MatIn w' v tt) (h70 : tt.length ≤ 1000) (h30 : ∀ l ∈ tt, l.length ≤ 1000) :
    Calls Try.prog 62 #[.pointer (some ⟨B + 5, 0, none⟩), refsFn bx] w (StepPost w B x (refsOf tt)) := by
  refine mark_Step_refs B x w h hx hn bx _ (fun w' u b => ?_) (fun b => ?_)
  · refine law_refs1 b _ v tt w' ?_ (hM w' u) h70 h30
    exact (World.cell?_of_block (a := ⟨bx, 0, none⟩) (u.block bx (World.block_lt_of_cell? w _ hc) hbx)).trans hc
  · unfold refsOf
    split
    · by_cases hb : b.toNat < tt.length
      · exact h30 _ (by simp [List.getD, hb])
      · simp [List.getD, Nat.le_of_not_lt hb]
    · simp
theorem mark_Step_nilF (B : Nat) (x : Mk) (w : World) (h : IsMk w B x) (hx : Ok x) (hn : x.n ≤ 1048576) :
    Calls Try.prog 62 #[.pointer (some ⟨B + 5, 0, none⟩), .nilFunc] w (StepPost w B x (fun _ => [])) := by
  by_cases hl : x.l = []
  · exact step_rest B x w h hn _ hl _
  · exact step_nil B x w h hx hn hl

theorem mark_Step_none (RF : Value) (w : World) : Calls Try.prog 62 #[.pointer none, RF] w (Same w (.bool false)) := by
  have hD := Lib.hid (mark_nil 0 w).2.2.1
  go_enter Try.func62, Try.ntmps62
  go_wp2_with fail
  refine wp_scope_loop 0 (fun a' w' => False) (fun _ _ => 0) rfl (fun _ _ h => h.elim) ?_
  intro H
  clear H
  go_wp2_with (go_at_call 83; (with_reducible refine hD.out.mono ?_); rintro e w3 ⟨rfl, rfl⟩)
  simp only [Exit.jump]
  go_ret
  exact ⟨rfl, rfl⟩

def refsA (b : Int) : List Int := if b = 0 then [1, 2] else []
def awk0 : Mk := (⟨3, fun _ => false, fun _ => false, [], 1, false⟩ : Mk).shade 0
def awk : Nat → Mk
  | 0 => awk0
  | k + 1 => (awk k).step refsA
theorem awk_n (k : Nat) : (awk k).n = 3 ∧ Ok (awk k) := by
  induction k with
  | zero => exact ⟨by decide, ok_shade (ok_new 3 1 (Nat.le_refl _)) 0⟩
  | succ k ih =>
    obtain ⟨h1, h2⟩ := ih
    refine ⟨?_, step_ok h2 refsA⟩
    show ((awk k).step refsA).n = 3
    rcases step_cases (awk k) with hd | hl | ⟨hl, ho⟩
    · rw [step_done hd]; exact h1
    · rw [step_took h2 hl, (shades_same _ _).1]; exact h1
    · rw [step_again hl ho, (again_ok h2 hl).2.1]; exact h1
end Go.Proofs.Ythaicpjgmplgcaa
