/- A map that keeps a set of numbers. -/
import Derived.Test.YthaicpjgmplgcaaKeepP
import Derived.Maps.Own
namespace Go.Proofs.Ythaicpjgmplgcaa
open Go.RowKit Go.Maps
set_option linter.unusedVariables false

theorem mapLaw : Keyed Try.prog 3 := int_keyed Try.underlying3
theorem zeroI (w : World) : (zeroValue 3).run Try.prog w = .ok (.int .i64 0) w := by kernel_rfl
/-- Block bm is a map in which no number but those of S has a value. -/
def KMap (w : World) (bm : Nat) (S : List Int) : Prop :=
  ∃ (n : Nat) (D : DataW Unit), n ≤ S.length ∧ w.ownsMap Try.prog 3 (plainElem Try.prog 3) bm n D ∧ ∀ x, x ∉ S → D.atKey (.int .i64 x) (.lit (.int .i64 0)) = .lit (.int .i64 0)
theorem KMap.new (w : World) : KMap (w.alloc (.map #[] 0)) w.heap.size [] := ⟨0, .map [], Nat.le_refl _, World.ownsMap_made _ _ _ _, fun x _ => by simp [DataW.atKey]⟩
theorem KMap.lt {w : World} {bm : Nat} {S : List Int} (h : KMap w bm S) : bm < w.heap.size := by
  obtain ⟨n, D, -, h1, -⟩ := h
  exact h1.lt
theorem KMap.upd {w w' : World} {bm : Nat} {S : List Int} (h : KMap w bm S) {T : Nat → Prop} (u : Upd T w w') (hT : ¬ T bm) : KMap w' bm S := by
  obtain ⟨n, D, h0, h1, h2⟩ := h
  have hl := h1.lt
  obtain ⟨es, clock, hb, r⟩ := h1
  exact ⟨n, D, h0, ⟨es, clock, by rw [u.block bm hl hT]; exact hb, r⟩, h2⟩
theorem wpList_kput {w : World} {ops : Array Oper} {rest : List Oper} {o : Oper} {a : Act} {Q : Exit → Act → World → Prop} (hg : o.guard = none) (m x v : Operand) (hop : o.op = Op.mapUpdate 64 m x v)
    (bm : Nat) (S : List Int) (h : KMap w bm S) (hS : S.length ≤ 100000) (hm : a.eval m = .map (some bm)) (y : Int) (hy : (Lit.int .i64 y).wf = true) (hx : a.eval x = .int .i64 y) (hv : a.eval v = .int .i64 1)
    (hK : ∀ w', KMap w' bm (y :: S) → Upd (fun j => j = bm) w w' → wpList Try.prog ops Q rest (a.put o.dst undef) w') : wpList Try.prog ops Q (o :: rest) a w := by
  obtain ⟨n, D, h0, h1, h2⟩ := h
  refine wpList_mapUpdate_own w hg m x v 64 hop 3 3 mapLaw Try.underlying64 _ bm n D hm h1 (by unfold maxLen; omega) _ _ (.int .i64 y) hx hv (keyOf_int_mk Try.underlying3 hy) _ [] (plainElem_int Try.underlying3 (by decide)) ?_
  intro w' h3 h4
  refine hK w' ⟨n + 1, _, by simp; omega, h3, fun z hz => ?_⟩ ((Upd.refl _ _).grown h4 (fun k e hk => by cases e; rfl))
  have hne : z ≠ y := fun e => hz (by simp [e])
  rw [atKey_put_other (by intro e; cases e; exact hne rfl)]
  exact h2 z (fun e => hz (by simp [e]))
theorem wpList_klook {w : World} {ops : Array Oper} {rest : List Oper} {o : Oper} {a : Act} {Q : Exit → Act → World → Prop} (hg : o.guard = none) (m x : Operand) (hop : o.op = Op.lookup 64 m x false)
    (bm : Nat) (S : List Int) (h : KMap w bm S) (hm : a.eval m = .map (some bm)) (y : Int) (hy : (Lit.int .i64 y).wf = true) (hx : a.eval x = .int .i64 y) (hyS : y ∉ S)
    (hK : wpList Try.prog ops Q rest (a.put o.dst (.int .i64 0)) w) : wpList Try.prog ops Q (o :: rest) a w := by
  obtain ⟨n, D, h0, h1, h2⟩ := h
  refine wpList_lookup_own_int w hg m x 64 hop 3 3 .i64 mapLaw Try.underlying64 Try.underlying3 (zeroI w) bm n D hm h1 _ (.int .i64 y) hx (keyOf_int_mk Try.underlying3 hy) ?_
  intro c hc hw
  rw [h2 y hyS] at hc
  have : c = 0 := by
    injection hc with e
    injection e with e1 e2
    exact e2.symm
  rw [this]
  exact hK
end Go.Proofs.Ythaicpjgmplgcaa
