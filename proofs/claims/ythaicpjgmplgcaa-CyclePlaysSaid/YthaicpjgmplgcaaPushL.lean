/- append of one element to a row of the call's own, told where the row lies then. -/
import Derived.Test.YthaicpjgmplgcaaRows
import Derived.Test.YthaicpjgmplgcaaStep
import Derived.Deep.AppendLies
namespace Go.Proofs.Ythaicpjgmplgcaa
open Go.RowKit
set_option linter.unusedVariables false

theorem infoIntM : (Try.prog.info? 3).map (fun i => (i.zero, i.size, i.bytes)) = some (some (.int .i64 0), 1, 8) := by kernel_rfl
theorem wpList_pushL {P : Program} {w : World} {ops : Array Oper} {rest : List Oper} {o : Oper} {a : Act} {Q : Exit → Act → World → Prop} (hgd : o.guard = none) (s x : Operand) (t e : TypeId)
    (ho : o.op = .call { callee := .builtin .append, args := #[s, x], argTypes := #[t, t] }) (z : Value) (bytes : Nat) (ht : P.underlying t = some (.slice e)) (hinfo : (P.info? e).map (fun i => (i.zero, i.size, i.bytes)) = some (some z, 1, bytes)) (hzs : z.cells.size = 1)
    (B : Nat) (v : Value) (n : Nat) (xs : List Value) (hs : a.eval s = v) (hown : w.ownsRow B e 1 v n xs) (g c : Nat) (y : Value) (hx : a.eval x = .slice (some ⟨g, 0, none⟩) 1 c) (hcell : w.cell? ⟨g, 0, none⟩ = some y) (hy : y.oneCell' = true)
    (hn : n ≤ 1099511627776) (hb : bytes ≤ 64) (hbase : B ≤ w.heap.size)
    (h : ∀ g' c' w', w'.ownsRow B e 1 (.slice (some ⟨g', 0, none⟩) (n + 1) c') (n + 1) (xs ++ [y]) → w.grownBy w' v.ownBlock → (v.ownBlock = some g' ∨ g' = w.heap.size) → wpList P ops Q rest (a.put o.dst (.slice (some ⟨g', 0, none⟩) (n + 1) c')) w') : wpList P ops Q (o :: rest) a w := by
  obtain ⟨i0, hi, hz0, hz1, hz2⟩ := info_parts hinfo
  refine wpList_append_lies w hgd s x t ho B e i0 z 1 bytes ht hi hz0 hz1 hz2 hzs (by decide) v n xs hs hown ⟨g, 0, none⟩ 1 c [y] hx rfl ?_ ?_ (by decide) ?_ ?_ hbase w.heap.size rfl (fun g' c' w' h1 h2 h3 _ => h g' c' w' h1 h2 h3)
  · intro j u hj
    match j, hj with
    | 0, hj => simp at hj; subst hj; exact hcell
    | j + 1, hj => simp at hj
  · intro u hu; simp at hu; subst hu; exact hy
  · unfold maxLen; omega
  · have h1 : n + 1 ≤ 1099511627777 := by omega
    have := Nat.mul_le_mul h1 hb
    omega

end Go.Proofs.Ythaicpjgmplgcaa
