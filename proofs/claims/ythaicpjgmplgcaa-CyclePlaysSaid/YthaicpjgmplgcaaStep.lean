/- An append of one value onto a row of the call's own, inside a drawn region. -/
import Derived.Test.YthaicpjgmplgcaaOpen
import Derived.Deep.AppendLies
import Derived.Deep.RegionLaw
import Derived.Deep.RegionHeld3
namespace Go.Proofs.Ythaicpjgmplgcaa
open Go.RowKit
set_option linter.unusedVariables false

/-- The post is laid aside while a region is walked. -/
theorem wp_hide {P : Program} {c : Code} {Q : Exit → Act → World → Prop} {a : Act} {w : World} (h : ∀ Q', Hid (Q' = Q) → c.wp P Q' a w) : c.wp P Q a w := h Q (Lib.hid rfl)

theorem step_push {P : Program} {w : World} {ops : Array Oper} {o : Oper} {a : Act} {K : Act → World → Prop} {Q : Exit → Act → World → Prop} {E' : Prop} (hgd : o.guard = none) (s x : Operand) (t e : TypeId)
    (ho : o.op = .call { callee := .builtin .append, args := #[s, x], argTypes := #[t, t] }) (z : Value) (bytes : Nat) (ht : P.underlying t = some (.slice e)) (hinfo : (P.info? e).map (fun i => (i.zero, i.size, i.bytes)) = some (some z, 1, bytes)) (hzs : z.cells.size = 1)
    (B : Nat) (v : Value) (n : Nat) (xs : List Value) (hs : a.eval s = v) (hown : w.ownsRow B e 1 v n xs) (g c : Nat) (y : Value) (hx : a.eval x = .slice (some ⟨g, 0, none⟩) 1 c) (hcell : w.cell? ⟨g, 0, none⟩ = some y) (hy : y.oneCell' = true)
    (hn : n ≤ 1099511627776) (hb : bytes ≤ 64) (hbase : B ≤ g)
    (h : ∀ a' c' w', w'.ownsRow B e 1 (.slice a' (n + 1) c') (n + 1) (xs ++ [y]) → w.grownBy w' v.ownBlock → K (a.put o.dst (.slice a' (n + 1) c')) w') :
    if Region.wanted o (yielded ops a.tmps) = true then Oper.wp P o a w K Q else E' := by
  obtain ⟨i0, hi, hz0, hz1, hz2⟩ := info_parts hinfo
  refine step_append_lies _ hgd s x t ho B e i0 z 1 bytes ht hi hz0 hz1 hz2 hzs (by decide) v n xs hs hown ⟨g, 0, none⟩ 1 c [y] hx rfl ?_ ?_ (by decide) ?_ ?_ (by have := World.block_lt_of_cell? w _ hcell; simp only at this; omega) w.heap.size rfl ?_
  · intro j u hj
    match j, hj with
    | 0, hj => simp at hj; subst hj; exact hcell
    | j + 1, hj => simp at hj
  · intro u hu; simp at hu; subst hu; exact hy
  · unfold maxLen; omega
  · have h1 : n + 1 ≤ 1099511627777 := by omega
    have := Nat.mul_le_mul h1 hb
    omega
  · intro g' c' w' h2 h3 _ _
    exact h _ c' w' h2 h3
theorem ints_cells {w : World} {ad : Addr} {n c : Nat} {k : IntKind} {xs : List Int} (h : IntsR w (.slice (some ad) n c) k xs) : n = xs.length ∧ ∀ j u, (xs.map (Value.int k))[j]? = some u → w.cell? (ad.add j) = some u := by
  obtain ⟨a, cap, h1, -, -, h4⟩ := h
  injection h1 with h1 h2 h3
  refine ⟨h2, fun j u hj => ?_⟩
  have hl : j < xs.length := by
    have := (List.getElem?_eq_some_iff.1 hj).1
    simpa using this
  obtain ⟨b, off, g1, -, g3⟩ := h4 (by omega)
  rw [← h1] at g1
  injection g1 with g1
  subst g1
  have := g3 j hl 0 (by decide)
  simp only [Nat.mul_one, Nat.add_zero] at this
  have e : (⟨b, off, none⟩ : Addr).add j = ⟨b, off + j, none⟩ := by unfold Addr.add; split <;> simp_all
  rw [e, this]
  simp [List.getElem?_eq_getElem hl] at hj
  simp [List.getD, hl, hj]

/-- append(nil, s...): the ints of s, in a row of the call's own. -/
theorem wpList_appendInts {P : Program} {w : World} {ops : Array Oper} {rest : List Oper} {o : Oper} {a : Act} {Q : Exit → Act → World → Prop} (hgd : o.guard = none) (s x : Operand) (t e : TypeId)
    (ho : o.op = .call { callee := .builtin .append, args := #[s, x], argTypes := #[t, t] }) (z : Value) (bytes : Nat) (ht : P.underlying t = some (.slice e)) (hinfo : (P.info? e).map (fun i => (i.zero, i.size, i.bytes)) = some (some z, 1, bytes)) (hzs : z.cells.size = 1)
    (hs : a.eval s = .slice none 0 0) (ad : Addr) (m c : Nat) (k : IntKind) (xs : List Int) (hx : a.eval x = .slice (some ad) m c) (hin : IntsR w (.slice (some ad) m c) k xs)
    (hn : m ≤ 1099511627776) (hb : bytes ≤ 64)
    (h : ∀ a' c' w', w'.ownsRow w.heap.size e 1 (.slice a' m c') m (xs.map (Value.int k)) → w.grownBy w' none → wpList P ops Q rest (a.put o.dst (.slice a' m c')) w') : wpList P ops Q (o :: rest) a w := by
  obtain ⟨i0, hi, hz0, hz1, hz2⟩ := info_parts hinfo
  obtain ⟨hm, hc⟩ := ints_cells hin
  refine wpList_append_own w hgd s x t ho w.heap.size e i0 z 1 bytes ht hi hz0 hz1 hz2 hzs (by decide) (.slice none 0 0) 0 [] hs (World.ownsRow_nil _ _ _ _) ad m c (xs.map (Value.int k)) hx (by simp [hm]) hc ?_ ?_ ?_ (Nat.le_refl _) ?_
  · intro u hu
    obtain ⟨y, -, rfl⟩ := List.mem_map.1 hu
    rfl
  · unfold maxLen; omega
  · have h1 : 0 + m ≤ 1099511627777 := by omega
    have := Nat.mul_le_mul h1 hb
    omega
  · intro v' w' h2 h3 _
    rw [Nat.zero_add, List.nil_append] at h2
    obtain ⟨a', c', rfl⟩ := ownsRow_shape h2
    exact h a' c' w' h2 h3
end Go.Proofs.Ythaicpjgmplgcaa
