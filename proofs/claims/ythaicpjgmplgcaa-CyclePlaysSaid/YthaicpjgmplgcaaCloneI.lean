/- slices.Clone of ints. -/
import Derived.Test.YthaicpjgmplgcaaPushL
import Derived.Test.YthaicpjgmplgcaaMarkRefs
import Derived.WalkSpells
namespace Go.Proofs.Ythaicpjgmplgcaa
open Go.RowKit
set_option linter.unusedVariables false

def CloneIPost (w : World) (xs : List Int) (e : Ending) (w' : World) : Prop :=
  ∃ a c, e = .returned (.slice a xs.length c) ∧ w'.ownsRow w.heap.size 3 1 (.slice a xs.length c) xs.length (ints xs) ∧ Upd (fun _ => False) w w'

set_option maxHeartbeats 400000 in
theorem clone_ints (v : Value) (xs : List Int) (w : World) (h : IntsR w v .i64 xs) (hn : xs.length ≤ 1099511627776) :
    Calls Try.prog 77 #[v] w (CloneIPost w xs) := by
  have h0 := h
  obtain ⟨ao, cap, rfl, h1, h2, h3⟩ := (show RowsIn w v 1 xs.length _ from h0)
  cases ao with
  | none =>
    have hz : xs.length = 0 := by
      rcases Nat.eq_zero_or_pos xs.length with h4 | h4
      · exact h4
      · obtain ⟨b, off, k1, -⟩ := h3 h4
        cases k1
    have hx : xs = [] := List.eq_nil_of_length_eq_zero hz
    subst hx
    have heq := fun w' => Lib.run_eql_slice_nil (P := Try.prog) w' 37 3 none 0 cap 0 0 Try.underlying37
    clear h h0 h1 h2 h3 hz hn
    go_enter Try.func77, Try.ntmps77
    go_wp2
    go_ret
    exact ⟨none, 0, rfl, World.ownsRow_nil _ _ _ _, Upd.refl _ _⟩
  | some ad =>
    have heq := fun w' => Lib.run_eql_slice_nil (P := Try.prog) w' 37 3 (some ad) xs.length cap 0 0 Try.underlying37
    have hO := World.ownsRow_lit (base := w.heap.size) (e := 3) (size := 1) w #[] 0 (Nat.le_refl _) (by decide) rfl
    obtain ⟨hm, hc⟩ := ints_cells h
    have hlt : xs.length ≠ 0 → ad.block < w.heap.size := fun hne => by
      obtain ⟨b, off, k1, k2, -⟩ := h3 (by omega)
      cases k1
      exact k2
    obtain ⟨i0, hi, hz0, hz1, hz2⟩ := info_parts infoIntM
    have hca : ∀ j u, (ints xs)[j]? = some u → (w.alloc (.cells #[] 3)).cell? (ad.add j) = some u := by
      intro j u hu
      have h4 := hc j u hu
      have hb : (ad.add j).block = ad.block := by unfold Addr.add; split <;> rfl
      have hjl : j < xs.length := by
        rcases Nat.lt_or_ge j xs.length with h5 | h5
        · exact h5
        · rw [List.getElem?_eq_none (by simpa [ints] using h5)] at hu
          cases hu
      exact (World.cell?_of_block (a := ad.add j) (Below.heap_alloc _ _ _ (by rw [hb]; exact hlt (by omega)))).trans h4
    have hlen : (ints xs).length = xs.length * 1 := by simp [ints]
    have hw1 : ∀ u ∈ ints xs, u.oneCell' = true := by
      intro u hu
      obtain ⟨y, -, rfl⟩ := List.mem_map.1 hu
      rfl
    have h63 : 0 + xs.length ≤ maxLen := by unfold maxLen; omega
    have hby : (0 + xs.length) * 8 ≤ 140737488355328 := by omega
    have hbs : w.heap.size ≤ (w.alloc (.cells #[] 3)).heap.size := by simp
    have Hhca := Lib.hid hca; clear hca
    have Hhi := Lib.hid hi; clear hi
    have Hhz0 := Lib.hid hz0; clear hz0
    have Hhz1 := Lib.hid hz1; clear hz1
    have Hhz2 := Lib.hid hz2; clear hz2
    have Hhw1 := Lib.hid hw1; clear hw1
    have Hhlen := Lib.hid hlen; clear hlen
    have HhO := Lib.hid hO; clear hO
    have Hhc := Lib.hid hc; clear hc
    clear h h0 h1 h2 h3 hm hlt
    go_enter Try.func77, Try.ntmps77
    go_wp2_with (at_builtin; refine wpList_append_own _ rfl _ _ 37 rfl w.heap.size 3 i0 (.int .i64 0) 1 8 Try.underlying37 Hhi.out Hhz0.out Hhz1.out Hhz2.out rfl (by decide) _ _ _ rfl HhO.out ad xs.length cap (ints xs) rfl Hhlen.out Hhca.out Hhw1.out h63 hby hbs ?_; intro v' w1 hown1 hgrow hnil)
    go_ret
    rw [Nat.zero_add] at hown1
    obtain ⟨a', c', rfl⟩ := ownsRow_shape hown1
    refine ⟨a', c', rfl, hown1, ((Upd.refl _ _).alloc _).grown hgrow (fun k hk hlt => ?_)⟩
    have := (HhO.out.lt k hk).1
    omega

theorem run_append_nil {P : Program} (w : World) (t ty e : TypeId) (i : TypeInfo) (a : Option Addr) (n cap c : Nat) (hnc : n ≤ cap) (ht : P.underlying t = some (.slice e)) (hi : P.info? e = some i) :
    (Builtin.append_ #[t, t] ty #[.slice a n cap, .slice none 0 c]).run P w = .ok (.slice a n cap) w := by
  cases a <;> simp [Builtin.append_, run_underlying ht, sizeOf, typeInfo, hi, Builtin.lenOf, Builtin.firstCells, hnc, storeCells]

/-- append(s, x...): s is the call's own row, x any ints. -/
theorem wpList_appendOnto {P : Program} {w : World} {ops : Array Oper} {rest : List Oper} {o : Oper} {a : Act} {Q : Exit → Act → World → Prop} (hgd : o.guard = none) (s x : Operand) (t e : TypeId)
    (ho : o.op = .call { callee := .builtin .append, args := #[s, x], argTypes := #[t, t] }) (z : Value) (bytes : Nat) (ht : P.underlying t = some (.slice e)) (hinfo : (P.info? e).map (fun i => (i.zero, i.size, i.bytes)) = some (some z, 1, bytes)) (hzs : z.cells.size = 1)
    (B : Nat) (v : Value) (n : Nat) (us : List Value) (hs : a.eval s = v) (hown : w.ownsRow B e 1 v n us) (ao : Option Addr) (m c : Nat) (k : IntKind) (xs : List Int) (hm : m = xs.length) (hx : a.eval x = .slice ao m c) (hin : IntsR w (.slice ao m c) k xs)
    (hn : n + m ≤ 1099511627776) (hb : bytes ≤ 64) (hbase : B ≤ w.heap.size)
    (h : ∀ a' c' w', w'.ownsRow B e 1 (.slice a' (n + m) c') (n + m) (us ++ xs.map (Value.int k)) → w.grownBy w' v.ownBlock → wpList P ops Q rest (a.put o.dst (.slice a' (n + m) c')) w') : wpList P ops Q (o :: rest) a w := by
  subst hm
  obtain ⟨i0, hi, hz0, hz1, hz2⟩ := info_parts hinfo
  cases ao with
  | none =>
    have h0 : xs.length = 0 := by
      obtain ⟨a', cap, g1, g2, g3, g4⟩ := hin
      rcases Nat.eq_zero_or_pos xs.length with h0 | h0
      · exact h0
      · obtain ⟨b, off, k1, -⟩ := g4 h0
        cases g1
        cases k1
    have hxs : xs = [] := List.eq_nil_of_length_eq_zero h0
    subst hxs
    obtain ⟨a1, c1, rfl⟩ := ownsRow_shape hown
    have hcap : n ≤ c1 := by
      rcases hown.2 with ⟨e1, e2⟩ | ⟨g, cap, cur, e1, -, -, e2, -⟩
      · omega
      · have := (Value.slice.inj e1).2.2
        omega
    refine wpList_plain hgd fun K hK' => ?_
    have hrun := run_append_nil (P := P) w t o.type e i0 a1 n c1 c hcap ht hi
    have hx : a.eval x = .slice none 0 c := hx
    unfold Oper.wp
    simp [execOp, ho, resolve, invoke, builtin, hs, hx, hrun, Result.andThen]
    exact hK' _ _ (h a1 c1 w (by simpa using hown) ((World.grownBy.refl _ _)))
  | some ad =>
    obtain ⟨hm, hc⟩ := ints_cells hin
    refine wpList_append_own w hgd s x t ho B e i0 z 1 bytes ht hi hz0 hz1 hz2 hzs (by decide) v n us hs hown ad xs.length c (xs.map (Value.int k)) hx (by simp) hc ?_ ?_ ?_ hbase ?_
    · intro u hu
      obtain ⟨y, -, rfl⟩ := List.mem_map.1 hu
      rfl
    · unfold maxLen; omega
    · have := Nat.mul_le_mul hn hb
      omega
    · intro v' w' h2 h3 _
      obtain ⟨a', c', rfl⟩ := ownsRow_shape h2
      exact h a' c' w' h2 h3
end Go.Proofs.Ythaicpjgmplgcaa
