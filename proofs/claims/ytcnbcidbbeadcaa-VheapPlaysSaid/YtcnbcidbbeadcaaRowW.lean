/- Rows of words; SameWords; append of any words. -/
import Derived.Test.YtcnbcidbbeadcaaPushL
import Derived.Test.YtcnbcidbbeadcaaHead
import Derived.Test.YtcnbcidbbeadcaaWord
import Derived.Test.YtcnbcidbbeadcaaKind
import Derived.WalkSpells
namespace Go.Proofs.Ytcnbcidbbeadcaa
open Go.RowKit Go.Deep
set_option linter.unusedVariables false
def RetU (w : World) (v : Value) (e : Ending) (w' : World) : Prop := e = .returned v ∧ Upd (fun _ => False) w w'
def words (ws : List Nat) : List Value := ws.map fun (x : Nat) => Value.int .u64 (x : Int)
/-- A slice of words. -/
def WordsR (w : World) (v : Value) (ws : List Nat) : Prop := RowsIn w v 1 ws.length (fun i _ => .int .u64 ((ws.getD i 0 : Nat) : Int)) ∧ ∀ x ∈ ws, x < 2 ^ 64
theorem WordsR.upd {w w' : World} {v : Value} {ws : List Nat} (h : WordsR w v ws) (u : Below w.heap.size w w') : WordsR w' v ws := ⟨h.1.upd u, h.2⟩
theorem WordsR.at {w : World} {v : Value} {ws : List Nat} (h : WordsR w v ws) {j : Nat} (hj : j < ws.length) :
    ∃ b off, (∀ w', (Instr.indexAt 29 v (.int .i64 (j : Int))).run Try.prog w' = .ok (.pointer (some ⟨b, off + j, none⟩)) w') ∧ b < w.heap.size ∧ w.cell? ⟨b, off + j, none⟩ = some (.int .u64 ((ws.getD j 0 : Nat) : Int)) ∧ ws.getD j 0 < 2 ^ 64 := by
  obtain ⟨b, off, h1, h2, h3⟩ := h.1.index (P := Try.prog) Try.underlying29 (by kernel_rfl) (by kernel_rfl) hj
  simp only [Nat.mul_one] at h1 h3
  exact ⟨b, off, h1, h2, h3 0 (by decide), h.2 _ (by simp [List.getD, hj])⟩
theorem ownsRow_words {w : World} {B : Nat} {v : Value} {ws : List Nat} (h : w.ownsRow B 24 1 v ws.length (words ws)) (hlt : ∀ x ∈ ws, x < 2 ^ 64) : WordsR w v ws := by
  refine ⟨?_, hlt⟩
  have e : words ws = (ws.map fun (x : Nat) => (x : Int)).map (Value.int .u64) := by simp [words]
  have h2 : w.ownsRow B 24 1 v (ws.map fun (x : Nat) => (x : Int)).length ((ws.map fun (x : Nat) => (x : Int)).map (Value.int .u64)) := by
    rw [← e, List.length_map]; exact h
  have h3 := ownsRow_intsR h2
  unfold IntsR at h3
  rw [List.length_map] at h3
  obtain ⟨a, cap, h4, h5, h6, h7⟩ := h3
  refine ⟨a, cap, h4, h5, h6, fun hn => ?_⟩
  obtain ⟨b, off, g1, g2, g3⟩ := h7 hn
  refine ⟨b, off, g1, g2, fun i hi j hj => ?_⟩
  rw [g3 i hi j hj]
  simp [List.getD, hi]
theorem same_stepN (a b : List Nat) (k : Nat) (ha : k < a.length) (hl : a.length = b.length) (h : a.take k = b.take k) (hx : a.getD k 0 = b.getD k 0) : a.take (k + 1) = b.take (k + 1) := by
  rw [List.take_succ_eq_append_getElem ha, List.take_succ_eq_append_getElem (by omega), h]
  rw [List.getD_eq_getElem?_getD, List.getD_eq_getElem?_getD, List.getElem?_eq_getElem ha, List.getElem?_eq_getElem (by omega)] at hx
  simp only [Option.getD_some] at hx
  rw [hx]
theorem same_noN (a b : List Nat) (k : Nat) (hx : a.getD k 0 ≠ b.getD k 0) : a ≠ b := fun e => hx (by rw [e])
set_option maxRecDepth 100000 in
set_option maxHeartbeats 600000 in
theorem ref_SameWords (u v : Value) (f g : List Nat) (w : World) (hu : WordsR w u f) (hv : WordsR w v g) : Calls Try.prog 21 #[u, v] w (RetU w (.bool (decide (f = g)))) := by
  have hX := Lib.hid hu
  have hY := Lib.hid hv
  replace hu := hu.1
  replace hv := hv.1
  obtain ⟨a, ca, rfl, hca1, hca, -⟩ := hu
  obtain ⟨b, cb, rfl, hcb1, hcb, -⟩ := hv
  have l1 : (f.length : Int) ≤ 9223372036854775807 := by unfold maxLen at hca; omega
  by_cases hl : f.length = g.length
  · have e1 : ((f.length : Int) != g.length) = false := by rw [bne_eq_false_iff_eq]; omega
    have hl2 := Lib.hid hl
    clear hl
    go_enter Try.func21, Try.ntmps21
    go_wp2
    go_loopw [13] (fun i wr => ∃ k : Nat, k ≤ f.length ∧ i = .int .i64 k ∧ f.take k = g.take k ∧ Upd (fun _ => False) w wr) (fun i _ => (f.length - intOf i).toNat)
    case atStart => exact ⟨0, Nat.zero_le _, rfl, rfl, Upd.refl _ _⟩
    case round =>
      obtain ⟨k, hk, rfl, hfg, hu⟩ := hrel
      by_cases hkl : k = f.length
      · have d1 : ¬ ((k : Int) < f.length) := by omega
        have e0 : decide (f = g) = true := by
          rw [hkl, List.take_length, hl2.out, List.take_length] at hfg
          rw [decide_eq_true_eq]
          exact hfg
        have He0 := Lib.hid e0; clear e0
        clear hfg hkl
        go_wp2
        go_ret
        exact ⟨by rw [He0.out]; rfl, hu⟩
      · have d1 : (k : Int) < f.length := by omega
        have d1' : k < f.length := by omega
        have d2' : k < g.length := by have := hl2.out; omega
        have d2 : (k : Int) < g.length := by omega
        obtain ⟨b0, off, hix, hb0, hc, -⟩ := hX.out.at d1'
        obtain ⟨b1, off1, hiy, hb1, hcy, -⟩ := hY.out.at d2'
        have hc0 : wr.cell? ⟨b0, off + k, none⟩ = some (.int .u64 ((f.getD k 0 : Nat) : Int)) := (hu.none.cell (p := ⟨b0, off + k, none⟩) hb0).trans hc
        have hc1 : wr.cell? ⟨b1, off1 + k, none⟩ = some (.int .u64 ((g.getD k 0 : Nat) : Int)) := (hu.none.cell (p := ⟨b1, off1 + k, none⟩) hb1).trans hcy
        have hst := same_stepN f g k d1' hl2.out hfg
        have hno := same_noN f g k
        generalize f.getD k 0 = x at *
        generalize g.getD k 0 = y at *
        by_cases hxy : x = y
        · have hst2 := Lib.hid (hst hxy)
          subst hxy
          have heq : ((x : Int) != (x : Int)) = false := by simp
          clear hst hno hfg hc hcy hkl
          have Hhu := Lib.hid hu; clear hu
          go_wp2
          go_quiet (fail)
          go_wp2
          go_roundw
          case rel => exact ⟨k + 1, by omega, by go_num, hst2.out, Hhu.out.drewN _⟩
          case measure => simp [intOf]; omega
        · have e0 : decide (f = g) = false := by rw [decide_eq_false_iff_not]; exact hno hxy
          have hne : ((x : Int) != (y : Int)) = true := by rw [bne_iff_ne]; omega
          clear hst hno hfg hc hcy hkl hxy
          have Hhu := Lib.hid hu; clear hu
          have He0 := Lib.hid e0; clear e0
          go_wp2
          go_quiet (fail)
          go_wp2
          go_ret
          exact ⟨by rw [He0.out]; rfl, Hhu.out.drewN _⟩
  · have e1 : ((f.length : Int) != g.length) = true := by rw [bne_iff_ne]; omega
    have e2 : decide (f = g) = false := by
      rw [decide_eq_false_iff_not]
      exact fun e => hl (by rw [e])
    rw [e2]
    clear hl e2
    go_enter Try.func21, Try.ntmps21
    go_wp2
    go_ret
    exact ⟨rfl, Upd.refl _ _⟩
theorem run_append_nil {P : Program} (w : World) (t ty e : TypeId) (i : TypeInfo) (a : Option Addr) (n cap c : Nat) (hnc : n ≤ cap) (ht : P.underlying t = some (.slice e)) (hi : P.info? e = some i) :
    (Builtin.append_ #[t, t] ty #[.slice a n cap, .slice none 0 c]).run P w = .ok (.slice a n cap) w := by
  cases a <;> simp [Builtin.append_, run_underlying ht, sizeOf, typeInfo, hi, Builtin.lenOf, Builtin.firstCells, hnc, storeCells]
/-- append(s, x...): s is the call's own row, x any ints. -/
theorem wpList_appendOnto {P : Program} {w : World} {ops : Array Oper} {rest : List Oper} {o : Oper} {a : Act} {Q : Exit → Act → World → Prop} (hgd : o.guard = none) (s x : Operand) (t e : TypeId)
    (ho : o.op = .call { callee := .builtin .append, args := #[s, x], argTypes := #[t, t] }) (z : Value) (bytes : Nat) (ht : P.underlying t = some (.slice e)) (hinfo : (P.info? e).map (fun i => (i.zero, i.size, i.bytes)) = some (some z, 1, bytes)) (hzs : z.cells.size = 1)
    (B : Nat) (v : Value) (n : Nat) (us : List Value) (hs : a.eval s = v) (hown : w.ownsRow B e 1 v n us) (ao : Option Addr) (m c : Nat) (k : IntKind) (xs : List Int) (hm : m = xs.length) (hx : a.eval x = .slice ao m c) (hin : IntsR w (.slice ao m c) k xs)
    (hn : n + m ≤ 1099511627776) (hb : bytes ≤ 64) (hbase : B ≤ w.heap.size)
    (h : ∀ a' c' w', w'.ownsRow B e 1 (.slice a' (n + m) c') (n + m) (us ++ xs.map (Value.int k)) → w.grownBy w' v.ownBlock → wpList P ops Q rest (a.put o.dst (.slice a' (n + m) c')) w') : wpList P ops Q (o :: rest) a w := by
  subst hm
  obtain ⟨i0, hi, hz0, hz1, hz2⟩ := info_parts hinfo
  cases ao with
  | none =>
    have h0 : xs.length = 0 := by
      obtain ⟨a', cap, g1, g2, g3, g4⟩ := hin
      rcases Nat.eq_zero_or_pos xs.length with h0 | h0
      · exact h0
      · obtain ⟨b, off, k1, -⟩ := g4 h0
        cases g1
        cases k1
    have hxs : xs = [] := List.eq_nil_of_length_eq_zero h0
    subst hxs
    obtain ⟨a1, c1, rfl⟩ := ownsRow_shape hown
    have hcap : n ≤ c1 := by
      rcases hown.2 with ⟨e1, e2⟩ | ⟨g, cap, cur, e1, -, -, e2, -⟩
      · omega
      · have := (Value.slice.inj e1).2.2
        omega
    refine wpList_plain hgd fun K hK' => ?_
    have hrun := run_append_nil (P := P) w t o.type e i0 a1 n c1 c hcap ht hi
    have hx : a.eval x = .slice none 0 c := hx
    unfold Oper.wp
    simp [execOp, ho, resolve, invoke, builtin, hs, hx, hrun, Result.andThen]
    exact hK' _ _ (h a1 c1 w (by simpa using hown) ((World.grownBy.refl _ _)))
  | some ad =>
    obtain ⟨hm, hc⟩ := ints_cells hin
    refine wpList_append_own w hgd s x t ho B e i0 z 1 bytes ht hi hz0 hz1 hz2 hzs (by decide) v n us hs hown ad xs.length c (xs.map (Value.int k)) hx (by simp) hc ?_ ?_ ?_ hbase ?_
    · intro u hu
      obtain ⟨y, -, rfl⟩ := List.mem_map.1 hu
      rfl
    · unfold maxLen; omega
    · have := Nat.mul_le_mul hn hb
      omega
    · intro v' w' h2 h3 _
      obtain ⟨a', c', rfl⟩ := ownsRow_shape h2
      exact h a' c' w' h2 h3
theorem run_append_nils {P : Program} (w : World) (t ty e : TypeId) (i : TypeInfo) (c : Nat) (ht : P.underlying t = some (.slice e)) (hi : P.info? e = some i) :
    (Builtin.append_ #[t, t] ty #[.slice none 0 0, .slice none 0 c]).run P w = .ok (.slice none 0 0) w := by
  simp [Builtin.append_, run_underlying ht, sizeOf, typeInfo, hi, Builtin.lenOf, Builtin.firstCells]
/-- A slice of slices of ints. -/
def MatIn (W : World) (v : Value) (tt : List (List Int)) : Prop :=
  ∃ H : Nat → Value, RowsIn W v 1 tt.length (fun i _ => H i) ∧ ∀ i, i < tt.length → IntsR W (H i) .i64 (tt.getD i [])
theorem MatIn.upd {w w' : World} {v : Value} {tt : List (List Int)} (h : MatIn w v tt) (u : Below w.heap.size w w') : MatIn w' v tt := by
  obtain ⟨H, h1, h2⟩ := h
  exact ⟨H, h1.upd u, fun i hi => (h2 i hi).upd u⟩
end Go.Proofs.Ytcnbcidbbeadcaa
