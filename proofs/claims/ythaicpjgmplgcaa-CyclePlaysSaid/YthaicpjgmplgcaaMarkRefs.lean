/- The references of a table. -/
import Derived.Test.YthaicpjgmplgcaaMarkGo
import Derived.Test.YthaicpjgmplgcaaPushL
namespace Go.Proofs.Ythaicpjgmplgcaa
open Go.RowKit Go.Deep Go.ChangeShapes Go.WideShapes
set_option linter.unusedVariables false

/-- A slice of slices of ints. -/
def MatIn (W : World) (v : Value) (tt : List (List Int)) : Prop :=
  ∃ H : Nat → Value, RowsIn W v 1 tt.length (fun i _ => H i) ∧ ∀ i, i < tt.length → IntsR W (H i) .i64 (tt.getD i [])
theorem MatIn.upd {w w' : World} {v : Value} {tt : List (List Int)} (h : MatIn w v tt) (u : Below w.heap.size w w') : MatIn w' v tt := by
  obtain ⟨H, h1, h2⟩ := h
  exact ⟨H, h1.upd u, fun i hi => (h2 i hi).upd u⟩

theorem open_matAt {H : Type} {enc : TypeId × Value → H} {P : Program} {spare : Nat → Bool} {held : Bool} {W : World} {ts : List TypeId} {ds : List (DataW H)} {t e q : TypeId} {v : Value} {d : DataW H} {ps : List MemPlace}
    (ht : P.underlying t = some (.slice e)) (he : P.underlying e = some (.slice q)) (hq : P.underlying q = some (.int .i64)) (hC : P.cellsOf e = 1) (hQ : P.cellsOf q = 1) (hB : P.bytesOf e = 24)
    {r : Reach} {b0 : Nat} (hval : Value.okWide P W r b0 t v) (h : DataW.Trod enc P W 0 spare held t v d ps) (hsz : (DataW.weightsEach P ts ds).all (· ≤ reachBytes) = true) (j : Nat) (htj : ts[j]? = some t) (hdj : ds[j]? = some d) :
    ∃ tt, MatIn W v tt ∧ tt.length * 24 ≤ 140737488351232 := by
  obtain ⟨n, X, hR, hn, m, hi⟩ := open_rowsAt ht hC (by decide) hB hval h hsz j htj hdj
  have each : ∀ i, i < n → ∃ xs : List Int, IntsR W (X i 0) .i64 xs := by
    intro i hil
    obtain ⟨y, hy⟩ := hi i hil
    have hy : DataW.trod enc P W 0 spare held m e [X i 0] = some y := hy
    obtain ⟨xs, h1, -⟩ := ints_of_trod he hq hQ hy
    exact ⟨xs, h1.1⟩
  obtain ⟨Z, hZ⟩ := choose_lt each
  refine ⟨(List.range n).map Z, ⟨fun i => X i 0, ?_, fun i hil => ?_⟩, by simpa using hn⟩
  · rw [List.length_map, List.length_range]
    obtain ⟨a, cap, g1, g2, g3, g4⟩ := hR
    refine ⟨a, cap, g1, g2, g3, fun hn => ?_⟩
    obtain ⟨b, off, k1, k2, k3⟩ := g4 hn
    refine ⟨b, off, k1, k2, fun i hi j hj => ?_⟩
    obtain rfl : j = 0 := by omega
    exact k3 i hi 0 hj
  · have hil' : i < n := by simpa using hil
    have := hZ i hil'
    simpa [List.getD, hil'] using this

def refsOf (tt : List (List Int)) (b : Int) : List Int := if 0 ≤ b then tt.getD b.toNat [] else []

theorem run_append_nils {P : Program} (w : World) (t ty e : TypeId) (i : TypeInfo) (c : Nat) (ht : P.underlying t = some (.slice e)) (hi : P.info? e = some i) :
    (Builtin.append_ #[t, t] ty #[.slice none 0 0, .slice none 0 c]).run P w = .ok (.slice none 0 0) w := by
  simp [Builtin.append_, run_underlying ht, sizeOf, typeInfo, hi, Builtin.lenOf, Builtin.firstCells]

/-- append(nil, s...): the ints of s, nil or not, in a row of the call's own. -/
theorem wpList_appendAny {P : Program} {w : World} {ops : Array Oper} {rest : List Oper} {o : Oper} {a : Act} {Q : Exit → Act → World → Prop} (hgd : o.guard = none) (s x : Operand) (t e : TypeId)
    (ho : o.op = .call { callee := .builtin .append, args := #[s, x], argTypes := #[t, t] }) (z : Value) (bytes : Nat) (ht : P.underlying t = some (.slice e)) (hinfo : (P.info? e).map (fun i => (i.zero, i.size, i.bytes)) = some (some z, 1, bytes)) (hzs : z.cells.size = 1)
    (hs : a.eval s = .slice none 0 0) (ao : Option Addr) (c : Nat) (k : IntKind) (xs : List Int) (hx : a.eval x = .slice ao xs.length c) (hin : IntsR w (.slice ao xs.length c) k xs)
    (hn : xs.length ≤ 1099511627776) (hb : bytes ≤ 64)
    (h : ∀ v w', w'.ownsRow w.heap.size e 1 v xs.length (xs.map (Value.int k)) → w.grownBy w' none → wpList P ops Q rest (a.put o.dst v) w') : wpList P ops Q (o :: rest) a w := by
  cases ao with
  | some ad => exact wpList_appendInts hgd s x t e ho z bytes ht hinfo hzs hs ad xs.length c k xs hx hin hn hb (fun a' c' w' h1 h2 => h _ w' h1 h2)
  | none =>
    have h0 : xs.length = 0 := by
      obtain ⟨a', cap, g1, g2, g3, g4⟩ := hin
      rcases Nat.eq_zero_or_pos xs.length with h0 | h0
      · exact h0
      · obtain ⟨b, off, k1, -⟩ := g4 h0
        cases g1
        cases k1
    have hxs : xs = [] := List.eq_nil_of_length_eq_zero h0
    subst hxs
    obtain ⟨i0, hi, hz0, hz1, hz2⟩ := info_parts hinfo
    refine wpList_plain hgd fun K hK' => ?_
    have hrun := run_append_nils (P := P) w t o.type e i0 c ht hi
    have hx : a.eval x = .slice none 0 c := hx
    unfold Oper.wp
    simp [execOp, ho, resolve, invoke, builtin, hs, hx, hrun, Result.andThen]
    exact hK' _ _ (h _ w (World.ownsRow_nil _ _ _ _) (World.grownBy.refl _ _))


set_option maxRecDepth 100000 in
set_option maxHeartbeats 1000000 in
theorem law_refs1 (b : Int) (tp : Addr) (v : Value) (tt : List (List Int)) (w : World) (hc : w.cell? tp = some v) (hM : MatIn w v tt) (h70 : tt.length ≤ 1000) (h30 : ∀ l ∈ tt, l.length ≤ 1000) :
    Calls Try.prog 61 #[.int .i64 b, .pointer (some tp)] w (RefPost w (refsOf tt b)) := by
  obtain ⟨H, hR, hE⟩ := hM
  have hR2 := hR
  obtain ⟨va, vc, rfl, -⟩ := hR2
  have hnil : refsOf tt b = [] → RefPost w (refsOf tt b) (.returned (.slice none 0 0)) w := fun h => by
    rw [h]
    exact ⟨_, rfl, World.ownsRow_nil _ _ _ _, Upd.refl _ _⟩
  by_cases h0 : 0 ≤ b
  · by_cases h1 : b < tt.length
    · obtain ⟨k, rfl⟩ : ∃ k : Nat, b = k := ⟨b.toNat, by omega⟩
      have hk : k < tt.length := by omega
      obtain ⟨b0, off, hix, hb0, hcc⟩ := hR.index (P := Try.prog) Try.underlying52 (by kernel_rfl) (by kernel_rfl) hk
      simp only [Nat.mul_one] at hix hcc
      have hrow := hcc 0 (by decide)
      simp only [Nat.add_zero] at hrow
      have hIn := hE k hk
      have hre : refsOf tt (k : Int) = tt.getD k [] := by unfold refsOf; rw [if_pos h0]; simp
      rw [hre]
      have hlen : (tt.getD k []).length ≤ 1000 := h30 _ (by simp [List.getD, hk])
      generalize tt.getD k [] = rs at *
      obtain ⟨ra, rc, hrv, -⟩ := (show RowsIn w (H k) 1 rs.length _ from hIn)
      rw [hrv] at hIn hrow
      have hl2 : rs.length ≤ 1099511627776 := by omega
      clear hrv hcc hE hR hnil hre h30
      have HhIn := Lib.hid hIn; clear hIn
      go_enter Try.func61, Try.ntmps61
      go_wp2_with (at_builtin; refine wpList_appendAny rfl _ _ 37 3 rfl (.int .i64 0) 8 Try.underlying37 infoIntM rfl rfl ra rc .i64 rs rfl HhIn.out hl2 (by decide) ?_; intro v' w1 ho hg)
      go_ret
      exact ⟨v', rfl, ho, (Upd.refl _ _).grown hg (fun k e _ => by cases e)⟩
    · have hfin := hnil (by
        unfold refsOf
        rw [if_pos h0]
        have : tt.length ≤ b.toNat := by omega
        simp [List.getD, this])
      have Hhfin := Lib.hid hfin; clear hfin
      clear hnil hE hR h30
      go_enter Try.func61, Try.ntmps61
      go_wp2
      go_ret
      exact Hhfin.out
  · have hfin := hnil (by unfold refsOf; rw [if_neg h0])
    have Hhfin := Lib.hid hfin; clear hfin
    clear hnil hE hR h30
    go_enter Try.func61, Try.ntmps61
    go_wp2
    go_ret
    exact Hhfin.out

def lightM (tt : List (List Int)) : Bool := decide (tt.length ≤ 60) && tt.all (fun l => decide (l.length ≤ 20))

set_option maxRecDepth 100000 in
set_option maxHeartbeats 1000000 in
theorem law_light (v : Value) (tt : List (List Int)) (w : World) (hM : MatIn w v tt) (hlen : tt.length * 24 ≤ 140737488351232) :
    Calls Try.prog 29 #[v] w (Same w (.bool (lightM tt))) := by
  obtain ⟨H, hR, hE⟩ := hM
  have hR2 := hR
  obtain ⟨va, vc, rfl, -⟩ := hR2
  by_cases h70 : 60 < tt.length
  · have d1 : (60 : Int) < tt.length := by omega
    have hl : lightM tt = false := by unfold lightM; rw [decide_eq_false (by omega)]; rfl
    rw [hl]
    clear hR hE hl hlen
    go_enter Try.func29, Try.ntmps29
    go_wp2
    go_ret
    exact ⟨rfl, rfl⟩
  · have d1 : ¬ (60 : Int) < tt.length := by omega
    have hl : lightM tt = tt.all (fun l => decide (l.length ≤ 20)) := by unfold lightM; rw [decide_eq_true (by omega)]; rfl
    rw [hl]
    obtain ⟨R, hRe⟩ : ∃ R, tt.all (fun l => decide (l.length ≤ 20)) = R := ⟨_, rfl⟩
    rw [hRe]
    have hd70 : (tt.length : Int) ≤ 60 := by omega
    have HhR := Lib.hid hR; clear hR
    have HhE := Lib.hid hE; clear hE
    have HhRe := Lib.hid hRe; clear hRe
    clear hl hlen
    go_enter Try.func29, Try.ntmps29
    go_wp2
    go_loop [10] (fun i => ∃ k : Nat, i = .int .i64 k ∧ k ≤ tt.length ∧ (tt.take k).all (fun l => decide (l.length ≤ 20)) = true) (fun i => (tt.length - intOf i).toNat)
    case atStart => exact ⟨0, rfl, Nat.zero_le _, rfl⟩
    case round =>
      obtain ⟨k, rfl, hk, ha⟩ := hrel
      by_cases hkl : k = tt.length
      · have e1 : ¬ ((k : Int) < tt.length) := by omega
        rw [hkl, List.take_length] at ha
        have hRt : R = true := HhRe.out.symm.trans ha
        have HhRt := Lib.hid hRt; clear hRt
        clear ha hkl
        go_wp2
        go_ret
        exact ⟨by rw [HhRt.out]; rfl, rfl⟩
      · have e1 : (k : Int) < tt.length := by omega
        have hk2 : k < tt.length := by omega
        obtain ⟨b0, off, hix, hb0, hcc⟩ := HhR.out.index (P := Try.prog) Try.underlying52 (by kernel_rfl) (by kernel_rfl) hk2
        simp only [Nat.mul_one] at hix hcc
        have hrow := hcc 0 (by decide)
        simp only [Nat.add_zero] at hrow
        obtain ⟨ra, rc, hrv, hrl, hrm, -⟩ := (show RowsIn w (H k) 1 (tt.getD k []).length _ from HhE.out k hk2)
        rw [hrv] at hrow
        have hst : (tt.take (k + 1)).all (fun l => decide (l.length ≤ 20)) = ((tt.take k).all (fun l => decide (l.length ≤ 20)) && decide ((tt.getD k []).length ≤ 20)) := by
          rw [List.take_succ_eq_append_getElem hk2, List.all_append]
          simp [List.getD, hk2]
        have hmem : tt.getD k [] ∈ tt := by simp [List.getD, hk2]
        have hll : ((tt.getD k []).length : Int) ≤ 9223372036854775807 := by unfold maxLen at hrm; omega
        have hno : ¬ (tt.getD k []).length ≤ 20 → R = false := fun hn => by
          rw [← HhRe.out]
          cases hall : tt.all (fun l => decide (l.length ≤ 20))
          · rfl
          · have := List.all_eq_true.1 hall _ hmem
            simp at this
            exact absurd this hn
        generalize tt.getD k [] = rs at *
        by_cases h30 : rs.length ≤ 20
        · have e2 : ¬ (20 : Int) < rs.length := by omega
          rw [ha, decide_eq_true h30] at hst
          have Hhst := Lib.hid hst; clear hst
          clear ha hkl hrv hcc hno hmem
          go_wp2
          go_round
          case rel => exact ⟨k + 1, by go_num, by omega, Hhst.out⟩
          case measure => simp [intOf]; omega
        · have e2 : (20 : Int) < rs.length := by omega
          have hRf := hno h30
          have HhRf := Lib.hid hRf; clear hRf
          clear ha hkl hrv hcc hno hmem hst
          go_wp2
          go_ret
          exact ⟨by rw [HhRf.out]; rfl, rfl⟩
end Go.Proofs.Ythaicpjgmplgcaa
