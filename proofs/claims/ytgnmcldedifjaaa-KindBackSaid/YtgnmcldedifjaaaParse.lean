/- kind.Parse. -/
import Derived.Test.YtgnmcldedifjaaaStep
import Derived.Test.YtgnmcldedifjaaaAwake8
import Derived.Laws.ResultCell
namespace Go.Proofs.Ytgnmcldedifjaaa
open Go.RowKit
set_option linter.unusedVariables false

/-- The result of Parse: the fields, and whether the word is a kind. -/
def RetParse (w : World) (x : Nat) (e : Ending) (w' : World) : Prop :=
  ∃ v, e = .returned (.tuple #[.agg #[v], .bool (parseK x).isSome]) ∧ IntsR w' v .i64 ((parseK x).getD []) ∧ Upd (fun _ => False) w w'

theorem intsR_nil (w : World) (c : Nat) : IntsR w (.slice none 0 0) .i64 [] := ownsRow_intsR (base := 0) (E := 3) (xs := []) (World.ownsRow_nil _ _ _ _)

set_option maxRecDepth 100000 in
set_option maxHeartbeats 1000000 in
theorem kind_Parse (x : Nat) (w : World) (hx : x < 2 ^ 64) : Calls Try.prog 28 #[.int .u64 x] w (RetParse w x) := by
  have hg0 := Lib.hid (fun w' => show Calls Try.prog 40 #[.int .u64 x, .int .i64 0, .int .i64 4] w' (Same w' (.int .u64 (getN x 0 4))) from word_get x 0 4 w' hx (by decide))
  have hn0 : getN x 0 4 < 16 := get_lt x 0 4
  have hf0 : fieldsK x = fieldsTo x (getN x 0 4) := rfl
  generalize hn : getN x 0 4 = n at *
  have hn1 : (n : Int) < 16 := by omega
  go_enter Try.func28, Try.ntmps28
  go_wp2_with (go_at_call 40; (with_reducible refine (hg0.out _).mono ?_); rintro e w' ⟨rfl, rfl⟩)
  go_loopw [9] (fun i wr => ∃ (k : Nat) (oa : Option Addr) (oc : Nat), k ≤ n ∧ i = .int .i64 k ∧ Upd (fun _ => False) w wr ∧ Blk wr w.heap.size [.slice none 0 0] 38 ∧ Blk wr (w.heap.size + 1) [.slice oa k oc] 38 ∧ wr.ownsRow (w.heap.size + 2) 3 1 (.slice oa k oc) k ((fieldsTo x k).map (Value.int .i64)) ∧ w.heap.size + 2 ≤ wr.heap.size) (fun i _ => (n - intOf i).toNat)
  case atStart =>
    refine ⟨0, none, 0, Nat.zero_le _, rfl, ((Upd.refl _ _).alloc _).alloc _, (Blk.new w [.slice none 0 0] 38).alloc _, ?_, World.ownsRow_nil _ _ _ _, by simp⟩
    have := Blk.new (w.alloc (.cells #[.slice none 0 0] 38)) [.slice none 0 0] 38
    simpa using this
  case round =>
    obtain ⟨k, oa, oc, hk, rfl, hu, hr, hb, ho, hz⟩ := hrel
    by_cases hkn : k = n
    · have d1 : ¬ ((k : Int) < n) := by omega
      subst hkn
      have hl := fieldsTo_len x k
      have hv' : ∀ w', Upd (fun i => i = w.heap.size) wr w' → IntsR w' (.slice oa k oc) .i64 (fieldsK x) := fun w' u => by
        rw [hf0]
        have h2 := ownsRow_upd ho u (fun i hi e => by omega)
        refine (congrArg (fun q => IntsR w' (.slice oa q oc) .i64 (fieldsTo x k)) hl).mp (ownsRow_intsR (base := w.heap.size + 2) (E := 3) ?_)
        rw [hl]
        exact h2
      have hv := hv' wr (Upd.refl _ _)
      have hbc := hb.cell 0 rfl
      have hM := Lib.hid (kind_May (.slice oa k oc) (fieldsK x) wr hv)
      have hW := Lib.hid (fun (w' : World) (h : Upd (fun _ => False) wr w') => retKFrom (kind_Word (.slice oa k oc) (fieldsK x) w' (ints_upd hv h)) h)
      have hp : parseK x = if MayK (fieldsK x) = true ∧ wordK (fieldsK x) = x then some (fieldsK x) else none := rfl
      generalize fieldsK x = f at *
      generalize MayK f = m at *
      clear hf0 hn hl hn0 hn1
      cases m
      · have hp : parseK x = none := by rw [hp]; simp
        have Hhp := Lib.hid hp; clear hp
        have Hhv := Lib.hid hv; clear hv
        have Hhv' := Lib.hid hv'; clear hv'
        have Hhu := Lib.hid hu; clear hu
        have Hho := Lib.hid ho; clear ho
        go_wp2_with (go_at_call 22; (with_reducible refine hM.out.mono ?_); rintro e w5 ⟨rfl, hu5⟩; have hr5 := hr.upd hu5 (fun h => h); have hrc5 := hr5.cell 0 rfl; have hrf5 := hr5.free 0)
        (try simp only [Exit.inBlock, Exit.then])
        refine bodyPost_ret (v := .tuple #[.agg #[.slice none 0 0], .bool false]) ?_ rfl ?_
        · rw [results_cell_tmp rfl]
          go_simp
        · exact ⟨_, by rw [Hhp.out]; rfl, by rw [Hhp.out]; exact intsR_nil _ 0, (Hhu.out.trans hu5).setCell (fun h => absurd (show w.heap.size < w.heap.size from h) (by omega)) _⟩
      · by_cases hq : wordK f = x
        · have hq' : ((wordK f : Int) != (x : Int)) = false := by simp [hq]
          have hp : parseK x = some f := by rw [hp]; simp [hq]
          generalize (wordK f : Int) = y at *
          have Hhp := Lib.hid hp; clear hp
          have Hhv := Lib.hid hv; clear hv
          have Hhv' := Lib.hid hv'; clear hv'
          have Hhu := Lib.hid hu; clear hu
          have Hho := Lib.hid ho; clear ho
          go_wp2_with (first
            | (go_at_call 22; (with_reducible refine hM.out.mono ?_); rintro e w5 ⟨rfl, hu5⟩; have hbc5 := (hb.upd hu5 (fun h => h)).cell 0 rfl)
            | (go_at_call 25; (with_reducible refine (hW.out _ (by assumption)).mono ?_); rintro e w6 ⟨rfl, hu6⟩; have hr6 := hr.upd hu6 (fun h => h); have hrc6 := hr6.cell 0 rfl; have hrf6 := hr6.free 0; have hbc6 := (hb.upd hu6 (fun h => h)).cell 0 rfl))
          (try simp only [Exit.inBlock, Exit.then])
          refine bodyPost_ret (v := .tuple #[.agg #[.slice oa k oc], .bool true]) ?_ rfl ?_
          · rw [results_cell_tmp rfl]
            go_simp
          · refine ⟨_, by rw [Hhp.out]; rfl, ?_, (Hhu.out.trans hu6).setCell (fun h => absurd (show w.heap.size < w.heap.size from h) (by omega)) _⟩
            rw [Hhp.out]
            exact Hhv'.out _ ((hu6.mono (fun _ _ h => h.elim)).at 0 _)
        · have hq' : ((wordK f : Int) != (x : Int)) = true := by simp; omega
          have hp : parseK x = none := by rw [hp]; simp [hq]
          generalize (wordK f : Int) = y at *
          have Hhp := Lib.hid hp; clear hp
          have Hhv := Lib.hid hv; clear hv
          have Hhv' := Lib.hid hv'; clear hv'
          have Hhu := Lib.hid hu; clear hu
          have Hho := Lib.hid ho; clear ho
          clear hq
          go_wp2_with (first
            | (go_at_call 22; (with_reducible refine hM.out.mono ?_); rintro e w5 ⟨rfl, hu5⟩; have hbc5 := (hb.upd hu5 (fun h => h)).cell 0 rfl)
            | (go_at_call 25; (with_reducible refine (hW.out _ (by assumption)).mono ?_); rintro e w6 ⟨rfl, hu6⟩; have hr6 := hr.upd hu6 (fun h => h); have hrc6 := hr6.cell 0 rfl; have hrf6 := hr6.free 0))
          (try simp only [Exit.inBlock, Exit.then])
          refine bodyPost_ret (v := .tuple #[.agg #[.slice none 0 0], .bool false]) ?_ rfl ?_
          · rw [results_cell_tmp rfl]
            go_simp
          · exact ⟨_, by rw [Hhp.out]; rfl, by rw [Hhp.out]; exact intsR_nil _ 0, (Hhu.out.trans hu6).setCell (fun h => absurd (show w.heap.size < w.heap.size from h) (by omega)) _⟩
    · have d1 : (k : Int) < n := by omega
      have hbc := hb.cell 0 rfl
      have hg1 := Lib.hid (fun w' => show Calls Try.prog 40 #[.int .u64 x, .int .i64 (4 + 2 * (k : Int)), .int .i64 2] w' (Same w' (.int .u64 (getN x (4 + 2 * k) 2))) from by
        have := word_get x (4 + 2 * k) 2 w' hx (by omega)
        rw [show ((4 + 2 * k : Nat) : Int) = 4 + 2 * (k : Int) from by omega] at this
        exact this)
      have hy0 : getN x (4 + 2 * k) 2 < 4 := get_lt x _ 2
      have hst : fieldsTo x (k + 1) = fieldsTo x k ++ [((getN x (4 + 2 * k) 2 : Nat) : Int)] := rfl
      generalize getN x (4 + 2 * k) 2 = y at *
      have hy1 : (y : Int) < 4 := by omega
      have hkl : k ≤ 1099511627776 := by omega
      have w1 : IntKind.i64.wrap (2 * (k : Int)) = 2 * (k : Int) := by rw [IntKind.wrap_i64]; omega
      have w2 : IntKind.i64.wrap (4 + 2 * (k : Int)) = 4 + 2 * (k : Int) := by rw [IntKind.wrap_i64]; omega
      have w3 : IntKind.i64.wrap (y : Int) = (y : Int) := by rw [IntKind.wrap_i64]; omega
      have hbc2 := (hb.alloc (.cells #[.int .i64 y] 3)).cell 0 rfl
      clear hf0 hn
      have Hho := Lib.hid ho; clear ho
      have Hhst := Lib.hid hst; clear hst
      have Hhu := Lib.hid hu; clear hu
      have Hhr := Lib.hid hr; clear hr
      have Hhb := Lib.hid hb; clear hb
      go_wp2
      go_region_law (first
        | (go_simp; go_at_call 40; (with_reducible refine (hg1.out _).mono ?_); rintro e w' ⟨rfl, rfl⟩)
        | (refine step_push rfl _ _ 36 3 rfl (.int .i64 0) 8 Try.underlying36 infoInt rfl (w.heap.size + 2) _ _ _ rfl (Hho.out.drew.alloc _) wr.heap.size 1 (.int .i64 y) rfl (World.cell?_alloc_new wr.drew #[.int .i64 y] _ 0) rfl hkl (by decide) hz ?_; intro oa' oc' w4 ho4 hg4; have hb4 : Blk w4 (w.heap.size + 1) [.slice oa k oc] 38 := Blk.of Hhb.out ((hg4.block _ (by have := hz; simp; omega) (fun e => absurd (Hho.out.lt _ e.symm).1 (by omega))).trans (Below.heap_alloc _ _ _ Hhb.out.drew.lt)); have hbc4 := hb4.cell 0 rfl; have hbf4 := hb4.free 0))
      all_goals
        go_wp2
        go_roundw
        case rel =>
          have u4 : Upd (fun _ => False) w w4 := (Hhu.out.drew.alloc (.cells #[.int .i64 y] 3)).grown hg4 (fun j e hj => absurd (Hho.out.lt j e).1 (by omega))
          refine ⟨k + 1, oa', oc', by omega, by go_num, u4.setCell (fun h => absurd (show w.heap.size + 1 < w.heap.size from h) (by omega)) _, ?_, hb4.set 0 _, ?_, ?_⟩
          · exact (Blk.of Hhr.out ((hg4.block _ (by have := hz; simp; omega) (fun e => absurd (Hho.out.lt _ e.symm).1 (by omega))).trans (Below.heap_alloc _ _ _ Hhr.out.drew.lt))).setOther (by simp) _
          · rw [Hhst.out, List.map_append]
            exact ownsRow_upd ho4 ((Upd.refl (fun i => i = w.heap.size + 1) w4).at 0 _) (fun i hi e => by omega)
          · have := hg4.size
            simp at this ⊢
            omega
        case measure => simp [intOf]; omega
end Go.Proofs.Ytgnmcldedifjaaa
