/- Set of package bitmap: a map as a function of bits. -/
import Derived.Test.YthaicpjgmplgcaaMapWord
import Derived.Test.YthaicpjgmplgcaaBitF
import Derived.Laws.OwnMore
import Derived.IntWalk
namespace Go.Proofs.Ythaicpjgmplgcaa
open Go.RowKit
set_option linter.unusedVariables false

def words (ws : List Nat) : List Value := ws.map fun (x : Nat) => Value.int .u64 (x : Int)

/-- A map at block b, its words in block g: n bits, which f tells. -/
def MapF (w : World) (b g n : Nat) (f : Nat → Bool) : Prop :=
  n ≤ 1048576 ∧ b ≠ g ∧ ∃ cap, Blk w b [.int .i64 n, .slice (some ⟨g, 0, none⟩) ((n + 63) / 64) cap] 89 ∧
    w.ownsRow 0 82 1 (.slice (some ⟨g, 0, none⟩) ((n + 63) / 64) cap) ((n + 63) / 64) (words (packN n f))

section
variable {w w' : World} {b g n : Nat} {f : Nat → Bool}
theorem MapF.is (h : MapF w b g n f) : IsMap w b n (packN n f) := by
  obtain ⟨h1, h2, cap, h3, h4⟩ := h
  refine ⟨packN_length _ _, h1, packN_lt _ _, _, h3, ?_, ?_⟩
  · rw [packN_length]; exact h4
  · simp [Value.ownBlock]; exact fun e => h2 e.symm
theorem MapF.upd (h : MapF w b g n f) {S : Nat → Prop} (u : Upd S w w') (h1 : ¬ S b) (h2 : ¬ S g) : MapF w' b g n f := by
  obtain ⟨k1, k2, cap, k3, k4⟩ := h
  refine ⟨k1, k2, cap, k3.upd u h1, ⟨k4.1, ?_⟩⟩
  rcases k4.2 with ⟨h0, _⟩ | ⟨g', cap', cur, hv, hg, hh, r⟩
  · cases h0
  · cases hv
    exact Or.inr ⟨g, cap, cur, rfl, hg, (u.block g (Array.getElem?_eq_some_iff.1 hh).1 h2).trans hh, r⟩
theorem MapF.lt (h : MapF w b g n f) : b < w.heap.size ∧ g < w.heap.size := by
  obtain ⟨k1, k2, cap, k3, k4⟩ := h
  exact ⟨k3.lt, (k4.lt g rfl).2⟩
theorem MapF.congr (h : MapF w b g n f) {f' : Nat → Bool} (e : ∀ i, i < n → f i = f' i) : MapF w b g n f' := by
  unfold MapF at *
  rw [← packN_congr e]
  exact h
theorem MapF.le (h : MapF w b g n f) : n ≤ 1048576 := h.1
end

theorem bitK_pack (n : Nat) (f : Nat → Bool) (i : Int) : bitK n (packN n f) i = (decide (0 ≤ i ∧ i < n) && f i.toNat) := by
  unfold bitK
  rw [tb_packN _ _ _ _ (Nat.mod_lt _ (by decide)), Nat.div_add_mod]
  by_cases h : 0 ≤ i ∧ i < n
  · have : i.toNat < n := by omega
    simp [h, this]
  · rw [decide_eq_false h, Bool.false_and, Bool.false_and]

theorem map_GetF (b g n : Nat) (f : Nat → Bool) (i : Int) (w : World) (h : MapF w b g n f) : Calls Try.prog 24 #[.pointer (some ⟨b, 0, none⟩), .int .i64 i] w (Same w (.bool (decide (0 ≤ i ∧ i < n) && f i.toNat))) := by
  rw [← bitK_pack]
  exact map_Get b n _ i w h.is

def SetPost (w : World) (b g n : Nat) (f : Nat → Bool) (i : Int) (bb : Bool) (e : Ending) (w' : World) : Prop :=
  e = .returned (.bool (decide (0 ≤ i ∧ i < n) && (f i.toNat != bb))) ∧ MapF w' b g n (setF f i bb) ∧ Upd (fun k => k = g) w w' ∧ w'.heap.size = w.heap.size ∧ ((decide (0 ≤ i ∧ i < n) && (f i.toNat != bb)) = false → w = w')

theorem shl_one (r : Nat) (h : r < 64) : IntKind.u64.wrap (2 ^ r : Int) = ((2 ^ r : Nat) : Int) := by
  rw [show (2 ^ r : Int) = ((2 ^ r : Nat) : Int) from by simp]
  exact u64wrap_id _ (Nat.pow_lt_pow_right (by decide) h)

theorem words_set (ws : List Nat) (j x : Nat) : (words ws).set j (.int .u64 x) = words (ws.set j x) := by
  unfold words
  rw [List.map_set]

set_option maxRecDepth 100000 in
set_option maxHeartbeats 400000 in
theorem map_SetF (b g n : Nat) (f : Nat → Bool) (i : Int) (bb : Bool) (w : World) (h : MapF w b g n f) :
    Calls Try.prog 81 #[.pointer (some ⟨b, 0, none⟩), .int .i64 i, .bool bb] w (SetPost w b g n f i bb) := by
  have hn := h.1
  have hlen := Lib.hid (map_Len b n _ w h.is)
  have hget := Lib.hid (map_GetF b g n f i w h)
  have same : (decide (0 ≤ i ∧ i < n) && (f i.toNat != bb)) = false → SetPost w b g n f i bb (.returned (.bool false)) w := by
    intro hf
    refine ⟨by rw [hf], ?_, Upd.refl _ _, rfl, fun _ => rfl⟩
    refine h.congr (fun k hk => ?_)
    unfold setF
    split
    · rename_i e
      have e2 : i.toNat = k := by omega
      have e3 : 0 ≤ i ∧ i < n := by omega
      rw [e2] at hf
      simpa [e3] using hf
    · rfl
  by_cases h0 : i < 0
  · have fin := same (by simp; omega)
    have Hfin := Lib.hid fin; clear fin
    clear same h hn
    go_enter Try.func81, Try.ntmps81
    go_wp2
    go_ret
    exact Hfin.out
  · by_cases h1 : (n : Int) ≤ i
    · have fin := same (by simp; omega)
      have Hfin := Lib.hid fin; clear fin
      clear same h hn
      go_enter Try.func81, Try.ntmps81
      go_wp2_with (go_at_call 55; (with_reducible refine hlen.out.mono ?_); rintro e w' ⟨rfl, rfl⟩)
      go_ret
      exact Hfin.out
    · have hr : 0 ≤ i ∧ i < n := by omega
      rw [decide_eq_true hr, Bool.true_and] at hget
      by_cases hb : f i.toNat = bb
      · have fin := same (by simp [hb])
        have Hfin := Lib.hid fin; clear fin
        rw [hb] at hget
        clear same h hn hb hr
        go_enter Try.func81, Try.ntmps81
        go_wp2_with (first | (go_at_call 55; (with_reducible refine hlen.out.mono ?_); rintro e w' ⟨rfl, rfl⟩) | (go_at_call 24; (with_reducible refine hget.out.mono ?_); rintro e w' ⟨rfl, rfl⟩))
        go_ret
        exact Hfin.out
      · obtain ⟨k, rfl⟩ : ∃ k : Nat, i = k := ⟨i.toNat, by omega⟩
        have hkn : k < n := by omega
        have hb' : f k ≠ bb := by simpa using hb
        obtain ⟨-, hne, cap, hB, ho⟩ := h
        have hj : k / 64 < (n + 63) / 64 := by omega
        obtain ⟨g', hix, -, -, hcell0, hfr, hgg⟩ := ownsRow_index ho (P := Try.prog) Try.underlying23 (by kernel_rfl) (by kernel_rfl) hj
        obtain rfl : g' = g := by simpa [Value.ownBlock] using hgg.symm
        have hv := hB.cell 1 rfl
        have hx : (packN n f).getD (k / 64) 0 < 2 ^ 64 := by rw [packN_get n f _ hj]; exact wordN_lt _ _ _
        have hcell : w.cell? ⟨g', k / 64, none⟩ = some (.int .u64 (((packN n f).getD (k / 64) 0 : Nat) : Int)) := by
          rw [hcell0]
          have : k / 64 < (packN n f).length := by rw [packN_length]; exact hj
          simp [words, List.getD, this]
        have hr64 : k % 64 < 64 := Nat.mod_lt _ (by decide)
        have fin : ∀ nq, SetPost w b g' n f k bb (.returned (.bool true)) ((w.drewN nq).setCell ⟨g', k / 64, none⟩ (.int .u64 (((packN n f).getD (k / 64) 0 ^^^ 2 ^ (k % 64) : Nat) : Int))) := by
          intro nq
          refine ⟨by simp [hkn, hb'], ⟨hn, hne, cap, ?_, ?_⟩, ((Upd.refl _ _).drewN nq).at _ _, by simp, fun h => by simp [hkn, hb'] at h⟩
          · exact (hB.drewN nq).setOther (by simpa using fun e => hne e.symm) _
          · have hs := (World.ownsRow.stored (w := w.drewN nq) (base := 0) (e := 82) (size := 1) ho (k / 64) (.int .u64 (((packN n f).getD (k / 64) 0 ^^^ 2 ^ (k % 64) : Nat) : Int))).1
            rw [words_set, packN_set n f k bb hkn hb'] at hs
            exact hs
        have e3 : (k : Int) % 64 = ((k % 64 : Nat) : Int) := by omega
        have e4 : (k : Int) / 64 = ((k / 64 : Nat) : Int) := by omega
        have hjb : ((k / 64 : Nat) : Int) < 2000000 := by omega
        have hrb : ((k % 64 : Nat) : Int) < 64 := by omega
        have hxor := u64xor _ _ hx (Nat.pow_lt_pow_right (a := 2) (m := k % 64) (n := 64) (by decide) hr64)
        have hsh := shl_one _ hr64
        have hgb : f (k : Int).toNat = !bb := by
          rw [Int.toNat_natCast]
          revert hb'
          cases f k <;> cases bb <;> simp
        rw [hgb] at hget
        clear hcell0 hB ho hx hb hb' hr same hne hgg hgb hj
        generalize (packN n f).getD (k / 64) 0 = x at *
        generalize k / 64 = j at *
        generalize k % 64 = r at *
        clear hjb
        have Hfin := Lib.hid fin; clear fin
        have Hhsh := Lib.hid hsh; clear hsh
        have Hhxor := Lib.hid hxor; clear hxor
        have Hhrb := Lib.hid hrb; clear hrb
        have k1 : (k : Int) < n := by omega
        have k2 : (n : Int) ≤ 1048576 := by omega
        have k0 : (0 : Int) ≤ (k : Int) := by omega
        have k4 : ¬ (k : Int) < 0 := by omega
        have k5 : ¬ (n : Int) ≤ k := by omega
        clear hr64 hkn hn h0 h1
        cases bb
        all_goals simp only [Bool.not_false, Bool.not_true] at hget
        all_goals
          go_enter Try.func81, Try.ntmps81
          go_wp2_with (first | (go_at_call 55; (with_reducible refine hlen.out.mono ?_); rintro e w' ⟨rfl, rfl⟩) | (go_at_call 24; (with_reducible refine hget.out.mono ?_); rintro e w' ⟨rfl, rfl⟩))
          have hrb := Hhrb.out
          have hjb : (j : Int) < 20000 := by omega
          have e5 : (k : Int).tmod 64 = r := by rw [Int.tmod_eq_emod_of_nonneg k0]; exact e3
          have hw1 : IntKind.i64.wrap (j : Int) = j := IntWalk.i64_in _ (by omega)
          have hw2 : IntKind.i64.wrap (r : Int) = r := IntWalk.i64_in _ (by omega)
          refine wp_region_st 13 (by kernel_rfl) (by kernel_rfl) ?_
          simp only [List.take_succ_cons, List.take_zero, List.drop_succ_cons, List.drop_zero]
          repeat (first | still_step | fail)
          refine wpStill_nil ?_
          go_wp2
          go_ret
          rw [Hhsh.out, Hhxor.out]
          exact Hfin.out _
theorem map_Set_no (b g n : Nat) (f : Nat → Bool) (i : Int) (bb : Bool) (w : World) (h : MapF w b g n f) (hc : (decide (0 ≤ i ∧ i < n) && (f i.toNat != bb)) = false) :
    Calls Try.prog 81 #[.pointer (some ⟨b, 0, none⟩), .int .i64 i, .bool bb] w (Same w (.bool false)) :=
  (map_SetF b g n f i bb w h).mono fun e w' ⟨h1, _, _, _, h5⟩ => ⟨by rw [h1, hc], h5 hc⟩
end Go.Proofs.Ythaicpjgmplgcaa
