/- Package bitmap: its functions' contracts. -/
import Derived.Test.YthaicpjgmplgcaaWord
import Derived.Test.YthaicpjgmplgcaaOpen
namespace Go.Proofs.Ythaicpjgmplgcaa
open Go.RowKit
set_option linter.unusedVariables false

/-- A map at block b: n bits, in the words ws. -/
def IsMap (w : World) (b n : Nat) (ws : List Nat) : Prop :=
  ws.length = (n + 63) / 64 ∧ n ≤ 1048576 ∧ (∀ x ∈ ws, x < 2 ^ 64) ∧
    ∃ v, Blk w b [.int .i64 n, v] 89 ∧ w.ownsRow 0 82 1 v ws.length (ws.map fun (x : Nat) => Value.int .u64 (x : Int)) ∧ v.ownBlock ≠ some b

theorem map_Len_nil (w : World) : Calls Try.prog 55 #[.pointer none] w (Same w (.int .i64 0)) := by
  go_enter Try.func55, Try.ntmps55
  go_wp2
  go_ret
  exact ⟨rfl, rfl⟩

theorem map_Len (b n : Nat) (ws : List Nat) (w : World) (h : IsMap w b n ws) : Calls Try.prog 55 #[.pointer (some ⟨b, 0, none⟩)] w (Same w (.int .i64 n)) := by
  obtain ⟨-, -, -, v, hb, -, -⟩ := h
  have hc := hb.cell 0 rfl
  clear hb
  go_enter Try.func55, Try.ntmps55
  go_wp2
  go_ret
  exact ⟨rfl, rfl⟩

/-- Bit i of a map. -/
def bitK (n : Nat) (ws : List Nat) (i : Int) : Bool := decide (0 ≤ i ∧ i < n) && (ws.getD (i.toNat / 64) 0).testBit (i.toNat % 64)

theorem map_Get_nil (i : Int) (w : World) : Calls Try.prog 24 #[.pointer none, .int .i64 i] w (Same w (.bool false)) := by
  have h1 := Lib.hid (map_Len_nil w)
  by_cases h : 0 ≤ i
  · have h2 : ¬ i < 0 := by omega
    go_enter Try.func24, Try.ntmps24
    go_wp2_with (go_at_call 55; (with_reducible refine h1.out.mono ?_); rintro e w' ⟨rfl, rfl⟩)
    go_ret
    exact ⟨rfl, rfl⟩
  · go_enter Try.func24, Try.ntmps24
    go_wp2
    go_ret
    exact ⟨rfl, rfl⟩

theorem map_words_lt (n k : Nat) (ws : List Nat) (h : ws.length = (n + 63) / 64) (hk : k < n) : k / 64 < ws.length := by omega
theorem bit_get (x k : Nat) : ((getN x k 1 : Nat) : Int) = if x.testBit k then 1 else 0 := by
  rw [get_one, Nat.testBit_eq_decide_div_mod_eq]
  rcases Nat.mod_two_eq_zero_or_one (x / 2 ^ k) with h | h <;> simp [h]

set_option maxRecDepth 100000 in
set_option maxHeartbeats 400000 in
theorem map_Get (b n : Nat) (ws : List Nat) (i : Int) (w : World) (h : IsMap w b n ws) : Calls Try.prog 24 #[.pointer (some ⟨b, 0, none⟩), .int .i64 i] w (Same w (.bool (bitK n ws i))) := by
  have h1 := Lib.hid (map_Len b n ws w h)
  by_cases h0 : 0 ≤ i
  · by_cases hin : i < n
    · obtain ⟨k, rfl⟩ : ∃ k : Nat, i = k := ⟨i.toNat, by omega⟩
      have hkn : k < n := by omega
      obtain ⟨hl, hn, hlt, v, hb, ho, -⟩ := h
      have hj := map_words_lt n k ws hl hkn
      obtain ⟨g, hix, -, -, hcell0, -, -⟩ := ownsRow_index ho (P := Try.prog) Try.underlying23 (by kernel_rfl) (by kernel_rfl) hj
      have hv := hb.cell 1 rfl
      have hx : ws.getD (k / 64) 0 < 2 ^ 64 := hlt _ (by simp [List.getD, hj])
      have hcell : w.cell? ⟨g, k / 64, none⟩ = some (.int .u64 ((ws.getD (k / 64) 0 : Nat) : Int)) := by
        rw [hcell0]
        simp [List.getD, hj]
      have hbit : bitK n ws (k : Int) = (ws.getD (k / 64) 0).testBit (k % 64) := by
        unfold bitK
        rw [decide_eq_true ⟨h0, hin⟩]
        simp
      rw [hbit]
      generalize ws.getD (k / 64) 0 = x at *
      have hg0 := word_get x (k % 64) 1 w hx (by omega)
      rw [bit_get] at hg0
      have e1 : wrap64 ((k : Int) / 64) = ((k / 64 : Nat) : Int) := by
        unfold wrap64
        omega
      have e2 : wrap64 ((k : Int) % 64) = ((k % 64 : Nat) : Int) := by
        unfold wrap64
        omega
      have e3 : (k : Int) % 64 = ((k % 64 : Nat) : Int) := by omega
      have e4 : (k : Int) / 64 = ((k / 64 : Nat) : Int) := by omega
      obtain ⟨a, cap, rfl⟩ := ownsRow_shape ho
      have hjb : ((k / 64 : Nat) : Int) < 2000000 := by omega
      have hrb : ((k % 64 : Nat) : Int) < 64 := by omega
      clear e1 e2
      clear hcell0 hl hn hlt hb ho hj hx hbit hkn
      generalize k / 64 = j at *
      generalize hr : k % 64 = r at *
      cases hbt : x.testBit r
      · rw [hbt] at hg0
        have hg : Calls Try.prog 51 #[.int .u64 x, .int .i64 (r : Nat), .int .i64 1] w (Same w (.int .u64 0)) := hg0
        have Hg := Lib.hid hg
        clear hg hg0 hbt
        go_enter Try.func24, Try.ntmps24
        go_wp2_with (first | (go_at_call 55; (with_reducible refine h1.out.mono ?_); rintro e w' ⟨rfl, rfl⟩) | (go_at_call 51; (with_reducible refine Hg.out.mono ?_); rintro e w' ⟨rfl, rfl⟩))
        go_ret
        exact ⟨rfl, rfl⟩
      · rw [hbt] at hg0
        have hg : Calls Try.prog 51 #[.int .u64 x, .int .i64 (r : Nat), .int .i64 1] w (Same w (.int .u64 1)) := hg0
        have Hg := Lib.hid hg
        clear hg hg0 hbt
        go_enter Try.func24, Try.ntmps24
        go_wp2_with (first | (go_at_call 55; (with_reducible refine h1.out.mono ?_); rintro e w' ⟨rfl, rfl⟩) | (go_at_call 51; (with_reducible refine Hg.out.mono ?_); rintro e w' ⟨rfl, rfl⟩))
        go_ret
        exact ⟨rfl, rfl⟩
    · have hbit : bitK n ws i = false := by
        unfold bitK
        rw [decide_eq_false (by omega)]
        rfl
      rw [hbit]
      clear h hbit
      go_enter Try.func24, Try.ntmps24
      go_wp2_with (go_at_call 55; (with_reducible refine h1.out.mono ?_); rintro e w' ⟨rfl, rfl⟩)
      go_ret
      exact ⟨rfl, rfl⟩
  · have hbit : bitK n ws i = false := by
      unfold bitK
      rw [decide_eq_false (by omega)]
      rfl
    rw [hbit]
    clear h hbit
    go_enter Try.func24, Try.ntmps24
    go_wp2
    go_ret
    exact ⟨rfl, rfl⟩
end Go.Proofs.Ythaicpjgmplgcaa
