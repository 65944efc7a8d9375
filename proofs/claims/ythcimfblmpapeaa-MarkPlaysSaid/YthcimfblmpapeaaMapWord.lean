/- Word of package bitmap. -/
import Derived.Test.YthcimfblmpapeaaFirst
namespace Go.Proofs.Ythcimfblmpapeaa
open Go.RowKit
set_option linter.unusedVariables false

def wordAt (ws : List Nat) (i : Int) : Nat := if 0 ≤ i ∧ i < ws.length then ws.getD i.toNat 0 else 0

theorem map_Word_nil (i : Int) (w : World) : Calls Try.prog 25 #[.pointer none, .int .i64 i] w (Same w (.int .u64 0)) := by
  go_enter Try.func25, Try.ntmps25
  go_wp2
  go_ret
  exact ⟨rfl, rfl⟩

set_option maxRecDepth 100000 in
set_option maxHeartbeats 400000 in
theorem map_Word (b n : Nat) (ws : List Nat) (i : Int) (w : World) (h : IsMap w b n ws) : Calls Try.prog 25 #[.pointer (some ⟨b, 0, none⟩), .int .i64 i] w (Same w (.int .u64 (wordAt ws i))) := by
  obtain ⟨hl, hn, hlt, v, hb, ho, -⟩ := h
  have hv := hb.cell 1 rfl
  have hsh := ownsRow_shape ho
  by_cases h0 : i < 0
  · have e : wordAt ws i = 0 := if_neg (by omega)
    rw [e]
    clear hl hn hlt hb ho hsh e
    go_enter Try.func25, Try.ntmps25
    go_wp2
    go_ret
    exact ⟨rfl, rfl⟩
  · by_cases h1 : (ws.length : Int) ≤ i
    · have e : wordAt ws i = 0 := if_neg (by omega)
      obtain ⟨a, cap, rfl⟩ := hsh
      rw [e]
      clear hl hn hlt hb ho e
      go_enter Try.func25, Try.ntmps25
      go_wp2
      go_ret
      exact ⟨rfl, rfl⟩
    · obtain ⟨k, rfl⟩ : ∃ k : Nat, i = k := ⟨i.toNat, by omega⟩
      have hk : k < ws.length := by omega
      have e : wordAt ws (k : Int) = ws.getD k 0 := by
        unfold wordAt
        rw [if_pos (by omega)]
        simp
      obtain ⟨g, hix, -, -, hcell0, -, -⟩ := ownsRow_index ho (P := Try.prog) Try.underlying22 (by kernel_rfl) (by kernel_rfl) hk
      have hcell : w.cell? ⟨g, k, none⟩ = some (.int .u64 ((ws.getD k 0 : Nat) : Int)) := by
        rw [hcell0]
        simp [List.getD, hk]
      rw [e]
      generalize ws.getD k 0 = x at *
      obtain ⟨a, cap, rfl⟩ := hsh
      clear hl hn hlt hb ho e hcell0
      go_enter Try.func25, Try.ntmps25
      go_wp2
      go_ret
      exact ⟨rfl, rfl⟩
end Go.Proofs.Ythcimfblmpapeaa
