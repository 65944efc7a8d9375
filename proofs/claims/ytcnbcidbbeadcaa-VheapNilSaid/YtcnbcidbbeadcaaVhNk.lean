/- Keep of no heap. -/
import Derived.Test.YtcnbcidbbeadcaaVhNil
namespace Go.Proofs.Ytcnbcidbbeadcaa
open Go.RowKit Go.Deep
set_option linter.unusedVariables false

set_option maxRecDepth 100000 in
theorem nil_add (ch ck : Nat) (w : World) : Calls Try.prog 78 #[.slice none 0 0, .pointer (some ⟨ch, 0, none⟩), .pointer (some ⟨ck, 0, none⟩)] w (Same w (.tuple #[])) := by
  go_enter Try.func78, Try.ntmps78
  go_wp2_with fail
  go_loopw [8] (fun i wr => i = .int .i64 0 ∧ wr = w) (fun _ _ => 0)
  case atStart => exact ⟨rfl, rfl⟩
  case round =>
    obtain ⟨rfl, rfl⟩ := hrel
    go_wp2
    go_end0
    exact ⟨rfl, rfl⟩
set_option maxRecDepth 100000 in
theorem nil_Keep (w : World) : Calls Try.prog 44 #[.pointer none, .slice none 0 0] w (RetU w (.int .i64 0)) := by
  have hu : Upd (fun _ => False) w ((w.alloc (.cells #[.pointer none] 39)).alloc (.cells #[.slice none 0 0] 52)) := ((Upd.refl _ _).alloc _).alloc _
  have hB1 := (Blk.new w [.pointer none] 39).alloc (.cells #[.slice none 0 0] 52)
  have hB2 := (Blk.new (w.alloc (.cells #[.pointer none] 39)) [.slice none 0 0] 52)
  rw [alloc_size] at hB2
  have c1 := hB1.cell 0 rfl
  have c2 := hB2.cell 0 rfl
  have ha := Lib.hid nil_All
  have hd := Lib.hid nil_add
  have Hhu := Lib.hid hu; clear hu
  clear hB1 hB2
  go_enter Try.func44, Try.ntmps44
  go_wp2_with (go_at_call 78; (with_reducible refine (hd.out _ _ _).mono ?_); rintro e w3 ⟨rfl, rfl⟩)
  generalize (w.alloc (.cells #[.pointer none] 39)).alloc (.cells #[.slice none 0 0] 52) = wa at *
  go_loopw [7] (fun i wr => i = .int .i64 0 ∧ wr = wa) (fun _ _ => 0)
  case atStart => exact ⟨rfl, rfl⟩
  case round =>
    obtain ⟨rfl, hwr⟩ := hrel
    subst hwr
    go_wp2_with (go_at_call 33; (with_reducible refine (ha.out _).mono ?_); rintro e w2 ⟨rfl, rfl⟩)
    obtain ⟨wb, hwb⟩ : ∃ wb : World, wb = wr := ⟨_, rfl⟩
    subst hwb
    go_loopw [8, 32] (fun n i wr => n = .int .i64 0 ∧ i = .int .i64 0 ∧ wr = wb) (fun _ _ _ => 0)
    case atStart => exact ⟨rfl, rfl, rfl⟩
    case round =>
      obtain ⟨rfl, rfl, hwr⟩ := hrel
      subst hwr
      go_wp2_with fail
      go_ret
      exact ⟨rfl, Hhu.out⟩
end Go.Proofs.Ytcnbcidbbeadcaa
