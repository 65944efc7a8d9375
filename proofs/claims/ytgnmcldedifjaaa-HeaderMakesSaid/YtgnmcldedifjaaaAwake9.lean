/- Laws of chapter 9: the common part. -/
import Derived.Test.YtgnmcldedifjaaaHeader
import Derived.Test.YtgnmcldedifjaaaOpen
namespace Go.Proofs.Ytgnmcldedifjaaa
open Go.RowKit
set_option linter.unusedVariables false

theorem retFrom {P : Program} {f : FuncId} {a : Array Value} {W w' : World} {v : Value} (h : Calls P f a w' (Ret w' v)) (u : Upd (fun _ => False) W w') : Calls P f a w' (Ret W v) :=
  h.mono fun e w2 ⟨he, hu⟩ => ⟨he, u.trans hu⟩

theorem nat_of_u64 {a : Int} (h : (Lit.int .u64 a).wf = true) : ∃ x : Nat, a = x ∧ x < 2 ^ 64 := by
  obtain ⟨h1, h2⟩ := bounds_u64 h
  exact ⟨a.toNat, by omega, by omega⟩
theorem parse_yes (x : Nat) (h : IsHead x) : parseV x = .tuple #[.int .i64 (getN x 0 4), .int .i64 (getN x 4 5), .int .u64 (getN x 9 32), .bool true] := if_pos h
theorem parse_none (x : Nat) (h : ¬ IsHead x) : parseV x = .tuple #[.int .i64 0, .int .i64 0, .int .u64 0, .bool false] := if_neg h
theorem parse_make (k n e : Nat) (hk : k < 16) (h1 : 1 ≤ n) (h2 : n ≤ 16) : parseV (makeN k n e) = .tuple #[.int .i64 k, .int .i64 n, .int .u64 (e % 2 ^ 32 : Nat), .bool true] := by
  rw [parse_yes _ (make_isHead k n e h1 h2), make_kind k n e hk, make_words k n e (by omega), make_epoch]
theorem and32 (e : Nat) (he : e < 2 ^ 64) : bits .and .u64 (e : Int) 4294967295 = ((e % 2 ^ 32 : Nat) : Int) := by
  have := and_ones e 32 he (by decide)
  exact this

set_option maxRecDepth 100000 in
set_option maxHeartbeats 400000 in
theorem awake9 (W w : World) (u : Upd (fun _ => False) W w) : Calls Try.prog 15 #[] w (Ret W (.bool true)) := by
  have h1 := Lib.hid (fun (w' : World) (u : Upd (fun _ => False) W w') => show Calls Try.prog 13 #[.int .i64 3, .int .i64 5, .int .u64 7] w' (Ret W (.int .u64 (makeN 3 5 7))) from retFrom (header_make 3 5 7 w' (by decide) (by decide) (by decide) (by decide)) u)
  have h2 := Lib.hid (fun (w' : World) => show Calls Try.prog 14 #[.int .u64 (makeN 3 5 7)] w' (Same w' (.tuple #[.int .i64 3, .int .i64 5, .int .u64 7, .bool true])) from by
    have := header_parse (makeN 3 5 7) w' (makeN_lt _ _ _)
    rw [parse_make 3 5 7 (by decide) (by decide) (by decide)] at this
    exact this)
  generalize makeN 3 5 7 = y at *
  go_enter Try.func15, Try.ntmps15
  go_wp2_with (first | (go_at_call 13; (first | (with_reducible refine (h1.out _ (by assumption)).mono ?_)); rintro e w' ⟨rfl, hu⟩) | (go_at_call 14; (first | (with_reducible refine (h2.out _).mono ?_)); rintro e w' ⟨rfl, rfl⟩))
  go_ret
  exact ⟨rfl, by assumption⟩
end Go.Proofs.Ytgnmcldedifjaaa
