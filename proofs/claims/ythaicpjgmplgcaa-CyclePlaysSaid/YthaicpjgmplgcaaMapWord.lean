/- Word of package bitmap. -/
import Derived.Test.YthaicpjgmplgcaaFirst
namespace Go.Proofs.Ythaicpjgmplgcaa
open Go.RowKit
set_option linter.unusedVariables false

def wordAt (ws : List Nat) (i : Int) : Nat := if 0 ≤ i ∧ i < ws.length then ws.getD i.toNat 0 else 0

end Go.Proofs.Ythaicpjgmplgcaa
