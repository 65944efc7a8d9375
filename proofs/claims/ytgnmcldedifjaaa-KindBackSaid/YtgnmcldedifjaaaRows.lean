/-
  No cell of these rows narrows 'for every input' (looked for: loops, veiled, ifaces, maps, wideKeys, modest, calm, conditions, laid).
  DERIVED. THE GIVEN ROWS OF THIS SEAT. 10 by the template 'for every input the law returns true; each argument reads behind the call as it read before'; 0 by the template 'total and deterministic' (their statements: YtgnmcldedifjaaaTotals.lean).
  GIVEN WITH THE SEED: the statements are not yours to turn. If you find one false, say at which input.
  Laid BY PROGRAM, IN A SANDBOX (cutbox-rows.mjs): the forced cells as the released guide's own fill.sh prints them over the translation 071ab063d8c3c066… (all of the seat's roots in one cut). By AI agents, Wed Nov 11 2026. No macro, syntax, notation, axiom, sorry.
-/
import Derived.Test.YtgnmcldedifjaaaChecked
import GoSem.Claim
import GoSem.ClaimJoined
import GoSem.ClaimMapViews
import Derived.JoinedTies
import Derived.KernelRfl
namespace Go.Proofs.Ytgnmcldedifjaaa
/- THE CELL 'sum', in the pinned program and in every row, IS THE sha256 OF THE DUMP (.gsa) THAT YtgnmcldedifjaaaProg.lean LOADS. Nothing in Lean hashes anything: it is a label: what it is worth is what the hold of that sum in a sandbox is worth. -/
noncomputable def Try.pinned : Pinned := { name := "ytgnmcldedifjaaa", sum := "071ab063d8c3c0667e95e4c82c84a214a33474966f20a28e1256f400acf11b36", checked := Try.checked }
namespace Rows
def none {H : Type} : Left H := { results := [], args := [] }

/-- 'scullionlaw9.HeaderBack': WHATEVER THE INPUT: true; the input reads as it did. -/
def headerBackSpec : ChangeSpec := { name := "headerBack", fn := fun _ => fun
  | [d1, d2, d3, d4] => { results := [.lit (.bool true)], args := [d1, d2, d3, d4] }
  | _ => none }
def headerBackRow : OpenClaim := { program := "ytgnmcldedifjaaa", sum := "071ab063d8c3c0667e95e4c82c84a214a33474966f20a28e1256f400acf11b36", func := "scullion/scullionlaw9.HeaderBack", spec := "headerBack", apart := false }
def HeaderBackSaid : Prop := headerBackRow.holds Try.pinned (OpenSpec.ofChange headerBackSpec)

/-- ITS FALSE NEIGHBOUR: 'it returns false'. Refute it at one input. -/
def headerBackWrong : ChangeSpec := { name := "headerBack", fn := fun _ => fun
  | [d1, d2, d3, d4] => { results := [.lit (.bool false)], args := [d1, d2, d3, d4] }
  | _ => none }
def HeaderBackWrongFalsely : Prop := headerBackRow.holds Try.pinned (OpenSpec.ofChange headerBackWrong)

/-- 'scullionlaw9.HeaderApart': WHATEVER THE INPUT: true; the input reads as it did. -/
def headerApartSpec : ChangeSpec := { name := "headerApart", fn := fun _ => fun
  | [d1, d2, d3, d4, d5, d6] => { results := [.lit (.bool true)], args := [d1, d2, d3, d4, d5, d6] }
  | _ => none }
def headerApartRow : OpenClaim := { program := "ytgnmcldedifjaaa", sum := "071ab063d8c3c0667e95e4c82c84a214a33474966f20a28e1256f400acf11b36", func := "scullion/scullionlaw9.HeaderApart", spec := "headerApart", apart := false }
def HeaderApartSaid : Prop := headerApartRow.holds Try.pinned (OpenSpec.ofChange headerApartSpec)

/-- ITS FALSE NEIGHBOUR: 'it returns false'. Refute it at one input. -/
def headerApartWrong : ChangeSpec := { name := "headerApart", fn := fun _ => fun
  | [d1, d2, d3, d4, d5, d6] => { results := [.lit (.bool false)], args := [d1, d2, d3, d4, d5, d6] }
  | _ => none }
def HeaderApartWrongFalsely : Prop := headerApartRow.holds Try.pinned (OpenSpec.ofChange headerApartWrong)

/-- 'scullionlaw9.HeaderTold': WHATEVER THE INPUT: true; the input reads as it did. -/
def headerToldSpec : ChangeSpec := { name := "headerTold", fn := fun _ => fun
  | [d] => { results := [.lit (.bool true)], args := [d] }
  | _ => none }
def headerToldRow : OpenClaim := { program := "ytgnmcldedifjaaa", sum := "071ab063d8c3c0667e95e4c82c84a214a33474966f20a28e1256f400acf11b36", func := "scullion/scullionlaw9.HeaderTold", spec := "headerTold", apart := false }
def HeaderToldSaid : Prop := headerToldRow.holds Try.pinned (OpenSpec.ofChange headerToldSpec)

/-- ITS FALSE NEIGHBOUR: 'it returns false'. Refute it at one input. -/
def headerToldWrong : ChangeSpec := { name := "headerTold", fn := fun _ => fun
  | [d] => { results := [.lit (.bool false)], args := [d] }
  | _ => none }
def HeaderToldWrongFalsely : Prop := headerToldRow.holds Try.pinned (OpenSpec.ofChange headerToldWrong)

/-- 'scullionlaw9.HeaderMakes': WHATEVER THE INPUT: true; the input reads as it did. -/
def headerMakesSpec : ChangeSpec := { name := "headerMakes", fn := fun _ => fun
  | [d1, d2, d3, d4, d5] => { results := [.lit (.bool true)], args := [d1, d2, d3, d4, d5] }
  | _ => none }
def headerMakesRow : OpenClaim := { program := "ytgnmcldedifjaaa", sum := "071ab063d8c3c0667e95e4c82c84a214a33474966f20a28e1256f400acf11b36", func := "scullion/scullionlaw9.HeaderMakes", spec := "headerMakes", apart := false }
def HeaderMakesSaid : Prop := headerMakesRow.holds Try.pinned (OpenSpec.ofChange headerMakesSpec)

/-- ITS FALSE NEIGHBOUR: 'it returns false'. Refute it at one input. -/
def headerMakesWrong : ChangeSpec := { name := "headerMakes", fn := fun _ => fun
  | [d1, d2, d3, d4, d5] => { results := [.lit (.bool false)], args := [d1, d2, d3, d4, d5] }
  | _ => none }
def HeaderMakesWrongFalsely : Prop := headerMakesRow.holds Try.pinned (OpenSpec.ofChange headerMakesWrong)

/-- 'scullionlaw9.HeaderMoves': WHATEVER THE INPUT: true; the input reads as it did. -/
def headerMovesSpec : ChangeSpec := { name := "headerMoves", fn := fun _ => fun
  | [d1, d2, d3] => { results := [.lit (.bool true)], args := [d1, d2, d3] }
  | _ => none }
def headerMovesRow : OpenClaim := { program := "ytgnmcldedifjaaa", sum := "071ab063d8c3c0667e95e4c82c84a214a33474966f20a28e1256f400acf11b36", func := "scullion/scullionlaw9.HeaderMoves", spec := "headerMoves", apart := false }
def HeaderMovesSaid : Prop := headerMovesRow.holds Try.pinned (OpenSpec.ofChange headerMovesSpec)

/-- ITS FALSE NEIGHBOUR: 'it returns false'. Refute it at one input. -/
def headerMovesWrong : ChangeSpec := { name := "headerMoves", fn := fun _ => fun
  | [d1, d2, d3] => { results := [.lit (.bool false)], args := [d1, d2, d3] }
  | _ => none }
def HeaderMovesWrongFalsely : Prop := headerMovesRow.holds Try.pinned (OpenSpec.ofChange headerMovesWrong)

/-- 'scullionlaw8.KindGrows': WHATEVER THE INPUT: true; the input reads as it did. -/
def kindGrowsSpec : ChangeSpec := { name := "kindGrows", fn := fun _ => fun
  | [d1, d2] => { results := [.lit (.bool true)], args := [d1, d2] }
  | _ => none }
def kindGrowsRow : OpenClaim := { program := "ytgnmcldedifjaaa", sum := "071ab063d8c3c0667e95e4c82c84a214a33474966f20a28e1256f400acf11b36", func := "scullion/scullionlaw8.KindGrows", spec := "kindGrows", apart := false }
def KindGrowsSaid : Prop := kindGrowsRow.holds Try.pinned (OpenSpec.ofChange kindGrowsSpec)

/-- ITS FALSE NEIGHBOUR: 'it returns false'. Refute it at one input. -/
def kindGrowsWrong : ChangeSpec := { name := "kindGrows", fn := fun _ => fun
  | [d1, d2] => { results := [.lit (.bool false)], args := [d1, d2] }
  | _ => none }
def KindGrowsWrongFalsely : Prop := kindGrowsRow.holds Try.pinned (OpenSpec.ofChange kindGrowsWrong)

/-- 'scullionlaw8.KindApart': WHATEVER THE INPUT: true; the input reads as it did. -/
def kindApartSpec : ChangeSpec := { name := "kindApart", fn := fun _ => fun
  | [d1, d2] => { results := [.lit (.bool true)], args := [d1, d2] }
  | _ => none }
def kindApartRow : OpenClaim := { program := "ytgnmcldedifjaaa", sum := "071ab063d8c3c0667e95e4c82c84a214a33474966f20a28e1256f400acf11b36", func := "scullion/scullionlaw8.KindApart", spec := "kindApart", apart := false }
def KindApartSaid : Prop := kindApartRow.holds Try.pinned (OpenSpec.ofChange kindApartSpec)

/-- ITS FALSE NEIGHBOUR: 'it returns false'. Refute it at one input. -/
def kindApartWrong : ChangeSpec := { name := "kindApart", fn := fun _ => fun
  | [d1, d2] => { results := [.lit (.bool false)], args := [d1, d2] }
  | _ => none }
def KindApartWrongFalsely : Prop := kindApartRow.holds Try.pinned (OpenSpec.ofChange kindApartWrong)

/-- 'scullionlaw8.KindParses': WHATEVER THE INPUT: true; the input reads as it did. -/
def kindParsesSpec : ChangeSpec := { name := "kindParses", fn := fun _ => fun
  | [d] => { results := [.lit (.bool true)], args := [d] }
  | _ => none }
def kindParsesRow : OpenClaim := { program := "ytgnmcldedifjaaa", sum := "071ab063d8c3c0667e95e4c82c84a214a33474966f20a28e1256f400acf11b36", func := "scullion/scullionlaw8.KindParses", spec := "kindParses", apart := false }
def KindParsesSaid : Prop := kindParsesRow.holds Try.pinned (OpenSpec.ofChange kindParsesSpec)

/-- ITS FALSE NEIGHBOUR: 'it returns false'. Refute it at one input. -/
def kindParsesWrong : ChangeSpec := { name := "kindParses", fn := fun _ => fun
  | [d] => { results := [.lit (.bool false)], args := [d] }
  | _ => none }
def KindParsesWrongFalsely : Prop := kindParsesRow.holds Try.pinned (OpenSpec.ofChange kindParsesWrong)

/-- 'scullionlaw8.KindMay': WHATEVER THE INPUT: true; the input reads as it did. -/
def kindMaySpec : ChangeSpec := { name := "kindMay", fn := fun _ => fun
  | [d1, d2, d3] => { results := [.lit (.bool true)], args := [d1, d2, d3] }
  | _ => none }
def kindMayRow : OpenClaim := { program := "ytgnmcldedifjaaa", sum := "071ab063d8c3c0667e95e4c82c84a214a33474966f20a28e1256f400acf11b36", func := "scullion/scullionlaw8.KindMay", spec := "kindMay", apart := false }
def KindMaySaid : Prop := kindMayRow.holds Try.pinned (OpenSpec.ofChange kindMaySpec)

/-- ITS FALSE NEIGHBOUR: 'it returns false'. Refute it at one input. -/
def kindMayWrong : ChangeSpec := { name := "kindMay", fn := fun _ => fun
  | [d1, d2, d3] => { results := [.lit (.bool false)], args := [d1, d2, d3] }
  | _ => none }
def KindMayWrongFalsely : Prop := kindMayRow.holds Try.pinned (OpenSpec.ofChange kindMayWrong)

/-- 'scullionlaw8.KindBack': WHATEVER THE INPUT: true; the input reads as it did. -/
def kindBackSpec : ChangeSpec := { name := "kindBack", fn := fun _ => fun
  | [d] => { results := [.lit (.bool true)], args := [d] }
  | _ => none }
def kindBackRow : OpenClaim := { program := "ytgnmcldedifjaaa", sum := "071ab063d8c3c0667e95e4c82c84a214a33474966f20a28e1256f400acf11b36", func := "scullion/scullionlaw8.KindBack", spec := "kindBack", apart := false }
def KindBackSaid : Prop := kindBackRow.holds Try.pinned (OpenSpec.ofChange kindBackSpec)

/-- ITS FALSE NEIGHBOUR: 'it returns false'. Refute it at one input. -/
def kindBackWrong : ChangeSpec := { name := "kindBack", fn := fun _ => fun
  | [d] => { results := [.lit (.bool false)], args := [d] }
  | _ => none }
def KindBackWrongFalsely : Prop := kindBackRow.holds Try.pinned (OpenSpec.ofChange kindBackWrong)

/- THE SECOND FORM. 'bulk': how many values and letters a reading holds, each counted each time it is reached (what is shared counts as often as it is met; a slice's spare places count too). A statement '..UptoSaid' is the law's where the arguments, and the package variables that the reading takes, are together of bulk at most 1048576: NARROWER than '..Said'. Prove '..Said' where nothing that the law and all that it calls make is longer than what came in: it says more and counts as full. Else prove '..UptoSaid'. A law counts once. -/
mutual
def uptoBulk {H : Type} : DataW H → Nat
  | .lit (.string bytes) => bytes.length + 1
  | .lit _ => 1
  | .nil => 1
  | .ptr d => uptoBulk d + 1
  | .slice elems spare => uptoBulkAll elems + uptoBulkAll spare + 1
  | .agg parts => uptoBulkAll parts + 1
  | .iface _ d => uptoBulk d + 1
  | .map entries => uptoBulkEntries entries + 1
  | .held _ => 1
def uptoBulkAll {H : Type} : List (DataW H) → Nat
  | [] => 0
  | d :: r => uptoBulk d + uptoBulkAll r
def uptoBulkEntries {H : Type} : List (Lit × DataW H) → Nat
  | [] => 0
  | x :: r => uptoBulkEntry x + uptoBulkEntries r
def uptoBulkEntry {H : Type} : Lit × DataW H → Nat
  | (.string bytes, d) => bytes.length + uptoBulk d + 1
  | (_, d) => uptoBulk d + 1
 end
def uptoSmall : (H : Type) → List (DataW H) → Bool := fun _ ds => decide (uptoBulkAll ds ≤ 1048576)
def OpenSpec.upto (s : _root_.Go.ChangeSpec) : _root_.Go.OpenSpec := { _root_.Go.OpenSpec.ofChange s with cond := some uptoSmall }

/-- 'scullionlaw9.HeaderBack', WHERE WHAT IT READS IS OF BULK AT MOST 1048576: true; the input reads as it did. -/
def headerBackUptoRow : OpenClaim := { program := "ytgnmcldedifjaaa", sum := "071ab063d8c3c0667e95e4c82c84a214a33474966f20a28e1256f400acf11b36", func := "scullion/scullionlaw9.HeaderBack", spec := "headerBack", apart := false, narrowed := true }
def HeaderBackUptoSaid : Prop := headerBackUptoRow.holds Try.pinned (OpenSpec.upto headerBackSpec)

/-- 'scullionlaw9.HeaderApart', WHERE WHAT IT READS IS OF BULK AT MOST 1048576: true; the input reads as it did. -/
def headerApartUptoRow : OpenClaim := { program := "ytgnmcldedifjaaa", sum := "071ab063d8c3c0667e95e4c82c84a214a33474966f20a28e1256f400acf11b36", func := "scullion/scullionlaw9.HeaderApart", spec := "headerApart", apart := false, narrowed := true }
def HeaderApartUptoSaid : Prop := headerApartUptoRow.holds Try.pinned (OpenSpec.upto headerApartSpec)

/-- 'scullionlaw9.HeaderTold', WHERE WHAT IT READS IS OF BULK AT MOST 1048576: true; the input reads as it did. -/
def headerToldUptoRow : OpenClaim := { program := "ytgnmcldedifjaaa", sum := "071ab063d8c3c0667e95e4c82c84a214a33474966f20a28e1256f400acf11b36", func := "scullion/scullionlaw9.HeaderTold", spec := "headerTold", apart := false, narrowed := true }
def HeaderToldUptoSaid : Prop := headerToldUptoRow.holds Try.pinned (OpenSpec.upto headerToldSpec)

/-- 'scullionlaw9.HeaderMakes', WHERE WHAT IT READS IS OF BULK AT MOST 1048576: true; the input reads as it did. -/
def headerMakesUptoRow : OpenClaim := { program := "ytgnmcldedifjaaa", sum := "071ab063d8c3c0667e95e4c82c84a214a33474966f20a28e1256f400acf11b36", func := "scullion/scullionlaw9.HeaderMakes", spec := "headerMakes", apart := false, narrowed := true }
def HeaderMakesUptoSaid : Prop := headerMakesUptoRow.holds Try.pinned (OpenSpec.upto headerMakesSpec)

/-- 'scullionlaw9.HeaderMoves', WHERE WHAT IT READS IS OF BULK AT MOST 1048576: true; the input reads as it did. -/
def headerMovesUptoRow : OpenClaim := { program := "ytgnmcldedifjaaa", sum := "071ab063d8c3c0667e95e4c82c84a214a33474966f20a28e1256f400acf11b36", func := "scullion/scullionlaw9.HeaderMoves", spec := "headerMoves", apart := false, narrowed := true }
def HeaderMovesUptoSaid : Prop := headerMovesUptoRow.holds Try.pinned (OpenSpec.upto headerMovesSpec)

/-- 'scullionlaw8.KindGrows', WHERE WHAT IT READS IS OF BULK AT MOST 1048576: true; the input reads as it did. -/
def kindGrowsUptoRow : OpenClaim := { program := "ytgnmcldedifjaaa", sum := "071ab063d8c3c0667e95e4c82c84a214a33474966f20a28e1256f400acf11b36", func := "scullion/scullionlaw8.KindGrows", spec := "kindGrows", apart := false, narrowed := true }
def KindGrowsUptoSaid : Prop := kindGrowsUptoRow.holds Try.pinned (OpenSpec.upto kindGrowsSpec)

/-- 'scullionlaw8.KindApart', WHERE WHAT IT READS IS OF BULK AT MOST 1048576: true; the input reads as it did. -/
def kindApartUptoRow : OpenClaim := { program := "ytgnmcldedifjaaa", sum := "071ab063d8c3c0667e95e4c82c84a214a33474966f20a28e1256f400acf11b36", func := "scullion/scullionlaw8.KindApart", spec := "kindApart", apart := false, narrowed := true }
def KindApartUptoSaid : Prop := kindApartUptoRow.holds Try.pinned (OpenSpec.upto kindApartSpec)

/-- 'scullionlaw8.KindParses', WHERE WHAT IT READS IS OF BULK AT MOST 1048576: true; the input reads as it did. -/
def kindParsesUptoRow : OpenClaim := { program := "ytgnmcldedifjaaa", sum := "071ab063d8c3c0667e95e4c82c84a214a33474966f20a28e1256f400acf11b36", func := "scullion/scullionlaw8.KindParses", spec := "kindParses", apart := false, narrowed := true }
def KindParsesUptoSaid : Prop := kindParsesUptoRow.holds Try.pinned (OpenSpec.upto kindParsesSpec)

/-- 'scullionlaw8.KindMay', WHERE WHAT IT READS IS OF BULK AT MOST 1048576: true; the input reads as it did. -/
def kindMayUptoRow : OpenClaim := { program := "ytgnmcldedifjaaa", sum := "071ab063d8c3c0667e95e4c82c84a214a33474966f20a28e1256f400acf11b36", func := "scullion/scullionlaw8.KindMay", spec := "kindMay", apart := false, narrowed := true }
def KindMayUptoSaid : Prop := kindMayUptoRow.holds Try.pinned (OpenSpec.upto kindMaySpec)

/-- 'scullionlaw8.KindBack', WHERE WHAT IT READS IS OF BULK AT MOST 1048576: true; the input reads as it did. -/
def kindBackUptoRow : OpenClaim := { program := "ytgnmcldedifjaaa", sum := "071ab063d8c3c0667e95e4c82c84a214a33474966f20a28e1256f400acf11b36", func := "scullion/scullionlaw8.KindBack", spec := "kindBack", apart := false, narrowed := true }
def KindBackUptoSaid : Prop := kindBackUptoRow.holds Try.pinned (OpenSpec.upto kindBackSpec)

end Rows
end Go.Proofs.Ytgnmcldedifjaaa
