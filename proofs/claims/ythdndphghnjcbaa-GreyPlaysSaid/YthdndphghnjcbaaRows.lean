/-
  No cell of these rows narrows 'for every input' (looked for: loops, veiled, ifaces, maps, wideKeys, modest, calm, conditions, laid).
  DERIVED. THE GIVEN ROWS OF THIS SEAT. 12 by the template 'for every input the law returns true; each argument reads behind the call as it read before'; 0 by the template 'total and deterministic' (their statements: YthdndphghnjcbaaTotals.lean).
  GIVEN WITH THE SEED: the statements are not yours to turn. If you find one false, say at which input.
  Laid BY PROGRAM, IN A SANDBOX (cutbox-rows.mjs): the forced cells as the released guide's own fill.sh prints them over the translation 0ae441d08eb19148… (all of the seat's roots in one cut). By AI agents, Wed Nov 11 2026. No macro, syntax, notation, axiom, sorry.
-/
import Derived.Test.YthdndphghnjcbaaChecked
import GoSem.Claim
import GoSem.ClaimJoined
import GoSem.ClaimMapViews
import Derived.JoinedTies
import Derived.KernelRfl
namespace Go.Proofs.Ythdndphghnjcbaa
/- THE CELL 'sum', in the pinned program and in every row, IS THE sha256 OF THE DUMP (.gsa) THAT YthdndphghnjcbaaProg.lean LOADS. Nothing in Lean hashes anything: it is a label: what it is worth is what the hold of that sum in a sandbox is worth. -/
noncomputable def Try.pinned : Pinned := { name := "ythdndphghnjcbaa", sum := "0ae441d08eb19148dff440a07618555a66adafbf93c77218a322ecb1e8fda53a", checked := Try.checked }
namespace Rows
def none {H : Type} : Left H := { results := [], args := [] }

/-- 'scullionlaw18.GreyMany': WHATEVER THE INPUT: true; the input reads as it did. -/
def greyManySpec : ChangeSpec := { name := "greyMany", fn := fun _ => fun
  | [d1, d2] => { results := [.lit (.bool true)], args := [d1, d2] }
  | _ => none }
def greyManyRow : OpenClaim := { program := "ythdndphghnjcbaa", sum := "0ae441d08eb19148dff440a07618555a66adafbf93c77218a322ecb1e8fda53a", func := "scullion/scullionlaw18.GreyMany", spec := "greyMany", apart := false }
def GreyManySaid : Prop := greyManyRow.holds Try.pinned (OpenSpec.ofChange greyManySpec)

/-- ITS FALSE NEIGHBOUR: 'it returns false'. Refute it at one input. -/
def greyManyWrong : ChangeSpec := { name := "greyMany", fn := fun _ => fun
  | [d1, d2] => { results := [.lit (.bool false)], args := [d1, d2] }
  | _ => none }
def GreyManyWrongFalsely : Prop := greyManyRow.holds Try.pinned (OpenSpec.ofChange greyManyWrong)

/-- 'scullionlaw18.GreyRows': WHATEVER THE INPUT: true; the input reads as it did. -/
def greyRowsSpec : ChangeSpec := { name := "greyRows", fn := fun _ => fun
  | [d1, d2] => { results := [.lit (.bool true)], args := [d1, d2] }
  | _ => none }
def greyRowsRow : OpenClaim := { program := "ythdndphghnjcbaa", sum := "0ae441d08eb19148dff440a07618555a66adafbf93c77218a322ecb1e8fda53a", func := "scullion/scullionlaw18.GreyRows", spec := "greyRows", apart := false }
def GreyRowsSaid : Prop := greyRowsRow.holds Try.pinned (OpenSpec.ofChange greyRowsSpec)

/-- ITS FALSE NEIGHBOUR: 'it returns false'. Refute it at one input. -/
def greyRowsWrong : ChangeSpec := { name := "greyRows", fn := fun _ => fun
  | [d1, d2] => { results := [.lit (.bool false)], args := [d1, d2] }
  | _ => none }
def GreyRowsWrongFalsely : Prop := greyRowsRow.holds Try.pinned (OpenSpec.ofChange greyRowsWrong)

/-- 'scullionlaw18.GreyPlays': WHATEVER THE INPUT: true; the input reads as it did. -/
def greyPlaysSpec : ChangeSpec := { name := "greyPlays", fn := fun _ => fun
  | [d1, d2] => { results := [.lit (.bool true)], args := [d1, d2] }
  | _ => none }
def greyPlaysRow : OpenClaim := { program := "ythdndphghnjcbaa", sum := "0ae441d08eb19148dff440a07618555a66adafbf93c77218a322ecb1e8fda53a", func := "scullion/scullionlaw18.GreyPlays", spec := "greyPlays", apart := false }
def GreyPlaysSaid : Prop := greyPlaysRow.holds Try.pinned (OpenSpec.ofChange greyPlaysSpec)

/-- ITS FALSE NEIGHBOUR: 'it returns false'. Refute it at one input. -/
def greyPlaysWrong : ChangeSpec := { name := "greyPlays", fn := fun _ => fun
  | [d1, d2] => { results := [.lit (.bool false)], args := [d1, d2] }
  | _ => none }
def GreyPlaysWrongFalsely : Prop := greyPlaysRow.holds Try.pinned (OpenSpec.ofChange greyPlaysWrong)

/-- 'scullionlaw18.GreyNil': WHATEVER THE INPUT: true; the input reads as it did. -/
def greyNilSpec : ChangeSpec := { name := "greyNil", fn := fun _ => fun
  | [d] => { results := [.lit (.bool true)], args := [d] }
  | _ => none }
def greyNilRow : OpenClaim := { program := "ythdndphghnjcbaa", sum := "0ae441d08eb19148dff440a07618555a66adafbf93c77218a322ecb1e8fda53a", func := "scullion/scullionlaw18.GreyNil", spec := "greyNil", apart := false }
def GreyNilSaid : Prop := greyNilRow.holds Try.pinned (OpenSpec.ofChange greyNilSpec)

/-- ITS FALSE NEIGHBOUR: 'it returns false'. Refute it at one input. -/
def greyNilWrong : ChangeSpec := { name := "greyNil", fn := fun _ => fun
  | [d] => { results := [.lit (.bool false)], args := [d] }
  | _ => none }
def GreyNilWrongFalsely : Prop := greyNilRow.holds Try.pinned (OpenSpec.ofChange greyNilWrong)

/-- 'scullionlaw2.WordFields': WHATEVER THE INPUT: true; the input reads as it did. -/
def wordFieldsSpec : ChangeSpec := { name := "wordFields", fn := fun _ => fun
  | [d1, d2, d3, d4] => { results := [.lit (.bool true)], args := [d1, d2, d3, d4] }
  | _ => none }
def wordFieldsRow : OpenClaim := { program := "ythdndphghnjcbaa", sum := "0ae441d08eb19148dff440a07618555a66adafbf93c77218a322ecb1e8fda53a", func := "scullion/scullionlaw2.WordFields", spec := "wordFields", apart := false }
def WordFieldsSaid : Prop := wordFieldsRow.holds Try.pinned (OpenSpec.ofChange wordFieldsSpec)

/-- ITS FALSE NEIGHBOUR: 'it returns false'. Refute it at one input. -/
def wordFieldsWrong : ChangeSpec := { name := "wordFields", fn := fun _ => fun
  | [d1, d2, d3, d4] => { results := [.lit (.bool false)], args := [d1, d2, d3, d4] }
  | _ => none }
def WordFieldsWrongFalsely : Prop := wordFieldsRow.holds Try.pinned (OpenSpec.ofChange wordFieldsWrong)

/-- 'scullionlaw2.WordBack': WHATEVER THE INPUT: true; the input reads as it did. -/
def wordBackSpec : ChangeSpec := { name := "wordBack", fn := fun _ => fun
  | [d1, d2, d3, d4, d5, d6] => { results := [.lit (.bool true)], args := [d1, d2, d3, d4, d5, d6] }
  | _ => none }
def wordBackRow : OpenClaim := { program := "ythdndphghnjcbaa", sum := "0ae441d08eb19148dff440a07618555a66adafbf93c77218a322ecb1e8fda53a", func := "scullion/scullionlaw2.WordBack", spec := "wordBack", apart := false }
def WordBackSaid : Prop := wordBackRow.holds Try.pinned (OpenSpec.ofChange wordBackSpec)

/-- ITS FALSE NEIGHBOUR: 'it returns false'. Refute it at one input. -/
def wordBackWrong : ChangeSpec := { name := "wordBack", fn := fun _ => fun
  | [d1, d2, d3, d4, d5, d6] => { results := [.lit (.bool false)], args := [d1, d2, d3, d4, d5, d6] }
  | _ => none }
def WordBackWrongFalsely : Prop := wordBackRow.holds Try.pinned (OpenSpec.ofChange wordBackWrong)

/-- 'scullionlaw2.WordParts': WHATEVER THE INPUT: true; the input reads as it did. -/
def wordPartsSpec : ChangeSpec := { name := "wordParts", fn := fun _ => fun
  | [d1, d2] => { results := [.lit (.bool true)], args := [d1, d2] }
  | _ => none }
def wordPartsRow : OpenClaim := { program := "ythdndphghnjcbaa", sum := "0ae441d08eb19148dff440a07618555a66adafbf93c77218a322ecb1e8fda53a", func := "scullion/scullionlaw2.WordParts", spec := "wordParts", apart := false }
def WordPartsSaid : Prop := wordPartsRow.holds Try.pinned (OpenSpec.ofChange wordPartsSpec)

/-- ITS FALSE NEIGHBOUR: 'it returns false'. Refute it at one input. -/
def wordPartsWrong : ChangeSpec := { name := "wordParts", fn := fun _ => fun
  | [d1, d2] => { results := [.lit (.bool false)], args := [d1, d2] }
  | _ => none }
def WordPartsWrongFalsely : Prop := wordPartsRow.holds Try.pinned (OpenSpec.ofChange wordPartsWrong)

/-- 'scullionlaw2.WordNone': WHATEVER THE INPUT: true; the input reads as it did. -/
def wordNoneSpec : ChangeSpec := { name := "wordNone", fn := fun _ => fun
  | [d1, d2, d3, d4] => { results := [.lit (.bool true)], args := [d1, d2, d3, d4] }
  | _ => none }
def wordNoneRow : OpenClaim := { program := "ythdndphghnjcbaa", sum := "0ae441d08eb19148dff440a07618555a66adafbf93c77218a322ecb1e8fda53a", func := "scullion/scullionlaw2.WordNone", spec := "wordNone", apart := false }
def WordNoneSaid : Prop := wordNoneRow.holds Try.pinned (OpenSpec.ofChange wordNoneSpec)

/-- ITS FALSE NEIGHBOUR: 'it returns false'. Refute it at one input. -/
def wordNoneWrong : ChangeSpec := { name := "wordNone", fn := fun _ => fun
  | [d1, d2, d3, d4] => { results := [.lit (.bool false)], args := [d1, d2, d3, d4] }
  | _ => none }
def WordNoneWrongFalsely : Prop := wordNoneRow.holds Try.pinned (OpenSpec.ofChange wordNoneWrong)

/-- 'scullionlaw2.WordOnes': WHATEVER THE INPUT: true; the input reads as it did. -/
def wordOnesSpec : ChangeSpec := { name := "wordOnes", fn := fun _ => fun
  | [d1, d2] => { results := [.lit (.bool true)], args := [d1, d2] }
  | _ => none }
def wordOnesRow : OpenClaim := { program := "ythdndphghnjcbaa", sum := "0ae441d08eb19148dff440a07618555a66adafbf93c77218a322ecb1e8fda53a", func := "scullion/scullionlaw2.WordOnes", spec := "wordOnes", apart := false }
def WordOnesSaid : Prop := wordOnesRow.holds Try.pinned (OpenSpec.ofChange wordOnesSpec)

/-- ITS FALSE NEIGHBOUR: 'it returns false'. Refute it at one input. -/
def wordOnesWrong : ChangeSpec := { name := "wordOnes", fn := fun _ => fun
  | [d1, d2] => { results := [.lit (.bool false)], args := [d1, d2] }
  | _ => none }
def WordOnesWrongFalsely : Prop := wordOnesRow.holds Try.pinned (OpenSpec.ofChange wordOnesWrong)

/-- 'scullionlaw2.WordLowests': WHATEVER THE INPUT: true; the input reads as it did. -/
def wordLowestsSpec : ChangeSpec := { name := "wordLowests", fn := fun _ => fun
  | [d] => { results := [.lit (.bool true)], args := [d] }
  | _ => none }
def wordLowestsRow : OpenClaim := { program := "ythdndphghnjcbaa", sum := "0ae441d08eb19148dff440a07618555a66adafbf93c77218a322ecb1e8fda53a", func := "scullion/scullionlaw2.WordLowests", spec := "wordLowests", apart := false }
def WordLowestsSaid : Prop := wordLowestsRow.holds Try.pinned (OpenSpec.ofChange wordLowestsSpec)

/-- ITS FALSE NEIGHBOUR: 'it returns false'. Refute it at one input. -/
def wordLowestsWrong : ChangeSpec := { name := "wordLowests", fn := fun _ => fun
  | [d] => { results := [.lit (.bool false)], args := [d] }
  | _ => none }
def WordLowestsWrongFalsely : Prop := wordLowestsRow.holds Try.pinned (OpenSpec.ofChange wordLowestsWrong)

/-- 'scullionlaw2.WordCounts': WHATEVER THE INPUT: true; the input reads as it did. -/
def wordCountsSpec : ChangeSpec := { name := "wordCounts", fn := fun _ => fun
  | [d1, d2] => { results := [.lit (.bool true)], args := [d1, d2] }
  | _ => none }
def wordCountsRow : OpenClaim := { program := "ythdndphghnjcbaa", sum := "0ae441d08eb19148dff440a07618555a66adafbf93c77218a322ecb1e8fda53a", func := "scullion/scullionlaw2.WordCounts", spec := "wordCounts", apart := false }
def WordCountsSaid : Prop := wordCountsRow.holds Try.pinned (OpenSpec.ofChange wordCountsSpec)

/-- ITS FALSE NEIGHBOUR: 'it returns false'. Refute it at one input. -/
def wordCountsWrong : ChangeSpec := { name := "wordCounts", fn := fun _ => fun
  | [d1, d2] => { results := [.lit (.bool false)], args := [d1, d2] }
  | _ => none }
def WordCountsWrongFalsely : Prop := wordCountsRow.holds Try.pinned (OpenSpec.ofChange wordCountsWrong)

/-- 'scullionlaw2.WordNumbers': WHATEVER THE INPUT: true; the input reads as it did. -/
def wordNumbersSpec : ChangeSpec := { name := "wordNumbers", fn := fun _ => fun
  | [d] => { results := [.lit (.bool true)], args := [d] }
  | _ => none }
def wordNumbersRow : OpenClaim := { program := "ythdndphghnjcbaa", sum := "0ae441d08eb19148dff440a07618555a66adafbf93c77218a322ecb1e8fda53a", func := "scullion/scullionlaw2.WordNumbers", spec := "wordNumbers", apart := false }
def WordNumbersSaid : Prop := wordNumbersRow.holds Try.pinned (OpenSpec.ofChange wordNumbersSpec)

/-- ITS FALSE NEIGHBOUR: 'it returns false'. Refute it at one input. -/
def wordNumbersWrong : ChangeSpec := { name := "wordNumbers", fn := fun _ => fun
  | [d] => { results := [.lit (.bool false)], args := [d] }
  | _ => none }
def WordNumbersWrongFalsely : Prop := wordNumbersRow.holds Try.pinned (OpenSpec.ofChange wordNumbersWrong)

/- THE SECOND FORM. 'bulk': how many values and letters a reading holds, each counted each time it is reached (what is shared counts as often as it is met; a slice's spare places count too). A statement '..UptoSaid' is the law's where the arguments, and the package variables that the reading takes, are together of bulk at most 1048576: NARROWER than '..Said'. Prove '..Said' where nothing that the law and all that it calls make is longer than what came in: it says more and counts as full. Else prove '..UptoSaid'. A law counts once. -/
mutual
def uptoBulk {H : Type} : DataW H → Nat
  | .lit (.string bytes) => bytes.length + 1
  | .lit _ => 1
  | .nil => 1
  | .ptr d => uptoBulk d + 1
  | .slice elems spare => uptoBulkAll elems + uptoBulkAll spare + 1
  | .agg parts => uptoBulkAll parts + 1
  | .iface _ d => uptoBulk d + 1
  | .map entries => uptoBulkEntries entries + 1
  | .held _ => 1
def uptoBulkAll {H : Type} : List (DataW H) → Nat
  | [] => 0
  | d :: r => uptoBulk d + uptoBulkAll r
def uptoBulkEntries {H : Type} : List (Lit × DataW H) → Nat
  | [] => 0
  | x :: r => uptoBulkEntry x + uptoBulkEntries r
def uptoBulkEntry {H : Type} : Lit × DataW H → Nat
  | (.string bytes, d) => bytes.length + uptoBulk d + 1
  | (_, d) => uptoBulk d + 1
 end
def uptoSmall : (H : Type) → List (DataW H) → Bool := fun _ ds => decide (uptoBulkAll ds ≤ 1048576)
def OpenSpec.upto (s : _root_.Go.ChangeSpec) : _root_.Go.OpenSpec := { _root_.Go.OpenSpec.ofChange s with cond := some uptoSmall }

/-- 'scullionlaw18.GreyMany', WHERE WHAT IT READS IS OF BULK AT MOST 1048576: true; the input reads as it did. -/
def greyManyUptoRow : OpenClaim := { program := "ythdndphghnjcbaa", sum := "0ae441d08eb19148dff440a07618555a66adafbf93c77218a322ecb1e8fda53a", func := "scullion/scullionlaw18.GreyMany", spec := "greyMany", apart := false, narrowed := true }
def GreyManyUptoSaid : Prop := greyManyUptoRow.holds Try.pinned (OpenSpec.upto greyManySpec)

/-- 'scullionlaw18.GreyRows', WHERE WHAT IT READS IS OF BULK AT MOST 1048576: true; the input reads as it did. -/
def greyRowsUptoRow : OpenClaim := { program := "ythdndphghnjcbaa", sum := "0ae441d08eb19148dff440a07618555a66adafbf93c77218a322ecb1e8fda53a", func := "scullion/scullionlaw18.GreyRows", spec := "greyRows", apart := false, narrowed := true }
def GreyRowsUptoSaid : Prop := greyRowsUptoRow.holds Try.pinned (OpenSpec.upto greyRowsSpec)

/-- 'scullionlaw18.GreyPlays', WHERE WHAT IT READS IS OF BULK AT MOST 1048576: true; the input reads as it did. -/
def greyPlaysUptoRow : OpenClaim := { program := "ythdndphghnjcbaa", sum := "0ae441d08eb19148dff440a07618555a66adafbf93c77218a322ecb1e8fda53a", func := "scullion/scullionlaw18.GreyPlays", spec := "greyPlays", apart := false, narrowed := true }
def GreyPlaysUptoSaid : Prop := greyPlaysUptoRow.holds Try.pinned (OpenSpec.upto greyPlaysSpec)

/-- 'scullionlaw18.GreyNil', WHERE WHAT IT READS IS OF BULK AT MOST 1048576: true; the input reads as it did. -/
def greyNilUptoRow : OpenClaim := { program := "ythdndphghnjcbaa", sum := "0ae441d08eb19148dff440a07618555a66adafbf93c77218a322ecb1e8fda53a", func := "scullion/scullionlaw18.GreyNil", spec := "greyNil", apart := false, narrowed := true }
def GreyNilUptoSaid : Prop := greyNilUptoRow.holds Try.pinned (OpenSpec.upto greyNilSpec)

/-- 'scullionlaw2.WordFields', WHERE WHAT IT READS IS OF BULK AT MOST 1048576: true; the input reads as it did. -/
def wordFieldsUptoRow : OpenClaim := { program := "ythdndphghnjcbaa", sum := "0ae441d08eb19148dff440a07618555a66adafbf93c77218a322ecb1e8fda53a", func := "scullion/scullionlaw2.WordFields", spec := "wordFields", apart := false, narrowed := true }
def WordFieldsUptoSaid : Prop := wordFieldsUptoRow.holds Try.pinned (OpenSpec.upto wordFieldsSpec)

/-- 'scullionlaw2.WordBack', WHERE WHAT IT READS IS OF BULK AT MOST 1048576: true; the input reads as it did. -/
def wordBackUptoRow : OpenClaim := { program := "ythdndphghnjcbaa", sum := "0ae441d08eb19148dff440a07618555a66adafbf93c77218a322ecb1e8fda53a", func := "scullion/scullionlaw2.WordBack", spec := "wordBack", apart := false, narrowed := true }
def WordBackUptoSaid : Prop := wordBackUptoRow.holds Try.pinned (OpenSpec.upto wordBackSpec)

/-- 'scullionlaw2.WordParts', WHERE WHAT IT READS IS OF BULK AT MOST 1048576: true; the input reads as it did. -/
def wordPartsUptoRow : OpenClaim := { program := "ythdndphghnjcbaa", sum := "0ae441d08eb19148dff440a07618555a66adafbf93c77218a322ecb1e8fda53a", func := "scullion/scullionlaw2.WordParts", spec := "wordParts", apart := false, narrowed := true }
def WordPartsUptoSaid : Prop := wordPartsUptoRow.holds Try.pinned (OpenSpec.upto wordPartsSpec)

/-- 'scullionlaw2.WordNone', WHERE WHAT IT READS IS OF BULK AT MOST 1048576: true; the input reads as it did. -/
def wordNoneUptoRow : OpenClaim := { program := "ythdndphghnjcbaa", sum := "0ae441d08eb19148dff440a07618555a66adafbf93c77218a322ecb1e8fda53a", func := "scullion/scullionlaw2.WordNone", spec := "wordNone", apart := false, narrowed := true }
def WordNoneUptoSaid : Prop := wordNoneUptoRow.holds Try.pinned (OpenSpec.upto wordNoneSpec)

/-- 'scullionlaw2.WordOnes', WHERE WHAT IT READS IS OF BULK AT MOST 1048576: true; the input reads as it did. -/
def wordOnesUptoRow : OpenClaim := { program := "ythdndphghnjcbaa", sum := "0ae441d08eb19148dff440a07618555a66adafbf93c77218a322ecb1e8fda53a", func := "scullion/scullionlaw2.WordOnes", spec := "wordOnes", apart := false, narrowed := true }
def WordOnesUptoSaid : Prop := wordOnesUptoRow.holds Try.pinned (OpenSpec.upto wordOnesSpec)

/-- 'scullionlaw2.WordLowests', WHERE WHAT IT READS IS OF BULK AT MOST 1048576: true; the input reads as it did. -/
def wordLowestsUptoRow : OpenClaim := { program := "ythdndphghnjcbaa", sum := "0ae441d08eb19148dff440a07618555a66adafbf93c77218a322ecb1e8fda53a", func := "scullion/scullionlaw2.WordLowests", spec := "wordLowests", apart := false, narrowed := true }
def WordLowestsUptoSaid : Prop := wordLowestsUptoRow.holds Try.pinned (OpenSpec.upto wordLowestsSpec)

/-- 'scullionlaw2.WordCounts', WHERE WHAT IT READS IS OF BULK AT MOST 1048576: true; the input reads as it did. -/
def wordCountsUptoRow : OpenClaim := { program := "ythdndphghnjcbaa", sum := "0ae441d08eb19148dff440a07618555a66adafbf93c77218a322ecb1e8fda53a", func := "scullion/scullionlaw2.WordCounts", spec := "wordCounts", apart := false, narrowed := true }
def WordCountsUptoSaid : Prop := wordCountsUptoRow.holds Try.pinned (OpenSpec.upto wordCountsSpec)

/-- 'scullionlaw2.WordNumbers', WHERE WHAT IT READS IS OF BULK AT MOST 1048576: true; the input reads as it did. -/
def wordNumbersUptoRow : OpenClaim := { program := "ythdndphghnjcbaa", sum := "0ae441d08eb19148dff440a07618555a66adafbf93c77218a322ecb1e8fda53a", func := "scullion/scullionlaw2.WordNumbers", spec := "wordNumbers", apart := false, narrowed := true }
def WordNumbersUptoSaid : Prop := wordNumbersUptoRow.holds Try.pinned (OpenSpec.upto wordNumbersSpec)

end Rows
end Go.Proofs.Ythdndphghnjcbaa
