/-
  No cell of these rows narrows 'for every input' (looked for: loops, veiled, ifaces, maps, wideKeys, modest, calm, conditions, laid).
  DERIVED. THE GIVEN ROWS OF THIS SEAT. 12 by the template 'for every input the law returns true; each argument reads behind the call as it read before'; 0 by the template 'total and deterministic' (their statements: YtcnbcidbbeadcaaTotals.lean).
  GIVEN WITH THE SEED: the statements are not yours to turn. If you find one false, say at which input.
  Laid BY PROGRAM, IN A SANDBOX (cutbox-rows.mjs): the forced cells as the released guide's own fill.sh prints them over the translation 2ab7a4e2f59880f0… (all of the seat's roots in one cut). By AI agents, Wed Nov 11 2026. No macro, syntax, notation, axiom, sorry.
-/
import Derived.Test.YtcnbcidbbeadcaaChecked
import GoSem.Claim
import GoSem.ClaimJoined
import GoSem.ClaimMapViews
import Derived.JoinedTies
import Derived.KernelRfl
namespace Go.Proofs.Ytcnbcidbbeadcaa
/- THE CELL 'sum', in the pinned program and in every row, IS THE sha256 OF THE DUMP (.gsa) THAT YtcnbcidbbeadcaaProg.lean LOADS. Nothing in Lean hashes anything: it is a label: what it is worth is what the hold of that sum in a sandbox is worth. -/
noncomputable def Try.pinned : Pinned := { name := "ytcnbcidbbeadcaa", sum := "2ab7a4e2f59880f07ffd4b9a2485a9285efc32b236f84222748bd689ecc59f7e", checked := Try.checked }
namespace Rows
def none {H : Type} : Left H := { results := [], args := [] }

/-- 'scullionlaw11.ObjectEncodes': WHATEVER THE INPUT: true; the input reads as it did. -/
def objectEncodesSpec : ChangeSpec := { name := "objectEncodes", fn := fun _ => fun
  | [d1, d2, d3, d4, d5, d6] => { results := [.lit (.bool true)], args := [d1, d2, d3, d4, d5, d6] }
  | _ => none }
def objectEncodesRow : OpenClaim := { program := "ytcnbcidbbeadcaa", sum := "2ab7a4e2f59880f07ffd4b9a2485a9285efc32b236f84222748bd689ecc59f7e", func := "scullion/scullionlaw11.ObjectEncodes", spec := "objectEncodes", apart := false }
def ObjectEncodesSaid : Prop := objectEncodesRow.holds Try.pinned (OpenSpec.ofChange objectEncodesSpec)

/-- ITS FALSE NEIGHBOUR: 'it returns false'. Refute it at one input. -/
def objectEncodesWrong : ChangeSpec := { name := "objectEncodes", fn := fun _ => fun
  | [d1, d2, d3, d4, d5, d6] => { results := [.lit (.bool false)], args := [d1, d2, d3, d4, d5, d6] }
  | _ => none }
def ObjectEncodesWrongFalsely : Prop := objectEncodesRow.holds Try.pinned (OpenSpec.ofChange objectEncodesWrong)

/-- 'scullionlaw11.ObjectParts': WHATEVER THE INPUT: true; the input reads as it did. -/
def objectPartsSpec : ChangeSpec := { name := "objectParts", fn := fun _ => fun
  | [d1, d2, d3, d4] => { results := [.lit (.bool true)], args := [d1, d2, d3, d4] }
  | _ => none }
def objectPartsRow : OpenClaim := { program := "ytcnbcidbbeadcaa", sum := "2ab7a4e2f59880f07ffd4b9a2485a9285efc32b236f84222748bd689ecc59f7e", func := "scullion/scullionlaw11.ObjectParts", spec := "objectParts", apart := false }
def ObjectPartsSaid : Prop := objectPartsRow.holds Try.pinned (OpenSpec.ofChange objectPartsSpec)

/-- ITS FALSE NEIGHBOUR: 'it returns false'. Refute it at one input. -/
def objectPartsWrong : ChangeSpec := { name := "objectParts", fn := fun _ => fun
  | [d1, d2, d3, d4] => { results := [.lit (.bool false)], args := [d1, d2, d3, d4] }
  | _ => none }
def ObjectPartsWrongFalsely : Prop := objectPartsRow.holds Try.pinned (OpenSpec.ofChange objectPartsWrong)

/-- 'scullionlaw14.VheapMany': WHATEVER THE INPUT: true; the input reads as it did. -/
def vheapManySpec : ChangeSpec := { name := "vheapMany", fn := fun _ => fun
  | [d1, d2] => { results := [.lit (.bool true)], args := [d1, d2] }
  | _ => none }
def vheapManyRow : OpenClaim := { program := "ytcnbcidbbeadcaa", sum := "2ab7a4e2f59880f07ffd4b9a2485a9285efc32b236f84222748bd689ecc59f7e", func := "scullion/scullionlaw14.VheapMany", spec := "vheapMany", unfollowed := true, recurses := true, apart := false }
def VheapManySaid : Prop := vheapManyRow.holds Try.pinned (OpenSpec.ofChange vheapManySpec)

/-- ITS FALSE NEIGHBOUR: 'it returns false'. Refute it at one input. -/
def vheapManyWrong : ChangeSpec := { name := "vheapMany", fn := fun _ => fun
  | [d1, d2] => { results := [.lit (.bool false)], args := [d1, d2] }
  | _ => none }
def VheapManyWrongFalsely : Prop := vheapManyRow.holds Try.pinned (OpenSpec.ofChange vheapManyWrong)

/-- 'scullionlaw11.ObjectDecodes': WHATEVER THE INPUT: true; the input reads as it did. -/
def objectDecodesSpec : ChangeSpec := { name := "objectDecodes", fn := fun _ => fun
  | [d1, d2] => { results := [.lit (.bool true)], args := [d1, d2] }
  | _ => none }
def objectDecodesRow : OpenClaim := { program := "ytcnbcidbbeadcaa", sum := "2ab7a4e2f59880f07ffd4b9a2485a9285efc32b236f84222748bd689ecc59f7e", func := "scullion/scullionlaw11.ObjectDecodes", spec := "objectDecodes", inPlace := ["math.Float64frombits", "math.Float64bits"], apart := false }
def ObjectDecodesSaid : Prop := objectDecodesRow.holds Try.pinned (OpenSpec.ofChange objectDecodesSpec)

/-- ITS FALSE NEIGHBOUR: 'it returns false'. Refute it at one input. -/
def objectDecodesWrong : ChangeSpec := { name := "objectDecodes", fn := fun _ => fun
  | [d1, d2] => { results := [.lit (.bool false)], args := [d1, d2] }
  | _ => none }
def ObjectDecodesWrongFalsely : Prop := objectDecodesRow.holds Try.pinned (OpenSpec.ofChange objectDecodesWrong)

/-- 'scullionlaw11.ObjectOnce': WHATEVER THE INPUT: true; the input reads as it did. -/
def objectOnceSpec : ChangeSpec := { name := "objectOnce", fn := fun _ => fun
  | [d1, d2] => { results := [.lit (.bool true)], args := [d1, d2] }
  | _ => none }
def objectOnceRow : OpenClaim := { program := "ytcnbcidbbeadcaa", sum := "2ab7a4e2f59880f07ffd4b9a2485a9285efc32b236f84222748bd689ecc59f7e", func := "scullion/scullionlaw11.ObjectOnce", spec := "objectOnce", inPlace := ["math.Float64frombits", "math.Float64bits"], apart := false }
def ObjectOnceSaid : Prop := objectOnceRow.holds Try.pinned (OpenSpec.ofChange objectOnceSpec)

/-- ITS FALSE NEIGHBOUR: 'it returns false'. Refute it at one input. -/
def objectOnceWrong : ChangeSpec := { name := "objectOnce", fn := fun _ => fun
  | [d1, d2] => { results := [.lit (.bool false)], args := [d1, d2] }
  | _ => none }
def ObjectOnceWrongFalsely : Prop := objectOnceRow.holds Try.pinned (OpenSpec.ofChange objectOnceWrong)

/-- 'scullionlaw14.VheapApart': WHATEVER THE INPUT: true; the input reads as it did. -/
def vheapApartSpec : ChangeSpec := { name := "vheapApart", fn := fun _ => fun
  | [d1, d2, d3, d4] => { results := [.lit (.bool true)], args := [d1, d2, d3, d4] }
  | _ => none }
def vheapApartRow : OpenClaim := { program := "ytcnbcidbbeadcaa", sum := "2ab7a4e2f59880f07ffd4b9a2485a9285efc32b236f84222748bd689ecc59f7e", func := "scullion/scullionlaw14.VheapApart", spec := "vheapApart", unfollowed := true, recurses := true, apart := false }
def VheapApartSaid : Prop := vheapApartRow.holds Try.pinned (OpenSpec.ofChange vheapApartSpec)

/-- ITS FALSE NEIGHBOUR: 'it returns false'. Refute it at one input. -/
def vheapApartWrong : ChangeSpec := { name := "vheapApart", fn := fun _ => fun
  | [d1, d2, d3, d4] => { results := [.lit (.bool false)], args := [d1, d2, d3, d4] }
  | _ => none }
def VheapApartWrongFalsely : Prop := vheapApartRow.holds Try.pinned (OpenSpec.ofChange vheapApartWrong)

/-- 'scullionlaw14.VheapMoves': WHATEVER THE INPUT: true; the input reads as it did. -/
def vheapMovesSpec : ChangeSpec := { name := "vheapMoves", fn := fun _ => fun
  | [d1, d2, d3] => { results := [.lit (.bool true)], args := [d1, d2, d3] }
  | _ => none }
def vheapMovesRow : OpenClaim := { program := "ytcnbcidbbeadcaa", sum := "2ab7a4e2f59880f07ffd4b9a2485a9285efc32b236f84222748bd689ecc59f7e", func := "scullion/scullionlaw14.VheapMoves", spec := "vheapMoves", unfollowed := true, recurses := true, apart := false }
def VheapMovesSaid : Prop := vheapMovesRow.holds Try.pinned (OpenSpec.ofChange vheapMovesSpec)

/-- ITS FALSE NEIGHBOUR: 'it returns false'. Refute it at one input. -/
def vheapMovesWrong : ChangeSpec := { name := "vheapMoves", fn := fun _ => fun
  | [d1, d2, d3] => { results := [.lit (.bool false)], args := [d1, d2, d3] }
  | _ => none }
def VheapMovesWrongFalsely : Prop := vheapMovesRow.holds Try.pinned (OpenSpec.ofChange vheapMovesWrong)

/-- 'scullionlaw14.VheapNew': WHATEVER THE INPUT: true; the input reads as it did. -/
def vheapNewSpec : ChangeSpec := { name := "vheapNew", fn := fun _ => fun
  | [d1, d2, d3] => { results := [.lit (.bool true)], args := [d1, d2, d3] }
  | _ => none }
def vheapNewRow : OpenClaim := { program := "ytcnbcidbbeadcaa", sum := "2ab7a4e2f59880f07ffd4b9a2485a9285efc32b236f84222748bd689ecc59f7e", func := "scullion/scullionlaw14.VheapNew", spec := "vheapNew", unfollowed := true, recurses := true, apart := false }
def VheapNewSaid : Prop := vheapNewRow.holds Try.pinned (OpenSpec.ofChange vheapNewSpec)

/-- ITS FALSE NEIGHBOUR: 'it returns false'. Refute it at one input. -/
def vheapNewWrong : ChangeSpec := { name := "vheapNew", fn := fun _ => fun
  | [d1, d2, d3] => { results := [.lit (.bool false)], args := [d1, d2, d3] }
  | _ => none }
def VheapNewWrongFalsely : Prop := vheapNewRow.holds Try.pinned (OpenSpec.ofChange vheapNewWrong)

/-- 'scullionlaw11.ObjectBack': WHATEVER THE INPUT: true; the input reads as it did. -/
def objectBackSpec : ChangeSpec := { name := "objectBack", fn := fun _ => fun
  | [d1, d2, d3, d4, d5, d6, d7] => { results := [.lit (.bool true)], args := [d1, d2, d3, d4, d5, d6, d7] }
  | _ => none }
def objectBackRow : OpenClaim := { program := "ytcnbcidbbeadcaa", sum := "2ab7a4e2f59880f07ffd4b9a2485a9285efc32b236f84222748bd689ecc59f7e", func := "scullion/scullionlaw11.ObjectBack", spec := "objectBack", inPlace := ["math.Float64frombits", "math.Float64bits"], apart := false }
def ObjectBackSaid : Prop := objectBackRow.holds Try.pinned (OpenSpec.ofChange objectBackSpec)

/-- ITS FALSE NEIGHBOUR: 'it returns false'. Refute it at one input. -/
def objectBackWrong : ChangeSpec := { name := "objectBack", fn := fun _ => fun
  | [d1, d2, d3, d4, d5, d6, d7] => { results := [.lit (.bool false)], args := [d1, d2, d3, d4, d5, d6, d7] }
  | _ => none }
def ObjectBackWrongFalsely : Prop := objectBackRow.holds Try.pinned (OpenSpec.ofChange objectBackWrong)

/-- 'scullionlaw14.VheapPlays': WHATEVER THE INPUT: true; the input reads as it did. -/
def vheapPlaysSpec : ChangeSpec := { name := "vheapPlays", fn := fun _ => fun
  | [d] => { results := [.lit (.bool true)], args := [d] }
  | _ => none }
def vheapPlaysRow : OpenClaim := { program := "ytcnbcidbbeadcaa", sum := "2ab7a4e2f59880f07ffd4b9a2485a9285efc32b236f84222748bd689ecc59f7e", func := "scullion/scullionlaw14.VheapPlays", spec := "vheapPlays", unfollowed := true, recurses := true, apart := false }
def VheapPlaysSaid : Prop := vheapPlaysRow.holds Try.pinned (OpenSpec.ofChange vheapPlaysSpec)

/-- ITS FALSE NEIGHBOUR: 'it returns false'. Refute it at one input. -/
def vheapPlaysWrong : ChangeSpec := { name := "vheapPlays", fn := fun _ => fun
  | [d] => { results := [.lit (.bool false)], args := [d] }
  | _ => none }
def VheapPlaysWrongFalsely : Prop := vheapPlaysRow.holds Try.pinned (OpenSpec.ofChange vheapPlaysWrong)

/-- 'scullionlaw14.VheapNil': WHATEVER THE INPUT: true; the input reads as it did. -/
def vheapNilSpec : ChangeSpec := { name := "vheapNil", fn := fun _ => fun
  | [d1, d2, d3] => { results := [.lit (.bool true)], args := [d1, d2, d3] }
  | _ => none }
def vheapNilRow : OpenClaim := { program := "ytcnbcidbbeadcaa", sum := "2ab7a4e2f59880f07ffd4b9a2485a9285efc32b236f84222748bd689ecc59f7e", func := "scullion/scullionlaw14.VheapNil", spec := "vheapNil", unfollowed := true, recurses := true, apart := false }
def VheapNilSaid : Prop := vheapNilRow.holds Try.pinned (OpenSpec.ofChange vheapNilSpec)

/-- ITS FALSE NEIGHBOUR: 'it returns false'. Refute it at one input. -/
def vheapNilWrong : ChangeSpec := { name := "vheapNil", fn := fun _ => fun
  | [d1, d2, d3] => { results := [.lit (.bool false)], args := [d1, d2, d3] }
  | _ => none }
def VheapNilWrongFalsely : Prop := vheapNilRow.holds Try.pinned (OpenSpec.ofChange vheapNilWrong)

/-- 'scullionlaw14.VheapKeeps': WHATEVER THE INPUT: true; the input reads as it did. -/
def vheapKeepsSpec : ChangeSpec := { name := "vheapKeeps", fn := fun _ => fun
  | [d1, d2] => { results := [.lit (.bool true)], args := [d1, d2] }
  | _ => none }
def vheapKeepsRow : OpenClaim := { program := "ytcnbcidbbeadcaa", sum := "2ab7a4e2f59880f07ffd4b9a2485a9285efc32b236f84222748bd689ecc59f7e", func := "scullion/scullionlaw14.VheapKeeps", spec := "vheapKeeps", unfollowed := true, recurses := true, apart := false }
def VheapKeepsSaid : Prop := vheapKeepsRow.holds Try.pinned (OpenSpec.ofChange vheapKeepsSpec)

/-- ITS FALSE NEIGHBOUR: 'it returns false'. Refute it at one input. -/
def vheapKeepsWrong : ChangeSpec := { name := "vheapKeeps", fn := fun _ => fun
  | [d1, d2] => { results := [.lit (.bool false)], args := [d1, d2] }
  | _ => none }
def VheapKeepsWrongFalsely : Prop := vheapKeepsRow.holds Try.pinned (OpenSpec.ofChange vheapKeepsWrong)

/- THE SECOND FORM. 'bulk': how many values and letters a reading holds, each counted each time it is reached (what is shared counts as often as it is met; a slice's spare places count too). A statement '..UptoSaid' is the law's where the arguments, and the package variables that the reading takes, are together of bulk at most 1048576: NARROWER than '..Said'. Prove '..Said' where nothing that the law and all that it calls make is longer than what came in: it says more and counts as full. Else prove '..UptoSaid'. A law counts once. -/
mutual
def uptoBulk {H : Type} : DataW H → Nat
  | .lit (.string bytes) => bytes.length + 1
  | .lit _ => 1
  | .nil => 1
  | .ptr d => uptoBulk d + 1
  | .slice elems spare => uptoBulkAll elems + uptoBulkAll spare + 1
  | .agg parts => uptoBulkAll parts + 1
  | .iface _ d => uptoBulk d + 1
  | .map entries => uptoBulkEntries entries + 1
  | .held _ => 1
def uptoBulkAll {H : Type} : List (DataW H) → Nat
  | [] => 0
  | d :: r => uptoBulk d + uptoBulkAll r
def uptoBulkEntries {H : Type} : List (Lit × DataW H) → Nat
  | [] => 0
  | x :: r => uptoBulkEntry x + uptoBulkEntries r
def uptoBulkEntry {H : Type} : Lit × DataW H → Nat
  | (.string bytes, d) => bytes.length + uptoBulk d + 1
  | (_, d) => uptoBulk d + 1
 end
def uptoSmall : (H : Type) → List (DataW H) → Bool := fun _ ds => decide (uptoBulkAll ds ≤ 1048576)
def OpenSpec.upto (s : _root_.Go.ChangeSpec) : _root_.Go.OpenSpec := { _root_.Go.OpenSpec.ofChange s with cond := some uptoSmall }

/-- 'scullionlaw11.ObjectEncodes', WHERE WHAT IT READS IS OF BULK AT MOST 1048576: true; the input reads as it did. -/
def objectEncodesUptoRow : OpenClaim := { program := "ytcnbcidbbeadcaa", sum := "2ab7a4e2f59880f07ffd4b9a2485a9285efc32b236f84222748bd689ecc59f7e", func := "scullion/scullionlaw11.ObjectEncodes", spec := "objectEncodes", apart := false, narrowed := true }
def ObjectEncodesUptoSaid : Prop := objectEncodesUptoRow.holds Try.pinned (OpenSpec.upto objectEncodesSpec)

/-- 'scullionlaw11.ObjectParts', WHERE WHAT IT READS IS OF BULK AT MOST 1048576: true; the input reads as it did. -/
def objectPartsUptoRow : OpenClaim := { program := "ytcnbcidbbeadcaa", sum := "2ab7a4e2f59880f07ffd4b9a2485a9285efc32b236f84222748bd689ecc59f7e", func := "scullion/scullionlaw11.ObjectParts", spec := "objectParts", apart := false, narrowed := true }
def ObjectPartsUptoSaid : Prop := objectPartsUptoRow.holds Try.pinned (OpenSpec.upto objectPartsSpec)

/-- 'scullionlaw14.VheapMany', WHERE WHAT IT READS IS OF BULK AT MOST 1048576: true; the input reads as it did. -/
def vheapManyUptoRow : OpenClaim := { program := "ytcnbcidbbeadcaa", sum := "2ab7a4e2f59880f07ffd4b9a2485a9285efc32b236f84222748bd689ecc59f7e", func := "scullion/scullionlaw14.VheapMany", spec := "vheapMany", unfollowed := true, recurses := true, apart := false, narrowed := true }
def VheapManyUptoSaid : Prop := vheapManyUptoRow.holds Try.pinned (OpenSpec.upto vheapManySpec)

/-- 'scullionlaw11.ObjectDecodes', WHERE WHAT IT READS IS OF BULK AT MOST 1048576: true; the input reads as it did. -/
def objectDecodesUptoRow : OpenClaim := { program := "ytcnbcidbbeadcaa", sum := "2ab7a4e2f59880f07ffd4b9a2485a9285efc32b236f84222748bd689ecc59f7e", func := "scullion/scullionlaw11.ObjectDecodes", spec := "objectDecodes", inPlace := ["math.Float64frombits", "math.Float64bits"], apart := false, narrowed := true }
def ObjectDecodesUptoSaid : Prop := objectDecodesUptoRow.holds Try.pinned (OpenSpec.upto objectDecodesSpec)

/-- 'scullionlaw11.ObjectOnce', WHERE WHAT IT READS IS OF BULK AT MOST 1048576: true; the input reads as it did. -/
def objectOnceUptoRow : OpenClaim := { program := "ytcnbcidbbeadcaa", sum := "2ab7a4e2f59880f07ffd4b9a2485a9285efc32b236f84222748bd689ecc59f7e", func := "scullion/scullionlaw11.ObjectOnce", spec := "objectOnce", inPlace := ["math.Float64frombits", "math.Float64bits"], apart := false, narrowed := true }
def ObjectOnceUptoSaid : Prop := objectOnceUptoRow.holds Try.pinned (OpenSpec.upto objectOnceSpec)

/-- 'scullionlaw14.VheapApart', WHERE WHAT IT READS IS OF BULK AT MOST 1048576: true; the input reads as it did. -/
def vheapApartUptoRow : OpenClaim := { program := "ytcnbcidbbeadcaa", sum := "2ab7a4e2f59880f07ffd4b9a2485a9285efc32b236f84222748bd689ecc59f7e", func := "scullion/scullionlaw14.VheapApart", spec := "vheapApart", unfollowed := true, recurses := true, apart := false, narrowed := true }
def VheapApartUptoSaid : Prop := vheapApartUptoRow.holds Try.pinned (OpenSpec.upto vheapApartSpec)

/-- 'scullionlaw14.VheapMoves', WHERE WHAT IT READS IS OF BULK AT MOST 1048576: true; the input reads as it did. -/
def vheapMovesUptoRow : OpenClaim := { program := "ytcnbcidbbeadcaa", sum := "2ab7a4e2f59880f07ffd4b9a2485a9285efc32b236f84222748bd689ecc59f7e", func := "scullion/scullionlaw14.VheapMoves", spec := "vheapMoves", unfollowed := true, recurses := true, apart := false, narrowed := true }
def VheapMovesUptoSaid : Prop := vheapMovesUptoRow.holds Try.pinned (OpenSpec.upto vheapMovesSpec)

/-- 'scullionlaw14.VheapNew', WHERE WHAT IT READS IS OF BULK AT MOST 1048576: true; the input reads as it did. -/
def vheapNewUptoRow : OpenClaim := { program := "ytcnbcidbbeadcaa", sum := "2ab7a4e2f59880f07ffd4b9a2485a9285efc32b236f84222748bd689ecc59f7e", func := "scullion/scullionlaw14.VheapNew", spec := "vheapNew", unfollowed := true, recurses := true, apart := false, narrowed := true }
def VheapNewUptoSaid : Prop := vheapNewUptoRow.holds Try.pinned (OpenSpec.upto vheapNewSpec)

/-- 'scullionlaw11.ObjectBack', WHERE WHAT IT READS IS OF BULK AT MOST 1048576: true; the input reads as it did. -/
def objectBackUptoRow : OpenClaim := { program := "ytcnbcidbbeadcaa", sum := "2ab7a4e2f59880f07ffd4b9a2485a9285efc32b236f84222748bd689ecc59f7e", func := "scullion/scullionlaw11.ObjectBack", spec := "objectBack", inPlace := ["math.Float64frombits", "math.Float64bits"], apart := false, narrowed := true }
def ObjectBackUptoSaid : Prop := objectBackUptoRow.holds Try.pinned (OpenSpec.upto objectBackSpec)

/-- 'scullionlaw14.VheapPlays', WHERE WHAT IT READS IS OF BULK AT MOST 1048576: true; the input reads as it did. -/
def vheapPlaysUptoRow : OpenClaim := { program := "ytcnbcidbbeadcaa", sum := "2ab7a4e2f59880f07ffd4b9a2485a9285efc32b236f84222748bd689ecc59f7e", func := "scullion/scullionlaw14.VheapPlays", spec := "vheapPlays", unfollowed := true, recurses := true, apart := false, narrowed := true }
def VheapPlaysUptoSaid : Prop := vheapPlaysUptoRow.holds Try.pinned (OpenSpec.upto vheapPlaysSpec)

/-- 'scullionlaw14.VheapNil', WHERE WHAT IT READS IS OF BULK AT MOST 1048576: true; the input reads as it did. -/
def vheapNilUptoRow : OpenClaim := { program := "ytcnbcidbbeadcaa", sum := "2ab7a4e2f59880f07ffd4b9a2485a9285efc32b236f84222748bd689ecc59f7e", func := "scullion/scullionlaw14.VheapNil", spec := "vheapNil", unfollowed := true, recurses := true, apart := false, narrowed := true }
def VheapNilUptoSaid : Prop := vheapNilUptoRow.holds Try.pinned (OpenSpec.upto vheapNilSpec)

/-- 'scullionlaw14.VheapKeeps', WHERE WHAT IT READS IS OF BULK AT MOST 1048576: true; the input reads as it did. -/
def vheapKeepsUptoRow : OpenClaim := { program := "ytcnbcidbbeadcaa", sum := "2ab7a4e2f59880f07ffd4b9a2485a9285efc32b236f84222748bd689ecc59f7e", func := "scullion/scullionlaw14.VheapKeeps", spec := "vheapKeeps", unfollowed := true, recurses := true, apart := false, narrowed := true }
def VheapKeepsUptoSaid : Prop := vheapKeepsUptoRow.holds Try.pinned (OpenSpec.upto vheapKeepsSpec)

end Rows
end Go.Proofs.Ytcnbcidbbeadcaa
