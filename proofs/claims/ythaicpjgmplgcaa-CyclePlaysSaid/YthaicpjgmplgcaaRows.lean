/-
  No cell of these rows narrows 'for every input' (looked for: loops, veiled, ifaces, maps, wideKeys, modest, calm, conditions, laid).
  DERIVED. THE GIVEN ROWS OF THIS SEAT. 10 by the template 'for every input the law returns true; each argument reads behind the call as it read before'; 0 by the template 'total and deterministic' (their statements: YthaicpjgmplgcaaTotals.lean).
  GIVEN WITH THE SEED: the statements are not yours to turn. If you find one false, say at which input.
  Laid BY PROGRAM, IN A SANDBOX (cutbox-rows.mjs): the forced cells as the released guide's own fill.sh prints them over the translation 39af4b1220ad1052… (all of the seat's roots in one cut). By AI agents, Wed Nov 11 2026. No macro, syntax, notation, axiom, sorry.
-/
import Derived.Test.YthaicpjgmplgcaaChecked
import GoSem.Claim
import GoSem.ClaimJoined
import GoSem.ClaimMapViews
import Derived.JoinedTies
import Derived.KernelRfl
namespace Go.Proofs.Ythaicpjgmplgcaa
/- THE CELL 'sum', in the pinned program and in every row, IS THE sha256 OF THE DUMP (.gsa) THAT YthaicpjgmplgcaaProg.lean LOADS. Nothing in Lean hashes anything: it is a label: what it is worth is what the hold of that sum in a sandbox is worth. -/
noncomputable def Try.pinned : Pinned := { name := "ythaicpjgmplgcaa", sum := "39af4b1220ad1052bb81d54cc4a3cf38ca9a36a6633defc249dedab666587859", checked := Try.checked }
namespace Rows
def none {H : Type} : Left H := { results := [], args := [] }

/-- 'scullionlaw20.SweepPages': WHATEVER THE INPUT: true; the input reads as it did. -/
def sweepPagesSpec : ChangeSpec := { name := "sweepPages", fn := fun _ => fun
  | [d1, d2, d3, d4] => { results := [.lit (.bool true)], args := [d1, d2, d3, d4] }
  | _ => none }
def sweepPagesRow : OpenClaim := { program := "ythaicpjgmplgcaa", sum := "39af4b1220ad1052bb81d54cc4a3cf38ca9a36a6633defc249dedab666587859", func := "scullion/scullionlaw20.SweepPages", spec := "sweepPages", unfollowed := true, recurses := true, apart := false }
def SweepPagesSaid : Prop := sweepPagesRow.holds Try.pinned (OpenSpec.ofChange sweepPagesSpec)

/-- ITS FALSE NEIGHBOUR: 'it returns false'. Refute it at one input. -/
def sweepPagesWrong : ChangeSpec := { name := "sweepPages", fn := fun _ => fun
  | [d1, d2, d3, d4] => { results := [.lit (.bool false)], args := [d1, d2, d3, d4] }
  | _ => none }
def SweepPagesWrongFalsely : Prop := sweepPagesRow.holds Try.pinned (OpenSpec.ofChange sweepPagesWrong)

/-- 'scullionlaw20.SweepAll': WHATEVER THE INPUT: true; the input reads as it did. -/
def sweepAllSpec : ChangeSpec := { name := "sweepAll", fn := fun _ => fun
  | [d1, d2, d3] => { results := [.lit (.bool true)], args := [d1, d2, d3] }
  | _ => none }
def sweepAllRow : OpenClaim := { program := "ythaicpjgmplgcaa", sum := "39af4b1220ad1052bb81d54cc4a3cf38ca9a36a6633defc249dedab666587859", func := "scullion/scullionlaw20.SweepAll", spec := "sweepAll", unfollowed := true, recurses := true, apart := false }
def SweepAllSaid : Prop := sweepAllRow.holds Try.pinned (OpenSpec.ofChange sweepAllSpec)

/-- ITS FALSE NEIGHBOUR: 'it returns false'. Refute it at one input. -/
def sweepAllWrong : ChangeSpec := { name := "sweepAll", fn := fun _ => fun
  | [d1, d2, d3] => { results := [.lit (.bool false)], args := [d1, d2, d3] }
  | _ => none }
def SweepAllWrongFalsely : Prop := sweepAllRow.holds Try.pinned (OpenSpec.ofChange sweepAllWrong)

/-- 'scullionlaw20.SweepWeak': WHATEVER THE INPUT: true; the input reads as it did. -/
def sweepWeakSpec : ChangeSpec := { name := "sweepWeak", fn := fun _ => fun
  | [d1, d2] => { results := [.lit (.bool true)], args := [d1, d2] }
  | _ => none }
def sweepWeakRow : OpenClaim := { program := "ythaicpjgmplgcaa", sum := "39af4b1220ad1052bb81d54cc4a3cf38ca9a36a6633defc249dedab666587859", func := "scullion/scullionlaw20.SweepWeak", spec := "sweepWeak", unfollowed := true, recurses := true, apart := false }
def SweepWeakSaid : Prop := sweepWeakRow.holds Try.pinned (OpenSpec.ofChange sweepWeakSpec)

/-- ITS FALSE NEIGHBOUR: 'it returns false'. Refute it at one input. -/
def sweepWeakWrong : ChangeSpec := { name := "sweepWeak", fn := fun _ => fun
  | [d1, d2] => { results := [.lit (.bool false)], args := [d1, d2] }
  | _ => none }
def SweepWeakWrongFalsely : Prop := sweepWeakRow.holds Try.pinned (OpenSpec.ofChange sweepWeakWrong)

/-- 'scullionlaw20.SweepNone': WHATEVER THE INPUT: true; the input reads as it did. -/
def sweepNoneSpec : ChangeSpec := { name := "sweepNone", fn := fun _ => fun
  | [d1, d2, d3] => { results := [.lit (.bool true)], args := [d1, d2, d3] }
  | _ => none }
def sweepNoneRow : OpenClaim := { program := "ythaicpjgmplgcaa", sum := "39af4b1220ad1052bb81d54cc4a3cf38ca9a36a6633defc249dedab666587859", func := "scullion/scullionlaw20.SweepNone", spec := "sweepNone", unfollowed := true, recurses := true, apart := false }
def SweepNoneSaid : Prop := sweepNoneRow.holds Try.pinned (OpenSpec.ofChange sweepNoneSpec)

/-- ITS FALSE NEIGHBOUR: 'it returns false'. Refute it at one input. -/
def sweepNoneWrong : ChangeSpec := { name := "sweepNone", fn := fun _ => fun
  | [d1, d2, d3] => { results := [.lit (.bool false)], args := [d1, d2, d3] }
  | _ => none }
def SweepNoneWrongFalsely : Prop := sweepNoneRow.holds Try.pinned (OpenSpec.ofChange sweepNoneWrong)

/-- 'scullionlaw21.CycleEnds': WHATEVER THE INPUT: true; the input reads as it did. -/
def cycleEndsSpec : ChangeSpec := { name := "cycleEnds", fn := fun _ => fun
  | [d1, d2, d3, d4, d5, d6, d7] => { results := [.lit (.bool true)], args := [d1, d2, d3, d4, d5, d6, d7] }
  | _ => none }
def cycleEndsRow : OpenClaim := { program := "ythaicpjgmplgcaa", sum := "39af4b1220ad1052bb81d54cc4a3cf38ca9a36a6633defc249dedab666587859", func := "scullion/scullionlaw21.CycleEnds", spec := "cycleEnds", unfollowed := true, recurses := true, apart := false }
def CycleEndsSaid : Prop := cycleEndsRow.holds Try.pinned (OpenSpec.ofChange cycleEndsSpec)

/-- ITS FALSE NEIGHBOUR: 'it returns false'. Refute it at one input. -/
def cycleEndsWrong : ChangeSpec := { name := "cycleEnds", fn := fun _ => fun
  | [d1, d2, d3, d4, d5, d6, d7] => { results := [.lit (.bool false)], args := [d1, d2, d3, d4, d5, d6, d7] }
  | _ => none }
def CycleEndsWrongFalsely : Prop := cycleEndsRow.holds Try.pinned (OpenSpec.ofChange cycleEndsWrong)

/-- 'scullionlaw21.CyclePhases': WHATEVER THE INPUT: true; the input reads as it did. -/
def cyclePhasesSpec : ChangeSpec := { name := "cyclePhases", fn := fun _ => fun
  | [d1, d2, d3, d4, d5, d6] => { results := [.lit (.bool true)], args := [d1, d2, d3, d4, d5, d6] }
  | _ => none }
def cyclePhasesRow : OpenClaim := { program := "ythaicpjgmplgcaa", sum := "39af4b1220ad1052bb81d54cc4a3cf38ca9a36a6633defc249dedab666587859", func := "scullion/scullionlaw21.CyclePhases", spec := "cyclePhases", unfollowed := true, recurses := true, apart := false }
def CyclePhasesSaid : Prop := cyclePhasesRow.holds Try.pinned (OpenSpec.ofChange cyclePhasesSpec)

/-- ITS FALSE NEIGHBOUR: 'it returns false'. Refute it at one input. -/
def cyclePhasesWrong : ChangeSpec := { name := "cyclePhases", fn := fun _ => fun
  | [d1, d2, d3, d4, d5, d6] => { results := [.lit (.bool false)], args := [d1, d2, d3, d4, d5, d6] }
  | _ => none }
def CyclePhasesWrongFalsely : Prop := cyclePhasesRow.holds Try.pinned (OpenSpec.ofChange cyclePhasesWrong)

/-- 'scullionlaw21.CycleKeeps': WHATEVER THE INPUT: true; the input reads as it did. -/
def cycleKeepsSpec : ChangeSpec := { name := "cycleKeeps", fn := fun _ => fun
  | [d1, d2, d3, d4, d5, d6, d7] => { results := [.lit (.bool true)], args := [d1, d2, d3, d4, d5, d6, d7] }
  | _ => none }
def cycleKeepsRow : OpenClaim := { program := "ythaicpjgmplgcaa", sum := "39af4b1220ad1052bb81d54cc4a3cf38ca9a36a6633defc249dedab666587859", func := "scullion/scullionlaw21.CycleKeeps", spec := "cycleKeeps", unfollowed := true, recurses := true, apart := false }
def CycleKeepsSaid : Prop := cycleKeepsRow.holds Try.pinned (OpenSpec.ofChange cycleKeepsSpec)

/-- ITS FALSE NEIGHBOUR: 'it returns false'. Refute it at one input. -/
def cycleKeepsWrong : ChangeSpec := { name := "cycleKeeps", fn := fun _ => fun
  | [d1, d2, d3, d4, d5, d6, d7] => { results := [.lit (.bool false)], args := [d1, d2, d3, d4, d5, d6, d7] }
  | _ => none }
def CycleKeepsWrongFalsely : Prop := cycleKeepsRow.holds Try.pinned (OpenSpec.ofChange cycleKeepsWrong)

/-- 'scullionlaw21.CyclePlays': WHATEVER THE INPUT: true; the input reads as it did. -/
def cyclePlaysSpec : ChangeSpec := { name := "cyclePlays", fn := fun _ => fun
  | [d1, d2, d3, d4, d5, d6] => { results := [.lit (.bool true)], args := [d1, d2, d3, d4, d5, d6] }
  | _ => none }
def cyclePlaysRow : OpenClaim := { program := "ythaicpjgmplgcaa", sum := "39af4b1220ad1052bb81d54cc4a3cf38ca9a36a6633defc249dedab666587859", func := "scullion/scullionlaw21.CyclePlays", spec := "cyclePlays", unfollowed := true, recurses := true, apart := false }
def CyclePlaysSaid : Prop := cyclePlaysRow.holds Try.pinned (OpenSpec.ofChange cyclePlaysSpec)

/-- ITS FALSE NEIGHBOUR: 'it returns false'. Refute it at one input. -/
def cyclePlaysWrong : ChangeSpec := { name := "cyclePlays", fn := fun _ => fun
  | [d1, d2, d3, d4, d5, d6] => { results := [.lit (.bool false)], args := [d1, d2, d3, d4, d5, d6] }
  | _ => none }
def CyclePlaysWrongFalsely : Prop := cyclePlaysRow.holds Try.pinned (OpenSpec.ofChange cyclePlaysWrong)

/-- 'scullionlaw21.CycleNil': WHATEVER THE INPUT: true; the input reads as it did. -/
def cycleNilSpec : ChangeSpec := { name := "cycleNil", fn := fun _ => fun
  | [d] => { results := [.lit (.bool true)], args := [d] }
  | _ => none }
def cycleNilRow : OpenClaim := { program := "ythaicpjgmplgcaa", sum := "39af4b1220ad1052bb81d54cc4a3cf38ca9a36a6633defc249dedab666587859", func := "scullion/scullionlaw21.CycleNil", spec := "cycleNil", unfollowed := true, recurses := true, apart := false }
def CycleNilSaid : Prop := cycleNilRow.holds Try.pinned (OpenSpec.ofChange cycleNilSpec)

/-- ITS FALSE NEIGHBOUR: 'it returns false'. Refute it at one input. -/
def cycleNilWrong : ChangeSpec := { name := "cycleNil", fn := fun _ => fun
  | [d] => { results := [.lit (.bool false)], args := [d] }
  | _ => none }
def CycleNilWrongFalsely : Prop := cycleNilRow.holds Try.pinned (OpenSpec.ofChange cycleNilWrong)

/-- 'scullionlaw21.CycleAgain': WHATEVER THE INPUT: true; the input reads as it did. -/
def cycleAgainSpec : ChangeSpec := { name := "cycleAgain", fn := fun _ => fun
  | [d1, d2, d3, d4, d5] => { results := [.lit (.bool true)], args := [d1, d2, d3, d4, d5] }
  | _ => none }
def cycleAgainRow : OpenClaim := { program := "ythaicpjgmplgcaa", sum := "39af4b1220ad1052bb81d54cc4a3cf38ca9a36a6633defc249dedab666587859", func := "scullion/scullionlaw21.CycleAgain", spec := "cycleAgain", unfollowed := true, recurses := true, apart := false }
def CycleAgainSaid : Prop := cycleAgainRow.holds Try.pinned (OpenSpec.ofChange cycleAgainSpec)

/-- ITS FALSE NEIGHBOUR: 'it returns false'. Refute it at one input. -/
def cycleAgainWrong : ChangeSpec := { name := "cycleAgain", fn := fun _ => fun
  | [d1, d2, d3, d4, d5] => { results := [.lit (.bool false)], args := [d1, d2, d3, d4, d5] }
  | _ => none }
def CycleAgainWrongFalsely : Prop := cycleAgainRow.holds Try.pinned (OpenSpec.ofChange cycleAgainWrong)

/- THE SECOND FORM. 'bulk': how many values and letters a reading holds, each counted each time it is reached (what is shared counts as often as it is met; a slice's spare places count too). A statement '..UptoSaid' is the law's where the arguments, and the package variables that the reading takes, are together of bulk at most 1048576: NARROWER than '..Said'. Prove '..Said' where nothing that the law and all that it calls make is longer than what came in: it says more and counts as full. Else prove '..UptoSaid'. A law counts once. -/
mutual
def uptoBulk {H : Type} : DataW H → Nat
  | .lit (.string bytes) => bytes.length + 1
  | .lit _ => 1
  | .nil => 1
  | .ptr d => uptoBulk d + 1
  | .slice elems spare => uptoBulkAll elems + uptoBulkAll spare + 1
  | .agg parts => uptoBulkAll parts + 1
  | .iface _ d => uptoBulk d + 1
  | .map entries => uptoBulkEntries entries + 1
  | .held _ => 1
def uptoBulkAll {H : Type} : List (DataW H) → Nat
  | [] => 0
  | d :: r => uptoBulk d + uptoBulkAll r
def uptoBulkEntries {H : Type} : List (Lit × DataW H) → Nat
  | [] => 0
  | x :: r => uptoBulkEntry x + uptoBulkEntries r
def uptoBulkEntry {H : Type} : Lit × DataW H → Nat
  | (.string bytes, d) => bytes.length + uptoBulk d + 1
  | (_, d) => uptoBulk d + 1
 end
def uptoSmall : (H : Type) → List (DataW H) → Bool := fun _ ds => decide (uptoBulkAll ds ≤ 1048576)
def OpenSpec.upto (s : _root_.Go.ChangeSpec) : _root_.Go.OpenSpec := { _root_.Go.OpenSpec.ofChange s with cond := some uptoSmall }

/-- 'scullionlaw20.SweepPages', WHERE WHAT IT READS IS OF BULK AT MOST 1048576: true; the input reads as it did. -/
def sweepPagesUptoRow : OpenClaim := { program := "ythaicpjgmplgcaa", sum := "39af4b1220ad1052bb81d54cc4a3cf38ca9a36a6633defc249dedab666587859", func := "scullion/scullionlaw20.SweepPages", spec := "sweepPages", unfollowed := true, recurses := true, apart := false, narrowed := true }
def SweepPagesUptoSaid : Prop := sweepPagesUptoRow.holds Try.pinned (OpenSpec.upto sweepPagesSpec)

/-- 'scullionlaw20.SweepAll', WHERE WHAT IT READS IS OF BULK AT MOST 1048576: true; the input reads as it did. -/
def sweepAllUptoRow : OpenClaim := { program := "ythaicpjgmplgcaa", sum := "39af4b1220ad1052bb81d54cc4a3cf38ca9a36a6633defc249dedab666587859", func := "scullion/scullionlaw20.SweepAll", spec := "sweepAll", unfollowed := true, recurses := true, apart := false, narrowed := true }
def SweepAllUptoSaid : Prop := sweepAllUptoRow.holds Try.pinned (OpenSpec.upto sweepAllSpec)

/-- 'scullionlaw20.SweepWeak', WHERE WHAT IT READS IS OF BULK AT MOST 1048576: true; the input reads as it did. -/
def sweepWeakUptoRow : OpenClaim := { program := "ythaicpjgmplgcaa", sum := "39af4b1220ad1052bb81d54cc4a3cf38ca9a36a6633defc249dedab666587859", func := "scullion/scullionlaw20.SweepWeak", spec := "sweepWeak", unfollowed := true, recurses := true, apart := false, narrowed := true }
def SweepWeakUptoSaid : Prop := sweepWeakUptoRow.holds Try.pinned (OpenSpec.upto sweepWeakSpec)

/-- 'scullionlaw20.SweepNone', WHERE WHAT IT READS IS OF BULK AT MOST 1048576: true; the input reads as it did. -/
def sweepNoneUptoRow : OpenClaim := { program := "ythaicpjgmplgcaa", sum := "39af4b1220ad1052bb81d54cc4a3cf38ca9a36a6633defc249dedab666587859", func := "scullion/scullionlaw20.SweepNone", spec := "sweepNone", unfollowed := true, recurses := true, apart := false, narrowed := true }
def SweepNoneUptoSaid : Prop := sweepNoneUptoRow.holds Try.pinned (OpenSpec.upto sweepNoneSpec)

/-- 'scullionlaw21.CycleEnds', WHERE WHAT IT READS IS OF BULK AT MOST 1048576: true; the input reads as it did. -/
def cycleEndsUptoRow : OpenClaim := { program := "ythaicpjgmplgcaa", sum := "39af4b1220ad1052bb81d54cc4a3cf38ca9a36a6633defc249dedab666587859", func := "scullion/scullionlaw21.CycleEnds", spec := "cycleEnds", unfollowed := true, recurses := true, apart := false, narrowed := true }
def CycleEndsUptoSaid : Prop := cycleEndsUptoRow.holds Try.pinned (OpenSpec.upto cycleEndsSpec)

/-- 'scullionlaw21.CyclePhases', WHERE WHAT IT READS IS OF BULK AT MOST 1048576: true; the input reads as it did. -/
def cyclePhasesUptoRow : OpenClaim := { program := "ythaicpjgmplgcaa", sum := "39af4b1220ad1052bb81d54cc4a3cf38ca9a36a6633defc249dedab666587859", func := "scullion/scullionlaw21.CyclePhases", spec := "cyclePhases", unfollowed := true, recurses := true, apart := false, narrowed := true }
def CyclePhasesUptoSaid : Prop := cyclePhasesUptoRow.holds Try.pinned (OpenSpec.upto cyclePhasesSpec)

/-- 'scullionlaw21.CycleKeeps', WHERE WHAT IT READS IS OF BULK AT MOST 1048576: true; the input reads as it did. -/
def cycleKeepsUptoRow : OpenClaim := { program := "ythaicpjgmplgcaa", sum := "39af4b1220ad1052bb81d54cc4a3cf38ca9a36a6633defc249dedab666587859", func := "scullion/scullionlaw21.CycleKeeps", spec := "cycleKeeps", unfollowed := true, recurses := true, apart := false, narrowed := true }
def CycleKeepsUptoSaid : Prop := cycleKeepsUptoRow.holds Try.pinned (OpenSpec.upto cycleKeepsSpec)

/-- 'scullionlaw21.CyclePlays', WHERE WHAT IT READS IS OF BULK AT MOST 1048576: true; the input reads as it did. -/
def cyclePlaysUptoRow : OpenClaim := { program := "ythaicpjgmplgcaa", sum := "39af4b1220ad1052bb81d54cc4a3cf38ca9a36a6633defc249dedab666587859", func := "scullion/scullionlaw21.CyclePlays", spec := "cyclePlays", unfollowed := true, recurses := true, apart := false, narrowed := true }
def CyclePlaysUptoSaid : Prop := cyclePlaysUptoRow.holds Try.pinned (OpenSpec.upto cyclePlaysSpec)

/-- 'scullionlaw21.CycleNil', WHERE WHAT IT READS IS OF BULK AT MOST 1048576: true; the input reads as it did. -/
def cycleNilUptoRow : OpenClaim := { program := "ythaicpjgmplgcaa", sum := "39af4b1220ad1052bb81d54cc4a3cf38ca9a36a6633defc249dedab666587859", func := "scullion/scullionlaw21.CycleNil", spec := "cycleNil", unfollowed := true, recurses := true, apart := false, narrowed := true }
def CycleNilUptoSaid : Prop := cycleNilUptoRow.holds Try.pinned (OpenSpec.upto cycleNilSpec)

/-- 'scullionlaw21.CycleAgain', WHERE WHAT IT READS IS OF BULK AT MOST 1048576: true; the input reads as it did. -/
def cycleAgainUptoRow : OpenClaim := { program := "ythaicpjgmplgcaa", sum := "39af4b1220ad1052bb81d54cc4a3cf38ca9a36a6633defc249dedab666587859", func := "scullion/scullionlaw21.CycleAgain", spec := "cycleAgain", unfollowed := true, recurses := true, apart := false, narrowed := true }
def CycleAgainUptoSaid : Prop := cycleAgainUptoRow.holds Try.pinned (OpenSpec.upto cycleAgainSpec)

end Rows
end Go.Proofs.Ythaicpjgmplgcaa
