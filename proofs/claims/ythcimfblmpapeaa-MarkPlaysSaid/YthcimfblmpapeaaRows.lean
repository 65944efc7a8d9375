/-
  No cell of these rows narrows 'for every input' (looked for: loops, veiled, ifaces, maps, wideKeys, modest, calm, conditions, laid).
  DERIVED. THE GIVEN ROWS OF THIS SEAT. 13 by the template 'for every input the law returns true; each argument reads behind the call as it read before'; 0 by the template 'total and deterministic' (their statements: YthcimfblmpapeaaTotals.lean).
  GIVEN WITH THE SEED: the statements are not yours to turn. If you find one false, say at which input.
  Laid BY PROGRAM, IN A SANDBOX (cutbox-rows.mjs): the forced cells as the released guide's own fill.sh prints them over the translation 0a131df0b041d9f6… (all of the seat's roots in one cut). By AI agents, Wed Nov 11 2026. No macro, syntax, notation, axiom, sorry.
-/
import Derived.Test.YthcimfblmpapeaaChecked
import GoSem.Claim
import GoSem.ClaimJoined
import GoSem.ClaimMapViews
import Derived.JoinedTies
import Derived.KernelRfl
namespace Go.Proofs.Ythcimfblmpapeaa
/- THE CELL 'sum', in the pinned program and in every row, IS THE sha256 OF THE DUMP (.gsa) THAT YthcimfblmpapeaaProg.lean LOADS. Nothing in Lean hashes anything: it is a label: what it is worth is what the hold of that sum in a sandbox is worth. -/
noncomputable def Try.pinned : Pinned := { name := "ythcimfblmpapeaa", sum := "0a131df0b041d9f6f344c8c98716f8346795b6572a8eb1f161ffde4e7e860fd2", checked := Try.checked }
namespace Rows
def none {H : Type} : Left H := { results := [], args := [] }

/-- 'scullionlaw5.BitmapWalks': WHATEVER THE INPUT: true; the input reads as it did. -/
def bitmapWalksSpec : ChangeSpec := { name := "bitmapWalks", fn := fun _ => fun
  | [d1, d2] => { results := [.lit (.bool true)], args := [d1, d2] }
  | _ => none }
def bitmapWalksRow : OpenClaim := { program := "ythcimfblmpapeaa", sum := "0a131df0b041d9f6f344c8c98716f8346795b6572a8eb1f161ffde4e7e860fd2", func := "scullion/scullionlaw5.BitmapWalks", spec := "bitmapWalks", apart := false }
def BitmapWalksSaid : Prop := bitmapWalksRow.holds Try.pinned (OpenSpec.ofChange bitmapWalksSpec)

/-- ITS FALSE NEIGHBOUR: 'it returns false'. Refute it at one input. -/
def bitmapWalksWrong : ChangeSpec := { name := "bitmapWalks", fn := fun _ => fun
  | [d1, d2] => { results := [.lit (.bool false)], args := [d1, d2] }
  | _ => none }
def BitmapWalksWrongFalsely : Prop := bitmapWalksRow.holds Try.pinned (OpenSpec.ofChange bitmapWalksWrong)

/-- 'scullionlaw5.BitmapSplits': WHATEVER THE INPUT: true; the input reads as it did. -/
def bitmapSplitsSpec : ChangeSpec := { name := "bitmapSplits", fn := fun _ => fun
  | [d1, d2, d3, d4] => { results := [.lit (.bool true)], args := [d1, d2, d3, d4] }
  | _ => none }
def bitmapSplitsRow : OpenClaim := { program := "ythcimfblmpapeaa", sum := "0a131df0b041d9f6f344c8c98716f8346795b6572a8eb1f161ffde4e7e860fd2", func := "scullion/scullionlaw5.BitmapSplits", spec := "bitmapSplits", apart := false }
def BitmapSplitsSaid : Prop := bitmapSplitsRow.holds Try.pinned (OpenSpec.ofChange bitmapSplitsSpec)

/-- ITS FALSE NEIGHBOUR: 'it returns false'. Refute it at one input. -/
def bitmapSplitsWrong : ChangeSpec := { name := "bitmapSplits", fn := fun _ => fun
  | [d1, d2, d3, d4] => { results := [.lit (.bool false)], args := [d1, d2, d3, d4] }
  | _ => none }
def BitmapSplitsWrongFalsely : Prop := bitmapSplitsRow.holds Try.pinned (OpenSpec.ofChange bitmapSplitsWrong)

/-- 'scullionlaw5.BitmapCounts': WHATEVER THE INPUT: true; the input reads as it did. -/
def bitmapCountsSpec : ChangeSpec := { name := "bitmapCounts", fn := fun _ => fun
  | [d1, d2, d3] => { results := [.lit (.bool true)], args := [d1, d2, d3] }
  | _ => none }
def bitmapCountsRow : OpenClaim := { program := "ythcimfblmpapeaa", sum := "0a131df0b041d9f6f344c8c98716f8346795b6572a8eb1f161ffde4e7e860fd2", func := "scullion/scullionlaw5.BitmapCounts", spec := "bitmapCounts", apart := false }
def BitmapCountsSaid : Prop := bitmapCountsRow.holds Try.pinned (OpenSpec.ofChange bitmapCountsSpec)

/-- ITS FALSE NEIGHBOUR: 'it returns false'. Refute it at one input. -/
def bitmapCountsWrong : ChangeSpec := { name := "bitmapCounts", fn := fun _ => fun
  | [d1, d2, d3] => { results := [.lit (.bool false)], args := [d1, d2, d3] }
  | _ => none }
def BitmapCountsWrongFalsely : Prop := bitmapCountsRow.holds Try.pinned (OpenSpec.ofChange bitmapCountsWrong)

/-- 'scullionlaw5.BitmapPlays': WHATEVER THE INPUT: true; the input reads as it did. -/
def bitmapPlaysSpec : ChangeSpec := { name := "bitmapPlays", fn := fun _ => fun
  | [d1, d2, d3, d4, d5] => { results := [.lit (.bool true)], args := [d1, d2, d3, d4, d5] }
  | _ => none }
def bitmapPlaysRow : OpenClaim := { program := "ythcimfblmpapeaa", sum := "0a131df0b041d9f6f344c8c98716f8346795b6572a8eb1f161ffde4e7e860fd2", func := "scullion/scullionlaw5.BitmapPlays", spec := "bitmapPlays", apart := false }
def BitmapPlaysSaid : Prop := bitmapPlaysRow.holds Try.pinned (OpenSpec.ofChange bitmapPlaysSpec)

/-- ITS FALSE NEIGHBOUR: 'it returns false'. Refute it at one input. -/
def bitmapPlaysWrong : ChangeSpec := { name := "bitmapPlays", fn := fun _ => fun
  | [d1, d2, d3, d4, d5] => { results := [.lit (.bool false)], args := [d1, d2, d3, d4, d5] }
  | _ => none }
def BitmapPlaysWrongFalsely : Prop := bitmapPlaysRow.holds Try.pinned (OpenSpec.ofChange bitmapPlaysWrong)

/-- 'scullionlaw5.BitmapBack': WHATEVER THE INPUT: true; the input reads as it did. -/
def bitmapBackSpec : ChangeSpec := { name := "bitmapBack", fn := fun _ => fun
  | [d1, d2, d3] => { results := [.lit (.bool true)], args := [d1, d2, d3] }
  | _ => none }
def bitmapBackRow : OpenClaim := { program := "ythcimfblmpapeaa", sum := "0a131df0b041d9f6f344c8c98716f8346795b6572a8eb1f161ffde4e7e860fd2", func := "scullion/scullionlaw5.BitmapBack", spec := "bitmapBack", apart := false }
def BitmapBackSaid : Prop := bitmapBackRow.holds Try.pinned (OpenSpec.ofChange bitmapBackSpec)

/-- ITS FALSE NEIGHBOUR: 'it returns false'. Refute it at one input. -/
def bitmapBackWrong : ChangeSpec := { name := "bitmapBack", fn := fun _ => fun
  | [d1, d2, d3] => { results := [.lit (.bool false)], args := [d1, d2, d3] }
  | _ => none }
def BitmapBackWrongFalsely : Prop := bitmapBackRow.holds Try.pinned (OpenSpec.ofChange bitmapBackWrong)

/-- 'scullionlaw5.BitmapNew': WHATEVER THE INPUT: true; the input reads as it did. -/
def bitmapNewSpec : ChangeSpec := { name := "bitmapNew", fn := fun _ => fun
  | [d1, d2] => { results := [.lit (.bool true)], args := [d1, d2] }
  | _ => none }
def bitmapNewRow : OpenClaim := { program := "ythcimfblmpapeaa", sum := "0a131df0b041d9f6f344c8c98716f8346795b6572a8eb1f161ffde4e7e860fd2", func := "scullion/scullionlaw5.BitmapNew", spec := "bitmapNew", apart := false }
def BitmapNewSaid : Prop := bitmapNewRow.holds Try.pinned (OpenSpec.ofChange bitmapNewSpec)

/-- ITS FALSE NEIGHBOUR: 'it returns false'. Refute it at one input. -/
def bitmapNewWrong : ChangeSpec := { name := "bitmapNew", fn := fun _ => fun
  | [d1, d2] => { results := [.lit (.bool false)], args := [d1, d2] }
  | _ => none }
def BitmapNewWrongFalsely : Prop := bitmapNewRow.holds Try.pinned (OpenSpec.ofChange bitmapNewWrong)

/-- 'scullionlaw19.MarkAll': WHATEVER THE INPUT: true; the input reads as it did. -/
def markAllSpec : ChangeSpec := { name := "markAll", fn := fun _ => fun
  | [d1, d2, d3, d4, d5] => { results := [.lit (.bool true)], args := [d1, d2, d3, d4, d5] }
  | _ => none }
def markAllRow : OpenClaim := { program := "ythcimfblmpapeaa", sum := "0a131df0b041d9f6f344c8c98716f8346795b6572a8eb1f161ffde4e7e860fd2", func := "scullion/scullionlaw19.MarkAll", spec := "markAll", unfollowed := true, recurses := true, apart := false }
def MarkAllSaid : Prop := markAllRow.holds Try.pinned (OpenSpec.ofChange markAllSpec)

/-- ITS FALSE NEIGHBOUR: 'it returns false'. Refute it at one input. -/
def markAllWrong : ChangeSpec := { name := "markAll", fn := fun _ => fun
  | [d1, d2, d3, d4, d5] => { results := [.lit (.bool false)], args := [d1, d2, d3, d4, d5] }
  | _ => none }
def MarkAllWrongFalsely : Prop := markAllRow.holds Try.pinned (OpenSpec.ofChange markAllWrong)

/-- 'scullionlaw19.MarkKeeps': WHATEVER THE INPUT: true; the input reads as it did. -/
def markKeepsSpec : ChangeSpec := { name := "markKeeps", fn := fun _ => fun
  | [d1, d2, d3, d4] => { results := [.lit (.bool true)], args := [d1, d2, d3, d4] }
  | _ => none }
def markKeepsRow : OpenClaim := { program := "ythcimfblmpapeaa", sum := "0a131df0b041d9f6f344c8c98716f8346795b6572a8eb1f161ffde4e7e860fd2", func := "scullion/scullionlaw19.MarkKeeps", spec := "markKeeps", unfollowed := true, recurses := true, apart := false }
def MarkKeepsSaid : Prop := markKeepsRow.holds Try.pinned (OpenSpec.ofChange markKeepsSpec)

/-- ITS FALSE NEIGHBOUR: 'it returns false'. Refute it at one input. -/
def markKeepsWrong : ChangeSpec := { name := "markKeeps", fn := fun _ => fun
  | [d1, d2, d3, d4] => { results := [.lit (.bool false)], args := [d1, d2, d3, d4] }
  | _ => none }
def MarkKeepsWrongFalsely : Prop := markKeepsRow.holds Try.pinned (OpenSpec.ofChange markKeepsWrong)

/-- 'scullionlaw19.MarkShuts': WHATEVER THE INPUT: true; the input reads as it did. -/
def markShutsSpec : ChangeSpec := { name := "markShuts", fn := fun _ => fun
  | [d1, d2, d3, d4, d5] => { results := [.lit (.bool true)], args := [d1, d2, d3, d4, d5] }
  | _ => none }
def markShutsRow : OpenClaim := { program := "ythcimfblmpapeaa", sum := "0a131df0b041d9f6f344c8c98716f8346795b6572a8eb1f161ffde4e7e860fd2", func := "scullion/scullionlaw19.MarkShuts", spec := "markShuts", unfollowed := true, recurses := true, apart := false }
def MarkShutsSaid : Prop := markShutsRow.holds Try.pinned (OpenSpec.ofChange markShutsSpec)

/-- ITS FALSE NEIGHBOUR: 'it returns false'. Refute it at one input. -/
def markShutsWrong : ChangeSpec := { name := "markShuts", fn := fun _ => fun
  | [d1, d2, d3, d4, d5] => { results := [.lit (.bool false)], args := [d1, d2, d3, d4, d5] }
  | _ => none }
def MarkShutsWrongFalsely : Prop := markShutsRow.holds Try.pinned (OpenSpec.ofChange markShutsWrong)

/-- 'scullionlaw19.MarkRooms': WHATEVER THE INPUT: true; the input reads as it did. -/
def markRoomsSpec : ChangeSpec := { name := "markRooms", fn := fun _ => fun
  | [d1, d2, d3, d4, d5] => { results := [.lit (.bool true)], args := [d1, d2, d3, d4, d5] }
  | _ => none }
def markRoomsRow : OpenClaim := { program := "ythcimfblmpapeaa", sum := "0a131df0b041d9f6f344c8c98716f8346795b6572a8eb1f161ffde4e7e860fd2", func := "scullion/scullionlaw19.MarkRooms", spec := "markRooms", unfollowed := true, recurses := true, apart := false }
def MarkRoomsSaid : Prop := markRoomsRow.holds Try.pinned (OpenSpec.ofChange markRoomsSpec)

/-- ITS FALSE NEIGHBOUR: 'it returns false'. Refute it at one input. -/
def markRoomsWrong : ChangeSpec := { name := "markRooms", fn := fun _ => fun
  | [d1, d2, d3, d4, d5] => { results := [.lit (.bool false)], args := [d1, d2, d3, d4, d5] }
  | _ => none }
def MarkRoomsWrongFalsely : Prop := markRoomsRow.holds Try.pinned (OpenSpec.ofChange markRoomsWrong)

/-- 'scullionlaw19.MarkLate': WHATEVER THE INPUT: true; the input reads as it did. -/
def markLateSpec : ChangeSpec := { name := "markLate", fn := fun _ => fun
  | [d1, d2, d3, d4, d5] => { results := [.lit (.bool true)], args := [d1, d2, d3, d4, d5] }
  | _ => none }
def markLateRow : OpenClaim := { program := "ythcimfblmpapeaa", sum := "0a131df0b041d9f6f344c8c98716f8346795b6572a8eb1f161ffde4e7e860fd2", func := "scullion/scullionlaw19.MarkLate", spec := "markLate", unfollowed := true, recurses := true, apart := false }
def MarkLateSaid : Prop := markLateRow.holds Try.pinned (OpenSpec.ofChange markLateSpec)

/-- ITS FALSE NEIGHBOUR: 'it returns false'. Refute it at one input. -/
def markLateWrong : ChangeSpec := { name := "markLate", fn := fun _ => fun
  | [d1, d2, d3, d4, d5] => { results := [.lit (.bool false)], args := [d1, d2, d3, d4, d5] }
  | _ => none }
def MarkLateWrongFalsely : Prop := markLateRow.holds Try.pinned (OpenSpec.ofChange markLateWrong)

/-- 'scullionlaw19.MarkNil': WHATEVER THE INPUT: true; the input reads as it did. -/
def markNilSpec : ChangeSpec := { name := "markNil", fn := fun _ => fun
  | [d] => { results := [.lit (.bool true)], args := [d] }
  | _ => none }
def markNilRow : OpenClaim := { program := "ythcimfblmpapeaa", sum := "0a131df0b041d9f6f344c8c98716f8346795b6572a8eb1f161ffde4e7e860fd2", func := "scullion/scullionlaw19.MarkNil", spec := "markNil", unfollowed := true, recurses := true, apart := false }
def MarkNilSaid : Prop := markNilRow.holds Try.pinned (OpenSpec.ofChange markNilSpec)

/-- ITS FALSE NEIGHBOUR: 'it returns false'. Refute it at one input. -/
def markNilWrong : ChangeSpec := { name := "markNil", fn := fun _ => fun
  | [d] => { results := [.lit (.bool false)], args := [d] }
  | _ => none }
def MarkNilWrongFalsely : Prop := markNilRow.holds Try.pinned (OpenSpec.ofChange markNilWrong)

/-- 'scullionlaw19.MarkPlays': WHATEVER THE INPUT: true; the input reads as it did. -/
def markPlaysSpec : ChangeSpec := { name := "markPlays", fn := fun _ => fun
  | [d1, d2, d3, d4] => { results := [.lit (.bool true)], args := [d1, d2, d3, d4] }
  | _ => none }
def markPlaysRow : OpenClaim := { program := "ythcimfblmpapeaa", sum := "0a131df0b041d9f6f344c8c98716f8346795b6572a8eb1f161ffde4e7e860fd2", func := "scullion/scullionlaw19.MarkPlays", spec := "markPlays", unfollowed := true, recurses := true, apart := false }
def MarkPlaysSaid : Prop := markPlaysRow.holds Try.pinned (OpenSpec.ofChange markPlaysSpec)

/-- ITS FALSE NEIGHBOUR: 'it returns false'. Refute it at one input. -/
def markPlaysWrong : ChangeSpec := { name := "markPlays", fn := fun _ => fun
  | [d1, d2, d3, d4] => { results := [.lit (.bool false)], args := [d1, d2, d3, d4] }
  | _ => none }
def MarkPlaysWrongFalsely : Prop := markPlaysRow.holds Try.pinned (OpenSpec.ofChange markPlaysWrong)

/- THE SECOND FORM. 'bulk': how many values and letters a reading holds, each counted each time it is reached (what is shared counts as often as it is met; a slice's spare places count too). A statement '..UptoSaid' is the law's where the arguments, and the package variables that the reading takes, are together of bulk at most 1048576: NARROWER than '..Said'. Prove '..Said' where nothing that the law and all that it calls make is longer than what came in: it says more and counts as full. Else prove '..UptoSaid'. A law counts once. -/
mutual
def uptoBulk {H : Type} : DataW H → Nat
  | .lit (.string bytes) => bytes.length + 1
  | .lit _ => 1
  | .nil => 1
  | .ptr d => uptoBulk d + 1
  | .slice elems spare => uptoBulkAll elems + uptoBulkAll spare + 1
  | .agg parts => uptoBulkAll parts + 1
  | .iface _ d => uptoBulk d + 1
  | .map entries => uptoBulkEntries entries + 1
  | .held _ => 1
def uptoBulkAll {H : Type} : List (DataW H) → Nat
  | [] => 0
  | d :: r => uptoBulk d + uptoBulkAll r
def uptoBulkEntries {H : Type} : List (Lit × DataW H) → Nat
  | [] => 0
  | x :: r => uptoBulkEntry x + uptoBulkEntries r
def uptoBulkEntry {H : Type} : Lit × DataW H → Nat
  | (.string bytes, d) => bytes.length + uptoBulk d + 1
  | (_, d) => uptoBulk d + 1
 end
def uptoSmall : (H : Type) → List (DataW H) → Bool := fun _ ds => decide (uptoBulkAll ds ≤ 1048576)
def OpenSpec.upto (s : _root_.Go.ChangeSpec) : _root_.Go.OpenSpec := { _root_.Go.OpenSpec.ofChange s with cond := some uptoSmall }

/-- 'scullionlaw5.BitmapWalks', WHERE WHAT IT READS IS OF BULK AT MOST 1048576: true; the input reads as it did. -/
def bitmapWalksUptoRow : OpenClaim := { program := "ythcimfblmpapeaa", sum := "0a131df0b041d9f6f344c8c98716f8346795b6572a8eb1f161ffde4e7e860fd2", func := "scullion/scullionlaw5.BitmapWalks", spec := "bitmapWalks", apart := false, narrowed := true }
def BitmapWalksUptoSaid : Prop := bitmapWalksUptoRow.holds Try.pinned (OpenSpec.upto bitmapWalksSpec)

/-- 'scullionlaw5.BitmapSplits', WHERE WHAT IT READS IS OF BULK AT MOST 1048576: true; the input reads as it did. -/
def bitmapSplitsUptoRow : OpenClaim := { program := "ythcimfblmpapeaa", sum := "0a131df0b041d9f6f344c8c98716f8346795b6572a8eb1f161ffde4e7e860fd2", func := "scullion/scullionlaw5.BitmapSplits", spec := "bitmapSplits", apart := false, narrowed := true }
def BitmapSplitsUptoSaid : Prop := bitmapSplitsUptoRow.holds Try.pinned (OpenSpec.upto bitmapSplitsSpec)

/-- 'scullionlaw5.BitmapCounts', WHERE WHAT IT READS IS OF BULK AT MOST 1048576: true; the input reads as it did. -/
def bitmapCountsUptoRow : OpenClaim := { program := "ythcimfblmpapeaa", sum := "0a131df0b041d9f6f344c8c98716f8346795b6572a8eb1f161ffde4e7e860fd2", func := "scullion/scullionlaw5.BitmapCounts", spec := "bitmapCounts", apart := false, narrowed := true }
def BitmapCountsUptoSaid : Prop := bitmapCountsUptoRow.holds Try.pinned (OpenSpec.upto bitmapCountsSpec)

/-- 'scullionlaw5.BitmapPlays', WHERE WHAT IT READS IS OF BULK AT MOST 1048576: true; the input reads as it did. -/
def bitmapPlaysUptoRow : OpenClaim := { program := "ythcimfblmpapeaa", sum := "0a131df0b041d9f6f344c8c98716f8346795b6572a8eb1f161ffde4e7e860fd2", func := "scullion/scullionlaw5.BitmapPlays", spec := "bitmapPlays", apart := false, narrowed := true }
def BitmapPlaysUptoSaid : Prop := bitmapPlaysUptoRow.holds Try.pinned (OpenSpec.upto bitmapPlaysSpec)

/-- 'scullionlaw5.BitmapBack', WHERE WHAT IT READS IS OF BULK AT MOST 1048576: true; the input reads as it did. -/
def bitmapBackUptoRow : OpenClaim := { program := "ythcimfblmpapeaa", sum := "0a131df0b041d9f6f344c8c98716f8346795b6572a8eb1f161ffde4e7e860fd2", func := "scullion/scullionlaw5.BitmapBack", spec := "bitmapBack", apart := false, narrowed := true }
def BitmapBackUptoSaid : Prop := bitmapBackUptoRow.holds Try.pinned (OpenSpec.upto bitmapBackSpec)

/-- 'scullionlaw5.BitmapNew', WHERE WHAT IT READS IS OF BULK AT MOST 1048576: true; the input reads as it did. -/
def bitmapNewUptoRow : OpenClaim := { program := "ythcimfblmpapeaa", sum := "0a131df0b041d9f6f344c8c98716f8346795b6572a8eb1f161ffde4e7e860fd2", func := "scullion/scullionlaw5.BitmapNew", spec := "bitmapNew", apart := false, narrowed := true }
def BitmapNewUptoSaid : Prop := bitmapNewUptoRow.holds Try.pinned (OpenSpec.upto bitmapNewSpec)

/-- 'scullionlaw19.MarkAll', WHERE WHAT IT READS IS OF BULK AT MOST 1048576: true; the input reads as it did. -/
def markAllUptoRow : OpenClaim := { program := "ythcimfblmpapeaa", sum := "0a131df0b041d9f6f344c8c98716f8346795b6572a8eb1f161ffde4e7e860fd2", func := "scullion/scullionlaw19.MarkAll", spec := "markAll", unfollowed := true, recurses := true, apart := false, narrowed := true }
def MarkAllUptoSaid : Prop := markAllUptoRow.holds Try.pinned (OpenSpec.upto markAllSpec)

/-- 'scullionlaw19.MarkKeeps', WHERE WHAT IT READS IS OF BULK AT MOST 1048576: true; the input reads as it did. -/
def markKeepsUptoRow : OpenClaim := { program := "ythcimfblmpapeaa", sum := "0a131df0b041d9f6f344c8c98716f8346795b6572a8eb1f161ffde4e7e860fd2", func := "scullion/scullionlaw19.MarkKeeps", spec := "markKeeps", unfollowed := true, recurses := true, apart := false, narrowed := true }
def MarkKeepsUptoSaid : Prop := markKeepsUptoRow.holds Try.pinned (OpenSpec.upto markKeepsSpec)

/-- 'scullionlaw19.MarkShuts', WHERE WHAT IT READS IS OF BULK AT MOST 1048576: true; the input reads as it did. -/
def markShutsUptoRow : OpenClaim := { program := "ythcimfblmpapeaa", sum := "0a131df0b041d9f6f344c8c98716f8346795b6572a8eb1f161ffde4e7e860fd2", func := "scullion/scullionlaw19.MarkShuts", spec := "markShuts", unfollowed := true, recurses := true, apart := false, narrowed := true }
def MarkShutsUptoSaid : Prop := markShutsUptoRow.holds Try.pinned (OpenSpec.upto markShutsSpec)

/-- 'scullionlaw19.MarkRooms', WHERE WHAT IT READS IS OF BULK AT MOST 1048576: true; the input reads as it did. -/
def markRoomsUptoRow : OpenClaim := { program := "ythcimfblmpapeaa", sum := "0a131df0b041d9f6f344c8c98716f8346795b6572a8eb1f161ffde4e7e860fd2", func := "scullion/scullionlaw19.MarkRooms", spec := "markRooms", unfollowed := true, recurses := true, apart := false, narrowed := true }
def MarkRoomsUptoSaid : Prop := markRoomsUptoRow.holds Try.pinned (OpenSpec.upto markRoomsSpec)

/-- 'scullionlaw19.MarkLate', WHERE WHAT IT READS IS OF BULK AT MOST 1048576: true; the input reads as it did. -/
def markLateUptoRow : OpenClaim := { program := "ythcimfblmpapeaa", sum := "0a131df0b041d9f6f344c8c98716f8346795b6572a8eb1f161ffde4e7e860fd2", func := "scullion/scullionlaw19.MarkLate", spec := "markLate", unfollowed := true, recurses := true, apart := false, narrowed := true }
def MarkLateUptoSaid : Prop := markLateUptoRow.holds Try.pinned (OpenSpec.upto markLateSpec)

/-- 'scullionlaw19.MarkNil', WHERE WHAT IT READS IS OF BULK AT MOST 1048576: true; the input reads as it did. -/
def markNilUptoRow : OpenClaim := { program := "ythcimfblmpapeaa", sum := "0a131df0b041d9f6f344c8c98716f8346795b6572a8eb1f161ffde4e7e860fd2", func := "scullion/scullionlaw19.MarkNil", spec := "markNil", unfollowed := true, recurses := true, apart := false, narrowed := true }
def MarkNilUptoSaid : Prop := markNilUptoRow.holds Try.pinned (OpenSpec.upto markNilSpec)

/-- 'scullionlaw19.MarkPlays', WHERE WHAT IT READS IS OF BULK AT MOST 1048576: true; the input reads as it did. -/
def markPlaysUptoRow : OpenClaim := { program := "ythcimfblmpapeaa", sum := "0a131df0b041d9f6f344c8c98716f8346795b6572a8eb1f161ffde4e7e860fd2", func := "scullion/scullionlaw19.MarkPlays", spec := "markPlays", unfollowed := true, recurses := true, apart := false, narrowed := true }
def MarkPlaysUptoSaid : Prop := markPlaysUptoRow.holds Try.pinned (OpenSpec.upto markPlaysSpec)

end Rows
end Go.Proofs.Ythcimfblmpapeaa
