/-
  No cell of these rows narrows 'for every input' (looked for: loops, veiled, ifaces, maps, wideKeys, modest, calm, conditions, laid).
  DERIVED. THE GIVEN ROWS OF THIS SEAT. 12 by the template 'for every input the law returns true; each argument reads behind the call as it read before'; 0 by the template 'total and deterministic' (their statements: YtdopdmacdjnpdaaTotals.lean).
  GIVEN WITH THE SEED: the statements are not yours to turn. If you find one false, say at which input.
  Laid BY PROGRAM, IN A SANDBOX (cutbox-rows.mjs): the forced cells as the released guide's own fill.sh prints them over the translation 87187314d98a21c0… (all of the seat's roots in one cut). By AI agents, Wed Nov 11 2026. No macro, syntax, notation, axiom, sorry.
-/
import Derived.Test.YtdopdmacdjnpdaaChecked
import GoSem.Claim
import GoSem.ClaimJoined
import GoSem.ClaimMapViews
import Derived.JoinedTies
import Derived.KernelRfl
namespace Go.Proofs.Ytdopdmacdjnpdaa
/- THE CELL 'sum', in the pinned program and in every row, IS THE sha256 OF THE DUMP (.gsa) THAT YtdopdmacdjnpdaaProg.lean LOADS. Nothing in Lean hashes anything: it is a label: what it is worth is what the hold of that sum in a sandbox is worth. -/
noncomputable def Try.pinned : Pinned := { name := "ytdopdmacdjnpdaa", sum := "87187314d98a21c0db5afca0ec62a72e71556f5f980f01190d923c37c4c35e93", checked := Try.checked }
namespace Rows
def none {H : Type} : Left H := { results := [], args := [] }

/-- 'magnetolaw15.BlockPuts': WHATEVER THE INPUT: true; the input reads as it did. -/
def blockPutsSpec : ChangeSpec := { name := "blockPuts", fn := fun _ => fun
  | [d] => { results := [.lit (.bool true)], args := [d] }
  | _ => none }
def blockPutsRow : OpenClaim := { program := "ytdopdmacdjnpdaa", sum := "87187314d98a21c0db5afca0ec62a72e71556f5f980f01190d923c37c4c35e93", func := "magneto/magnetolaw15.BlockPuts", spec := "blockPuts", unfollowed := true, recurses := true, apart := false }
def BlockPutsSaid : Prop := blockPutsRow.holds Try.pinned (OpenSpec.ofChange blockPutsSpec)

/-- ITS FALSE NEIGHBOUR: 'it returns false'. Refute it at one input. -/
def blockPutsWrong : ChangeSpec := { name := "blockPuts", fn := fun _ => fun
  | [d] => { results := [.lit (.bool false)], args := [d] }
  | _ => none }
def BlockPutsWrongFalsely : Prop := blockPutsRow.holds Try.pinned (OpenSpec.ofChange blockPutsWrong)

/-- 'magnetolaw12.TapChecks': WHATEVER THE INPUT: true; the input reads as it did. -/
def tapChecksSpec : ChangeSpec := { name := "tapChecks", fn := fun _ => fun
  | [d1, d2] => { results := [.lit (.bool true)], args := [d1, d2] }
  | _ => none }
def tapChecksRow : OpenClaim := { program := "ytdopdmacdjnpdaa", sum := "87187314d98a21c0db5afca0ec62a72e71556f5f980f01190d923c37c4c35e93", func := "magneto/magnetolaw12.TapChecks", spec := "tapChecks", unfollowed := true, recurses := true, apart := false }
def TapChecksSaid : Prop := tapChecksRow.holds Try.pinned (OpenSpec.ofChange tapChecksSpec)

/-- ITS FALSE NEIGHBOUR: 'it returns false'. Refute it at one input. -/
def tapChecksWrong : ChangeSpec := { name := "tapChecks", fn := fun _ => fun
  | [d1, d2] => { results := [.lit (.bool false)], args := [d1, d2] }
  | _ => none }
def TapChecksWrongFalsely : Prop := tapChecksRow.holds Try.pinned (OpenSpec.ofChange tapChecksWrong)

/-- 'magnetolaw12.TapCuts': WHATEVER THE INPUT: true; the input reads as it did. -/
def tapCutsSpec : ChangeSpec := { name := "tapCuts", fn := fun _ => fun
  | [d1, d2] => { results := [.lit (.bool true)], args := [d1, d2] }
  | _ => none }
def tapCutsRow : OpenClaim := { program := "ytdopdmacdjnpdaa", sum := "87187314d98a21c0db5afca0ec62a72e71556f5f980f01190d923c37c4c35e93", func := "magneto/magnetolaw12.TapCuts", spec := "tapCuts", unfollowed := true, recurses := true, apart := false }
def TapCutsSaid : Prop := tapCutsRow.holds Try.pinned (OpenSpec.ofChange tapCutsSpec)

/-- ITS FALSE NEIGHBOUR: 'it returns false'. Refute it at one input. -/
def tapCutsWrong : ChangeSpec := { name := "tapCuts", fn := fun _ => fun
  | [d1, d2] => { results := [.lit (.bool false)], args := [d1, d2] }
  | _ => none }
def TapCutsWrongFalsely : Prop := tapCutsRow.holds Try.pinned (OpenSpec.ofChange tapCutsWrong)

/-- 'magnetolaw12.TapLevels': WHATEVER THE INPUT: true; the input reads as it did. -/
def tapLevelsSpec : ChangeSpec := { name := "tapLevels", fn := fun _ => fun
  | [d1, d2, d3] => { results := [.lit (.bool true)], args := [d1, d2, d3] }
  | _ => none }
def tapLevelsRow : OpenClaim := { program := "ytdopdmacdjnpdaa", sum := "87187314d98a21c0db5afca0ec62a72e71556f5f980f01190d923c37c4c35e93", func := "magneto/magnetolaw12.TapLevels", spec := "tapLevels", unfollowed := true, recurses := true, apart := false }
def TapLevelsSaid : Prop := tapLevelsRow.holds Try.pinned (OpenSpec.ofChange tapLevelsSpec)

/-- ITS FALSE NEIGHBOUR: 'it returns false'. Refute it at one input. -/
def tapLevelsWrong : ChangeSpec := { name := "tapLevels", fn := fun _ => fun
  | [d1, d2, d3] => { results := [.lit (.bool false)], args := [d1, d2, d3] }
  | _ => none }
def TapLevelsWrongFalsely : Prop := tapLevelsRow.holds Try.pinned (OpenSpec.ofChange tapLevelsWrong)

/-- 'magnetolaw12.TapJoins': WHATEVER THE INPUT: true; the input reads as it did. -/
def tapJoinsSpec : ChangeSpec := { name := "tapJoins", fn := fun _ => fun
  | [d1, d2] => { results := [.lit (.bool true)], args := [d1, d2] }
  | _ => none }
def tapJoinsRow : OpenClaim := { program := "ytdopdmacdjnpdaa", sum := "87187314d98a21c0db5afca0ec62a72e71556f5f980f01190d923c37c4c35e93", func := "magneto/magnetolaw12.TapJoins", spec := "tapJoins", unfollowed := true, recurses := true, apart := false }
def TapJoinsSaid : Prop := tapJoinsRow.holds Try.pinned (OpenSpec.ofChange tapJoinsSpec)

/-- ITS FALSE NEIGHBOUR: 'it returns false'. Refute it at one input. -/
def tapJoinsWrong : ChangeSpec := { name := "tapJoins", fn := fun _ => fun
  | [d1, d2] => { results := [.lit (.bool false)], args := [d1, d2] }
  | _ => none }
def TapJoinsWrongFalsely : Prop := tapJoinsRow.holds Try.pinned (OpenSpec.ofChange tapJoinsWrong)

/-- 'magnetolaw12.TapWired': WHATEVER THE INPUT: true; the input reads as it did. -/
def tapWiredSpec : ChangeSpec := { name := "tapWired", fn := fun _ => fun
  | [d1, d2] => { results := [.lit (.bool true)], args := [d1, d2] }
  | _ => none }
def tapWiredRow : OpenClaim := { program := "ytdopdmacdjnpdaa", sum := "87187314d98a21c0db5afca0ec62a72e71556f5f980f01190d923c37c4c35e93", func := "magneto/magnetolaw12.TapWired", spec := "tapWired", unfollowed := true, recurses := true, apart := false }
def TapWiredSaid : Prop := tapWiredRow.holds Try.pinned (OpenSpec.ofChange tapWiredSpec)

/-- ITS FALSE NEIGHBOUR: 'it returns false'. Refute it at one input. -/
def tapWiredWrong : ChangeSpec := { name := "tapWired", fn := fun _ => fun
  | [d1, d2] => { results := [.lit (.bool false)], args := [d1, d2] }
  | _ => none }
def TapWiredWrongFalsely : Prop := tapWiredRow.holds Try.pinned (OpenSpec.ofChange tapWiredWrong)

/-- 'magnetolaw12.TapLong': WHATEVER THE INPUT: true; the input reads as it did. -/
def tapLongSpec : ChangeSpec := { name := "tapLong", fn := fun _ => fun
  | [d] => { results := [.lit (.bool true)], args := [d] }
  | _ => none }
def tapLongRow : OpenClaim := { program := "ytdopdmacdjnpdaa", sum := "87187314d98a21c0db5afca0ec62a72e71556f5f980f01190d923c37c4c35e93", func := "magneto/magnetolaw12.TapLong", spec := "tapLong", unfollowed := true, recurses := true, apart := false }
def TapLongSaid : Prop := tapLongRow.holds Try.pinned (OpenSpec.ofChange tapLongSpec)

/-- ITS FALSE NEIGHBOUR: 'it returns false'. Refute it at one input. -/
def tapLongWrong : ChangeSpec := { name := "tapLong", fn := fun _ => fun
  | [d] => { results := [.lit (.bool false)], args := [d] }
  | _ => none }
def TapLongWrongFalsely : Prop := tapLongRow.holds Try.pinned (OpenSpec.ofChange tapLongWrong)

/-- 'magnetolaw15.BlockGets': WHATEVER THE INPUT: true; the input reads as it did. -/
def blockGetsSpec : ChangeSpec := { name := "blockGets", fn := fun _ => fun
  | [d] => { results := [.lit (.bool true)], args := [d] }
  | _ => none }
def blockGetsRow : OpenClaim := { program := "ytdopdmacdjnpdaa", sum := "87187314d98a21c0db5afca0ec62a72e71556f5f980f01190d923c37c4c35e93", func := "magneto/magnetolaw15.BlockGets", spec := "blockGets", unfollowed := true, recurses := true, apart := false }
def BlockGetsSaid : Prop := blockGetsRow.holds Try.pinned (OpenSpec.ofChange blockGetsSpec)

/-- ITS FALSE NEIGHBOUR: 'it returns false'. Refute it at one input. -/
def blockGetsWrong : ChangeSpec := { name := "blockGets", fn := fun _ => fun
  | [d] => { results := [.lit (.bool false)], args := [d] }
  | _ => none }
def BlockGetsWrongFalsely : Prop := blockGetsRow.holds Try.pinned (OpenSpec.ofChange blockGetsWrong)

/-- 'magnetolaw15.BlockBack': WHATEVER THE INPUT: true; the input reads as it did. -/
def blockBackSpec : ChangeSpec := { name := "blockBack", fn := fun _ => fun
  | [d1, d2] => { results := [.lit (.bool true)], args := [d1, d2] }
  | _ => none }
def blockBackRow : OpenClaim := { program := "ytdopdmacdjnpdaa", sum := "87187314d98a21c0db5afca0ec62a72e71556f5f980f01190d923c37c4c35e93", func := "magneto/magnetolaw15.BlockBack", spec := "blockBack", unfollowed := true, recurses := true, apart := false }
def BlockBackSaid : Prop := blockBackRow.holds Try.pinned (OpenSpec.ofChange blockBackSpec)

/-- ITS FALSE NEIGHBOUR: 'it returns false'. Refute it at one input. -/
def blockBackWrong : ChangeSpec := { name := "blockBack", fn := fun _ => fun
  | [d1, d2] => { results := [.lit (.bool false)], args := [d1, d2] }
  | _ => none }
def BlockBackWrongFalsely : Prop := blockBackRow.holds Try.pinned (OpenSpec.ofChange blockBackWrong)

/-- 'magnetolaw15.BlockTurns': WHATEVER THE INPUT: true; the input reads as it did. -/
def blockTurnsSpec : ChangeSpec := { name := "blockTurns", fn := fun _ => fun
  | [d1, d2, d3] => { results := [.lit (.bool true)], args := [d1, d2, d3] }
  | _ => none }
def blockTurnsRow : OpenClaim := { program := "ytdopdmacdjnpdaa", sum := "87187314d98a21c0db5afca0ec62a72e71556f5f980f01190d923c37c4c35e93", func := "magneto/magnetolaw15.BlockTurns", spec := "blockTurns", unfollowed := true, recurses := true, apart := false }
def BlockTurnsSaid : Prop := blockTurnsRow.holds Try.pinned (OpenSpec.ofChange blockTurnsSpec)

/-- ITS FALSE NEIGHBOUR: 'it returns false'. Refute it at one input. -/
def blockTurnsWrong : ChangeSpec := { name := "blockTurns", fn := fun _ => fun
  | [d1, d2, d3] => { results := [.lit (.bool false)], args := [d1, d2, d3] }
  | _ => none }
def BlockTurnsWrongFalsely : Prop := blockTurnsRow.holds Try.pinned (OpenSpec.ofChange blockTurnsWrong)

/-- 'magnetolaw15.BlockLong': WHATEVER THE INPUT: true; the input reads as it did. -/
def blockLongSpec : ChangeSpec := { name := "blockLong", fn := fun _ => fun
  | [d1, d2] => { results := [.lit (.bool true)], args := [d1, d2] }
  | _ => none }
def blockLongRow : OpenClaim := { program := "ytdopdmacdjnpdaa", sum := "87187314d98a21c0db5afca0ec62a72e71556f5f980f01190d923c37c4c35e93", func := "magneto/magnetolaw15.BlockLong", spec := "blockLong", unfollowed := true, recurses := true, apart := false }
def BlockLongSaid : Prop := blockLongRow.holds Try.pinned (OpenSpec.ofChange blockLongSpec)

/-- ITS FALSE NEIGHBOUR: 'it returns false'. Refute it at one input. -/
def blockLongWrong : ChangeSpec := { name := "blockLong", fn := fun _ => fun
  | [d1, d2] => { results := [.lit (.bool false)], args := [d1, d2] }
  | _ => none }
def BlockLongWrongFalsely : Prop := blockLongRow.holds Try.pinned (OpenSpec.ofChange blockLongWrong)

/-- 'magnetolaw15.BlockRuns': WHATEVER THE INPUT: true; the input reads as it did. -/
def blockRunsSpec : ChangeSpec := { name := "blockRuns", fn := fun _ => fun
  | [d1, d2] => { results := [.lit (.bool true)], args := [d1, d2] }
  | _ => none }
def blockRunsRow : OpenClaim := { program := "ytdopdmacdjnpdaa", sum := "87187314d98a21c0db5afca0ec62a72e71556f5f980f01190d923c37c4c35e93", func := "magneto/magnetolaw15.BlockRuns", spec := "blockRuns", unfollowed := true, recurses := true, apart := false }
def BlockRunsSaid : Prop := blockRunsRow.holds Try.pinned (OpenSpec.ofChange blockRunsSpec)

/-- ITS FALSE NEIGHBOUR: 'it returns false'. Refute it at one input. -/
def blockRunsWrong : ChangeSpec := { name := "blockRuns", fn := fun _ => fun
  | [d1, d2] => { results := [.lit (.bool false)], args := [d1, d2] }
  | _ => none }
def BlockRunsWrongFalsely : Prop := blockRunsRow.holds Try.pinned (OpenSpec.ofChange blockRunsWrong)

/- THE SECOND FORM. 'bulk': how many values and letters a reading holds, each counted each time it is reached (what is shared counts as often as it is met; a slice's spare places count too). A statement '..UptoSaid' is the law's where the arguments, and the package variables that the reading takes, are together of bulk at most 1048576: NARROWER than '..Said'. Prove '..Said' where nothing that the law and all that it calls make is longer than what came in: it says more and counts as full. Else prove '..UptoSaid'. A law counts once. -/
mutual
def uptoBulk {H : Type} : DataW H → Nat
  | .lit (.string bytes) => bytes.length + 1
  | .lit _ => 1
  | .nil => 1
  | .ptr d => uptoBulk d + 1
  | .slice elems spare => uptoBulkAll elems + uptoBulkAll spare + 1
  | .agg parts => uptoBulkAll parts + 1
  | .iface _ d => uptoBulk d + 1
  | .map entries => uptoBulkEntries entries + 1
  | .held _ => 1
def uptoBulkAll {H : Type} : List (DataW H) → Nat
  | [] => 0
  | d :: r => uptoBulk d + uptoBulkAll r
def uptoBulkEntries {H : Type} : List (Lit × DataW H) → Nat
  | [] => 0
  | x :: r => uptoBulkEntry x + uptoBulkEntries r
def uptoBulkEntry {H : Type} : Lit × DataW H → Nat
  | (.string bytes, d) => bytes.length + uptoBulk d + 1
  | (_, d) => uptoBulk d + 1
 end
def uptoSmall : (H : Type) → List (DataW H) → Bool := fun _ ds => decide (uptoBulkAll ds ≤ 1048576)
def OpenSpec.upto (s : _root_.Go.ChangeSpec) : _root_.Go.OpenSpec := { _root_.Go.OpenSpec.ofChange s with cond := some uptoSmall }

/-- 'magnetolaw15.BlockPuts', WHERE WHAT IT READS IS OF BULK AT MOST 1048576: true; the input reads as it did. -/
def blockPutsUptoRow : OpenClaim := { program := "ytdopdmacdjnpdaa", sum := "87187314d98a21c0db5afca0ec62a72e71556f5f980f01190d923c37c4c35e93", func := "magneto/magnetolaw15.BlockPuts", spec := "blockPuts", unfollowed := true, recurses := true, apart := false, narrowed := true }
def BlockPutsUptoSaid : Prop := blockPutsUptoRow.holds Try.pinned (OpenSpec.upto blockPutsSpec)

/-- 'magnetolaw12.TapChecks', WHERE WHAT IT READS IS OF BULK AT MOST 1048576: true; the input reads as it did. -/
def tapChecksUptoRow : OpenClaim := { program := "ytdopdmacdjnpdaa", sum := "87187314d98a21c0db5afca0ec62a72e71556f5f980f01190d923c37c4c35e93", func := "magneto/magnetolaw12.TapChecks", spec := "tapChecks", unfollowed := true, recurses := true, apart := false, narrowed := true }
def TapChecksUptoSaid : Prop := tapChecksUptoRow.holds Try.pinned (OpenSpec.upto tapChecksSpec)

/-- 'magnetolaw12.TapCuts', WHERE WHAT IT READS IS OF BULK AT MOST 1048576: true; the input reads as it did. -/
def tapCutsUptoRow : OpenClaim := { program := "ytdopdmacdjnpdaa", sum := "87187314d98a21c0db5afca0ec62a72e71556f5f980f01190d923c37c4c35e93", func := "magneto/magnetolaw12.TapCuts", spec := "tapCuts", unfollowed := true, recurses := true, apart := false, narrowed := true }
def TapCutsUptoSaid : Prop := tapCutsUptoRow.holds Try.pinned (OpenSpec.upto tapCutsSpec)

/-- 'magnetolaw12.TapLevels', WHERE WHAT IT READS IS OF BULK AT MOST 1048576: true; the input reads as it did. -/
def tapLevelsUptoRow : OpenClaim := { program := "ytdopdmacdjnpdaa", sum := "87187314d98a21c0db5afca0ec62a72e71556f5f980f01190d923c37c4c35e93", func := "magneto/magnetolaw12.TapLevels", spec := "tapLevels", unfollowed := true, recurses := true, apart := false, narrowed := true }
def TapLevelsUptoSaid : Prop := tapLevelsUptoRow.holds Try.pinned (OpenSpec.upto tapLevelsSpec)

/-- 'magnetolaw12.TapJoins', WHERE WHAT IT READS IS OF BULK AT MOST 1048576: true; the input reads as it did. -/
def tapJoinsUptoRow : OpenClaim := { program := "ytdopdmacdjnpdaa", sum := "87187314d98a21c0db5afca0ec62a72e71556f5f980f01190d923c37c4c35e93", func := "magneto/magnetolaw12.TapJoins", spec := "tapJoins", unfollowed := true, recurses := true, apart := false, narrowed := true }
def TapJoinsUptoSaid : Prop := tapJoinsUptoRow.holds Try.pinned (OpenSpec.upto tapJoinsSpec)

/-- 'magnetolaw12.TapWired', WHERE WHAT IT READS IS OF BULK AT MOST 1048576: true; the input reads as it did. -/
def tapWiredUptoRow : OpenClaim := { program := "ytdopdmacdjnpdaa", sum := "87187314d98a21c0db5afca0ec62a72e71556f5f980f01190d923c37c4c35e93", func := "magneto/magnetolaw12.TapWired", spec := "tapWired", unfollowed := true, recurses := true, apart := false, narrowed := true }
def TapWiredUptoSaid : Prop := tapWiredUptoRow.holds Try.pinned (OpenSpec.upto tapWiredSpec)

/-- 'magnetolaw12.TapLong', WHERE WHAT IT READS IS OF BULK AT MOST 1048576: true; the input reads as it did. -/
def tapLongUptoRow : OpenClaim := { program := "ytdopdmacdjnpdaa", sum := "87187314d98a21c0db5afca0ec62a72e71556f5f980f01190d923c37c4c35e93", func := "magneto/magnetolaw12.TapLong", spec := "tapLong", unfollowed := true, recurses := true, apart := false, narrowed := true }
def TapLongUptoSaid : Prop := tapLongUptoRow.holds Try.pinned (OpenSpec.upto tapLongSpec)

/-- 'magnetolaw15.BlockGets', WHERE WHAT IT READS IS OF BULK AT MOST 1048576: true; the input reads as it did. -/
def blockGetsUptoRow : OpenClaim := { program := "ytdopdmacdjnpdaa", sum := "87187314d98a21c0db5afca0ec62a72e71556f5f980f01190d923c37c4c35e93", func := "magneto/magnetolaw15.BlockGets", spec := "blockGets", unfollowed := true, recurses := true, apart := false, narrowed := true }
def BlockGetsUptoSaid : Prop := blockGetsUptoRow.holds Try.pinned (OpenSpec.upto blockGetsSpec)

/-- 'magnetolaw15.BlockBack', WHERE WHAT IT READS IS OF BULK AT MOST 1048576: true; the input reads as it did. -/
def blockBackUptoRow : OpenClaim := { program := "ytdopdmacdjnpdaa", sum := "87187314d98a21c0db5afca0ec62a72e71556f5f980f01190d923c37c4c35e93", func := "magneto/magnetolaw15.BlockBack", spec := "blockBack", unfollowed := true, recurses := true, apart := false, narrowed := true }
def BlockBackUptoSaid : Prop := blockBackUptoRow.holds Try.pinned (OpenSpec.upto blockBackSpec)

/-- 'magnetolaw15.BlockTurns', WHERE WHAT IT READS IS OF BULK AT MOST 1048576: true; the input reads as it did. -/
def blockTurnsUptoRow : OpenClaim := { program := "ytdopdmacdjnpdaa", sum := "87187314d98a21c0db5afca0ec62a72e71556f5f980f01190d923c37c4c35e93", func := "magneto/magnetolaw15.BlockTurns", spec := "blockTurns", unfollowed := true, recurses := true, apart := false, narrowed := true }
def BlockTurnsUptoSaid : Prop := blockTurnsUptoRow.holds Try.pinned (OpenSpec.upto blockTurnsSpec)

/-- 'magnetolaw15.BlockLong', WHERE WHAT IT READS IS OF BULK AT MOST 1048576: true; the input reads as it did. -/
def blockLongUptoRow : OpenClaim := { program := "ytdopdmacdjnpdaa", sum := "87187314d98a21c0db5afca0ec62a72e71556f5f980f01190d923c37c4c35e93", func := "magneto/magnetolaw15.BlockLong", spec := "blockLong", unfollowed := true, recurses := true, apart := false, narrowed := true }
def BlockLongUptoSaid : Prop := blockLongUptoRow.holds Try.pinned (OpenSpec.upto blockLongSpec)

/-- 'magnetolaw15.BlockRuns', WHERE WHAT IT READS IS OF BULK AT MOST 1048576: true; the input reads as it did. -/
def blockRunsUptoRow : OpenClaim := { program := "ytdopdmacdjnpdaa", sum := "87187314d98a21c0db5afca0ec62a72e71556f5f980f01190d923c37c4c35e93", func := "magneto/magnetolaw15.BlockRuns", spec := "blockRuns", unfollowed := true, recurses := true, apart := false, narrowed := true }
def BlockRunsUptoSaid : Prop := blockRunsUptoRow.holds Try.pinned (OpenSpec.upto blockRunsSpec)

end Rows
end Go.Proofs.Ytdopdmacdjnpdaa
