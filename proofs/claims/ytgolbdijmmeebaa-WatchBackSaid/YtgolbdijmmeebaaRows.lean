/-
  No cell of these rows narrows 'for every input' (looked for: loops, veiled, ifaces, maps, wideKeys, modest, calm, conditions, laid).
  DERIVED. THE GIVEN ROWS OF THIS SEAT. 7 by the template 'for every input the law returns true; each argument reads behind the call as it read before'; 0 by the template 'total and deterministic' (their statements: YtgolbdijmmeebaaTotals.lean).
  GIVEN WITH THE SEED: the statements are not yours to turn. If you find one false, say at which input.
  Laid BY PROGRAM, IN A SANDBOX (cutbox-rows.mjs): the forced cells as the released guide's own fill.sh prints them over the translation fecc8b2ad49cfd37… (all of the seat's roots in one cut). By AI agents, Wed Nov 11 2026. No macro, syntax, notation, axiom, sorry.
-/
import Derived.Test.YtgolbdijmmeebaaChecked
import GoSem.Claim
import GoSem.ClaimJoined
import GoSem.ClaimMapViews
import Derived.JoinedTies
import Derived.KernelRfl
namespace Go.Proofs.Ytgolbdijmmeebaa
/- THE CELL 'sum', in the pinned program and in every row, IS THE sha256 OF THE DUMP (.gsa) THAT YtgolbdijmmeebaaProg.lean LOADS. Nothing in Lean hashes anything: it is a label: what it is worth is what the hold of that sum in a sandbox is worth. -/
noncomputable def Try.pinned : Pinned := { name := "ytgolbdijmmeebaa", sum := "fecc8b2ad49cfd3773d736ca9805f946033c31d394a780b930e97569b5a47877", checked := Try.checked }
namespace Rows
def none {H : Type} : Left H := { results := [], args := [] }

/-- 'magnetolaw22.DriveFrames': WHATEVER THE INPUT: true; the input reads as it did. -/
def driveFramesSpec : ChangeSpec := { name := "driveFrames", fn := fun _ => fun
  | [d1, d2, d3] => { results := [.lit (.bool true)], args := [d1, d2, d3] }
  | _ => none }
def driveFramesRow : OpenClaim := { program := "ytgolbdijmmeebaa", sum := "fecc8b2ad49cfd3773d736ca9805f946033c31d394a780b930e97569b5a47877", func := "magneto/magnetolaw22.DriveFrames", spec := "driveFrames", unfollowed := true, recurses := true, apart := false }
def DriveFramesSaid : Prop := driveFramesRow.holds Try.pinned (OpenSpec.ofChange driveFramesSpec)

/-- ITS FALSE NEIGHBOUR: 'it returns false'. Refute it at one input. -/
def driveFramesWrong : ChangeSpec := { name := "driveFrames", fn := fun _ => fun
  | [d1, d2, d3] => { results := [.lit (.bool false)], args := [d1, d2, d3] }
  | _ => none }
def DriveFramesWrongFalsely : Prop := driveFramesRow.holds Try.pinned (OpenSpec.ofChange driveFramesWrong)

/-- 'magnetolaw17.LogPlays': WHATEVER THE INPUT: true; the input reads as it did. -/
def logPlaysSpec : ChangeSpec := { name := "logPlays", fn := fun _ => fun
  | [d1, d2] => { results := [.lit (.bool true)], args := [d1, d2] }
  | _ => none }
def logPlaysRow : OpenClaim := { program := "ytgolbdijmmeebaa", sum := "fecc8b2ad49cfd3773d736ca9805f946033c31d394a780b930e97569b5a47877", func := "magneto/magnetolaw17.LogPlays", spec := "logPlays", unfollowed := true, recurses := true, apart := false }
def LogPlaysSaid : Prop := logPlaysRow.holds Try.pinned (OpenSpec.ofChange logPlaysSpec)

/-- ITS FALSE NEIGHBOUR: 'it returns false'. Refute it at one input. -/
def logPlaysWrong : ChangeSpec := { name := "logPlays", fn := fun _ => fun
  | [d1, d2] => { results := [.lit (.bool false)], args := [d1, d2] }
  | _ => none }
def LogPlaysWrongFalsely : Prop := logPlaysRow.holds Try.pinned (OpenSpec.ofChange logPlaysWrong)

/-- 'magnetolaw17.LogRecovers': WHATEVER THE INPUT: true; the input reads as it did. -/
def logRecoversSpec : ChangeSpec := { name := "logRecovers", fn := fun _ => fun
  | [d1, d2, d3] => { results := [.lit (.bool true)], args := [d1, d2, d3] }
  | _ => none }
def logRecoversRow : OpenClaim := { program := "ytgolbdijmmeebaa", sum := "fecc8b2ad49cfd3773d736ca9805f946033c31d394a780b930e97569b5a47877", func := "magneto/magnetolaw17.LogRecovers", spec := "logRecovers", unfollowed := true, recurses := true, apart := false }
def LogRecoversSaid : Prop := logRecoversRow.holds Try.pinned (OpenSpec.ofChange logRecoversSpec)

/-- ITS FALSE NEIGHBOUR: 'it returns false'. Refute it at one input. -/
def logRecoversWrong : ChangeSpec := { name := "logRecovers", fn := fun _ => fun
  | [d1, d2, d3] => { results := [.lit (.bool false)], args := [d1, d2, d3] }
  | _ => none }
def LogRecoversWrongFalsely : Prop := logRecoversRow.holds Try.pinned (OpenSpec.ofChange logRecoversWrong)

/-- 'magnetolaw19.WatchBehind': WHATEVER THE INPUT: true; the input reads as it did. -/
def watchBehindSpec : ChangeSpec := { name := "watchBehind", fn := fun _ => fun
  | [d] => { results := [.lit (.bool true)], args := [d] }
  | _ => none }
def watchBehindRow : OpenClaim := { program := "ytgolbdijmmeebaa", sum := "fecc8b2ad49cfd3773d736ca9805f946033c31d394a780b930e97569b5a47877", func := "magneto/magnetolaw19.WatchBehind", spec := "watchBehind", unfollowed := true, recurses := true, apart := false }
def WatchBehindSaid : Prop := watchBehindRow.holds Try.pinned (OpenSpec.ofChange watchBehindSpec)

/-- ITS FALSE NEIGHBOUR: 'it returns false'. Refute it at one input. -/
def watchBehindWrong : ChangeSpec := { name := "watchBehind", fn := fun _ => fun
  | [d] => { results := [.lit (.bool false)], args := [d] }
  | _ => none }
def WatchBehindWrongFalsely : Prop := watchBehindRow.holds Try.pinned (OpenSpec.ofChange watchBehindWrong)

/-- 'magnetolaw19.WatchOne': WHATEVER THE INPUT: true; the input reads as it did. -/
def watchOneSpec : ChangeSpec := { name := "watchOne", fn := fun _ => fun
  | [d1, d2] => { results := [.lit (.bool true)], args := [d1, d2] }
  | _ => none }
def watchOneRow : OpenClaim := { program := "ytgolbdijmmeebaa", sum := "fecc8b2ad49cfd3773d736ca9805f946033c31d394a780b930e97569b5a47877", func := "magneto/magnetolaw19.WatchOne", spec := "watchOne", unfollowed := true, recurses := true, apart := false }
def WatchOneSaid : Prop := watchOneRow.holds Try.pinned (OpenSpec.ofChange watchOneSpec)

/-- ITS FALSE NEIGHBOUR: 'it returns false'. Refute it at one input. -/
def watchOneWrong : ChangeSpec := { name := "watchOne", fn := fun _ => fun
  | [d1, d2] => { results := [.lit (.bool false)], args := [d1, d2] }
  | _ => none }
def WatchOneWrongFalsely : Prop := watchOneRow.holds Try.pinned (OpenSpec.ofChange watchOneWrong)

/-- 'magnetolaw19.WatchSees': WHATEVER THE INPUT: true; the input reads as it did. -/
def watchSeesSpec : ChangeSpec := { name := "watchSees", fn := fun _ => fun
  | [d] => { results := [.lit (.bool true)], args := [d] }
  | _ => none }
def watchSeesRow : OpenClaim := { program := "ytgolbdijmmeebaa", sum := "fecc8b2ad49cfd3773d736ca9805f946033c31d394a780b930e97569b5a47877", func := "magneto/magnetolaw19.WatchSees", spec := "watchSees", unfollowed := true, recurses := true, apart := false }
def WatchSeesSaid : Prop := watchSeesRow.holds Try.pinned (OpenSpec.ofChange watchSeesSpec)

/-- ITS FALSE NEIGHBOUR: 'it returns false'. Refute it at one input. -/
def watchSeesWrong : ChangeSpec := { name := "watchSees", fn := fun _ => fun
  | [d] => { results := [.lit (.bool false)], args := [d] }
  | _ => none }
def WatchSeesWrongFalsely : Prop := watchSeesRow.holds Try.pinned (OpenSpec.ofChange watchSeesWrong)

/-- 'magnetolaw19.WatchBack': WHATEVER THE INPUT: true; the input reads as it did. -/
def watchBackSpec : ChangeSpec := { name := "watchBack", fn := fun _ => fun
  | [d1, d2] => { results := [.lit (.bool true)], args := [d1, d2] }
  | _ => none }
def watchBackRow : OpenClaim := { program := "ytgolbdijmmeebaa", sum := "fecc8b2ad49cfd3773d736ca9805f946033c31d394a780b930e97569b5a47877", func := "magneto/magnetolaw19.WatchBack", spec := "watchBack", unfollowed := true, recurses := true, apart := false }
def WatchBackSaid : Prop := watchBackRow.holds Try.pinned (OpenSpec.ofChange watchBackSpec)

/-- ITS FALSE NEIGHBOUR: 'it returns false'. Refute it at one input. -/
def watchBackWrong : ChangeSpec := { name := "watchBack", fn := fun _ => fun
  | [d1, d2] => { results := [.lit (.bool false)], args := [d1, d2] }
  | _ => none }
def WatchBackWrongFalsely : Prop := watchBackRow.holds Try.pinned (OpenSpec.ofChange watchBackWrong)

/- THE SECOND FORM. 'bulk': how many values and letters a reading holds, each counted each time it is reached (what is shared counts as often as it is met; a slice's spare places count too). A statement '..UptoSaid' is the law's where the arguments, and the package variables that the reading takes, are together of bulk at most 1048576: NARROWER than '..Said'. Prove '..Said' where nothing that the law and all that it calls make is longer than what came in: it says more and counts as full. Else prove '..UptoSaid'. A law counts once. -/
mutual
def uptoBulk {H : Type} : DataW H → Nat
  | .lit (.string bytes) => bytes.length + 1
  | .lit _ => 1
  | .nil => 1
  | .ptr d => uptoBulk d + 1
  | .slice elems spare => uptoBulkAll elems + uptoBulkAll spare + 1
  | .agg parts => uptoBulkAll parts + 1
  | .iface _ d => uptoBulk d + 1
  | .map entries => uptoBulkEntries entries + 1
  | .held _ => 1
def uptoBulkAll {H : Type} : List (DataW H) → Nat
  | [] => 0
  | d :: r => uptoBulk d + uptoBulkAll r
def uptoBulkEntries {H : Type} : List (Lit × DataW H) → Nat
  | [] => 0
  | x :: r => uptoBulkEntry x + uptoBulkEntries r
def uptoBulkEntry {H : Type} : Lit × DataW H → Nat
  | (.string bytes, d) => bytes.length + uptoBulk d + 1
  | (_, d) => uptoBulk d + 1
 end
def uptoSmall : (H : Type) → List (DataW H) → Bool := fun _ ds => decide (uptoBulkAll ds ≤ 1048576)
def OpenSpec.upto (s : _root_.Go.ChangeSpec) : _root_.Go.OpenSpec := { _root_.Go.OpenSpec.ofChange s with cond := some uptoSmall }

/-- 'magnetolaw22.DriveFrames', WHERE WHAT IT READS IS OF BULK AT MOST 1048576: true; the input reads as it did. -/
def driveFramesUptoRow : OpenClaim := { program := "ytgolbdijmmeebaa", sum := "fecc8b2ad49cfd3773d736ca9805f946033c31d394a780b930e97569b5a47877", func := "magneto/magnetolaw22.DriveFrames", spec := "driveFrames", unfollowed := true, recurses := true, apart := false, narrowed := true }
def DriveFramesUptoSaid : Prop := driveFramesUptoRow.holds Try.pinned (OpenSpec.upto driveFramesSpec)

/-- 'magnetolaw17.LogPlays', WHERE WHAT IT READS IS OF BULK AT MOST 1048576: true; the input reads as it did. -/
def logPlaysUptoRow : OpenClaim := { program := "ytgolbdijmmeebaa", sum := "fecc8b2ad49cfd3773d736ca9805f946033c31d394a780b930e97569b5a47877", func := "magneto/magnetolaw17.LogPlays", spec := "logPlays", unfollowed := true, recurses := true, apart := false, narrowed := true }
def LogPlaysUptoSaid : Prop := logPlaysUptoRow.holds Try.pinned (OpenSpec.upto logPlaysSpec)

/-- 'magnetolaw17.LogRecovers', WHERE WHAT IT READS IS OF BULK AT MOST 1048576: true; the input reads as it did. -/
def logRecoversUptoRow : OpenClaim := { program := "ytgolbdijmmeebaa", sum := "fecc8b2ad49cfd3773d736ca9805f946033c31d394a780b930e97569b5a47877", func := "magneto/magnetolaw17.LogRecovers", spec := "logRecovers", unfollowed := true, recurses := true, apart := false, narrowed := true }
def LogRecoversUptoSaid : Prop := logRecoversUptoRow.holds Try.pinned (OpenSpec.upto logRecoversSpec)

/-- 'magnetolaw19.WatchBehind', WHERE WHAT IT READS IS OF BULK AT MOST 1048576: true; the input reads as it did. -/
def watchBehindUptoRow : OpenClaim := { program := "ytgolbdijmmeebaa", sum := "fecc8b2ad49cfd3773d736ca9805f946033c31d394a780b930e97569b5a47877", func := "magneto/magnetolaw19.WatchBehind", spec := "watchBehind", unfollowed := true, recurses := true, apart := false, narrowed := true }
def WatchBehindUptoSaid : Prop := watchBehindUptoRow.holds Try.pinned (OpenSpec.upto watchBehindSpec)

/-- 'magnetolaw19.WatchOne', WHERE WHAT IT READS IS OF BULK AT MOST 1048576: true; the input reads as it did. -/
def watchOneUptoRow : OpenClaim := { program := "ytgolbdijmmeebaa", sum := "fecc8b2ad49cfd3773d736ca9805f946033c31d394a780b930e97569b5a47877", func := "magneto/magnetolaw19.WatchOne", spec := "watchOne", unfollowed := true, recurses := true, apart := false, narrowed := true }
def WatchOneUptoSaid : Prop := watchOneUptoRow.holds Try.pinned (OpenSpec.upto watchOneSpec)

/-- 'magnetolaw19.WatchSees', WHERE WHAT IT READS IS OF BULK AT MOST 1048576: true; the input reads as it did. -/
def watchSeesUptoRow : OpenClaim := { program := "ytgolbdijmmeebaa", sum := "fecc8b2ad49cfd3773d736ca9805f946033c31d394a780b930e97569b5a47877", func := "magneto/magnetolaw19.WatchSees", spec := "watchSees", unfollowed := true, recurses := true, apart := false, narrowed := true }
def WatchSeesUptoSaid : Prop := watchSeesUptoRow.holds Try.pinned (OpenSpec.upto watchSeesSpec)

/-- 'magnetolaw19.WatchBack', WHERE WHAT IT READS IS OF BULK AT MOST 1048576: true; the input reads as it did. -/
def watchBackUptoRow : OpenClaim := { program := "ytgolbdijmmeebaa", sum := "fecc8b2ad49cfd3773d736ca9805f946033c31d394a780b930e97569b5a47877", func := "magneto/magnetolaw19.WatchBack", spec := "watchBack", unfollowed := true, recurses := true, apart := false, narrowed := true }
def WatchBackUptoSaid : Prop := watchBackUptoRow.holds Try.pinned (OpenSpec.upto watchBackSpec)

end Rows
end Go.Proofs.Ytgolbdijmmeebaa
