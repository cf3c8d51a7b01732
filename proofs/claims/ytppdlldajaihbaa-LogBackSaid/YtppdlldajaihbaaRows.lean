/-
  No cell of these rows narrows 'for every input' (looked for: loops, veiled, ifaces, maps, wideKeys, modest, calm, conditions, laid).
  DERIVED. THE GIVEN ROWS OF THIS SEAT. 12 by the template 'for every input the law returns true; each argument reads behind the call as it read before'; 0 by the template 'total and deterministic' (their statements: YtppdlldajaihbaaTotals.lean).
  GIVEN WITH THE SEED: the statements are not yours to turn. If you find one false, say at which input.
  Laid BY PROGRAM, IN A SANDBOX (cutbox-rows.mjs): the forced cells as the released guide's own fill.sh prints them over the translation 4235d64c7b4bd9a8… (all of the seat's roots in one cut). By AI agents, Wed Nov 11 2026. No macro, syntax, notation, axiom, sorry.
-/
import Derived.Test.YtppdlldajaihbaaChecked
import GoSem.Claim
import GoSem.ClaimJoined
import GoSem.ClaimMapViews
import Derived.JoinedTies
import Derived.KernelRfl
namespace Go.Proofs.Ytppdlldajaihbaa
/- THE CELL 'sum', in the pinned program and in every row, IS THE sha256 OF THE DUMP (.gsa) THAT YtppdlldajaihbaaProg.lean LOADS. Nothing in Lean hashes anything: it is a label: what it is worth is what the hold of that sum in a sandbox is worth. -/
noncomputable def Try.pinned : Pinned := { name := "ytppdlldajaihbaa", sum := "4235d64c7b4bd9a879eccfcbd0c2ba887a684f9358961c674b6916821aa3ead6", checked := Try.checked }
namespace Rows
def none {H : Type} : Left H := { results := [], args := [] }

/-- 'magnetolaw18.SeekOfs': WHATEVER THE INPUT: true; the input reads as it did. -/
def seekOfsSpec : ChangeSpec := { name := "seekOfs", fn := fun _ => fun
  | [d] => { results := [.lit (.bool true)], args := [d] }
  | _ => none }
def seekOfsRow : OpenClaim := { program := "ytppdlldajaihbaa", sum := "4235d64c7b4bd9a879eccfcbd0c2ba887a684f9358961c674b6916821aa3ead6", func := "magneto/magnetolaw18.SeekOfs", spec := "seekOfs", unfollowed := true, recurses := true, apart := false }
def SeekOfsSaid : Prop := seekOfsRow.holds Try.pinned (OpenSpec.ofChange seekOfsSpec)

/-- ITS FALSE NEIGHBOUR: 'it returns false'. Refute it at one input. -/
def seekOfsWrong : ChangeSpec := { name := "seekOfs", fn := fun _ => fun
  | [d] => { results := [.lit (.bool false)], args := [d] }
  | _ => none }
def SeekOfsWrongFalsely : Prop := seekOfsRow.holds Try.pinned (OpenSpec.ofChange seekOfsWrong)

/-- 'magnetolaw18.SeekBack': WHATEVER THE INPUT: true; the input reads as it did. -/
def seekBackSpec : ChangeSpec := { name := "seekBack", fn := fun _ => fun
  | [d1, d2] => { results := [.lit (.bool true)], args := [d1, d2] }
  | _ => none }
def seekBackRow : OpenClaim := { program := "ytppdlldajaihbaa", sum := "4235d64c7b4bd9a879eccfcbd0c2ba887a684f9358961c674b6916821aa3ead6", func := "magneto/magnetolaw18.SeekBack", spec := "seekBack", unfollowed := true, recurses := true, apart := false }
def SeekBackSaid : Prop := seekBackRow.holds Try.pinned (OpenSpec.ofChange seekBackSpec)

/-- ITS FALSE NEIGHBOUR: 'it returns false'. Refute it at one input. -/
def seekBackWrong : ChangeSpec := { name := "seekBack", fn := fun _ => fun
  | [d1, d2] => { results := [.lit (.bool false)], args := [d1, d2] }
  | _ => none }
def SeekBackWrongFalsely : Prop := seekBackRow.holds Try.pinned (OpenSpec.ofChange seekBackWrong)

/-- 'magnetolaw18.SeekFinds': WHATEVER THE INPUT: true; the input reads as it did. -/
def seekFindsSpec : ChangeSpec := { name := "seekFinds", fn := fun _ => fun
  | [d1, d2, d3] => { results := [.lit (.bool true)], args := [d1, d2, d3] }
  | _ => none }
def seekFindsRow : OpenClaim := { program := "ytppdlldajaihbaa", sum := "4235d64c7b4bd9a879eccfcbd0c2ba887a684f9358961c674b6916821aa3ead6", func := "magneto/magnetolaw18.SeekFinds", spec := "seekFinds", unfollowed := true, recurses := true, apart := false }
def SeekFindsSaid : Prop := seekFindsRow.holds Try.pinned (OpenSpec.ofChange seekFindsSpec)

/-- ITS FALSE NEIGHBOUR: 'it returns false'. Refute it at one input. -/
def seekFindsWrong : ChangeSpec := { name := "seekFinds", fn := fun _ => fun
  | [d1, d2, d3] => { results := [.lit (.bool false)], args := [d1, d2, d3] }
  | _ => none }
def SeekFindsWrongFalsely : Prop := seekFindsRow.holds Try.pinned (OpenSpec.ofChange seekFindsWrong)

/-- 'magnetolaw22.DriveAt': WHATEVER THE INPUT: true; the input reads as it did. -/
def driveAtSpec : ChangeSpec := { name := "driveAt", fn := fun _ => fun
  | [d1, d2] => { results := [.lit (.bool true)], args := [d1, d2] }
  | _ => none }
def driveAtRow : OpenClaim := { program := "ytppdlldajaihbaa", sum := "4235d64c7b4bd9a879eccfcbd0c2ba887a684f9358961c674b6916821aa3ead6", func := "magneto/magnetolaw22.DriveAt", spec := "driveAt", unfollowed := true, recurses := true, apart := false }
def DriveAtSaid : Prop := driveAtRow.holds Try.pinned (OpenSpec.ofChange driveAtSpec)

/-- ITS FALSE NEIGHBOUR: 'it returns false'. Refute it at one input. -/
def driveAtWrong : ChangeSpec := { name := "driveAt", fn := fun _ => fun
  | [d1, d2] => { results := [.lit (.bool false)], args := [d1, d2] }
  | _ => none }
def DriveAtWrongFalsely : Prop := driveAtRow.holds Try.pinned (OpenSpec.ofChange driveAtWrong)

/-- 'magnetolaw22.DriveOf': WHATEVER THE INPUT: true; the input reads as it did. -/
def driveOfSpec : ChangeSpec := { name := "driveOf", fn := fun _ => fun
  | [d1, d2, d3] => { results := [.lit (.bool true)], args := [d1, d2, d3] }
  | _ => none }
def driveOfRow : OpenClaim := { program := "ytppdlldajaihbaa", sum := "4235d64c7b4bd9a879eccfcbd0c2ba887a684f9358961c674b6916821aa3ead6", func := "magneto/magnetolaw22.DriveOf", spec := "driveOf", unfollowed := true, recurses := true, apart := false }
def DriveOfSaid : Prop := driveOfRow.holds Try.pinned (OpenSpec.ofChange driveOfSpec)

/-- ITS FALSE NEIGHBOUR: 'it returns false'. Refute it at one input. -/
def driveOfWrong : ChangeSpec := { name := "driveOf", fn := fun _ => fun
  | [d1, d2, d3] => { results := [.lit (.bool false)], args := [d1, d2, d3] }
  | _ => none }
def DriveOfWrongFalsely : Prop := driveOfRow.holds Try.pinned (OpenSpec.ofChange driveOfWrong)

/-- 'magnetolaw22.DriveFrames': WHATEVER THE INPUT: true; the input reads as it did. -/
def driveFramesSpec : ChangeSpec := { name := "driveFrames", fn := fun _ => fun
  | [d1, d2, d3] => { results := [.lit (.bool true)], args := [d1, d2, d3] }
  | _ => none }
def driveFramesRow : OpenClaim := { program := "ytppdlldajaihbaa", sum := "4235d64c7b4bd9a879eccfcbd0c2ba887a684f9358961c674b6916821aa3ead6", func := "magneto/magnetolaw22.DriveFrames", spec := "driveFrames", unfollowed := true, recurses := true, apart := false }
def DriveFramesSaid : Prop := driveFramesRow.holds Try.pinned (OpenSpec.ofChange driveFramesSpec)

/-- ITS FALSE NEIGHBOUR: 'it returns false'. Refute it at one input. -/
def driveFramesWrong : ChangeSpec := { name := "driveFrames", fn := fun _ => fun
  | [d1, d2, d3] => { results := [.lit (.bool false)], args := [d1, d2, d3] }
  | _ => none }
def DriveFramesWrongFalsely : Prop := driveFramesRow.holds Try.pinned (OpenSpec.ofChange driveFramesWrong)

/-- 'magnetolaw18.SeekWhole': WHATEVER THE INPUT: true; the input reads as it did. -/
def seekWholeSpec : ChangeSpec := { name := "seekWhole", fn := fun _ => fun
  | [d1, d2, d3] => { results := [.lit (.bool true)], args := [d1, d2, d3] }
  | _ => none }
def seekWholeRow : OpenClaim := { program := "ytppdlldajaihbaa", sum := "4235d64c7b4bd9a879eccfcbd0c2ba887a684f9358961c674b6916821aa3ead6", func := "magneto/magnetolaw18.SeekWhole", spec := "seekWhole", unfollowed := true, recurses := true, apart := false }
def SeekWholeSaid : Prop := seekWholeRow.holds Try.pinned (OpenSpec.ofChange seekWholeSpec)

/-- ITS FALSE NEIGHBOUR: 'it returns false'. Refute it at one input. -/
def seekWholeWrong : ChangeSpec := { name := "seekWhole", fn := fun _ => fun
  | [d1, d2, d3] => { results := [.lit (.bool false)], args := [d1, d2, d3] }
  | _ => none }
def SeekWholeWrongFalsely : Prop := seekWholeRow.holds Try.pinned (OpenSpec.ofChange seekWholeWrong)

/-- 'magnetolaw22.DriveMasks': WHATEVER THE INPUT: true; the input reads as it did. -/
def driveMasksSpec : ChangeSpec := { name := "driveMasks", fn := fun _ => fun
  | [d1, d2] => { results := [.lit (.bool true)], args := [d1, d2] }
  | _ => none }
def driveMasksRow : OpenClaim := { program := "ytppdlldajaihbaa", sum := "4235d64c7b4bd9a879eccfcbd0c2ba887a684f9358961c674b6916821aa3ead6", func := "magneto/magnetolaw22.DriveMasks", spec := "driveMasks", unfollowed := true, recurses := true, apart := false }
def DriveMasksSaid : Prop := driveMasksRow.holds Try.pinned (OpenSpec.ofChange driveMasksSpec)

/-- ITS FALSE NEIGHBOUR: 'it returns false'. Refute it at one input. -/
def driveMasksWrong : ChangeSpec := { name := "driveMasks", fn := fun _ => fun
  | [d1, d2] => { results := [.lit (.bool false)], args := [d1, d2] }
  | _ => none }
def DriveMasksWrongFalsely : Prop := driveMasksRow.holds Try.pinned (OpenSpec.ofChange driveMasksWrong)

/-- 'magnetolaw18.SeekOwn': WHATEVER THE INPUT: true; the input reads as it did. -/
def seekOwnSpec : ChangeSpec := { name := "seekOwn", fn := fun _ => fun
  | [d1, d2, d3] => { results := [.lit (.bool true)], args := [d1, d2, d3] }
  | _ => none }
def seekOwnRow : OpenClaim := { program := "ytppdlldajaihbaa", sum := "4235d64c7b4bd9a879eccfcbd0c2ba887a684f9358961c674b6916821aa3ead6", func := "magneto/magnetolaw18.SeekOwn", spec := "seekOwn", unfollowed := true, recurses := true, apart := false }
def SeekOwnSaid : Prop := seekOwnRow.holds Try.pinned (OpenSpec.ofChange seekOwnSpec)

/-- ITS FALSE NEIGHBOUR: 'it returns false'. Refute it at one input. -/
def seekOwnWrong : ChangeSpec := { name := "seekOwn", fn := fun _ => fun
  | [d1, d2, d3] => { results := [.lit (.bool false)], args := [d1, d2, d3] }
  | _ => none }
def SeekOwnWrongFalsely : Prop := seekOwnRow.holds Try.pinned (OpenSpec.ofChange seekOwnWrong)

/-- 'magnetolaw17.LogScans': WHATEVER THE INPUT: true; the input reads as it did. -/
def logScansSpec : ChangeSpec := { name := "logScans", fn := fun _ => fun
  | [d1, d2] => { results := [.lit (.bool true)], args := [d1, d2] }
  | _ => none }
def logScansRow : OpenClaim := { program := "ytppdlldajaihbaa", sum := "4235d64c7b4bd9a879eccfcbd0c2ba887a684f9358961c674b6916821aa3ead6", func := "magneto/magnetolaw17.LogScans", spec := "logScans", unfollowed := true, recurses := true, apart := false }
def LogScansSaid : Prop := logScansRow.holds Try.pinned (OpenSpec.ofChange logScansSpec)

/-- ITS FALSE NEIGHBOUR: 'it returns false'. Refute it at one input. -/
def logScansWrong : ChangeSpec := { name := "logScans", fn := fun _ => fun
  | [d1, d2] => { results := [.lit (.bool false)], args := [d1, d2] }
  | _ => none }
def LogScansWrongFalsely : Prop := logScansRow.holds Try.pinned (OpenSpec.ofChange logScansWrong)

/-- 'magnetolaw17.LogPlays': WHATEVER THE INPUT: true; the input reads as it did. -/
def logPlaysSpec : ChangeSpec := { name := "logPlays", fn := fun _ => fun
  | [d1, d2] => { results := [.lit (.bool true)], args := [d1, d2] }
  | _ => none }
def logPlaysRow : OpenClaim := { program := "ytppdlldajaihbaa", sum := "4235d64c7b4bd9a879eccfcbd0c2ba887a684f9358961c674b6916821aa3ead6", func := "magneto/magnetolaw17.LogPlays", spec := "logPlays", unfollowed := true, recurses := true, apart := false }
def LogPlaysSaid : Prop := logPlaysRow.holds Try.pinned (OpenSpec.ofChange logPlaysSpec)

/-- ITS FALSE NEIGHBOUR: 'it returns false'. Refute it at one input. -/
def logPlaysWrong : ChangeSpec := { name := "logPlays", fn := fun _ => fun
  | [d1, d2] => { results := [.lit (.bool false)], args := [d1, d2] }
  | _ => none }
def LogPlaysWrongFalsely : Prop := logPlaysRow.holds Try.pinned (OpenSpec.ofChange logPlaysWrong)

/-- 'magnetolaw17.LogBack': WHATEVER THE INPUT: true; the input reads as it did. -/
def logBackSpec : ChangeSpec := { name := "logBack", fn := fun _ => fun
  | [d1, d2] => { results := [.lit (.bool true)], args := [d1, d2] }
  | _ => none }
def logBackRow : OpenClaim := { program := "ytppdlldajaihbaa", sum := "4235d64c7b4bd9a879eccfcbd0c2ba887a684f9358961c674b6916821aa3ead6", func := "magneto/magnetolaw17.LogBack", spec := "logBack", unfollowed := true, recurses := true, apart := false }
def LogBackSaid : Prop := logBackRow.holds Try.pinned (OpenSpec.ofChange logBackSpec)

/-- ITS FALSE NEIGHBOUR: 'it returns false'. Refute it at one input. -/
def logBackWrong : ChangeSpec := { name := "logBack", fn := fun _ => fun
  | [d1, d2] => { results := [.lit (.bool false)], args := [d1, d2] }
  | _ => none }
def LogBackWrongFalsely : Prop := logBackRow.holds Try.pinned (OpenSpec.ofChange logBackWrong)

/- THE SECOND FORM. 'bulk': how many values and letters a reading holds, each counted each time it is reached (what is shared counts as often as it is met; a slice's spare places count too). A statement '..UptoSaid' is the law's where the arguments, and the package variables that the reading takes, are together of bulk at most 1048576: NARROWER than '..Said'. Prove '..Said' where nothing that the law and all that it calls make is longer than what came in: it says more and counts as full. Else prove '..UptoSaid'. A law counts once. -/
mutual
def uptoBulk {H : Type} : DataW H → Nat
  | .lit (.string bytes) => bytes.length + 1
  | .lit _ => 1
  | .nil => 1
  | .ptr d => uptoBulk d + 1
  | .slice elems spare => uptoBulkAll elems + uptoBulkAll spare + 1
  | .agg parts => uptoBulkAll parts + 1
  | .iface _ d => uptoBulk d + 1
  | .map entries => uptoBulkEntries entries + 1
  | .held _ => 1
def uptoBulkAll {H : Type} : List (DataW H) → Nat
  | [] => 0
  | d :: r => uptoBulk d + uptoBulkAll r
def uptoBulkEntries {H : Type} : List (Lit × DataW H) → Nat
  | [] => 0
  | x :: r => uptoBulkEntry x + uptoBulkEntries r
def uptoBulkEntry {H : Type} : Lit × DataW H → Nat
  | (.string bytes, d) => bytes.length + uptoBulk d + 1
  | (_, d) => uptoBulk d + 1
 end
def uptoSmall : (H : Type) → List (DataW H) → Bool := fun _ ds => decide (uptoBulkAll ds ≤ 1048576)
def OpenSpec.upto (s : _root_.Go.ChangeSpec) : _root_.Go.OpenSpec := { _root_.Go.OpenSpec.ofChange s with cond := some uptoSmall }

/-- 'magnetolaw18.SeekOfs', WHERE WHAT IT READS IS OF BULK AT MOST 1048576: true; the input reads as it did. -/
def seekOfsUptoRow : OpenClaim := { program := "ytppdlldajaihbaa", sum := "4235d64c7b4bd9a879eccfcbd0c2ba887a684f9358961c674b6916821aa3ead6", func := "magneto/magnetolaw18.SeekOfs", spec := "seekOfs", unfollowed := true, recurses := true, apart := false, narrowed := true }
def SeekOfsUptoSaid : Prop := seekOfsUptoRow.holds Try.pinned (OpenSpec.upto seekOfsSpec)

/-- 'magnetolaw18.SeekBack', WHERE WHAT IT READS IS OF BULK AT MOST 1048576: true; the input reads as it did. -/
def seekBackUptoRow : OpenClaim := { program := "ytppdlldajaihbaa", sum := "4235d64c7b4bd9a879eccfcbd0c2ba887a684f9358961c674b6916821aa3ead6", func := "magneto/magnetolaw18.SeekBack", spec := "seekBack", unfollowed := true, recurses := true, apart := false, narrowed := true }
def SeekBackUptoSaid : Prop := seekBackUptoRow.holds Try.pinned (OpenSpec.upto seekBackSpec)

/-- 'magnetolaw18.SeekFinds', WHERE WHAT IT READS IS OF BULK AT MOST 1048576: true; the input reads as it did. -/
def seekFindsUptoRow : OpenClaim := { program := "ytppdlldajaihbaa", sum := "4235d64c7b4bd9a879eccfcbd0c2ba887a684f9358961c674b6916821aa3ead6", func := "magneto/magnetolaw18.SeekFinds", spec := "seekFinds", unfollowed := true, recurses := true, apart := false, narrowed := true }
def SeekFindsUptoSaid : Prop := seekFindsUptoRow.holds Try.pinned (OpenSpec.upto seekFindsSpec)

/-- 'magnetolaw22.DriveAt', WHERE WHAT IT READS IS OF BULK AT MOST 1048576: true; the input reads as it did. -/
def driveAtUptoRow : OpenClaim := { program := "ytppdlldajaihbaa", sum := "4235d64c7b4bd9a879eccfcbd0c2ba887a684f9358961c674b6916821aa3ead6", func := "magneto/magnetolaw22.DriveAt", spec := "driveAt", unfollowed := true, recurses := true, apart := false, narrowed := true }
def DriveAtUptoSaid : Prop := driveAtUptoRow.holds Try.pinned (OpenSpec.upto driveAtSpec)

/-- 'magnetolaw22.DriveOf', WHERE WHAT IT READS IS OF BULK AT MOST 1048576: true; the input reads as it did. -/
def driveOfUptoRow : OpenClaim := { program := "ytppdlldajaihbaa", sum := "4235d64c7b4bd9a879eccfcbd0c2ba887a684f9358961c674b6916821aa3ead6", func := "magneto/magnetolaw22.DriveOf", spec := "driveOf", unfollowed := true, recurses := true, apart := false, narrowed := true }
def DriveOfUptoSaid : Prop := driveOfUptoRow.holds Try.pinned (OpenSpec.upto driveOfSpec)

/-- 'magnetolaw22.DriveFrames', WHERE WHAT IT READS IS OF BULK AT MOST 1048576: true; the input reads as it did. -/
def driveFramesUptoRow : OpenClaim := { program := "ytppdlldajaihbaa", sum := "4235d64c7b4bd9a879eccfcbd0c2ba887a684f9358961c674b6916821aa3ead6", func := "magneto/magnetolaw22.DriveFrames", spec := "driveFrames", unfollowed := true, recurses := true, apart := false, narrowed := true }
def DriveFramesUptoSaid : Prop := driveFramesUptoRow.holds Try.pinned (OpenSpec.upto driveFramesSpec)

/-- 'magnetolaw18.SeekWhole', WHERE WHAT IT READS IS OF BULK AT MOST 1048576: true; the input reads as it did. -/
def seekWholeUptoRow : OpenClaim := { program := "ytppdlldajaihbaa", sum := "4235d64c7b4bd9a879eccfcbd0c2ba887a684f9358961c674b6916821aa3ead6", func := "magneto/magnetolaw18.SeekWhole", spec := "seekWhole", unfollowed := true, recurses := true, apart := false, narrowed := true }
def SeekWholeUptoSaid : Prop := seekWholeUptoRow.holds Try.pinned (OpenSpec.upto seekWholeSpec)

/-- 'magnetolaw22.DriveMasks', WHERE WHAT IT READS IS OF BULK AT MOST 1048576: true; the input reads as it did. -/
def driveMasksUptoRow : OpenClaim := { program := "ytppdlldajaihbaa", sum := "4235d64c7b4bd9a879eccfcbd0c2ba887a684f9358961c674b6916821aa3ead6", func := "magneto/magnetolaw22.DriveMasks", spec := "driveMasks", unfollowed := true, recurses := true, apart := false, narrowed := true }
def DriveMasksUptoSaid : Prop := driveMasksUptoRow.holds Try.pinned (OpenSpec.upto driveMasksSpec)

/-- 'magnetolaw18.SeekOwn', WHERE WHAT IT READS IS OF BULK AT MOST 1048576: true; the input reads as it did. -/
def seekOwnUptoRow : OpenClaim := { program := "ytppdlldajaihbaa", sum := "4235d64c7b4bd9a879eccfcbd0c2ba887a684f9358961c674b6916821aa3ead6", func := "magneto/magnetolaw18.SeekOwn", spec := "seekOwn", unfollowed := true, recurses := true, apart := false, narrowed := true }
def SeekOwnUptoSaid : Prop := seekOwnUptoRow.holds Try.pinned (OpenSpec.upto seekOwnSpec)

/-- 'magnetolaw17.LogScans', WHERE WHAT IT READS IS OF BULK AT MOST 1048576: true; the input reads as it did. -/
def logScansUptoRow : OpenClaim := { program := "ytppdlldajaihbaa", sum := "4235d64c7b4bd9a879eccfcbd0c2ba887a684f9358961c674b6916821aa3ead6", func := "magneto/magnetolaw17.LogScans", spec := "logScans", unfollowed := true, recurses := true, apart := false, narrowed := true }
def LogScansUptoSaid : Prop := logScansUptoRow.holds Try.pinned (OpenSpec.upto logScansSpec)

/-- 'magnetolaw17.LogPlays', WHERE WHAT IT READS IS OF BULK AT MOST 1048576: true; the input reads as it did. -/
def logPlaysUptoRow : OpenClaim := { program := "ytppdlldajaihbaa", sum := "4235d64c7b4bd9a879eccfcbd0c2ba887a684f9358961c674b6916821aa3ead6", func := "magneto/magnetolaw17.LogPlays", spec := "logPlays", unfollowed := true, recurses := true, apart := false, narrowed := true }
def LogPlaysUptoSaid : Prop := logPlaysUptoRow.holds Try.pinned (OpenSpec.upto logPlaysSpec)

/-- 'magnetolaw17.LogBack', WHERE WHAT IT READS IS OF BULK AT MOST 1048576: true; the input reads as it did. -/
def logBackUptoRow : OpenClaim := { program := "ytppdlldajaihbaa", sum := "4235d64c7b4bd9a879eccfcbd0c2ba887a684f9358961c674b6916821aa3ead6", func := "magneto/magnetolaw17.LogBack", spec := "logBack", unfollowed := true, recurses := true, apart := false, narrowed := true }
def LogBackUptoSaid : Prop := logBackUptoRow.holds Try.pinned (OpenSpec.upto logBackSpec)

end Rows
end Go.Proofs.Ytppdlldajaihbaa
