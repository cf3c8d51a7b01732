/-
  No cell of these rows narrows 'for every input' (looked for: loops, veiled, ifaces, maps, wideKeys, modest, calm, conditions, laid).
  DERIVED. THE GIVEN ROWS OF THIS SEAT. 6 by the template 'for every input the law returns true; each argument reads behind the call as it read before'; 0 by the template 'total and deterministic' (their statements: YtefpgafgpanpfaaGreatTotals.lean).
  GIVEN WITH THE SEED: the statements are not yours to turn. If you find one false, say at which input.
  Laid BY PROGRAM, IN A SANDBOX (cutbox-rows.mjs): the forced cells as the released guide's own fill.sh prints them over the translation 8332228e9cdf0db0… (all of the seat's roots in one cut). By AI agents, Wed Nov 11 2026. No macro, syntax, notation, axiom, sorry.
-/
import Derived.Test.YtefpgafgpanpfaaGreatChecked
import GoSem.Claim
import GoSem.ClaimJoined
import GoSem.ClaimMapViews
import Derived.JoinedTies
import Derived.KernelRfl
namespace Go.Proofs.YtefpgafgpanpfaaGreat
/- THE CELL 'sum', in the pinned program and in every row, IS THE sha256 OF THE DUMP (.gsa) THAT YtefpgafgpanpfaaGreatProg.lean LOADS. Nothing in Lean hashes anything: it is a label: what it is worth is what the hold of that sum in a sandbox is worth. -/
noncomputable def Tryz.pinned : Pinned := { name := "ytefpgafgpanpfaagreat", sum := "8332228e9cdf0db0b2af83de43f65d33898025db6a33c893ac2aaf5330116ca5", checked := Tryz.checked }
namespace Rows
def none {H : Type} : Left H := { results := [], args := [] }

/-- 'magnetolaw11.BusSteps': WHATEVER THE INPUT: true; the input reads as it did. -/
def busStepsSpec : ChangeSpec := { name := "busSteps", fn := fun _ => fun
  | [d1, d2, d3] => { results := [.lit (.bool true)], args := [d1, d2, d3] }
  | _ => none }
def busStepsRow : OpenClaim := { program := "ytefpgafgpanpfaagreat", sum := "8332228e9cdf0db0b2af83de43f65d33898025db6a33c893ac2aaf5330116ca5", func := "magneto/magnetolaw11.BusSteps", spec := "busSteps", inPlace := ["slices.overlaps[magneto/api.Frame]"], unfollowed := true, recurses := true, apart := false }
def BusStepsSaid : Prop := busStepsRow.holds Tryz.pinned (OpenSpec.ofChange busStepsSpec)

/-- ITS FALSE NEIGHBOUR: 'it returns false'. Refute it at one input. -/
def busStepsWrong : ChangeSpec := { name := "busSteps", fn := fun _ => fun
  | [d1, d2, d3] => { results := [.lit (.bool false)], args := [d1, d2, d3] }
  | _ => none }
def BusStepsWrongFalsely : Prop := busStepsRow.holds Tryz.pinned (OpenSpec.ofChange busStepsWrong)

/-- 'magnetolaw11.BusAlike': WHATEVER THE INPUT: true; the input reads as it did. -/
def busAlikeSpec : ChangeSpec := { name := "busAlike", fn := fun _ => fun
  | [d1, d2, d3] => { results := [.lit (.bool true)], args := [d1, d2, d3] }
  | _ => none }
def busAlikeRow : OpenClaim := { program := "ytefpgafgpanpfaagreat", sum := "8332228e9cdf0db0b2af83de43f65d33898025db6a33c893ac2aaf5330116ca5", func := "magneto/magnetolaw11.BusAlike", spec := "busAlike", inPlace := ["slices.overlaps[magneto/api.Frame]"], unfollowed := true, recurses := true, apart := false }
def BusAlikeSaid : Prop := busAlikeRow.holds Tryz.pinned (OpenSpec.ofChange busAlikeSpec)

/-- ITS FALSE NEIGHBOUR: 'it returns false'. Refute it at one input. -/
def busAlikeWrong : ChangeSpec := { name := "busAlike", fn := fun _ => fun
  | [d1, d2, d3] => { results := [.lit (.bool false)], args := [d1, d2, d3] }
  | _ => none }
def BusAlikeWrongFalsely : Prop := busAlikeRow.holds Tryz.pinned (OpenSpec.ofChange busAlikeWrong)

/-- 'magnetolaw11.BusAll': WHATEVER THE INPUT: true; the input reads as it did. -/
def busAllSpec : ChangeSpec := { name := "busAll", fn := fun _ => fun
  | [d1, d2, d3] => { results := [.lit (.bool true)], args := [d1, d2, d3] }
  | _ => none }
def busAllRow : OpenClaim := { program := "ytefpgafgpanpfaagreat", sum := "8332228e9cdf0db0b2af83de43f65d33898025db6a33c893ac2aaf5330116ca5", func := "magneto/magnetolaw11.BusAll", spec := "busAll", inPlace := ["slices.overlaps[magneto/api.Frame]"], unfollowed := true, recurses := true, apart := false }
def BusAllSaid : Prop := busAllRow.holds Tryz.pinned (OpenSpec.ofChange busAllSpec)

/-- ITS FALSE NEIGHBOUR: 'it returns false'. Refute it at one input. -/
def busAllWrong : ChangeSpec := { name := "busAll", fn := fun _ => fun
  | [d1, d2, d3] => { results := [.lit (.bool false)], args := [d1, d2, d3] }
  | _ => none }
def BusAllWrongFalsely : Prop := busAllRow.holds Tryz.pinned (OpenSpec.ofChange busAllWrong)

/-- 'magnetolaw19.WatchAgrees': WHATEVER THE INPUT: true; the input reads as it did. -/
def watchAgreesSpec : ChangeSpec := { name := "watchAgrees", fn := fun _ => fun
  | [d1, d2, d3] => { results := [.lit (.bool true)], args := [d1, d2, d3] }
  | _ => none }
def watchAgreesRow : OpenClaim := { program := "ytefpgafgpanpfaagreat", sum := "8332228e9cdf0db0b2af83de43f65d33898025db6a33c893ac2aaf5330116ca5", func := "magneto/magnetolaw19.WatchAgrees", spec := "watchAgrees", inPlace := ["slices.overlaps[magneto/api.Frame]"], unfollowed := true, recurses := true, apart := false }
def WatchAgreesSaid : Prop := watchAgreesRow.holds Tryz.pinned (OpenSpec.ofChange watchAgreesSpec)

/-- ITS FALSE NEIGHBOUR: 'it returns false'. Refute it at one input. -/
def watchAgreesWrong : ChangeSpec := { name := "watchAgrees", fn := fun _ => fun
  | [d1, d2, d3] => { results := [.lit (.bool false)], args := [d1, d2, d3] }
  | _ => none }
def WatchAgreesWrongFalsely : Prop := watchAgreesRow.holds Tryz.pinned (OpenSpec.ofChange watchAgreesWrong)

/-- 'magnetolaw19.WatchTap': WHATEVER THE INPUT: true; the input reads as it did. -/
def watchTapSpec : ChangeSpec := { name := "watchTap", fn := fun _ => fun
  | [d1, d2, d3] => { results := [.lit (.bool true)], args := [d1, d2, d3] }
  | _ => none }
def watchTapRow : OpenClaim := { program := "ytefpgafgpanpfaagreat", sum := "8332228e9cdf0db0b2af83de43f65d33898025db6a33c893ac2aaf5330116ca5", func := "magneto/magnetolaw19.WatchTap", spec := "watchTap", inPlace := ["slices.overlaps[magneto/api.Frame]"], unfollowed := true, recurses := true, apart := false }
def WatchTapSaid : Prop := watchTapRow.holds Tryz.pinned (OpenSpec.ofChange watchTapSpec)

/-- ITS FALSE NEIGHBOUR: 'it returns false'. Refute it at one input. -/
def watchTapWrong : ChangeSpec := { name := "watchTap", fn := fun _ => fun
  | [d1, d2, d3] => { results := [.lit (.bool false)], args := [d1, d2, d3] }
  | _ => none }
def WatchTapWrongFalsely : Prop := watchTapRow.holds Tryz.pinned (OpenSpec.ofChange watchTapWrong)

/-- 'magnetolaw22.DriveAll': WHATEVER THE INPUT: true; the input reads as it did. -/
def driveAllSpec : ChangeSpec := { name := "driveAll", fn := fun _ => fun
  | [d1, d2, d3] => { results := [.lit (.bool true)], args := [d1, d2, d3] }
  | _ => none }
def driveAllRow : OpenClaim := { program := "ytefpgafgpanpfaagreat", sum := "8332228e9cdf0db0b2af83de43f65d33898025db6a33c893ac2aaf5330116ca5", func := "magneto/magnetolaw22.DriveAll", spec := "driveAll", inPlace := ["slices.overlaps[magneto/api.Frame]"], unfollowed := true, recurses := true, apart := false }
def DriveAllSaid : Prop := driveAllRow.holds Tryz.pinned (OpenSpec.ofChange driveAllSpec)

/-- ITS FALSE NEIGHBOUR: 'it returns false'. Refute it at one input. -/
def driveAllWrong : ChangeSpec := { name := "driveAll", fn := fun _ => fun
  | [d1, d2, d3] => { results := [.lit (.bool false)], args := [d1, d2, d3] }
  | _ => none }
def DriveAllWrongFalsely : Prop := driveAllRow.holds Tryz.pinned (OpenSpec.ofChange driveAllWrong)

/- THE SECOND FORM. 'bulk': how many values and letters a reading holds, each counted each time it is reached (what is shared counts as often as it is met; a slice's spare places count too). A statement '..UptoSaid' is the law's where the arguments, and the package variables that the reading takes, are together of bulk at most 1048576: NARROWER than '..Said'. Prove '..Said' where nothing that the law and all that it calls make is longer than what came in: it says more and counts as full. Else prove '..UptoSaid'. A law counts once. -/
mutual
def uptoBulk {H : Type} : DataW H → Nat
  | .lit (.string bytes) => bytes.length + 1
  | .lit _ => 1
  | .nil => 1
  | .ptr d => uptoBulk d + 1
  | .slice elems spare => uptoBulkAll elems + uptoBulkAll spare + 1
  | .agg parts => uptoBulkAll parts + 1
  | .iface _ d => uptoBulk d + 1
  | .map entries => uptoBulkEntries entries + 1
  | .held _ => 1
def uptoBulkAll {H : Type} : List (DataW H) → Nat
  | [] => 0
  | d :: r => uptoBulk d + uptoBulkAll r
def uptoBulkEntries {H : Type} : List (Lit × DataW H) → Nat
  | [] => 0
  | x :: r => uptoBulkEntry x + uptoBulkEntries r
def uptoBulkEntry {H : Type} : Lit × DataW H → Nat
  | (.string bytes, d) => bytes.length + uptoBulk d + 1
  | (_, d) => uptoBulk d + 1
 end
def uptoSmall : (H : Type) → List (DataW H) → Bool := fun _ ds => decide (uptoBulkAll ds ≤ 1048576)
def OpenSpec.upto (s : _root_.Go.ChangeSpec) : _root_.Go.OpenSpec := { _root_.Go.OpenSpec.ofChange s with cond := some uptoSmall }

/-- 'magnetolaw11.BusSteps', WHERE WHAT IT READS IS OF BULK AT MOST 1048576: true; the input reads as it did. -/
def busStepsUptoRow : OpenClaim := { program := "ytefpgafgpanpfaagreat", sum := "8332228e9cdf0db0b2af83de43f65d33898025db6a33c893ac2aaf5330116ca5", func := "magneto/magnetolaw11.BusSteps", spec := "busSteps", inPlace := ["slices.overlaps[magneto/api.Frame]"], unfollowed := true, recurses := true, apart := false, narrowed := true }
def BusStepsUptoSaid : Prop := busStepsUptoRow.holds Tryz.pinned (OpenSpec.upto busStepsSpec)

/-- 'magnetolaw11.BusAlike', WHERE WHAT IT READS IS OF BULK AT MOST 1048576: true; the input reads as it did. -/
def busAlikeUptoRow : OpenClaim := { program := "ytefpgafgpanpfaagreat", sum := "8332228e9cdf0db0b2af83de43f65d33898025db6a33c893ac2aaf5330116ca5", func := "magneto/magnetolaw11.BusAlike", spec := "busAlike", inPlace := ["slices.overlaps[magneto/api.Frame]"], unfollowed := true, recurses := true, apart := false, narrowed := true }
def BusAlikeUptoSaid : Prop := busAlikeUptoRow.holds Tryz.pinned (OpenSpec.upto busAlikeSpec)

/-- 'magnetolaw11.BusAll', WHERE WHAT IT READS IS OF BULK AT MOST 1048576: true; the input reads as it did. -/
def busAllUptoRow : OpenClaim := { program := "ytefpgafgpanpfaagreat", sum := "8332228e9cdf0db0b2af83de43f65d33898025db6a33c893ac2aaf5330116ca5", func := "magneto/magnetolaw11.BusAll", spec := "busAll", inPlace := ["slices.overlaps[magneto/api.Frame]"], unfollowed := true, recurses := true, apart := false, narrowed := true }
def BusAllUptoSaid : Prop := busAllUptoRow.holds Tryz.pinned (OpenSpec.upto busAllSpec)

/-- 'magnetolaw19.WatchAgrees', WHERE WHAT IT READS IS OF BULK AT MOST 1048576: true; the input reads as it did. -/
def watchAgreesUptoRow : OpenClaim := { program := "ytefpgafgpanpfaagreat", sum := "8332228e9cdf0db0b2af83de43f65d33898025db6a33c893ac2aaf5330116ca5", func := "magneto/magnetolaw19.WatchAgrees", spec := "watchAgrees", inPlace := ["slices.overlaps[magneto/api.Frame]"], unfollowed := true, recurses := true, apart := false, narrowed := true }
def WatchAgreesUptoSaid : Prop := watchAgreesUptoRow.holds Tryz.pinned (OpenSpec.upto watchAgreesSpec)

/-- 'magnetolaw19.WatchTap', WHERE WHAT IT READS IS OF BULK AT MOST 1048576: true; the input reads as it did. -/
def watchTapUptoRow : OpenClaim := { program := "ytefpgafgpanpfaagreat", sum := "8332228e9cdf0db0b2af83de43f65d33898025db6a33c893ac2aaf5330116ca5", func := "magneto/magnetolaw19.WatchTap", spec := "watchTap", inPlace := ["slices.overlaps[magneto/api.Frame]"], unfollowed := true, recurses := true, apart := false, narrowed := true }
def WatchTapUptoSaid : Prop := watchTapUptoRow.holds Tryz.pinned (OpenSpec.upto watchTapSpec)

/-- 'magnetolaw22.DriveAll', WHERE WHAT IT READS IS OF BULK AT MOST 1048576: true; the input reads as it did. -/
def driveAllUptoRow : OpenClaim := { program := "ytefpgafgpanpfaagreat", sum := "8332228e9cdf0db0b2af83de43f65d33898025db6a33c893ac2aaf5330116ca5", func := "magneto/magnetolaw22.DriveAll", spec := "driveAll", inPlace := ["slices.overlaps[magneto/api.Frame]"], unfollowed := true, recurses := true, apart := false, narrowed := true }
def DriveAllUptoSaid : Prop := driveAllUptoRow.holds Tryz.pinned (OpenSpec.upto driveAllSpec)

end Rows
end Go.Proofs.YtefpgafgpanpfaaGreat
