/-
  No cell of these rows narrows 'for every input' (looked for: loops, veiled, ifaces, maps, wideKeys, modest, calm, conditions, laid).
  DERIVED. THE GIVEN ROWS OF THIS SEAT. 9 by the template 'for every input the law returns true; each argument reads behind the call as it read before'; 0 by the template 'total and deterministic' (their statements: YtkmacpimokhpgaaGreatTotals.lean).
  GIVEN WITH THE SEED: the statements are not yours to turn. If you find one false, say at which input.
  Laid BY PROGRAM, IN A SANDBOX (cutbox-rows.mjs): the forced cells as the released guide's own fill.sh prints them over the translation eb7cb21a4c758327… (all of the seat's roots in one cut). By AI agents, Wed Nov 11 2026. No macro, syntax, notation, axiom, sorry.
-/
import Derived.Test.YtkmacpimokhpgaaGreatChecked
import GoSem.Claim
import GoSem.ClaimJoined
import GoSem.ClaimMapViews
import Derived.JoinedTies
import Derived.KernelRfl
namespace Go.Proofs.YtkmacpimokhpgaaGreat
/- THE CELL 'sum', in the pinned program and in every row, IS THE sha256 OF THE DUMP (.gsa) THAT YtkmacpimokhpgaaGreatProg.lean LOADS. Nothing in Lean hashes anything: it is a label: what it is worth is what the hold of that sum in a sandbox is worth. -/
noncomputable def Tryz.pinned : Pinned := { name := "ytkmacpimokhpgaagreat", sum := "eb7cb21a4c75832773de76382857878484c9ab3b87c6c7e937477a34490e8b3f", checked := Tryz.checked }
namespace Rows
def none {H : Type} : Left H := { results := [], args := [] }

/-- 'magnetolaw10.CtlReceives': WHATEVER THE INPUT: true; the input reads as it did. -/
def ctlReceivesSpec : ChangeSpec := { name := "ctlReceives", fn := fun _ => fun
  | [d] => { results := [.lit (.bool true)], args := [d] }
  | _ => none }
def ctlReceivesRow : OpenClaim := { program := "ytkmacpimokhpgaagreat", sum := "eb7cb21a4c75832773de76382857878484c9ab3b87c6c7e937477a34490e8b3f", func := "magneto/magnetolaw10.CtlReceives", spec := "ctlReceives", inPlace := ["slices.overlaps[magneto/api.Frame]"], unfollowed := true, recurses := true, apart := false }
def CtlReceivesSaid : Prop := ctlReceivesRow.holds Tryz.pinned (OpenSpec.ofChange ctlReceivesSpec)

/-- ITS FALSE NEIGHBOUR: 'it returns false'. Refute it at one input. -/
def ctlReceivesWrong : ChangeSpec := { name := "ctlReceives", fn := fun _ => fun
  | [d] => { results := [.lit (.bool false)], args := [d] }
  | _ => none }
def CtlReceivesWrongFalsely : Prop := ctlReceivesRow.holds Tryz.pinned (OpenSpec.ofChange ctlReceivesWrong)

/-- 'magnetolaw10.CtlCalms': WHATEVER THE INPUT: true; the input reads as it did. -/
def ctlCalmsSpec : ChangeSpec := { name := "ctlCalms", fn := fun _ => fun
  | [d] => { results := [.lit (.bool true)], args := [d] }
  | _ => none }
def ctlCalmsRow : OpenClaim := { program := "ytkmacpimokhpgaagreat", sum := "eb7cb21a4c75832773de76382857878484c9ab3b87c6c7e937477a34490e8b3f", func := "magneto/magnetolaw10.CtlCalms", spec := "ctlCalms", inPlace := ["slices.overlaps[magneto/api.Frame]"], unfollowed := true, recurses := true, apart := false }
def CtlCalmsSaid : Prop := ctlCalmsRow.holds Tryz.pinned (OpenSpec.ofChange ctlCalmsSpec)

/-- ITS FALSE NEIGHBOUR: 'it returns false'. Refute it at one input. -/
def ctlCalmsWrong : ChangeSpec := { name := "ctlCalms", fn := fun _ => fun
  | [d] => { results := [.lit (.bool false)], args := [d] }
  | _ => none }
def CtlCalmsWrongFalsely : Prop := ctlCalmsRow.holds Tryz.pinned (OpenSpec.ofChange ctlCalmsWrong)

/-- 'magnetolaw10.CtlCounts': WHATEVER THE INPUT: true; the input reads as it did. -/
def ctlCountsSpec : ChangeSpec := { name := "ctlCounts", fn := fun _ => fun
  | [d1, d2] => { results := [.lit (.bool true)], args := [d1, d2] }
  | _ => none }
def ctlCountsRow : OpenClaim := { program := "ytkmacpimokhpgaagreat", sum := "eb7cb21a4c75832773de76382857878484c9ab3b87c6c7e937477a34490e8b3f", func := "magneto/magnetolaw10.CtlCounts", spec := "ctlCounts", inPlace := ["slices.overlaps[magneto/api.Frame]"], unfollowed := true, recurses := true, apart := false }
def CtlCountsSaid : Prop := ctlCountsRow.holds Tryz.pinned (OpenSpec.ofChange ctlCountsSpec)

/-- ITS FALSE NEIGHBOUR: 'it returns false'. Refute it at one input. -/
def ctlCountsWrong : ChangeSpec := { name := "ctlCounts", fn := fun _ => fun
  | [d1, d2] => { results := [.lit (.bool false)], args := [d1, d2] }
  | _ => none }
def CtlCountsWrongFalsely : Prop := ctlCountsRow.holds Tryz.pinned (OpenSpec.ofChange ctlCountsWrong)

/-- 'magnetolaw10.CtlAcks': WHATEVER THE INPUT: true; the input reads as it did. -/
def ctlAcksSpec : ChangeSpec := { name := "ctlAcks", fn := fun _ => fun
  | [d1, d2] => { results := [.lit (.bool true)], args := [d1, d2] }
  | _ => none }
def ctlAcksRow : OpenClaim := { program := "ytkmacpimokhpgaagreat", sum := "eb7cb21a4c75832773de76382857878484c9ab3b87c6c7e937477a34490e8b3f", func := "magneto/magnetolaw10.CtlAcks", spec := "ctlAcks", inPlace := ["slices.overlaps[magneto/api.Frame]"], unfollowed := true, recurses := true, apart := false }
def CtlAcksSaid : Prop := ctlAcksRow.holds Tryz.pinned (OpenSpec.ofChange ctlAcksSpec)

/-- ITS FALSE NEIGHBOUR: 'it returns false'. Refute it at one input. -/
def ctlAcksWrong : ChangeSpec := { name := "ctlAcks", fn := fun _ => fun
  | [d1, d2] => { results := [.lit (.bool false)], args := [d1, d2] }
  | _ => none }
def CtlAcksWrongFalsely : Prop := ctlAcksRow.holds Tryz.pinned (OpenSpec.ofChange ctlAcksWrong)

/-- 'magnetolaw10.CtlOverloads': WHATEVER THE INPUT: true; the input reads as it did. -/
def ctlOverloadsSpec : ChangeSpec := { name := "ctlOverloads", fn := fun _ => fun
  | [d1, d2, d3] => { results := [.lit (.bool true)], args := [d1, d2, d3] }
  | _ => none }
def ctlOverloadsRow : OpenClaim := { program := "ytkmacpimokhpgaagreat", sum := "eb7cb21a4c75832773de76382857878484c9ab3b87c6c7e937477a34490e8b3f", func := "magneto/magnetolaw10.CtlOverloads", spec := "ctlOverloads", inPlace := ["slices.overlaps[magneto/api.Frame]"], unfollowed := true, recurses := true, apart := false }
def CtlOverloadsSaid : Prop := ctlOverloadsRow.holds Tryz.pinned (OpenSpec.ofChange ctlOverloadsSpec)

/-- ITS FALSE NEIGHBOUR: 'it returns false'. Refute it at one input. -/
def ctlOverloadsWrong : ChangeSpec := { name := "ctlOverloads", fn := fun _ => fun
  | [d1, d2, d3] => { results := [.lit (.bool false)], args := [d1, d2, d3] }
  | _ => none }
def CtlOverloadsWrongFalsely : Prop := ctlOverloadsRow.holds Tryz.pinned (OpenSpec.ofChange ctlOverloadsWrong)

/-- 'magnetolaw10.CtlLoses': WHATEVER THE INPUT: true; the input reads as it did. -/
def ctlLosesSpec : ChangeSpec := { name := "ctlLoses", fn := fun _ => fun
  | [d1, d2] => { results := [.lit (.bool true)], args := [d1, d2] }
  | _ => none }
def ctlLosesRow : OpenClaim := { program := "ytkmacpimokhpgaagreat", sum := "eb7cb21a4c75832773de76382857878484c9ab3b87c6c7e937477a34490e8b3f", func := "magneto/magnetolaw10.CtlLoses", spec := "ctlLoses", inPlace := ["slices.overlaps[magneto/api.Frame]"], unfollowed := true, recurses := true, apart := false }
def CtlLosesSaid : Prop := ctlLosesRow.holds Tryz.pinned (OpenSpec.ofChange ctlLosesSpec)

/-- ITS FALSE NEIGHBOUR: 'it returns false'. Refute it at one input. -/
def ctlLosesWrong : ChangeSpec := { name := "ctlLoses", fn := fun _ => fun
  | [d1, d2] => { results := [.lit (.bool false)], args := [d1, d2] }
  | _ => none }
def CtlLosesWrongFalsely : Prop := ctlLosesRow.holds Tryz.pinned (OpenSpec.ofChange ctlLosesWrong)

/-- 'magnetolaw10.CtlSends': WHATEVER THE INPUT: true; the input reads as it did. -/
def ctlSendsSpec : ChangeSpec := { name := "ctlSends", fn := fun _ => fun
  | [d] => { results := [.lit (.bool true)], args := [d] }
  | _ => none }
def ctlSendsRow : OpenClaim := { program := "ytkmacpimokhpgaagreat", sum := "eb7cb21a4c75832773de76382857878484c9ab3b87c6c7e937477a34490e8b3f", func := "magneto/magnetolaw10.CtlSends", spec := "ctlSends", inPlace := ["slices.overlaps[magneto/api.Frame]"], unfollowed := true, recurses := true, apart := false }
def CtlSendsSaid : Prop := ctlSendsRow.holds Tryz.pinned (OpenSpec.ofChange ctlSendsSpec)

/-- ITS FALSE NEIGHBOUR: 'it returns false'. Refute it at one input. -/
def ctlSendsWrong : ChangeSpec := { name := "ctlSends", fn := fun _ => fun
  | [d] => { results := [.lit (.bool false)], args := [d] }
  | _ => none }
def CtlSendsWrongFalsely : Prop := ctlSendsRow.holds Tryz.pinned (OpenSpec.ofChange ctlSendsWrong)

/-- 'magnetolaw10.CtlKeeps': WHATEVER THE INPUT: true; the input reads as it did. -/
def ctlKeepsSpec : ChangeSpec := { name := "ctlKeeps", fn := fun _ => fun
  | [d] => { results := [.lit (.bool true)], args := [d] }
  | _ => none }
def ctlKeepsRow : OpenClaim := { program := "ytkmacpimokhpgaagreat", sum := "eb7cb21a4c75832773de76382857878484c9ab3b87c6c7e937477a34490e8b3f", func := "magneto/magnetolaw10.CtlKeeps", spec := "ctlKeeps", inPlace := ["slices.overlaps[magneto/api.Frame]"], unfollowed := true, recurses := true, apart := false }
def CtlKeepsSaid : Prop := ctlKeepsRow.holds Tryz.pinned (OpenSpec.ofChange ctlKeepsSpec)

/-- ITS FALSE NEIGHBOUR: 'it returns false'. Refute it at one input. -/
def ctlKeepsWrong : ChangeSpec := { name := "ctlKeeps", fn := fun _ => fun
  | [d] => { results := [.lit (.bool false)], args := [d] }
  | _ => none }
def CtlKeepsWrongFalsely : Prop := ctlKeepsRow.holds Tryz.pinned (OpenSpec.ofChange ctlKeepsWrong)

/-- 'magnetolaw10.CtlOwn': WHATEVER THE INPUT: true; the input reads as it did. -/
def ctlOwnSpec : ChangeSpec := { name := "ctlOwn", fn := fun _ => fun
  | [d1, d2, d3] => { results := [.lit (.bool true)], args := [d1, d2, d3] }
  | _ => none }
def ctlOwnRow : OpenClaim := { program := "ytkmacpimokhpgaagreat", sum := "eb7cb21a4c75832773de76382857878484c9ab3b87c6c7e937477a34490e8b3f", func := "magneto/magnetolaw10.CtlOwn", spec := "ctlOwn", inPlace := ["slices.overlaps[magneto/api.Frame]"], unfollowed := true, recurses := true, apart := false }
def CtlOwnSaid : Prop := ctlOwnRow.holds Tryz.pinned (OpenSpec.ofChange ctlOwnSpec)

/-- ITS FALSE NEIGHBOUR: 'it returns false'. Refute it at one input. -/
def ctlOwnWrong : ChangeSpec := { name := "ctlOwn", fn := fun _ => fun
  | [d1, d2, d3] => { results := [.lit (.bool false)], args := [d1, d2, d3] }
  | _ => none }
def CtlOwnWrongFalsely : Prop := ctlOwnRow.holds Tryz.pinned (OpenSpec.ofChange ctlOwnWrong)

/- THE SECOND FORM. 'bulk': how many values and letters a reading holds, each counted each time it is reached (what is shared counts as often as it is met; a slice's spare places count too). A statement '..UptoSaid' is the law's where the arguments, and the package variables that the reading takes, are together of bulk at most 1048576: NARROWER than '..Said'. Prove '..Said' where nothing that the law and all that it calls make is longer than what came in: it says more and counts as full. Else prove '..UptoSaid'. A law counts once. -/
mutual
def uptoBulk {H : Type} : DataW H → Nat
  | .lit (.string bytes) => bytes.length + 1
  | .lit _ => 1
  | .nil => 1
  | .ptr d => uptoBulk d + 1
  | .slice elems spare => uptoBulkAll elems + uptoBulkAll spare + 1
  | .agg parts => uptoBulkAll parts + 1
  | .iface _ d => uptoBulk d + 1
  | .map entries => uptoBulkEntries entries + 1
  | .held _ => 1
def uptoBulkAll {H : Type} : List (DataW H) → Nat
  | [] => 0
  | d :: r => uptoBulk d + uptoBulkAll r
def uptoBulkEntries {H : Type} : List (Lit × DataW H) → Nat
  | [] => 0
  | x :: r => uptoBulkEntry x + uptoBulkEntries r
def uptoBulkEntry {H : Type} : Lit × DataW H → Nat
  | (.string bytes, d) => bytes.length + uptoBulk d + 1
  | (_, d) => uptoBulk d + 1
 end
def uptoSmall : (H : Type) → List (DataW H) → Bool := fun _ ds => decide (uptoBulkAll ds ≤ 1048576)
def OpenSpec.upto (s : _root_.Go.ChangeSpec) : _root_.Go.OpenSpec := { _root_.Go.OpenSpec.ofChange s with cond := some uptoSmall }

/-- 'magnetolaw10.CtlReceives', WHERE WHAT IT READS IS OF BULK AT MOST 1048576: true; the input reads as it did. -/
def ctlReceivesUptoRow : OpenClaim := { program := "ytkmacpimokhpgaagreat", sum := "eb7cb21a4c75832773de76382857878484c9ab3b87c6c7e937477a34490e8b3f", func := "magneto/magnetolaw10.CtlReceives", spec := "ctlReceives", inPlace := ["slices.overlaps[magneto/api.Frame]"], unfollowed := true, recurses := true, apart := false, narrowed := true }
def CtlReceivesUptoSaid : Prop := ctlReceivesUptoRow.holds Tryz.pinned (OpenSpec.upto ctlReceivesSpec)

/-- 'magnetolaw10.CtlCalms', WHERE WHAT IT READS IS OF BULK AT MOST 1048576: true; the input reads as it did. -/
def ctlCalmsUptoRow : OpenClaim := { program := "ytkmacpimokhpgaagreat", sum := "eb7cb21a4c75832773de76382857878484c9ab3b87c6c7e937477a34490e8b3f", func := "magneto/magnetolaw10.CtlCalms", spec := "ctlCalms", inPlace := ["slices.overlaps[magneto/api.Frame]"], unfollowed := true, recurses := true, apart := false, narrowed := true }
def CtlCalmsUptoSaid : Prop := ctlCalmsUptoRow.holds Tryz.pinned (OpenSpec.upto ctlCalmsSpec)

/-- 'magnetolaw10.CtlCounts', WHERE WHAT IT READS IS OF BULK AT MOST 1048576: true; the input reads as it did. -/
def ctlCountsUptoRow : OpenClaim := { program := "ytkmacpimokhpgaagreat", sum := "eb7cb21a4c75832773de76382857878484c9ab3b87c6c7e937477a34490e8b3f", func := "magneto/magnetolaw10.CtlCounts", spec := "ctlCounts", inPlace := ["slices.overlaps[magneto/api.Frame]"], unfollowed := true, recurses := true, apart := false, narrowed := true }
def CtlCountsUptoSaid : Prop := ctlCountsUptoRow.holds Tryz.pinned (OpenSpec.upto ctlCountsSpec)

/-- 'magnetolaw10.CtlAcks', WHERE WHAT IT READS IS OF BULK AT MOST 1048576: true; the input reads as it did. -/
def ctlAcksUptoRow : OpenClaim := { program := "ytkmacpimokhpgaagreat", sum := "eb7cb21a4c75832773de76382857878484c9ab3b87c6c7e937477a34490e8b3f", func := "magneto/magnetolaw10.CtlAcks", spec := "ctlAcks", inPlace := ["slices.overlaps[magneto/api.Frame]"], unfollowed := true, recurses := true, apart := false, narrowed := true }
def CtlAcksUptoSaid : Prop := ctlAcksUptoRow.holds Tryz.pinned (OpenSpec.upto ctlAcksSpec)

/-- 'magnetolaw10.CtlOverloads', WHERE WHAT IT READS IS OF BULK AT MOST 1048576: true; the input reads as it did. -/
def ctlOverloadsUptoRow : OpenClaim := { program := "ytkmacpimokhpgaagreat", sum := "eb7cb21a4c75832773de76382857878484c9ab3b87c6c7e937477a34490e8b3f", func := "magneto/magnetolaw10.CtlOverloads", spec := "ctlOverloads", inPlace := ["slices.overlaps[magneto/api.Frame]"], unfollowed := true, recurses := true, apart := false, narrowed := true }
def CtlOverloadsUptoSaid : Prop := ctlOverloadsUptoRow.holds Tryz.pinned (OpenSpec.upto ctlOverloadsSpec)

/-- 'magnetolaw10.CtlLoses', WHERE WHAT IT READS IS OF BULK AT MOST 1048576: true; the input reads as it did. -/
def ctlLosesUptoRow : OpenClaim := { program := "ytkmacpimokhpgaagreat", sum := "eb7cb21a4c75832773de76382857878484c9ab3b87c6c7e937477a34490e8b3f", func := "magneto/magnetolaw10.CtlLoses", spec := "ctlLoses", inPlace := ["slices.overlaps[magneto/api.Frame]"], unfollowed := true, recurses := true, apart := false, narrowed := true }
def CtlLosesUptoSaid : Prop := ctlLosesUptoRow.holds Tryz.pinned (OpenSpec.upto ctlLosesSpec)

/-- 'magnetolaw10.CtlSends', WHERE WHAT IT READS IS OF BULK AT MOST 1048576: true; the input reads as it did. -/
def ctlSendsUptoRow : OpenClaim := { program := "ytkmacpimokhpgaagreat", sum := "eb7cb21a4c75832773de76382857878484c9ab3b87c6c7e937477a34490e8b3f", func := "magneto/magnetolaw10.CtlSends", spec := "ctlSends", inPlace := ["slices.overlaps[magneto/api.Frame]"], unfollowed := true, recurses := true, apart := false, narrowed := true }
def CtlSendsUptoSaid : Prop := ctlSendsUptoRow.holds Tryz.pinned (OpenSpec.upto ctlSendsSpec)

/-- 'magnetolaw10.CtlKeeps', WHERE WHAT IT READS IS OF BULK AT MOST 1048576: true; the input reads as it did. -/
def ctlKeepsUptoRow : OpenClaim := { program := "ytkmacpimokhpgaagreat", sum := "eb7cb21a4c75832773de76382857878484c9ab3b87c6c7e937477a34490e8b3f", func := "magneto/magnetolaw10.CtlKeeps", spec := "ctlKeeps", inPlace := ["slices.overlaps[magneto/api.Frame]"], unfollowed := true, recurses := true, apart := false, narrowed := true }
def CtlKeepsUptoSaid : Prop := ctlKeepsUptoRow.holds Tryz.pinned (OpenSpec.upto ctlKeepsSpec)

/-- 'magnetolaw10.CtlOwn', WHERE WHAT IT READS IS OF BULK AT MOST 1048576: true; the input reads as it did. -/
def ctlOwnUptoRow : OpenClaim := { program := "ytkmacpimokhpgaagreat", sum := "eb7cb21a4c75832773de76382857878484c9ab3b87c6c7e937477a34490e8b3f", func := "magneto/magnetolaw10.CtlOwn", spec := "ctlOwn", inPlace := ["slices.overlaps[magneto/api.Frame]"], unfollowed := true, recurses := true, apart := false, narrowed := true }
def CtlOwnUptoSaid : Prop := ctlOwnUptoRow.holds Tryz.pinned (OpenSpec.upto ctlOwnSpec)

end Rows
end Go.Proofs.YtkmacpimokhpgaaGreat
