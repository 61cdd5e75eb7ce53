/-
  No cell of these rows narrows 'for every input' (looked for: loops, veiled, ifaces, maps, wideKeys, modest, calm, conditions, laid).
  DERIVED. THE GIVEN ROWS OF THIS SEAT. 10 by the template 'for every input the law returns true; each argument reads behind the call as it read before'; 0 by the template 'total and deterministic' (their statements: YtafhbnafigjinaaTotals.lean).
  GIVEN WITH THE SEED: the statements are not yours to turn. If you find one false, say at which input.
  Laid BY PROGRAM, IN A SANDBOX (cutbox-rows.mjs): the forced cells as the released guide's own fill.sh prints them over the translation cf86bcfcac2c1420… (all of the seat's roots in one cut). By AI agents, Wed Nov 11 2026. No macro, syntax, notation, axiom, sorry.
-/
import Derived.Test.YtafhbnafigjinaaChecked
import GoSem.Claim
import GoSem.ClaimJoined
import GoSem.ClaimMapViews
import Derived.JoinedTies
import Derived.KernelRfl
namespace Go.Proofs.Ytafhbnafigjinaa
/- THE CELL 'sum', in the pinned program and in every row, IS THE sha256 OF THE DUMP (.gsa) THAT YtafhbnafigjinaaProg.lean LOADS. Nothing in Lean hashes anything: it is a label: what it is worth is what the hold of that sum in a sandbox is worth. -/
noncomputable def Try.pinned : Pinned := { name := "ytafhbnafigjinaa", sum := "cf86bcfcac2c14201b1369ac47d8f395a494831ad9604ed41bd258fa018709e1", checked := Try.checked }
namespace Rows
def none {H : Type} : Left H := { results := [], args := [] }

/-- 'cameolaw11.ArmFields': WHATEVER THE INPUT: true; the input reads as it did. -/
def armFieldsSpec : ChangeSpec := { name := "armFields", fn := fun _ => fun
  | [d] => { results := [.lit (.bool true)], args := [d] }
  | _ => none }
def armFieldsRow : OpenClaim := { program := "ytafhbnafigjinaa", sum := "cf86bcfcac2c14201b1369ac47d8f395a494831ad9604ed41bd258fa018709e1", func := "cameo/cameolaw11.ArmFields", spec := "armFields", plainKeys := false, apart := false }
def ArmFieldsSaid : Prop := armFieldsRow.holds Try.pinned (OpenSpec.ofChange armFieldsSpec)

/-- ITS FALSE NEIGHBOUR: 'it returns false'. Refute it at one input. -/
def armFieldsWrong : ChangeSpec := { name := "armFields", fn := fun _ => fun
  | [d] => { results := [.lit (.bool false)], args := [d] }
  | _ => none }
def ArmFieldsWrongFalsely : Prop := armFieldsRow.holds Try.pinned (OpenSpec.ofChange armFieldsWrong)

/-- 'cameolaw11.ArmBranches': WHATEVER THE INPUT: true; the input reads as it did. -/
def armBranchesSpec : ChangeSpec := { name := "armBranches", fn := fun _ => fun
  | [d1, d2, d3] => { results := [.lit (.bool true)], args := [d1, d2, d3] }
  | _ => none }
def armBranchesRow : OpenClaim := { program := "ytafhbnafigjinaa", sum := "cf86bcfcac2c14201b1369ac47d8f395a494831ad9604ed41bd258fa018709e1", func := "cameo/cameolaw11.ArmBranches", spec := "armBranches", plainKeys := false, apart := false }
def ArmBranchesSaid : Prop := armBranchesRow.holds Try.pinned (OpenSpec.ofChange armBranchesSpec)

/-- ITS FALSE NEIGHBOUR: 'it returns false'. Refute it at one input. -/
def armBranchesWrong : ChangeSpec := { name := "armBranches", fn := fun _ => fun
  | [d1, d2, d3] => { results := [.lit (.bool false)], args := [d1, d2, d3] }
  | _ => none }
def ArmBranchesWrongFalsely : Prop := armBranchesRow.holds Try.pinned (OpenSpec.ofChange armBranchesWrong)

/-- 'cameolaw07.SchedOrder': WHATEVER THE INPUT: true; the input reads as it did. -/
def schedOrderSpec : ChangeSpec := { name := "schedOrder", fn := fun _ => fun
  | [d1, d2] => { results := [.lit (.bool true)], args := [d1, d2] }
  | _ => none }
def schedOrderRow : OpenClaim := { program := "ytafhbnafigjinaa", sum := "cf86bcfcac2c14201b1369ac47d8f395a494831ad9604ed41bd258fa018709e1", func := "cameo/cameolaw07.SchedOrder", spec := "schedOrder", unfollowed := true, recurses := true, plainKeys := false, apart := false }
def SchedOrderSaid : Prop := schedOrderRow.holds Try.pinned (OpenSpec.ofChange schedOrderSpec)

/-- ITS FALSE NEIGHBOUR: 'it returns false'. Refute it at one input. -/
def schedOrderWrong : ChangeSpec := { name := "schedOrder", fn := fun _ => fun
  | [d1, d2] => { results := [.lit (.bool false)], args := [d1, d2] }
  | _ => none }
def SchedOrderWrongFalsely : Prop := schedOrderRow.holds Try.pinned (OpenSpec.ofChange schedOrderWrong)

/-- 'cameolaw17.DmaCopies': WHATEVER THE INPUT: true; the input reads as it did. -/
def dmaCopiesSpec : ChangeSpec := { name := "dmaCopies", fn := fun _ => fun
  | [d1, d2, d3] => { results := [.lit (.bool true)], args := [d1, d2, d3] }
  | _ => none }
def dmaCopiesRow : OpenClaim := { program := "ytafhbnafigjinaa", sum := "cf86bcfcac2c14201b1369ac47d8f395a494831ad9604ed41bd258fa018709e1", func := "cameo/cameolaw17.DmaCopies", spec := "dmaCopies", unfollowed := true, recurses := true, plainKeys := false, apart := false }
def DmaCopiesSaid : Prop := dmaCopiesRow.holds Try.pinned (OpenSpec.ofChange dmaCopiesSpec)

/-- ITS FALSE NEIGHBOUR: 'it returns false'. Refute it at one input. -/
def dmaCopiesWrong : ChangeSpec := { name := "dmaCopies", fn := fun _ => fun
  | [d1, d2, d3] => { results := [.lit (.bool false)], args := [d1, d2, d3] }
  | _ => none }
def DmaCopiesWrongFalsely : Prop := dmaCopiesRow.holds Try.pinned (OpenSpec.ofChange dmaCopiesWrong)

/-- 'cameolaw07.SchedRuns': WHATEVER THE INPUT: true; the input reads as it did. -/
def schedRunsSpec : ChangeSpec := { name := "schedRuns", fn := fun _ => fun
  | [d] => { results := [.lit (.bool true)], args := [d] }
  | _ => none }
def schedRunsRow : OpenClaim := { program := "ytafhbnafigjinaa", sum := "cf86bcfcac2c14201b1369ac47d8f395a494831ad9604ed41bd258fa018709e1", func := "cameo/cameolaw07.SchedRuns", spec := "schedRuns", unfollowed := true, recurses := true, plainKeys := false, apart := false }
def SchedRunsSaid : Prop := schedRunsRow.holds Try.pinned (OpenSpec.ofChange schedRunsSpec)

/-- ITS FALSE NEIGHBOUR: 'it returns false'. Refute it at one input. -/
def schedRunsWrong : ChangeSpec := { name := "schedRuns", fn := fun _ => fun
  | [d] => { results := [.lit (.bool false)], args := [d] }
  | _ => none }
def SchedRunsWrongFalsely : Prop := schedRunsRow.holds Try.pinned (OpenSpec.ofChange schedRunsWrong)

/-- 'cameolaw07.SchedNone': WHATEVER THE INPUT: true; the input reads as it did. -/
def schedNoneSpec : ChangeSpec := { name := "schedNone", fn := fun _ => fun
  | [d1, d2] => { results := [.lit (.bool true)], args := [d1, d2] }
  | _ => none }
def schedNoneRow : OpenClaim := { program := "ytafhbnafigjinaa", sum := "cf86bcfcac2c14201b1369ac47d8f395a494831ad9604ed41bd258fa018709e1", func := "cameo/cameolaw07.SchedNone", spec := "schedNone", unfollowed := true, recurses := true, plainKeys := false, apart := false }
def SchedNoneSaid : Prop := schedNoneRow.holds Try.pinned (OpenSpec.ofChange schedNoneSpec)

/-- ITS FALSE NEIGHBOUR: 'it returns false'. Refute it at one input. -/
def schedNoneWrong : ChangeSpec := { name := "schedNone", fn := fun _ => fun
  | [d1, d2] => { results := [.lit (.bool false)], args := [d1, d2] }
  | _ => none }
def SchedNoneWrongFalsely : Prop := schedNoneRow.holds Try.pinned (OpenSpec.ofChange schedNoneWrong)

/-- 'cameolaw17.DmaRepeats': WHATEVER THE INPUT: true; the input reads as it did. -/
def dmaRepeatsSpec : ChangeSpec := { name := "dmaRepeats", fn := fun _ => fun
  | [d1, d2, d3] => { results := [.lit (.bool true)], args := [d1, d2, d3] }
  | _ => none }
def dmaRepeatsRow : OpenClaim := { program := "ytafhbnafigjinaa", sum := "cf86bcfcac2c14201b1369ac47d8f395a494831ad9604ed41bd258fa018709e1", func := "cameo/cameolaw17.DmaRepeats", spec := "dmaRepeats", unfollowed := true, recurses := true, plainKeys := false, apart := false }
def DmaRepeatsSaid : Prop := dmaRepeatsRow.holds Try.pinned (OpenSpec.ofChange dmaRepeatsSpec)

/-- ITS FALSE NEIGHBOUR: 'it returns false'. Refute it at one input. -/
def dmaRepeatsWrong : ChangeSpec := { name := "dmaRepeats", fn := fun _ => fun
  | [d1, d2, d3] => { results := [.lit (.bool false)], args := [d1, d2, d3] }
  | _ => none }
def DmaRepeatsWrongFalsely : Prop := dmaRepeatsRow.holds Try.pinned (OpenSpec.ofChange dmaRepeatsWrong)

/-- 'cameolaw17.DmaRuns': WHATEVER THE INPUT: true; the input reads as it did. -/
def dmaRunsSpec : ChangeSpec := { name := "dmaRuns", fn := fun _ => fun
  | [d] => { results := [.lit (.bool true)], args := [d] }
  | _ => none }
def dmaRunsRow : OpenClaim := { program := "ytafhbnafigjinaa", sum := "cf86bcfcac2c14201b1369ac47d8f395a494831ad9604ed41bd258fa018709e1", func := "cameo/cameolaw17.DmaRuns", spec := "dmaRuns", unfollowed := true, recurses := true, plainKeys := false, apart := false }
def DmaRunsSaid : Prop := dmaRunsRow.holds Try.pinned (OpenSpec.ofChange dmaRunsSpec)

/-- ITS FALSE NEIGHBOUR: 'it returns false'. Refute it at one input. -/
def dmaRunsWrong : ChangeSpec := { name := "dmaRuns", fn := fun _ => fun
  | [d] => { results := [.lit (.bool false)], args := [d] }
  | _ => none }
def DmaRunsWrongFalsely : Prop := dmaRunsRow.holds Try.pinned (OpenSpec.ofChange dmaRunsWrong)

/-- 'cameolaw17.DmaFirst': WHATEVER THE INPUT: true; the input reads as it did. -/
def dmaFirstSpec : ChangeSpec := { name := "dmaFirst", fn := fun _ => fun
  | [d1, d2, d3] => { results := [.lit (.bool true)], args := [d1, d2, d3] }
  | _ => none }
def dmaFirstRow : OpenClaim := { program := "ytafhbnafigjinaa", sum := "cf86bcfcac2c14201b1369ac47d8f395a494831ad9604ed41bd258fa018709e1", func := "cameo/cameolaw17.DmaFirst", spec := "dmaFirst", unfollowed := true, recurses := true, plainKeys := false, apart := false }
def DmaFirstSaid : Prop := dmaFirstRow.holds Try.pinned (OpenSpec.ofChange dmaFirstSpec)

/-- ITS FALSE NEIGHBOUR: 'it returns false'. Refute it at one input. -/
def dmaFirstWrong : ChangeSpec := { name := "dmaFirst", fn := fun _ => fun
  | [d1, d2, d3] => { results := [.lit (.bool false)], args := [d1, d2, d3] }
  | _ => none }
def DmaFirstWrongFalsely : Prop := dmaFirstRow.holds Try.pinned (OpenSpec.ofChange dmaFirstWrong)

/-- 'cameolaw17.DmaNone': WHATEVER THE INPUT: true; the input reads as it did. -/
def dmaNoneSpec : ChangeSpec := { name := "dmaNone", fn := fun _ => fun
  | [d] => { results := [.lit (.bool true)], args := [d] }
  | _ => none }
def dmaNoneRow : OpenClaim := { program := "ytafhbnafigjinaa", sum := "cf86bcfcac2c14201b1369ac47d8f395a494831ad9604ed41bd258fa018709e1", func := "cameo/cameolaw17.DmaNone", spec := "dmaNone", unfollowed := true, recurses := true, plainKeys := false, apart := false }
def DmaNoneSaid : Prop := dmaNoneRow.holds Try.pinned (OpenSpec.ofChange dmaNoneSpec)

/-- ITS FALSE NEIGHBOUR: 'it returns false'. Refute it at one input. -/
def dmaNoneWrong : ChangeSpec := { name := "dmaNone", fn := fun _ => fun
  | [d] => { results := [.lit (.bool false)], args := [d] }
  | _ => none }
def DmaNoneWrongFalsely : Prop := dmaNoneRow.holds Try.pinned (OpenSpec.ofChange dmaNoneWrong)

/- THE SECOND FORM. 'bulk': how many values and letters a reading holds, each counted each time it is reached (what is shared counts as often as it is met; a slice's spare places count too). A statement '..UptoSaid' is the law's where the arguments, and the package variables that the reading takes, are together of bulk at most 1048576: NARROWER than '..Said'. Prove '..Said' where nothing that the law and all that it calls make is longer than what came in: it says more and counts as full. Else prove '..UptoSaid'. A law counts once. -/
mutual
def uptoBulk {H : Type} : DataW H → Nat
  | .lit (.string bytes) => bytes.length + 1
  | .lit _ => 1
  | .nil => 1
  | .ptr d => uptoBulk d + 1
  | .slice elems spare => uptoBulkAll elems + uptoBulkAll spare + 1
  | .agg parts => uptoBulkAll parts + 1
  | .iface _ d => uptoBulk d + 1
  | .map entries => uptoBulkEntries entries + 1
  | .held _ => 1
def uptoBulkAll {H : Type} : List (DataW H) → Nat
  | [] => 0
  | d :: r => uptoBulk d + uptoBulkAll r
def uptoBulkEntries {H : Type} : List (Lit × DataW H) → Nat
  | [] => 0
  | x :: r => uptoBulkEntry x + uptoBulkEntries r
def uptoBulkEntry {H : Type} : Lit × DataW H → Nat
  | (.string bytes, d) => bytes.length + uptoBulk d + 1
  | (_, d) => uptoBulk d + 1
 end
def uptoSmall : (H : Type) → List (DataW H) → Bool := fun _ ds => decide (uptoBulkAll ds ≤ 1048576)
def OpenSpec.upto (s : _root_.Go.ChangeSpec) : _root_.Go.OpenSpec := { _root_.Go.OpenSpec.ofChange s with cond := some uptoSmall }

/-- 'cameolaw11.ArmFields', WHERE WHAT IT READS IS OF BULK AT MOST 1048576: true; the input reads as it did. -/
def armFieldsUptoRow : OpenClaim := { program := "ytafhbnafigjinaa", sum := "cf86bcfcac2c14201b1369ac47d8f395a494831ad9604ed41bd258fa018709e1", func := "cameo/cameolaw11.ArmFields", spec := "armFields", plainKeys := false, apart := false, narrowed := true }
def ArmFieldsUptoSaid : Prop := armFieldsUptoRow.holds Try.pinned (OpenSpec.upto armFieldsSpec)

/-- 'cameolaw11.ArmBranches', WHERE WHAT IT READS IS OF BULK AT MOST 1048576: true; the input reads as it did. -/
def armBranchesUptoRow : OpenClaim := { program := "ytafhbnafigjinaa", sum := "cf86bcfcac2c14201b1369ac47d8f395a494831ad9604ed41bd258fa018709e1", func := "cameo/cameolaw11.ArmBranches", spec := "armBranches", plainKeys := false, apart := false, narrowed := true }
def ArmBranchesUptoSaid : Prop := armBranchesUptoRow.holds Try.pinned (OpenSpec.upto armBranchesSpec)

/-- 'cameolaw07.SchedOrder', WHERE WHAT IT READS IS OF BULK AT MOST 1048576: true; the input reads as it did. -/
def schedOrderUptoRow : OpenClaim := { program := "ytafhbnafigjinaa", sum := "cf86bcfcac2c14201b1369ac47d8f395a494831ad9604ed41bd258fa018709e1", func := "cameo/cameolaw07.SchedOrder", spec := "schedOrder", unfollowed := true, recurses := true, plainKeys := false, apart := false, narrowed := true }
def SchedOrderUptoSaid : Prop := schedOrderUptoRow.holds Try.pinned (OpenSpec.upto schedOrderSpec)

/-- 'cameolaw17.DmaCopies', WHERE WHAT IT READS IS OF BULK AT MOST 1048576: true; the input reads as it did. -/
def dmaCopiesUptoRow : OpenClaim := { program := "ytafhbnafigjinaa", sum := "cf86bcfcac2c14201b1369ac47d8f395a494831ad9604ed41bd258fa018709e1", func := "cameo/cameolaw17.DmaCopies", spec := "dmaCopies", unfollowed := true, recurses := true, plainKeys := false, apart := false, narrowed := true }
def DmaCopiesUptoSaid : Prop := dmaCopiesUptoRow.holds Try.pinned (OpenSpec.upto dmaCopiesSpec)

/-- 'cameolaw07.SchedRuns', WHERE WHAT IT READS IS OF BULK AT MOST 1048576: true; the input reads as it did. -/
def schedRunsUptoRow : OpenClaim := { program := "ytafhbnafigjinaa", sum := "cf86bcfcac2c14201b1369ac47d8f395a494831ad9604ed41bd258fa018709e1", func := "cameo/cameolaw07.SchedRuns", spec := "schedRuns", unfollowed := true, recurses := true, plainKeys := false, apart := false, narrowed := true }
def SchedRunsUptoSaid : Prop := schedRunsUptoRow.holds Try.pinned (OpenSpec.upto schedRunsSpec)

/-- 'cameolaw07.SchedNone', WHERE WHAT IT READS IS OF BULK AT MOST 1048576: true; the input reads as it did. -/
def schedNoneUptoRow : OpenClaim := { program := "ytafhbnafigjinaa", sum := "cf86bcfcac2c14201b1369ac47d8f395a494831ad9604ed41bd258fa018709e1", func := "cameo/cameolaw07.SchedNone", spec := "schedNone", unfollowed := true, recurses := true, plainKeys := false, apart := false, narrowed := true }
def SchedNoneUptoSaid : Prop := schedNoneUptoRow.holds Try.pinned (OpenSpec.upto schedNoneSpec)

/-- 'cameolaw17.DmaRepeats', WHERE WHAT IT READS IS OF BULK AT MOST 1048576: true; the input reads as it did. -/
def dmaRepeatsUptoRow : OpenClaim := { program := "ytafhbnafigjinaa", sum := "cf86bcfcac2c14201b1369ac47d8f395a494831ad9604ed41bd258fa018709e1", func := "cameo/cameolaw17.DmaRepeats", spec := "dmaRepeats", unfollowed := true, recurses := true, plainKeys := false, apart := false, narrowed := true }
def DmaRepeatsUptoSaid : Prop := dmaRepeatsUptoRow.holds Try.pinned (OpenSpec.upto dmaRepeatsSpec)

/-- 'cameolaw17.DmaRuns', WHERE WHAT IT READS IS OF BULK AT MOST 1048576: true; the input reads as it did. -/
def dmaRunsUptoRow : OpenClaim := { program := "ytafhbnafigjinaa", sum := "cf86bcfcac2c14201b1369ac47d8f395a494831ad9604ed41bd258fa018709e1", func := "cameo/cameolaw17.DmaRuns", spec := "dmaRuns", unfollowed := true, recurses := true, plainKeys := false, apart := false, narrowed := true }
def DmaRunsUptoSaid : Prop := dmaRunsUptoRow.holds Try.pinned (OpenSpec.upto dmaRunsSpec)

/-- 'cameolaw17.DmaFirst', WHERE WHAT IT READS IS OF BULK AT MOST 1048576: true; the input reads as it did. -/
def dmaFirstUptoRow : OpenClaim := { program := "ytafhbnafigjinaa", sum := "cf86bcfcac2c14201b1369ac47d8f395a494831ad9604ed41bd258fa018709e1", func := "cameo/cameolaw17.DmaFirst", spec := "dmaFirst", unfollowed := true, recurses := true, plainKeys := false, apart := false, narrowed := true }
def DmaFirstUptoSaid : Prop := dmaFirstUptoRow.holds Try.pinned (OpenSpec.upto dmaFirstSpec)

/-- 'cameolaw17.DmaNone', WHERE WHAT IT READS IS OF BULK AT MOST 1048576: true; the input reads as it did. -/
def dmaNoneUptoRow : OpenClaim := { program := "ytafhbnafigjinaa", sum := "cf86bcfcac2c14201b1369ac47d8f395a494831ad9604ed41bd258fa018709e1", func := "cameo/cameolaw17.DmaNone", spec := "dmaNone", unfollowed := true, recurses := true, plainKeys := false, apart := false, narrowed := true }
def DmaNoneUptoSaid : Prop := dmaNoneUptoRow.holds Try.pinned (OpenSpec.upto dmaNoneSpec)

end Rows
end Go.Proofs.Ytafhbnafigjinaa
