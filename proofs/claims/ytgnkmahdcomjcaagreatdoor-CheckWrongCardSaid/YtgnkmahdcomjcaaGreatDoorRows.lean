/-
  NARROWER THAN 'FOR EVERY INPUT', by the rows' own cells (each row's printed sentence says how): CheckWrong: laid · CheckParts: laid · CheckWhole: laid · LedOnes: laid · LedAgain: laid · LedRefuses: laid · LedTorn: laid · LedLasts: laid.
  DERIVED. THE GIVEN ROWS OF THIS SEAT. 8 by the template 'for every input the law returns true; each argument reads behind the call as it read before'; 0 by the template 'total and deterministic' (their statements: YtgnkmahdcomjcaaGreatDoorTotals.lean).
  GIVEN WITH THE SEED: the statements are not yours to turn. If you find one false, say at which input.
  Laid BY PROGRAM, IN A SANDBOX (cutbox-rows.mjs): the forced cells as the released guide's own fill.sh prints them over the translation d6f1f73eb1ff834d… (all of the seat's roots in one cut). By AI agents, Wed Nov 11 2026. No macro, syntax, notation, axiom, sorry.
-/
import Derived.Test.YtgnkmahdcomjcaaGreatDoorChecked
import GoSem.Claim
import GoSem.ClaimJoined
import GoSem.ClaimMapViews
import Derived.JoinedTies
import Derived.KernelRfl
namespace Go.Proofs.YtgnkmahdcomjcaaGreatDoor
/- THE CELL 'sum', in the pinned program and in every row, IS THE sha256 OF THE DUMP (.gsa) THAT YtgnkmahdcomjcaaGreatDoorProg.lean LOADS. Nothing in Lean hashes anything: it is a label: what it is worth is what the hold of that sum in a sandbox is worth. -/
noncomputable def Tryz.pinned : Pinned := { name := "ytgnkmahdcomjcaagreatdoor", sum := "d6f1f73eb1ff834dc5e436b84d40ac4fb2d76acd60a1cb5d3443d767f87556a0", checked := Tryz.checked }
namespace Rows
def none {H : Type} : Left H := { results := [], args := [] }

/- WHAT THE LISTED PACKAGE-LEVEL VARIABLES READ AS WHEN THE CALL BEGINS. Each datum BY PROGRAM (the guide's laid-datum.mjs) off the statement by which the dump's own 'gosem.cut.vars' lays the variable. In a bare row this is a premise. The card (YtgnkmahdcomjcaaGreatDoorCards.lean) ties it to the program's text. -/
def laid_errors_errorType {H : Type} : DataW H := .iface "internal/reflectlite.rtype" (.agg [.ptr (.lit (.string [101, 114, 114, 111, 114]))])

/-- 'dynamolaw11.CheckWrong': WHATEVER THE INPUT: true; the input reads as it did. -/
def checkWrongSpec : ChangeSpec := { name := "checkWrong", fn := fun _ => fun
  | [d1, d2, d3, d4] => { results := [.lit (.bool true)], args := [d1, d2, d3, d4] }
  | _ => none }
def checkWrongRow : OpenClaim := { program := "ytgnkmahdcomjcaagreatdoor", sum := "d6f1f73eb1ff834dc5e436b84d40ac4fb2d76acd60a1cb5d3443d767f87556a0", func := "dynamo/dynamolaw11.CheckWrong", spec := "checkWrong", inPlace := ["internal/reflectlite.TypeOf", "slices.overlaps[int]", "slices.overlaps[string]", "internal/reflectlite.ValueOf", "(internal/reflectlite.Value).Type", "(internal/reflectlite.Value).IsNil", "(internal/reflectlite.Value).Elem", "(internal/reflectlite.Value).Set"], unfollowed := true, recurses := true, named := ["errors.errorType"], apart := false, laid := [("errors.errorType", laid_errors_errorType)] }
def CheckWrongSaid : Prop := checkWrongRow.holds Tryz.pinned (OpenSpec.ofChange checkWrongSpec)

/-- ITS FALSE NEIGHBOUR: 'it returns false'. Refute it at one input. -/
def checkWrongWrong : ChangeSpec := { name := "checkWrong", fn := fun _ => fun
  | [d1, d2, d3, d4] => { results := [.lit (.bool false)], args := [d1, d2, d3, d4] }
  | _ => none }
def CheckWrongWrongFalsely : Prop := checkWrongRow.holds Tryz.pinned (OpenSpec.ofChange checkWrongWrong)

/-- 'dynamolaw11.CheckParts': WHATEVER THE INPUT: true; the input reads as it did. -/
def checkPartsSpec : ChangeSpec := { name := "checkParts", fn := fun _ => fun
  | [d1, d2] => { results := [.lit (.bool true)], args := [d1, d2] }
  | _ => none }
def checkPartsRow : OpenClaim := { program := "ytgnkmahdcomjcaagreatdoor", sum := "d6f1f73eb1ff834dc5e436b84d40ac4fb2d76acd60a1cb5d3443d767f87556a0", func := "dynamo/dynamolaw11.CheckParts", spec := "checkParts", inPlace := ["internal/reflectlite.TypeOf", "slices.overlaps[int]", "slices.overlaps[string]", "internal/reflectlite.ValueOf", "(internal/reflectlite.Value).Type", "(internal/reflectlite.Value).IsNil", "(internal/reflectlite.Value).Elem", "(internal/reflectlite.Value).Set"], unfollowed := true, recurses := true, named := ["errors.errorType"], apart := false, laid := [("errors.errorType", laid_errors_errorType)] }
def CheckPartsSaid : Prop := checkPartsRow.holds Tryz.pinned (OpenSpec.ofChange checkPartsSpec)

/-- ITS FALSE NEIGHBOUR: 'it returns false'. Refute it at one input. -/
def checkPartsWrong : ChangeSpec := { name := "checkParts", fn := fun _ => fun
  | [d1, d2] => { results := [.lit (.bool false)], args := [d1, d2] }
  | _ => none }
def CheckPartsWrongFalsely : Prop := checkPartsRow.holds Tryz.pinned (OpenSpec.ofChange checkPartsWrong)

/-- 'dynamolaw11.CheckWhole': WHATEVER THE INPUT: true; the input reads as it did. -/
def checkWholeSpec : ChangeSpec := { name := "checkWhole", fn := fun _ => fun
  | [d1, d2, d3] => { results := [.lit (.bool true)], args := [d1, d2, d3] }
  | _ => none }
def checkWholeRow : OpenClaim := { program := "ytgnkmahdcomjcaagreatdoor", sum := "d6f1f73eb1ff834dc5e436b84d40ac4fb2d76acd60a1cb5d3443d767f87556a0", func := "dynamo/dynamolaw11.CheckWhole", spec := "checkWhole", inPlace := ["internal/reflectlite.TypeOf", "slices.overlaps[int]", "slices.overlaps[string]", "internal/reflectlite.ValueOf", "(internal/reflectlite.Value).Type", "(internal/reflectlite.Value).IsNil", "(internal/reflectlite.Value).Elem", "(internal/reflectlite.Value).Set"], unfollowed := true, recurses := true, named := ["errors.errorType"], apart := false, laid := [("errors.errorType", laid_errors_errorType)] }
def CheckWholeSaid : Prop := checkWholeRow.holds Tryz.pinned (OpenSpec.ofChange checkWholeSpec)

/-- ITS FALSE NEIGHBOUR: 'it returns false'. Refute it at one input. -/
def checkWholeWrong : ChangeSpec := { name := "checkWhole", fn := fun _ => fun
  | [d1, d2, d3] => { results := [.lit (.bool false)], args := [d1, d2, d3] }
  | _ => none }
def CheckWholeWrongFalsely : Prop := checkWholeRow.holds Tryz.pinned (OpenSpec.ofChange checkWholeWrong)

/-- 'dynamolaw13.LedOnes': WHATEVER THE INPUT: true; the input reads as it did. -/
def ledOnesSpec : ChangeSpec := { name := "ledOnes", fn := fun _ => fun
  | [d] => { results := [.lit (.bool true)], args := [d] }
  | _ => none }
def ledOnesRow : OpenClaim := { program := "ytgnkmahdcomjcaagreatdoor", sum := "d6f1f73eb1ff834dc5e436b84d40ac4fb2d76acd60a1cb5d3443d767f87556a0", func := "dynamo/dynamolaw13.LedOnes", spec := "ledOnes", inPlace := ["internal/reflectlite.TypeOf", "slices.overlaps[int]", "slices.overlaps[string]", "internal/reflectlite.ValueOf", "(internal/reflectlite.Value).Type", "(internal/reflectlite.Value).IsNil", "(internal/reflectlite.Value).Elem", "(internal/reflectlite.Value).Set"], unfollowed := true, recurses := true, named := ["errors.errorType"], apart := false, laid := [("errors.errorType", laid_errors_errorType)] }
def LedOnesSaid : Prop := ledOnesRow.holds Tryz.pinned (OpenSpec.ofChange ledOnesSpec)

/-- ITS FALSE NEIGHBOUR: 'it returns false'. Refute it at one input. -/
def ledOnesWrong : ChangeSpec := { name := "ledOnes", fn := fun _ => fun
  | [d] => { results := [.lit (.bool false)], args := [d] }
  | _ => none }
def LedOnesWrongFalsely : Prop := ledOnesRow.holds Tryz.pinned (OpenSpec.ofChange ledOnesWrong)

/-- 'dynamolaw13.LedAgain': WHATEVER THE INPUT: true; the input reads as it did. -/
def ledAgainSpec : ChangeSpec := { name := "ledAgain", fn := fun _ => fun
  | [d] => { results := [.lit (.bool true)], args := [d] }
  | _ => none }
def ledAgainRow : OpenClaim := { program := "ytgnkmahdcomjcaagreatdoor", sum := "d6f1f73eb1ff834dc5e436b84d40ac4fb2d76acd60a1cb5d3443d767f87556a0", func := "dynamo/dynamolaw13.LedAgain", spec := "ledAgain", inPlace := ["internal/reflectlite.TypeOf", "slices.overlaps[int]", "slices.overlaps[string]", "internal/reflectlite.ValueOf", "(internal/reflectlite.Value).Type", "(internal/reflectlite.Value).IsNil", "(internal/reflectlite.Value).Elem", "(internal/reflectlite.Value).Set"], unfollowed := true, recurses := true, named := ["errors.errorType"], apart := false, laid := [("errors.errorType", laid_errors_errorType)] }
def LedAgainSaid : Prop := ledAgainRow.holds Tryz.pinned (OpenSpec.ofChange ledAgainSpec)

/-- ITS FALSE NEIGHBOUR: 'it returns false'. Refute it at one input. -/
def ledAgainWrong : ChangeSpec := { name := "ledAgain", fn := fun _ => fun
  | [d] => { results := [.lit (.bool false)], args := [d] }
  | _ => none }
def LedAgainWrongFalsely : Prop := ledAgainRow.holds Tryz.pinned (OpenSpec.ofChange ledAgainWrong)

/-- 'dynamolaw13.LedRefuses': WHATEVER THE INPUT: true; the input reads as it did. -/
def ledRefusesSpec : ChangeSpec := { name := "ledRefuses", fn := fun _ => fun
  | [d1, d2, d3] => { results := [.lit (.bool true)], args := [d1, d2, d3] }
  | _ => none }
def ledRefusesRow : OpenClaim := { program := "ytgnkmahdcomjcaagreatdoor", sum := "d6f1f73eb1ff834dc5e436b84d40ac4fb2d76acd60a1cb5d3443d767f87556a0", func := "dynamo/dynamolaw13.LedRefuses", spec := "ledRefuses", inPlace := ["internal/reflectlite.TypeOf", "slices.overlaps[int]", "slices.overlaps[string]", "internal/reflectlite.ValueOf", "(internal/reflectlite.Value).Type", "(internal/reflectlite.Value).IsNil", "(internal/reflectlite.Value).Elem", "(internal/reflectlite.Value).Set"], unfollowed := true, recurses := true, named := ["errors.errorType"], apart := false, laid := [("errors.errorType", laid_errors_errorType)] }
def LedRefusesSaid : Prop := ledRefusesRow.holds Tryz.pinned (OpenSpec.ofChange ledRefusesSpec)

/-- ITS FALSE NEIGHBOUR: 'it returns false'. Refute it at one input. -/
def ledRefusesWrong : ChangeSpec := { name := "ledRefuses", fn := fun _ => fun
  | [d1, d2, d3] => { results := [.lit (.bool false)], args := [d1, d2, d3] }
  | _ => none }
def LedRefusesWrongFalsely : Prop := ledRefusesRow.holds Tryz.pinned (OpenSpec.ofChange ledRefusesWrong)

/-- 'dynamolaw13.LedTorn': WHATEVER THE INPUT: true; the input reads as it did. -/
def ledTornSpec : ChangeSpec := { name := "ledTorn", fn := fun _ => fun
  | [d1, d2, d3, d4] => { results := [.lit (.bool true)], args := [d1, d2, d3, d4] }
  | _ => none }
def ledTornRow : OpenClaim := { program := "ytgnkmahdcomjcaagreatdoor", sum := "d6f1f73eb1ff834dc5e436b84d40ac4fb2d76acd60a1cb5d3443d767f87556a0", func := "dynamo/dynamolaw13.LedTorn", spec := "ledTorn", inPlace := ["internal/reflectlite.TypeOf", "slices.overlaps[int]", "slices.overlaps[string]", "internal/reflectlite.ValueOf", "(internal/reflectlite.Value).Type", "(internal/reflectlite.Value).IsNil", "(internal/reflectlite.Value).Elem", "(internal/reflectlite.Value).Set"], unfollowed := true, recurses := true, named := ["errors.errorType"], apart := false, laid := [("errors.errorType", laid_errors_errorType)] }
def LedTornSaid : Prop := ledTornRow.holds Tryz.pinned (OpenSpec.ofChange ledTornSpec)

/-- ITS FALSE NEIGHBOUR: 'it returns false'. Refute it at one input. -/
def ledTornWrong : ChangeSpec := { name := "ledTorn", fn := fun _ => fun
  | [d1, d2, d3, d4] => { results := [.lit (.bool false)], args := [d1, d2, d3, d4] }
  | _ => none }
def LedTornWrongFalsely : Prop := ledTornRow.holds Tryz.pinned (OpenSpec.ofChange ledTornWrong)

/-- 'dynamolaw13.LedLasts': WHATEVER THE INPUT: true; the input reads as it did. -/
def ledLastsSpec : ChangeSpec := { name := "ledLasts", fn := fun _ => fun
  | [d1, d2] => { results := [.lit (.bool true)], args := [d1, d2] }
  | _ => none }
def ledLastsRow : OpenClaim := { program := "ytgnkmahdcomjcaagreatdoor", sum := "d6f1f73eb1ff834dc5e436b84d40ac4fb2d76acd60a1cb5d3443d767f87556a0", func := "dynamo/dynamolaw13.LedLasts", spec := "ledLasts", inPlace := ["internal/reflectlite.TypeOf", "slices.overlaps[int]", "slices.overlaps[string]", "internal/reflectlite.ValueOf", "(internal/reflectlite.Value).Type", "(internal/reflectlite.Value).IsNil", "(internal/reflectlite.Value).Elem", "(internal/reflectlite.Value).Set"], unfollowed := true, recurses := true, named := ["errors.errorType"], apart := false, laid := [("errors.errorType", laid_errors_errorType)] }
def LedLastsSaid : Prop := ledLastsRow.holds Tryz.pinned (OpenSpec.ofChange ledLastsSpec)

/-- ITS FALSE NEIGHBOUR: 'it returns false'. Refute it at one input. -/
def ledLastsWrong : ChangeSpec := { name := "ledLasts", fn := fun _ => fun
  | [d1, d2] => { results := [.lit (.bool false)], args := [d1, d2] }
  | _ => none }
def LedLastsWrongFalsely : Prop := ledLastsRow.holds Tryz.pinned (OpenSpec.ofChange ledLastsWrong)

/- THE SECOND FORM. 'bulk': how many values and letters a reading holds, each counted each time it is reached (what is shared counts as often as it is met; a slice's spare places count too). A statement '..UptoSaid' is the law's where the arguments, and the package variables that the reading takes, are together of bulk at most 1048576: NARROWER than '..Said'. Prove '..Said' where nothing that the law and all that it calls make is longer than what came in: it says more and counts as full. Else prove '..UptoSaid'. A law counts once. -/
mutual
def uptoBulk {H : Type} : DataW H → Nat
  | .lit (.string bytes) => bytes.length + 1
  | .lit _ => 1
  | .nil => 1
  | .ptr d => uptoBulk d + 1
  | .slice elems spare => uptoBulkAll elems + uptoBulkAll spare + 1
  | .agg parts => uptoBulkAll parts + 1
  | .iface _ d => uptoBulk d + 1
  | .map entries => uptoBulkEntries entries + 1
  | .held _ => 1
def uptoBulkAll {H : Type} : List (DataW H) → Nat
  | [] => 0
  | d :: r => uptoBulk d + uptoBulkAll r
def uptoBulkEntries {H : Type} : List (Lit × DataW H) → Nat
  | [] => 0
  | x :: r => uptoBulkEntry x + uptoBulkEntries r
def uptoBulkEntry {H : Type} : Lit × DataW H → Nat
  | (.string bytes, d) => bytes.length + uptoBulk d + 1
  | (_, d) => uptoBulk d + 1
 end
def uptoSmall : (H : Type) → List (DataW H) → Bool := fun _ ds => decide (uptoBulkAll ds ≤ 1048576)
def OpenSpec.upto (s : _root_.Go.ChangeSpec) : _root_.Go.OpenSpec := { _root_.Go.OpenSpec.ofChange s with cond := some uptoSmall }

/-- 'dynamolaw11.CheckWrong', WHERE WHAT IT READS IS OF BULK AT MOST 1048576: true; the input reads as it did. -/
def checkWrongUptoRow : OpenClaim := { program := "ytgnkmahdcomjcaagreatdoor", sum := "d6f1f73eb1ff834dc5e436b84d40ac4fb2d76acd60a1cb5d3443d767f87556a0", func := "dynamo/dynamolaw11.CheckWrong", spec := "checkWrong", inPlace := ["internal/reflectlite.TypeOf", "slices.overlaps[int]", "slices.overlaps[string]", "internal/reflectlite.ValueOf", "(internal/reflectlite.Value).Type", "(internal/reflectlite.Value).IsNil", "(internal/reflectlite.Value).Elem", "(internal/reflectlite.Value).Set"], unfollowed := true, recurses := true, named := ["errors.errorType"], apart := false, laid := [("errors.errorType", laid_errors_errorType)], narrowed := true }
def CheckWrongUptoSaid : Prop := checkWrongUptoRow.holds Tryz.pinned (OpenSpec.upto checkWrongSpec)

/-- 'dynamolaw11.CheckParts', WHERE WHAT IT READS IS OF BULK AT MOST 1048576: true; the input reads as it did. -/
def checkPartsUptoRow : OpenClaim := { program := "ytgnkmahdcomjcaagreatdoor", sum := "d6f1f73eb1ff834dc5e436b84d40ac4fb2d76acd60a1cb5d3443d767f87556a0", func := "dynamo/dynamolaw11.CheckParts", spec := "checkParts", inPlace := ["internal/reflectlite.TypeOf", "slices.overlaps[int]", "slices.overlaps[string]", "internal/reflectlite.ValueOf", "(internal/reflectlite.Value).Type", "(internal/reflectlite.Value).IsNil", "(internal/reflectlite.Value).Elem", "(internal/reflectlite.Value).Set"], unfollowed := true, recurses := true, named := ["errors.errorType"], apart := false, laid := [("errors.errorType", laid_errors_errorType)], narrowed := true }
def CheckPartsUptoSaid : Prop := checkPartsUptoRow.holds Tryz.pinned (OpenSpec.upto checkPartsSpec)

/-- 'dynamolaw11.CheckWhole', WHERE WHAT IT READS IS OF BULK AT MOST 1048576: true; the input reads as it did. -/
def checkWholeUptoRow : OpenClaim := { program := "ytgnkmahdcomjcaagreatdoor", sum := "d6f1f73eb1ff834dc5e436b84d40ac4fb2d76acd60a1cb5d3443d767f87556a0", func := "dynamo/dynamolaw11.CheckWhole", spec := "checkWhole", inPlace := ["internal/reflectlite.TypeOf", "slices.overlaps[int]", "slices.overlaps[string]", "internal/reflectlite.ValueOf", "(internal/reflectlite.Value).Type", "(internal/reflectlite.Value).IsNil", "(internal/reflectlite.Value).Elem", "(internal/reflectlite.Value).Set"], unfollowed := true, recurses := true, named := ["errors.errorType"], apart := false, laid := [("errors.errorType", laid_errors_errorType)], narrowed := true }
def CheckWholeUptoSaid : Prop := checkWholeUptoRow.holds Tryz.pinned (OpenSpec.upto checkWholeSpec)

/-- 'dynamolaw13.LedOnes', WHERE WHAT IT READS IS OF BULK AT MOST 1048576: true; the input reads as it did. -/
def ledOnesUptoRow : OpenClaim := { program := "ytgnkmahdcomjcaagreatdoor", sum := "d6f1f73eb1ff834dc5e436b84d40ac4fb2d76acd60a1cb5d3443d767f87556a0", func := "dynamo/dynamolaw13.LedOnes", spec := "ledOnes", inPlace := ["internal/reflectlite.TypeOf", "slices.overlaps[int]", "slices.overlaps[string]", "internal/reflectlite.ValueOf", "(internal/reflectlite.Value).Type", "(internal/reflectlite.Value).IsNil", "(internal/reflectlite.Value).Elem", "(internal/reflectlite.Value).Set"], unfollowed := true, recurses := true, named := ["errors.errorType"], apart := false, laid := [("errors.errorType", laid_errors_errorType)], narrowed := true }
def LedOnesUptoSaid : Prop := ledOnesUptoRow.holds Tryz.pinned (OpenSpec.upto ledOnesSpec)

/-- 'dynamolaw13.LedAgain', WHERE WHAT IT READS IS OF BULK AT MOST 1048576: true; the input reads as it did. -/
def ledAgainUptoRow : OpenClaim := { program := "ytgnkmahdcomjcaagreatdoor", sum := "d6f1f73eb1ff834dc5e436b84d40ac4fb2d76acd60a1cb5d3443d767f87556a0", func := "dynamo/dynamolaw13.LedAgain", spec := "ledAgain", inPlace := ["internal/reflectlite.TypeOf", "slices.overlaps[int]", "slices.overlaps[string]", "internal/reflectlite.ValueOf", "(internal/reflectlite.Value).Type", "(internal/reflectlite.Value).IsNil", "(internal/reflectlite.Value).Elem", "(internal/reflectlite.Value).Set"], unfollowed := true, recurses := true, named := ["errors.errorType"], apart := false, laid := [("errors.errorType", laid_errors_errorType)], narrowed := true }
def LedAgainUptoSaid : Prop := ledAgainUptoRow.holds Tryz.pinned (OpenSpec.upto ledAgainSpec)

/-- 'dynamolaw13.LedRefuses', WHERE WHAT IT READS IS OF BULK AT MOST 1048576: true; the input reads as it did. -/
def ledRefusesUptoRow : OpenClaim := { program := "ytgnkmahdcomjcaagreatdoor", sum := "d6f1f73eb1ff834dc5e436b84d40ac4fb2d76acd60a1cb5d3443d767f87556a0", func := "dynamo/dynamolaw13.LedRefuses", spec := "ledRefuses", inPlace := ["internal/reflectlite.TypeOf", "slices.overlaps[int]", "slices.overlaps[string]", "internal/reflectlite.ValueOf", "(internal/reflectlite.Value).Type", "(internal/reflectlite.Value).IsNil", "(internal/reflectlite.Value).Elem", "(internal/reflectlite.Value).Set"], unfollowed := true, recurses := true, named := ["errors.errorType"], apart := false, laid := [("errors.errorType", laid_errors_errorType)], narrowed := true }
def LedRefusesUptoSaid : Prop := ledRefusesUptoRow.holds Tryz.pinned (OpenSpec.upto ledRefusesSpec)

/-- 'dynamolaw13.LedTorn', WHERE WHAT IT READS IS OF BULK AT MOST 1048576: true; the input reads as it did. -/
def ledTornUptoRow : OpenClaim := { program := "ytgnkmahdcomjcaagreatdoor", sum := "d6f1f73eb1ff834dc5e436b84d40ac4fb2d76acd60a1cb5d3443d767f87556a0", func := "dynamo/dynamolaw13.LedTorn", spec := "ledTorn", inPlace := ["internal/reflectlite.TypeOf", "slices.overlaps[int]", "slices.overlaps[string]", "internal/reflectlite.ValueOf", "(internal/reflectlite.Value).Type", "(internal/reflectlite.Value).IsNil", "(internal/reflectlite.Value).Elem", "(internal/reflectlite.Value).Set"], unfollowed := true, recurses := true, named := ["errors.errorType"], apart := false, laid := [("errors.errorType", laid_errors_errorType)], narrowed := true }
def LedTornUptoSaid : Prop := ledTornUptoRow.holds Tryz.pinned (OpenSpec.upto ledTornSpec)

/-- 'dynamolaw13.LedLasts', WHERE WHAT IT READS IS OF BULK AT MOST 1048576: true; the input reads as it did. -/
def ledLastsUptoRow : OpenClaim := { program := "ytgnkmahdcomjcaagreatdoor", sum := "d6f1f73eb1ff834dc5e436b84d40ac4fb2d76acd60a1cb5d3443d767f87556a0", func := "dynamo/dynamolaw13.LedLasts", spec := "ledLasts", inPlace := ["internal/reflectlite.TypeOf", "slices.overlaps[int]", "slices.overlaps[string]", "internal/reflectlite.ValueOf", "(internal/reflectlite.Value).Type", "(internal/reflectlite.Value).IsNil", "(internal/reflectlite.Value).Elem", "(internal/reflectlite.Value).Set"], unfollowed := true, recurses := true, named := ["errors.errorType"], apart := false, laid := [("errors.errorType", laid_errors_errorType)], narrowed := true }
def LedLastsUptoSaid : Prop := ledLastsUptoRow.holds Tryz.pinned (OpenSpec.upto ledLastsSpec)

end Rows
end Go.Proofs.YtgnkmahdcomjcaaGreatDoor
