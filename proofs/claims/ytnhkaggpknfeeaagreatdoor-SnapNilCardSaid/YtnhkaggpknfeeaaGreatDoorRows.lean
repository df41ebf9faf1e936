/-
  NARROWER THAN 'FOR EVERY INPUT', by the rows' own cells (each row's printed sentence says how): ExecSets: laid · PlanMakes: laid · PlanKeeps: laid · PlanApart: laid · ExecMoves: laid · ExecNil: laid · PlanTotal: laid · PlanRight: laid · SnapNil: laid · SnapTells: laid · SnapBurst: laid · SnapCut: laid · SnapPlan: laid · SnapBack: laid.
  DERIVED. THE GIVEN ROWS OF THIS SEAT. 14 by the template 'for every input the law returns true; each argument reads behind the call as it read before'; 0 by the template 'total and deterministic' (their statements: YtnhkaggpknfeeaaGreatDoorTotals.lean).
  GIVEN WITH THE SEED: the statements are not yours to turn. If you find one false, say at which input.
  Laid BY PROGRAM, IN A SANDBOX (cutbox-rows.mjs): the forced cells as the released guide's own fill.sh prints them over the translation 212abc4efbdc3762… (all of the seat's roots in one cut). By AI agents, Wed Nov 11 2026. No macro, syntax, notation, axiom, sorry.
-/
import Derived.Test.YtnhkaggpknfeeaaGreatDoorChecked
import GoSem.Claim
import GoSem.ClaimJoined
import GoSem.ClaimMapViews
import Derived.JoinedTies
import Derived.KernelRfl
namespace Go.Proofs.YtnhkaggpknfeeaaGreatDoor
/- THE CELL 'sum', in the pinned program and in every row, IS THE sha256 OF THE DUMP (.gsa) THAT YtnhkaggpknfeeaaGreatDoorProg.lean LOADS. Nothing in Lean hashes anything: it is a label: what it is worth is what the hold of that sum in a sandbox is worth. -/
noncomputable def Tryz.pinned : Pinned := { name := "ytnhkaggpknfeeaagreatdoor", sum := "212abc4efbdc3762413700ce976737632c8bd463b924eac54249cd24d32879fd", checked := Tryz.checked }
namespace Rows
def none {H : Type} : Left H := { results := [], args := [] }

/- WHAT THE LISTED PACKAGE-LEVEL VARIABLES READ AS WHEN THE CALL BEGINS. Each datum BY PROGRAM (the guide's laid-datum.mjs) off the statement by which the dump's own 'gosem.cut.vars' lays the variable. In a bare row this is a premise. The card (YtnhkaggpknfeeaaGreatDoorCards.lean) ties it to the program's text. -/
def laid_earshot_kind_kinds {H : Type} : DataW H := .agg [.lit (.int .i64 0), .lit (.int .i64 7), .lit (.int .i64 5), .lit (.int .i64 1), .lit (.int .i64 1), .lit (.int .i64 0), .lit (.int .i64 6), .lit (.int .i64 8), .lit (.int .i64 8), .lit (.int .i64 32), .lit (.int .i64 64), .lit (.int .i64 0), .lit (.int .i64 16)]

/-- 'earshotlaw23.ExecSets': WHATEVER THE INPUT: true; the input reads as it did. -/
def execSetsSpec : ChangeSpec := { name := "execSets", fn := fun _ => fun
  | [d1, d2, d3] => { results := [.lit (.bool true)], args := [d1, d2, d3] }
  | _ => none }
def execSetsRow : OpenClaim := { program := "ytnhkaggpknfeeaagreatdoor", sum := "212abc4efbdc3762413700ce976737632c8bd463b924eac54249cd24d32879fd", func := "earshot/earshotlaw23.ExecSets", spec := "execSets", unfollowed := true, recurses := true, named := ["earshot/kind.kinds"], apart := false, laid := [("earshot/kind.kinds", laid_earshot_kind_kinds)] }
def ExecSetsSaid : Prop := execSetsRow.holds Tryz.pinned (OpenSpec.ofChange execSetsSpec)

/-- ITS FALSE NEIGHBOUR: 'it returns false'. Refute it at one input. -/
def execSetsWrong : ChangeSpec := { name := "execSets", fn := fun _ => fun
  | [d1, d2, d3] => { results := [.lit (.bool false)], args := [d1, d2, d3] }
  | _ => none }
def ExecSetsWrongFalsely : Prop := execSetsRow.holds Tryz.pinned (OpenSpec.ofChange execSetsWrong)

/-- 'earshotlaw22.PlanMakes': WHATEVER THE INPUT: true; the input reads as it did. -/
def planMakesSpec : ChangeSpec := { name := "planMakes", fn := fun _ => fun
  | [d1, d2, d3] => { results := [.lit (.bool true)], args := [d1, d2, d3] }
  | _ => none }
def planMakesRow : OpenClaim := { program := "ytnhkaggpknfeeaagreatdoor", sum := "212abc4efbdc3762413700ce976737632c8bd463b924eac54249cd24d32879fd", func := "earshot/earshotlaw22.PlanMakes", spec := "planMakes", unfollowed := true, recurses := true, named := ["earshot/kind.kinds"], apart := false, laid := [("earshot/kind.kinds", laid_earshot_kind_kinds)] }
def PlanMakesSaid : Prop := planMakesRow.holds Tryz.pinned (OpenSpec.ofChange planMakesSpec)

/-- ITS FALSE NEIGHBOUR: 'it returns false'. Refute it at one input. -/
def planMakesWrong : ChangeSpec := { name := "planMakes", fn := fun _ => fun
  | [d1, d2, d3] => { results := [.lit (.bool false)], args := [d1, d2, d3] }
  | _ => none }
def PlanMakesWrongFalsely : Prop := planMakesRow.holds Tryz.pinned (OpenSpec.ofChange planMakesWrong)

/-- 'earshotlaw22.PlanKeeps': WHATEVER THE INPUT: true; the input reads as it did. -/
def planKeepsSpec : ChangeSpec := { name := "planKeeps", fn := fun _ => fun
  | [d1, d2, d3] => { results := [.lit (.bool true)], args := [d1, d2, d3] }
  | _ => none }
def planKeepsRow : OpenClaim := { program := "ytnhkaggpknfeeaagreatdoor", sum := "212abc4efbdc3762413700ce976737632c8bd463b924eac54249cd24d32879fd", func := "earshot/earshotlaw22.PlanKeeps", spec := "planKeeps", unfollowed := true, recurses := true, named := ["earshot/kind.kinds"], apart := false, laid := [("earshot/kind.kinds", laid_earshot_kind_kinds)] }
def PlanKeepsSaid : Prop := planKeepsRow.holds Tryz.pinned (OpenSpec.ofChange planKeepsSpec)

/-- ITS FALSE NEIGHBOUR: 'it returns false'. Refute it at one input. -/
def planKeepsWrong : ChangeSpec := { name := "planKeeps", fn := fun _ => fun
  | [d1, d2, d3] => { results := [.lit (.bool false)], args := [d1, d2, d3] }
  | _ => none }
def PlanKeepsWrongFalsely : Prop := planKeepsRow.holds Tryz.pinned (OpenSpec.ofChange planKeepsWrong)

/-- 'earshotlaw22.PlanApart': WHATEVER THE INPUT: true; the input reads as it did. -/
def planApartSpec : ChangeSpec := { name := "planApart", fn := fun _ => fun
  | [d1, d2] => { results := [.lit (.bool true)], args := [d1, d2] }
  | _ => none }
def planApartRow : OpenClaim := { program := "ytnhkaggpknfeeaagreatdoor", sum := "212abc4efbdc3762413700ce976737632c8bd463b924eac54249cd24d32879fd", func := "earshot/earshotlaw22.PlanApart", spec := "planApart", unfollowed := true, recurses := true, named := ["earshot/kind.kinds"], apart := false, laid := [("earshot/kind.kinds", laid_earshot_kind_kinds)] }
def PlanApartSaid : Prop := planApartRow.holds Tryz.pinned (OpenSpec.ofChange planApartSpec)

/-- ITS FALSE NEIGHBOUR: 'it returns false'. Refute it at one input. -/
def planApartWrong : ChangeSpec := { name := "planApart", fn := fun _ => fun
  | [d1, d2] => { results := [.lit (.bool false)], args := [d1, d2] }
  | _ => none }
def PlanApartWrongFalsely : Prop := planApartRow.holds Tryz.pinned (OpenSpec.ofChange planApartWrong)

/-- 'earshotlaw23.ExecMoves': WHATEVER THE INPUT: true; the input reads as it did. -/
def execMovesSpec : ChangeSpec := { name := "execMoves", fn := fun _ => fun
  | [d1, d2, d3] => { results := [.lit (.bool true)], args := [d1, d2, d3] }
  | _ => none }
def execMovesRow : OpenClaim := { program := "ytnhkaggpknfeeaagreatdoor", sum := "212abc4efbdc3762413700ce976737632c8bd463b924eac54249cd24d32879fd", func := "earshot/earshotlaw23.ExecMoves", spec := "execMoves", unfollowed := true, recurses := true, named := ["earshot/kind.kinds"], apart := false, laid := [("earshot/kind.kinds", laid_earshot_kind_kinds)] }
def ExecMovesSaid : Prop := execMovesRow.holds Tryz.pinned (OpenSpec.ofChange execMovesSpec)

/-- ITS FALSE NEIGHBOUR: 'it returns false'. Refute it at one input. -/
def execMovesWrong : ChangeSpec := { name := "execMoves", fn := fun _ => fun
  | [d1, d2, d3] => { results := [.lit (.bool false)], args := [d1, d2, d3] }
  | _ => none }
def ExecMovesWrongFalsely : Prop := execMovesRow.holds Tryz.pinned (OpenSpec.ofChange execMovesWrong)

/-- 'earshotlaw23.ExecNil': WHATEVER THE INPUT: true; the input reads as it did. -/
def execNilSpec : ChangeSpec := { name := "execNil", fn := fun _ => fun
  | [d1, d2] => { results := [.lit (.bool true)], args := [d1, d2] }
  | _ => none }
def execNilRow : OpenClaim := { program := "ytnhkaggpknfeeaagreatdoor", sum := "212abc4efbdc3762413700ce976737632c8bd463b924eac54249cd24d32879fd", func := "earshot/earshotlaw23.ExecNil", spec := "execNil", unfollowed := true, recurses := true, named := ["earshot/kind.kinds"], apart := false, laid := [("earshot/kind.kinds", laid_earshot_kind_kinds)] }
def ExecNilSaid : Prop := execNilRow.holds Tryz.pinned (OpenSpec.ofChange execNilSpec)

/-- ITS FALSE NEIGHBOUR: 'it returns false'. Refute it at one input. -/
def execNilWrong : ChangeSpec := { name := "execNil", fn := fun _ => fun
  | [d1, d2] => { results := [.lit (.bool false)], args := [d1, d2] }
  | _ => none }
def ExecNilWrongFalsely : Prop := execNilRow.holds Tryz.pinned (OpenSpec.ofChange execNilWrong)

/-- 'earshotlaw22.PlanTotal': WHATEVER THE INPUT: true; the input reads as it did. -/
def planTotalSpec : ChangeSpec := { name := "planTotal", fn := fun _ => fun
  | [d1, d2, d3] => { results := [.lit (.bool true)], args := [d1, d2, d3] }
  | _ => none }
def planTotalRow : OpenClaim := { program := "ytnhkaggpknfeeaagreatdoor", sum := "212abc4efbdc3762413700ce976737632c8bd463b924eac54249cd24d32879fd", func := "earshot/earshotlaw22.PlanTotal", spec := "planTotal", unfollowed := true, recurses := true, named := ["earshot/kind.kinds"], apart := false, laid := [("earshot/kind.kinds", laid_earshot_kind_kinds)] }
def PlanTotalSaid : Prop := planTotalRow.holds Tryz.pinned (OpenSpec.ofChange planTotalSpec)

/-- ITS FALSE NEIGHBOUR: 'it returns false'. Refute it at one input. -/
def planTotalWrong : ChangeSpec := { name := "planTotal", fn := fun _ => fun
  | [d1, d2, d3] => { results := [.lit (.bool false)], args := [d1, d2, d3] }
  | _ => none }
def PlanTotalWrongFalsely : Prop := planTotalRow.holds Tryz.pinned (OpenSpec.ofChange planTotalWrong)

/-- 'earshotlaw22.PlanRight': WHATEVER THE INPUT: true; the input reads as it did. -/
def planRightSpec : ChangeSpec := { name := "planRight", fn := fun _ => fun
  | [d1, d2, d3] => { results := [.lit (.bool true)], args := [d1, d2, d3] }
  | _ => none }
def planRightRow : OpenClaim := { program := "ytnhkaggpknfeeaagreatdoor", sum := "212abc4efbdc3762413700ce976737632c8bd463b924eac54249cd24d32879fd", func := "earshot/earshotlaw22.PlanRight", spec := "planRight", unfollowed := true, recurses := true, named := ["earshot/kind.kinds"], apart := false, laid := [("earshot/kind.kinds", laid_earshot_kind_kinds)] }
def PlanRightSaid : Prop := planRightRow.holds Tryz.pinned (OpenSpec.ofChange planRightSpec)

/-- ITS FALSE NEIGHBOUR: 'it returns false'. Refute it at one input. -/
def planRightWrong : ChangeSpec := { name := "planRight", fn := fun _ => fun
  | [d1, d2, d3] => { results := [.lit (.bool false)], args := [d1, d2, d3] }
  | _ => none }
def PlanRightWrongFalsely : Prop := planRightRow.holds Tryz.pinned (OpenSpec.ofChange planRightWrong)

/-- 'earshotlaw24.SnapNil': WHATEVER THE INPUT: true; the input reads as it did. -/
def snapNilSpec : ChangeSpec := { name := "snapNil", fn := fun _ => fun
  | [d] => { results := [.lit (.bool true)], args := [d] }
  | _ => none }
def snapNilRow : OpenClaim := { program := "ytnhkaggpknfeeaagreatdoor", sum := "212abc4efbdc3762413700ce976737632c8bd463b924eac54249cd24d32879fd", func := "earshot/earshotlaw24.SnapNil", spec := "snapNil", inPlace := ["internal/abi.NoEscape", "internal/bytealg.MakeNoZero"], unfollowed := true, recurses := true, named := ["earshot/kind.kinds"], apart := false, laid := [("earshot/kind.kinds", laid_earshot_kind_kinds)] }
def SnapNilSaid : Prop := snapNilRow.holds Tryz.pinned (OpenSpec.ofChange snapNilSpec)

/-- ITS FALSE NEIGHBOUR: 'it returns false'. Refute it at one input. -/
def snapNilWrong : ChangeSpec := { name := "snapNil", fn := fun _ => fun
  | [d] => { results := [.lit (.bool false)], args := [d] }
  | _ => none }
def SnapNilWrongFalsely : Prop := snapNilRow.holds Tryz.pinned (OpenSpec.ofChange snapNilWrong)

/-- 'earshotlaw24.SnapTells': WHATEVER THE INPUT: true; the input reads as it did. -/
def snapTellsSpec : ChangeSpec := { name := "snapTells", fn := fun _ => fun
  | [d1, d2, d3] => { results := [.lit (.bool true)], args := [d1, d2, d3] }
  | _ => none }
def snapTellsRow : OpenClaim := { program := "ytnhkaggpknfeeaagreatdoor", sum := "212abc4efbdc3762413700ce976737632c8bd463b924eac54249cd24d32879fd", func := "earshot/earshotlaw24.SnapTells", spec := "snapTells", inPlace := ["internal/abi.NoEscape", "internal/bytealg.MakeNoZero"], unfollowed := true, recurses := true, named := ["earshot/kind.kinds"], apart := false, laid := [("earshot/kind.kinds", laid_earshot_kind_kinds)] }
def SnapTellsSaid : Prop := snapTellsRow.holds Tryz.pinned (OpenSpec.ofChange snapTellsSpec)

/-- ITS FALSE NEIGHBOUR: 'it returns false'. Refute it at one input. -/
def snapTellsWrong : ChangeSpec := { name := "snapTells", fn := fun _ => fun
  | [d1, d2, d3] => { results := [.lit (.bool false)], args := [d1, d2, d3] }
  | _ => none }
def SnapTellsWrongFalsely : Prop := snapTellsRow.holds Tryz.pinned (OpenSpec.ofChange snapTellsWrong)

/-- 'earshotlaw24.SnapBurst': WHATEVER THE INPUT: true; the input reads as it did. -/
def snapBurstSpec : ChangeSpec := { name := "snapBurst", fn := fun _ => fun
  | [d1, d2, d3] => { results := [.lit (.bool true)], args := [d1, d2, d3] }
  | _ => none }
def snapBurstRow : OpenClaim := { program := "ytnhkaggpknfeeaagreatdoor", sum := "212abc4efbdc3762413700ce976737632c8bd463b924eac54249cd24d32879fd", func := "earshot/earshotlaw24.SnapBurst", spec := "snapBurst", inPlace := ["internal/abi.NoEscape", "internal/bytealg.MakeNoZero"], unfollowed := true, recurses := true, named := ["earshot/kind.kinds"], apart := false, laid := [("earshot/kind.kinds", laid_earshot_kind_kinds)] }
def SnapBurstSaid : Prop := snapBurstRow.holds Tryz.pinned (OpenSpec.ofChange snapBurstSpec)

/-- ITS FALSE NEIGHBOUR: 'it returns false'. Refute it at one input. -/
def snapBurstWrong : ChangeSpec := { name := "snapBurst", fn := fun _ => fun
  | [d1, d2, d3] => { results := [.lit (.bool false)], args := [d1, d2, d3] }
  | _ => none }
def SnapBurstWrongFalsely : Prop := snapBurstRow.holds Tryz.pinned (OpenSpec.ofChange snapBurstWrong)

/-- 'earshotlaw24.SnapCut': WHATEVER THE INPUT: true; the input reads as it did. -/
def snapCutSpec : ChangeSpec := { name := "snapCut", fn := fun _ => fun
  | [d1, d2, d3] => { results := [.lit (.bool true)], args := [d1, d2, d3] }
  | _ => none }
def snapCutRow : OpenClaim := { program := "ytnhkaggpknfeeaagreatdoor", sum := "212abc4efbdc3762413700ce976737632c8bd463b924eac54249cd24d32879fd", func := "earshot/earshotlaw24.SnapCut", spec := "snapCut", inPlace := ["internal/abi.NoEscape", "internal/bytealg.MakeNoZero"], unfollowed := true, recurses := true, named := ["earshot/kind.kinds"], apart := false, laid := [("earshot/kind.kinds", laid_earshot_kind_kinds)] }
def SnapCutSaid : Prop := snapCutRow.holds Tryz.pinned (OpenSpec.ofChange snapCutSpec)

/-- ITS FALSE NEIGHBOUR: 'it returns false'. Refute it at one input. -/
def snapCutWrong : ChangeSpec := { name := "snapCut", fn := fun _ => fun
  | [d1, d2, d3] => { results := [.lit (.bool false)], args := [d1, d2, d3] }
  | _ => none }
def SnapCutWrongFalsely : Prop := snapCutRow.holds Tryz.pinned (OpenSpec.ofChange snapCutWrong)

/-- 'earshotlaw24.SnapPlan': WHATEVER THE INPUT: true; the input reads as it did. -/
def snapPlanSpec : ChangeSpec := { name := "snapPlan", fn := fun _ => fun
  | [d1, d2] => { results := [.lit (.bool true)], args := [d1, d2] }
  | _ => none }
def snapPlanRow : OpenClaim := { program := "ytnhkaggpknfeeaagreatdoor", sum := "212abc4efbdc3762413700ce976737632c8bd463b924eac54249cd24d32879fd", func := "earshot/earshotlaw24.SnapPlan", spec := "snapPlan", inPlace := ["internal/abi.NoEscape", "internal/bytealg.MakeNoZero"], unfollowed := true, recurses := true, named := ["earshot/kind.kinds"], apart := false, laid := [("earshot/kind.kinds", laid_earshot_kind_kinds)] }
def SnapPlanSaid : Prop := snapPlanRow.holds Tryz.pinned (OpenSpec.ofChange snapPlanSpec)

/-- ITS FALSE NEIGHBOUR: 'it returns false'. Refute it at one input. -/
def snapPlanWrong : ChangeSpec := { name := "snapPlan", fn := fun _ => fun
  | [d1, d2] => { results := [.lit (.bool false)], args := [d1, d2] }
  | _ => none }
def SnapPlanWrongFalsely : Prop := snapPlanRow.holds Tryz.pinned (OpenSpec.ofChange snapPlanWrong)

/-- 'earshotlaw24.SnapBack': WHATEVER THE INPUT: true; the input reads as it did. -/
def snapBackSpec : ChangeSpec := { name := "snapBack", fn := fun _ => fun
  | [d1, d2] => { results := [.lit (.bool true)], args := [d1, d2] }
  | _ => none }
def snapBackRow : OpenClaim := { program := "ytnhkaggpknfeeaagreatdoor", sum := "212abc4efbdc3762413700ce976737632c8bd463b924eac54249cd24d32879fd", func := "earshot/earshotlaw24.SnapBack", spec := "snapBack", inPlace := ["internal/abi.NoEscape", "internal/bytealg.MakeNoZero"], unfollowed := true, recurses := true, named := ["earshot/kind.kinds"], apart := false, laid := [("earshot/kind.kinds", laid_earshot_kind_kinds)] }
def SnapBackSaid : Prop := snapBackRow.holds Tryz.pinned (OpenSpec.ofChange snapBackSpec)

/-- ITS FALSE NEIGHBOUR: 'it returns false'. Refute it at one input. -/
def snapBackWrong : ChangeSpec := { name := "snapBack", fn := fun _ => fun
  | [d1, d2] => { results := [.lit (.bool false)], args := [d1, d2] }
  | _ => none }
def SnapBackWrongFalsely : Prop := snapBackRow.holds Tryz.pinned (OpenSpec.ofChange snapBackWrong)

/- THE SECOND FORM. 'bulk': how many values and letters a reading holds, each counted each time it is reached (what is shared counts as often as it is met; a slice's spare places count too). A statement '..UptoSaid' is the law's where the arguments, and the package variables that the reading takes, are together of bulk at most 1048576: NARROWER than '..Said'. Prove '..Said' where nothing that the law and all that it calls make is longer than what came in: it says more and counts as full. Else prove '..UptoSaid'. A law counts once. -/
mutual
def uptoBulk {H : Type} : DataW H → Nat
  | .lit (.string bytes) => bytes.length + 1
  | .lit _ => 1
  | .nil => 1
  | .ptr d => uptoBulk d + 1
  | .slice elems spare => uptoBulkAll elems + uptoBulkAll spare + 1
  | .agg parts => uptoBulkAll parts + 1
  | .iface _ d => uptoBulk d + 1
  | .map entries => uptoBulkEntries entries + 1
  | .held _ => 1
def uptoBulkAll {H : Type} : List (DataW H) → Nat
  | [] => 0
  | d :: r => uptoBulk d + uptoBulkAll r
def uptoBulkEntries {H : Type} : List (Lit × DataW H) → Nat
  | [] => 0
  | x :: r => uptoBulkEntry x + uptoBulkEntries r
def uptoBulkEntry {H : Type} : Lit × DataW H → Nat
  | (.string bytes, d) => bytes.length + uptoBulk d + 1
  | (_, d) => uptoBulk d + 1
 end
def uptoSmall : (H : Type) → List (DataW H) → Bool := fun _ ds => decide (uptoBulkAll ds ≤ 1048576)
def OpenSpec.upto (s : _root_.Go.ChangeSpec) : _root_.Go.OpenSpec := { _root_.Go.OpenSpec.ofChange s with cond := some uptoSmall }

/-- 'earshotlaw23.ExecSets', WHERE WHAT IT READS IS OF BULK AT MOST 1048576: true; the input reads as it did. -/
def execSetsUptoRow : OpenClaim := { program := "ytnhkaggpknfeeaagreatdoor", sum := "212abc4efbdc3762413700ce976737632c8bd463b924eac54249cd24d32879fd", func := "earshot/earshotlaw23.ExecSets", spec := "execSets", unfollowed := true, recurses := true, named := ["earshot/kind.kinds"], apart := false, laid := [("earshot/kind.kinds", laid_earshot_kind_kinds)], narrowed := true }
def ExecSetsUptoSaid : Prop := execSetsUptoRow.holds Tryz.pinned (OpenSpec.upto execSetsSpec)

/-- 'earshotlaw22.PlanMakes', WHERE WHAT IT READS IS OF BULK AT MOST 1048576: true; the input reads as it did. -/
def planMakesUptoRow : OpenClaim := { program := "ytnhkaggpknfeeaagreatdoor", sum := "212abc4efbdc3762413700ce976737632c8bd463b924eac54249cd24d32879fd", func := "earshot/earshotlaw22.PlanMakes", spec := "planMakes", unfollowed := true, recurses := true, named := ["earshot/kind.kinds"], apart := false, laid := [("earshot/kind.kinds", laid_earshot_kind_kinds)], narrowed := true }
def PlanMakesUptoSaid : Prop := planMakesUptoRow.holds Tryz.pinned (OpenSpec.upto planMakesSpec)

/-- 'earshotlaw22.PlanKeeps', WHERE WHAT IT READS IS OF BULK AT MOST 1048576: true; the input reads as it did. -/
def planKeepsUptoRow : OpenClaim := { program := "ytnhkaggpknfeeaagreatdoor", sum := "212abc4efbdc3762413700ce976737632c8bd463b924eac54249cd24d32879fd", func := "earshot/earshotlaw22.PlanKeeps", spec := "planKeeps", unfollowed := true, recurses := true, named := ["earshot/kind.kinds"], apart := false, laid := [("earshot/kind.kinds", laid_earshot_kind_kinds)], narrowed := true }
def PlanKeepsUptoSaid : Prop := planKeepsUptoRow.holds Tryz.pinned (OpenSpec.upto planKeepsSpec)

/-- 'earshotlaw22.PlanApart', WHERE WHAT IT READS IS OF BULK AT MOST 1048576: true; the input reads as it did. -/
def planApartUptoRow : OpenClaim := { program := "ytnhkaggpknfeeaagreatdoor", sum := "212abc4efbdc3762413700ce976737632c8bd463b924eac54249cd24d32879fd", func := "earshot/earshotlaw22.PlanApart", spec := "planApart", unfollowed := true, recurses := true, named := ["earshot/kind.kinds"], apart := false, laid := [("earshot/kind.kinds", laid_earshot_kind_kinds)], narrowed := true }
def PlanApartUptoSaid : Prop := planApartUptoRow.holds Tryz.pinned (OpenSpec.upto planApartSpec)

/-- 'earshotlaw23.ExecMoves', WHERE WHAT IT READS IS OF BULK AT MOST 1048576: true; the input reads as it did. -/
def execMovesUptoRow : OpenClaim := { program := "ytnhkaggpknfeeaagreatdoor", sum := "212abc4efbdc3762413700ce976737632c8bd463b924eac54249cd24d32879fd", func := "earshot/earshotlaw23.ExecMoves", spec := "execMoves", unfollowed := true, recurses := true, named := ["earshot/kind.kinds"], apart := false, laid := [("earshot/kind.kinds", laid_earshot_kind_kinds)], narrowed := true }
def ExecMovesUptoSaid : Prop := execMovesUptoRow.holds Tryz.pinned (OpenSpec.upto execMovesSpec)

/-- 'earshotlaw23.ExecNil', WHERE WHAT IT READS IS OF BULK AT MOST 1048576: true; the input reads as it did. -/
def execNilUptoRow : OpenClaim := { program := "ytnhkaggpknfeeaagreatdoor", sum := "212abc4efbdc3762413700ce976737632c8bd463b924eac54249cd24d32879fd", func := "earshot/earshotlaw23.ExecNil", spec := "execNil", unfollowed := true, recurses := true, named := ["earshot/kind.kinds"], apart := false, laid := [("earshot/kind.kinds", laid_earshot_kind_kinds)], narrowed := true }
def ExecNilUptoSaid : Prop := execNilUptoRow.holds Tryz.pinned (OpenSpec.upto execNilSpec)

/-- 'earshotlaw22.PlanTotal', WHERE WHAT IT READS IS OF BULK AT MOST 1048576: true; the input reads as it did. -/
def planTotalUptoRow : OpenClaim := { program := "ytnhkaggpknfeeaagreatdoor", sum := "212abc4efbdc3762413700ce976737632c8bd463b924eac54249cd24d32879fd", func := "earshot/earshotlaw22.PlanTotal", spec := "planTotal", unfollowed := true, recurses := true, named := ["earshot/kind.kinds"], apart := false, laid := [("earshot/kind.kinds", laid_earshot_kind_kinds)], narrowed := true }
def PlanTotalUptoSaid : Prop := planTotalUptoRow.holds Tryz.pinned (OpenSpec.upto planTotalSpec)

/-- 'earshotlaw22.PlanRight', WHERE WHAT IT READS IS OF BULK AT MOST 1048576: true; the input reads as it did. -/
def planRightUptoRow : OpenClaim := { program := "ytnhkaggpknfeeaagreatdoor", sum := "212abc4efbdc3762413700ce976737632c8bd463b924eac54249cd24d32879fd", func := "earshot/earshotlaw22.PlanRight", spec := "planRight", unfollowed := true, recurses := true, named := ["earshot/kind.kinds"], apart := false, laid := [("earshot/kind.kinds", laid_earshot_kind_kinds)], narrowed := true }
def PlanRightUptoSaid : Prop := planRightUptoRow.holds Tryz.pinned (OpenSpec.upto planRightSpec)

/-- 'earshotlaw24.SnapNil', WHERE WHAT IT READS IS OF BULK AT MOST 1048576: true; the input reads as it did. -/
def snapNilUptoRow : OpenClaim := { program := "ytnhkaggpknfeeaagreatdoor", sum := "212abc4efbdc3762413700ce976737632c8bd463b924eac54249cd24d32879fd", func := "earshot/earshotlaw24.SnapNil", spec := "snapNil", inPlace := ["internal/abi.NoEscape", "internal/bytealg.MakeNoZero"], unfollowed := true, recurses := true, named := ["earshot/kind.kinds"], apart := false, laid := [("earshot/kind.kinds", laid_earshot_kind_kinds)], narrowed := true }
def SnapNilUptoSaid : Prop := snapNilUptoRow.holds Tryz.pinned (OpenSpec.upto snapNilSpec)

/-- 'earshotlaw24.SnapTells', WHERE WHAT IT READS IS OF BULK AT MOST 1048576: true; the input reads as it did. -/
def snapTellsUptoRow : OpenClaim := { program := "ytnhkaggpknfeeaagreatdoor", sum := "212abc4efbdc3762413700ce976737632c8bd463b924eac54249cd24d32879fd", func := "earshot/earshotlaw24.SnapTells", spec := "snapTells", inPlace := ["internal/abi.NoEscape", "internal/bytealg.MakeNoZero"], unfollowed := true, recurses := true, named := ["earshot/kind.kinds"], apart := false, laid := [("earshot/kind.kinds", laid_earshot_kind_kinds)], narrowed := true }
def SnapTellsUptoSaid : Prop := snapTellsUptoRow.holds Tryz.pinned (OpenSpec.upto snapTellsSpec)

/-- 'earshotlaw24.SnapBurst', WHERE WHAT IT READS IS OF BULK AT MOST 1048576: true; the input reads as it did. -/
def snapBurstUptoRow : OpenClaim := { program := "ytnhkaggpknfeeaagreatdoor", sum := "212abc4efbdc3762413700ce976737632c8bd463b924eac54249cd24d32879fd", func := "earshot/earshotlaw24.SnapBurst", spec := "snapBurst", inPlace := ["internal/abi.NoEscape", "internal/bytealg.MakeNoZero"], unfollowed := true, recurses := true, named := ["earshot/kind.kinds"], apart := false, laid := [("earshot/kind.kinds", laid_earshot_kind_kinds)], narrowed := true }
def SnapBurstUptoSaid : Prop := snapBurstUptoRow.holds Tryz.pinned (OpenSpec.upto snapBurstSpec)

/-- 'earshotlaw24.SnapCut', WHERE WHAT IT READS IS OF BULK AT MOST 1048576: true; the input reads as it did. -/
def snapCutUptoRow : OpenClaim := { program := "ytnhkaggpknfeeaagreatdoor", sum := "212abc4efbdc3762413700ce976737632c8bd463b924eac54249cd24d32879fd", func := "earshot/earshotlaw24.SnapCut", spec := "snapCut", inPlace := ["internal/abi.NoEscape", "internal/bytealg.MakeNoZero"], unfollowed := true, recurses := true, named := ["earshot/kind.kinds"], apart := false, laid := [("earshot/kind.kinds", laid_earshot_kind_kinds)], narrowed := true }
def SnapCutUptoSaid : Prop := snapCutUptoRow.holds Tryz.pinned (OpenSpec.upto snapCutSpec)

/-- 'earshotlaw24.SnapPlan', WHERE WHAT IT READS IS OF BULK AT MOST 1048576: true; the input reads as it did. -/
def snapPlanUptoRow : OpenClaim := { program := "ytnhkaggpknfeeaagreatdoor", sum := "212abc4efbdc3762413700ce976737632c8bd463b924eac54249cd24d32879fd", func := "earshot/earshotlaw24.SnapPlan", spec := "snapPlan", inPlace := ["internal/abi.NoEscape", "internal/bytealg.MakeNoZero"], unfollowed := true, recurses := true, named := ["earshot/kind.kinds"], apart := false, laid := [("earshot/kind.kinds", laid_earshot_kind_kinds)], narrowed := true }
def SnapPlanUptoSaid : Prop := snapPlanUptoRow.holds Tryz.pinned (OpenSpec.upto snapPlanSpec)

/-- 'earshotlaw24.SnapBack', WHERE WHAT IT READS IS OF BULK AT MOST 1048576: true; the input reads as it did. -/
def snapBackUptoRow : OpenClaim := { program := "ytnhkaggpknfeeaagreatdoor", sum := "212abc4efbdc3762413700ce976737632c8bd463b924eac54249cd24d32879fd", func := "earshot/earshotlaw24.SnapBack", spec := "snapBack", inPlace := ["internal/abi.NoEscape", "internal/bytealg.MakeNoZero"], unfollowed := true, recurses := true, named := ["earshot/kind.kinds"], apart := false, laid := [("earshot/kind.kinds", laid_earshot_kind_kinds)], narrowed := true }
def SnapBackUptoSaid : Prop := snapBackUptoRow.holds Tryz.pinned (OpenSpec.upto snapBackSpec)

end Rows
end Go.Proofs.YtnhkaggpknfeeaaGreatDoor
