/-
  NARROWER THAN 'FOR EVERY INPUT', by the rows' own cells (each row's printed sentence says how): VCodeExamples: laid · VCodeValid: laid · VCodeProgram: laid · VCodeRun: laid · VCodeInvalid: laid · VCodeMoreSteps: laid · VCodeUnusedRegisters: laid · VCodeOperands: laid · LayoutExamples: laid · LayoutExpand: laid.
  DERIVED. THE GIVEN ROWS OF THIS SEAT. 10 by the template 'for every input the law returns true; each argument reads behind the call as it read before'; 0 by the template 'total and deterministic' (their statements: YtbjglnknddeflaaDoorTotals.lean).
  GIVEN WITH THE SEED: the statements are not yours to turn. If you find one false, say at which input.
  Laid BY PROGRAM, IN A SANDBOX (cutbox-rows.mjs): the forced cells as the released guide's own fill.sh prints them over the translation 43025667e009e7ae… (all of the seat's roots in one cut). By AI agents, Wed Nov 11 2026. No macro, syntax, notation, axiom, sorry.
-/
import Derived.Test.YtbjglnknddeflaaDoorChecked
import GoSem.Claim
import GoSem.ClaimJoined
import GoSem.ClaimMapViews
import Derived.JoinedTies
import Derived.KernelRfl
namespace Go.Proofs.YtbjglnknddeflaaDoor
/- THE CELL 'sum', in the pinned program and in every row, IS THE sha256 OF THE DUMP (.gsa) THAT YtbjglnknddeflaaDoorProg.lean LOADS. Nothing in Lean hashes anything: it is a label: what it is worth is what the hold of that sum in a sandbox is worth. -/
noncomputable def Tryd.pinned : Pinned := { name := "ytbjglnknddeflaadoor", sum := "43025667e009e7ae3f37e9c610dd6c8cf372fc2e4169820b62107dc7cf0ef3d5", checked := Tryd.checked }
namespace Rows
def none {H : Type} : Left H := { results := [], args := [] }

/- WHAT THE LISTED PACKAGE-LEVEL VARIABLES READ AS WHEN THE CALL BEGINS. Each datum BY PROGRAM (the guide's laid-datum.mjs) off the statement by which the dump's own 'gosem.cut.vars' lays the variable. In a bare row this is a premise. The card (YtbjglnknddeflaaDoorCards.lean) ties it to the program's text. -/
def laid_fulling_machine_table {H : Type} : DataW H := .slice [.agg [.lit (.string [110, 111, 112]), .lit (.int .i64 1), .lit (.bool false), .lit (.bool false), .lit (.bool false), .lit (.bool false), .lit (.int .i64 1)], .agg [.lit (.string [114, 101, 116]), .lit (.int .i64 1), .lit (.bool false), .lit (.bool false), .lit (.bool false), .lit (.bool false), .lit (.int .i64 1)], .agg [.lit (.string [116, 105, 99, 107]), .lit (.int .i64 1), .lit (.bool false), .lit (.bool false), .lit (.bool false), .lit (.bool false), .lit (.int .i64 1)], .agg [.lit (.string [116, 114, 97, 112]), .lit (.int .i64 8), .lit (.bool false), .lit (.bool false), .lit (.bool false), .lit (.bool true), .lit (.int .i64 1)], .agg [.lit (.string [106, 109, 112]), .lit (.int .i64 8), .lit (.bool false), .lit (.bool false), .lit (.bool false), .lit (.bool false), .lit (.int .i64 1)], .agg [.lit (.string [99, 97, 108, 108]), .lit (.int .i64 5), .lit (.bool false), .lit (.bool false), .lit (.bool false), .lit (.bool false), .lit (.int .i64 1)], .agg [.lit (.string [106, 122]), .lit (.int .i64 5), .lit (.bool true), .lit (.bool false), .lit (.bool false), .lit (.bool false), .lit (.int .i64 1)], .agg [.lit (.string [106, 110, 122]), .lit (.int .i64 5), .lit (.bool true), .lit (.bool false), .lit (.bool false), .lit (.bool false), .lit (.int .i64 1)], .agg [.lit (.string [111, 117, 116]), .lit (.int .i64 2), .lit (.bool true), .lit (.bool false), .lit (.bool false), .lit (.bool false), .lit (.int .i64 1)], .agg [.lit (.string [109, 111, 118]), .lit (.int .i64 3), .lit (.bool false), .lit (.bool true), .lit (.bool true), .lit (.bool false), .lit (.int .i64 1)], .agg [.lit (.string [99, 109, 111, 118, 122]), .lit (.int .i64 4), .lit (.bool true), .lit (.bool true), .lit (.bool true), .lit (.bool false), .lit (.int .i64 1)], .agg [.lit (.string [99, 109, 111, 118, 110, 122]), .lit (.int .i64 4), .lit (.bool true), .lit (.bool true), .lit (.bool true), .lit (.bool false), .lit (.int .i64 1)], .agg [.lit (.string [108, 100, 105]), .lit (.int .i64 5), .lit (.bool false), .lit (.bool true), .lit (.bool false), .lit (.bool false), .lit (.int .i64 1)], .agg [.lit (.string [108, 100, 99]), .lit (.int .i64 6), .lit (.bool false), .lit (.bool true), .lit (.bool false), .lit (.bool false), .lit (.int .i64 3)], .agg [.lit (.string [110, 101, 103]), .lit (.int .i64 2), .lit (.bool true), .lit (.bool true), .lit (.bool false), .lit (.bool false), .lit (.int .i64 1)], .agg [.lit (.string [110, 111, 116]), .lit (.int .i64 2), .lit (.bool true), .lit (.bool true), .lit (.bool false), .lit (.bool false), .lit (.int .i64 1)], .agg [.lit (.string [97, 100, 100]), .lit (.int .i64 3), .lit (.bool true), .lit (.bool true), .lit (.bool true), .lit (.bool false), .lit (.int .i64 1)], .agg [.lit (.string [115, 117, 98]), .lit (.int .i64 3), .lit (.bool true), .lit (.bool true), .lit (.bool true), .lit (.bool false), .lit (.int .i64 1)], .agg [.lit (.string [109, 117, 108]), .lit (.int .i64 3), .lit (.bool true), .lit (.bool true), .lit (.bool true), .lit (.bool false), .lit (.int .i64 1)], .agg [.lit (.string [100, 105, 118]), .lit (.int .i64 3), .lit (.bool true), .lit (.bool true), .lit (.bool true), .lit (.bool true), .lit (.int .i64 1)], .agg [.lit (.string [114, 101, 109]), .lit (.int .i64 3), .lit (.bool true), .lit (.bool true), .lit (.bool true), .lit (.bool true), .lit (.int .i64 1)], .agg [.lit (.string [97, 110, 100]), .lit (.int .i64 3), .lit (.bool true), .lit (.bool true), .lit (.bool true), .lit (.bool false), .lit (.int .i64 1)], .agg [.lit (.string [111, 114]), .lit (.int .i64 3), .lit (.bool true), .lit (.bool true), .lit (.bool true), .lit (.bool false), .lit (.int .i64 1)], .agg [.lit (.string [120, 111, 114]), .lit (.int .i64 3), .lit (.bool true), .lit (.bool true), .lit (.bool true), .lit (.bool false), .lit (.int .i64 1)], .agg [.lit (.string [115, 104, 108]), .lit (.int .i64 3), .lit (.bool true), .lit (.bool true), .lit (.bool true), .lit (.bool false), .lit (.int .i64 1)], .agg [.lit (.string [115, 104, 114]), .lit (.int .i64 3), .lit (.bool true), .lit (.bool true), .lit (.bool true), .lit (.bool false), .lit (.int .i64 1)], .agg [.lit (.string [115, 97, 114]), .lit (.int .i64 3), .lit (.bool true), .lit (.bool true), .lit (.bool true), .lit (.bool false), .lit (.int .i64 1)], .agg [.lit (.string [101, 113]), .lit (.int .i64 3), .lit (.bool true), .lit (.bool true), .lit (.bool true), .lit (.bool false), .lit (.int .i64 1)], .agg [.lit (.string [110, 101]), .lit (.int .i64 3), .lit (.bool true), .lit (.bool true), .lit (.bool true), .lit (.bool false), .lit (.int .i64 1)], .agg [.lit (.string [108, 116]), .lit (.int .i64 3), .lit (.bool true), .lit (.bool true), .lit (.bool true), .lit (.bool false), .lit (.int .i64 1)], .agg [.lit (.string [108, 101]), .lit (.int .i64 3), .lit (.bool true), .lit (.bool true), .lit (.bool true), .lit (.bool false), .lit (.int .i64 1)], .agg [.lit (.string [108, 116, 117]), .lit (.int .i64 3), .lit (.bool true), .lit (.bool true), .lit (.bool true), .lit (.bool false), .lit (.int .i64 1)], .agg [.lit (.string [97, 100, 100, 105]), .lit (.int .i64 5), .lit (.bool true), .lit (.bool true), .lit (.bool false), .lit (.bool false), .lit (.int .i64 1)], .agg [.lit (.string [108, 100]), .lit (.int .i64 7), .lit (.bool false), .lit (.bool true), .lit (.bool true), .lit (.bool true), .lit (.int .i64 1)], .agg [.lit (.string [115, 116]), .lit (.int .i64 7), .lit (.bool true), .lit (.bool false), .lit (.bool true), .lit (.bool true), .lit (.int .i64 1)], .agg [.lit (.string [108, 100, 115]), .lit (.int .i64 5), .lit (.bool false), .lit (.bool true), .lit (.bool false), .lit (.bool false), .lit (.int .i64 1)], .agg [.lit (.string [115, 116, 115]), .lit (.int .i64 5), .lit (.bool true), .lit (.bool false), .lit (.bool false), .lit (.bool false), .lit (.int .i64 1)]] []

/-- 'fullinglaw32.VCodeExamples': WHATEVER THE INPUT: true; the input reads as it did. -/
def vCodeExamplesSpec : ChangeSpec := { name := "vCodeExamples", fn := fun _ => fun
  | [] => { results := [.lit (.bool true)], args := [] }
  | _ => none }
def vCodeExamplesRow : OpenClaim := { program := "ytbjglnknddeflaadoor", sum := "43025667e009e7ae3f37e9c610dd6c8cf372fc2e4169820b62107dc7cf0ef3d5", func := "fulling/fullinglaw32.VCodeExamples", spec := "vCodeExamples", unfollowed := true, recurses := true, named := ["fulling/machine.table"], apart := false, laid := [("fulling/machine.table", laid_fulling_machine_table)] }
def VCodeExamplesSaid : Prop := vCodeExamplesRow.holds Tryd.pinned (OpenSpec.ofChange vCodeExamplesSpec)

/-- ITS FALSE NEIGHBOUR: 'it returns false'. Refute it at one input. -/
def vCodeExamplesWrong : ChangeSpec := { name := "vCodeExamples", fn := fun _ => fun
  | [] => { results := [.lit (.bool false)], args := [] }
  | _ => none }
def VCodeExamplesWrongFalsely : Prop := vCodeExamplesRow.holds Tryd.pinned (OpenSpec.ofChange vCodeExamplesWrong)

/-- 'fullinglaw32.VCodeValid': WHATEVER THE INPUT: true; the input reads as it did. -/
def vCodeValidSpec : ChangeSpec := { name := "vCodeValid", fn := fun _ => fun
  | [d1, d2, d3, d4, d5, d6] => { results := [.lit (.bool true)], args := [d1, d2, d3, d4, d5, d6] }
  | _ => none }
def vCodeValidRow : OpenClaim := { program := "ytbjglnknddeflaadoor", sum := "43025667e009e7ae3f37e9c610dd6c8cf372fc2e4169820b62107dc7cf0ef3d5", func := "fulling/fullinglaw32.VCodeValid", spec := "vCodeValid", unfollowed := true, recurses := true, named := ["fulling/machine.table"], apart := false, laid := [("fulling/machine.table", laid_fulling_machine_table)] }
def VCodeValidSaid : Prop := vCodeValidRow.holds Tryd.pinned (OpenSpec.ofChange vCodeValidSpec)

/-- ITS FALSE NEIGHBOUR: 'it returns false'. Refute it at one input. -/
def vCodeValidWrong : ChangeSpec := { name := "vCodeValid", fn := fun _ => fun
  | [d1, d2, d3, d4, d5, d6] => { results := [.lit (.bool false)], args := [d1, d2, d3, d4, d5, d6] }
  | _ => none }
def VCodeValidWrongFalsely : Prop := vCodeValidRow.holds Tryd.pinned (OpenSpec.ofChange vCodeValidWrong)

/-- 'fullinglaw32.VCodeProgram': WHATEVER THE INPUT: true; the input reads as it did. -/
def vCodeProgramSpec : ChangeSpec := { name := "vCodeProgram", fn := fun _ => fun
  | [d1, d2, d3, d4, d5, d6] => { results := [.lit (.bool true)], args := [d1, d2, d3, d4, d5, d6] }
  | _ => none }
def vCodeProgramRow : OpenClaim := { program := "ytbjglnknddeflaadoor", sum := "43025667e009e7ae3f37e9c610dd6c8cf372fc2e4169820b62107dc7cf0ef3d5", func := "fulling/fullinglaw32.VCodeProgram", spec := "vCodeProgram", unfollowed := true, recurses := true, named := ["fulling/machine.table"], apart := false, laid := [("fulling/machine.table", laid_fulling_machine_table)] }
def VCodeProgramSaid : Prop := vCodeProgramRow.holds Tryd.pinned (OpenSpec.ofChange vCodeProgramSpec)

/-- ITS FALSE NEIGHBOUR: 'it returns false'. Refute it at one input. -/
def vCodeProgramWrong : ChangeSpec := { name := "vCodeProgram", fn := fun _ => fun
  | [d1, d2, d3, d4, d5, d6] => { results := [.lit (.bool false)], args := [d1, d2, d3, d4, d5, d6] }
  | _ => none }
def VCodeProgramWrongFalsely : Prop := vCodeProgramRow.holds Tryd.pinned (OpenSpec.ofChange vCodeProgramWrong)

/-- 'fullinglaw32.VCodeRun': WHATEVER THE INPUT: true; the input reads as it did. -/
def vCodeRunSpec : ChangeSpec := { name := "vCodeRun", fn := fun _ => fun
  | [d1, d2, d3, d4, d5, d6, d7, d8] => { results := [.lit (.bool true)], args := [d1, d2, d3, d4, d5, d6, d7, d8] }
  | _ => none }
def vCodeRunRow : OpenClaim := { program := "ytbjglnknddeflaadoor", sum := "43025667e009e7ae3f37e9c610dd6c8cf372fc2e4169820b62107dc7cf0ef3d5", func := "fulling/fullinglaw32.VCodeRun", spec := "vCodeRun", unfollowed := true, recurses := true, named := ["fulling/machine.table"], apart := false, laid := [("fulling/machine.table", laid_fulling_machine_table)] }
def VCodeRunSaid : Prop := vCodeRunRow.holds Tryd.pinned (OpenSpec.ofChange vCodeRunSpec)

/-- ITS FALSE NEIGHBOUR: 'it returns false'. Refute it at one input. -/
def vCodeRunWrong : ChangeSpec := { name := "vCodeRun", fn := fun _ => fun
  | [d1, d2, d3, d4, d5, d6, d7, d8] => { results := [.lit (.bool false)], args := [d1, d2, d3, d4, d5, d6, d7, d8] }
  | _ => none }
def VCodeRunWrongFalsely : Prop := vCodeRunRow.holds Tryd.pinned (OpenSpec.ofChange vCodeRunWrong)

/-- 'fullinglaw32.VCodeInvalid': WHATEVER THE INPUT: true; the input reads as it did. -/
def vCodeInvalidSpec : ChangeSpec := { name := "vCodeInvalid", fn := fun _ => fun
  | [d1, d2, d3, d4, d5, d6, d7] => { results := [.lit (.bool true)], args := [d1, d2, d3, d4, d5, d6, d7] }
  | _ => none }
def vCodeInvalidRow : OpenClaim := { program := "ytbjglnknddeflaadoor", sum := "43025667e009e7ae3f37e9c610dd6c8cf372fc2e4169820b62107dc7cf0ef3d5", func := "fulling/fullinglaw32.VCodeInvalid", spec := "vCodeInvalid", unfollowed := true, recurses := true, named := ["fulling/machine.table"], apart := false, laid := [("fulling/machine.table", laid_fulling_machine_table)] }
def VCodeInvalidSaid : Prop := vCodeInvalidRow.holds Tryd.pinned (OpenSpec.ofChange vCodeInvalidSpec)

/-- ITS FALSE NEIGHBOUR: 'it returns false'. Refute it at one input. -/
def vCodeInvalidWrong : ChangeSpec := { name := "vCodeInvalid", fn := fun _ => fun
  | [d1, d2, d3, d4, d5, d6, d7] => { results := [.lit (.bool false)], args := [d1, d2, d3, d4, d5, d6, d7] }
  | _ => none }
def VCodeInvalidWrongFalsely : Prop := vCodeInvalidRow.holds Tryd.pinned (OpenSpec.ofChange vCodeInvalidWrong)

/-- 'fullinglaw32.VCodeMoreSteps': WHATEVER THE INPUT: true; the input reads as it did. -/
def vCodeMoreStepsSpec : ChangeSpec := { name := "vCodeMoreSteps", fn := fun _ => fun
  | [d1, d2, d3, d4, d5, d6, d7, d8, d9] => { results := [.lit (.bool true)], args := [d1, d2, d3, d4, d5, d6, d7, d8, d9] }
  | _ => none }
def vCodeMoreStepsRow : OpenClaim := { program := "ytbjglnknddeflaadoor", sum := "43025667e009e7ae3f37e9c610dd6c8cf372fc2e4169820b62107dc7cf0ef3d5", func := "fulling/fullinglaw32.VCodeMoreSteps", spec := "vCodeMoreSteps", unfollowed := true, recurses := true, named := ["fulling/machine.table"], apart := false, laid := [("fulling/machine.table", laid_fulling_machine_table)] }
def VCodeMoreStepsSaid : Prop := vCodeMoreStepsRow.holds Tryd.pinned (OpenSpec.ofChange vCodeMoreStepsSpec)

/-- ITS FALSE NEIGHBOUR: 'it returns false'. Refute it at one input. -/
def vCodeMoreStepsWrong : ChangeSpec := { name := "vCodeMoreSteps", fn := fun _ => fun
  | [d1, d2, d3, d4, d5, d6, d7, d8, d9] => { results := [.lit (.bool false)], args := [d1, d2, d3, d4, d5, d6, d7, d8, d9] }
  | _ => none }
def VCodeMoreStepsWrongFalsely : Prop := vCodeMoreStepsRow.holds Tryd.pinned (OpenSpec.ofChange vCodeMoreStepsWrong)

/-- 'fullinglaw32.VCodeUnusedRegisters': WHATEVER THE INPUT: true; the input reads as it did. -/
def vCodeUnusedRegistersSpec : ChangeSpec := { name := "vCodeUnusedRegisters", fn := fun _ => fun
  | [d1, d2, d3, d4, d5, d6, d7, d8] => { results := [.lit (.bool true)], args := [d1, d2, d3, d4, d5, d6, d7, d8] }
  | _ => none }
def vCodeUnusedRegistersRow : OpenClaim := { program := "ytbjglnknddeflaadoor", sum := "43025667e009e7ae3f37e9c610dd6c8cf372fc2e4169820b62107dc7cf0ef3d5", func := "fulling/fullinglaw32.VCodeUnusedRegisters", spec := "vCodeUnusedRegisters", unfollowed := true, recurses := true, named := ["fulling/machine.table"], apart := false, laid := [("fulling/machine.table", laid_fulling_machine_table)] }
def VCodeUnusedRegistersSaid : Prop := vCodeUnusedRegistersRow.holds Tryd.pinned (OpenSpec.ofChange vCodeUnusedRegistersSpec)

/-- ITS FALSE NEIGHBOUR: 'it returns false'. Refute it at one input. -/
def vCodeUnusedRegistersWrong : ChangeSpec := { name := "vCodeUnusedRegisters", fn := fun _ => fun
  | [d1, d2, d3, d4, d5, d6, d7, d8] => { results := [.lit (.bool false)], args := [d1, d2, d3, d4, d5, d6, d7, d8] }
  | _ => none }
def VCodeUnusedRegistersWrongFalsely : Prop := vCodeUnusedRegistersRow.holds Tryd.pinned (OpenSpec.ofChange vCodeUnusedRegistersWrong)

/-- 'fullinglaw32.VCodeOperands': WHATEVER THE INPUT: true; the input reads as it did. -/
def vCodeOperandsSpec : ChangeSpec := { name := "vCodeOperands", fn := fun _ => fun
  | [d1, d2, d3, d4, d5, d6] => { results := [.lit (.bool true)], args := [d1, d2, d3, d4, d5, d6] }
  | _ => none }
def vCodeOperandsRow : OpenClaim := { program := "ytbjglnknddeflaadoor", sum := "43025667e009e7ae3f37e9c610dd6c8cf372fc2e4169820b62107dc7cf0ef3d5", func := "fulling/fullinglaw32.VCodeOperands", spec := "vCodeOperands", unfollowed := true, recurses := true, named := ["fulling/machine.table"], apart := false, laid := [("fulling/machine.table", laid_fulling_machine_table)] }
def VCodeOperandsSaid : Prop := vCodeOperandsRow.holds Tryd.pinned (OpenSpec.ofChange vCodeOperandsSpec)

/-- ITS FALSE NEIGHBOUR: 'it returns false'. Refute it at one input. -/
def vCodeOperandsWrong : ChangeSpec := { name := "vCodeOperands", fn := fun _ => fun
  | [d1, d2, d3, d4, d5, d6] => { results := [.lit (.bool false)], args := [d1, d2, d3, d4, d5, d6] }
  | _ => none }
def VCodeOperandsWrongFalsely : Prop := vCodeOperandsRow.holds Tryd.pinned (OpenSpec.ofChange vCodeOperandsWrong)

/-- 'fullinglaw36.LayoutExamples': WHATEVER THE INPUT: true; the input reads as it did. -/
def layoutExamplesSpec : ChangeSpec := { name := "layoutExamples", fn := fun _ => fun
  | [] => { results := [.lit (.bool true)], args := [] }
  | _ => none }
def layoutExamplesRow : OpenClaim := { program := "ytbjglnknddeflaadoor", sum := "43025667e009e7ae3f37e9c610dd6c8cf372fc2e4169820b62107dc7cf0ef3d5", func := "fulling/fullinglaw36.LayoutExamples", spec := "layoutExamples", unfollowed := true, recurses := true, named := ["fulling/machine.table"], apart := false, laid := [("fulling/machine.table", laid_fulling_machine_table)] }
def LayoutExamplesSaid : Prop := layoutExamplesRow.holds Tryd.pinned (OpenSpec.ofChange layoutExamplesSpec)

/-- ITS FALSE NEIGHBOUR: 'it returns false'. Refute it at one input. -/
def layoutExamplesWrong : ChangeSpec := { name := "layoutExamples", fn := fun _ => fun
  | [] => { results := [.lit (.bool false)], args := [] }
  | _ => none }
def LayoutExamplesWrongFalsely : Prop := layoutExamplesRow.holds Tryd.pinned (OpenSpec.ofChange layoutExamplesWrong)

/-- 'fullinglaw36.LayoutExpand': WHATEVER THE INPUT: true; the input reads as it did. -/
def layoutExpandSpec : ChangeSpec := { name := "layoutExpand", fn := fun _ => fun
  | [d1, d2, d3, d4, d5, d6] => { results := [.lit (.bool true)], args := [d1, d2, d3, d4, d5, d6] }
  | _ => none }
def layoutExpandRow : OpenClaim := { program := "ytbjglnknddeflaadoor", sum := "43025667e009e7ae3f37e9c610dd6c8cf372fc2e4169820b62107dc7cf0ef3d5", func := "fulling/fullinglaw36.LayoutExpand", spec := "layoutExpand", unfollowed := true, recurses := true, named := ["fulling/machine.table"], apart := false, laid := [("fulling/machine.table", laid_fulling_machine_table)] }
def LayoutExpandSaid : Prop := layoutExpandRow.holds Tryd.pinned (OpenSpec.ofChange layoutExpandSpec)

/-- ITS FALSE NEIGHBOUR: 'it returns false'. Refute it at one input. -/
def layoutExpandWrong : ChangeSpec := { name := "layoutExpand", fn := fun _ => fun
  | [d1, d2, d3, d4, d5, d6] => { results := [.lit (.bool false)], args := [d1, d2, d3, d4, d5, d6] }
  | _ => none }
def LayoutExpandWrongFalsely : Prop := layoutExpandRow.holds Tryd.pinned (OpenSpec.ofChange layoutExpandWrong)

/- THE SECOND FORM. 'bulk': how many values and letters a reading holds, each counted each time it is reached (what is shared counts as often as it is met; a slice's spare places count too). A statement '..UptoSaid' is the law's where the arguments, and the package variables that the reading takes, are together of bulk at most 1048576: NARROWER than '..Said'. Prove '..Said' where nothing that the law and all that it calls make is longer than what came in: it says more and counts as full. Else prove '..UptoSaid'. A law counts once. -/
mutual
def uptoBulk {H : Type} : DataW H → Nat
  | .lit (.string bytes) => bytes.length + 1
  | .lit _ => 1
  | .nil => 1
  | .ptr d => uptoBulk d + 1
  | .slice elems spare => uptoBulkAll elems + uptoBulkAll spare + 1
  | .agg parts => uptoBulkAll parts + 1
  | .iface _ d => uptoBulk d + 1
  | .map entries => uptoBulkEntries entries + 1
  | .held _ => 1
def uptoBulkAll {H : Type} : List (DataW H) → Nat
  | [] => 0
  | d :: r => uptoBulk d + uptoBulkAll r
def uptoBulkEntries {H : Type} : List (Lit × DataW H) → Nat
  | [] => 0
  | x :: r => uptoBulkEntry x + uptoBulkEntries r
def uptoBulkEntry {H : Type} : Lit × DataW H → Nat
  | (.string bytes, d) => bytes.length + uptoBulk d + 1
  | (_, d) => uptoBulk d + 1
 end
def uptoSmall : (H : Type) → List (DataW H) → Bool := fun _ ds => decide (uptoBulkAll ds ≤ 1048576)
def OpenSpec.upto (s : _root_.Go.ChangeSpec) : _root_.Go.OpenSpec := { _root_.Go.OpenSpec.ofChange s with cond := some uptoSmall }

/-- 'fullinglaw32.VCodeExamples', WHERE WHAT IT READS IS OF BULK AT MOST 1048576: true; the input reads as it did. -/
def vCodeExamplesUptoRow : OpenClaim := { program := "ytbjglnknddeflaadoor", sum := "43025667e009e7ae3f37e9c610dd6c8cf372fc2e4169820b62107dc7cf0ef3d5", func := "fulling/fullinglaw32.VCodeExamples", spec := "vCodeExamples", unfollowed := true, recurses := true, named := ["fulling/machine.table"], apart := false, laid := [("fulling/machine.table", laid_fulling_machine_table)], narrowed := true }
def VCodeExamplesUptoSaid : Prop := vCodeExamplesUptoRow.holds Tryd.pinned (OpenSpec.upto vCodeExamplesSpec)

/-- 'fullinglaw32.VCodeValid', WHERE WHAT IT READS IS OF BULK AT MOST 1048576: true; the input reads as it did. -/
def vCodeValidUptoRow : OpenClaim := { program := "ytbjglnknddeflaadoor", sum := "43025667e009e7ae3f37e9c610dd6c8cf372fc2e4169820b62107dc7cf0ef3d5", func := "fulling/fullinglaw32.VCodeValid", spec := "vCodeValid", unfollowed := true, recurses := true, named := ["fulling/machine.table"], apart := false, laid := [("fulling/machine.table", laid_fulling_machine_table)], narrowed := true }
def VCodeValidUptoSaid : Prop := vCodeValidUptoRow.holds Tryd.pinned (OpenSpec.upto vCodeValidSpec)

/-- 'fullinglaw32.VCodeProgram', WHERE WHAT IT READS IS OF BULK AT MOST 1048576: true; the input reads as it did. -/
def vCodeProgramUptoRow : OpenClaim := { program := "ytbjglnknddeflaadoor", sum := "43025667e009e7ae3f37e9c610dd6c8cf372fc2e4169820b62107dc7cf0ef3d5", func := "fulling/fullinglaw32.VCodeProgram", spec := "vCodeProgram", unfollowed := true, recurses := true, named := ["fulling/machine.table"], apart := false, laid := [("fulling/machine.table", laid_fulling_machine_table)], narrowed := true }
def VCodeProgramUptoSaid : Prop := vCodeProgramUptoRow.holds Tryd.pinned (OpenSpec.upto vCodeProgramSpec)

/-- 'fullinglaw32.VCodeRun', WHERE WHAT IT READS IS OF BULK AT MOST 1048576: true; the input reads as it did. -/
def vCodeRunUptoRow : OpenClaim := { program := "ytbjglnknddeflaadoor", sum := "43025667e009e7ae3f37e9c610dd6c8cf372fc2e4169820b62107dc7cf0ef3d5", func := "fulling/fullinglaw32.VCodeRun", spec := "vCodeRun", unfollowed := true, recurses := true, named := ["fulling/machine.table"], apart := false, laid := [("fulling/machine.table", laid_fulling_machine_table)], narrowed := true }
def VCodeRunUptoSaid : Prop := vCodeRunUptoRow.holds Tryd.pinned (OpenSpec.upto vCodeRunSpec)

/-- 'fullinglaw32.VCodeInvalid', WHERE WHAT IT READS IS OF BULK AT MOST 1048576: true; the input reads as it did. -/
def vCodeInvalidUptoRow : OpenClaim := { program := "ytbjglnknddeflaadoor", sum := "43025667e009e7ae3f37e9c610dd6c8cf372fc2e4169820b62107dc7cf0ef3d5", func := "fulling/fullinglaw32.VCodeInvalid", spec := "vCodeInvalid", unfollowed := true, recurses := true, named := ["fulling/machine.table"], apart := false, laid := [("fulling/machine.table", laid_fulling_machine_table)], narrowed := true }
def VCodeInvalidUptoSaid : Prop := vCodeInvalidUptoRow.holds Tryd.pinned (OpenSpec.upto vCodeInvalidSpec)

/-- 'fullinglaw32.VCodeMoreSteps', WHERE WHAT IT READS IS OF BULK AT MOST 1048576: true; the input reads as it did. -/
def vCodeMoreStepsUptoRow : OpenClaim := { program := "ytbjglnknddeflaadoor", sum := "43025667e009e7ae3f37e9c610dd6c8cf372fc2e4169820b62107dc7cf0ef3d5", func := "fulling/fullinglaw32.VCodeMoreSteps", spec := "vCodeMoreSteps", unfollowed := true, recurses := true, named := ["fulling/machine.table"], apart := false, laid := [("fulling/machine.table", laid_fulling_machine_table)], narrowed := true }
def VCodeMoreStepsUptoSaid : Prop := vCodeMoreStepsUptoRow.holds Tryd.pinned (OpenSpec.upto vCodeMoreStepsSpec)

/-- 'fullinglaw32.VCodeUnusedRegisters', WHERE WHAT IT READS IS OF BULK AT MOST 1048576: true; the input reads as it did. -/
def vCodeUnusedRegistersUptoRow : OpenClaim := { program := "ytbjglnknddeflaadoor", sum := "43025667e009e7ae3f37e9c610dd6c8cf372fc2e4169820b62107dc7cf0ef3d5", func := "fulling/fullinglaw32.VCodeUnusedRegisters", spec := "vCodeUnusedRegisters", unfollowed := true, recurses := true, named := ["fulling/machine.table"], apart := false, laid := [("fulling/machine.table", laid_fulling_machine_table)], narrowed := true }
def VCodeUnusedRegistersUptoSaid : Prop := vCodeUnusedRegistersUptoRow.holds Tryd.pinned (OpenSpec.upto vCodeUnusedRegistersSpec)

/-- 'fullinglaw32.VCodeOperands', WHERE WHAT IT READS IS OF BULK AT MOST 1048576: true; the input reads as it did. -/
def vCodeOperandsUptoRow : OpenClaim := { program := "ytbjglnknddeflaadoor", sum := "43025667e009e7ae3f37e9c610dd6c8cf372fc2e4169820b62107dc7cf0ef3d5", func := "fulling/fullinglaw32.VCodeOperands", spec := "vCodeOperands", unfollowed := true, recurses := true, named := ["fulling/machine.table"], apart := false, laid := [("fulling/machine.table", laid_fulling_machine_table)], narrowed := true }
def VCodeOperandsUptoSaid : Prop := vCodeOperandsUptoRow.holds Tryd.pinned (OpenSpec.upto vCodeOperandsSpec)

/-- 'fullinglaw36.LayoutExamples', WHERE WHAT IT READS IS OF BULK AT MOST 1048576: true; the input reads as it did. -/
def layoutExamplesUptoRow : OpenClaim := { program := "ytbjglnknddeflaadoor", sum := "43025667e009e7ae3f37e9c610dd6c8cf372fc2e4169820b62107dc7cf0ef3d5", func := "fulling/fullinglaw36.LayoutExamples", spec := "layoutExamples", unfollowed := true, recurses := true, named := ["fulling/machine.table"], apart := false, laid := [("fulling/machine.table", laid_fulling_machine_table)], narrowed := true }
def LayoutExamplesUptoSaid : Prop := layoutExamplesUptoRow.holds Tryd.pinned (OpenSpec.upto layoutExamplesSpec)

/-- 'fullinglaw36.LayoutExpand', WHERE WHAT IT READS IS OF BULK AT MOST 1048576: true; the input reads as it did. -/
def layoutExpandUptoRow : OpenClaim := { program := "ytbjglnknddeflaadoor", sum := "43025667e009e7ae3f37e9c610dd6c8cf372fc2e4169820b62107dc7cf0ef3d5", func := "fulling/fullinglaw36.LayoutExpand", spec := "layoutExpand", unfollowed := true, recurses := true, named := ["fulling/machine.table"], apart := false, laid := [("fulling/machine.table", laid_fulling_machine_table)], narrowed := true }
def LayoutExpandUptoSaid : Prop := layoutExpandUptoRow.holds Tryd.pinned (OpenSpec.upto layoutExpandSpec)

end Rows
end Go.Proofs.YtbjglnknddeflaaDoor
