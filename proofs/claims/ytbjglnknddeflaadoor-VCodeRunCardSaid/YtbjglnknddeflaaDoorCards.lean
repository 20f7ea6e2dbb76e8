/-
  DERIVED. GIVEN WITH THE SEED: THE CARDS: each row of YtbjglnknddeflaaDoorRows.lean that lists a variable, with what it lists TIED to the program's text (the seventh form; the later family's looks); each row that meets fmt, with fmt's text TOLD by the authors' own Lean function (tested against real Go, not proved from fmt's source: count such statements apart). THE CARD IS WHAT COUNTS. Prove the row's statement (the work); the ties are given (YtbjglnknddeflaaDoorTie.lean); close each card by the builder's one call (the guide's Derived/Test/ToyasCard.lean, 'card_holds'). Laid BY PROGRAM, IN A SANDBOX (cutbox-door.mjs). By AI agents, Wed Nov 11 2026. No macro, syntax, notation, axiom, sorry.
-/
import Derived.Test.YtbjglnknddeflaaDoorRows
import GoSem.ClaimSeven
namespace Go.Proofs.YtbjglnknddeflaaDoor
namespace Rows

/-- THE TIED CARD OF 'fullinglaw32.VCodeExamples'. -/
def vCodeExamplesCard : Claim7 := { stood := { row := vCodeExamplesRow, standIns := [], harness := (true, "e6a1f707724431c1534d83b8f70f5c1d90b51d1c09f610a534f90d4165ebc805"), looks := false }, kinds := [], alts := [], laidByText := true, laidKinds := [.data], laidTests := true, laidLooks := .later }
def VCodeExamplesCardSaid : Prop := Claim7.holds Tryd.pinned (.plain (OpenSpec.ofChange vCodeExamplesSpec)) vCodeExamplesCard

/-- THE TIED CARD OF 'fullinglaw32.VCodeValid'. -/
def vCodeValidCard : Claim7 := { stood := { row := vCodeValidRow, standIns := [], harness := (true, "e6a1f707724431c1534d83b8f70f5c1d90b51d1c09f610a534f90d4165ebc805"), looks := false }, kinds := [], alts := [], laidByText := true, laidKinds := [.data], laidTests := true, laidLooks := .later }
def VCodeValidCardSaid : Prop := Claim7.holds Tryd.pinned (.plain (OpenSpec.ofChange vCodeValidSpec)) vCodeValidCard

/-- THE TIED CARD OF 'fullinglaw32.VCodeProgram'. -/
def vCodeProgramCard : Claim7 := { stood := { row := vCodeProgramRow, standIns := [], harness := (true, "e6a1f707724431c1534d83b8f70f5c1d90b51d1c09f610a534f90d4165ebc805"), looks := false }, kinds := [], alts := [], laidByText := true, laidKinds := [.data], laidTests := true, laidLooks := .later }
def VCodeProgramCardSaid : Prop := Claim7.holds Tryd.pinned (.plain (OpenSpec.ofChange vCodeProgramSpec)) vCodeProgramCard

/-- THE TIED CARD OF 'fullinglaw32.VCodeRun'. -/
def vCodeRunCard : Claim7 := { stood := { row := vCodeRunRow, standIns := [], harness := (true, "e6a1f707724431c1534d83b8f70f5c1d90b51d1c09f610a534f90d4165ebc805"), looks := false }, kinds := [], alts := [], laidByText := true, laidKinds := [.data], laidTests := true, laidLooks := .later }
def VCodeRunCardSaid : Prop := Claim7.holds Tryd.pinned (.plain (OpenSpec.ofChange vCodeRunSpec)) vCodeRunCard

/-- THE TIED CARD OF 'fullinglaw32.VCodeInvalid'. -/
def vCodeInvalidCard : Claim7 := { stood := { row := vCodeInvalidRow, standIns := [], harness := (true, "e6a1f707724431c1534d83b8f70f5c1d90b51d1c09f610a534f90d4165ebc805"), looks := false }, kinds := [], alts := [], laidByText := true, laidKinds := [.data], laidTests := true, laidLooks := .later }
def VCodeInvalidCardSaid : Prop := Claim7.holds Tryd.pinned (.plain (OpenSpec.ofChange vCodeInvalidSpec)) vCodeInvalidCard

/-- THE TIED CARD OF 'fullinglaw32.VCodeMoreSteps'. -/
def vCodeMoreStepsCard : Claim7 := { stood := { row := vCodeMoreStepsRow, standIns := [], harness := (true, "e6a1f707724431c1534d83b8f70f5c1d90b51d1c09f610a534f90d4165ebc805"), looks := false }, kinds := [], alts := [], laidByText := true, laidKinds := [.data], laidTests := true, laidLooks := .later }
def VCodeMoreStepsCardSaid : Prop := Claim7.holds Tryd.pinned (.plain (OpenSpec.ofChange vCodeMoreStepsSpec)) vCodeMoreStepsCard

/-- THE TIED CARD OF 'fullinglaw32.VCodeUnusedRegisters'. -/
def vCodeUnusedRegistersCard : Claim7 := { stood := { row := vCodeUnusedRegistersRow, standIns := [], harness := (true, "e6a1f707724431c1534d83b8f70f5c1d90b51d1c09f610a534f90d4165ebc805"), looks := false }, kinds := [], alts := [], laidByText := true, laidKinds := [.data], laidTests := true, laidLooks := .later }
def VCodeUnusedRegistersCardSaid : Prop := Claim7.holds Tryd.pinned (.plain (OpenSpec.ofChange vCodeUnusedRegistersSpec)) vCodeUnusedRegistersCard

/-- THE TIED CARD OF 'fullinglaw32.VCodeOperands'. -/
def vCodeOperandsCard : Claim7 := { stood := { row := vCodeOperandsRow, standIns := [], harness := (true, "e6a1f707724431c1534d83b8f70f5c1d90b51d1c09f610a534f90d4165ebc805"), looks := false }, kinds := [], alts := [], laidByText := true, laidKinds := [.data], laidTests := true, laidLooks := .later }
def VCodeOperandsCardSaid : Prop := Claim7.holds Tryd.pinned (.plain (OpenSpec.ofChange vCodeOperandsSpec)) vCodeOperandsCard

/-- THE TIED CARD OF 'fullinglaw36.LayoutExamples'. -/
def layoutExamplesCard : Claim7 := { stood := { row := layoutExamplesRow, standIns := [], harness := (true, "e6a1f707724431c1534d83b8f70f5c1d90b51d1c09f610a534f90d4165ebc805"), looks := false }, kinds := [], alts := [], laidByText := true, laidKinds := [.data], laidTests := true, laidLooks := .later }
def LayoutExamplesCardSaid : Prop := Claim7.holds Tryd.pinned (.plain (OpenSpec.ofChange layoutExamplesSpec)) layoutExamplesCard

/-- THE TIED CARD OF 'fullinglaw36.LayoutExpand'. -/
def layoutExpandCard : Claim7 := { stood := { row := layoutExpandRow, standIns := [], harness := (true, "e6a1f707724431c1534d83b8f70f5c1d90b51d1c09f610a534f90d4165ebc805"), looks := false }, kinds := [], alts := [], laidByText := true, laidKinds := [.data], laidTests := true, laidLooks := .later }
def LayoutExpandCardSaid : Prop := Claim7.holds Tryd.pinned (.plain (OpenSpec.ofChange layoutExpandSpec)) layoutExpandCard

/-- THE SECOND FORM's CARD OF 'fullinglaw32.VCodeExamples'. -/
def vCodeExamplesUptoCard : Claim7 := { stood := { row := vCodeExamplesUptoRow, standIns := [], harness := (true, "e6a1f707724431c1534d83b8f70f5c1d90b51d1c09f610a534f90d4165ebc805"), looks := false }, kinds := [], alts := [], laidByText := true, laidKinds := [.data], laidTests := true, laidLooks := .later }
def VCodeExamplesUptoCardSaid : Prop := Claim7.holds Tryd.pinned (.plain (OpenSpec.upto vCodeExamplesSpec)) vCodeExamplesUptoCard

/-- THE SECOND FORM's CARD OF 'fullinglaw32.VCodeValid'. -/
def vCodeValidUptoCard : Claim7 := { stood := { row := vCodeValidUptoRow, standIns := [], harness := (true, "e6a1f707724431c1534d83b8f70f5c1d90b51d1c09f610a534f90d4165ebc805"), looks := false }, kinds := [], alts := [], laidByText := true, laidKinds := [.data], laidTests := true, laidLooks := .later }
def VCodeValidUptoCardSaid : Prop := Claim7.holds Tryd.pinned (.plain (OpenSpec.upto vCodeValidSpec)) vCodeValidUptoCard

/-- THE SECOND FORM's CARD OF 'fullinglaw32.VCodeProgram'. -/
def vCodeProgramUptoCard : Claim7 := { stood := { row := vCodeProgramUptoRow, standIns := [], harness := (true, "e6a1f707724431c1534d83b8f70f5c1d90b51d1c09f610a534f90d4165ebc805"), looks := false }, kinds := [], alts := [], laidByText := true, laidKinds := [.data], laidTests := true, laidLooks := .later }
def VCodeProgramUptoCardSaid : Prop := Claim7.holds Tryd.pinned (.plain (OpenSpec.upto vCodeProgramSpec)) vCodeProgramUptoCard

/-- THE SECOND FORM's CARD OF 'fullinglaw32.VCodeRun'. -/
def vCodeRunUptoCard : Claim7 := { stood := { row := vCodeRunUptoRow, standIns := [], harness := (true, "e6a1f707724431c1534d83b8f70f5c1d90b51d1c09f610a534f90d4165ebc805"), looks := false }, kinds := [], alts := [], laidByText := true, laidKinds := [.data], laidTests := true, laidLooks := .later }
def VCodeRunUptoCardSaid : Prop := Claim7.holds Tryd.pinned (.plain (OpenSpec.upto vCodeRunSpec)) vCodeRunUptoCard

/-- THE SECOND FORM's CARD OF 'fullinglaw32.VCodeInvalid'. -/
def vCodeInvalidUptoCard : Claim7 := { stood := { row := vCodeInvalidUptoRow, standIns := [], harness := (true, "e6a1f707724431c1534d83b8f70f5c1d90b51d1c09f610a534f90d4165ebc805"), looks := false }, kinds := [], alts := [], laidByText := true, laidKinds := [.data], laidTests := true, laidLooks := .later }
def VCodeInvalidUptoCardSaid : Prop := Claim7.holds Tryd.pinned (.plain (OpenSpec.upto vCodeInvalidSpec)) vCodeInvalidUptoCard

/-- THE SECOND FORM's CARD OF 'fullinglaw32.VCodeMoreSteps'. -/
def vCodeMoreStepsUptoCard : Claim7 := { stood := { row := vCodeMoreStepsUptoRow, standIns := [], harness := (true, "e6a1f707724431c1534d83b8f70f5c1d90b51d1c09f610a534f90d4165ebc805"), looks := false }, kinds := [], alts := [], laidByText := true, laidKinds := [.data], laidTests := true, laidLooks := .later }
def VCodeMoreStepsUptoCardSaid : Prop := Claim7.holds Tryd.pinned (.plain (OpenSpec.upto vCodeMoreStepsSpec)) vCodeMoreStepsUptoCard

/-- THE SECOND FORM's CARD OF 'fullinglaw32.VCodeUnusedRegisters'. -/
def vCodeUnusedRegistersUptoCard : Claim7 := { stood := { row := vCodeUnusedRegistersUptoRow, standIns := [], harness := (true, "e6a1f707724431c1534d83b8f70f5c1d90b51d1c09f610a534f90d4165ebc805"), looks := false }, kinds := [], alts := [], laidByText := true, laidKinds := [.data], laidTests := true, laidLooks := .later }
def VCodeUnusedRegistersUptoCardSaid : Prop := Claim7.holds Tryd.pinned (.plain (OpenSpec.upto vCodeUnusedRegistersSpec)) vCodeUnusedRegistersUptoCard

/-- THE SECOND FORM's CARD OF 'fullinglaw32.VCodeOperands'. -/
def vCodeOperandsUptoCard : Claim7 := { stood := { row := vCodeOperandsUptoRow, standIns := [], harness := (true, "e6a1f707724431c1534d83b8f70f5c1d90b51d1c09f610a534f90d4165ebc805"), looks := false }, kinds := [], alts := [], laidByText := true, laidKinds := [.data], laidTests := true, laidLooks := .later }
def VCodeOperandsUptoCardSaid : Prop := Claim7.holds Tryd.pinned (.plain (OpenSpec.upto vCodeOperandsSpec)) vCodeOperandsUptoCard

/-- THE SECOND FORM's CARD OF 'fullinglaw36.LayoutExamples'. -/
def layoutExamplesUptoCard : Claim7 := { stood := { row := layoutExamplesUptoRow, standIns := [], harness := (true, "e6a1f707724431c1534d83b8f70f5c1d90b51d1c09f610a534f90d4165ebc805"), looks := false }, kinds := [], alts := [], laidByText := true, laidKinds := [.data], laidTests := true, laidLooks := .later }
def LayoutExamplesUptoCardSaid : Prop := Claim7.holds Tryd.pinned (.plain (OpenSpec.upto layoutExamplesSpec)) layoutExamplesUptoCard

/-- THE SECOND FORM's CARD OF 'fullinglaw36.LayoutExpand'. -/
def layoutExpandUptoCard : Claim7 := { stood := { row := layoutExpandUptoRow, standIns := [], harness := (true, "e6a1f707724431c1534d83b8f70f5c1d90b51d1c09f610a534f90d4165ebc805"), looks := false }, kinds := [], alts := [], laidByText := true, laidKinds := [.data], laidTests := true, laidLooks := .later }
def LayoutExpandUptoCardSaid : Prop := Claim7.holds Tryd.pinned (.plain (OpenSpec.upto layoutExpandSpec)) layoutExpandUptoCard
end Rows
end Go.Proofs.YtbjglnknddeflaaDoor
