/- The card of the law, by the row's proof; it holds for every input, on the terms of its row: the package's table as laid. -/
import Derived.Test.YtbjglnknddeflaaDoorX24
set_option linter.unusedSimpArgs false
set_option linter.unusedVariables false
/- The card of VCodeUnusedRegisters. -/
namespace Go.Proofs.YtbjglnknddeflaaDoor
open Go Go.Abs

theorem ws2 : Tryd.prog.wantsStandIn 2 = false := by kernel_rfl
theorem ws3 : Tryd.prog.wantsStandIn 3 = false := by kernel_rfl
theorem ws24 : Tryd.prog.wantsStandIn 24 = false := by kernel_rfl
theorem vCodeUnusedRegisters_card : Rows.VCodeUnusedRegistersCardSaid :=
  Claim7.holds_tied_plain_at .later [] [.data] true (true, "e6a1f707724431c1534d83b8f70f5c1d90b51d1c09f610a534f90d4165ebc805") false
    vCodeUnusedRegisters_holds (fun _ h => by cases h) (by kernel_rfl) (fun _ h => by cases h) vCodeUnusedRegisters_row_tie rfl ⟨rfl, rfl⟩ (by kernel_rfl) rfl
    (fun f fn hf hfn => by
      obtain rfl : f = 9 := Option.some.inj ((show Tryd.prog.funcNamed "fulling/fullinglaw32.VCodeUnusedRegisters" = some 9 by kernel_rfl).symm.trans hf) |>.symm
      obtain rfl : fn = Tryd.f9 := (Option.some.inj (Tryd.func9.symm.trans hfn)).symm
      exact ⟨by kernel_rfl, fun j t ht => by rw [par9] at ht; match j with
        | 0 => cases ht; exact ws24
        | 1 => cases ht; exact ws24
        | 2 => cases ht; exact ws3
        | 3 => cases ht; exact ws3
        | 4 => cases ht; exact ws3
        | 5 => cases ht; exact ws2
        | 6 => cases ht; exact ws3
        | 7 => cases ht; exact ws3
        | _ + 8 => simp at ht⟩)
    (by kernel_rfl)
end Go.Proofs.YtbjglnknddeflaaDoor
