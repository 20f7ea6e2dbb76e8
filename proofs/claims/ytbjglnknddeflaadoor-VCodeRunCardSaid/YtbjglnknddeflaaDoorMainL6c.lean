/- The card of the law, by the row's proof; it holds for every input, on the terms of its row: the package's table as laid. -/
import Derived.Test.YtbjglnknddeflaaDoorX24
set_option linter.unusedSimpArgs false
set_option linter.unusedVariables false
/- The card of VCodeRun. -/
namespace Go.Proofs.YtbjglnknddeflaaDoor
open Go Go.Abs

theorem ws2 : Tryd.prog.wantsStandIn 2 = false := by kernel_rfl
theorem ws3 : Tryd.prog.wantsStandIn 3 = false := by kernel_rfl
theorem ws24 : Tryd.prog.wantsStandIn 24 = false := by kernel_rfl
theorem vCodeRun_card : Rows.VCodeRunCardSaid :=
  Claim7.holds_tied_plain_at .later [] [.data] true (true, "e6a1f707724431c1534d83b8f70f5c1d90b51d1c09f610a534f90d4165ebc805") false
    vCodeRun_holds (fun _ h => by cases h) (by kernel_rfl) (fun _ h => by cases h) vCodeRun_row_tie rfl ⟨rfl, rfl⟩ (by kernel_rfl) rfl
    (fun f fn hf hfn => by
      obtain rfl : f = 6 := Option.some.inj ((show Tryd.prog.funcNamed "fulling/fullinglaw32.VCodeRun" = some 6 by kernel_rfl).symm.trans hf) |>.symm
      obtain rfl : fn = Tryd.f6 := (Option.some.inj (Tryd.func6.symm.trans hfn)).symm
      exact ⟨by kernel_rfl, fun j t ht => by rw [par6] at ht; match j with
        | 0 => cases ht; exact ws24
        | 1 => cases ht; exact ws24
        | 2 => cases ht; exact ws3
        | 3 => cases ht; exact ws3
        | 4 => cases ht; exact ws3
        | 5 => cases ht; exact ws2
        | 6 => cases ht; exact ws3
        | 7 => cases ht; exact ws3
        | _ + 8 => simp at ht⟩)
    (by kernel_rfl)
end Go.Proofs.YtbjglnknddeflaaDoor
