/- The card of the law, by the row's proof; it holds for every input, on the terms of its row: the package's table as laid. -/
import Derived.Test.YtbjglnknddeflaaDoorX23
/- The card of VCodeExamples. -/
namespace Go.Proofs.YtbjglnknddeflaaDoor
open Go Go.Abs

theorem vCodeExamples_card : Rows.VCodeExamplesCardSaid :=
  Claim7.holds_tied_plain_at .later [] [.data] true (true, "e6a1f707724431c1534d83b8f70f5c1d90b51d1c09f610a534f90d4165ebc805") false
    vCodeExamples_holds (fun _ h => by cases h) (by kernel_rfl) (fun _ h => by cases h) vCodeExamples_row_tie rfl ⟨rfl, rfl⟩ (by kernel_rfl) rfl
    (fun f fn hf hfn => by
      obtain rfl : f = 3 := Option.some.inj ((show Tryd.prog.funcNamed "fulling/fullinglaw32.VCodeExamples" = some 3 by kernel_rfl).symm.trans hf) |>.symm
      obtain rfl : fn = Tryd.f3 := (Option.some.inj (Tryd.func3.symm.trans hfn)).symm
      exact ⟨by kernel_rfl, fun j t ht => by rw [par3] at ht; simp at ht⟩)
    (by kernel_rfl)
end Go.Proofs.YtbjglnknddeflaaDoor
