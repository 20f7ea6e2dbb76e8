/- A part of the proof: L3 -/
import Derived.Test.YtbjglnknddeflaaDoorCards
import Derived.Test.YtbjglnknddeflaaDoorTie
import Derived.ProofKit
import Derived.LaidMore
import Derived.OpenShut
import Derived.Stop.Joined
import Derived.SevenTiedAt
import Derived.Test.YtbjglnknddeflaaDoorX22
/- The law VCodeExamples: it returns true, whatever the memory; what it reads of the package's table is as laid. -/
set_option maxRecDepth 100000
namespace Go.Abs
open Go.Proofs Go.Proofs.YtbjglnknddeflaaDoor

abbrev laidT : List (String × DataW Unit) := [("fulling/machine.table", Rows.laid_fulling_machine_table)]

def RowT : Type := List UInt8 × Int × Bool × Bool × Bool × Bool × Int × Unit
def rowCells (p : RowT) : List AV := [.str ⟨p.1.toArray⟩] ++ ([.int .i64 p.2.1] ++ ([.bool p.2.2.1] ++ ([.bool p.2.2.2.1] ++ ([.bool p.2.2.2.2.1] ++ ([.bool p.2.2.2.2.2.1] ++ ([.int .i64 p.2.2.2.2.2.2.1] ++ []))))))

theorem u9 : sE.P.underlying 9 = some .string := by kernel_rfl
theorem u3 : sE.P.underlying 3 = some (.int .i64) := by kernel_rfl
theorem u4 : sE.P.underlying 4 = some .bool := by kernel_rfl
theorem u108 : sE.P.underlying 108 = some (.struct [⟨"Name", 9, 0, false, "", "", 0⟩, ⟨"Form", 3, 1, false, "", "", 16⟩, ⟨"ReadsA", 4, 2, false, "", "", 24⟩, ⟨"WritesA", 4, 3, false, "", "", 25⟩, ⟨"ReadsB", 4, 4, false, "", "", 26⟩, ⟨"MayTrap", 4, 5, false, "", "", 27⟩, ⟨"Words", 3, 6, false, "", "", 32⟩].toArray) := by kernel_rfl
theorem u141 : sE.P.underlying 141 = some (.slice 108) := by kernel_rfl
theorem c3 : sE.P.cellsOf 3 = 1 := by kernel_rfl
theorem c4 : sE.P.cellsOf 4 = 1 := by kernel_rfl
theorem c9 : sE.P.cellsOf 9 = 1 := by kernel_rfl
theorem c108 : sE.P.cellsOf 108 = 7 := by kernel_rfl

section
variable {H : Type} {enc : TypeId × Value → H} {w : World} {held : Bool}
theorem dec108 : Dec enc sE.P w (fun _ => true) held sE 108 rowCells (unAgg (unCons unStr (unCons (unInt .i64) (unCons unBool (unCons unBool (unCons unBool (unCons unBool (unCons (unInt .i64) unNil)))))))) :=
  dec_struct u108 c108 (decF_cons 1 6 rfl rfl rfl c9 (dec_str u9) (decF_cons 1 5 rfl rfl rfl c3 (dec_int u3) (decF_cons 1 4 rfl rfl rfl c4 (dec_bool u4) (decF_cons 1 3 rfl rfl rfl c4 (dec_bool u4) (decF_cons 1 2 rfl rfl rfl c4 (dec_bool u4) (decF_cons 1 1 rfl rfl rfl c4 (dec_bool u4) (decF_cons 1 0 rfl rfl rfl c3 (dec_int u3) (decF_nil _))))))))
theorem dec141 : Dec enc sE.P w (fun _ => true) held sE 141 (fun l : List RowT => [AV.ro 7 (l.map rowCells)]) (unSl (unAgg (unCons unStr (unCons (unInt .i64) (unCons unBool (unCons unBool (unCons unBool (unCons unBool (unCons (unInt .i64) unNil))))))))) :=
  dec_slice (fun _ => rfl) u141 c108 (by decide) (fun a => rfl) dec108
end

theorem gTable : sE.P.globalNamed "fulling/machine.table" = some 0 := by kernel_rfl
theorem tTable : (sE.P.globals[0]?).map (·.type) = some 141 := by kernel_rfl
def rowsT : List RowT := rowTab.map fun r => (r.nm, r.form, r.ra, r.wa, r.rb, r.mt, r.w, ())

theorem of_laid {w : World} (h : laidMetH sE.P laidT w) : VR sE (snap w) tableAV (.pointer (some ⟨0, 0, none⟩)) := by
  rw [MakeChecks.laidMetH_plain _ _ _ (by kernel_rfl)] at h
  obtain ⟨ps, ⟨g0, t0, cs, fuel, p, q, hg, ht, hv, hd, _⟩, _⟩ := h
  obtain rfl := Option.some.inj (gTable.symm.trans hg)
  obtain rfl := Option.some.inj (tTable.symm.trans ht)
  obtain ⟨l, h1, h2⟩ := dec141 _ _ _ _ hd
  have e : l = rowsT := Option.some.inj (h1.symm.trans (show _ = some rowsT by kernel_rfl))
  subst e
  have e2 : tableAV = .rp [.ro 7 (rowsT.map rowCells)] := by kernel_rfl
  rw [e2]
  refine glob_of ?_ h2
  unfold World.var? at hv
  rw [gTable] at hv
  simp only [Option.bind_some] at hv
  split at hv
  · rename_i a t fr e
    simp only [Option.some.injEq] at hv
    subst hv
    exact ⟨_, _, _, e, rfl⟩
  · cases hv
end Go.Abs

namespace Go.Proofs.YtbjglnknddeflaaDoor
open Go Go.Abs Go.ChangeShapes Go.WideShapes Go.ChangeAt Go.WideMaps Go.WideElems Go.RowKit

theorem own : ownKnob Tryd.prog.godebug = none := by kernel_rfl
theorem door_met (os : Os) (args : Array Value) : laidMetH Tryd.prog laidT ((World.doorLaid Tryd.prog 400 os).forCall (fun _ _ => 0) ⟨#[], args, []⟩).memory :=
  laidMetH_of_parts3 (fuel := 8) (laidMet_of_run' 8 (by kernel_rfl) (by kernel_rfl)) (by kernel_rfl) (by kernel_rfl)
theorem glob_laid {W : World} (h : laidMetH Tryd.prog laidT W) : ∀ g av, sE.glob g = some av → VR sE (snap W) av (.pointer (some ⟨g, 0, none⟩)) := fun g av hg => by
  have hg' : (if g = 0 then some tableAV else none) = some av := hg
  split at hg'
  · rename_i e
    subst e
    cases hg'
    exact of_laid h
  · cases hg'

theorem par3 : Tryd.f3.params = #[] := by kernel_rfl
theorem res3 : Tryd.f3.resultTypes = #[4] := by kernel_rfl

set_option maxRecDepth 100000 in
theorem lifted (os : Os) (started : os.Started) (H : Type) (enc : TypeId × Value → H) :
    ReturnsInHanded {} Tryd.checked os 3 .any (fun w args => (Rows.vCodeExamplesSpec.pre enc Tryd.prog Tryd.f3 [] false w args ∧ laidMetH Tryd.prog laidT w) ∧ sizedMet enc Tryd.prog Tryd.f3 (OpenSpec.ofChange Rows.vCodeExamplesSpec) false w args)
      (Rows.vCodeExamplesSpec.post enc Tryd.prog Tryd.f3 false true false false) := by
  refine returnsInHanded_of_change_and (C := Tryd.checked) (X := fun w _ => laidMetH Tryd.prog laidT w) (fun _ _ _ hh h => h.of_heap hh) own started (by kernel_rfl) Tryd.func3
    (ChangeSpec.witness_shaped (enc := enc) (C := Tryd.checked) (os := os) (X := fun w _ => laidMetH Tryd.prog laidT w) false (World.doorLaid Tryd.prog 400 os) #[] 8 rfl (World.shaped_of_RefB (by kernel_rfl) (by kernel_rfl)) (by kernel_rfl) (by kernel_rfl) (by kernel_rfl) (door_met os _)) ?_
  intro W base args ds gs before hval0 hW _ _ hL _
  have hW' := hW
  obtain ⟨p, q, hA0, hV, rfl, hfz, hnd⟩ := hW
  have hA : DataW.TrodAll enc Tryd.prog W 0 (fun _ => true) true Tryd.f3.params.toList args.toList ds p := hA0
  rw [par3] at hA
  obtain ⟨rfl, rfl, rfl⟩ := trodAll_none hA
  obtain ⟨rfl, rfl⟩ := trodVars_none hV
  refine (calls_true (examples_spec sE_good sE_fits) (show sE.fi 3 = some 3 from rfl) (glob_laid hL) (⟨rfl, fun j x v hj => by simp at hj⟩ : VRs sE (snap W) [] (#[] : Array Value).toList)).mono fun e W' ⟨he, hst⟩ => ?_
  refine ⟨_, he, post_stood (pa := []) (pv := []) hW' hst (fun _ _ _ => ?_) (fun sp _ => ?_) (fun _ _ => rfl) rfl ?_⟩
  · rw [res3]; exact trodAll_mk1 (shut_bool Tryd.underlying4 _)
  · rw [par3]; rfl
  · exact ok_one res3 rfl (okWide_bool_mk Tryd.underlying4 _)

theorem vCodeExamples_holds : Rows.VCodeExamplesSaid :=
  OpenClaim.holds_of_wide 3 Tryd.f3 rfl rfl rfl rfl rfl rfl rfl ⟨rfl, rfl, rfl, rfl, rfl⟩ rfl rfl rfl rfl rfl (by kernel_rfl) Tryd.func3 (by kernel_rfl)
    (of_decide_eq_true (by kernel_rfl)) (by unfold Func.isWrapper; first | (rw [if_pos (by decide +kernel)]; kernel_rfl) | (rw [if_neg (by decide +kernel)]; exact ⟨rfl, rfl⟩))
    (fun os started H enc _ => lifted os started H enc)
end Go.Proofs.YtbjglnknddeflaaDoor
