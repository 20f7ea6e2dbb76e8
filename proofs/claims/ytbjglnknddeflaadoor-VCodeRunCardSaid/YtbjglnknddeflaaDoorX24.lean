/- A part of the proof: L6 -/
import Derived.Test.YtbjglnknddeflaaDoorCards
import Derived.Test.YtbjglnknddeflaaDoorTie
import Derived.ProofKit
import Derived.LaidMore
import Derived.OpenShut
import Derived.Stop.Joined
import Derived.SevenTiedAt
import Derived.Test.YtbjglnknddeflaaDoorX23
set_option linter.unusedSimpArgs false
set_option linter.unusedVariables false
/- The law VCodeRun: it returns true, whatever the input; what it reads of the package's table is as laid. -/
set_option maxRecDepth 100000
namespace Go.Abs
open Go.Proofs Go.Proofs.YtbjglnknddeflaaDoor

abbrev laidT : List (String × DataW Unit) := [("fulling/machine.table", Rows.laid_fulling_machine_table)]

def RowT : Type := List UInt8 × Int × Bool × Bool × Bool × Bool × Int × Unit
def rowCells (p : RowT) : List AV := [.str ⟨p.1.toArray⟩] ++ ([.int .i64 p.2.1] ++ ([.bool p.2.2.1] ++ ([.bool p.2.2.2.1] ++ ([.bool p.2.2.2.2.1] ++ ([.bool p.2.2.2.2.2.1] ++ ([.int .i64 p.2.2.2.2.2.2.1] ++ []))))))

theorem u9 : sE.P.underlying 9 = some .string := by kernel_rfl
theorem u3 : sE.P.underlying 3 = some (.int .i64) := by kernel_rfl
theorem u4 : sE.P.underlying 4 = some .bool := by kernel_rfl
theorem u108 : sE.P.underlying 108 = some (.struct [⟨"Name", 9, 0, false, "", "", 0⟩, ⟨"Form", 3, 1, false, "", "", 16⟩, ⟨"ReadsA", 4, 2, false, "", "", 24⟩, ⟨"WritesA", 4, 3, false, "", "", 25⟩, ⟨"ReadsB", 4, 4, false, "", "", 26⟩, ⟨"MayTrap", 4, 5, false, "", "", 27⟩, ⟨"Words", 3, 6, false, "", "", 32⟩].toArray) := by kernel_rfl
theorem u141 : sE.P.underlying 141 = some (.slice 108) := by kernel_rfl
theorem c3 : sE.P.cellsOf 3 = 1 := by kernel_rfl
theorem c4 : sE.P.cellsOf 4 = 1 := by kernel_rfl
theorem c9 : sE.P.cellsOf 9 = 1 := by kernel_rfl
theorem c108 : sE.P.cellsOf 108 = 7 := by kernel_rfl

section
variable {H : Type} {enc : TypeId × Value → H} {w : World} {held : Bool}
theorem dec108 : Dec enc sE.P w (fun _ => true) held sE 108 rowCells (unAgg (unCons unStr (unCons (unInt .i64) (unCons unBool (unCons unBool (unCons unBool (unCons unBool (unCons (unInt .i64) unNil)))))))) :=
  dec_struct u108 c108 (decF_cons 1 6 rfl rfl rfl c9 (dec_str u9) (decF_cons 1 5 rfl rfl rfl c3 (dec_int u3) (decF_cons 1 4 rfl rfl rfl c4 (dec_bool u4) (decF_cons 1 3 rfl rfl rfl c4 (dec_bool u4) (decF_cons 1 2 rfl rfl rfl c4 (dec_bool u4) (decF_cons 1 1 rfl rfl rfl c4 (dec_bool u4) (decF_cons 1 0 rfl rfl rfl c3 (dec_int u3) (decF_nil _))))))))
theorem dec141 : Dec enc sE.P w (fun _ => true) held sE 141 (fun l : List RowT => [AV.ro 7 (l.map rowCells)]) (unSl (unAgg (unCons unStr (unCons (unInt .i64) (unCons unBool (unCons unBool (unCons unBool (unCons unBool (unCons (unInt .i64) unNil))))))))) :=
  dec_slice (fun _ => rfl) u141 c108 (by decide) (fun a => rfl) dec108
end

theorem gTable : sE.P.globalNamed "fulling/machine.table" = some 0 := by kernel_rfl
theorem tTable : (sE.P.globals[0]?).map (·.type) = some 141 := by kernel_rfl
def rowsT : List RowT := rowTab.map fun r => (r.nm, r.form, r.ra, r.wa, r.rb, r.mt, r.w, ())

theorem of_laid {w : World} (h : laidMetH sE.P laidT w) : VR sE (snap w) tableAV (.pointer (some ⟨0, 0, none⟩)) := by
  rw [MakeChecks.laidMetH_plain _ _ _ (by kernel_rfl)] at h
  obtain ⟨ps, ⟨g0, t0, cs, fuel, p, q, hg, ht, hv, hd, _⟩, _⟩ := h
  obtain rfl := Option.some.inj (gTable.symm.trans hg)
  obtain rfl := Option.some.inj (tTable.symm.trans ht)
  obtain ⟨l, h1, h2⟩ := dec141 _ _ _ _ hd
  have e : l = rowsT := Option.some.inj (h1.symm.trans (show _ = some rowsT by kernel_rfl))
  subst e
  have e2 : tableAV = .rp [.ro 7 (rowsT.map rowCells)] := by kernel_rfl
  rw [e2]
  refine glob_of ?_ h2
  unfold World.var? at hv
  rw [gTable] at hv
  simp only [Option.bind_some] at hv
  split at hv
  · rename_i a t fr e
    simp only [Option.some.injEq] at hv
    subst hv
    exact ⟨_, _, _, e, rfl⟩
  · cases hv
theorem tu24 : sE.P.underlying 24 = some (.slice 3) := by kernel_rfl
theorem tu3 : sE.P.underlying 3 = some (.int .i64) := by kernel_rfl
theorem tc3 : sE.P.cellsOf 3 = 1 := by kernel_rfl
theorem td24 {H : Type} {enc : TypeId × Value → H} {w : World} : Dcd enc sE.P w true sE 24 (fun l : {l : List Int // ∀ x ∈ l, I64 x} => [ints l.1]) := dcd_ints tu24 tu3 tc3
def tQ24 : AV → Prop := fun x => ∃ l : {l : List Int // ∀ x ∈ l, I64 x}, x = ints l.1
theorem ta24 {H : Type} {enc : TypeId × Value → H} {w : World} : ArgD enc sE.P w sE 24 tQ24 := argD_cell (ok_cell tu24 rfl) td24 (fun a => ⟨a, rfl⟩)
theorem td3 {H : Type} {enc : TypeId × Value → H} {w : World} : Dcd enc sE.P w true sE 3 (fun n : W64N => [AV.int .i64 n.1]) := dcd_int tu3
def tQ3 : AV → Prop := fun x => ∃ n : W64N, x = .int .i64 n.1
theorem ta3 {H : Type} {enc : TypeId × Value → H} {w : World} : ArgD enc sE.P w sE 3 tQ3 := argD_cell (ok_cell tu3 rfl) td3 (fun a => ⟨a, rfl⟩)
theorem tu2 : sE.P.underlying 2 = some (.int .i64) := by kernel_rfl
theorem td2 {H : Type} {enc : TypeId × Value → H} {w : World} : Dcd enc sE.P w true sE 2 (fun n : W64N => [AV.int .i64 n.1]) := dcd_int tu2
def tQ2 : AV → Prop := fun x => ∃ n : W64N, x = .int .i64 n.1
theorem ta2 {H : Type} {enc : TypeId × Value → H} {w : World} : ArgD enc sE.P w sE 2 tQ2 := argD_cell (ok_cell tu2 rfl) td2 (fun a => ⟨a, rfl⟩)
theorem rr2 : sE.P.readableRec 2 = true ∧ 2 < sE.P.types.size := ⟨by kernel_rfl, of_decide_eq_true (by kernel_rfl)⟩
theorem rr3 : sE.P.readableRec 3 = true ∧ 3 < sE.P.types.size := ⟨by kernel_rfl, of_decide_eq_true (by kernel_rfl)⟩
theorem rr24 : sE.P.readableRec 24 = true ∧ 24 < sE.P.types.size := ⟨by kernel_rfl, of_decide_eq_true (by kernel_rfl)⟩
theorem laidOut : laidOutB sE.P = true := by kernel_rfl
end Go.Abs

namespace Go.Proofs.YtbjglnknddeflaaDoor
open Go Go.Abs Go.ChangeShapes Go.WideShapes Go.ChangeAt Go.WideMaps Go.WideElems Go.RowKit

theorem own : ownKnob Tryd.prog.godebug = none := by kernel_rfl
theorem door_met (os : Os) (args : Array Value) : laidMetH Tryd.prog laidT ((World.doorLaid Tryd.prog 400 os).forCall (fun _ _ => 0) ⟨#[], args, []⟩).memory :=
  laidMetH_of_parts3 (fuel := 8) (laidMet_of_run' 8 (by kernel_rfl) (by kernel_rfl)) (by kernel_rfl) (by kernel_rfl)
theorem glob_laid {W : World} (h : laidMetH Tryd.prog laidT W) : ∀ g av, sE.glob g = some av → VR sE (snap W) av (.pointer (some ⟨g, 0, none⟩)) := fun g av hg => by
  have hg' : (if g = 0 then some tableAV else none) = some av := hg
  split at hg'
  · rename_i e
    subst e
    cases hg'
    exact of_laid h
  · cases hg'

theorem par6 : Tryd.f6.params = #[24, 24, 3, 3, 3, 2, 3, 3] := by kernel_rfl
theorem res6 : Tryd.f6.resultTypes = #[4] := by kernel_rfl

/-- The call itself. -/
theorem calls6 {H : Type} {enc : TypeId × Value → H} {W : World} {base : Nat} {args : Array Value} {ds gs : List (DataW H)} {before : List MemPlace} (hval0 : ∀ (j : Nat) (t : TypeId) (v : Value), Tryd.f6.params[j]? = some t → args[j]? = some v → Value.okWide Tryd.prog W .any base t v)
    (hW : DataW.Whole enc Tryd.prog Tryd.f6.params.toList Rows.vCodeRunSpec.vars false W args.toList ds gs before) (hL : laidMetH Tryd.prog laidT W) :
    Calls Tryd.prog 6 args W fun e W' => ∃ v, e = .returned v ∧ Rows.vCodeRunSpec.post enc Tryd.prog Tryd.f6 false true false false W args v W' := by
  have hW' := hW
  obtain ⟨p, q, hA0, hV, hpq, hfz, hnd⟩ := hW
  have hA : DataW.TrodAll enc Tryd.prog W 0 (fun _ => true) true [24, 24, 3, 3, 3, 2, 3, 3] args.toList ds p := by
    rw [par6] at hA0; exact hA0
  obtain ⟨hg, hq0⟩ := trodVars_none hV
  subst hg; subst hq0; subst hpq
  have hval : ∀ (j : Nat) (t : TypeId) (v : Value), ([24, 24, 3, 3, 3, 2, 3, 3] : List TypeId)[j]? = some t → args.toList[j]? = some v → Value.okWide Tryd.prog W .any base t v := fun j t v h1 h2 => hval0 j t v (by rw [par6]; simpa using h1) (by simpa using h2)
  obtain ⟨xs, hq, hvr⟩ := args_vrs (E := sE) (base := base) (qs := [tQ24, tQ24, tQ3, tQ3, tQ3, tQ2, tQ3, tQ3]) rfl (fun j t q h1 h2 => by
    match j with
    | 0 => cases h1; cases h2; exact ta24
    | 1 => cases h1; cases h2; exact ta24
    | 2 => cases h1; cases h2; exact ta3
    | 3 => cases h1; cases h2; exact ta3
    | 4 => cases h1; cases h2; exact ta3
    | 5 => cases h1; cases h2; exact ta2
    | 6 => cases h1; cases h2; exact ta3
    | 7 => cases h1; cases h2; exact ta3
    | _ + 8 => cases h1) hA hval
  obtain ⟨x0, xs0, h9, hq0, hq1⟩ := allQ_cons hq
  subst h9
  obtain ⟨a0, h9⟩ := hq0
  subst h9
  obtain ⟨x1, xs1, h9, hq0, hq2⟩ := allQ_cons hq1
  subst h9
  obtain ⟨a1, h9⟩ := hq0
  subst h9
  obtain ⟨x2, xs2, h9, hq0, hq3⟩ := allQ_cons hq2
  subst h9
  obtain ⟨a2, h9⟩ := hq0
  subst h9
  obtain ⟨x3, xs3, h9, hq0, hq4⟩ := allQ_cons hq3
  subst h9
  obtain ⟨a3, h9⟩ := hq0
  subst h9
  obtain ⟨x4, xs4, h9, hq0, hq5⟩ := allQ_cons hq4
  subst h9
  obtain ⟨a4, h9⟩ := hq0
  subst h9
  obtain ⟨x5, xs5, h9, hq0, hq6⟩ := allQ_cons hq5
  subst h9
  obtain ⟨a5, h9⟩ := hq0
  subst h9
  obtain ⟨x6, xs6, h9, hq0, hq7⟩ := allQ_cons hq6
  subst h9
  obtain ⟨a6, h9⟩ := hq0
  subst h9
  obtain ⟨x7, xs7, h9, hq0, hq8⟩ := allQ_cons hq7
  subst h9
  obtain ⟨a7, h9⟩ := hq0
  subst h9
  have h9 := allQ_nil hq8
  subst h9
  have hdl0 := trodAll_len hA
  obtain ⟨e0, ds0, h9, hdl1⟩ := len_cons hdl0
  subst h9
  obtain ⟨e1, ds1, h9, hdl2⟩ := len_cons hdl1
  subst h9
  obtain ⟨e2, ds2, h9, hdl3⟩ := len_cons hdl2
  subst h9
  obtain ⟨e3, ds3, h9, hdl4⟩ := len_cons hdl3
  subst h9
  obtain ⟨e4, ds4, h9, hdl5⟩ := len_cons hdl4
  subst h9
  obtain ⟨e5, ds5, h9, hdl6⟩ := len_cons hdl5
  subst h9
  obtain ⟨e6, ds6, h9, hdl7⟩ := len_cons hdl6
  subst h9
  obtain ⟨e7, ds7, h9, hdl8⟩ := len_cons hdl7
  subst h9
  have h9 := len_nil hdl8
  subst h9
  have hlt := hW'.lt
  refine (calls_true (E := sE) (law6_spec sE_good sE_fits a0.1 a1.1 a2.1 a3.1 a4.1 a5.1 a6.1 a7.1 a0.2 a1.2 a5.2) (by kernel_rfl : sE.fi 6 = some 6) (glob_laid hL) hvr).mono fun e W' ⟨he, hst⟩ => ?_
  refine ⟨_, he, post_stood (pa := p) (pv := []) hW' hst (fun _ _ _ => ?_) (fun sp hsp => ?_) (fun _ _ => rfl) rfl ?_⟩
  · rw [res6]; exact trodAll_mk1 (shut_bool Tryd.underlying4 _)
  · rw [par6]
    exact hst.again laidOut (fun t ht => by
      simp only [List.mem_cons, List.not_mem_nil, or_false] at ht
      rcases ht with rfl | rfl | rfl | rfl | rfl | rfl | rfl | rfl
      all_goals first | exact rr2 | exact rr3 | exact rr24) hA (fun x hx => hlt x (by simpa using hx)) (fun x hx => hsp x (by simpa using hx))
  · exact ok_one res6 rfl (okWide_bool_mk Tryd.underlying4 _)

set_option maxRecDepth 100000 in
theorem lifted (os : Os) (started : os.Started) (H : Type) (enc : TypeId × Value → H) :
    ReturnsInHanded {} Tryd.checked os 6 .any (fun w args => (Rows.vCodeRunSpec.pre enc Tryd.prog Tryd.f6 [] false w args ∧ laidMetH Tryd.prog laidT w) ∧ sizedMet enc Tryd.prog Tryd.f6 (OpenSpec.ofChange Rows.vCodeRunSpec) false w args)
      (Rows.vCodeRunSpec.post enc Tryd.prog Tryd.f6 false true false false) :=
  returnsInHanded_of_change_and (C := Tryd.checked) (X := fun w _ => laidMetH Tryd.prog laidT w) (fun _ _ _ hh h => h.of_heap hh) own started (by kernel_rfl) Tryd.func6
    (ChangeSpec.witness_shaped (enc := enc) (C := Tryd.checked) (os := os) (X := fun w _ => laidMetH Tryd.prog laidT w) false (World.doorLaid Tryd.prog 400 os) #[.slice none 0 0, .slice none 0 0, .int .i64 0, .int .i64 0, .int .i64 0, .int .i64 0, .int .i64 0, .int .i64 0] 8 rfl (World.shaped_of_RefB (by kernel_rfl) (by kernel_rfl)) (by kernel_rfl) (by kernel_rfl) (by kernel_rfl) (door_met os _))
    (fun W base args ds gs before hval0 hW _ _ hL _ => calls6 hval0 hW hL)

theorem vCodeRun_holds : Rows.VCodeRunSaid :=
  OpenClaim.holds_of_wide 6 Tryd.f6 rfl rfl rfl rfl rfl rfl rfl ⟨rfl, rfl, rfl, rfl, rfl⟩ rfl rfl rfl rfl rfl (by kernel_rfl) Tryd.func6 (by kernel_rfl)
    (of_decide_eq_true (by kernel_rfl)) (by unfold Func.isWrapper; first | (rw [if_pos (by decide +kernel)]; kernel_rfl) | (rw [if_neg (by decide +kernel)]; exact ⟨rfl, rfl⟩))
    (fun os started H enc _ => lifted os started H enc)
end Go.Proofs.YtbjglnknddeflaaDoor
