/- A part of the proof: AE -/
import Derived.Test.YtbjglnknddeflaaDoorProg
import Derived.KernelRfl
import Derived.Test.YtbjglnknddeflaaDoorX21
set_option linter.unusedSimpArgs false
set_option linter.unusedVariables false
/- One seat's numbers: its types and functions as the loaded program has them; each fact by the kernel's reckoning. Printed by a program of this session's (seat.py). -/
namespace Go.Abs

def tlist : List (Nat × TInfo) := [(2, ⟨1, 8, .int .i64, [.int .i64 0]⟩),
  (3, ⟨1, 8, .int .i64, [.int .i64 0]⟩),
  (4, ⟨1, 1, .bool, [.bool false]⟩),
  (9, ⟨1, 16, .str, [.str ⟨#[]⟩]⟩),
  (23, ⟨5, 40, .struct [(0, 3), (1, 3), (2, 3), (3, 3), (4, 2)], [.int .i64 0, .int .i64 0, .int .i64 0, .int .i64 0, .int .i64 0]⟩),
  (24, ⟨1, 24, .slice 3, [.nilsl]⟩),
  (26, ⟨6, 64, .struct [(0, 23), (5, 24)], [.int .i64 0, .int .i64 0, .int .i64 0, .int .i64 0, .int .i64 0, .nilsl]⟩),
  (27, ⟨1, 24, .slice 26, [.nilsl]⟩),
  (29, ⟨5, 56, .struct [(0, 27), (1, 3), (2, 3), (3, 3), (4, 3)], [.nilsl, .int .i64 0, .int .i64 0, .int .i64 0, .int .i64 0]⟩),
  (30, ⟨1, 24, .slice 29, [.nilsl]⟩),
  (32, ⟨3, 40, .struct [(0, 3), (1, 3), (2, 30)], [.int .i64 0, .int .i64 0, .nilsl]⟩),
  (33, ⟨1, 24, .slice 2, [.nilsl]⟩),
  (35, ⟨4, 48, .struct [(0, 3), (1, 3), (2, 33), (3, 2)], [.int .i64 0, .int .i64 0, .nilsl, .int .i64 0]⟩),
  (38, ⟨1, 24, .slice 32, [.nilsl]⟩),
  (50, ⟨1, 24, .slice 38, [.nilsl]⟩),
  (51, ⟨1, 24, .slice 24, [.nilsl]⟩),
  (85, ⟨1, 8, .ptr 87, [.nilp]⟩),
  (87, ⟨8, 112, .struct [(0, 32), (3, 33), (4, 33), (5, 3), (6, 3), (7, 3)], [.int .i64 0, .int .i64 0, .nilsl, .nilsl, .nilsl, .int .i64 0, .int .i64 0, .int .i64 0]⟩),
  (88, ⟨1, 24, .slice 85, [.nilsl]⟩),
  (89, ⟨1, 24, .slice 33, [.nilsl]⟩),
  (91, ⟨9, 136, .struct [(0, 38), (1, 89), (2, 88), (3, 3), (4, 4), (5, 35)], [.nilsl, .nilsl, .nilsl, .int .i64 0, .bool false, .int .i64 0, .int .i64 0, .nilsl, .int .i64 0]⟩),
  (97, ⟨1, 8, .struct [(0, 3)], [.int .i64 0]⟩),
  (105, ⟨11, 144, .struct [(0, 38), (1, 89), (2, 3), (3, 3), (4, 33), (5, 35), (9, 4), (10, 4)], [.nilsl, .nilsl, .int .i64 0, .int .i64 0, .nilsl, .int .i64 0, .int .i64 0, .nilsl, .int .i64 0, .bool false, .bool false]⟩),
  (108, ⟨7, 40, .struct [(0, 9), (1, 3), (2, 4), (3, 4), (4, 4), (5, 4), (6, 3)], [.str ⟨#[]⟩, .int .i64 0, .bool false, .bool false, .bool false, .bool false, .int .i64 0]⟩),
  (121, ⟨1, 8, .int .u64, [.int .u64 0]⟩),
  (125, ⟨1, 8, .int .u64, [.int .u64 0]⟩),
  (139, ⟨1, 24, .slice 9, [.nilsl]⟩),
  (141, ⟨1, 24, .slice 108, [.nilsl]⟩),
  (158, ⟨1, 8, .ptr 2, [.nilp]⟩)]
def flist : List (Nat × Nat) := [(3, 3), (4, 4), (5, 5), (6, 6), (7, 7), (8, 8), (9, 9), (13, 13), (14, 14), (15, 15), (16, 16), (17, 17), (18, 18), (19, 19), (20, 20), (21, 21), (22, 22), (23, 23), (24, 24), (25, 25), (26, 26), (27, 27), (28, 28), (42, 42), (43, 43), (44, 44), (45, 45), (46, 46), (47, 47), (48, 48), (49, 49), (50, 50), (51, 51), (52, 52), (53, 53), (54, 54), (55, 55), (56, 56), (63, 63), (76, 76), (77, 77), (78, 78), (79, 79), (80, 80), (81, 81), (82, 82), (83, 83), (84, 84), (85, 85), (86, 86), (87, 87), (88, 88), (105, 105), (106, 106), (107, 107), (108, 108), (109, 109), (110, 110), (111, 111), (129, 129), (130, 130), (131, 131), (136, 136)]
noncomputable def sE : Env := { P := Go.Proofs.Tryd.prog, tt := fun t => tlist.lookup t, fi := fun g => flist.lookup g, glob := fun g => if g = 0 then some tableAV else none }

theorem lookup_mem {β : Type} {l : List (Nat × β)} {k : Nat} {v : β} (h : l.lookup k = some v) : (k, v) ∈ l := by
  induction l with
  | nil => simp at h
  | cons p l ih =>
    obtain ⟨a, b⟩ := p
    rw [List.lookup_cons] at h
    split at h
    · rename_i e
      simp only [beq_iff_eq] at e
      simp only [Option.some.injEq] at h
      rw [e, h]; exact List.mem_cons_self
    · exact List.mem_cons_of_mem _ (ih h)

theorem tinfo {t size bytes : Nat} {z : Value} {zs : List AV} {d : TD} (h : (sE.P.info? t).map (fun i => (i.size, i.bytes, i.zero)) = some (size, bytes, some z)) (h1 : z.cells.toList.map some = zs.map AV.cval) (h2 : zs.length = size) :
    ∃ i z, sE.P.info? t = some i ∧ i.size = (⟨size, bytes, d, zs⟩ : TInfo).size ∧ i.bytes = (⟨size, bytes, d, zs⟩ : TInfo).bytes ∧ i.zero = some z ∧ z.cells.size = (⟨size, bytes, d, zs⟩ : TInfo).zero.length ∧ (⟨size, bytes, d, zs⟩ : TInfo).zero.length = (⟨size, bytes, d, zs⟩ : TInfo).size ∧
    ∀ (j : Nat) (x : AV) (v : Value), (⟨size, bytes, d, zs⟩ : TInfo).zero[j]? = some x → z.cells[j]? = some v → x.cval = some v := by
  rw [Option.map_eq_some_iff] at h
  obtain ⟨i, hi, h⟩ := h
  simp only [Prod.mk.injEq] at h
  have hl : z.cells.size = zs.length := by have := congrArg List.length h1; simpa using this
  refine ⟨i, z, hi, h.1, h.2.1, h.2.2, hl, h2, fun j x v hj hv => ?_⟩
  have e : (zs.map AV.cval)[j]? = some x.cval := by rw [List.getElem?_map]; simp only at hj; rw [hj]; rfl
  rw [← h1, List.getElem?_map, Array.getElem?_toList, hv] at e
  simpa using e.symm

theorem tstruct {t : Nat} {fields : Array Field} {fs : List (Nat × Nat)} (h : sE.P.underlying t = some (.struct fields)) (h1 : fields.toList.map (fun f => (f.offset, f.type)) = fs) (h2 : fields.toList.all (fun f => f.name != "_") = true)
    (h3 : sE.P.stoodInHeld t = false) (h4 : sE.P.eqGuardType sE.P.depth t = false) : (sE.P.stoodInHeld t = false ∧ sE.P.eqGuardType sE.P.depth t = false) ∧ ∃ fields : Array Field, sE.P.underlying t = some (.struct fields) ∧ fields.toList.map (fun f => (f.offset, f.type)) = fs ∧ ∀ f ∈ fields.toList, f.name ≠ "_" :=
  ⟨⟨h3, h4⟩, fields, h, h1, fun f hf => by simpa using List.all_eq_true.1 h2 f hf⟩

theorem ty2 : TOK sE 2 ⟨1, 8, .int .i64, [.int .i64 0]⟩ := ⟨tinfo (z := .int .i64 0) (by kernel_rfl) rfl rfl, (by kernel_rfl : sE.P.underlying 2 = some (.int .i64))⟩
theorem ty3 : TOK sE 3 ⟨1, 8, .int .i64, [.int .i64 0]⟩ := ⟨tinfo (z := .int .i64 0) (by kernel_rfl) rfl rfl, (by kernel_rfl : sE.P.underlying 3 = some (.int .i64))⟩
theorem ty4 : TOK sE 4 ⟨1, 1, .bool, [.bool false]⟩ := ⟨tinfo (z := .bool false) (by kernel_rfl) rfl rfl, (by kernel_rfl : sE.P.underlying 4 = some (.bool))⟩
theorem ty9 : TOK sE 9 ⟨1, 16, .str, [.str ⟨#[]⟩]⟩ := ⟨tinfo (z := .string ⟨#[]⟩) (by kernel_rfl) rfl rfl, (by kernel_rfl : sE.P.underlying 9 = some (.string))⟩
theorem ty23 : TOK sE 23 ⟨5, 40, .struct [(0, 3), (1, 3), (2, 3), (3, 3), (4, 2)], [.int .i64 0, .int .i64 0, .int .i64 0, .int .i64 0, .int .i64 0]⟩ := ⟨tinfo (z := .agg #[.int .i64 0, .int .i64 0, .int .i64 0, .int .i64 0, .int .i64 0]) (by kernel_rfl) rfl rfl, tstruct (fields := #[⟨"Op", 3, 0, false, "", "", 0⟩, ⟨"A", 3, 1, false, "", "", 8⟩, ⟨"B", 3, 2, false, "", "", 16⟩, ⟨"C", 3, 3, false, "", "", 24⟩, ⟨"N", 2, 4, false, "", "", 32⟩]) (by kernel_rfl) rfl rfl (by kernel_rfl) (by kernel_rfl)⟩
theorem ty24 : TOK sE 24 ⟨1, 24, .slice 3, [.nilsl]⟩ := ⟨tinfo (z := .slice none 0 0) (by kernel_rfl) rfl rfl, (by kernel_rfl : sE.P.underlying 24 = some (.slice 3))⟩
theorem ty26 : TOK sE 26 ⟨6, 64, .struct [(0, 23), (5, 24)], [.int .i64 0, .int .i64 0, .int .i64 0, .int .i64 0, .int .i64 0, .nilsl]⟩ := ⟨tinfo (z := .agg #[.int .i64 0, .int .i64 0, .int .i64 0, .int .i64 0, .int .i64 0, .slice none 0 0]) (by kernel_rfl) rfl rfl, tstruct (fields := #[⟨"Instr", 23, 0, false, "", "", 0⟩, ⟨"Args", 24, 5, false, "", "", 40⟩]) (by kernel_rfl) rfl rfl (by kernel_rfl) (by kernel_rfl)⟩
theorem ty27 : TOK sE 27 ⟨1, 24, .slice 26, [.nilsl]⟩ := ⟨tinfo (z := .slice none 0 0) (by kernel_rfl) rfl rfl, (by kernel_rfl : sE.P.underlying 27 = some (.slice 26))⟩
theorem ty29 : TOK sE 29 ⟨5, 56, .struct [(0, 27), (1, 3), (2, 3), (3, 3), (4, 3)], [.nilsl, .int .i64 0, .int .i64 0, .int .i64 0, .int .i64 0]⟩ := ⟨tinfo (z := .agg #[.slice none 0 0, .int .i64 0, .int .i64 0, .int .i64 0, .int .i64 0]) (by kernel_rfl) rfl rfl, tstruct (fields := #[⟨"Instrs", 27, 0, false, "", "", 0⟩, ⟨"End", 3, 1, false, "", "", 24⟩, ⟨"Reg", 3, 2, false, "", "", 32⟩, ⟨"Target", 3, 3, false, "", "", 40⟩, ⟨"Else", 3, 4, false, "", "", 48⟩]) (by kernel_rfl) rfl rfl (by kernel_rfl) (by kernel_rfl)⟩
theorem ty30 : TOK sE 30 ⟨1, 24, .slice 29, [.nilsl]⟩ := ⟨tinfo (z := .slice none 0 0) (by kernel_rfl) rfl rfl, (by kernel_rfl : sE.P.underlying 30 = some (.slice 29))⟩
theorem ty32 : TOK sE 32 ⟨3, 40, .struct [(0, 3), (1, 3), (2, 30)], [.int .i64 0, .int .i64 0, .nilsl]⟩ := ⟨tinfo (z := .agg #[.int .i64 0, .int .i64 0, .slice none 0 0]) (by kernel_rfl) rfl rfl, tstruct (fields := #[⟨"Params", 3, 0, false, "", "", 0⟩, ⟨"Regs", 3, 1, false, "", "", 8⟩, ⟨"Blocks", 30, 2, false, "", "", 16⟩]) (by kernel_rfl) rfl rfl (by kernel_rfl) (by kernel_rfl)⟩
theorem ty33 : TOK sE 33 ⟨1, 24, .slice 2, [.nilsl]⟩ := ⟨tinfo (z := .slice none 0 0) (by kernel_rfl) rfl rfl, (by kernel_rfl : sE.P.underlying 33 = some (.slice 2))⟩
theorem ty35 : TOK sE 35 ⟨4, 48, .struct [(0, 3), (1, 3), (2, 33), (3, 2)], [.int .i64 0, .int .i64 0, .nilsl, .int .i64 0]⟩ := ⟨tinfo (z := .agg #[.int .i64 0, .int .i64 0, .slice none 0 0, .int .i64 0]) (by kernel_rfl) rfl rfl, tstruct (fields := #[⟨"Kind", 3, 0, false, "", "", 0⟩, ⟨"Code", 3, 1, false, "", "", 8⟩, ⟨"Out", 33, 2, false, "", "", 16⟩, ⟨"Value", 2, 3, false, "", "", 40⟩]) (by kernel_rfl) rfl rfl (by kernel_rfl) (by kernel_rfl)⟩
theorem ty38 : TOK sE 38 ⟨1, 24, .slice 32, [.nilsl]⟩ := ⟨tinfo (z := .slice none 0 0) (by kernel_rfl) rfl rfl, (by kernel_rfl : sE.P.underlying 38 = some (.slice 32))⟩
theorem ty50 : TOK sE 50 ⟨1, 24, .slice 38, [.nilsl]⟩ := ⟨tinfo (z := .slice none 0 0) (by kernel_rfl) rfl rfl, (by kernel_rfl : sE.P.underlying 50 = some (.slice 38))⟩
theorem ty51 : TOK sE 51 ⟨1, 24, .slice 24, [.nilsl]⟩ := ⟨tinfo (z := .slice none 0 0) (by kernel_rfl) rfl rfl, (by kernel_rfl : sE.P.underlying 51 = some (.slice 24))⟩
theorem ty85 : TOK sE 85 ⟨1, 8, .ptr 87, [.nilp]⟩ := ⟨tinfo (z := .pointer none) (by kernel_rfl) rfl rfl, (by kernel_rfl : sE.P.underlying 85 = some (.pointer 87))⟩
theorem ty87 : TOK sE 87 ⟨8, 112, .struct [(0, 32), (3, 33), (4, 33), (5, 3), (6, 3), (7, 3)], [.int .i64 0, .int .i64 0, .nilsl, .nilsl, .nilsl, .int .i64 0, .int .i64 0, .int .i64 0]⟩ := ⟨tinfo (z := .agg #[.int .i64 0, .int .i64 0, .slice none 0 0, .slice none 0 0, .slice none 0 0, .int .i64 0, .int .i64 0, .int .i64 0]) (by kernel_rfl) rfl rfl, tstruct (fields := #[⟨"code", 32, 0, false, "", "fulling/vcode", 0⟩, ⟨"regs", 33, 3, false, "", "fulling/vcode", 40⟩, ⟨"args", 33, 4, false, "", "fulling/vcode", 64⟩, ⟨"block", 3, 5, false, "", "fulling/vcode", 88⟩, ⟨"at", 3, 6, false, "", "fulling/vcode", 96⟩, ⟨"to", 3, 7, false, "", "fulling/vcode", 104⟩]) (by kernel_rfl) rfl rfl (by kernel_rfl) (by kernel_rfl)⟩
theorem ty88 : TOK sE 88 ⟨1, 24, .slice 85, [.nilsl]⟩ := ⟨tinfo (z := .slice none 0 0) (by kernel_rfl) rfl rfl, (by kernel_rfl : sE.P.underlying 88 = some (.slice 85))⟩
theorem ty89 : TOK sE 89 ⟨1, 24, .slice 33, [.nilsl]⟩ := ⟨tinfo (z := .slice none 0 0) (by kernel_rfl) rfl rfl, (by kernel_rfl : sE.P.underlying 89 = some (.slice 33))⟩
theorem ty91 : TOK sE 91 ⟨9, 136, .struct [(0, 38), (1, 89), (2, 88), (3, 3), (4, 4), (5, 35)], [.nilsl, .nilsl, .nilsl, .int .i64 0, .bool false, .int .i64 0, .int .i64 0, .nilsl, .int .i64 0]⟩ := ⟨tinfo (z := .agg #[.slice none 0 0, .slice none 0 0, .slice none 0 0, .int .i64 0, .bool false, .int .i64 0, .int .i64 0, .slice none 0 0, .int .i64 0]) (by kernel_rfl) rfl rfl, tstruct (fields := #[⟨"l", 38, 0, false, "", "fulling/vcode", 0⟩, ⟨"cells", 89, 1, false, "", "fulling/vcode", 24⟩, ⟨"calls", 88, 2, false, "", "fulling/vcode", 48⟩, ⟨"fuel", 3, 3, false, "", "fulling/vcode", 72⟩, ⟨"over", 4, 4, false, "", "fulling/vcode", 80⟩, ⟨"end", 35, 5, false, "", "fulling/vcode", 88⟩]) (by kernel_rfl) rfl rfl (by kernel_rfl) (by kernel_rfl)⟩
theorem ty97 : TOK sE 97 ⟨1, 8, .struct [(0, 3)], [.int .i64 0]⟩ := ⟨tinfo (z := .agg #[.int .i64 0]) (by kernel_rfl) rfl rfl, tstruct (fields := #[⟨"N", 3, 0, false, "", "", 0⟩]) (by kernel_rfl) rfl rfl (by kernel_rfl) (by kernel_rfl)⟩
theorem ty105 : TOK sE 105 ⟨11, 144, .struct [(0, 38), (1, 89), (2, 3), (3, 3), (4, 33), (5, 35), (9, 4), (10, 4)], [.nilsl, .nilsl, .int .i64 0, .int .i64 0, .nilsl, .int .i64 0, .int .i64 0, .nilsl, .int .i64 0, .bool false, .bool false]⟩ := ⟨tinfo (z := .agg #[.slice none 0 0, .slice none 0 0, .int .i64 0, .int .i64 0, .slice none 0 0, .int .i64 0, .int .i64 0, .slice none 0 0, .int .i64 0, .bool false, .bool false]) (by kernel_rfl) rfl rfl, tstruct (fields := #[⟨"L", 38, 0, false, "", "", 0⟩, ⟨"Cells", 89, 1, false, "", "", 24⟩, ⟨"Fuel", 3, 2, false, "", "", 48⟩, ⟨"Most", 3, 3, false, "", "", 56⟩, ⟨"Out", 33, 4, false, "", "", 64⟩, ⟨"End", 35, 5, false, "", "", 88⟩, ⟨"Over", 4, 9, false, "", "", 136⟩, ⟨"Long", 4, 10, false, "", "", 137⟩]) (by kernel_rfl) rfl rfl (by kernel_rfl) (by kernel_rfl)⟩
theorem ty108 : TOK sE 108 ⟨7, 40, .struct [(0, 9), (1, 3), (2, 4), (3, 4), (4, 4), (5, 4), (6, 3)], [.str ⟨#[]⟩, .int .i64 0, .bool false, .bool false, .bool false, .bool false, .int .i64 0]⟩ := ⟨tinfo (z := .agg #[.string ⟨#[]⟩, .int .i64 0, .bool false, .bool false, .bool false, .bool false, .int .i64 0]) (by kernel_rfl) rfl rfl, tstruct (fields := #[⟨"Name", 9, 0, false, "", "", 0⟩, ⟨"Form", 3, 1, false, "", "", 16⟩, ⟨"ReadsA", 4, 2, false, "", "", 24⟩, ⟨"WritesA", 4, 3, false, "", "", 25⟩, ⟨"ReadsB", 4, 4, false, "", "", 26⟩, ⟨"MayTrap", 4, 5, false, "", "", 27⟩, ⟨"Words", 3, 6, false, "", "", 32⟩]) (by kernel_rfl) rfl rfl (by kernel_rfl) (by kernel_rfl)⟩
theorem ty121 : TOK sE 121 ⟨1, 8, .int .u64, [.int .u64 0]⟩ := ⟨tinfo (z := .int .u64 0) (by kernel_rfl) rfl rfl, (by kernel_rfl : sE.P.underlying 121 = some (.int .u64))⟩
theorem ty125 : TOK sE 125 ⟨1, 8, .int .u64, [.int .u64 0]⟩ := ⟨tinfo (z := .int .u64 0) (by kernel_rfl) rfl rfl, (by kernel_rfl : sE.P.underlying 125 = some (.int .u64))⟩
theorem ty139 : TOK sE 139 ⟨1, 24, .slice 9, [.nilsl]⟩ := ⟨tinfo (z := .slice none 0 0) (by kernel_rfl) rfl rfl, (by kernel_rfl : sE.P.underlying 139 = some (.slice 9))⟩
theorem ty141 : TOK sE 141 ⟨1, 24, .slice 108, [.nilsl]⟩ := ⟨tinfo (z := .slice none 0 0) (by kernel_rfl) rfl rfl, (by kernel_rfl : sE.P.underlying 141 = some (.slice 108))⟩
theorem ty158 : TOK sE 158 ⟨1, 8, .ptr 2, [.nilp]⟩ := ⟨tinfo (z := .pointer none) (by kernel_rfl) rfl rfl, (by kernel_rfl : sE.P.underlying 158 = some (.pointer 2))⟩

theorem sE_types : sE.Types := by
  intro t ti h
  have hm : (t, ti) ∈ tlist := lookup_mem h
  have all : ∀ p ∈ tlist, TOK sE p.1 p.2 := by
    unfold tlist
    simp only [List.forall_mem_cons]
    exact ⟨ty2, ty3, ty4, ty9, ty23, ty24, ty26, ty27, ty29, ty30, ty32, ty33, ty35, ty38, ty50, ty51, ty85, ty87, ty88, ty89, ty91, ty97, ty105, ty108, ty121, ty125, ty139, ty141, ty158, by simp⟩
  exact all _ hm

structure Fit (g f : Nat) : Prop where
  fn : ∃ fn af, sE.P.funcs[g]? = some fn ∧ (fn.name == "runtime.NumGoroutine") = false ∧ fn.body.isNone = false ∧ tab f = some af ∧ compF sE fn = some af

theorem fit3 : Fit 3 3 := ⟨Go.Proofs.Tryd.f3, code3, Go.Proofs.Tryd.func3, by kernel_rfl, by kernel_rfl, by kernel_rfl, by kernel_rfl⟩
theorem fit4 : Fit 4 4 := ⟨Go.Proofs.Tryd.f4, code4, Go.Proofs.Tryd.func4, by kernel_rfl, by kernel_rfl, by kernel_rfl, by kernel_rfl⟩
theorem fit5 : Fit 5 5 := ⟨Go.Proofs.Tryd.f5, code5, Go.Proofs.Tryd.func5, by kernel_rfl, by kernel_rfl, by kernel_rfl, by kernel_rfl⟩
theorem fit6 : Fit 6 6 := ⟨Go.Proofs.Tryd.f6, code6, Go.Proofs.Tryd.func6, by kernel_rfl, by kernel_rfl, by kernel_rfl, by kernel_rfl⟩
theorem fit7 : Fit 7 7 := ⟨Go.Proofs.Tryd.f7, code7, Go.Proofs.Tryd.func7, by kernel_rfl, by kernel_rfl, by kernel_rfl, by kernel_rfl⟩
theorem fit8 : Fit 8 8 := ⟨Go.Proofs.Tryd.f8, code8, Go.Proofs.Tryd.func8, by kernel_rfl, by kernel_rfl, by kernel_rfl, by kernel_rfl⟩
theorem fit9 : Fit 9 9 := ⟨Go.Proofs.Tryd.f9, code9, Go.Proofs.Tryd.func9, by kernel_rfl, by kernel_rfl, by kernel_rfl, by kernel_rfl⟩
theorem fit13 : Fit 13 13 := ⟨Go.Proofs.Tryd.f13, code13, Go.Proofs.Tryd.func13, by kernel_rfl, by kernel_rfl, by kernel_rfl, by kernel_rfl⟩
theorem fit14 : Fit 14 14 := ⟨Go.Proofs.Tryd.f14, code14, Go.Proofs.Tryd.func14, by kernel_rfl, by kernel_rfl, by kernel_rfl, by kernel_rfl⟩
theorem fit15 : Fit 15 15 := ⟨Go.Proofs.Tryd.f15, code15, Go.Proofs.Tryd.func15, by kernel_rfl, by kernel_rfl, by kernel_rfl, by kernel_rfl⟩
theorem fit16 : Fit 16 16 := ⟨Go.Proofs.Tryd.f16, code16, Go.Proofs.Tryd.func16, by kernel_rfl, by kernel_rfl, by kernel_rfl, by kernel_rfl⟩
theorem fit17 : Fit 17 17 := ⟨Go.Proofs.Tryd.f17, code17, Go.Proofs.Tryd.func17, by kernel_rfl, by kernel_rfl, by kernel_rfl, by kernel_rfl⟩
theorem fit18 : Fit 18 18 := ⟨Go.Proofs.Tryd.f18, code18, Go.Proofs.Tryd.func18, by kernel_rfl, by kernel_rfl, by kernel_rfl, by kernel_rfl⟩
theorem fit19 : Fit 19 19 := ⟨Go.Proofs.Tryd.f19, code19, Go.Proofs.Tryd.func19, by kernel_rfl, by kernel_rfl, by kernel_rfl, by kernel_rfl⟩
theorem fit20 : Fit 20 20 := ⟨Go.Proofs.Tryd.f20, code20, Go.Proofs.Tryd.func20, by kernel_rfl, by kernel_rfl, by kernel_rfl, by kernel_rfl⟩
theorem fit21 : Fit 21 21 := ⟨Go.Proofs.Tryd.f21, code21, Go.Proofs.Tryd.func21, by kernel_rfl, by kernel_rfl, by kernel_rfl, by kernel_rfl⟩
theorem fit22 : Fit 22 22 := ⟨Go.Proofs.Tryd.f22, code22, Go.Proofs.Tryd.func22, by kernel_rfl, by kernel_rfl, by kernel_rfl, by kernel_rfl⟩
theorem fit23 : Fit 23 23 := ⟨Go.Proofs.Tryd.f23, code23, Go.Proofs.Tryd.func23, by kernel_rfl, by kernel_rfl, by kernel_rfl, by kernel_rfl⟩
theorem fit24 : Fit 24 24 := ⟨Go.Proofs.Tryd.f24, code24, Go.Proofs.Tryd.func24, by kernel_rfl, by kernel_rfl, by kernel_rfl, by kernel_rfl⟩
theorem fit25 : Fit 25 25 := ⟨Go.Proofs.Tryd.f25, code25, Go.Proofs.Tryd.func25, by kernel_rfl, by kernel_rfl, by kernel_rfl, by kernel_rfl⟩
theorem fit26 : Fit 26 26 := ⟨Go.Proofs.Tryd.f26, code26, Go.Proofs.Tryd.func26, by kernel_rfl, by kernel_rfl, by kernel_rfl, by kernel_rfl⟩
theorem fit27 : Fit 27 27 := ⟨Go.Proofs.Tryd.f27, code27, Go.Proofs.Tryd.func27, by kernel_rfl, by kernel_rfl, by kernel_rfl, by kernel_rfl⟩
theorem fit28 : Fit 28 28 := ⟨Go.Proofs.Tryd.f28, code28, Go.Proofs.Tryd.func28, by kernel_rfl, by kernel_rfl, by kernel_rfl, by kernel_rfl⟩
theorem fit42 : Fit 42 42 := ⟨Go.Proofs.Tryd.f42, code42, Go.Proofs.Tryd.func42, by kernel_rfl, by kernel_rfl, by kernel_rfl, by kernel_rfl⟩
theorem fit43 : Fit 43 43 := ⟨Go.Proofs.Tryd.f43, code43, Go.Proofs.Tryd.func43, by kernel_rfl, by kernel_rfl, by kernel_rfl, by kernel_rfl⟩
theorem fit44 : Fit 44 44 := ⟨Go.Proofs.Tryd.f44, code44, Go.Proofs.Tryd.func44, by kernel_rfl, by kernel_rfl, by kernel_rfl, by kernel_rfl⟩
theorem fit45 : Fit 45 45 := ⟨Go.Proofs.Tryd.f45, code45, Go.Proofs.Tryd.func45, by kernel_rfl, by kernel_rfl, by kernel_rfl, by kernel_rfl⟩
theorem fit46 : Fit 46 46 := ⟨Go.Proofs.Tryd.f46, code46, Go.Proofs.Tryd.func46, by kernel_rfl, by kernel_rfl, by kernel_rfl, by kernel_rfl⟩
theorem fit47 : Fit 47 47 := ⟨Go.Proofs.Tryd.f47, code47, Go.Proofs.Tryd.func47, by kernel_rfl, by kernel_rfl, by kernel_rfl, by kernel_rfl⟩
theorem fit48 : Fit 48 48 := ⟨Go.Proofs.Tryd.f48, code48, Go.Proofs.Tryd.func48, by kernel_rfl, by kernel_rfl, by kernel_rfl, by kernel_rfl⟩
theorem fit49 : Fit 49 49 := ⟨Go.Proofs.Tryd.f49, code49, Go.Proofs.Tryd.func49, by kernel_rfl, by kernel_rfl, by kernel_rfl, by kernel_rfl⟩
theorem fit50 : Fit 50 50 := ⟨Go.Proofs.Tryd.f50, code50, Go.Proofs.Tryd.func50, by kernel_rfl, by kernel_rfl, by kernel_rfl, by kernel_rfl⟩
theorem fit51 : Fit 51 51 := ⟨Go.Proofs.Tryd.f51, code51, Go.Proofs.Tryd.func51, by kernel_rfl, by kernel_rfl, by kernel_rfl, by kernel_rfl⟩
theorem fit52 : Fit 52 52 := ⟨Go.Proofs.Tryd.f52, code52, Go.Proofs.Tryd.func52, by kernel_rfl, by kernel_rfl, by kernel_rfl, by kernel_rfl⟩
theorem fit53 : Fit 53 53 := ⟨Go.Proofs.Tryd.f53, code53, Go.Proofs.Tryd.func53, by kernel_rfl, by kernel_rfl, by kernel_rfl, by kernel_rfl⟩
theorem fit54 : Fit 54 54 := ⟨Go.Proofs.Tryd.f54, code54, Go.Proofs.Tryd.func54, by kernel_rfl, by kernel_rfl, by kernel_rfl, by kernel_rfl⟩
theorem fit55 : Fit 55 55 := ⟨Go.Proofs.Tryd.f55, code55, Go.Proofs.Tryd.func55, by kernel_rfl, by kernel_rfl, by kernel_rfl, by kernel_rfl⟩
theorem fit56 : Fit 56 56 := ⟨Go.Proofs.Tryd.f56, code56, Go.Proofs.Tryd.func56, by kernel_rfl, by kernel_rfl, by kernel_rfl, by kernel_rfl⟩
theorem fit63 : Fit 63 63 := ⟨Go.Proofs.Tryd.f63, code63, Go.Proofs.Tryd.func63, by kernel_rfl, by kernel_rfl, by kernel_rfl, by kernel_rfl⟩
theorem fit76 : Fit 76 76 := ⟨Go.Proofs.Tryd.f76, code76, Go.Proofs.Tryd.func76, by kernel_rfl, by kernel_rfl, by kernel_rfl, by kernel_rfl⟩
theorem fit77 : Fit 77 77 := ⟨Go.Proofs.Tryd.f77, code77, Go.Proofs.Tryd.func77, by kernel_rfl, by kernel_rfl, by kernel_rfl, by kernel_rfl⟩
theorem fit78 : Fit 78 78 := ⟨Go.Proofs.Tryd.f78, code78, Go.Proofs.Tryd.func78, by kernel_rfl, by kernel_rfl, by kernel_rfl, by kernel_rfl⟩
theorem fit79 : Fit 79 79 := ⟨Go.Proofs.Tryd.f79, code79, Go.Proofs.Tryd.func79, by kernel_rfl, by kernel_rfl, by kernel_rfl, by kernel_rfl⟩
theorem fit80 : Fit 80 80 := ⟨Go.Proofs.Tryd.f80, code80, Go.Proofs.Tryd.func80, by kernel_rfl, by kernel_rfl, by kernel_rfl, by kernel_rfl⟩
theorem fit81 : Fit 81 81 := ⟨Go.Proofs.Tryd.f81, code81, Go.Proofs.Tryd.func81, by kernel_rfl, by kernel_rfl, by kernel_rfl, by kernel_rfl⟩
theorem fit82 : Fit 82 82 := ⟨Go.Proofs.Tryd.f82, code82, Go.Proofs.Tryd.func82, by kernel_rfl, by kernel_rfl, by kernel_rfl, by kernel_rfl⟩
theorem fit83 : Fit 83 83 := ⟨Go.Proofs.Tryd.f83, code83, Go.Proofs.Tryd.func83, by kernel_rfl, by kernel_rfl, by kernel_rfl, by kernel_rfl⟩
theorem fit84 : Fit 84 84 := ⟨Go.Proofs.Tryd.f84, code84, Go.Proofs.Tryd.func84, by kernel_rfl, by kernel_rfl, by kernel_rfl, by kernel_rfl⟩
theorem fit85 : Fit 85 85 := ⟨Go.Proofs.Tryd.f85, code85, Go.Proofs.Tryd.func85, by kernel_rfl, by kernel_rfl, by kernel_rfl, by kernel_rfl⟩
theorem fit86 : Fit 86 86 := ⟨Go.Proofs.Tryd.f86, code86, Go.Proofs.Tryd.func86, by kernel_rfl, by kernel_rfl, by kernel_rfl, by kernel_rfl⟩
theorem fit87 : Fit 87 87 := ⟨Go.Proofs.Tryd.f87, code87, Go.Proofs.Tryd.func87, by kernel_rfl, by kernel_rfl, by kernel_rfl, by kernel_rfl⟩
theorem fit88 : Fit 88 88 := ⟨Go.Proofs.Tryd.f88, code88, Go.Proofs.Tryd.func88, by kernel_rfl, by kernel_rfl, by kernel_rfl, by kernel_rfl⟩
theorem fit105 : Fit 105 105 := ⟨Go.Proofs.Tryd.f105, code105, Go.Proofs.Tryd.func105, by kernel_rfl, by kernel_rfl, by kernel_rfl, by kernel_rfl⟩
theorem fit106 : Fit 106 106 := ⟨Go.Proofs.Tryd.f106, code106, Go.Proofs.Tryd.func106, by kernel_rfl, by kernel_rfl, by kernel_rfl, by kernel_rfl⟩
theorem fit107 : Fit 107 107 := ⟨Go.Proofs.Tryd.f107, code107, Go.Proofs.Tryd.func107, by kernel_rfl, by kernel_rfl, by kernel_rfl, by kernel_rfl⟩
theorem fit108 : Fit 108 108 := ⟨Go.Proofs.Tryd.f108, code108, Go.Proofs.Tryd.func108, by kernel_rfl, by kernel_rfl, by kernel_rfl, by kernel_rfl⟩
theorem fit109 : Fit 109 109 := ⟨Go.Proofs.Tryd.f109, code109, Go.Proofs.Tryd.func109, by kernel_rfl, by kernel_rfl, by kernel_rfl, by kernel_rfl⟩
theorem fit110 : Fit 110 110 := ⟨Go.Proofs.Tryd.f110, code110, Go.Proofs.Tryd.func110, by kernel_rfl, by kernel_rfl, by kernel_rfl, by kernel_rfl⟩
theorem fit111 : Fit 111 111 := ⟨Go.Proofs.Tryd.f111, code111, Go.Proofs.Tryd.func111, by kernel_rfl, by kernel_rfl, by kernel_rfl, by kernel_rfl⟩
theorem fit129 : Fit 129 129 := ⟨Go.Proofs.Tryd.f129, code129, Go.Proofs.Tryd.func129, by kernel_rfl, by kernel_rfl, by kernel_rfl, by kernel_rfl⟩
theorem fit130 : Fit 130 130 := ⟨Go.Proofs.Tryd.f130, code130, Go.Proofs.Tryd.func130, by kernel_rfl, by kernel_rfl, by kernel_rfl, by kernel_rfl⟩
theorem fit131 : Fit 131 131 := ⟨Go.Proofs.Tryd.f131, code131, Go.Proofs.Tryd.func131, by kernel_rfl, by kernel_rfl, by kernel_rfl, by kernel_rfl⟩
theorem fit136 : Fit 136 136 := ⟨Go.Proofs.Tryd.f136, code136, Go.Proofs.Tryd.func136, by kernel_rfl, by kernel_rfl, by kernel_rfl, by kernel_rfl⟩

theorem fits : ∀ p ∈ flist, Fit p.1 p.2 := by
  unfold flist
  simp only [List.forall_mem_cons]
  exact ⟨fit3, fit4, fit5, fit6, fit7, fit8, fit9, fit13, fit14, fit15, fit16, fit17, fit18, fit19, fit20, fit21, fit22, fit23, fit24, fit25, fit26, fit27, fit28, fit42, fit43, fit44, fit45, fit46, fit47, fit48, fit49, fit50, fit51, fit52, fit53, fit54, fit55, fit56, fit63, fit76, fit77, fit78, fit79, fit80, fit81, fit82, fit83, fit84, fit85, fit86, fit87, fit88, fit105, fit106, fit107, fit108, fit109, fit110, fit111, fit129, fit130, fit131, fit136, by simp⟩

theorem sE_fits : sE.Fits tab := by
  intro g f h
  obtain ⟨fn, af, h1, _, _, h2, h3⟩ := (fits _ (lookup_mem h)).fn
  exact ⟨fn, af, h1, h2, h3⟩

theorem sE_good : sE.Good where
  types := sE_types
  src := sE_types.src
  fns := fun g f h => by
    obtain ⟨fn, af, h1, h2, h3, _⟩ := (fits _ (lookup_mem h)).fn
    exact ⟨fn, h1, h2, h3⟩
  mixed := by kernel_rfl

end Go.Abs
