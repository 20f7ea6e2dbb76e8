/- A part of the proof: Enc, Sh -/
import Derived.Test.YtbjglnknddeflaaDoorX12
set_option linter.unusedSimpArgs false
set_option linter.unusedVariables false
/- How the program's data stand in cells. -/
namespace Go.Abs

/-- What is told of an operation. -/
structure Row where
  nm : List UInt8
  form : Int
  ra : Bool
  wa : Bool
  rb : Bool
  mt : Bool
  w : Int
  deriving Inhabited, DecidableEq
def Row.cells (r : Row) : List AV := [.str ⟨r.nm.toArray⟩, .int .i64 r.form, .bool r.ra, .bool r.wa, .bool r.rb, .bool r.mt, .int .i64 r.w]

/-- An instruction. -/
structure MI where
  op : Int
  a : Int
  b : Int
  c : Int
  n : Int
  deriving Inhabited, DecidableEq
def MI.cells (v : MI) : List AV := [.int .i64 v.op, .int .i64 v.a, .int .i64 v.b, .int .i64 v.c, .int .i64 v.n]

/-- An instruction of virtual code. -/
structure VI where
  i : MI
  args : List Int
  deriving Inhabited, DecidableEq
/-- A block. -/
structure Bl where
  ins : List VI
  en : Int
  reg : Int
  tgt : Int
  els : Int
  deriving Inhabited, DecidableEq
/-- A function. -/
structure VF where
  params : Int
  regs : Int
  blocks : List Bl
  deriving Inhabited, DecidableEq

def icell (x : Int) : List AV := [.int .i64 x]
/-- A slice of whole numbers. -/
def ints (l : List Int) : AV := .ro 1 (l.map icell)
def VI.cells (v : VI) : List AV := [.int .i64 v.i.op, .int .i64 v.i.a, .int .i64 v.i.b, .int .i64 v.i.c, .int .i64 v.i.n, ints v.args]
def vins (l : List VI) : AV := .ro 6 (l.map VI.cells)
def Bl.cells (b : Bl) : List AV := [vins b.ins, .int .i64 b.en, .int .i64 b.reg, .int .i64 b.tgt, .int .i64 b.els]
def bls (l : List Bl) : AV := .ro 5 (l.map Bl.cells)
def VF.cells (f : VF) : List AV := [.int .i64 f.params, .int .i64 f.regs, bls f.blocks]
def vfs (l : List VF) : AV := .ro 3 (l.map VF.cells)

@[go_sem] theorem e_row (r : Row) (i : Nat) : r.cells[i]? = ([.str ⟨r.nm.toArray⟩, .int .i64 r.form, .bool r.ra, .bool r.wa, .bool r.rb, .bool r.mt, .int .i64 r.w] : List AV)[i]? := id rfl
@[go_sem] theorem e_rowl (r : Row) : r.cells.length = 7 := id rfl
@[go_sem] theorem e_rowt (r : Row) : r.cells.take 7 = r.cells := id rfl
@[go_sem] theorem e_mi (r : MI) (i : Nat) : r.cells[i]? = ([.int .i64 r.op, .int .i64 r.a, .int .i64 r.b, .int .i64 r.c, .int .i64 r.n] : List AV)[i]? := id rfl
@[go_sem] theorem e_mil (r : MI) : r.cells.length = 5 := id rfl
@[go_sem] theorem e_mit (r : MI) : r.cells.take 5 = r.cells := id rfl
@[go_sem] theorem e_vi (v : VI) (i : Nat) : v.cells[i]? = ([.int .i64 v.i.op, .int .i64 v.i.a, .int .i64 v.i.b, .int .i64 v.i.c, .int .i64 v.i.n, ints v.args] : List AV)[i]? := id rfl
@[go_sem] theorem e_vil (v : VI) : v.cells.length = 6 := id rfl
@[go_sem] theorem e_vit (v : VI) : v.cells.take 6 = v.cells := id rfl
@[go_sem] theorem e_vit5 (v : VI) : v.cells.take 5 = v.i.cells := id rfl
@[go_sem] theorem e_bl (b : Bl) (i : Nat) : b.cells[i]? = ([vins b.ins, .int .i64 b.en, .int .i64 b.reg, .int .i64 b.tgt, .int .i64 b.els] : List AV)[i]? := id rfl
@[go_sem] theorem e_bll (b : Bl) : b.cells.length = 5 := id rfl
@[go_sem] theorem e_blt (b : Bl) : b.cells.take 5 = b.cells := id rfl
@[go_sem] theorem e_vf (f : VF) (i : Nat) : f.cells[i]? = ([.int .i64 f.params, .int .i64 f.regs, bls f.blocks] : List AV)[i]? := id rfl
@[go_sem] theorem e_vfl (f : VF) : f.cells.length = 3 := id rfl
@[go_sem] theorem e_vft (f : VF) : f.cells.take 3 = f.cells := id rfl
@[go_sem] theorem drop_zero' (l : List AV) : l.drop 0 = l := id rfl

@[go_sem] theorem spl_row (r : Row) (a b c d e f g : AV) : spl [a, b, c, d, e, f, g] 0 r.cells = r.cells := id rfl
@[go_sem] theorem spl_mi (r : MI) (a b c d e : AV) : spl [a, b, c, d, e] 0 r.cells = r.cells := id rfl
@[go_sem] theorem spl_vi (r : VI) (a b c d e f : AV) : spl [a, b, c, d, e, f] 0 r.cells = r.cells := id rfl
@[go_sem] theorem spl_bl (r : Bl) (a b c d e : AV) : spl [a, b, c, d, e] 0 r.cells = r.cells := id rfl
@[go_sem] theorem spl_vf (r : VF) (a b c : AV) : spl [a, b, c] 0 r.cells = r.cells := id rfl

section
variable {k : AV → Prop}
theorem iad_map {α : Type} [Inhabited α] (sz : Nat) (f : α → List AV) (l : List α) (q : IntKind) (n : Int) : pW (.iad sz (.c (.ro sz (l.map f))) (.c (.int q n))) k = ((0 ≤ n ∧ n < l.length) ∧ k (.rp (f (l.getD n.toNat default)))) := by
  rw [p_iad1, List.length_map]
  by_cases h : 0 ≤ n ∧ n < l.length
  · have : n.toNat < l.length := by omega
    simp [h, List.getD, List.getElem?_map, List.getElem?_eq_getElem this]
  · simp [h]
@[go_sem] theorem iad_ints (l : List Int) (q : IntKind) (n : Int) : pW (.iad 1 (.c (ints l)) (.c (.int q n))) k = ((0 ≤ n ∧ n < l.length) ∧ k (.rp [.int .i64 (l.getD n.toNat 0)])) := iad_map 1 icell l q n
@[go_sem] theorem iad_vins (l : List VI) (q : IntKind) (n : Int) : pW (.iad 6 (.c (vins l)) (.c (.int q n))) k = ((0 ≤ n ∧ n < l.length) ∧ k (.rp (l.getD n.toNat default).cells)) := iad_map 6 VI.cells l q n
@[go_sem] theorem iad_bls (l : List Bl) (q : IntKind) (n : Int) : pW (.iad 5 (.c (bls l)) (.c (.int q n))) k = ((0 ≤ n ∧ n < l.length) ∧ k (.rp (l.getD n.toNat default).cells)) := iad_map 5 Bl.cells l q n
@[go_sem] theorem iad_vfs (l : List VF) (q : IntKind) (n : Int) : pW (.iad 3 (.c (vfs l)) (.c (.int q n))) k = ((0 ≤ n ∧ n < l.length) ∧ k (.rp (l.getD n.toNat default).cells)) := iad_map 3 VF.cells l q n
@[go_sem] theorem len_ints (l : List Int) : pW (.len (.c (ints l))) k = k (.int .i64 l.length) := by rw [ints, p_len1, List.length_map]
@[go_sem] theorem len_vins (l : List VI) : pW (.len (.c (vins l))) k = k (.int .i64 l.length) := by rw [vins, p_len1, List.length_map]
@[go_sem] theorem len_bls (l : List Bl) : pW (.len (.c (bls l))) k = k (.int .i64 l.length) := by rw [bls, p_len1, List.length_map]
@[go_sem] theorem len_vfs (l : List VF) : pW (.len (.c (vfs l))) k = k (.int .i64 l.length) := by rw [vfs, p_len1, List.length_map]
@[go_sem] theorem ok_ints (l : List Int) : (ints l).ok = true := id rfl
@[go_sem] theorem ok_vins (l : List VI) : (vins l).ok = true := id rfl
@[go_sem] theorem ok_bls (l : List Bl) : (bls l).ok = true := id rfl
@[go_sem] theorem ok_vfs (l : List VF) : (vfs l).ok = true := id rfl
@[go_sem] theorem cells_ints (l : List Int) : (ints l).cells = [ints l] := id rfl
@[go_sem] theorem cells_vins (l : List VI) : (vins l).cells = [vins l] := id rfl
@[go_sem] theorem cells_bls (l : List Bl) : (bls l).cells = [bls l] := id rfl
@[go_sem] theorem cells_vfs (l : List VF) : (vfs l).cells = [vfs l] := id rfl

theorem small_ro {s : Nat} {es : List (List AV)} (h : (AV.ro s es).Small) : es.length < 9223372036854775808 ∧ ∀ cs ∈ es, ∀ x ∈ cs, x.Small := by cases h with | ro _ _ h1 h2 => exact ⟨h1, h2⟩
theorem small_agg {cs : List AV} (h : (AV.agg cs).Small) : ∀ x ∈ cs, x.Small := by cases h with | agg _ h1 => exact h1
theorem small_ints {l : List Int} (h : (ints l).Small) : l.length < 9223372036854775808 := by have := (small_ro h).1; simpa using this
theorem small_vins {l : List VI} (h : (vins l).Small) : l.length < 9223372036854775808 ∧ ∀ v ∈ l, v.args.length < 9223372036854775808 := by
  obtain ⟨h1, h2⟩ := small_ro h
  refine ⟨by simpa using h1, fun v hv => ?_⟩
  exact small_ints (h2 v.cells (List.mem_map.2 ⟨v, hv, rfl⟩) (ints v.args) (by simp [VI.cells]))
/-- A function's parts are not too long. -/
def VF.Sm (c : VF) : Prop := c.blocks.length < 9223372036854775808 ∧ ∀ b ∈ c.blocks, b.ins.length < 9223372036854775808 ∧ ∀ v ∈ b.ins, v.args.length < 9223372036854775808
theorem small_bls {l : List Bl} (h : (bls l).Small) : l.length < 9223372036854775808 ∧ ∀ b ∈ l, b.ins.length < 9223372036854775808 ∧ ∀ v ∈ b.ins, v.args.length < 9223372036854775808 := by
  obtain ⟨h1, h2⟩ := small_ro h
  refine ⟨by simpa using h1, fun v hv => ?_⟩
  exact small_vins (h2 v.cells (List.mem_map.2 ⟨v, hv, rfl⟩) (vins v.ins) (by simp [Bl.cells]))
theorem small_vf {c : VF} (h : (AV.agg c.cells).Small) : c.Sm := small_bls (small_agg h (bls c.blocks) (by simp [VF.cells]))
theorem small_vfs {l : List VF} (h : (vfs l).Small) : l.length < 9223372036854775808 ∧ ∀ c ∈ l, c.Sm := by
  obtain ⟨h1, h2⟩ := small_ro h
  exact ⟨by simpa using h1, fun v hv => small_bls (h2 v.cells (List.mem_map.2 ⟨v, hv, rfl⟩) (bls v.blocks) (by simp [VF.cells]))⟩
theorem getD_mem {α : Type} [Inhabited α] {l : List α} {i : Nat} (h : i < l.length) : l.getD i default ∈ l := by
  rw [List.getD, List.getElem?_eq_getElem h]; exact List.getElem_mem h
end
/-! Short names: the walks' printed text names these. -/
theorem q_a (x y : Bool) : ((x || y) = true) = (x = true ∨ y = true) := Bool.or_eq_true x y
theorem q_b (x y : Bool) : ((x && y) = true) = (x = true ∧ y = true) := Bool.and_eq_true x y
theorem q_c {x y : Bool} : (x || y) = false ↔ x = false ∧ y = false := Bool.or_eq_false_iff
theorem q_d {x y : Bool} : (x && y) = false ↔ x = false ∨ y = false := Bool.and_eq_false_iff
theorem q_e {p : Prop} [Decidable p] : (decide p = true) = p := decide_eq_true_eq
theorem q_f {p : Prop} [Decidable p] : decide p = false ↔ ¬ p := decide_eq_false_iff_not
theorem q_g {b : Bool} : (!b) = true ↔ b = false := by cases b <;> decide
theorem q_h {b : Bool} : (!b) = false ↔ b = true := by cases b <;> decide
theorem q_i (b : Bool) : (!!b) = b := Bool.not_not b
theorem q_j {α : Type _} [BEq α] [LawfulBEq α] {a b : α} : (a == b) = true ↔ a = b := beq_iff_eq
theorem q_k {α : Type _} [BEq α] [LawfulBEq α] {a b : α} : (a == b) = false ↔ a ≠ b := beq_eq_false_iff_ne
theorem q_l {α : Type _} [BEq α] [LawfulBEq α] {a b : α} : (a != b) = true ↔ a ≠ b := bne_iff_ne
theorem q_m {α : Type _} [BEq α] [LawfulBEq α] {a b : α} : (a != b) = false ↔ a = b := bne_eq_false_iff_eq
theorem q_n {a b : Int} : ¬ a < b ↔ b ≤ a := Int.not_lt
theorem q_o {a b : Int} : ¬ a ≤ b ↔ b < a := Int.not_le
theorem q_p {α : Sort _} (a b : α) : (a ≠ b) = ¬ (a = b) := ne_eq a b
theorem q_q {p : Prop} [Decidable p] : ¬ ¬ p ↔ p := Decidable.not_not
theorem q_r : (false = true) = False := Bool.false_eq_true
theorem q_s : (true = false) = False := Bool.true_eq_false
end Go.Abs
/- Two lemmas that keep the walks' text short. -/
namespace Go.Abs
theorem qq : (∀ x y : Bool, ((x || y) = true) = (x = true ∨ y = true)) ∧ (∀ x y : Bool, ((x && y) = true) = (x = true ∧ y = true)) ∧ (∀ x y : Bool, (x || y) = false ↔ x = false ∧ y = false) ∧ (∀ x y : Bool, (x && y) = false ↔ x = false ∨ y = false)
    ∧ (∀ {p : Prop} [Decidable p], (decide p = true) = p) ∧ (∀ {p : Prop} [Decidable p], decide p = false ↔ ¬ p) ∧ (∀ {b : Bool}, (!b) = true ↔ b = false) ∧ (∀ {b : Bool}, (!b) = false ↔ b = true) ∧ (∀ b : Bool, (!!b) = b)
    ∧ (∀ {α : Type} [BEq α] [LawfulBEq α] {a b : α}, (a == b) = true ↔ a = b) ∧ (∀ {α : Type} [BEq α] [LawfulBEq α] {a b : α}, (a == b) = false ↔ a ≠ b) ∧ (∀ {α : Type} [BEq α] [LawfulBEq α] {a b : α}, (a != b) = true ↔ a ≠ b) ∧ (∀ {α : Type} [BEq α] [LawfulBEq α] {a b : α}, (a != b) = false ↔ a = b)
    ∧ (∀ {a b : Int}, ¬ a < b ↔ b ≤ a) ∧ (∀ {a b : Int}, ¬ a ≤ b ↔ b < a) ∧ (∀ {α : Type} (a b : α), (a ≠ b) = ¬ (a = b)) ∧ (∀ {p : Prop} [Decidable p], ¬ ¬ p ↔ p) ∧ ((false = true) = False) ∧ ((true = false) = False) :=
  ⟨q_a, q_b, fun _ _ => q_c, fun _ _ => q_d, q_e, q_f, q_g, q_h, q_i, q_j, q_k, q_l, q_m, q_n, q_o, q_p, q_q, q_r, q_s⟩
theorem ret_q {v v' : AV} {H0 H : Heap} (h : v = v') (hh : H0.Le H := by repeat' (first | exact Heap.Le.refl _ | assumption | refine Heap.set_le _ ?_ (by first | assumption | exact Fresh.none (by assumption) | exact Fresh.none (Fresh.of_set (by assumption) (by assumption))))) : RetC (Ret v' H0) v H := ret_eq hh h
end Go.Abs
