/- A part of the proof: Abs12, Abs13, Abs14, Abs15, Abs16, Abs17, AbsTable, Abs18 -/
import Derived.Deep.LoopGhost
import Derived.Orders
import Derived.Test.YtbjglnknddeflaaDoorX0
set_option linter.unusedSimpArgs false
set_option linter.unusedVariables false
/- Abstract code: the rules by which a function's body is walked over abstract frames and heaps, each shown to hold of the model. -/
namespace Go.Abs

inductive ACode where
  | skip
  | ops (l : List AOper)
  | draw (l : List AOper) (ps : List (Nat × Nat))
  | seq (a b : ACode)
  | cond (x : AOpd) (a b : ACode)
  | block (id : Nat) (a : ACode)
  | loop (a : ACode)
  | exit (id : Nat)
  | ret

inductive ARes where
  | tmp (t : Nat)
  | ld (t : Nat)
  | lda (n t : Nat)

structure AFunc where
  ntmps : Nat
  results : List ARes
  body : ACode

inductive AEx where
  | normal
  | exit (id : Nat)
  | ret

/-! ### Off the model's code -/

def cOper (E : Env) (n : Nat) (ops : Array Oper) (o : Oper) : Option AOper :=
  match compOp E o.op with
  | none => none
  | some op =>
    if o.dst.all (fun d => decide (d < n)) = true then
      match o.guard with
      | none => some ⟨o.dst, op, none⟩
      | some (j, want) => match (ops[j]?).bind (·.dst) with
        | some d => some ⟨o.dst, op, some (d, want)⟩
        | none => none
    else none

def cOpers (E : Env) (n : Nat) (ops : Array Oper) : List Oper → Option (List AOper)
  | [] => some []
  | o :: r => match cOper E n ops o, cOpers E n ops r with
    | some x, some xs => some (x :: xs)
    | _, _ => none

def AOp.opds : AOp → List AOpd
  | .mov x | .box x | .ld x | .lda _ x | .nilck x | .un _ x | .conv _ x | .fad _ x | .fld _ x | .flda _ _ x | .ext x _ | .len x => [x]
  | .pick c a b => [c, a, b]
  | .alloc _ | .lenc _ => []
  | .build _ ps => ps.map (·.2.2)
  | .bsl _ _ _ ps => ps.map (·.2)
  | .st _ x y | .bin _ x y | .eqb _ x y | .eqp _ x y | .eqv _ _ x y | .mksl _ _ _ x y | .iad _ x y | .iadA _ _ x y | .app _ x y | .cpy _ x y | .mn x y | .mx x y => [x, y]
  | .mkfn _ cs => cs
  | .slice _ x lo hi => x :: (lo.toList ++ hi.toList)
  | .call f as => f :: as

/-- How an operation deals with memory: 0 not at all, 1 it reads, 2 it makes, writes or calls. -/
def AOp.mem : AOp → Nat
  | .ld _ | .lda .. => 1
  | .alloc _ | .box _ | .bsl .. | .mksl .. | .st .. | .app .. | .cpy .. | .call .. => 2
  | _ => 0

def AOpd.slots : AOpd → List Nat
  | .t n => [n]
  | .c _ => []

def AOper.reads (o : AOper) : List Nat := o.op.opds.flatMap AOpd.slots ++ (match o.guard with | some (g, _) => [g] | none => [])

def slotsApart (x y : AOper) : Bool :=
  (match x.dst with | some d => !y.reads.contains d && y.dst != some d | none => true) && (match y.dst with | some d => !x.reads.contains d | none => true)

def AOp.isCall : AOp → Bool
  | .call .. => true
  | _ => false

def memConf (x y : AOper) : Bool := x.op.isCall || y.op.isCall || (x.op.mem != 0 && y.op.mem != 0 && !(x.op.mem == 1 && y.op.mem == 1))

/-- What must have gone before each operation, whatever the order. -/
def befs : List Oper → List (List Nat) → List (List Nat)
  | [], acc => acc
  | o :: os, acc => befs os (acc ++ [(o.after.toList.filter (Region.binds .any)).flatMap fun e => e.on :: acc.getD e.on []])

def pairsOf (l : List AOper) (b : List (List Nat)) : List (Nat × Nat) :=
  (List.range l.length).flatMap fun j => ((List.range j).filter fun i => !(b.getD j []).contains i && (match l[i]?, l[j]? with | some x, some y => memConf x y | _, _ => true)).map fun i => (i, j)

def slotsOk (l : List AOper) (b : List (List Nat)) : Bool :=
  (List.range l.length).all fun j => (List.range j).all fun i => (b.getD j []).contains i || (match l[i]?, l[j]? with | some x, some y => slotsApart x y | _, _ => false)

def edgesOk (ops : List Oper) : Bool := (List.range ops.length).all fun j => match ops[j]? with
  | some o => o.after.toList.all fun e => !Region.binds .any e || decide (e.on < j)
  | none => true

/-- A region that draws its order: its operations, and the pairs of them that its edges leave unordered and whose order may matter to memory. -/
def cDraw (E : Env) (n : Nat) (ops : Array Oper) : Option ACode :=
  match cOpers E n ops ops.toList with
  | some l => if slotsOk l (befs ops.toList []) && edgesOk ops.toList then some (.draw l (pairsOf l (befs ops.toList []))) else none
  | none => none

def compC (E : Env) (n : Nat) : Code → Option ACode
  | .skip => some .skip
  | .region _ ops draw => if draw then cDraw E n ops else (cOpers E n ops ops.toList).map .ops
  | .seq a b => match compC E n a, compC E n b with
    | some x, some y => some (.seq x y)
    | _, _ => none
  | .cond c a b => match cOpd E c, compC E n a, compC E n b with
    | some c, some x, some y => some (.cond c x y)
    | _, _, _ => none
  | .block id a => (compC E n a).map (.block id)
  | .loop a => (compC E n a).map .loop
  | .exit id => some (.exit id)
  | .ret => some .ret
  | _ => none

def cRes (E : Env) : ResultVar → Option ARes
  | .tmp t => some (.tmp t)
  | .cell a t => match E.tt t with
    | some ti => if ti.desc.agg then some (.lda ti.size a) else (match ti.desc with | .other => none | _ => some (.ld a))
    | none => none

def cRess (E : Env) : List ResultVar → Option (List ARes)
  | [] => some []
  | r :: rs => match cRes E r, cRess E rs with
    | some x, some xs => some (x :: xs)
    | _, _ => none

def compF (E : Env) (fn : Func) : Option AFunc :=
  match fn.body with
  | none => none
  | some code => match compC E fn.ntmps code, cRess E fn.results.toList with
    | some b, some rs => some ⟨fn.ntmps, rs, b⟩
    | _, _ => none

/-! ### What is shown of code -/

structure Frm (E : Env) (n : Nat) (c : Corr) (T : Tm) (a : Act) : Prop where
  rel : TRel E c T a
  size : a.tmps.size = n
  defers : a.defers = []

/-- The state behind a stretch of code. -/
def Got (E : Env) (n : Nat) (c : Corr) (w : World) (R : Tm → Heap → Prop) (a' : Act) (w' : World) : Prop :=
  ∃ T' H' c', R T' H' ∧ Ext c w c' w' ∧ Sim E c' H' w' ∧ Frm E n c' T' a'

def Lift (E : Env) (n : Nat) (c : Corr) (w : World) (Q : AEx → Tm → Heap → Prop) : Exit → Act → World → Prop
  | .normal, a', w' => Got E n c w (Q .normal) a' w'
  | .exit id, a', w' => Got E n c w (Q (.exit id)) a' w'
  | .ret, a', w' => Got E n c w (Q .ret) a' w'
  | _, _, _ => False

theorem Got.mono {E : Env} {n : Nat} {c : Corr} {w : World} {R R' : Tm → Heap → Prop} {a' : Act} {w' : World} (h : Got E n c w R a' w') (hr : ∀ T H, R T H → R' T H) : Got E n c w R' a' w' :=
  let ⟨T', H', c', h1, h2⟩ := h
  ⟨T', H', c', hr _ _ h1, h2⟩

theorem Got.from {E : Env} {n : Nat} {c c1 : Corr} {w w1 : World} {R : Tm → Heap → Prop} {a' : Act} {w' : World} (he : Ext c w c1 w1) (h : Got E n c1 w1 R a' w') : Got E n c w R a' w' :=
  let ⟨T', H', c', h1, h2, h3⟩ := h
  ⟨T', H', c', h1, he.trans h2, h3⟩

theorem Lift.from {E : Env} {n : Nat} {c c1 : Corr} {w w1 : World} {Q : AEx → Tm → Heap → Prop} (he : Ext c w c1 w1) {e : Exit} {a' : Act} {w' : World} (h : Lift E n c1 w1 Q e a' w') : Lift E n c w Q e a' w' := by
  cases e <;> first | exact Got.from he h | exact h.elim

theorem Lift.mono {E : Env} {n : Nat} {c : Corr} {w : World} {Q Q' : AEx → Tm → Heap → Prop} (hq : ∀ e T H, Q e T H → Q' e T H) {e : Exit} {a' : Act} {w' : World} (h : Lift E n c w Q e a' w') : Lift E n c w Q' e a' w' := by
  cases e <;> first | exact Got.mono h (hq _) | exact h.elim

def AWP (E : Env) (ac : ACode) (Q : AEx → Tm → Heap → Prop) (T : Tm) (H : Heap) : Prop :=
  ∀ (n : Nat) (code : Code), compC E n code = some ac → ∀ (c : Corr) (a : Act) (w : World), Sim E c H w → Frm E n c T a → code.wp E.P (Lift E n c w Q) a w

/-- What a call comes to. -/
def CPost (E : Env) (c : Corr) (w : World) (R : AV → Heap → Prop) : Ending → World → Prop
  | .returned cv, w' => ∃ v H' c', R v H' ∧ Ext c w c' w' ∧ Sim E c' H' w' ∧ VR E c' v cv
  | _, _ => False

def VRs (E : Env) (c : Corr) (xs : List AV) (vs : List Value) : Prop := xs.length = vs.length ∧ ∀ (j : Nat) (x : AV) (v : Value), xs[j]? = some x → vs[j]? = some v → VR E c x v

def ACall (E : Env) (f : Nat) (args : List AV) (H : Heap) (R : AV → Heap → Prop) : Prop :=
  ∀ (g : Nat), E.fi g = some f → ∀ (c : Corr) (cargs : Array Value) (w : World), Sim E c H w → VRs E c args cargs.toList → Calls E.P g cargs w (CPost E c w R)

section
variable {E : Env} {Q : AEx → Tm → Heap → Prop} {T : Tm} {H : Heap}

theorem AWP.mono {ac : ACode} {Q' : AEx → Tm → Heap → Prop} (h : AWP E ac Q T H) (hq : ∀ e T H, Q e T H → Q' e T H) : AWP E ac Q' T H :=
  fun n code hc c a w hs hf => wp_mono (h n code hc c a w hs hf) (fun _ _ _ h => Lift.mono hq h)

theorem Frm.weaken {n : Nat} {c : Corr} {T T' : Tm} {a : Act} (h : Frm E n c T a) (ht : ∀ s, T' s = .undef ∨ T' s = T s) : Frm E n c T' a :=
  ⟨fun s => by
    rcases ht s with h1 | h1
    · rw [h1]; exact .undef _
    · rw [h1]; exact h.rel s, h.size, h.defers⟩

theorem AWP.weaken {ac : ACode} {T' : Tm} {H' : Heap} (h : AWP E ac Q T' H') (ht : ∀ s, T' s = .undef ∨ T' s = T s) (hh : H'.Le H) : AWP E ac Q T H :=
  fun n code hc c a w hs hf => h n code hc c a w (hs.weaken hh) (hf.weaken ht)

theorem compC_inv {n : Nat} {code : Code} {ac : ACode} (hc : compC E n code = some ac) : match ac with
    | .skip => code = .skip
    | .ops l => ∃ id ops, code = .region id ops false ∧ cOpers E n ops ops.toList = some l
    | .draw l ps => ∃ id ops, code = .region id ops true ∧ cDraw E n ops = some (.draw l ps)
    | .seq x y => ∃ a b, code = .seq a b ∧ compC E n a = some x ∧ compC E n b = some y
    | .cond x t f => ∃ c a b, code = .cond c a b ∧ cOpd E c = some x ∧ compC E n a = some t ∧ compC E n b = some f
    | .block id x => ∃ a, code = .block id a ∧ compC E n a = some x
    | .loop x => ∃ a, code = .loop a ∧ compC E n a = some x
    | .exit id => code = .exit id
    | .ret => code = .ret := by
  have hdraw : ∀ {ops : Array Oper} {ac : ACode}, cDraw E n ops = some ac → ∃ l ps, ac = .draw l ps := fun h => by
    unfold cDraw at h
    split at h
    · split at h
      · simp only [Option.some.injEq] at h; exact ⟨_, _, h.symm⟩
      · simp at h
    · simp at h
  cases code with
  | skip => simp [compC] at hc; subst hc; rfl
  | region id ops draw =>
    simp only [compC] at hc
    split at hc
    · rename_i hd
      obtain ⟨l, ps, rfl⟩ := hdraw hc
      exact ⟨id, ops, by rw [hd], hc⟩
    · rename_i hd
      obtain ⟨l, hl, rfl⟩ := Option.map_eq_some_iff.1 hc
      exact ⟨id, ops, by simp at hd; rw [hd], hl⟩
  | seq a b =>
    simp only [compC] at hc
    split at hc
    · rename_i x y hx hy
      simp only [Option.some.injEq] at hc; subst hc
      exact ⟨a, b, rfl, hx, hy⟩
    · simp at hc
  | cond c a b =>
    simp only [compC] at hc
    split at hc
    · rename_i q x y hq hx hy
      simp only [Option.some.injEq] at hc; subst hc
      exact ⟨c, a, b, rfl, hq, hx, hy⟩
    · simp at hc
  | block id a =>
    simp only [compC] at hc
    obtain ⟨x, hx, rfl⟩ := Option.map_eq_some_iff.1 hc
    exact ⟨a, rfl, hx⟩
  | loop a =>
    simp only [compC] at hc
    obtain ⟨x, hx, rfl⟩ := Option.map_eq_some_iff.1 hc
    exact ⟨a, rfl, hx⟩
  | exit id => simp [compC] at hc; subst hc; rfl
  | ret => simp [compC] at hc; subst hc; rfl
  | _ => simp [compC] at hc

theorem awp_skip (h : Q .normal T H) : AWP E .skip Q T H := by
  intro n code hc c a w hs hf
  cases compC_inv hc
  exact Go.wp_skip ⟨T, H, c, h, .refl _ _, hs, hf⟩

theorem awp_exit {id : Nat} (h : Q (.exit id) T H) : AWP E (.exit id) Q T H := by
  intro n code hc c a w hs hf
  cases compC_inv hc
  exact Go.wp_exit ⟨T, H, c, h, .refl _ _, hs, hf⟩

theorem awp_ret (h : Q .ret T H) : AWP E .ret Q T H := by
  intro n code hc c a w hs hf
  cases compC_inv hc
  exact Go.wp_ret ⟨T, H, c, h, .refl _ _, hs, hf⟩

/-- What follows a stretch. -/
def Then (N : Tm → Heap → Prop) (Q : AEx → Tm → Heap → Prop) : AEx → Tm → Heap → Prop
  | .normal => N
  | e => Q e

theorem awp_seq {x y : ACode} (h : AWP E x (Then (AWP E y Q) Q) T H) : AWP E (.seq x y) Q T H := by
  intro n code hc c a w hs hf
  obtain ⟨p, q, rfl, hp, hq⟩ := compC_inv hc
  refine Go.wp_seq (wp_mono (h n p hp c a w hs hf) ?_)
  intro e a' w' hg
  cases e with
  | normal =>
    obtain ⟨T', H', c', h1, h2, h3, h4⟩ := hg
    exact wp_mono (h1 n q hq c' a' w' h3 h4) (fun e a w h => Lift.from h2 h)
  | exit id => exact hg
  | ret => exact hg
  | goto l => exact hg.elim
  | panic ch => exact hg.elim
  | outgrown => exact hg.elim

theorem awp_cond {x : AOpd} {t f : ACode} {b : Bool} (hx : x.ev T = .bool b) (ht : b = true → AWP E t Q T H) (hf' : b = false → AWP E f Q T H) : AWP E (.cond x t f) Q T H := by
  intro n code hc c a w hs hf
  obtain ⟨p, q, r, rfl, hp, hq, hr⟩ := compC_inv hc
  have hv := cOpd_VR hs hf.rel hp
  rw [hx] at hv
  refine wp_cond_split hv.inj_bool (fun e => ht e n q hq c a w hs hf) (fun e => hf' e n r hr c a w hs hf)

/-- What follows a block. -/
def Out (id : Nat) (Q : AEx → Tm → Heap → Prop) : AEx → Tm → Heap → Prop
  | .exit k => if k = id then Q .normal else Q (.exit k)
  | e => Q e

theorem awp_block {id : Nat} {x : ACode} (h : AWP E x (Out id Q) T H) : AWP E (.block id x) Q T H := by
  intro n code hc c a w hs hf
  obtain ⟨p, rfl, hp⟩ := compC_inv hc
  refine Go.wp_block (wp_mono (h n p hp c a w hs hf) ?_)
  intro e a' w' hg
  cases e with
  | exit k =>
    simp only [Exit.inBlock]
    simp only [Lift, Out] at hg
    split
    · rename_i e; rw [if_pos e] at hg; exact hg
    · rename_i e; rw [if_neg e] at hg; exact hg
  | normal => exact hg
  | ret => exact hg
  | goto l => exact hg.elim
  | panic ch => exact hg.elim
  | outgrown => exact hg.elim

theorem awp_loop {x : ACode} (I : Nat → Tm → Heap → Prop) (m : Nat) (h0 : I m T H)
    (h : ∀ k T H, I k T H → AWP E x (Then (fun T' H' => ∃ j, j < k ∧ I j T' H') Q) T H) : AWP E (.loop x) Q T H := by
  intro n code hc c a w hs hf
  obtain ⟨p, rfl, hp⟩ := compC_inv hc
  refine Go.wp_loop_ghost (fun k a' w' => Got E n c w (I k) a' w') m ⟨T, H, c, h0, .refl _ _, hs, hf⟩ ?_
  intro k a1 w1 ⟨T1, H1, c1, h1, h2, h3, h4⟩
  refine wp_mono (h k T1 H1 h1 n p hp c1 a1 w1 h3 h4) ?_
  intro e a' w' hg
  cases e with
  | normal =>
    obtain ⟨T', H', c', ⟨j, hj, hI⟩, k2⟩ := Got.from h2 hg
    exact ⟨j, hj, T', H', c', hI, k2⟩
  | exit id => exact Got.from h2 hg
  | ret => exact Got.from h2 hg
  | goto l => exact hg.elim
  | panic ch => exact hg.elim
  | outgrown => exact hg.elim

/-! ### Regions in the text's order -/

/-- One operation. -/
def AStep (E : Env) (o : AOper) (N : Tm → Heap → Prop) (T : Tm) (H : Heap) : Prop :=
  match o.op with
  | .call f args => ∃ g caps, f.ev T = .fn g caps ∧ ACall E g (args.map (AOpd.ev T) ++ caps) H (fun v H' => N (T.puto o.dst v) H')
  | op => if op.makes then ∀ new, (∀ k b, H k = some b → k < new) → ∃ v need give, aop new T H op = some (v, need, give) ∧ N (T.puto o.dst v) (H.app give)
    else ∃ v need give, aop 0 T H op = some (v, need, give) ∧ N (T.puto o.dst v) (H.app give)

def ARun (E : Env) (N : Tm → Heap → Prop) : List AOper → Tm → Heap → Prop
  | [], T, H => N T H
  | o :: os, T, H => match o.guard with
    | none => AStep E o (ARun E N os) T H
    | some (g, want) => (T g = .tup [] ∧ ARun E N os (T.puto o.dst (.tup [])) H) ∨
        ∃ b, T g = .bool b ∧ (b = want → AStep E o (ARun E N os) T H) ∧ (b = !want → ARun E N os (T.puto o.dst (.tup [])) H)

theorem put_getD (a : Act) (d : Nat) (v : Value) (s : Nat) (h : d < a.tmps.size) : (a.put (some d) v).tmps.getD s Go.undef = if s = d then v else a.tmps.getD s Go.undef := by
  simp only [Act.put, Array.getD_eq_getD_getElem?, Array.getElem?_setIfInBounds]
  by_cases e : s = d
  · subst e; simp [h]
  · rw [if_neg (fun h => e h.symm), if_neg e]

theorem Frm.put {n : Nat} {c : Corr} {a : Act} (h : Frm E n c T a) {dst : Option Nat} (hd : ∀ d, dst = some d → d < n) {v : AV} {cv : Value} (hv : VR E c v cv) : Frm E n c (T.puto dst v) (a.put dst cv) := by
  cases dst with
  | none => exact h
  | some d =>
    have hdn := hd d rfl
    refine ⟨fun s => ?_, by simp [Act.put, h.size], by simp [Act.put, h.defers]⟩
    rw [put_getD a d cv s (by rw [h.size]; exact hdn)]
    simp only [Tm.puto, Tm.put]
    split
    · exact hv
    · exact h.rel s

theorem Frm.mono {n : Nat} {c c' : Corr} {a : Act} (h : Frm E n c T a) (hc : c.Le c') : Frm E n c' T a := ⟨fun s => (h.rel s).mono hc, h.size, h.defers⟩

/-- The program's functions, as far as they are named. -/
structure Env.Good (E : Env) : Prop where
  types : E.Types
  src : E.Src
  fns : ∀ g f, E.fi g = some f → ∃ fn, E.P.funcs[g]? = some fn ∧ (fn.name == "runtime.NumGoroutine") = false ∧ fn.body.isNone = false
  mixed : E.P.follows .mixedOrders = true

theorem aop_new (i j : Nat) (T : Tm) (H : Heap) (op : AOp) (h : ¬ op.makes = true) : aop i T H op = aop j T H op := by
  cases op <;> first | rfl | (simp [AOp.makes] at h)

theorem VR.inj_fn {c : Corr} {g : Nat} {caps : List AV} {v : Value} (h : VR E c (.fn g caps) v) : ∃ gg cv, v = .func (.func gg) #[] cv ∧ E.fi gg = some g ∧ cv.size = caps.length ∧
    ∀ (j : Nat) (x : AV) (u : Value), caps[j]? = some x → cv[j]? = some u → VR E c x u := by
  cases h with
  | fn h1 h2 h3 => exact ⟨_, _, rfl, h1, h2, h3⟩

theorem call_inv {op : Op} {f : AOpd} {args : List AOpd} (h : compOp E op = some (.call f args)) : ∃ f0 args0 ts, op = .call { callee := .value f0, args := args0, argTypes := ts } ∧ cOpd E f0 = some f ∧ cOpds E args0.toList = some args := by
  cases op with
  | call k =>
    obtain ⟨callee, args0, ts⟩ := k
    cases callee with
    | value f0 =>
      simp only [compOp] at h
      split at h
      · rename_i g as hg has
        simp only [Option.some.injEq, AOp.call.injEq] at h
        obtain ⟨rfl, rfl⟩ := h
        exact ⟨f0, args0, ts, rfl, hg, has⟩
      · simp at h
    | invoke r m => simp [compOp] at h
    | builtin b =>
      simp only [compOp, Option.bind_eq_some_iff] at h
      obtain ⟨as, _, hb⟩ := h
      unfold cBuiltin at hb
      repeat' (split at hb)
      all_goals simp at hb
  | move x => obtain ⟨y, _, e⟩ := omap h; cases e
  | assign x => obtain ⟨y, _, e⟩ := omap h; cases e
  | pick q x y =>
    simp only [compOp, Option.bind_eq_bind, Option.bind_eq_some_iff] at h
    obtain ⟨_, _, _, _, _, _, e⟩ := h
    simp at e
  | alloc t => obtain ⟨y, _, e⟩ := omap h; cases e
  | box t x => obtain ⟨y, _, e⟩ := omap h; cases e
  | nilCheck x => obtain ⟨y, _, e⟩ := omap h; cases e
  | unOp op t x => obtain ⟨y, _, e⟩ := omap h; cases e
  | extract x i => obtain ⟨y, _, e⟩ := omap h; cases e
  | build t parts =>
    simp only [compOp] at h
    repeat' (split at h)
    all_goals first | (simp at h; done) | (obtain ⟨y, _, e⟩ := omap h; cases e)
  | buildSlice t n parts =>
    simp only [compOp] at h
    repeat' (split at h)
    all_goals first | (simp at h; done) | (obtain ⟨y, _, e⟩ := omap h; cases e)
  | load t x =>
    simp only [compOp] at h
    repeat' (split at h)
    all_goals first | (simp at h; done) | (obtain ⟨y, _, e⟩ := omap h; cases e)
  | store t x y =>
    simp only [compOp] at h
    repeat' (split at h)
    all_goals simp [Option.bind_eq_some_iff] at h
  | binOp op t x y u =>
    simp only [compOp] at h
    repeat' (split at h)
    all_goals simp [Option.bind_eq_some_iff] at h
  | convert s d x =>
    simp only [compOp] at h
    repeat' (split at h)
    all_goals first | (simp at h; done) | (obtain ⟨y, _, e⟩ := omap h; cases e)
  | makeFunc fn first caps =>
    simp only [compOp] at h
    repeat' (split at h)
    all_goals simp at h
  | makeSlice t x y =>
    simp only [compOp] at h
    repeat' (split at h)
    all_goals simp [Option.bind_eq_some_iff] at h
  | slice t x lo hi mx =>
    simp only [compOp] at h
    repeat' (split at h)
    all_goals simp [Option.bind_eq_some_iff] at h
  | fieldAddr t x i =>
    simp only [compOp] at h
    repeat' (split at h)
    all_goals first | (simp at h; done) | (obtain ⟨y, _, e⟩ := omap h; cases e)
  | field t x i =>
    simp only [compOp] at h
    repeat' (split at h)
    all_goals first | (simp at h; done) | (obtain ⟨y, _, e⟩ := omap h; cases e)
  | indexAddr t x i =>
    simp only [compOp] at h
    repeat' (split at h)
    all_goals simp [Option.bind_eq_some_iff] at h
  | _ => simp [compOp] at h

theorem step_sound (hE : E.Good) {n : Nat} {ops : Array Oper} {o : Oper} {ao : AOper} (hc : cOper E n ops o = some ao) {N : Tm → Heap → Prop} (h : AStep E ao N T H) {c : Corr} {a : Act} {w : World} (hs : Sim E c H w) (hf : Frm E n c T a)
    {Qc : Exit → Act → World → Prop} {next : Act → World → Prop} (hn : ∀ a' w', Got E n c w N a' w' → next a' w') : o.wp E.P a w next Qc := by
  unfold cOper at hc
  split at hc
  · simp at hc
  rename_i op hop
  split at hc
  case isFalse => simp at hc
  rename_i hd
  have hdst : ao.dst = o.dst ∧ ao.op = op := by
    split at hc
    · simp only [Option.some.injEq] at hc; subst hc; exact ⟨rfl, rfl⟩
    · split at hc
      · simp only [Option.some.injEq] at hc; subst hc; exact ⟨rfl, rfl⟩
      · simp at hc
  have hd' : ∀ d, o.dst = some d → d < n := fun d e => by rw [e] at hd; simpa using hd
  have fin : ∀ {new : Nat} {v : AV} {H' : Heap}, (c.nxt ≤ new) → OpRes E o a new c w H' v → N (T.puto o.dst v) H' → o.wp E.P a w next Qc := by
    intro new v H' hnew ⟨cv, w', c', h1, h2, h3, h4⟩ hN
    exact h1 next Qc (hn _ _ ⟨_, _, c', hN, ⟨h2.le, fun k hk => h2.old k hk (by omega), h2.keep⟩, h3, (hf.mono h2.le).put hd' h4⟩)
  unfold AStep at h
  rw [hdst.1, hdst.2] at h
  split at h
  · -- a call
    rename_i f args
    obtain ⟨g, caps, hfv, hA⟩ := h
    obtain ⟨f0, args0, ts, hop0, hf0, ha0⟩ := call_inv hop
    have hv := cOpd_VR hs hf.rel hf0
    rw [hfv] at hv
    obtain ⟨gg, cv, hcv, hgg, hcs, hcaps⟩ := hv.inj_fn
    obtain ⟨k1, k2⟩ := cOpds_VR hs hf.rel ha0
    obtain ⟨fn, hfn, hname, hbody⟩ := hE.fns gg g hgg
    have hrun : (execOp a.eval o).run E.P w = .ok (.enter gg (args0.map a.eval ++ cv)) w := by
      have hcf : ∀ (xs : Array Value), (callFunc gg xs).run E.P w = .ok (.enter gg xs) w := fun xs => by
        simp only [callFunc, Sem.run_bind, run_program, Result.andThen_ok, hfn, hname, hbody, Bool.false_eq_true, if_false, Sem.run_pure]
      simp [execOp, hop0, resolve, hcv, Deferred.ofValue, invoke, hcf]
    have hargs : VRs E c (args.map (AOpd.ev T) ++ caps) (args0.map a.eval ++ cv).toList := by
      have hl : (args.map (AOpd.ev T)).length = (args0.toList.map a.eval).length := by simpa using k1.symm
      refine ⟨by simp at hl; simp [hl, hcs], fun j x v hj hv => ?_⟩
      simp only [Array.toList_append, Array.toList_map] at hv
      rw [List.getElem?_append] at hj hv
      rw [← hl] at hv
      split at hj
      · rename_i hlt
        rw [if_pos hlt] at hv
        exact k2 j x v hj hv
      · rename_i hge
        rw [if_neg hge] at hv
        exact hcaps _ x v hj (by simpa using hv)
    have hcalls := hA gg hgg c _ w hs hargs
    unfold Oper.wp
    rw [hrun, Oper.upon_enter]
    refine hcalls.mono (fun e w' hp => ?_)
    cases e with
    | returned cv' =>
      obtain ⟨v, H', c', hN, he, hs', hv'⟩ := hp
      exact hn _ _ ⟨_, H', c', hN, he, hs', (hf.mono he.le).put hd' hv'⟩
    | panicked ch => exact hp.elim
    | outgrown => exact hp.elim
  · rename_i op' hncall
    split at h
    · obtain ⟨v, need, give, h1, h2⟩ := h c.nxt (fun k b hk => by
        obtain ⟨l, hl, _⟩ := hs.loc k b hk
        rcases Nat.lt_or_ge k c.nxt with h5 | h5
        · exact h5
        · rw [hs.top k h5] at hl; cases hl)
      exact fin (Nat.le_refl _) (aop_sound hE.types hE.src hop hs hf.rel (fun _ => hs.top _ (Nat.le_refl _)) h1) h2
    · rename_i hm
      obtain ⟨v, need, give, h1, h2⟩ := h
      have hres := aop_sound (new := c.nxt) hE.types hE.src hop hs hf.rel (fun e => absurd e hm) (v := v) (need := need) (give := give) (by rw [← h1]; exact aop_new _ _ _ _ _ hm)
      exact fin (Nat.le_refl _) hres h2

end
end Go.Abs
/- Regions in the text's order; entering a function. -/
namespace Go.Abs

section
variable {E : Env} {Q : AEx → Tm → Heap → Prop} {T : Tm} {H : Heap}

theorem cOper_inv {n : Nat} {ops : Array Oper} {o : Oper} {ao : AOper} (h : cOper E n ops o = some ao) : compOp E o.op = some ao.op ∧ ao.dst = o.dst ∧ (∀ d, o.dst = some d → d < n) ∧
    ((o.guard = none ∧ ao.guard = none) ∨ ∃ j want d, o.guard = some (j, want) ∧ (ops[j]?).bind (·.dst) = some d ∧ ao.guard = some (d, want)) := by
  unfold cOper at h
  split at h
  · simp at h
  rename_i op hop
  split at h
  case isFalse => simp at h
  rename_i hd
  have hd' : ∀ d, o.dst = some d → d < n := fun d e => by rw [e] at hd; simpa using hd
  split at h
  · rename_i hg
    simp only [Option.some.injEq] at h; subst h
    exact ⟨hop, rfl, hd', .inl ⟨hg, rfl⟩⟩
  · rename_i j want hg
    split at h
    · rename_i d hj
      simp only [Option.some.injEq] at h; subst h
      exact ⟨hop, rfl, hd', .inr ⟨j, want, d, hg, hj, rfl⟩⟩
    · simp at h

/-- A guard's word, as the frame has it. -/
theorem yielded_bool {n : Nat} {c : Corr} {a : Act} (hf : Frm E n c T a) {ops : Array Oper} {j d : Nat} (hj : (ops[j]?).bind (·.dst) = some d) {b : Bool} (hT : T d = .bool b) : yielded ops a.tmps j = some b := by
  have hv := hf.rel d
  rw [hT] at hv
  have hb := hv.inj_bool
  unfold yielded
  rw [hj]
  simp only [Option.bind_some]
  have : a.tmps[d]? = some (.bool b) := by
    rw [Array.getD_eq_getD_getElem?] at hb
    cases h : a.tmps[d]? with
    | none => rw [h] at hb; simp [Go.undef] at hb
    | some x => rw [h] at hb; simp at hb; rw [hb]
  rw [this]

theorem yielded_none {n : Nat} {c : Corr} {a : Act} (hf : Frm E n c T a) {ops : Array Oper} {j d : Nat} (hj : (ops[j]?).bind (·.dst) = some d) (hT : T d = .tup []) : yielded ops a.tmps j = none := by
  have hv := hf.rel d
  rw [hT] at hv
  have hb : ∃ vs, a.tmps.getD d Go.undef = .tuple vs := by
    generalize a.tmps.getD d Go.undef = u at hv
    cases hv with
    | tup h1 h2 => exact ⟨_, rfl⟩
  obtain ⟨vs, hb⟩ := hb
  unfold yielded
  rw [hj]
  simp only [Option.bind_some]
  cases h : a.tmps[d]? with
  | none => rfl
  | some x => rw [Array.getD_eq_getD_getElem?, h] at hb; simp at hb; rw [hb]

theorem skip_put {n : Nat} {c : Corr} {a : Act} (hf : Frm E n c T a) {dst : Option Nat} (hd : ∀ d, dst = some d → d < n) : Frm E n c (T.puto dst (.tup [])) (a.put dst Go.undef) :=
  hf.put hd (.tup (by simp) (fun j x v h => by simp at h))



/-! ### A function is entered -/

def ares1 (T : Tm) (H : Heap) : ARes → Option AV
  | .tmp t => some (T t)
  | .ld t => (aop 0 T H (.ld (.t t))).map (·.1)
  | .lda n t => (aop 0 T H (.lda n (.t t))).map (·.1)

def aress (T : Tm) (H : Heap) : List ARes → Option (List AV)
  | [] => some []
  | r :: rs => match ares1 T H r, aress T H rs with
    | some x, some xs => some (x :: xs)
    | _, _ => none

def ares (rs : List ARes) (T : Tm) (H : Heap) : Option AV :=
  match aress T H rs with
  | some [x] => some x
  | some xs => some (.tup xs)
  | none => none

def Tm.of (args : List AV) : Tm := fun s => args.getD s .undef

/-- Every function of the table is the program's. -/
def Env.Fits (E : Env) (tab : Nat → Option AFunc) : Prop := ∀ g f, E.fi g = some f → ∃ fn af, E.P.funcs[g]? = some fn ∧ tab f = some af ∧ compF E fn = some af

theorem ares1_sound (hE : E.Types) {c : Corr} {w : World} {a : Act} (hs : Sim E c H w) (hT : TRel E c T a) {r : ResultVar} {ar : ARes} (hr : cRes E r = some ar) {v : AV} (h : ares1 T H ar = some v) :
    ∃ cv, ((match r with | .tmp t => pure (a.tmps.getD t Go.undef) | .cell ad t => do loadVar t (← asAddr (a.tmps.getD ad Go.undef)) : Sem Value)).run E.P w = .ok cv w ∧ VR E c v cv := by
  cases r with
  | tmp t =>
    simp only [cRes, Option.some.injEq] at hr
    subst hr
    simp only [ares1, Option.some.injEq] at h
    subst h
    exact ⟨_, rfl, hT t⟩
  | cell ad t =>
    simp only [cRes] at hr
    split at hr
    case h_2 => simp at hr
    rename_i ti ht
    have hv := hT ad
    have load : ∀ {x : AV} {cx : Value} {v : AV}, VR E c x cx → (∃ cv, (Instr.loadAt t cx).run E.P w = .ok cv w ∧ VR E c v cv) → (∃ b o, cx = .pointer (some ⟨b, o, none⟩)) → ∃ cv, ((do loadVar t (← asAddr cx) : Sem Value)).run E.P w = .ok cv w ∧ VR E c v cv := by
      intro x cx v _ ⟨cv, h1, h2⟩ ⟨b, o, e⟩
      subst e
      exact ⟨cv, by simpa [Instr.loadAt, Instr.sureAddr, asAddr] using h1, h2⟩
    split at hr
    · rename_i hag
      simp only [Option.some.injEq] at hr
      subst hr
      simp only [ares1, Option.map_eq_some_iff] at h
      obtain ⟨⟨v', nd, gv⟩, h1, h2⟩ := h
      simp only at h2; subst h2
      refine load hv (lda_sound hE hs ht hag hv (T := T) (new := 0) h1).2 ?_
      simp only [aop, AOpd.ev] at h1
      generalize a.tmps.getD ad Go.undef = u at hv ⊢
      generalize T ad = y at hv h1
      cases hv <;> first | exact ⟨_, _, rfl⟩ | simp_all
    · rename_i hag
      split at hr
      · simp at hr
      rename_i hoth
      simp only [Option.some.injEq] at hr
      subst hr
      simp only [ares1, Option.map_eq_some_iff] at h
      obtain ⟨⟨v', nd, gv⟩, h1, h2⟩ := h
      simp only at h2; subst h2
      refine load hv (ld_sound hE hs ht hoth (by simpa using hag) hv (T := T) (new := 0) h1).2 ?_
      simp only [aop, AOpd.ev] at h1
      generalize a.tmps.getD ad Go.undef = u at hv ⊢
      generalize T ad = y at hv h1
      cases hv <;> first | exact ⟨_, _, rfl⟩ | simp_all

theorem aress_sound (hE : E.Types) {c : Corr} {w : World} {a : Act} (hs : Sim E c H w) (hT : TRel E c T a) : ∀ {rs : List ResultVar} {ars : List ARes}, cRess E rs = some ars → ∀ {vs : List AV}, aress T H ars = some vs →
    ∃ cvs : List Value, (rs.mapM fun r => (match r with | .tmp t => pure (a.tmps.getD t Go.undef) | .cell ad t => do loadVar t (← asAddr (a.tmps.getD ad Go.undef)) : Sem Value)).run E.P w = .ok cvs w ∧ VRs E c vs cvs
  | [], ars, h, vs, hv => by
    simp only [cRess, Option.some.injEq] at h; subst h
    simp only [aress, Option.some.injEq] at hv; subst hv
    exact ⟨[], by simp, rfl, fun j x v h => by simp at h⟩
  | r :: rs, ars, h, vs, hv => by
    simp only [cRess] at h
    split at h
    case h_2 => simp at h
    rename_i x xs hx hxs
    simp only [Option.some.injEq] at h; subst h
    simp only [aress] at hv
    split at hv
    case h_2 => simp at hv
    rename_i y ys hy hys
    simp only [Option.some.injEq] at hv; subst hv
    obtain ⟨cv, h1, h2⟩ := ares1_sound hE hs hT hx hy
    obtain ⟨cvs, h3, h4, h5⟩ := aress_sound hE hs hT hxs hys
    refine ⟨cv :: cvs, ?_, by simp [h4], fun j u v hj hv => ?_⟩
    · simp only [List.mapM_cons, Sem.run_bind, h1, Result.andThen_ok, h3, Sem.run_pure]
    · cases j with
      | zero => simp at hj hv; subst hj; subst hv; exact h2
      | succ j => exact h5 j u v (by simpa using hj) (by simpa using hv)

theorem acall_enter (hE : E.Good) {tab : Nat → Option AFunc} (hF : E.Fits tab) {f : Nat} {af : AFunc} (hf : tab f = some af) {args : List AV} {R : AV → Heap → Prop} (hl : args.length ≤ af.ntmps)
    (h : AWP E af.body (fun e T' H' => match e with | .normal | .ret => ∃ v, ares af.results T' H' = some v ∧ R v H' | .exit _ => False) (Tm.of args) H) : ACall E f args H R := by
  intro g hg c cargs w hs hargs
  obtain ⟨fn, af', h1, h2, h3⟩ := hF g f hg
  rw [hf] at h2; cases h2
  unfold compF at h3
  split at h3
  · simp at h3
  rename_i code hcode
  split at h3
  case h_2 => simp at h3
  rename_i b rs hb hrs
  simp only [Option.some.injEq] at h3
  subst h3
  have hlen : cargs.size = args.length := by have := hargs.1; simpa using this.symm
  have hfrm : Frm E fn.ntmps c (Tm.of args) { tmps := cargs ++ Array.replicate (fn.ntmps - cargs.size) Go.undef, defers := [] } := by
    refine ⟨fun s => ?_, by simp; simp at hl; omega, rfl⟩
    unfold Tm.of
    by_cases hs' : s < args.length
    · have hx : args[s]? = some args[s] := List.getElem?_eq_getElem hs'
      have hcv : s < cargs.size := by omega
      have e2 : (cargs ++ Array.replicate (fn.ntmps - cargs.size) Go.undef).getD s Go.undef = cargs[s] := by
        rw [Array.getD_eq_getD_getElem?, Array.getElem?_append, if_pos hcv]; simp [hcv]
      rw [e2, List.getD_eq_getElem?_getD, hx]
      exact hargs.2 s _ _ hx (by simp [hcv])
    · rw [List.getD_eq_getElem?_getD, List.getElem?_eq_none (by omega)]
      exact .undef _
  refine calls_of_wp h1 hcode (wp_mono (h fn.ntmps code hb c _ w hs hfrm) ?_)
  have fin : ∀ {a' : Act} {w' : World}, Got E fn.ntmps c w (fun T' H' => ∃ v, ares rs T' H' = some v ∧ R v H') a' w' → a'.defers = [] ∧ ∃ v, (results fn a'.tmps).run E.P w' = .ok v w' ∧ CPost E c w R (.returned v) w' := by
    intro a' w' ⟨T', H', c', ⟨v, hv, hR⟩, he, hs', hf'⟩
    refine ⟨hf'.defers, ?_⟩
    unfold ares at hv
    cases hvs : aress T' H' rs with
    | none => rw [hvs] at hv; simp at hv
    | some vs =>
      rw [hvs] at hv
      obtain ⟨cvs, k1, k2, k3⟩ := aress_sound hE.types hs' hf'.rel hrs hvs
      have hrun : (results fn a'.tmps).run E.P w' = .ok (if h : cvs.toArray.size = 1 then cvs.toArray[0] else .tuple cvs.toArray) w' := by
        unfold results
        rw [Array.mapM_eq_mapM_toList]
        simp only [Sem.run_bind, Sem.run_map]
        erw [k1]
        rfl
      refine ⟨_, hrun, v, H', c', hR, he, hs', ?_⟩
      split at hv
      · rename_i x hx
        simp only [Option.some.injEq] at hx hv
        subst hx; subst hv
        simp only [List.length_cons, List.length_nil] at k2
        obtain ⟨q, rfl⟩ : ∃ q, cvs = [q] := by
          match cvs, k2 with
          | [q], _ => exact ⟨q, rfl⟩
        exact k3 0 x q rfl rfl
      · rename_i xs hne hx
        simp only [Option.some.injEq] at hx hv
        subst hx; subst hv
        have : ¬ cvs.toArray.size = 1 := by
          intro e
          have h1 : vs.length = 1 := by simp at e; omega
          obtain ⟨q, hq⟩ := List.length_eq_one_iff.1 h1
          exact hne q (by rw [hq])
        rw [dif_neg this]
        exact .tup (by simp [k2]) (fun j x v hj hv => k3 j x v hj (by simpa using hv))
      · rename_i hx; cases hx
  intro e a' w' hg
  cases e with
  | normal => exact fin hg
  | ret => exact fin hg
  | exit k => obtain ⟨_, _, _, hf, _⟩ := hg; exact hf.elim
  | goto k => exact hg.elim
  | panic ch => exact hg.elim
  | outgrown => exact hg.elim

end
end Go.Abs
/- Regions that draw their order: whatever the order, what the text's order comes to. -/
namespace Go.Abs

section
variable {E : Env} {Q : AEx → Tm → Heap → Prop} {T : Tm} {H : Heap}

/-- A call of which all is told: its value, what it needs of the heap, what it gives to it. -/
def CAct (E : Env) (f : Nat) (args : List AV) (v : AV) (need : List (Nat × Blk)) (give : List (Nat × Option Blk)) : Prop :=
  ∀ H', (∀ p ∈ need, H' p.1 = some p.2) → ACall E f args H' (fun v' H'' => v' = v ∧ H'' = H'.app give)

def keysDisj (x y : List Nat × List Nat) : Prop := (∀ k ∈ x.2, k ∉ y.1 ∧ k ∉ y.2) ∧ (∀ k ∈ y.2, k ∉ x.1)

def disj (acc : List (List Nat × List Nat)) : List (Nat × Nat) → Prop
  | [] => True
  | (i, j) :: ps => (match acc[i]?, acc[j]? with
    | some x, some y => keysDisj x y
    | _, _ => False) ∧ disj acc ps

/-- One operation of a region that draws. -/
def DStep (E : Env) (new : Nat) (o : AOper) (N : AV → List (Nat × Blk) → List (Nat × Option Blk) → Prop) (T : Tm) (H : Heap) : Prop :=
  match o.op with
  | .call f args => ∃ g caps v need give, f.ev T = .fn g caps ∧ CAct E g (args.map (AOpd.ev T) ++ caps) v need give ∧ (∀ p ∈ need, H p.1 = some p.2) ∧ N v need give
  | op => ∃ v need give, aop new T H op = some (v, need, give) ∧ N v need give

def DRun (E : Env) (base : Nat) (ps : List (Nat × Nat)) (K : Tm → Heap → Prop) : List AOper → List (List Nat × List Nat) → Tm → Heap → Prop
  | [], acc, T, H => disj acc ps ∧ K T H
  | o :: os, acc, T, H => match o.guard with
    | none => DStep E (base + acc.length) o (fun v need give => DRun E base ps K os (acc ++ [(need.map (·.1), give.map (·.1))]) (T.puto o.dst v) (H.app give)) T H
    | some (g, want) => (T g = .tup [] ∧ DRun E base ps K os (acc ++ [([], [])]) (T.puto o.dst (.tup [])) H) ∨
        ∃ b, T g = .bool b ∧ (b = want → DStep E (base + acc.length) o (fun v need give => DRun E base ps K os (acc ++ [(need.map (·.1), give.map (·.1))]) (T.puto o.dst v) (H.app give)) T H) ∧
          (b = !want → DRun E base ps K os (acc ++ [([], [])]) (T.puto o.dst (.tup [])) H)

theorem elems_local {sz : Nat} {x : AV} {xs : List (List AV)} {need : List (Nat × Blk)} {H' : Heap} (h : elems sz H x = some (xs, need)) (hn : ∀ p ∈ need, H' p.1 = some p.2) : elems sz H' x = some (xs, need) := by
  cases x <;> simp only [elems] at h ⊢ <;> first | exact h | skip
  split at h
  · rename_i es hid
    split at h
    · rename_i hc
      simp only [Option.some.injEq, Prod.mk.injEq] at h
      obtain ⟨rfl, rfl⟩ := h
      have := hn _ (List.mem_singleton.2 rfl)
      simp only at this
      rw [this]
      simp [hc]
    · simp at h
  · simp at h

theorem aop_local {new : Nat} {op : AOp} {T T' : Tm} {H H' : Heap} {v : AV} {need : List (Nat × Blk)} {give : List (Nat × Option Blk)} (h : aop new T H op = some (v, need, give)) (ht : ∀ y ∈ op.opds, y.ev T' = y.ev T) (hn : ∀ p ∈ need, H' p.1 = some p.2) :
    aop new T' H' op = some (v, need, give) := by
  have one : ∀ {x : AOpd}, op.opds = [x] → x.ev T' = x.ev T := fun {x} e => ht x (by rw [e]; simp)
  have two : ∀ {x y : AOpd}, op.opds = [x, y] → x.ev T' = x.ev T ∧ y.ev T' = y.ev T := fun {x y} e => ⟨ht x (by rw [e]; simp), ht y (by rw [e]; simp)⟩
  cases op with
  | mov x => have e := one rfl; simp only [aop, e] at h ⊢; exact h
  | pick q x y =>
    have e1 := ht q (by simp [AOp.opds]); have e2 := ht x (by simp [AOp.opds]); have e3 := ht y (by simp [AOp.opds])
    simp only [aop, e1, e2, e3] at h ⊢; exact h
  | alloc z => exact h
  | box x => have e := one rfl; simp only [aop, e] at h ⊢; exact h
  | build z ps =>
    have e : ∀ p ∈ ps, p.2.2.ev T' = p.2.2.ev T := fun p hp => ht _ (List.mem_map.2 ⟨p, hp, rfl⟩)
    have e1 : ps.all (fun p => (p.2.2.ev T').ok && (p.2.2.ev T').cells.length == p.2.1 && decide (p.1 + p.2.1 ≤ z.length)) = ps.all (fun p => (p.2.2.ev T).ok && (p.2.2.ev T).cells.length == p.2.1 && decide (p.1 + p.2.1 ≤ z.length)) := by
      rw [Bool.eq_iff_iff, List.all_eq_true, List.all_eq_true]
      exact ⟨fun h p hp => by rw [← e p hp]; exact h p hp, fun h p hp => by rw [e p hp]; exact h p hp⟩
    have e2 : (ps.map fun p => (p.1, p.2.2.ev T')) = ps.map fun p => (p.1, p.2.2.ev T) := List.map_congr_left (fun p hp => by rw [e p hp])
    simp only [aop, e1, e2] at h ⊢; exact h
  | bsl sz z len ps =>
    have e : ∀ p ∈ ps, p.2.ev T' = p.2.ev T := fun p hp => ht _ (List.mem_map.2 ⟨p, hp, rfl⟩)
    have e1 : ps.all (fun p => (p.2.ev T').ok && (p.2.ev T').cells.length == sz) = ps.all (fun p => (p.2.ev T).ok && (p.2.ev T).cells.length == sz) := by
      rw [Bool.eq_iff_iff, List.all_eq_true, List.all_eq_true]
      exact ⟨fun h p hp => by rw [← e p hp]; exact h p hp, fun h p hp => by rw [e p hp]; exact h p hp⟩
    have e2 : ∀ (es : Blk), ps.foldl (fun es p => es.set p.1 (p.2.ev T').cells) es = ps.foldl (fun es p => es.set p.1 (p.2.ev T).cells) es := by
      clear h e1
      induction ps with
      | nil => intro es; rfl
      | cons p ps ih =>
        intro es
        rw [List.foldl_cons, List.foldl_cons, e p (by simp)]
        exact ih (fun y hy => by
          simp only [AOp.opds] at hy ⊢
          exact ht y (by simp only [AOp.opds, List.map_cons]; exact List.mem_cons_of_mem _ hy)) (fun {x} hx => by
          exact ht x (by simp only [AOp.opds, List.map_cons] at hx ⊢; rw [hx]; simp)) (fun {x y} hx => by
          simp only [AOp.opds] at hx
          exact ⟨ht x (by simp only [AOp.opds, List.map_cons]; rw [hx]; simp), ht y (by simp only [AOp.opds, List.map_cons]; rw [hx]; simp)⟩) (fun q hq => e q (by simp [hq])) _
    simp only [aop, e1, e2] at h ⊢; exact h
  | ld x =>
    have e := one rfl
    simp only [aop, e] at h ⊢
    generalize x.ev T = q at h ⊢
    cases q <;> simp only at h ⊢ <;> first | exact h | (simp at h; done) | skip
    split at h
    · split at h
      · split at h
        · simp only [Option.some.injEq, Prod.mk.injEq] at h
          obtain ⟨rfl, rfl, rfl⟩ := h
          have := hn _ (List.mem_singleton.2 rfl)
          simp only at this
          simp [*]
        · simp at h
      · simp at h
    · simp at h
  | lda n x =>
    have e := one rfl
    simp only [aop, e] at h ⊢
    generalize x.ev T = q at h ⊢
    cases q <;> simp only at h ⊢ <;> first | exact h | (simp at h; done) | skip
    split at h
    · split at h
      · split at h
        · simp only [Option.some.injEq, Prod.mk.injEq] at h
          obtain ⟨rfl, rfl, rfl⟩ := h
          have := hn _ (List.mem_singleton.2 rfl)
          simp only at this
          simp [*]
        · simp at h
      · simp at h
    · simp at h
  | st n x y =>
    obtain ⟨e1, e2⟩ := two rfl
    simp only [aop, e1, e2] at h ⊢
    generalize x.ev T = q at h ⊢
    cases q <;> simp only at h ⊢ <;> first | exact h | (simp at h; done) | skip
    split at h
    · split at h
      · split at h
        · simp only [Option.some.injEq, Prod.mk.injEq] at h
          obtain ⟨rfl, rfl, rfl⟩ := h
          have := hn _ (List.mem_singleton.2 rfl)
          simp only at this
          simp [*]
        · simp at h
      · simp at h
    · simp at h
  | nilck x => have e := one rfl; simp only [aop, e] at h ⊢; exact h
  | bin op x y => obtain ⟨e1, e2⟩ := two rfl; simp only [aop, e1, e2] at h ⊢; exact h
  | eqb neg x y => obtain ⟨e1, e2⟩ := two rfl; simp only [aop, e1, e2] at h ⊢; exact h
  | eqp neg x y => obtain ⟨e1, e2⟩ := two rfl; simp only [aop, e1, e2] at h ⊢; exact h
  | eqv neg ks x y => obtain ⟨e1, e2⟩ := two rfl; simp only [aop, e1, e2] at h ⊢; exact h
  | un op x => have e := one rfl; simp only [aop, e] at h ⊢; exact h
  | conv k x => have e := one rfl; simp only [aop, e] at h ⊢; exact h
  | mkfn f cs =>
    have e : cs.map (AOpd.ev T') = cs.map (AOpd.ev T) := List.map_congr_left (fun y hy => ht y hy)
    simp only [aop, e] at h ⊢; exact h
  | mksl sz by' z x y => obtain ⟨e1, e2⟩ := two rfl; simp only [aop, e1, e2] at h ⊢; exact h
  | slice sz x lo hi =>
    have e1 := ht x (by simp [AOp.opds])
    have e2 : lo.map (AOpd.ev T') = lo.map (AOpd.ev T) := by
      cases lo with
      | none => rfl
      | some y => simp [ht y (by simp [AOp.opds])]
    have e3 : hi.map (AOpd.ev T') = hi.map (AOpd.ev T) := by
      cases hi with
      | none => rfl
      | some y => simp [ht y (by simp [AOp.opds])]
    simp only [aop, e1, e2, e3] at h ⊢; exact h
  | fad o x => have e := one rfl; simp only [aop, e] at h ⊢; exact h
  | fld o x => have e := one rfl; simp only [aop, e] at h ⊢; exact h
  | flda o n x => have e := one rfl; simp only [aop, e] at h ⊢; exact h
  | iad sz x y => obtain ⟨e1, e2⟩ := two rfl; simp only [aop, e1, e2] at h ⊢; exact h
  | iadA m sz x y => obtain ⟨e1, e2⟩ := two rfl; simp only [aop, e1, e2] at h ⊢; exact h
  | ext x i => have e := one rfl; simp only [aop, e] at h ⊢; exact h
  | len x => have e := one rfl; simp only [aop, e] at h ⊢; exact h
  | lenc n => exact h
  | mn x y => obtain ⟨e1, e2⟩ := two rfl; simp only [aop, e1, e2] at h ⊢; exact h
  | mx x y => obtain ⟨e1, e2⟩ := two rfl; simp only [aop, e1, e2] at h ⊢; exact h
  | call f as => simp [aop] at h
  | app sz x y =>
    obtain ⟨e1, e2⟩ := two rfl
    simp only [aop, e1, e2] at h ⊢
    split at h
    case h_2 => simp at h
    rename_i xs nd hel
    have key : (∀ p ∈ nd, p ∈ need) → elems sz H' (y.ev T) = some (xs, nd) := fun hsub => elems_local hel (fun p hp => hn p (hsub p hp))
    generalize x.ev T = q at h ⊢
    cases q <;> simp only at h <;> first | (simp at h; done) | skip
    · split at h
      case h_2 => simp at h
      rename_i es hid
      split at h
      case isFalse => simp at h
      rename_i hc
      simp only [Option.some.injEq, Prod.mk.injEq] at h
      obtain ⟨rfl, rfl, rfl⟩ := h
      rw [key (fun p hp => by simp [hp])]
      have := hn _ (List.mem_cons_self)
      simp only at this
      simp only [this]
      rw [if_pos hc]
    · split at h
      case isFalse => simp at h
      rename_i hc
      simp only [Option.some.injEq, Prod.mk.injEq] at h
      obtain ⟨rfl, rfl, rfl⟩ := h
      rw [key (fun p hp => hp)]
      simp only
      rw [if_pos hc]
  | cpy sz x y =>
    obtain ⟨e1, e2⟩ := two rfl
    simp only [aop, e1, e2] at h ⊢
    split at h
    case h_2 => simp at h
    rename_i xs nd hel
    have key : (∀ p ∈ nd, p ∈ need) → elems sz H' (y.ev T) = some (xs, nd) := fun hsub => elems_local hel (fun p hp => hn p (hsub p hp))
    generalize x.ev T = q at h ⊢
    cases q <;> simp only at h <;> first | (simp at h; done) | skip
    · split at h
      case h_2 => simp at h
      rename_i es hid
      split at h
      case isFalse => simp at h
      rename_i hc
      simp only [Option.some.injEq, Prod.mk.injEq] at h
      obtain ⟨rfl, rfl, rfl⟩ := h
      rw [key (fun p hp => by simp [hp])]
      have := hn _ (List.mem_cons_self)
      simp only at this
      simp only [this]
      rw [if_pos hc]
    · simp only [Option.some.injEq, Prod.mk.injEq] at h
      obtain ⟨rfl, rfl, rfl⟩ := h
      rw [key (fun p hp => hp)]

theorem elems_need {sz : Nat} {x : AV} {xs : List (List AV)} {need : List (Nat × Blk)} {H : Heap} (h : elems sz H x = some (xs, need)) : ∀ p ∈ need, H p.1 = some p.2 := by
  cases x <;> simp only [elems] at h <;> first | (simp at h; done) | skip
  · split at h
    · rename_i es hid
      split at h
      · simp only [Option.some.injEq, Prod.mk.injEq] at h
        obtain ⟨_, rfl⟩ := h
        intro p hp; simp at hp; subst hp; exact hid
      · simp at h
    · simp at h
  · split at h
    · simp only [Option.some.injEq, Prod.mk.injEq] at h
      obtain ⟨_, rfl⟩ := h
      intro p hp; simp at hp
    · simp at h
  · simp only [Option.some.injEq, Prod.mk.injEq] at h
    obtain ⟨_, rfl⟩ := h
    intro p hp; simp at hp

theorem aop_need {new : Nat} {op : AOp} {T : Tm} {H : Heap} {v : AV} {need : List (Nat × Blk)} {give : List (Nat × Option Blk)} (h : aop new T H op = some (v, need, give)) : ∀ p ∈ need, H p.1 = some p.2 := by
  have p0 : need = [] → ∀ p ∈ need, H p.1 = some p.2 := fun e p hp => by rw [e] at hp; simp at hp
  have p1 : ∀ {x : AV}, pure1 x = some (v, need, give) → need = [] := fun {x} h => by
    simp only [pure1, Option.some.injEq, Prod.mk.injEq] at h
    exact h.2.1.symm
  have p2 : ∀ {o : Option AV}, o.bind pure1 = some (v, need, give) → need = [] := fun {o} h => by
    cases o with
    | none => simp at h
    | some x => exact p1 h
  have p3 : ∀ {id : Nat} {es : Blk} {v' : AV} {g' : List (Nat × Option Blk)}, H id = some es → (some (v', [(id, es)], g') : Option Eff) = some (v, need, give) → ∀ p ∈ need, H p.1 = some p.2 := fun {id es v' g'} hid h => by
    simp only [Option.some.injEq, Prod.mk.injEq] at h
    obtain ⟨_, rfl, _⟩ := h
    intro p hp; simp at hp; subst hp; exact hid
  have p4 : ∀ {v' : AV} {g' : List (Nat × Option Blk)}, (some (v', [], g') : Option Eff) = some (v, need, give) → need = [] := fun {v' g'} h => by
    simp only [Option.some.injEq, Prod.mk.injEq] at h
    exact h.2.1.symm
  cases op <;> simp only [aop] at h
  case app sz x y =>
    split at h
    case h_2 => simp at h
    rename_i xs nd hel
    have hnd := elems_need hel
    split at h
    · split at h
      · simp only [Option.some.injEq, Prod.mk.injEq] at h
        obtain ⟨_, rfl, _⟩ := h
        exact hnd
      · simp at h
    · split at h
      · rename_i es hid
        split at h
        · simp only [Option.some.injEq, Prod.mk.injEq] at h
          obtain ⟨_, rfl, _⟩ := h
          intro p hp
          rcases List.mem_cons.1 hp with e | e
          · subst e; exact hid
          · exact hnd p e
        · simp at h
      · simp at h
    · simp at h
  case cpy sz x y =>
    split at h
    case h_2 => simp at h
    rename_i xs nd hel
    have hnd := elems_need hel
    split at h
    · simp only [Option.some.injEq, Prod.mk.injEq] at h
      obtain ⟨_, rfl, _⟩ := h
      exact hnd
    · split at h
      · rename_i es hid
        split at h
        · simp only [Option.some.injEq, Prod.mk.injEq] at h
          obtain ⟨_, rfl, _⟩ := h
          intro p hp
          rcases List.mem_cons.1 hp with e | e
          · subst e; exact hid
          · exact hnd p e
        · simp at h
      · simp at h
    · simp at h
  all_goals
    first
      | exact p0 (p1 h)
      | exact p0 (p2 h)
      | exact p0 (p4 h)
      | (simp at h; done)
      | ((repeat' (split at h)) <;> first | exact p0 (p1 h) | exact p0 (p2 h) | exact p0 (p4 h) | exact p3 ‹_› h | (simp at h; done))

/-- What an operation that does not deal with memory needs and gives: nothing; what a load gives: nothing. -/
theorem aop_mem {new : Nat} {op : AOp} {T : Tm} {H : Heap} {v : AV} {need : List (Nat × Blk)} {give : List (Nat × Option Blk)} (h : aop new T H op = some (v, need, give)) : (op.mem = 0 → need = [] ∧ give = []) ∧ (op.mem = 1 → give = []) := by
  have p1 : ∀ {x : AV}, pure1 x = some (v, need, give) → need = [] ∧ give = [] := fun {x} h => by
    simp only [pure1, Option.some.injEq, Prod.mk.injEq] at h
    exact ⟨h.2.1.symm, h.2.2.symm⟩
  have p2 : ∀ {o : Option AV}, o.bind pure1 = some (v, need, give) → need = [] ∧ give = [] := fun {o} h => by
    cases o with
    | none => simp at h
    | some x => exact p1 h
  refine ⟨fun h0 => ?_, fun h1 => ?_⟩
  · cases op <;> simp only [AOp.mem] at h0 <;> first | (simp at h0; done) | skip
    all_goals
      simp only [aop] at h
      first
        | exact p1 h
        | exact p2 h
        | (repeat' (split at h)) <;> first | exact p1 h | exact p2 h | (simp at h; done)
  · cases op <;> simp only [AOp.mem] at h1 <;> first | (simp at h1; done) | skip
    all_goals
      simp only [aop] at h
      (repeat' (split at h)) <;> first | (simp at h; done) | (simp only [pure1, Option.some.injEq, Prod.mk.injEq] at h; exact h.2.2.symm)

end
end Go.Abs
/- Regions that draw their order: whatever the order, what the text's order comes to: the theorem. -/
namespace Go.Abs

section
variable {E : Env} {Q : AEx → Tm → Heap → Prop} {T : Tm} {H : Heap}

/-- What operation i comes to wherever its words and its cells are as they were told. -/
def RImpl (E : Env) (n : Nat) (ops : Array Oper) (base i : Nat) (x : AOper) (T : Tm) (r : Eff) : Prop :=
  ∀ (c : Corr) (a : Act) (w : World) (T' : Tm) (H' : Heap), Sim E c H' w → Frm E n c T' a → (∀ s ∈ x.reads, T' s = T s) → (∀ p ∈ r.2.1, H' p.1 = some p.2) → c.ρ (base + i) = none → base + i < c.nxt →
    ∀ (Kc : Act → World → Prop) (Qc : Exit → Act → World → Prop), (∀ a' w' c', StepX (base + i) c w c' w' → Sim E c' (H'.app r.2.2) w' → Frm E n c' (T'.puto x.dst r.1) a' → Kc a' w') → wpOp E.P ops Qc i Kc a w

theorem opd_slots {x : AOpd} {T T' : Tm} (h : ∀ s ∈ x.slots, T' s = T s) : x.ev T' = x.ev T := by
  cases x with
  | t n => exact h n (by simp [AOpd.slots])
  | c v => rfl

theorem reads_opds {x : AOper} {T T' : Tm} (h : ∀ s ∈ x.reads, T' s = T s) : ∀ y ∈ x.op.opds, y.ev T' = y.ev T := fun y hy =>
  opd_slots (fun s hs => h s (List.mem_append_left _ (List.mem_flatMap.2 ⟨y, hy, hs⟩)))

theorem reads_guard {x : AOper} {T T' : Tm} (h : ∀ s ∈ x.reads, T' s = T s) {g : Nat} {want : Bool} (hg : x.guard = some (g, want)) : T' g = T g :=
  h g (List.mem_append_right _ (by rw [hg]; simp))

/-- The operation itself is done. -/
def Wants (ops : Array Oper) (n : Nat) (E : Env) (x : AOper) (o : Oper) (T : Tm) : Prop :=
  ∀ (c : Corr) (a : Act) (T' : Tm), Frm E n c T' a → (∀ s ∈ x.reads, T' s = T s) → Region.wanted o (yielded ops a.tmps) = true

theorem rimpl_op (hE : E.Good) {n : Nat} {ops : Array Oper} {base i : Nat} {o : Oper} {x : AOper} (hi : ops[i]? = some o) (hc : cOper E n ops o = some x) (hw : Wants ops n E x o T)
    {v : AV} {need : List (Nat × Blk)} {give : List (Nat × Option Blk)} (h : aop (base + i) T H x.op = some (v, need, give)) : RImpl E n ops base i x T (v, need, give) := by
  intro c a w T' H' hs hf hr hn hown hlt Kc Qc hk
  obtain ⟨hop, hdst, hd, _⟩ := cOper_inv hc
  have h' := aop_local h (reads_opds hr) hn
  obtain ⟨cv, w', c', h1, h2, h3, h4⟩ := aop_sound hE.types hE.src hop hs hf.rel (fun _ => hown) h'
  unfold wpOp
  simp only [hi]
  rw [if_pos (hw c a T' hf hr)]
  refine .inl (h1 Kc Qc (hk _ _ c' h2 h3 ?_))
  rw [← hdst]
  exact (hf.mono h2.le).put (fun d e => hd d (by rw [← hdst]; exact e)) h4

theorem rimpl_call (hE : E.Good) {n : Nat} {ops : Array Oper} {base i : Nat} {o : Oper} {x : AOper} (hi : ops[i]? = some o) (hc : cOper E n ops o = some x) (hw : Wants ops n E x o T)
    {f : AOpd} {args : List AOpd} (hx : x.op = .call f args) {g : Nat} {caps : List AV} {v : AV} {need : List (Nat × Blk)} {give : List (Nat × Option Blk)} (hf0 : f.ev T = .fn g caps) (h : CAct E g (args.map (AOpd.ev T) ++ caps) v need give) :
    RImpl E n ops base i x T (v, need, give) := by
  intro c a w T' H' hs hf hr hn hown hlt Kc Qc hk
  have he := reads_opds hr
  rw [hx] at he
  have hfe : f.ev T' = .fn g caps := by rw [he f (by simp [AOp.opds])]; exact hf0
  have hae : args.map (AOpd.ev T') = args.map (AOpd.ev T) := List.map_congr_left (fun y hy => he y (by simp [AOp.opds, hy]))
  have hA := h H' hn
  unfold wpOp
  simp only [hi]
  rw [if_pos (hw c a T' hf hr)]
  refine .inl (step_sound (N := fun T1 H1 => T1 = T'.puto x.dst v ∧ H1 = H'.app give) hE hc ?_ hs hf ?_)
  · unfold AStep
    rw [hx]
    refine ⟨g, caps, hfe, ?_⟩
    rw [hae]
    intro gg hgg c2 cargs w2 hs2 hargs
    refine (hA gg hgg c2 cargs w2 hs2 hargs).mono (fun e w' hp => ?_)
    cases e with
    | returned cv =>
      obtain ⟨v', H'', c', ⟨e1, e2⟩, hrest⟩ := hp
      exact ⟨v', H'', c', ⟨by rw [e1], e2⟩, hrest⟩
    | panicked ch => exact hp.elim
    | outgrown => exact hp.elim
  · rintro a' w' ⟨T1, H1, c', ⟨rfl, rfl⟩, h2, h3, h4⟩
    exact hk a' w' c' (h2.stepX _) h3 h4

theorem rimpl_skip {n : Nat} {ops : Array Oper} {base i : Nat} {o : Oper} {x : AOper} (hi : ops[i]? = some o) (hc : cOper E n ops o = some x)
    (hw : ∀ (c : Corr) (a : Act) (T' : Tm), Frm E n c T' a → (∀ s ∈ x.reads, T' s = T s) → Region.wanted o (yielded ops a.tmps) = false) : RImpl E n ops base i x T (.tup [], [], []) := by
  intro c a w T' H' hs hf hr hn hown hlt Kc Qc hk
  obtain ⟨hop, hdst, hd, _⟩ := cOper_inv hc
  unfold wpOp
  simp only [hi]
  rw [if_neg (by rw [hw c a T' hf hr]; simp)]
  refine hk _ _ c (.refl _ _ _) hs ?_
  rw [hdst]
  exact skip_put hf hd

/-- The operations still to come, in the text's order, each with what it comes to. -/
def SeqOK (E : Env) (n : Nat) (ops : Array Oper) (base : Nat) (l : List AOper) (r : Nat → Eff) (K : Tm → Heap → Prop) : List Nat → Tm → Heap → Prop
  | [], T, H => K T H
  | i :: is, T, H => (∃ x, l[i]? = some x ∧ RImpl E n ops base i x T (r i) ∧ (∀ p ∈ (r i).2.1, H p.1 = some p.2) ∧ SeqOK E n ops base l r K is (T.puto x.dst (r i).1) (H.app (r i).2.2))

theorem app_other (H : Heap) : ∀ (gs : List (Nat × Option Blk)) (k : Nat), k ∉ gs.map (·.1) → H.app gs k = H k := by
  intro gs
  induction gs generalizing H with
  | nil => intro k _; rfl
  | cons g gs ih =>
    intro k hk
    simp only [List.map_cons, List.mem_cons, not_or] at hk
    simp only [Heap.app]
    rw [ih _ k hk.2, Heap.set_ne _ _ _ _ hk.1]

theorem app_congr (H H' : Heap) : ∀ (gs : List (Nat × Option Blk)) (k : Nat), k ∈ gs.map (·.1) → H.app gs k = H'.app gs k := by
  intro gs
  induction gs generalizing H H' with
  | nil => intro k h; simp at h
  | cons g gs ih =>
    intro k hk
    simp only [Heap.app]
    by_cases h : k ∈ gs.map (·.1)
    · exact ih _ _ k h
    · rw [app_other _ gs k h, app_other _ gs k h]
      simp only [List.map_cons, List.mem_cons] at hk
      rcases hk with hk | hk
      · rw [hk, Heap.set_same, Heap.set_same]
      · exact absurd hk h

theorem app_comm (H : Heap) (g1 g2 : List (Nat × Option Blk)) (h : ∀ k ∈ g1.map (·.1), k ∉ g2.map (·.1)) : (H.app g1).app g2 = (H.app g2).app g1 := by
  funext k
  by_cases h1 : k ∈ g1.map (·.1)
  · have h2 := h k h1
    rw [app_other _ g2 k h2]
    exact app_congr _ _ g1 k h1
  · by_cases h2 : k ∈ g2.map (·.1)
    · rw [app_other _ g1 k h1]
      exact app_congr _ _ g2 k h2
    · rw [app_other _ g2 k h2, app_other _ g1 k h1, app_other _ g1 k h1, app_other _ g2 k h2]

theorem puto_comm (T : Tm) {d1 d2 : Option Nat} (v1 v2 : AV) (h : ∀ d, d1 = some d → d2 ≠ some d) : (T.puto d1 v1).puto d2 v2 = (T.puto d2 v2).puto d1 v1 := by
  cases d1 with
  | none => rfl
  | some a =>
    cases d2 with
    | none => rfl
    | some b =>
      have hab : b ≠ a := fun e => h a rfl (by rw [e])
      funext s
      simp only [Tm.puto, Tm.put]
      by_cases e1 : s = b
      · subst e1; simp [hab]
      · by_cases e2 : s = a
        · subst e2; simp [e1]
        · simp [e1, e2]

theorem puto_other (T : Tm) {d : Option Nat} (v : AV) (s : Nat) (h : d ≠ some s) : (T.puto d v) s = T s := by
  cases d with
  | none => rfl
  | some a =>
    have : s ≠ a := fun e => h (by rw [e])
    simp [Tm.puto, Tm.put, this]

def keysOf (r : Eff) : List Nat × List Nat := (r.2.1.map (·.1), r.2.2.map (·.1))

/-- Two operations that may change places. -/
structure Indep (x y : AOper) (rx ry : Eff) : Prop where
  slots : slotsApart x y = true
  keys : keysDisj (keysOf rx) (keysOf ry)

theorem slots_facts {x y : AOper} (h : slotsApart x y = true) : (∀ d, x.dst = some d → d ∉ y.reads ∧ y.dst ≠ some d) ∧ (∀ d, y.dst = some d → d ∉ x.reads) := by
  unfold slotsApart at h
  rw [Bool.and_eq_true] at h
  obtain ⟨h1, h2⟩ := h
  refine ⟨fun d e => ?_, fun d e => ?_⟩
  · rw [e] at h1
    simp only [Bool.and_eq_true, Bool.not_eq_true', bne_iff_ne, ne_eq] at h1
    exact ⟨by simpa using h1.1, h1.2⟩
  · rw [e] at h2
    simpa using h2

theorem RImpl.congr {n : Nat} {ops : Array Oper} {base i : Nat} {x : AOper} {T T1 : Tm} {r : Eff} (h : RImpl E n ops base i x T1 r) (ht : ∀ s ∈ x.reads, T s = T1 s) : RImpl E n ops base i x T r :=
  fun c a w T' H' hs hf hr => h c a w T' H' hs hf (fun s hs' => (hr s hs').trans (ht s hs'))

theorem front {n : Nat} {ops : Array Oper} {base : Nat} {l : List AOper} {r : Nat → Eff} {K : Tm → Heap → Prop} {i : Nat} {y : AOper} (hy : l[i]? = some y) : ∀ (pre post : List Nat) (T : Tm) (H : Heap),
    (∀ p ∈ pre, ∀ x, l[p]? = some x → Indep x y (r p) (r i)) → SeqOK E n ops base l r K (pre ++ i :: post) T H →
    RImpl E n ops base i y T (r i) ∧ (∀ p ∈ (r i).2.1, H p.1 = some p.2) ∧ SeqOK E n ops base l r K (pre ++ post) (T.puto y.dst (r i).1) (H.app (r i).2.2)
  | [], post, T, H, _, h => by
    obtain ⟨x, hx, h1, h2, h3⟩ := h
    rw [hy] at hx; cases hx
    exact ⟨h1, h2, h3⟩
  | p :: pre, post, T, H, hind, h => by
    obtain ⟨x, hx, h1, h2, h3⟩ := h
    obtain ⟨k1, k2, k3⟩ := front hy pre post _ _ (fun q hq => hind q (by simp [hq])) h3
    obtain ⟨hsl, hkd⟩ := hind p (by simp) x hx
    obtain ⟨s1, s2⟩ := slots_facts hsl
    refine ⟨k1.congr (fun s hs => ?_), fun q hq => ?_, ⟨x, hx, h1.congr (fun s hs => ?_), fun q hq => ?_, ?_⟩⟩
    · rw [puto_other]
      intro e
      exact (s1 s e).1 hs
    · rw [← k2 q hq, app_other]
      intro hm
      exact (hkd.1 q.1 hm).1 (List.mem_map.2 ⟨q, hq, rfl⟩)
    · exact puto_other _ _ _ (fun e => s2 s e hs)
    · rw [app_other]
      · exact h2 q hq
      · intro hm
        exact hkd.2 q.1 hm (List.mem_map.2 ⟨q, hq, rfl⟩)
    · rw [puto_comm T _ _ (fun d e e2 => (s1 d e2).2 e), app_comm H (r i).2.2 (r p).2.2 (fun k hk hk2 => (hkd.1 k hk2).2 hk)]
      exact k3

/-- What has gone stays closed under 'before'. -/
def Closed (b : List (List Nat)) (listed : Array Bool) : Prop := ∀ (i : Nat), listed.getD i true = true → i < listed.size → ∀ p ∈ b.getD i [], listed.getD p false = true

theorem befs_pre : ∀ (os : List Oper) (acc : List (List Nat)) (k : Nat), k < acc.length → (befs os acc).getD k [] = acc.getD k []
  | [], acc, k, _ => rfl
  | o :: os, acc, k, h => by
    rw [befs, befs_pre os _ k (by simp; omega)]
    simp only [List.getD_eq_getElem?_getD, List.getElem?_append, if_pos h]

theorem befs_get : ∀ (os : List Oper) (acc : List (List Nat)) (i : Nat) (o : Oper), os[i]? = some o → (∀ (j : Nat) (o : Oper), os[j]? = some o → ∀ e ∈ o.after.toList, Region.binds .any e = true → e.on < acc.length + j) →
    (befs os acc).getD (acc.length + i) [] = ((o.after.toList.filter (Region.binds .any)).flatMap fun e => e.on :: (befs os acc).getD e.on [])
  | [], acc, i, o, h, _ => by simp at h
  | o' :: os, acc, i, o, h, hb => by
    cases i with
    | zero =>
      simp only [List.getElem?_cons_zero, Option.some.injEq] at h
      subst h
      have hb0 := hb 0 o' rfl
      have hm : ∀ e ∈ o'.after.toList.filter (Region.binds .any), (befs (o' :: os) acc).getD e.on [] = acc.getD e.on [] := fun e he => by
        obtain ⟨h1, h2⟩ := List.mem_filter.1 he
        exact befs_pre _ _ _ (by have := hb0 e h1 h2; simpa using this)
      have e1 : ((o'.after.toList.filter (Region.binds .any)).flatMap fun e => e.on :: (befs (o' :: os) acc).getD e.on []) = (o'.after.toList.filter (Region.binds .any)).flatMap fun e => e.on :: acc.getD e.on [] := by
        rw [List.flatMap_def, List.flatMap_def, List.map_congr_left (fun e he => by rw [hm e he])]
      rw [e1]
      rw [befs, befs_pre os _ _ (by simp)]
      simp
    | succ i =>
      have := befs_get os (acc ++ [(o'.after.toList.filter (Region.binds .any)).flatMap fun e => e.on :: acc.getD e.on []]) i o (by simpa using h) (fun j q hq e he hbd => by
        have := hb (j + 1) q (by simpa using hq) e he hbd
        simp; omega)
      rw [befs]
      rw [show acc.length + (i + 1) = (acc ++ [(o'.after.toList.filter (Region.binds .any)).flatMap fun e => e.on :: acc.getD e.on []]).length + i by simp; omega]
      exact this

theorem ready_mem {ops : Array Oper} {listed : Array Bool} {i : Nat} : i ∈ Region.ready .any ops listed ↔ i < ops.size ∧ listed.getD i true = false ∧ ∃ o, ops[i]? = some o ∧ ∀ e ∈ o.after.toList, Region.binds .any e = true → listed.getD e.on false = true := by
  unfold Region.ready
  rw [List.mem_filter, List.mem_range]
  constructor
  · intro ⟨h1, h2⟩
    rw [Bool.and_eq_true] at h2
    refine ⟨h1, by simpa using h2.1, ops[i], by simp [h1], fun e he hb => ?_⟩
    have h3 := h2.2
    simp only [Array.getElem?_eq_getElem h1, Option.map_some, Option.getD_some, ← Array.all_toList, List.all_eq_true] at h3
    have := h3 e he
    rw [hb] at this
    simpa using this
  · intro ⟨h1, h2, o, ho, h3⟩
    refine ⟨h1, ?_⟩
    rw [Bool.and_eq_true]
    refine ⟨by simp [h2], ?_⟩
    simp only [ho, Option.map_some, Option.getD_some, ← Array.all_toList, List.all_eq_true]
    intro e he
    by_cases hb : Region.binds .any e = true
    · rw [h3 e he hb]; simp
    · simp at hb; simp [hb]

/-- The shape of a region, as far as orders go. -/
structure Shape (ops : Array Oper) (l : List AOper) (b : List (List Nat)) : Prop where
  len : l.length = ops.size
  bef : ∀ (i : Nat) (o : Oper), ops[i]? = some o → b.getD i [] = ((o.after.toList.filter (Region.binds .any)).flatMap fun e => e.on :: b.getD e.on [])
  edge : ∀ (i : Nat) (o : Oper), ops[i]? = some o → ∀ e ∈ o.after.toList, Region.binds .any e = true → e.on < i

structure Left (ops : Array Oper) (b : List (List Nat)) (listed : Array Bool) (rem : List Nat) : Prop where
  size : listed.size = ops.size
  mem : ∀ i, i ∈ rem ↔ i < ops.size ∧ listed.getD i true = false
  sorted : rem.Pairwise (· < ·)
  closed : ∀ i, i < ops.size → listed.getD i true = true → ∀ p ∈ b.getD i [], listed.getD p false = true

theorem getD_any {listed : Array Bool} {i : Nat} (h : i < listed.size) (x y : Bool) : listed.getD i x = listed.getD i y := by
  simp [Array.getD_eq_getD_getElem?, Array.getElem?_eq_getElem h]

theorem any_sound {n : Nat} {ops : Array Oper} {base : Nat} {l : List AOper} {b : List (List Nat)} {r : Nat → Eff} {K : Tm → Heap → Prop} (hsh : Shape ops l b)
    (hind : ∀ (p i : Nat) (x y : AOper), p < i → p ∉ b.getD i [] → l[p]? = some x → l[i]? = some y → Indep x y (r p) (r i))
    {c0 : Corr} {w0 : World} {Qc : Exit → Act → World → Prop} (hbase : base = c0.nxt) (hn : ∀ (T : Tm) (H : Heap) (c : Corr) (a : Act) (w : World), K T H → c0.Le c → (∀ k, k < c0.nxt → c.ρ k = c0.ρ k) → Keep c0 w0 w → Sim E c H w → Frm E n c T a → Qc .normal a w) :
    ∀ (fuel : Nat) (rem : List Nat) (listed : Array Bool) (T : Tm) (H : Heap) (c : Corr) (a : Act) (w : World), rem.length = fuel → Left ops b listed rem → SeqOK E n ops base l r K rem T H →
      c0.Le c → (∀ k, k < c0.nxt → c.ρ k = c0.ρ k) → (∀ i ∈ rem, c.ρ (base + i) = none ∧ base + i < c.nxt) → Keep c0 w0 w → Sim E c H w → Frm E n c T a → wpAny E.P .any ops Qc fuel listed a w := by
  intro fuel
  induction fuel with
  | zero =>
    intro rem listed T H c a w hl hL hS hle hold _ hk hs hf
    have hr0 : rem = [] := List.eq_nil_of_length_eq_zero hl
    subst hr0
    refine ⟨?_, hn T H c a w hS hle hold hk hs hf⟩
    cases hr : Region.ready .any ops listed with
    | nil => rfl
    | cons i is =>
      have := (ready_mem (ops := ops) (listed := listed) (i := i)).1 (by rw [hr]; simp)
      exact absurd ((hL.mem i).2 ⟨this.1, this.2.1⟩) (by simp)
  | succ fuel ih =>
    intro rem listed T H c a w hl hL hS hle hold hfree hk hs hf
    refine ⟨fun hr => ?_, fun i hi => ?_⟩
    · -- the first that is left is ready
      exfalso
      match rem, hl with
      | h :: rem', _ =>
        obtain ⟨h1, h2⟩ := (hL.mem h).1 (by simp)
        have hmem : h ∈ Region.ready .any ops listed := ready_mem.2 ⟨h1, h2, ops[h], by simp [h1], fun e he hb => by
          have hlt := hsh.edge h ops[h] (by simp [h1]) e he hb
          cases hq : listed.getD e.on false with
          | true => rfl
          | false =>
            have hem : e.on ∈ h :: rem' := (hL.mem e.on).2 ⟨by omega, by rw [getD_any (by rw [hL.size]; omega) true false]; exact hq⟩
            rcases List.mem_cons.1 hem with h3 | h3
            · omega
            · have := (List.pairwise_cons.1 hL.sorted).1 _ h3; omega⟩
        rw [hr] at hmem
        simp at hmem
    · obtain ⟨h1, h2, o, ho, hpre⟩ := ready_mem.1 hi
      have him : i ∈ rem := (hL.mem i).2 ⟨h1, h2⟩
      obtain ⟨pre, post, rfl⟩ := List.append_of_mem him
      have hyl : i < l.length := by rw [hsh.len]; exact h1
      have hy : l[i]? = some l[i] := List.getElem?_eq_getElem hyl
      have hsorted := hL.sorted
      rw [List.pairwise_append] at hsorted
      have hprelt : ∀ p ∈ pre, p < i := fun p hp => hsorted.2.2 p hp i (by simp)
      have hunlisted : ∀ p ∈ pre, listed.getD p true = false ∧ p < ops.size := fun p hp => by
        have := (hL.mem p).1 (by simp [hp]); exact ⟨this.2, this.1⟩
      have hnotbef : ∀ p ∈ pre, p ∉ b.getD i [] := by
        intro p hp hm
        rw [hsh.bef i o ho] at hm
        obtain ⟨e, he, hme⟩ := List.mem_flatMap.1 hm
        obtain ⟨he1, he2⟩ := List.mem_filter.1 he
        have hle' := hpre e he1 he2
        have heon : e.on < ops.size := by have := hsh.edge i o ho e he1 he2; omega
        have hp2 := hunlisted p hp
        have hpf : listed.getD p false = false := by rw [getD_any (by rw [hL.size]; exact hp2.2) false true]; exact hp2.1
        rcases List.mem_cons.1 hme with h3 | h3
        · rw [← h3, hpf] at hle'; cases hle'
        · have := hL.closed e.on heon (by rw [getD_any (by rw [hL.size]; exact heon) true false]; exact hle') p h3
          rw [hpf] at this; cases this
      obtain ⟨k1, k2, k3⟩ := front hy pre post T H (fun p hp x hx => hind p i x l[i] (hprelt p hp) (hnotbef p hp) hx hy) hS
      obtain ⟨hf1, hf2⟩ := hfree i (by simp)
      refine k1 c a w T H hs hf (fun _ _ => rfl) k2 hf1 hf2 _ Qc (fun a' w' c' hx hs' hf' => ?_)
      have hnd : i ∉ pre ∧ i ∉ post := by
        refine ⟨fun h => by have := hprelt i h; omega, fun h => ?_⟩
        have := (List.pairwise_cons.1 hsorted.2.1).1 i h; omega
      have hget : ∀ j d, (listed.setIfInBounds i true).getD j d = if j = i then true else listed.getD j d := by
        intro j d
        simp only [Array.getD_eq_getD_getElem?, Array.getElem?_setIfInBounds]
        by_cases e : j = i
        · subst e; simp [hL.size, h1]
        · rw [if_neg (fun h => e h.symm), if_neg e]
      refine ih (pre ++ post) (listed.setIfInBounds i true) _ _ c' a' w' (by simp at hl ⊢; omega) ⟨by simp [hL.size], fun j => ?_, ?_, ?_⟩ k3 (hle.trans hx.le) (fun k hkn => ?_) (fun j hj => ?_) (hk.trans hle hx.keep) hs' hf'
      · rw [hget]
        have := hL.mem j
        by_cases e : j = i
        · subst e; simp [hnd]
        · rw [if_neg e, ← this]; simp [e]
      · rw [List.pairwise_append]
        exact ⟨hsorted.1, (List.pairwise_cons.1 hsorted.2.1).2, fun p hp q hq => hsorted.2.2 p hp q (by simp [hq])⟩
      · intro j hj hlj p hp
        rw [hget] at hlj ⊢
        by_cases e : p = i
        · rw [if_pos e]
        · rw [if_neg e]
          by_cases e2 : j = i
          · subst e2
            rw [hsh.bef j o ho] at hp
            obtain ⟨q, hq, hm⟩ := List.mem_flatMap.1 hp
            obtain ⟨hq1, hq2⟩ := List.mem_filter.1 hq
            have hql := hpre q hq1 hq2
            have hqs : q.on < ops.size := by have := hsh.edge j o ho q hq1 hq2; omega
            rcases List.mem_cons.1 hm with h3 | h3
            · rw [h3]; exact hql
            · exact hL.closed q.on hqs (by rw [getD_any (by rw [hL.size]; exact hqs) true false]; exact hql) p h3
          · rw [if_neg e2] at hlj
            exact hL.closed j hj hlj p hp
      · rw [hx.old k (Nat.lt_of_lt_of_le hkn hle.nxt) (by omega)]
        exact hold k hkn
      · obtain ⟨g1, g2⟩ := hfree j (by rcases List.mem_append.1 hj with h | h <;> simp [h])
        have hji : j ≠ i := fun e => by subst e; rcases List.mem_append.1 hj with h | h; exact hnd.1 h; exact hnd.2 h
        exact ⟨by rw [hx.old _ g2 (by omega)]; exact g1, Nat.lt_of_lt_of_le g2 hx.le.nxt⟩

end
end Go.Abs
/- Regions that draw their order: the rule. -/
namespace Go.Abs

section
variable {E : Env} {Q : AEx → Tm → Heap → Prop} {T : Tm} {H : Heap}

theorem SeqOK.congr {n : Nat} {ops : Array Oper} {base : Nat} {l : List AOper} {r r' : Nat → Eff} {K : Tm → Heap → Prop} : ∀ (is : List Nat) (T : Tm) (H : Heap), (∀ i ∈ is, r i = r' i) → SeqOK E n ops base l r K is T H → SeqOK E n ops base l r' K is T H
  | [], _, _, _, h => h
  | i :: is, T, H, he, ⟨x, hx, h1, h2, h3⟩ => by
    have e := he i (by simp)
    rw [e] at h1 h2 h3
    exact ⟨x, hx, h1, h2, SeqOK.congr is _ _ (fun j hj => he j (by simp [hj])) h3⟩

structure Data (E : Env) (n : Nat) (ops : Array Oper) (base : Nat) (l : List AOper) (ps : List (Nat × Nat)) (K : Tm → Heap → Prop) (acc : List (List Nat × List Nat)) (i m : Nat) (T : Tm) (H : Heap) (r : Nat → Eff) (acc' : List (List Nat × List Nat)) : Prop where
  seq : SeqOK E n ops base l r K (List.range' i m) T H
  len : acc'.length = i + m
  pre : ∀ j, j < i → acc'[j]? = acc[j]?
  keys : ∀ j, i ≤ j → j < i + m → acc'[j]? = some (keysOf (r j))
  dis : disj acc' ps
  mem : ∀ j, i ≤ j → j < i + m → ∀ x, l[j]? = some x → (x.op.mem = 0 → (r j).2.1 = [] ∧ (r j).2.2 = []) ∧ (x.op.mem = 1 → (r j).2.2 = [])

theorem wanted_none {n : Nat} {ops : Array Oper} {o : Oper} {x : AOper} (hc : cOper E n ops o = some x) (hg : x.guard = none) : Wants ops n E x o T := by
  intro c a T' hf hr
  obtain ⟨_, _, _, h | ⟨j, want, d, h1, h2, h3⟩⟩ := cOper_inv hc
  · simp [Region.wanted, h.1]
  · rw [hg] at h3; cases h3

theorem wanted_some {n : Nat} {ops : Array Oper} {o : Oper} {x : AOper} (hc : cOper E n ops o = some x) {g : Nat} {want : Bool} (hg : x.guard = some (g, want)) (hT : T g = .bool want) : Wants ops n E x o T := by
  intro c a T' hf hr
  have hgT := reads_guard hr hg
  obtain ⟨_, _, _, h | ⟨j, want', d, h1, h2, h3⟩⟩ := cOper_inv hc
  · rw [hg] at h; cases h.2
  · rw [hg] at h3
    simp only [Option.some.injEq, Prod.mk.injEq] at h3
    obtain ⟨rfl, rfl⟩ := h3
    have hy := yielded_bool hf h2 (hgT.trans hT)
    simp [Region.wanted, h1, hy]

theorem unwanted {n : Nat} {ops : Array Oper} {o : Oper} {x : AOper} (hc : cOper E n ops o = some x) {g : Nat} {want : Bool} (hg : x.guard = some (g, want)) (hT : T g = .tup [] ∨ T g = .bool (!want)) :
    ∀ (c : Corr) (a : Act) (T' : Tm), Frm E n c T' a → (∀ s ∈ x.reads, T' s = T s) → Region.wanted o (yielded ops a.tmps) = false := by
  intro c a T' hf hr
  have hgT := reads_guard hr hg
  obtain ⟨_, _, _, h | ⟨j, want', d, h1, h2, h3⟩⟩ := cOper_inv hc
  · rw [hg] at h; cases h.2
  · rw [hg] at h3
    simp only [Option.some.injEq, Prod.mk.injEq] at h3
    obtain ⟨rfl, rfl⟩ := h3
    rcases hT with hT | hT
    · have hy := yielded_none hf h2 (hgT.trans hT)
      simp [Region.wanted, h1, hy]
    · have hy := yielded_bool hf h2 (hgT.trans hT)
      simp [Region.wanted, h1, hy]

theorem drun_data (hE : E.Good) {n : Nat} {ops : Array Oper} {base : Nat} {l : List AOper} {ps : List (Nat × Nat)} {K : Tm → Heap → Prop} : ∀ (os : List Oper) (xs : List AOper) (i : Nat) (acc : List (List Nat × List Nat)) (T : Tm) (H : Heap),
    (∀ j, os[j]? = ops[i + j]?) → (∀ j, xs[j]? = l[i + j]?) → cOpers E n ops os = some xs → acc.length = i → DRun E base ps K xs acc T H → ∃ r acc', Data E n ops base l ps K acc i os.length T H r acc'
  | [], xs, i, acc, T, H, ho, hx, hc, hl, h => by
    simp only [cOpers, Option.some.injEq] at hc
    subst hc
    obtain ⟨h1, h2⟩ := h
    exact ⟨fun _ => (.undef, [], []), acc, h2, by simp [hl], fun _ _ => rfl, fun j h3 h4 => by simp at h4; omega, h1, fun j h3 h4 => by simp at h4; omega⟩
  | o :: os, xs, i, acc, T, H, ho, hx, hc, hl, h => by
    simp only [cOpers] at hc
    split at hc
    case h_2 => simp at hc
    rename_i x xs' hcx hcxs
    simp only [Option.some.injEq] at hc
    subst hc
    have hoi : ops[i]? = some o := by have := ho 0; simpa using this.symm
    have hxi : l[i]? = some x := by have := hx 0; simpa using this.symm
    -- one step more
    have step : ∀ (rr : Eff), RImpl E n ops base i x T rr → (∀ p ∈ rr.2.1, H p.1 = some p.2) → ((x.op.mem = 0 → rr.2.1 = [] ∧ rr.2.2 = []) ∧ (x.op.mem = 1 → rr.2.2 = [])) →
        DRun E base ps K xs' (acc ++ [keysOf rr]) (T.puto x.dst rr.1) (H.app rr.2.2) → ∃ r acc', Data E n ops base l ps K acc i (os.length + 1) T H r acc' := by
      intro rr h1 h2 h3 h4
      obtain ⟨r, acc', hd⟩ := drun_data hE os xs' (i + 1) (acc ++ [keysOf rr]) _ _ (fun j => by rw [← List.getElem?_cons_succ (a := o), ho (j + 1)]; congr 1; omega) (fun j => by rw [← List.getElem?_cons_succ (a := x), hx (j + 1)]; congr 1; omega) hcxs (by simp [hl]) h4
      have hr' : ∀ j, j ≠ i → (fun j => if j = i then rr else r j) j = r j := fun j hj => by simp [hj]
      refine ⟨fun j => if j = i then rr else r j, acc', ?_, by have := hd.len; omega, fun j hj => ?_, fun j hj1 hj2 => ?_, hd.dis, fun j hj1 hj2 y hy => ?_⟩
      · rw [List.range'_succ]
        refine ⟨x, hxi, by simpa using h1, by simpa using h2, ?_⟩
        have hseq := hd.seq
        simp only [if_true]
        exact SeqOK.congr _ _ _ (fun j hj => (hr' j (by simp at hj; omega)).symm) hseq
      · rw [hd.pre j (by omega), List.getElem?_append, if_pos (by omega)]
      · by_cases e : j = i
        · subst e
          rw [hd.pre j (by omega), List.getElem?_append, if_neg (by omega)]
          simp [hl]
        · rw [if_neg e]; exact hd.keys j (by omega) (by omega)
      · by_cases e : j = i
        · subst e
          rw [hxi] at hy; cases hy
          simpa using h3
        · simp only [if_neg e]; exact hd.mem j (by omega) (by omega) y hy
    have dstep : ∀ {N : AV → List (Nat × Blk) → List (Nat × Option Blk) → Prop}, Wants ops n E x o T → DStep E (base + acc.length) x N T H → (∀ v need give, N v need give → DRun E base ps K xs' (acc ++ [(need.map (·.1), give.map (·.1))]) (T.puto x.dst v) (H.app give)) →
        ∃ r acc', Data E n ops base l ps K acc i (os.length + 1) T H r acc' := by
      intro N hw hD hN
      rw [hl] at hD
      unfold DStep at hD
      split at hD
      · rename_i f args hop
        obtain ⟨g, caps, v, need, give, h1, h2, h3, h4⟩ := hD
        exact step (v, need, give) (rimpl_call hE hoi hcx hw hop h1 h2) h3 (by rw [hop]; simp [AOp.mem]) (hN v need give h4)
      · rename_i op hop
        obtain ⟨v, need, give, h1, h2⟩ := hD
        refine step (v, need, give) (rimpl_op hE hoi hcx hw h1) ?_ (aop_mem h1) (hN v need give h2)
        exact aop_need h1
    have dskip : (∀ (c : Corr) (a : Act) (T' : Tm), Frm E n c T' a → (∀ s ∈ x.reads, T' s = T s) → Region.wanted o (yielded ops a.tmps) = false) → DRun E base ps K xs' (acc ++ [([], [])]) (T.puto x.dst (.tup [])) H →
        ∃ r acc', Data E n ops base l ps K acc i (os.length + 1) T H r acc' :=
      fun hw hD => step (.tup [], [], []) (rimpl_skip hoi hcx hw) (by simp) (by simp) hD
    simp only [DRun] at h
    rw [List.length_cons]
    split at h
    · rename_i hg
      exact dstep (wanted_none hcx hg) h (fun v need give h => h)
    · rename_i g want hg
      rcases h with ⟨h1, h2⟩ | ⟨b, h1, h2, h3⟩
      · exact dskip (unwanted hcx hg (.inl h1)) h2
      · by_cases hb : b = want
        · subst hb
          exact dstep (wanted_some hcx hg h1) (h2 rfl) (fun v need give h => h)
        · have hb' : b = !want := by cases b <;> cases want <;> simp_all
          exact dskip (unwanted hcx hg (.inr (by rw [h1, hb']))) (h3 hb')

theorem disj_mem {acc : List (List Nat × List Nat)} : ∀ {ps : List (Nat × Nat)}, disj acc ps → ∀ p ∈ ps, ∀ x y, acc[p.1]? = some x → acc[p.2]? = some y → keysDisj x y
  | [], _, p, hp, _, _, _, _ => by simp at hp
  | (i, j) :: ps, ⟨h1, h2⟩, p, hp, x, y, hx, hy => by
    rcases List.mem_cons.1 hp with e | e
    · subst e
      simp only at hx hy
      rw [hx, hy] at h1
      exact h1
    · exact disj_mem h2 p e x y hx hy

theorem keysDisj_nil (x : List Nat × List Nat) : keysDisj ([], []) x ∧ keysDisj x ([], []) := ⟨⟨by simp, by simp⟩, ⟨by simp, by simp⟩⟩

theorem cOpers_len {n : Nat} {ops : Array Oper} : ∀ {os : List Oper} {xs : List AOper}, cOpers E n ops os = some xs → xs.length = os.length
  | [], xs, h => by simp [cOpers] at h; subst h; rfl
  | o :: os, xs, h => by
    simp only [cOpers] at h
    split at h
    · rename_i x xs' _ hx
      simp only [Option.some.injEq] at h; subst h
      simp [cOpers_len hx]
    · simp at h

theorem awp_draw (hE : E.Good) {l : List AOper} {ps : List (Nat × Nat)} (h : ∀ base, (∀ k b, H k = some b → k < base) → DRun E base ps (Q .normal) l [] T H) : AWP E (.draw l ps) Q T H := by
  intro n code hc c a w hs hf
  obtain ⟨id, ops, rfl, hd⟩ := compC_inv hc
  unfold cDraw at hd
  split at hd
  case h_2 => simp at hd
  rename_i l' hl
  split at hd
  case isFalse => simp at hd
  rename_i hok
  simp only [Option.some.injEq, ACode.draw.injEq] at hd
  obtain ⟨rfl, rfl⟩ := hd
  rw [Bool.and_eq_true] at hok
  obtain ⟨hslots, hedges⟩ := hok
  have hlen : l'.length = ops.size := by rw [cOpers_len hl]; simp
  have hedge : ∀ (i : Nat) (o : Oper), ops[i]? = some o → ∀ e ∈ o.after.toList, Region.binds .any e = true → e.on < i := by
    intro i o ho e he hb
    have hi : i < ops.size := (Array.getElem?_eq_some_iff.1 ho).1
    have h1 := List.all_eq_true.1 hedges i (by simp [hi])
    have ho' : ops.toList[i]? = some o := by simpa using ho
    rw [ho'] at h1
    have h2 := List.all_eq_true.1 h1 e he
    rw [hb] at h2
    simpa using h2
  have hshape : Shape ops l' (befs ops.toList []) := ⟨hlen, fun i o ho => by
    have := befs_get ops.toList [] i o (by simpa using ho) (fun j q hq e he hb => by simpa using hedge j q (by simpa using hq) e he hb)
    simpa using this, hedge⟩
  -- the ids of what the region makes are set apart
  have hs1 : Sim E { c with nxt := c.nxt + ops.size } H { w with drawn := w.drawn + 1 } := by
    have h0 := hs.drew (w.drawn + 1)
    have hle0 : c.Le { c with nxt := c.nxt + ops.size } := ⟨fun _ _ h => h, fun _ _ _ h => h, fun _ h => h, by simp⟩
    have up : ∀ {x : AV} {v : Value}, VR E c x v → VR E { c with nxt := c.nxt + ops.size } x v := fun h => h.mono hle0
    exact ⟨h0.mem, h0.lt, fun k hk => h0.top k (by simp at hk; omega), h0.loc, fun id es b nc sz h1 h2 => by
      obtain ⟨k1, cells, t, k2, k3, k4⟩ := h0.live id es b nc sz h1 h2
      exact ⟨k1, cells, t, k2, k3, fun i cs j x hi hj => by
        obtain ⟨v, g1, g2, g3⟩ := k4 i cs j x hi hj
        exact ⟨v, g1, up g2, g3⟩⟩, h0.inj, fun g av hg => up (h0.glob g av hg)⟩
  have hle1 : c.Le { c with nxt := c.nxt + ops.size } := ⟨fun _ _ h => h, fun _ _ _ h => h, fun _ h => h, by simp⟩
  have hD := h c.nxt (fun k b hk => by
    obtain ⟨lc, hlc, _⟩ := hs.loc k b hk
    rcases Nat.lt_or_ge k c.nxt with h5 | h5
    · exact h5
    · rw [hs.top k h5] at hlc; cases hlc)
  obtain ⟨r, acc', hdata⟩ := drun_data (ops := ops) (l := l') (ps := pairsOf l' (befs ops.toList [])) (K := Q .normal) hE ops.toList l' 0 [] T H (fun j => by simp) (fun j => by simp) hl rfl hD
  have hsz : ops.toList.length = ops.size := by simp
  refine wp_region_any hE.mixed ?_
  refine any_sound (b := befs ops.toList []) (r := r) (base := c.nxt) (c0 := c) (w0 := w) hshape (fun p i x y hpi hpn hx hy => ?_) rfl (fun T' H' c' a' w' hK hle hold hk hs' hf' => ?_) ops.size (List.range' 0 ops.size) (Array.replicate ops.size false) T H { c with nxt := c.nxt + ops.size } a _ (by simp) ?_ (by have := hdata.seq; rwa [hsz] at this) hle1 (fun _ _ => rfl) (fun i hi => ?_) (Keep.drew c w _) hs1 (hf.mono hle1)
  · have hil : i < l'.length := (List.getElem?_eq_some_iff.1 hy).1
    refine ⟨?_, ?_⟩
    · have h1 := List.all_eq_true.1 (List.all_eq_true.1 hslots i (by simp [hil])) p (by simp [hpi])
      rw [hx, hy] at h1
      simp only [Bool.or_eq_true] at h1
      rcases h1 with h1 | h1
      · exact absurd (by simpa using h1) hpn
      · exact h1
    · by_cases hm : memConf x y = true
      · have hmem : (p, i) ∈ pairsOf l' (befs ops.toList []) := by
          unfold pairsOf
          refine List.mem_flatMap.2 ⟨i, by simp [hil], List.mem_map.2 ⟨p, List.mem_filter.2 ⟨by simp [hpi], ?_⟩, rfl⟩⟩
          rw [hx, hy]
          simp only [hm, Bool.and_true, Bool.not_eq_true']
          simpa using hpn
        exact disj_mem hdata.dis (p, i) hmem _ _ (hdata.keys p (by omega) (by omega)) (hdata.keys i (by omega) (by omega))
      · have hmx := hdata.mem p (by omega) (by omega) x hx
        have hmy := hdata.mem i (by omega) (by omega) y hy
        have hcase : x.op.mem = 0 ∨ y.op.mem = 0 ∨ (x.op.mem = 1 ∧ y.op.mem = 1) := by
          have hm : ¬ ((x.op.mem != 0 && y.op.mem != 0 && !(x.op.mem == 1 && y.op.mem == 1)) = true) := fun e => hm (by simp only [memConf, e, Bool.or_true])
          simp only [Bool.and_eq_true, bne_iff_ne, ne_eq, Bool.not_eq_true', Bool.and_eq_false_iff, beq_eq_false_iff_ne] at hm
          by_cases h1 : x.op.mem = 0
          · exact .inl h1
          · by_cases h2 : y.op.mem = 0
            · exact .inr (.inl h2)
            · refine .inr (.inr ?_)
              by_cases h3 : x.op.mem = 1
              · by_cases h4 : y.op.mem = 1
                · exact ⟨h3, h4⟩
                · exact absurd ⟨⟨h1, h2⟩, .inr h4⟩ hm
              · exact absurd ⟨⟨h1, h2⟩, .inl h3⟩ hm
        rcases hcase with h0 | h0 | ⟨h0, h1⟩
        · obtain ⟨e1, e2⟩ := hmx.1 h0
          have : keysOf (r p) = ([], []) := by simp [keysOf, e1, e2]
          rw [this]; exact (keysDisj_nil _).1
        · obtain ⟨e1, e2⟩ := hmy.1 h0
          have : keysOf (r i) = ([], []) := by simp [keysOf, e1, e2]
          rw [this]; exact (keysDisj_nil _).2
        · have e1 := hmx.2 h0
          have e2 := hmy.2 h1
          exact ⟨by simp [keysOf, e1], by simp [keysOf, e2]⟩
  · exact ⟨T', H', c', hK, ⟨hle, hold, hk⟩, hs', hf'⟩
  · refine ⟨by simp, fun i => ?_, List.pairwise_lt_range', fun i hi hli => ?_⟩
    · simp only [Array.getD_eq_getD_getElem?, Array.getElem?_replicate, List.mem_range'_1]
      constructor
      · intro h1
        have h2 : i < ops.size := by omega
        exact ⟨h2, by rw [if_pos h2]; rfl⟩
      · intro h1
        exact ⟨Nat.zero_le _, by omega⟩
    · simp only [Array.getD_eq_getD_getElem?, Array.getElem?_replicate, if_pos hi] at hli
      simp at hli
  · simp at hi
    exact ⟨hs.top _ (by omega), by simp; omega⟩

end
end Go.Abs
/- A block goes over into what is never written again. -/
namespace Go.Abs

def frz1 (id : Nat) (es : Blk) : AV → AV
  | .sl sz i off len => if i = id ∧ off + len ≤ es.length then .ro sz ((es.drop off).take len) else .sl sz i off len
  | .ptr i k off => if i = id then .rp ((es.getD k []).drop off) else .ptr i k off
  | x => x

def frz0 (id : Nat) (es : Blk) : AV → AV
  | .agg cs => .agg (cs.map (frz1 id es))
  | x => frz1 id es x

def frz (id : Nat) (es : Blk) : AV → AV
  | .tup cs => .tup (cs.map (frz0 id es))
  | x => frz0 id es x

section
variable {E : Env} {Q : AEx → Tm → Heap → Prop} {T : Tm} {H : Heap}

structure Frozen (E : Env) (c c' : Corr) (H : Heap) (w : World) (id : Nat) (es : Blk) : Prop where
  le : c.Le c'
  ρ : ∀ k, c'.ρ k = c.ρ k
  sim : Sim E c' (H.set id none) w
  val1 : ∀ x v, VR E c x v → VR E c' (frz1 id es x) v

theorem set_none_le (H : Heap) (id : Nat) : (H.set id none).Le H := fun k => by
  by_cases e : k = id
  · subst e; exact .inl (Heap.set_same _ _ _)
  · exact .inr (Heap.set_ne _ _ _ _ e)

theorem Sim.freeze {c : Corr} {w : World} (hs : Sim E c H w) {id : Nat} {es : Blk} (hid : H id = some es) : ∃ c', Frozen E c c' H w id es := by
  obtain ⟨l, hl, hsz, hvirt⟩ := hs.loc id es hid
  obtain ⟨ob, sz⟩ := l
  cases ob with
  | none =>
    have hes : es = [] := hvirt rfl
    subst hes
    refine ⟨c, .refl c, fun _ => rfl, hs.weaken (set_none_le H id), fun x v h => ?_⟩
    cases h with
    | sl h1 h2 h3 =>
      rename_i sz' i off len cap b nc
      simp only [frz1]
      by_cases e : i = id
      · subst e; rw [hl] at h1; cases h1
      · rw [if_neg (fun h => e h.1)]; exact .sl h1 h2 h3
    | slz h1 h2 =>
      simp only [frz1]
      split
      · exact .ro (fun _ _ => .bool true) (by simp) (by simp) (by simp) (by simp)
      · exact .slz h1 h2
    | slv h1 =>
      simp only [frz1]
      split
      · exact .ro0 _
      · exact .slv h1
    | ptr h1 =>
      rename_i i k off b nc sz'
      simp only [frz1]
      by_cases e : i = id
      · subst e; rw [hl] at h1; cases h1
      · rw [if_neg e]; exact .ptr h1
    | int k n => exact .int k n
    | bool b => exact .bool b
    | str s => exact .str s
    | rp vs h1 h2 => exact .rp vs h1 h2
    | nilp => exact .nilp
    | ro vs h1 h2 h3 h4 => exact .ro vs h1 h2 h3 h4
    | ro0 s => exact .ro0 s
    | roz s a => exact .roz s a
    | nilsl => exact .nilsl
    | fn h1 h2 h3 => exact .fn h1 h2 h3
    | nilfn => exact .nilfn
    | agg h1 h2 h3 => exact .agg h1 h2 h3
    | tup h1 h2 => exact .tup h1 h2
    | undef v => exact .undef v
  | some bn =>
    obtain ⟨b, nc⟩ := bn
    obtain ⟨hnf, cells, ty, hb, hnc, hrow⟩ := hs.live id es b nc sz hid hl
    let c' : Corr := { c with mem := fun k o => if k = b then w.cell? ⟨b, o, none⟩ else c.mem k o, frz := fun k => k = b ∨ c.frz k }
    have hmem0 : ∀ k o v, c.mem k o = some v → k ≠ b := fun k o v h e => hnf (e ▸ (hs.mem k o v h).2)
    have hle : c.Le c' := ⟨fun _ _ h => h, fun k o v h => by
      show (if k = b then _ else _) = _
      rw [if_neg (hmem0 k o v h)]; exact h, fun _ h => .inr h, Nat.le_refl _⟩
    have hblt : b < w.heap.size := (Array.getElem?_eq_some_iff.1 hb).1
    -- the cells of its rows, as they now are told
    have hcell : ∀ (i : Nat) (cs : List AV) (j : Nat) (x : AV), es[i]? = some cs → cs[j]? = some x → ∃ v, c'.mem b (i * sz + j) = some v ∧ VR E c' x v ∧ v.oneCell' = true := fun i cs j x hi hj => by
      obtain ⟨v, h1, h2, h3⟩ := hs.cell hid hl hi hj
      exact ⟨v, by show (if b = b then _ else _) = _; rw [if_pos rfl]; exact h1, h2.mono hle, h3⟩
    have hvs : ∃ vs : Nat → Nat → Value, ∀ (i : Nat) (cs : List AV) (j : Nat) (x : AV), es[i]? = some cs → cs[j]? = some x → c'.mem b (i * sz + j) = some (vs i j) ∧ VR E c' x (vs i j) ∧ (vs i j).oneCell' = true := by
      refine ⟨fun i j => (c'.mem b (i * sz + j)).getD (.bool true), fun i cs j x hi hj => ?_⟩
      obtain ⟨v, h1, h2, h3⟩ := hcell i cs j x hi hj
      simp only [h1, Option.getD_some]
      exact ⟨trivial, h2, h3⟩
    obtain ⟨vs, hvs⟩ := hvs
    refine ⟨c', hle, fun _ => rfl, ?_, fun x v h => ?_⟩
    · have hw := hs.weaken (set_none_le H id)
      refine ⟨fun k o v h => ?_, fun k h => ?_, hw.top, hw.loc, fun k es' b' nc' sz' hk hr => ?_, hw.inj, fun g av hg => (hs.glob g av hg).mono hle⟩
      · have h' : (if k = b then w.cell? ⟨b, o, none⟩ else c.mem k o) = some v := h
        by_cases e : k = b
        · subst e; rw [if_pos rfl] at h'; exact ⟨h', .inl rfl⟩
        · rw [if_neg e] at h'; exact ⟨(hs.mem k o v h').1, .inr (hs.mem k o v h').2⟩
      · rcases h with h | h
        · rw [h]; exact hblt
        · exact hs.lt k h
      · have hk' : k ≠ id ∧ H k = some es' := by
          by_cases e : k = id
          · subst e; rw [Heap.set_same] at hk; cases hk
          · rw [Heap.set_ne _ _ _ _ e] at hk; exact ⟨e, hk⟩
        obtain ⟨h1, cells', t', h2, h3, h4⟩ := hs.live k es' b' nc' sz' hk'.2 hr
        refine ⟨fun hf => ?_, cells', t', h2, h3, fun i cs j x hi hj => ?_⟩
        · rcases hf with hf | hf
          · exact hk'.1 (hs.inj k id es' es b' nc' sz' nc sz hk'.2 hid hr (hf ▸ hl))
          · exact h1 hf
        · obtain ⟨v, g1, g2, g3⟩ := h4 i cs j x hi hj
          exact ⟨v, g1, g2.mono hle, g3⟩
    · have hm := h.mono hle
      cases h with
      | sl h1 h2 h3 =>
        rename_i sz' i off len cap b' nc'
        simp only [frz1]
        split
        · rename_i hc
          obtain ⟨rfl, hc⟩ := hc
          rw [hl] at h1
          simp only [Option.some.injEq, Loc.mk.injEq, Prod.mk.injEq] at h1
          obtain ⟨⟨rfl, rfl⟩, rfl⟩ := h1
          have hlen : ((es.drop off).take len).length = len := by simp; omega
          have get : ∀ {i cs}, ((es.drop off).take len)[i]? = some cs → es[off + i]? = some cs := fun {i cs} hi => by
            rw [List.getElem?_take] at hi
            split at hi
            · rwa [List.getElem?_drop] at hi
            · simp at hi
          have := VR.ro (E := E) (c := c') (sz := sz) (es := (es.drop off).take len) (b := b) (o := off * sz) (cap := cap) (fun i j => vs (off + i) j) (by omega) (fun i cs hi => hsz cs (List.mem_of_getElem? (get hi)))
            (fun i cs j x hi hj => by
              obtain ⟨g1, _, g3⟩ := hvs (off + i) cs j x (get hi) hj
              rw [Nat.add_mul] at g1
              exact ⟨g1, g3⟩) (fun i cs j x hi hj => (hvs (off + i) cs j x (get hi) hj).2.1)
          rw [hlen] at this
          exact this
        · exact hm
      | slz h1 h2 =>
        simp only [frz1]
        split
        · exact .ro (fun _ _ => .bool true) (by simp) (by simp) (by simp) (by simp)
        · exact hm
      | slv h1 =>
        simp only [frz1]
        split
        · exact .ro0 _
        · exact hm
      | ptr h1 =>
        rename_i i k off b' nc' sz'
        simp only [frz1]
        split
        · rename_i e; subst e
          rw [hl] at h1
          simp only [Option.some.injEq, Loc.mk.injEq, Prod.mk.injEq] at h1
          obtain ⟨⟨rfl, rfl⟩, rfl⟩ := h1
          refine .rp (fun j => vs k (off + j)) (fun j x hj => ?_) (fun j x hj => ?_)
          · rw [List.getElem?_drop] at hj
            cases hk : es[k]? with
            | none => simp [hk] at hj
            | some cs =>
              obtain ⟨g1, _, g3⟩ := hvs k cs (off + j) x hk (by simpa [hk] using hj)
              rw [← Nat.add_assoc] at g1
              exact ⟨g1, g3⟩
          · rw [List.getElem?_drop] at hj
            cases hk : es[k]? with
            | none => simp [hk] at hj
            | some cs => exact (hvs k cs (off + j) x hk (by simpa [hk] using hj)).2.1
        · exact hm
      | int k n => exact .int k n
      | bool b => exact .bool b
      | str s => exact .str s
      | rp vs h1 h2 => exact hm
      | nilp => exact .nilp
      | ro vs h1 h2 h3 h4 => exact hm
      | ro0 s => exact .ro0 s
      | roz s a => exact .roz s a
      | nilsl => exact .nilsl
      | fn h1 h2 h3 => exact hm
      | nilfn => exact .nilfn
      | agg h1 h2 h3 => exact hm
      | tup h1 h2 => exact hm
      | undef v => exact .undef v

theorem Frozen.val0 {c c' : Corr} {w : World} {id : Nat} {es : Blk} (h : Frozen E c c' H w id es) {x : AV} {v : Value} (hv : VR E c x v) : VR E c' (frz0 id es x) v := by
  cases hv with
  | agg h1 h2 h3 =>
    refine .agg (by simpa using h1) h2 (fun j x v hj hv => ?_)
    rw [List.getElem?_map, Option.map_eq_some_iff] at hj
    obtain ⟨y, hy, rfl⟩ := hj
    exact h.val1 _ _ (h3 j y v hy hv)
  | tup h1 h3 => exact h.val1 _ _ (.tup h1 h3)
  | int k n => exact h.val1 _ _ (.int k n)
  | bool b => exact h.val1 _ _ (.bool b)
  | str s => exact h.val1 _ _ (.str s)
  | ptr h1 => exact h.val1 _ _ (.ptr h1)
  | rp vs h1 h2 => exact h.val1 _ _ (.rp vs h1 h2)
  | nilp => exact h.val1 _ _ .nilp
  | sl h1 h2 h3 => exact h.val1 _ _ (.sl h1 h2 h3)
  | slz h1 h2 => exact h.val1 _ _ (.slz h1 h2)
  | slv h1 => exact h.val1 _ _ (.slv h1)
  | ro vs h1 h2 h3 h4 => exact h.val1 _ _ (.ro vs h1 h2 h3 h4)
  | ro0 s => exact h.val1 _ _ (.ro0 s)
  | roz s a => exact h.val1 _ _ (.roz s a)
  | nilsl => exact h.val1 _ _ .nilsl
  | fn h1 h2 h3 => exact h.val1 _ _ (.fn h1 h2 h3)
  | nilfn => exact h.val1 _ _ .nilfn
  | undef v => exact h.val1 _ _ (.undef v)
theorem Frozen.val {c c' : Corr} {w : World} {id : Nat} {es : Blk} (h : Frozen E c c' H w id es) {x : AV} {v : Value} (hv : VR E c x v) : VR E c' (frz id es x) v := by
  cases hv with
  | tup h1 h3 =>
    refine .tup (by simpa using h1) (fun j x v hj hv => ?_)
    rw [List.getElem?_map, Option.map_eq_some_iff] at hj
    obtain ⟨y, hy, rfl⟩ := hj
    exact h.val0 (h3 j y v hy hv)
  | agg h1 h2 h3 => exact h.val0 (.agg h1 h2 h3)
  | int k n => exact h.val1 _ _ (.int k n)
  | bool b => exact h.val1 _ _ (.bool b)
  | str s => exact h.val1 _ _ (.str s)
  | ptr h1 => exact h.val1 _ _ (.ptr h1)
  | rp vs h1 h2 => exact h.val1 _ _ (.rp vs h1 h2)
  | nilp => exact h.val1 _ _ .nilp
  | sl h1 h2 h3 => exact h.val1 _ _ (.sl h1 h2 h3)
  | slz h1 h2 => exact h.val1 _ _ (.slz h1 h2)
  | slv h1 => exact h.val1 _ _ (.slv h1)
  | ro vs h1 h2 h3 h4 => exact h.val1 _ _ (.ro vs h1 h2 h3 h4)
  | ro0 s => exact h.val1 _ _ (.ro0 s)
  | roz s a => exact h.val1 _ _ (.roz s a)
  | nilsl => exact h.val1 _ _ .nilsl
  | fn h1 h2 h3 => exact h.val1 _ _ (.fn h1 h2 h3)
  | nilfn => exact h.val1 _ _ .nilfn
  | undef v => exact h.val1 _ _ (.undef v)

/-- The cells of a live block may be told anew, too. -/
theorem Sim.retell {c c' : Corr} {w : World} {id : Nat} {es : Blk} (h : Frozen E c c' H w id es) {k : Nat} {b : Blk} (hb : H k = some b) {H1 : Heap} (hH1 : Sim E c' H1 w) (hk1 : H1 k = some b) (hs0 : Sim E c H w) :
    Sim E c' (H1.set k (some (b.map fun cs => cs.map (frz1 id es)))) w := by
  have back : ∀ {j e}, (H1.set k (some (b.map fun cs => cs.map (frz1 id es)))) j = some e → (j = k ∧ e = b.map fun cs => cs.map (frz1 id es)) ∨ (j ≠ k ∧ H1 j = some e) := fun {j e} hj => by
    by_cases ej : j = k
    · subst ej; rw [Heap.set_same] at hj; cases hj; exact .inl ⟨rfl, rfl⟩
    · rw [Heap.set_ne _ _ _ _ ej] at hj; exact .inr ⟨ej, hj⟩
  have some_of : ∀ {j e}, (H1.set k (some (b.map fun cs => cs.map (frz1 id es)))) j = some e → ∃ e', H1 j = some e' := fun {j e} hj => by
    rcases back hj with ⟨rfl, _⟩ | ⟨_, h2⟩
    · exact ⟨b, hk1⟩
    · exact ⟨e, h2⟩
  refine ⟨hH1.mem, hH1.lt, hH1.top, fun j e hj => ?_, fun j e bb nc sz hj hr => ?_, fun j j' e e' bb nc sz nc' sz' hj hj' h1 h2 => ?_, hH1.glob⟩
  · rcases back hj with ⟨rfl, rfl⟩ | ⟨_, h2⟩
    · obtain ⟨l, h1, h2, h3⟩ := hH1.loc j b hk1
      refine ⟨l, h1, fun cs hcs => ?_, fun hn => by rw [h3 hn]; rfl⟩
      obtain ⟨cs0, hc0, rfl⟩ := List.mem_map.1 hcs
      simpa using h2 cs0 hc0
    · exact hH1.loc j e h2
  · rcases back hj with ⟨rfl, rfl⟩ | ⟨_, h2⟩
    · have hl1 := hH1.live j b bb nc sz hk1 hr
      rw [h.ρ] at hr
      obtain ⟨_, cells, t, k2, k3, k4⟩ := hs0.live j b bb nc sz hb hr
      refine ⟨hl1.nofrz, cells, t, k2, k3, fun i cs q x hi hq => ?_⟩
      rw [List.getElem?_map, Option.map_eq_some_iff] at hi
      obtain ⟨cs0, hi0, rfl⟩ := hi
      rw [List.getElem?_map, Option.map_eq_some_iff] at hq
      obtain ⟨x0, hq0, rfl⟩ := hq
      obtain ⟨v, g1, g2, g3⟩ := k4 i cs0 q x0 hi0 hq0
      exact ⟨v, g1, h.val1 _ _ g2, g3⟩
    · exact hH1.live j e bb nc sz h2 hr
  · obtain ⟨e1, g1⟩ := some_of hj
    obtain ⟨e2, g2⟩ := some_of hj'
    exact hH1.inj j j' e1 e2 bb nc sz nc' sz' g1 g2 h1 h2

theorem Frozen.ext {c c' : Corr} {w : World} {id : Nat} {es : Blk} (h : Frozen E c c' H w id es) : Ext c w c' w := ⟨h.le, fun k _ => h.ρ k, .refl _ _⟩



theorem CPost.from {c c1 : Corr} {w w1 : World} {R : AV → Heap → Prop} (he : Ext c w c1 w1) {e : Ending} {w' : World} (h : CPost E c1 w1 R e w') : CPost E c w R e w' := by
  cases e with
  | returned v =>
    obtain ⟨x, H', c', h1, h2, h3⟩ := h
    exact ⟨x, H', c', h1, he.trans h2, h3⟩
  | panicked ch => exact h
  | outgrown => exact h


theorem ACall.mono {f : Nat} {args : List AV} {R R' : AV → Heap → Prop} (h : ACall E f args H R) (hr : ∀ v H', R v H' → R' v H') : ACall E f args H R' := by
  intro g hg c cargs w hs hargs
  refine (h g hg c cargs w hs hargs).mono (fun e w' hp => ?_)
  cases e with
  | returned v =>
    obtain ⟨x, H', c', h1, h2⟩ := hp
    exact ⟨x, H', c', hr _ _ h1, h2⟩
  | panicked ch => exact hp
  | outgrown => exact hp




end
end Go.Abs
/- The one package-level variable that the code reads, as it is laid: machine.table. -/
namespace Go.Abs

def opRow (s : List UInt8) (form : Int) (ra wa rb mt : Bool) (words : Int) : List AV := [.str ⟨s.toArray⟩, .int .i64 form, .bool ra, .bool wa, .bool rb, .bool mt, .int .i64 words]

def tableRows : List (List AV) := [
  opRow [110, 111, 112] 1 false false false false 1,
  opRow [114, 101, 116] 1 false false false false 1,
  opRow [116, 105, 99, 107] 1 false false false false 1,
  opRow [116, 114, 97, 112] 8 false false false true 1,
  opRow [106, 109, 112] 8 false false false false 1,
  opRow [99, 97, 108, 108] 5 false false false false 1,
  opRow [106, 122] 5 true false false false 1,
  opRow [106, 110, 122] 5 true false false false 1,
  opRow [111, 117, 116] 2 true false false false 1,
  opRow [109, 111, 118] 3 false true true false 1,
  opRow [99, 109, 111, 118, 122] 4 true true true false 1,
  opRow [99, 109, 111, 118, 110, 122] 4 true true true false 1,
  opRow [108, 100, 105] 5 false true false false 1,
  opRow [108, 100, 99] 6 false true false false 3,
  opRow [110, 101, 103] 2 true true false false 1,
  opRow [110, 111, 116] 2 true true false false 1,
  opRow [97, 100, 100] 3 true true true false 1,
  opRow [115, 117, 98] 3 true true true false 1,
  opRow [109, 117, 108] 3 true true true false 1,
  opRow [100, 105, 118] 3 true true true true 1,
  opRow [114, 101, 109] 3 true true true true 1,
  opRow [97, 110, 100] 3 true true true false 1,
  opRow [111, 114] 3 true true true false 1,
  opRow [120, 111, 114] 3 true true true false 1,
  opRow [115, 104, 108] 3 true true true false 1,
  opRow [115, 104, 114] 3 true true true false 1,
  opRow [115, 97, 114] 3 true true true false 1,
  opRow [101, 113] 3 true true true false 1,
  opRow [110, 101] 3 true true true false 1,
  opRow [108, 116] 3 true true true false 1,
  opRow [108, 101] 3 true true true false 1,
  opRow [108, 116, 117] 3 true true true false 1,
  opRow [97, 100, 100, 105] 5 true true false false 1,
  opRow [108, 100] 7 false true true true 1,
  opRow [115, 116] 7 true false true true 1,
  opRow [108, 100, 115] 5 false true false false 1,
  opRow [115, 116, 115] 5 true false false false 1]

def tableAV : AV := .rp [.ro 7 tableRows]

end Go.Abs
/- The rules in the form in which proofs walk: what follows stands behind a letter. -/
namespace Go.Abs

section
variable {E : Env} {Q : AEx → Tm → Heap → Prop} {T : Tm} {H : Heap}



/-- A frame that holds just these. -/
def Tm.fr : Nat → List AV → Tm
  | _, [] => fun _ => .undef
  | i, a :: l => (Tm.fr (i + 1) l).put i a







end
end Go.Abs
