/- A part of the proof: W2 -/
import Derived.Test.YtbjglnknddeflaaDoorX4
set_option linter.unusedSimpArgs false
set_option linter.unusedVariables false
/- Abstract code as propositions: what a stretch of code asks, with each word under a name of its own; and that it suffices. -/
namespace Go.Abs

inductive DSegs where
  | nil
  | one (o : AOper) (r : DSegs)
  | frz (d : Nat) (r : DSegs)
  | box (d : Nat) (x : AOpd) (r : DSegs)
  | alst (d : Nat) (z : List AV) (y : AOpd) (r : DSegs)
  | bsl (d sz : Nat) (z : List AV) (ln : Nat) (ps : List (Nat × AOpd)) (r : DSegs)
  | grp (gs : DSegs) (p g : Nat) (want : Bool) (b : Nat) (pg : Option (Nat × Bool)) (r : DSegs)

def DSegs.flat : DSegs → List AOper
  | .nil => []
  | .one o r => o :: r.flat
  | .frz _ r => r.flat
  | .box d x r => ⟨some d, .box x, none⟩ :: r.flat
  | .alst d z y r => ⟨some d, .alloc z, none⟩ :: ⟨none, .st z.length (.t d) y, none⟩ :: r.flat
  | .bsl d sz z ln ps r => ⟨some d, .bsl sz z ln ps, none⟩ :: r.flat
  | .grp gs p g w b pg r => gs.flat ++ ⟨some p, pickOf g w b, pg⟩ :: r.flat

def DSegs.noFrz : DSegs → Bool
  | .nil => true
  | .one _ r => r.noFrz
  | .frz .. => false
  | .box .. => false
  | .alst .. => false
  | .bsl .. => false
  | .grp gs _ _ _ _ _ r => gs.noFrz && r.noFrz

inductive DCode where
  | skip
  | ops (l : DSegs)
  | draw (l : List AOper) (ps : List (Nat × Nat))
  | drawq (l : DSegs) (ps : List (Nat × Nat))
  | drawb (m : Nat) (l : List AOper) (ps : List (Nat × Nat))
  | frz (d : Nat) (a : DCode)
  | seq (a b : DCode)
  | cond (x : AOpd) (a b : DCode)
  | block (id : Nat) (a : DCode)
  | loop (ss : List Nat) (a : DCode)
  | exit (id : Nat)
  | ret
  | mark (ss : List Nat) (a : DCode)

def DCode.strip : DCode → ACode
  | .skip => .skip
  | .ops l => .ops l.flat
  | .draw l ps => .draw l ps
  | .drawq l ps => .draw l.flat ps
  | .drawb _ l ps => .draw l ps
  | .frz _ a => a.strip
  | .seq a b => .seq a.strip b.strip
  | .cond x a b => .cond x a.strip b.strip
  | .block id a => .block id a.strip
  | .loop _ a => .loop a.strip
  | .exit id => .exit id
  | .ret => .ret
  | .mark _ a => a.strip

/-! ### Operations over values -/
def AOpd.cl (T : Tm) (x : AOpd) : AOpd := .c (x.ev T)

def AOp.sub (T : Tm) : AOp → AOp
  | .mov x => .mov (x.cl T)
  | .pick c a b => .pick (c.cl T) (a.cl T) (b.cl T)
  | .alloc z => .alloc z
  | .box x => .box (x.cl T)
  | .build z ps => .build z (ps.map fun p => (p.1, p.2.1, p.2.2.cl T))
  | .bsl sz z ln ps => .bsl sz z ln (ps.map fun p => (p.1, p.2.cl T))
  | .ld x => .ld (x.cl T)
  | .lda n x => .lda n (x.cl T)
  | .st n x y => .st n (x.cl T) (y.cl T)
  | .nilck x => .nilck (x.cl T)
  | .bin op x y => .bin op (x.cl T) (y.cl T)
  | .eqb n x y => .eqb n (x.cl T) (y.cl T)
  | .eqp n x y => .eqp n (x.cl T) (y.cl T)
  | .eqv n ks x y => .eqv n ks (x.cl T) (y.cl T)
  | .un op x => .un op (x.cl T)
  | .conv k x => .conv k (x.cl T)
  | .mkfn f cs => .mkfn f (cs.map (AOpd.cl T))
  | .mksl s b z n m => .mksl s b z (n.cl T) (m.cl T)
  | .slice sz x lo hi => .slice sz (x.cl T) (lo.map (AOpd.cl T)) (hi.map (AOpd.cl T))
  | .fad o x => .fad o (x.cl T)
  | .fld o x => .fld o (x.cl T)
  | .flda o n x => .flda o n (x.cl T)
  | .iad sz x i => .iad sz (x.cl T) (i.cl T)
  | .iadA n sz x i => .iadA n sz (x.cl T) (i.cl T)
  | .ext x i => .ext (x.cl T) i
  | .len x => .len (x.cl T)
  | .lenc n => .lenc n
  | .app sz x y => .app sz (x.cl T) (y.cl T)
  | .cpy sz x y => .cpy sz (x.cl T) (y.cl T)
  | .mn x y => .mn (x.cl T) (y.cl T)
  | .mx x y => .mx (x.cl T) (y.cl T)
  | .call f as => .call (f.cl T) (as.map (AOpd.cl T))

theorem cl_ev (T T' : Tm) (x : AOpd) : (x.cl T).ev T' = x.ev T := rfl
theorem cl_ev' (T T' : Tm) : (AOpd.ev T' ∘ AOpd.cl T) = AOpd.ev T := rfl

theorem aop_sub (new : Nat) (T : Tm) (H : Heap) (op : AOp) : aop new Tm.none H (op.sub T) = aop new T H op := by
  cases op with
  | build z ps => simp only [aop, AOp.sub, List.all_map, List.map_map, Function.comp_def, cl_ev]
  | bsl sz z len ps => simp only [aop, AOp.sub, List.all_map, List.foldl_map, Function.comp_def, cl_ev]
  | mkfn f cs => simp only [aop, AOp.sub, List.map_map, cl_ev']
  | slice sz x lo hi => simp only [aop, AOp.sub, Option.map_map, cl_ev', cl_ev]
  | _ => rfl

/-- An operation's way with memory: 0 none, 1 it reads, 2 it writes, 3 it makes. -/
def AOp.cls : AOp → Nat
  | .ld _ | .lda .. => 1
  | .st .. | .cpy .. => 2
  | .alloc _ | .box _ | .bsl .. | .mksl .. | .app .. => 3
  | _ => 0

/-- A word that keeps a rewriting out of what comes later. -/
inductive Ky {α : Sort _} (k : α) : Type
  | mk

def pW (op : AOp) (k : AV → Prop) (_ : Ky k := .mk) : Prop := match aop 0 Tm.none (fun _ => none) op with
  | some (v, _, _) => k v
  | none => False
def rdW (op : AOp) (H : Heap) (k : AV → Prop) (_ : Ky k := .mk) : Prop := match aop 0 Tm.none H op with
  | some (v, _, _) => k v
  | none => False
def mW (op : AOp) (H : Heap) (k : AV → Heap → Prop) (_ : Ky k := .mk) : Prop := match aop 0 Tm.none H op with
  | some (v, _, give) => k v (H.app give)
  | none => False
def Fresh (H : Heap) (new : Nat) : Prop := ∀ k b, H k = some b → k < new
def mkR (r : Option Eff) (H : Heap) (k : AV → Heap → Prop) : Prop := match r with
  | some (v, _, give) => k v (H.app give)
  | none => False
def mkW (op : AOp) (H : Heap) (k : AV → Heap → Prop) (_ : Ky k := .mk) : Prop := ∀ new, Fresh H new → mkR (aop new Tm.none H op) H k
def cW (E : Env) (g : Nat) (args : List AV) (H : Heap) (k : AV → Heap → Prop) (_ : Ky k := .mk) : Prop := ACall E g args H k
def callW (E : Env) (f : AV) (args : List AV) (H : Heap) (k : AV → Heap → Prop) (_ : Ky k := .mk) : Prop := match f with
  | .fn g caps => cW E g (args ++ caps) H k
  | _ => False

def stV (E : Env) (op : AOp) (T : Tm) (H : Heap) (k : AV → Heap → Prop) : Prop := match op with
  | .call f as => callW E (f.ev T) (as.map (AOpd.ev T)) H k
  | op => match op.cls with
    | 0 => pW (op.sub T) fun v => k v H
    | 1 => rdW (op.sub T) H fun v => k v H
    | 2 => mW (op.sub T) H k
    | _ => mkW (op.sub T) H k

def gdW (want : Bool) (g : AV) (run : (AV → Heap → Prop) → Prop) (H : Heap) (k : AV → Heap → Prop) (_ : Ky run := .mk) (_ : Ky k := .mk) : Prop := match g with
  | .bool b => (b = want → run k) ∧ (b = !want → k (.tup []) H)
  | .tup [] => k (.tup []) H
  | _ => False

def grpW (want : Bool) (g : AV) (body : (AV → Heap → Prop) → Prop) (H : Heap) (k : (Nat → AV) → AV → Prop) (_ : Ky body := .mk) (_ : Ky k := .mk) : Prop :=
  ∃ bg rv, g = .bool bg ∧ (bg = want → body fun v H' => v = .bool rv ∧ H' = H) ∧ ∀ vs, k vs (.bool (if want = true then bg && rv else bg || rv))

/-- A block just made is frozen. -/
def frzW (x : AV) (H : Heap) (k : AV → Heap → Prop) (_ : Ky k := .mk) : Prop := match x with
  | .ptr id 0 0 => match H id with
    | some [cs] => k (.rp cs) (H.set id none)
    | _ => False
  | .sl sz id 0 len => match H id with
    | some es => if len = es.length then k (.ro sz es) (H.set id none) else False
    | _ => False
  | _ => False

/-- Made and frozen at once. -/
def bxW (x : AV) (k : AV → Prop) (_ : Ky k := .mk) : Prop := x.ok = true ∧ k (.rp x.cells)
def alW (n : Nat) (x : AV) (k : AV → Prop) (_ : Ky k := .mk) : Prop := (x.ok = true ∧ x.cells.length = n) ∧ k (.rp x.cells)
def bsW (sz : Nat) (z : List AV) (ln : Nat) (ps : List (Nat × AV)) (k : AV → Prop) (_ : Ky k := .mk) : Prop :=
  ps.all (fun p => p.2.ok && p.2.cells.length == sz) = true ∧ k (.ro sz (ps.foldl (fun es p => es.set p.1 p.2.cells) (List.replicate ln z)))
def AOpd.apart (d : Nat) : AOpd → Bool
  | .t s => !Nat.beq s d
  | .c _ => true

def condW (x : AV) (A B : Prop) (_ : Ky A := .mk) (_ : Ky B := .mk) : Prop := match x with
  | .bool b => (b = true → A) ∧ (b = false → B)
  | _ => False

def knows (kn : List (Nat × Bool)) (g : Nat) (w : Bool) : Bool := kn.any fun p => Nat.beq p.1 g && p.2 == w

def segW (E : Env) : List (Nat × Bool) → DSegs → (Tm → Heap → Prop) → Tm → Heap → Prop
  | _, .nil, N, T, H => N T H
  | kn, .one o r, N, T, H => match o.guard with
    | none => stV E o.op T H fun v H' => segW E kn r N (T.puto o.dst v) H'
    | some (g, w) => match knows kn g w with
      | true => stV E o.op T H fun v H' => segW E kn r N (T.puto o.dst v) H'
      | false => gdW w (T g) (fun k => stV E o.op T H k) H fun v H' => segW E kn r N (T.puto o.dst v) H'
  | kn, .frz d r, N, T, H => frzW (T d) H fun v H' => segW E kn r N (T.put d v) H'
  | kn, .box d x r, N, T, H => bxW (x.ev T) fun v => segW E kn r N (T.put d v) H
  | kn, .alst d z y r, N, T, H => match y.apart d with
    | true => alW z.length (y.ev T) fun v => segW E kn r N (T.put d v) H
    | false => False
  | kn, .bsl d sz z ln ps r, N, T, H => bsW sz z ln (ps.map fun p => (p.1, p.2.ev T)) fun v => segW E kn r N (T.put d v) H
  | kn, .grp gs p g w b pg r, N, T, H => match skips g w [] gs.flat && !(dstsOf gs.flat).contains g && gs.noFrz && (match pg with | none => true | some (s, w') => knows kn s w') with
    | true => grpW w (T g) (fun k => segW E ((g, w) :: kn) gs (fun T' H' => k (T' b) H') T H) H fun vs v => segW E kn r N ((putl T vs (dstsOf gs.flat)).put p v) H
    | false => False

section
variable {E : Env}

theorem cls_makes : ∀ op : AOp, op.makes = (op.cls == 3) := by intro op; cases op <;> rfl
theorem cls_mem0 : ∀ op : AOp, op.isCall = false → op.cls = 0 → op.mem = 0 := by intro op; cases op <;> simp [AOp.cls, AOp.mem, AOp.isCall]
theorem cls_mem1 : ∀ op : AOp, op.cls = 1 → op.mem = 1 := by intro op; cases op <;> simp [AOp.cls, AOp.mem]

theorem pure_eff {op : AOp} {T : Tm} {v : AV} {need : List (Nat × Blk)} {give : List (Nat × Option Blk)} (H : Heap) (h1 : aop 0 T (fun _ => none) op = some (v, need, give)) (h2 : op.cls = 0) (h3 : op.isCall = false) : aop 0 T H op = some (v, [], []) := by
  obtain ⟨h6, h7⟩ := (aop_mem h1).1 (cls_mem0 op h3 h2)
  subst h6; subst h7
  exact aop_local h1 (fun _ _ => rfl) (fun p hp => by simp at hp)

theorem astep_no {o : AOper} {N : Tm → Heap → Prop} {T : Tm} {H : Heap} (hc : o.op.isCall = false) (h : if o.op.makes = true then ∀ new, (∀ k b, H k = some b → k < new) → ∃ v need give, aop new T H o.op = some (v, need, give) ∧ N (T.puto o.dst v) (H.app give)
    else ∃ v need give, aop 0 T H o.op = some (v, need, give) ∧ N (T.puto o.dst v) (H.app give)) : AStep E o N T H := by
  unfold AStep
  split
  · rename_i f as hf; rw [hf] at hc; simp [AOp.isCall] at hc
  · exact h

theorem stV_no {op : AOp} {T : Tm} {H : Heap} {k : AV → Heap → Prop} (hc : op.isCall = false) (h : stV E op T H k) : match op.cls with
    | 0 => pW (op.sub T) fun v => k v H
    | 1 => rdW (op.sub T) H fun v => k v H
    | 2 => mW (op.sub T) H k
    | _ => mkW (op.sub T) H k := by
  unfold stV at h
  split at h
  · simp [AOp.isCall] at hc
  · exact h

theorem stV_sound {o : AOper} {T : Tm} {H : Heap} {k : AV → Heap → Prop} {N : Tm → Heap → Prop} (h : stV E o.op T H k) (hk : ∀ v H', k v H' → N (T.puto o.dst v) H') : AStep E o N T H := by
  cases hic : o.op.isCall with
  | true =>
    unfold stV at h
    unfold AStep
    split at h
    · rename_i f as hop
      rw [hop]
      unfold callW at h
      split at h
      · rename_i g caps hf
        exact ⟨g, caps, hf, ACall.mono h hk⟩
      · exact h.elim
    · rename_i hnc
      cases hq : o.op <;> rw [hq] at hic <;> simp [AOp.isCall] at hic
      exact absurd hq (hnc _ _)
  | false =>
    refine astep_no hic ?_
    have h2 := stV_no hic h
    rw [cls_makes]
    split at h2
    · rename_i hc
      rw [hc, if_neg (by simp)]
      unfold pW at h2
      rw [aop_sub] at h2
      split at h2
      · rename_i v need give he
        exact ⟨v, _, _, pure_eff H he hc hic, hk _ _ h2⟩
      · exact h2.elim
    · rename_i hc
      rw [hc, if_neg (by simp)]
      unfold rdW at h2
      rw [aop_sub] at h2
      split at h2
      · rename_i v need give he
        have hg : give = [] := (aop_mem he).2 (cls_mem1 _ hc)
        subst hg
        exact ⟨v, need, [], he, hk _ _ h2⟩
      · exact h2.elim
    · rename_i hc
      rw [hc, if_neg (by simp)]
      unfold mW at h2
      rw [aop_sub] at h2
      split at h2
      · rename_i v need give he
        exact ⟨v, need, give, he, hk _ _ h2⟩
      · exact h2.elim
    · rename_i hc0 hc1 hc2
      have hc3 : o.op.cls = 3 := by
        cases hq : o.op <;> rw [hq] at hc0 hc1 hc2 <;> simp [AOp.cls] at hc0 hc1 hc2 <;> rfl
      rw [hc3, if_pos (by simp)]
      intro new hnew
      have := h2 new hnew
      unfold mkR at this
      rw [aop_sub] at this
      split at this
      · rename_i v need give he
        exact ⟨v, need, give, he, hk _ _ this⟩
      · exact this.elim

theorem knows_mem {kn : List (Nat × Bool)} {g : Nat} {w : Bool} (h : knows kn g w = true) : (g, w) ∈ kn := by
  unfold knows at h
  rw [List.any_eq_true] at h
  obtain ⟨⟨a, b⟩, h1, h2⟩ := h
  simp only [Bool.and_eq_true, beq_iff_eq] at h2
  obtain ⟨h3, rfl⟩ := h2
  rw [Nat.eq_of_beq_eq_true h3] at h1
  exact h1

theorem gdW_sound {o : AOper} {g : Nat} {w : Bool} {T : Tm} {H : Heap} {k : AV → Heap → Prop} {N : Tm → Heap → Prop} (h : gdW w (T g) (fun k => stV E o.op T H k) H k) (hk : ∀ v H', k v H' → N (T.puto o.dst v) H') :
    (T g = .tup [] ∧ N (T.puto o.dst (.tup [])) H) ∨ ∃ b, T g = .bool b ∧ (b = w → AStep E o N T H) ∧ (b = !w → N (T.puto o.dst (.tup [])) H) := by
  unfold gdW at h
  split at h
  · rename_i b hb
    exact .inr ⟨b, hb, fun e => stV_sound (h.1 e) hk, fun e => hk _ _ (h.2 e)⟩
  · rename_i hb; exact .inl ⟨hb, hk _ _ h⟩
  · exact h.elim

/-- What is known of the guards, and stays. -/
def KnOK (kn : List (Nat × Bool)) (T : Tm) (ds : List Nat) : Prop := ∀ p ∈ kn, T p.1 = .bool p.2 ∧ p.1 ∉ ds

theorem KnOK.puto {kn : List (Nat × Bool)} {T : Tm} {o : AOper} {os : List AOper} (h : KnOK kn T (dstsOf (o :: os))) (v : AV) : KnOK kn (T.puto o.dst v) (dstsOf os) := fun p hp => by
  obtain ⟨h1, h2⟩ := h p hp
  cases hd : o.dst with
  | none => exact ⟨h1, by simpa [dstsOf, hd] using h2⟩
  | some d =>
    have : p.1 ≠ d ∧ p.1 ∉ dstsOf os := by simpa [dstsOf, hd, not_or] using h2
    exact ⟨by simp only [Tm.puto, Tm.put]; rw [if_neg this.1]; exact h1, this.2⟩

theorem dsts_append (a b : List AOper) : dstsOf (a ++ b) = dstsOf a ++ dstsOf b := by simp [dstsOf]

def pickStep (E : Env) (p g b : Nat) (w : Bool) (pg : Option (Nat × Bool)) (M : Tm → Heap → Prop) (T : Tm) (H : Heap) : Prop := match pg with
  | none => AStep E ⟨some p, pickOf g w b, pg⟩ M T H
  | some (s, want) => (T s = .tup [] ∧ M (T.puto (some p) (.tup [])) H) ∨ ∃ b', T s = .bool b' ∧ (b' = want → AStep E ⟨some p, pickOf g w b, pg⟩ M T H) ∧ (b' = !want → M (T.puto (some p) (.tup [])) H)

/-- The group, over any way to run what follows. -/
theorem grp_core {T : Tm} {H : Heap} {gs : DSegs} {p g b : Nat} {w bg rv : Bool} {pg : Option (Nat × Bool)} {M : Tm → Heap → Prop} (hs : skips g w [] gs.flat = true) (hgd : g ∉ dstsOf gs.flat) (h : T g = .bool bg)
    (hpg : ∀ s want, pg = some (s, want) → T s = .bool want ∧ s ∉ dstsOf gs.flat)
    (hrun : bg = w → ARun E (fun T' H' => T' b = .bool rv ∧ H' = H) gs.flat T H)
    (hk : ∀ vs, M ((putl T vs (dstsOf gs.flat)).put p (.bool (if w = true then bg && rv else bg || rv))) H) :
    ARun E (pickStep E p g b w pg M) gs.flat T H := by
  have fin : ∀ T', (∀ s, s ∉ dstsOf gs.flat → T' s = T s) → (bg = w → T' b = .bool rv) → pickStep E p g b w pg M T' H := fun T' hfr hrv => by
    have hT' : T' = putl T T' (dstsOf gs.flat) := by
      funext s
      rw [putl_ap]
      split
      · rfl
      · rename_i hn; exact hfr s hn
    have hg' : T' g = .bool bg := by rw [hfr g hgd]; exact h
    have st : AStep E ⟨some p, pickOf g w b, pg⟩ M T' H := by
      have ev : aop 0 T' H (pickOf g w b) = some (.bool (if w = true then bg && rv else bg || rv), [], []) := by
        cases w with
        | true =>
          simp only [pickOf, if_true, aop, AOpd.ev, hg']
          cases bg with
          | true => simp [pure1, hrv rfl]
          | false => simp [pure1]
        | false =>
          simp only [pickOf, aop, AOpd.ev, hg', Bool.false_eq_true, if_false]
          cases bg with
          | true => simp [pure1]
          | false => simp [pure1, hrv rfl]
      have := hk T'
      rw [← hT'] at this
      unfold AStep
      cases w <;> exact ⟨_, _, _, ev, this⟩
    cases pg with
    | none => exact st
    | some sw =>
      obtain ⟨s, want⟩ := sw
      obtain ⟨h1, h2⟩ := hpg s want rfl
      refine .inr ⟨want, by rw [hfr s h2]; exact h1, fun _ => st, fun e => by cases want <;> simp at e⟩
  by_cases e : bg = w
  · exact arun_frame (hrun e) (fun T' H' hfr ⟨h1, h2⟩ => by rw [h2]; exact fin T' hfr (fun _ => h1))
  · have : bg = !w := by cases bg <;> cases w <;> simp_all
    exact arun_skip this hs h (by simp) (fun T' hfr _ => fin T' hfr (fun e' => absurd e' e))

theorem seg_arun : ∀ (s : DSegs) (kn : List (Nat × Bool)) (N : Tm → Heap → Prop) (T : Tm) (H : Heap), s.noFrz = true → KnOK kn T (dstsOf s.flat) → segW E kn s N T H → ARun E N s.flat T H
  | .nil, kn, N, T, H, _, _, h => h
  | .one o r, kn, N, T, H, hn, hkn, h => by
    have ih : ∀ v H', segW E kn r N (T.puto o.dst v) H' → ARun E N r.flat (T.puto o.dst v) H' := fun v H' => seg_arun r kn N _ H' hn (hkn.puto v)
    simp only [segW] at h
    simp only [DSegs.flat, ARun]
    split at h
    · rename_i hg; rw [hg]; exact stV_sound h ih
    · rename_i g w hg
      rw [hg]
      split at h
      · rename_i hk
        obtain ⟨h1, h2⟩ := hkn _ (knows_mem hk)
        exact .inr ⟨w, h1, fun _ => stV_sound h ih, fun e => by cases w <;> simp at e⟩
      · exact gdW_sound h ih
  | .frz d r, kn, N, T, H, hn, hkn, h => by simp [DSegs.noFrz] at hn
  | .box .., kn, N, T, H, hn, hkn, h => by simp [DSegs.noFrz] at hn
  | .alst .., kn, N, T, H, hn, hkn, h => by simp [DSegs.noFrz] at hn
  | .bsl .., kn, N, T, H, hn, hkn, h => by simp [DSegs.noFrz] at hn
  | .grp gs p g w b pg r, kn, N, T, H, hn, hkn, h => by
    simp only [DSegs.noFrz, Bool.and_eq_true] at hn
    simp only [segW] at h
    split at h
    case h_2 => exact h.elim
    rename_i hc
    simp only [Bool.and_eq_true, Bool.not_eq_true'] at hc
    obtain ⟨⟨⟨hs, hgd⟩, _⟩, hpg⟩ := hc
    have hgd' : g ∉ dstsOf gs.flat := fun hm => by
      have := List.contains_iff_mem.2 hm
      rw [this] at hgd; cases hgd
    obtain ⟨bg, rv, h1, h2, h3⟩ := h
    have hds : ∀ q ∈ kn, q.1 ∉ dstsOf gs.flat ∧ q.1 ≠ p ∧ q.1 ∉ dstsOf r.flat := fun q hq => by
      have := (hkn q hq).2
      simp only [DSegs.flat, dsts_append, List.mem_append, not_or] at this
      have h2 : q.1 ≠ p ∧ q.1 ∉ dstsOf r.flat := by simpa [dstsOf, not_or] using this.2
      exact ⟨this.1, h2⟩
    simp only [DSegs.flat]
    rw [arun_append]
    have core := grp_core (E := E) (M := ARun E N r.flat) (b := b) (p := p) (pg := pg) hs hgd' h1 (fun s want e => by
      subst e
      have hm := knows_mem hpg
      exact ⟨(hkn _ hm).1, (hds _ hm).1⟩) (fun e => seg_arun gs _ _ T H hn.1 (fun q hq => by
        rcases List.mem_cons.1 hq with e' | e'
        · subst e'; exact ⟨by rw [h1, e], hgd'⟩
        · exact ⟨(hkn q e').1, (hds q e').1⟩) (h2 e)) (fun vs => seg_arun r kn N _ H hn.2 (fun q hq => by
        obtain ⟨a1, a2, a3⟩ := hds q hq
        exact ⟨by simp only [Tm.put]; rw [if_neg a2, putl_ap, if_neg a1]; exact (hkn q hq).1, a3⟩) (h3 vs))
    refine arun_frame core (fun T' H' _ hm => ?_)
    simp only [ARun]
    cases pg with
    | none => exact hm
    | some sw => exact hm

theorem frzW_sound {H : Heap} {k : AV → Heap → Prop} {T : Tm} {d : Nat} {N : Tm → Heap → Prop} (h : frzW (T d) H k) (hk : ∀ v H', k v H' → N (T.put d v) H') : Cl N T H := by
  have fin : ∀ id es, H id = some es → k (frz id es (T d)) (H.set id none) → Cl N T H := fun id es hid hh =>
    .frz id es (T.put d (frz id es (T d))) hid (fun s => by
      simp only [Tm.put]
      split
      · rename_i e; subst e; exact .inr rfl
      · exact .inl rfl) (.here (hk _ _ hh))
  unfold frzW at h
  split at h
  · rename_i id hx
    split at h
    · rename_i cs hid
      exact fin id [cs] hid (by rw [hx]; simpa [frz, frz0, frz1] using h)
    · exact h.elim
  · rename_i sz id len hx
    split at h
    · rename_i es hid
      split at h
      · rename_i hl
        exact fin id es hid (by rw [hx]; subst hl; simpa [frz, frz0, frz1] using h)
      · exact h.elim
    · exact h.elim
  · exact h.elim

theorem Heap.set_set (H : Heap) (id : Nat) (a b : Option Blk) : (H.set id a).set id b = H.set id b := by funext k; simp only [Heap.set]; split <;> rfl
theorem Heap.set_none {H : Heap} {id : Nat} (h : H id = none) : H.set id none = H := by funext k; simp only [Heap.set]; split <;> simp_all
theorem Fresh.none {H : Heap} {id : Nat} (h : Fresh H id) : H id = none := by
  cases e : H id with
  | none => rfl
  | some b => exact absurd (h _ _ e) (Nat.lt_irrefl _)

/-- A new block, frozen at once. -/
theorem made_frozen {N : Tm → Heap → Prop} {T : Tm} {H : Heap} {d new : Nat} {es : Blk} {x v : AV} (hnew : Fresh H new) (hv : frz new es x = v) (h : N (T.put d v) H) : Cl N (T.put d x) (H.set new (some es)) := by
  refine .frz new es (T.put d v) (Heap.set_same _ _ _) (fun s => ?_) ?_
  · simp only [Tm.put]
    split
    · exact .inr hv.symm
    · exact .inl rfl
  · rw [Heap.set_set, Heap.set_none hnew.none]; exact .here h


theorem bsl_len (z : List AV) (ln : Nat) : ∀ (ps : List (Nat × AV)) (es : Blk), es.length = ln → (ps.foldl (fun es p => es.set p.1 p.2.cells) es).length = ln
  | [], es, h => h
  | p :: ps, es, h => by rw [List.foldl_cons]; exact bsl_len z ln ps _ (by simpa using h)

theorem frz_row {sz id ln : Nat} {es : Blk} (h : es.length = ln) : frz id es (.sl sz id 0 ln) = .ro sz es := by subst h; simp [frz, frz0, frz1]

theorem seg_frun : ∀ (s : DSegs) (kn : List (Nat × Bool)) (N N' : Tm → Heap → Prop) (T : Tm) (H : Heap), (∀ T H, N T H → N' T H) → kn = [] → segW E kn s N T H → FRun E N' s.flat T H
  | .nil, kn, N, N', T, H, hN, _, h => .here (hN _ _ h)
  | .one o r, kn, N, N', T, H, hN, hkn, h => by
    have ih : ∀ v H', segW E kn r N (T.puto o.dst v) H' → FRun E N' r.flat (T.puto o.dst v) H' := fun v H' => seg_frun r kn N N' _ H' hN hkn
    simp only [segW] at h
    simp only [DSegs.flat]
    refine .here ?_
    split at h
    · rename_i hg; rw [hg]; exact stV_sound h ih
    · rename_i g w hg
      rw [hg]
      split at h
      · rename_i hk
        subst hkn
        simp [knows] at hk
      · exact gdW_sound h ih
  | .frz d r, kn, N, N', T, H, hN, hkn, h => by
    simp only [segW] at h
    simp only [DSegs.flat]
    exact frun_cl (frzW_sound h fun v H' hh => seg_frun r kn N N' _ H' hN hkn hh)
  | .box d x r, kn, N, N', T, H, hN, hkn, h => by
    obtain ⟨h1, h2⟩ := h
    have ih := seg_frun r kn N N' _ H hN hkn h2
    refine .here (fun new hnew => ⟨_, _, _, (if_pos h1 : aop new T H (.box x) = _), ?_⟩)
    exact frun_cl (made_frozen hnew (by simp [frz, frz0, frz1]) ih)
  | .alst d z y r, kn, N, N', T, H, hN, hkn, h => by
    simp only [segW] at h
    split at h
    case h_2 => exact h.elim
    rename_i hap
    obtain ⟨⟨h1, h3⟩, h2⟩ := h
    have ih := seg_frun r kn N N' _ H hN hkn h2
    refine .here (fun new hnew => ⟨_, _, _, rfl, .here ?_⟩)
    have hy : y.ev (T.put d (.ptr new 0 0)) = y.ev T := by
      cases y with
      | c v => rfl
      | t s =>
        simp only [AOpd.ev, Tm.put]
        simp only [AOpd.apart, Bool.not_eq_true'] at hap
        rw [if_neg (fun e => by subst e; simp at hap)]
    have hyc : (y.ev T).cells.length ≤ z.length := by omega
    have hspl : ∀ (vs cs : List AV) (off : Nat), off + vs.length = cs.length → spl cs off vs = cs.take off ++ vs := by
      intro vs
      induction vs with
      | nil => intro cs off hh; simp at hh; rw [spl]; simp [hh]
      | cons v vs ihv =>
        intro cs off hh
        simp at hh
        rw [spl, ihv _ _ (by simp; omega)]
        apply List.ext_getElem? 
        intro i
        simp only [List.getElem?_append, List.length_take, List.length_set, List.getElem?_take, List.getElem?_set]
        have e1 : min (off + 1) cs.length = off + 1 := by omega
        have e2 : min off cs.length = off := by omega
        rw [e1, e2]
        by_cases c1 : i < off
        · have : ¬ off = i := by omega
          simp [c1, show i < off + 1 by omega, this]
        · by_cases c2 : i = off
          · subst c2; simp; omega
          · have : ¬ i < off + 1 := by omega
            simp only [this, c1, if_false]
            rw [show i - off = (i - (off + 1)) + 1 by omega, List.getElem?_cons_succ]
    have hst : aop 0 (T.put d (.ptr new 0 0)) (H.set new (some [z])) (.st z.length (.t d) y) = some (.undef, [(new, [z])], [(new, some [(y.ev T).cells])]) := by
      have e0 : (AOpd.t d).ev (T.put d (.ptr new 0 0)) = .ptr new 0 0 := by simp [AOpd.ev, Tm.put]
      simp only [aop, e0, hy, Heap.set_same, List.getElem?_cons_zero]
      rw [if_pos ⟨h1, h3, by omega⟩, hspl _ _ 0 (by omega)]
      simp
    refine ⟨_, _, _, hst, ?_⟩
    refine frun_cl ?_
    simp only [Heap.app, Heap.set_set]
    exact made_frozen (T := T) hnew (by simp [frz, frz0, frz1]) ih
  | .bsl d sz z ln ps r, kn, N, N', T, H, hN, hkn, h => by
    obtain ⟨h1, h2⟩ := h
    have ih := seg_frun r kn N N' _ H hN hkn h2
    rw [List.all_map] at h1
    refine .here (fun new hnew => ⟨_, _, _, (if_pos h1 : aop new T H (.bsl sz z ln ps) = _), ?_⟩)
    have hf : (ps.map fun p => (p.1, p.2.ev T)).foldl (fun es p => es.set p.1 p.2.cells) (List.replicate ln z) = ps.foldl (fun es p => es.set p.1 (p.2.ev T).cells) (List.replicate ln z) := by rw [List.foldl_map]
    have hl := bsl_len z ln (ps.map fun p => (p.1, p.2.ev T)) (List.replicate ln z) (by simp)
    rw [hf] at ih hl
    exact frun_cl (made_frozen hnew (frz_row hl) ih)
  | .grp gs p g w b pg r, kn, N, N', T, H, hN, hkn, h => by
    simp only [segW] at h
    split at h
    case h_2 => exact h.elim
    rename_i hc
    simp only [Bool.and_eq_true, Bool.not_eq_true'] at hc
    obtain ⟨⟨⟨hs, hgd⟩, hnf⟩, hpg⟩ := hc
    have hgd' : g ∉ dstsOf gs.flat := fun hm => by
      have := List.contains_iff_mem.2 hm
      rw [this] at hgd; cases hgd
    obtain ⟨bg, rv, h1, h2, h3⟩ := h
    subst hkn
    simp only [DSegs.flat]
    refine frun_append _ ?_
    have core := grp_core (E := E) (M := FRun E N' r.flat) (b := b) (p := p) (pg := pg) hs hgd' h1 (fun s want e => by
      subst e
      simp [knows] at hpg) (fun e => seg_arun gs _ _ T H hnf (fun q hq => by
        rcases List.mem_cons.1 hq with e' | e'
        · subst e'; exact ⟨by rw [h1, e], hgd'⟩
        · simp at e') (h2 e)) (fun vs => seg_frun r [] N N' _ H hN rfl (h3 vs))
    refine arun_frame core (fun T' H' _ hm => .here ?_)
    cases pg with
    | none => exact hm
    | some sw => exact hm

end
end Go.Abs
