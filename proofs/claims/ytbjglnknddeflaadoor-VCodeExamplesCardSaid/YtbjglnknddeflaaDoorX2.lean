/- A part of the proof: AbsN, Abs19 -/
import Derived.Test.YtbjglnknddeflaaDoorX1
/- Abstract code with notes: at each join and loop a mask of the slots that what follows may read. The notes mean nothing; they serve the walks. -/
namespace Go.Abs

inductive Segs where
  | nil
  | one (o : AOper) (r : Segs)
  | grp (gs : Segs) (ds : List Nat) (p g : Nat) (want : Bool) (b : Nat) (pg : Option (Nat × Bool)) (r : Segs)

def pickOf (g : Nat) (want : Bool) (b : Nat) : AOp := if want then .pick (.t g) (.t b) (.c (.bool false)) else .pick (.t g) (.c (.bool true)) (.t b)

def Segs.flat : Segs → List AOper
  | .nil => []
  | .one o r => o :: r.flat
  | .grp gs _ p g w b pg r => gs.flat ++ ⟨some p, pickOf g w b, pg⟩ :: r.flat

inductive NCode where
  | skip
  | ops (l : Segs)
  | draw (l : List AOper) (ps : List (Nat × Nat))
  | seq (m : Nat) (a b : NCode)
  | cond (x : AOpd) (a b : NCode)
  | block (id : Nat) (a : NCode)
  | loop (m : Nat) (a : NCode)
  | exit (id : Nat)
  | ret

def NCode.strip : NCode → ACode
  | .skip => .skip
  | .ops l => .ops l.flat
  | .draw l ps => .draw l ps
  | .seq _ a b => .seq a.strip b.strip
  | .cond x a b => .cond x a.strip b.strip
  | .block id a => .block id a.strip
  | .loop _ a => .loop a.strip
  | .exit id => .exit id
  | .ret => .ret

end Go.Abs
/- The rules over noted code. -/
namespace Go.Abs

def AW (E : Env) (c : NCode) (Q : AEx → Tm → Heap → Prop) (T : Tm) (H : Heap) : Prop := AWP E c.strip Q T H

def Tm.keep (m : Nat) (T : Tm) : Tm := fun s => if m.testBit s = true then T s else .undef
def Tm.none : Tm := fun _ => .undef

/-- The frame `A` says nothing that `T` does not. -/
def Tle (A T : Tm) : Prop := ∀ s, A s = .undef ∨ A s = T s

section
variable {E : Env} {Q : AEx → Tm → Heap → Prop} {T : Tm} {H : Heap}

theorem keep_zero (T : Tm) : T.keep 0 = Tm.none := by funext s; simp [Tm.keep, Tm.none]
theorem keep_none (m : Nat) : Tm.none.keep m = Tm.none := by funext s; simp [Tm.keep, Tm.none]
theorem keep_put (T : Tm) (d : Nat) (v : AV) (m : Nat) : (T.put d v).keep m = if m.testBit d = true then (T.keep (m ^^^ 2 ^ d)).put d v else T.keep m := by
  funext s
  by_cases h : m.testBit d = true
  · rw [if_pos h]
    simp only [Tm.keep, Tm.put, Nat.testBit_xor, Nat.testBit_two_pow]
    by_cases e : s = d
    · subst e; simp [h]
    · have e' : d ≠ s := fun x => e x.symm
      simp [e, e']
  · rw [if_neg h]
    simp only [Tm.keep, Tm.put]
    by_cases e : s = d
    · subst e; simp [h]
    · simp [e]
theorem keep_put' (T : Tm) (d : Nat) (v : AV) (m : Nat) : (T.put d v).keep m = if m / 2 ^ d % 2 = 1 then (T.keep (m ^^^ 2 ^ d)).put d v else T.keep m := by
  rw [keep_put, Nat.testBit_eq_decide_div_mod_eq]; simp
theorem none_ap (s : Nat) : Tm.none s = .undef := rfl

theorem keep_le (m : Nat) (T : Tm) : Tle (T.keep m) T := fun s => by
  unfold Tm.keep; split
  · exact .inr rfl
  · exact .inl rfl
theorem tle_none (T : Tm) : Tle Tm.none T := fun _ => .inl rfl
theorem tle_put (A T : Tm) (d : Nat) (v : AV) (h : T d = v) (ha : Tle A T) : Tle (A.put d v) T := fun s => by
  simp only [Tm.put]
  split
  · rename_i e; subst e; exact .inr h.symm
  · exact ha s
theorem Tle.refl (T : Tm) : Tle T T := fun _ => .inr rfl

theorem AW.weaken {c : NCode} {T' : Tm} (h : AW E c Q T' H) (ht : Tle T' T) : AW E c Q T H := AWP.weaken h ht (Heap.Le.refl _)
theorem AW.weaken2 {c : NCode} {T' : Tm} {H' : Heap} (h : AW E c Q T' H') (ht : Tle T' T) (hh : H'.Le H) : AW E c Q T H := AWP.weaken h ht hh
theorem AW.mono {c : NCode} {Q' : AEx → Tm → Heap → Prop} (h : AW E c Q T H) (hq : ∀ e T H, Q e T H → Q' e T H) : AW E c Q' T H := AWP.mono h hq

theorem aw_seq {m : Nat} {x y : NCode} (h : ∀ K : Tm → Heap → Prop, (∀ T H T', T.keep m = T' → AW E y Q T' H → K T H) → AW E x (Then K Q) T H) : AW E (.seq m x y) Q T H :=
  awp_seq' fun K hK => h K fun T H T' e hy => hK T H (AW.weaken hy (e ▸ keep_le m T))
/-- A join: what holds between. -/
theorem aw_join {m : Nat} {x y : NCode} (J : Tm → Heap → Prop) (h : AW E x (Then J Q) T H) (h2 : ∀ T H, J T H → AW E y Q T H) : AW E (.seq m x y) Q T H :=
  awp_seq (AWP.mono h fun e T H hq => by cases e with
    | normal => exact h2 _ _ hq
    | _ => exact hq)
theorem aw_skip (h : Q .normal T H) : AW E .skip Q T H := awp_skip h
theorem aw_exit {id : Nat} (h : Q (.exit id) T H) : AW E (.exit id) Q T H := awp_exit h
theorem aw_ret (h : Q .ret T H) : AW E .ret Q T H := awp_ret h
theorem aw_cond {x : AOpd} {t f : NCode} {b : Bool} (hx : x.ev T = .bool b) (ht : b = true → AW E t Q T H) (hf' : b = false → AW E f Q T H) : AW E (.cond x t f) Q T H := awp_cond hx ht hf'
theorem aw_block {id : Nat} {x : NCode} (h : AW E x (Out id Q) T H) : AW E (.block id x) Q T H := awp_block h

/-- A loop: states by name, what the frame and the heap hold in each. -/
theorem aw_loop {σ : Type} (F : σ → Tm) (J : σ → Heap → Prop) (μ : σ → Nat) {m : Nat} {x : NCode} (s0 : σ) (ht : Tle (F s0) T) (hj : J s0 H)
    (h : ∀ s H, J s H → ∀ K : Tm → Heap → Prop, (∀ T' H' s', μ s' < μ s → Tle (F s') T' → J s' H' → K T' H') → AW E x (Then K Q) (F s) H) : AW E (.loop m x) Q T H := by
  refine awp_loop (fun k T H => ∃ s, μ s = k ∧ Tle (F s) T ∧ J s H) (μ s0) ⟨s0, rfl, ht, hj⟩ ?_
  rintro k T1 H1 ⟨s, rfl, h1, h2⟩
  exact AW.weaken (h s H1 h2 _ fun T' H' s' hl ht' hj' => ⟨μ s', hl, s', rfl, ht', hj'⟩) h1

/-- How a call ends. -/
def Ends (rs : List ARes) (R : AV → Heap → Prop) : AEx → Tm → Heap → Prop := fun e T' H' => match e with
  | .normal | .ret => ∃ v, ares rs T' H' = some v ∧ R v H'
  | .exit _ => False

theorem ends_r (rs : List ARes) (R : AV → Heap → Prop) (T : Tm) (H : Heap) : Ends rs R .ret T H = ∃ v, ares rs T H = some v ∧ R v H := rfl
theorem ends_n (rs : List ARes) (R : AV → Heap → Prop) (T : Tm) (H : Heap) : Ends rs R .normal T H = ∃ v, ares rs T H = some v ∧ R v H := rfl

theorem acall (hE : E.Good) {tab : Nat → Option AFunc} (hF : E.Fits tab) {f n : Nat} {rs : List ARes} {b : NCode} (hf : tab f = some ⟨n, rs, b.strip⟩) {args : List AV} {R : AV → Heap → Prop} {H : Heap} (hl : args.length ≤ n)
    (h : ∀ Q, Q = Ends rs R → ∀ T, T = Tm.fr 0 args → AW E b Q T H) : ACall E f args H R := by
  refine acall_enter hE hF hf hl ?_
  have := h _ rfl _ rfl
  rw [← of_fr] at this
  exact AWP.mono this fun e T H hq => by cases e <;> exact hq
theorem fr_cons' (i : Nat) (a : AV) (l : List AV) : Tm.fr i (a :: l) = (Tm.fr (i + 1) l).put i a := rfl
theorem fr_nil' (i : Nat) : Tm.fr i [] = Tm.none := rfl

end
end Go.Abs
