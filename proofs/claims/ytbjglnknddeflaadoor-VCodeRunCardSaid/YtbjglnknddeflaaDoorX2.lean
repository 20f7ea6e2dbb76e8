/- A part of the proof: AbsN, Abs19 -/
import Derived.Test.YtbjglnknddeflaaDoorX1
set_option linter.unusedSimpArgs false
set_option linter.unusedVariables false
/- Abstract code with notes: at each join and loop a mask of the slots that what follows may read. The notes mean nothing; they serve the walks. -/
namespace Go.Abs

inductive Segs where
  | nil
  | one (o : AOper) (r : Segs)
  | grp (gs : Segs) (ds : List Nat) (p g : Nat) (want : Bool) (b : Nat) (pg : Option (Nat × Bool)) (r : Segs)

def pickOf (g : Nat) (want : Bool) (b : Nat) : AOp := if want then .pick (.t g) (.t b) (.c (.bool false)) else .pick (.t g) (.c (.bool true)) (.t b)

def Segs.flat : Segs → List AOper
  | .nil => []
  | .one o r => o :: r.flat
  | .grp gs _ p g w b pg r => gs.flat ++ ⟨some p, pickOf g w b, pg⟩ :: r.flat

inductive NCode where
  | skip
  | ops (l : Segs)
  | draw (l : List AOper) (ps : List (Nat × Nat))
  | seq (m : Nat) (a b : NCode)
  | cond (x : AOpd) (a b : NCode)
  | block (id : Nat) (a : NCode)
  | loop (m : Nat) (a : NCode)
  | exit (id : Nat)
  | ret

def NCode.strip : NCode → ACode
  | .skip => .skip
  | .ops l => .ops l.flat
  | .draw l ps => .draw l ps
  | .seq _ a b => .seq a.strip b.strip
  | .cond x a b => .cond x a.strip b.strip
  | .block id a => .block id a.strip
  | .loop _ a => .loop a.strip
  | .exit id => .exit id
  | .ret => .ret

end Go.Abs
/- The rules over noted code. -/
namespace Go.Abs

def AW (E : Env) (c : NCode) (Q : AEx → Tm → Heap → Prop) (T : Tm) (H : Heap) : Prop := AWP E c.strip Q T H

def Tm.keep (m : Nat) (T : Tm) : Tm := fun s => if m.testBit s = true then T s else .undef
def Tm.none : Tm := fun _ => .undef

/-- The frame `A` says nothing that `T` does not. -/
def Tle (A T : Tm) : Prop := ∀ s, A s = .undef ∨ A s = T s

section
variable {E : Env} {Q : AEx → Tm → Heap → Prop} {T : Tm} {H : Heap}


theorem Tle.refl (T : Tm) : Tle T T := fun _ => .inr rfl

theorem AW.weaken {c : NCode} {T' : Tm} (h : AW E c Q T' H) (ht : Tle T' T) : AW E c Q T H := AWP.weaken h ht (Heap.Le.refl _)
theorem AW.mono {c : NCode} {Q' : AEx → Tm → Heap → Prop} (h : AW E c Q T H) (hq : ∀ e T H, Q e T H → Q' e T H) : AW E c Q' T H := AWP.mono h hq



/-- How a call ends. -/
def Ends (rs : List ARes) (R : AV → Heap → Prop) : AEx → Tm → Heap → Prop := fun e T' H' => match e with
  | .normal | .ret => ∃ v, ares rs T' H' = some v ∧ R v H'
  | .exit _ => False



end
end Go.Abs
