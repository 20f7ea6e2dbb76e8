/- A part of the proof: Abs1, Abs2, Abs3, Abs4, Abs5, Abs6, Abs7, Abs8, Abs9, Abs10, Abs11 -/
import Derived.Calls
import Derived.Laws.Cells
import Derived.Laws.CopyRow
import Derived.Laws.World
import Derived.Below
import Derived.Laws.Entries
import Derived.Laws.StructEq
set_option linter.unusedSimpArgs false
set_option linter.unusedVariables false
/- The abstract values and heaps of the proofs of this seat, their relation to the model's worlds, and how it is kept. No program in sight. -/
namespace Go.Abs

/-- Abstract values: what the proofs see of a value. 'ptr', 'sl' lead into tracked blocks (by id, element, cell); 'rp', 'ro' into memory that is never written again: they bear what lies there. -/
inductive AV where
  | int (k : IntKind) (n : Int)
  | bool (b : Bool)
  | str (s : ByteArray)
  | ptr (id i off : Nat)
  | rp (cs : List AV)
  | nilp
  | sl (sz id off len : Nat)
  | ro (sz : Nat) (es : List (List AV))
  | nilsl
  | fn (f : Nat) (cap : List AV)
  | nilfn
  | agg (cs : List AV)
  | tup (vs : List AV)
  | undef
  deriving Inhabited

abbrev Blk := List (List AV)
abbrev Heap := Nat → Option Blk
abbrev Tm := Nat → AV

def Heap.set (H : Heap) (id : Nat) (b : Option Blk) : Heap := fun k => if k = id then b else H k
theorem Heap.set_same (H : Heap) (id : Nat) (b : Option Blk) : H.set id b id = b := by simp [Heap.set]
theorem Heap.set_ne (H : Heap) (id k : Nat) (b : Option Blk) (h : k ≠ id) : H.set id b k = H k := by simp [Heap.set, h]

structure Loc where
  blk : Option (Nat × Nat)
  sz : Nat

structure Corr where
  ρ : Nat → Option Loc
  mem : Nat → Nat → Option Value
  frz : Nat → Prop
  nxt : Nat

inductive TD where
  | int (k : IntKind)
  | bool
  | str
  | struct (fs : List (Nat × Nat))
  | slice (e : Nat)
  | array (n e : Nat)
  | ptr (e : Nat)
  | func
  | other

structure TInfo where
  size : Nat
  bytes : Nat
  desc : TD
  zero : List AV

structure Env where
  P : Program
  tt : Nat → Option TInfo
  fi : Nat → Option Nat
  glob : Nat → Option AV

/-- What an abstract value says of a value. -/
inductive VR (E : Env) (c : Corr) : AV → Value → Prop
  | int (k : IntKind) (n : Int) : VR E c (.int k n) (.int k n)
  | bool (b : Bool) : VR E c (.bool b) (.bool b)
  | str (s : ByteArray) : VR E c (.str s) (.string s)
  | ptr {id i off b nc sz : Nat} : c.ρ id = some ⟨some (b, nc), sz⟩ → VR E c (.ptr id i off) (.pointer (some ⟨b, i * sz + off, none⟩))
  | rp {cs : List AV} {b o : Nat} (vs : Nat → Value) : (∀ (j : Nat) (x : AV), cs[j]? = some x → c.mem b (o + j) = some (vs j) ∧ (vs j).oneCell' = true) →
      (∀ (j : Nat) (x : AV), cs[j]? = some x → VR E c x (vs j)) → VR E c (.rp cs) (.pointer (some ⟨b, o, none⟩))
  | nilp : VR E c .nilp (.pointer none)
  | sl {sz id off len cap b nc : Nat} : c.ρ id = some ⟨some (b, nc), sz⟩ → len ≤ cap ∧ cap < 9223372036854775808 → (off + cap) * sz ≤ nc →
      VR E c (.sl sz id off len) (.slice (some ⟨b, off * sz, none⟩) len cap)
  | slz {sz id off b o : Nat} {l : Loc} : c.ρ id = some l → l.sz = sz → VR E c (.sl sz id off 0) (.slice (some ⟨b, o, none⟩) 0 0)
  | slv {sz id : Nat} : c.ρ id = some ⟨none, sz⟩ → VR E c (.sl sz id 0 0) (.slice none 0 0)
  | ro {sz : Nat} {es : List (List AV)} {b o cap : Nat} (vs : Nat → Nat → Value) : es.length ≤ cap ∧ cap < 9223372036854775808 → (∀ (i : Nat) (cs : List AV), es[i]? = some cs → cs.length = sz) →
      (∀ (i : Nat) (cs : List AV) (j : Nat) (x : AV), es[i]? = some cs → cs[j]? = some x → c.mem b (o + i * sz + j) = some (vs i j) ∧ (vs i j).oneCell' = true) →
      (∀ (i : Nat) (cs : List AV) (j : Nat) (x : AV), es[i]? = some cs → cs[j]? = some x → VR E c x (vs i j)) → VR E c (.ro sz es) (.slice (some ⟨b, o, none⟩) es.length cap)
  | ro0 (sz : Nat) : VR E c (.ro sz []) (.slice none 0 0)
  | roz (sz : Nat) (a : Addr) : VR E c (.ro sz []) (.slice (some a) 0 0)
  | nilsl : VR E c .nilsl (.slice none 0 0)
  | fn {f g : Nat} {cap : List AV} {caps : Array Value} : E.fi g = some f → caps.size = cap.length →
      (∀ (j : Nat) (x : AV) (v : Value), cap[j]? = some x → caps[j]? = some v → VR E c x v) → VR E c (.fn f cap) (.func (.func g) #[] caps)
  | nilfn : VR E c .nilfn .nilFunc
  | agg {cs : List AV} {vs : Array Value} : vs.size = cs.length → (∀ (j : Nat) (v : Value), vs[j]? = some v → v.oneCell' = true) →
      (∀ (j : Nat) (x : AV) (v : Value), cs[j]? = some x → vs[j]? = some v → VR E c x v) → VR E c (.agg cs) (.agg vs)
  | tup {cs : List AV} {vs : Array Value} : vs.size = cs.length →
      (∀ (j : Nat) (x : AV) (v : Value), cs[j]? = some x → vs[j]? = some v → VR E c x v) → VR E c (.tup cs) (.tuple vs)
  | undef (v : Value) : VR E c .undef v

/-- More is known. -/
structure Corr.Le (c c' : Corr) : Prop where
  ρ : ∀ k l, c.ρ k = some l → c'.ρ k = some l
  mem : ∀ b o v, c.mem b o = some v → c'.mem b o = some v
  frz : ∀ b, c.frz b → c'.frz b
  nxt : c.nxt ≤ c'.nxt

theorem Corr.Le.refl (c : Corr) : c.Le c := ⟨fun _ _ h => h, fun _ _ _ h => h, fun _ h => h, Nat.le_refl _⟩
theorem Corr.Le.trans {a b c : Corr} (h : a.Le b) (k : b.Le c) : a.Le c :=
  ⟨fun i l e => k.ρ i l (h.ρ i l e), fun x o v e => k.mem x o v (h.mem x o v e), fun x e => k.frz x (h.frz x e), Nat.le_trans h.nxt k.nxt⟩

theorem VR.mono {E : Env} {c c' : Corr} (hc : c.Le c') {x : AV} {v : Value} (h : VR E c x v) : VR E c' x v := by
  induction h with
  | int k n => exact .int k n
  | bool b => exact .bool b
  | str s => exact .str s
  | ptr h => exact .ptr (hc.ρ _ _ h)
  | rp vs h1 _ ih => exact .rp vs (fun j x hx => ⟨hc.mem _ _ _ (h1 j x hx).1, (h1 j x hx).2⟩) ih
  | nilp => exact .nilp
  | sl h h1 h2 => exact .sl (hc.ρ _ _ h) h1 h2
  | slz h h1 => exact .slz (hc.ρ _ _ h) h1
  | slv h => exact .slv (hc.ρ _ _ h)
  | ro vs h1 h2 h3 _ ih => exact .ro vs h1 h2 (fun i cs j x hi hx => ⟨hc.mem _ _ _ (h3 i cs j x hi hx).1, (h3 i cs j x hi hx).2⟩) ih
  | ro0 sz => exact .ro0 sz
  | roz sz a => exact .roz sz a
  | nilsl => exact .nilsl
  | fn h1 h2 _ ih => exact .fn h1 h2 ih
  | nilfn => exact .nilfn
  | agg h1 h2 _ ih => exact .agg h1 h2 ih
  | tup h1 _ ih => exact .tup h1 ih
  | undef v => exact .undef v

/-- A live block of the abstract heap, and what stands for it. -/
structure LiveB (E : Env) (c : Corr) (w : World) (b nc sz : Nat) (es : Blk) : Prop where
  nofrz : ¬ c.frz b
  row : ∃ cells t, w.heap[b]? = some (.cells cells t (0, 0)) ∧ cells.size = nc ∧
    ∀ (i : Nat) (cs : List AV) (j : Nat) (x : AV), es[i]? = some cs → cs[j]? = some x → ∃ v, cells[i * sz + j]? = some v ∧ VR E c x v ∧ v.oneCell' = true

structure Sim (E : Env) (c : Corr) (H : Heap) (w : World) : Prop where
  mem : ∀ b o v, c.mem b o = some v → w.cell? ⟨b, o, none⟩ = some v ∧ c.frz b
  lt : ∀ b, c.frz b → b < w.heap.size
  top : ∀ k, c.nxt ≤ k → c.ρ k = none
  loc : ∀ id es, H id = some es → ∃ l, c.ρ id = some l ∧ (∀ cs ∈ es, cs.length = l.sz) ∧ (l.blk = none → es = [])
  live : ∀ id es b nc sz, H id = some es → c.ρ id = some ⟨some (b, nc), sz⟩ → LiveB E c w b nc sz es
  inj : ∀ id id' es es' b nc sz nc' sz', H id = some es → H id' = some es' → c.ρ id = some ⟨some (b, nc), sz⟩ → c.ρ id' = some ⟨some (b, nc'), sz'⟩ → id = id'
  glob : ∀ g av, E.glob g = some av → VR E c av (.pointer (some ⟨g, 0, none⟩))

/-- What a world may have turned into. -/
structure Keep (c : Corr) (w w' : World) : Prop where
  os : w'.os = w.os
  tape : w'.tape = w.tape
  output : w'.output = w.output
  size : w.heap.size ≤ w'.heap.size
  block : ∀ b, c.frz b → w'.heap[b]? = w.heap[b]?

theorem Keep.refl (c : Corr) (w : World) : Keep c w w := ⟨rfl, rfl, rfl, Nat.le_refl _, fun _ _ => rfl⟩
theorem Keep.trans {c c' : Corr} {a b d : World} (hc : c.Le c') (h : Keep c a b) (k : Keep c' b d) : Keep c a d :=
  ⟨k.os.trans h.os, k.tape.trans h.tape, k.output.trans h.output, Nat.le_trans h.size k.size, fun i hi => (k.block i (hc.frz i hi)).trans (h.block i hi)⟩

/-- A whole step, of a call or of a stretch of code: old ids stand as they stood, the ones that are set apart included. -/
structure Ext (c : Corr) (w : World) (c' : Corr) (w' : World) : Prop where
  le : c.Le c'
  old : ∀ k, k < c.nxt → c'.ρ k = c.ρ k
  keep : Keep c w w'

theorem Ext.refl (c : Corr) (w : World) : Ext c w c w := ⟨.refl _, fun _ _ => rfl, .refl _ _⟩
theorem Ext.trans {c c' c'' : Corr} {w w' w'' : World} (h : Ext c w c' w') (k : Ext c' w' c'' w'') : Ext c w c'' w'' :=
  ⟨h.le.trans k.le, fun i hi => (k.old i (Nat.lt_of_lt_of_le hi h.le.nxt)).trans (h.old i hi), h.keep.trans h.le k.keep⟩

/-- One operation's step: at most its own id 'own' is new among those below nxt. -/
structure StepX (own : Nat) (c : Corr) (w : World) (c' : Corr) (w' : World) : Prop where
  le : c.Le c'
  old : ∀ k, k < c.nxt → k ≠ own → c'.ρ k = c.ρ k
  keep : Keep c w w'

theorem Ext.stepX {c c' : Corr} {w w' : World} (h : Ext c w c' w') (own : Nat) : StepX own c w c' w' := ⟨h.le, fun k hk _ => h.old k hk, h.keep⟩
theorem StepX.refl (own : Nat) (c : Corr) (w : World) : StepX own c w c w := (Ext.refl c w).stepX own

/-- Less is asked of the heap. -/
def Heap.Le (H' H : Heap) : Prop := ∀ k, H' k = none ∨ H' k = H k
theorem Heap.Le.refl (H : Heap) : H.Le H := fun _ => .inr rfl
theorem Heap.Le.trans {A B D : Heap} (h : A.Le B) (k : B.Le D) : A.Le D := fun i => (h i).elim .inl (fun e => (k i).elim (fun n => .inl (e.trans n)) (fun m => .inr (e.trans m)))

theorem Sim.weaken {E : Env} {c : Corr} {H H' : Heap} {w : World} (h : Sim E c H w) (hle : H'.Le H) : Sim E c H' w := by
  have g : ∀ {id es}, H' id = some es → H id = some es := fun {id es} e => by
    rcases hle id with h0 | h0
    · rw [h0] at e; cases e
    · rw [← h0]; exact e
  exact ⟨h.mem, h.lt, h.top, fun id es e => h.loc id es (g e), fun id es b nc sz e hr => h.live id es b nc sz (g e) hr,
    fun id id' es es' b nc sz nc' sz' e e' h1 h2 => h.inj id id' es es' b nc sz nc' sz' (g e) (g e') h1 h2, h.glob⟩

/-- A draw. -/
theorem Sim.drew {E : Env} {c : Corr} {H : Heap} {w : World} (h : Sim E c H w) (n : Nat) : Sim E c H { w with drawn := n } :=
  ⟨h.mem, h.lt, h.top, h.loc, fun id es b nc sz e hr => ⟨(h.live id es b nc sz e hr).nofrz, (h.live id es b nc sz e hr).row⟩, h.inj, h.glob⟩
theorem Keep.drew (c : Corr) (w : World) (n : Nat) : Keep c w { w with drawn := n } := ⟨rfl, rfl, rfl, Nat.le_refl _, fun _ _ => rfl⟩

/-- The correspondence with one id more. -/
def Corr.add (c : Corr) (id : Nat) (l : Loc) : Corr := { c with ρ := fun k => if k = id then some l else c.ρ k, nxt := max c.nxt (id + 1) }
theorem Corr.add_le (c : Corr) (id : Nat) (l : Loc) (h : c.ρ id = none) : c.Le (c.add id l) :=
  ⟨fun k l' e => by
    have : k ≠ id := fun e' => by rw [e', h] at e; cases e
    simp [Corr.add, this, e], fun _ _ _ e => e, fun _ e => e, by simp [Corr.add]; omega⟩
theorem Corr.add_same (c : Corr) (id : Nat) (l : Loc) : (c.add id l).ρ id = some l := by simp [Corr.add]
theorem Corr.add_ne (c : Corr) (id : Nat) (l : Loc) (k : Nat) (h : k ≠ id) : (c.add id l).ρ k = c.ρ k := by simp [Corr.add, h]

theorem Keep.alloc (c : Corr) (w : World) (o : Obj) (h : ∀ b, c.frz b → b < w.heap.size) : Keep c w (w.alloc o) :=
  ⟨rfl, rfl, rfl, by simp, fun b hb => by
    have := h b hb
    show (w.heap.push o)[b]? = _
    rw [Array.getElem?_push, if_neg (by omega)]⟩

/-- A new block. -/
theorem Sim.alloc {E : Env} {c : Corr} {H : Heap} {w : World} (h : Sim E c H w) (id : Nat) (hid : c.ρ id = none) (sz : Nat) (cells : Array Value) (t : TypeId) (es : Blk)
    (hsz : ∀ cs ∈ es, cs.length = sz) (hes : ∀ (i : Nat) (cs : List AV) (j : Nat) (x : AV), es[i]? = some cs → cs[j]? = some x → ∃ v, cells[i * sz + j]? = some v ∧ VR E c x v ∧ v.oneCell' = true) :
    Sim E (c.add id ⟨some (w.heap.size, cells.size), sz⟩) (H.set id (some es)) (w.alloc (.cells cells t)) ∧
      StepX id c w (c.add id ⟨some (w.heap.size, cells.size), sz⟩) (w.alloc (.cells cells t)) := by
  have hle := c.add_le id ⟨some (w.heap.size, cells.size), sz⟩ hid
  have hold : ∀ b, b < w.heap.size → (w.alloc (.cells cells t)).heap[b]? = w.heap[b]? := fun b hb => by
    show (w.heap.push _)[b]? = _
    rw [Array.getElem?_push, if_neg (by omega)]
  have hnew : (w.alloc (.cells cells t)).heap[w.heap.size]? = some (.cells cells t (0, 0)) := by
    show (w.heap.push _)[w.heap.size]? = _
    simp
  have hlive : ∀ k es' b nc sz', k ≠ id → H k = some es' → c.ρ k = some ⟨some (b, nc), sz'⟩ → b < w.heap.size := fun k es' b nc sz' _ hk hr => by
    obtain ⟨cells', t', hb, _⟩ := (h.live k es' b nc sz' hk hr).row
    exact (Array.getElem?_eq_some_iff.1 hb).1
  refine ⟨⟨?_, ?_, ?_, ?_, ?_, ?_, ?_⟩, ⟨hle, fun k _ hk => Corr.add_ne _ _ _ _ hk, Keep.alloc c w _ h.lt⟩⟩
  · intro b o v hm
    obtain ⟨h1, h2⟩ := h.mem b o v hm
    exact ⟨by rw [World.cell?_alloc_lt _ _ _ (h.lt b h2)]; exact h1, h2⟩
  · intro b hb; have := h.lt b hb; simp; omega
  · intro k hk
    have h1 : c.nxt ≤ k ∧ id + 1 ≤ k := by simp [Corr.add] at hk; omega
    rw [Corr.add_ne _ _ _ _ (by omega)]
    exact h.top k h1.1
  · intro k es' hk
    by_cases e : k = id
    · subst e
      rw [Heap.set_same] at hk; cases hk
      exact ⟨_, Corr.add_same _ _ _, hsz, fun e => by cases e⟩
    · rw [Heap.set_ne _ _ _ _ e] at hk
      rw [Corr.add_ne _ _ _ _ e]
      exact h.loc k es' hk
  · intro k es' b nc sz' hk hr
    by_cases e : k = id
    · subst e
      rw [Heap.set_same] at hk; cases hk
      rw [Corr.add_same] at hr
      simp only [Option.some.injEq, Loc.mk.injEq, Prod.mk.injEq] at hr
      obtain ⟨⟨rfl, rfl⟩, rfl⟩ := hr
      exact ⟨fun hf => by have := h.lt _ hf; omega, cells, t, hnew, rfl, fun i cs j x hi hj => by
        obtain ⟨v, h1, h2, h3⟩ := hes i cs j x hi hj
        exact ⟨v, h1, h2.mono hle, h3⟩⟩
    · rw [Heap.set_ne _ _ _ _ e] at hk
      rw [Corr.add_ne _ _ _ _ e] at hr
      have hb := hlive k es' b nc sz' e hk hr
      obtain ⟨h1, cells', t', h2, h3, h4⟩ := h.live k es' b nc sz' hk hr
      exact ⟨h1, cells', t', (hold b hb).trans h2, h3, fun i cs j x hi hj => by
        obtain ⟨v, h1, h2, h3⟩ := h4 i cs j x hi hj
        exact ⟨v, h1, h2.mono hle, h3⟩⟩
  · intro k k' es1 es2 b nc s1 nc' s2 hk hk' hr hr'
    by_cases e : k = id
    · by_cases e' : k' = id
      · rw [e, e']
      · subst e
        rw [Heap.set_ne _ _ _ _ e'] at hk'
        rw [Corr.add_ne _ _ _ _ e'] at hr'
        rw [Corr.add_same] at hr
        have := hlive k' es2 b nc' s2 e' hk' hr'
        simp only [Option.some.injEq, Loc.mk.injEq, Prod.mk.injEq] at hr
        omega
    · by_cases e' : k' = id
      · subst e'
        rw [Heap.set_ne _ _ _ _ e] at hk
        rw [Corr.add_ne _ _ _ _ e] at hr
        rw [Corr.add_same] at hr'
        have := hlive k es1 b nc s1 e hk hr
        simp only [Option.some.injEq, Loc.mk.injEq, Prod.mk.injEq] at hr'
        omega
      · rw [Heap.set_ne _ _ _ _ e] at hk
        rw [Heap.set_ne _ _ _ _ e'] at hk'
        rw [Corr.add_ne _ _ _ _ e] at hr
        rw [Corr.add_ne _ _ _ _ e'] at hr'
        exact h.inj k k' es1 es2 b nc s1 nc' s2 hk hk' hr hr'
  · intro g av hg
    exact (h.glob g av hg).mono hle

theorem setRow_other (w : World) (g : Nat) (cs : Array Value) (b : Nat) (h : b ≠ g) : (w.setRow g cs).heap[b]? = w.heap[b]? := by
  simp only [World.setRow, Array.getElem?_modify]
  rw [if_neg (by omega)]

/-- A block is written anew. The id may be another one, the elder one being let go ('append' in place). -/
theorem Sim.setRow {E : Env} {c : Corr} {H : Heap} {w : World} (h : Sim E c H w) (id : Nat) (es : Blk) (b nc sz : Nat) (hid : H id = some es) (hr : c.ρ id = some ⟨some (b, nc), sz⟩)
    (cells : Array Value) (hn : cells.size = nc) (es' : Blk) (hsz : ∀ cs ∈ es', cs.length = sz)
    (hes : ∀ (i : Nat) (cs : List AV) (j : Nat) (x : AV), es'[i]? = some cs → cs[j]? = some x → ∃ v, cells[i * sz + j]? = some v ∧ VR E c x v ∧ v.oneCell' = true) :
    Sim E c (H.set id (some es')) (w.setRow b cells) ∧ Keep c w (w.setRow b cells) := by
  obtain ⟨hnf, cells0, t, hb, hs0, _⟩ := h.live id es b nc sz hid hr
  have hold : ∀ k, c.frz k → (w.setRow b cells).heap[k]? = w.heap[k]? := fun k hk => setRow_other _ _ _ _ (fun e => hnf (e ▸ hk))
  have hnew := setRow_heap w b cells0 cells t (0, 0) hb
  have hsize : (w.setRow b cells).heap.size = w.heap.size := by simp [World.setRow]
  refine ⟨⟨?_, ?_, h.top, ?_, ?_, ?_, h.glob⟩, ⟨rfl, rfl, rfl, by rw [hsize]; exact Nat.le_refl _, hold⟩⟩
  · intro k o v hm
    obtain ⟨h1, h2⟩ := h.mem k o v hm
    refine ⟨?_, h2⟩
    unfold World.cell? at h1 ⊢
    rw [hold k h2]; exact h1
  · intro k hk; rw [hsize]; exact h.lt k hk
  · intro k es1 hk
    by_cases e : k = id
    · subst e
      rw [Heap.set_same] at hk; cases hk
      exact ⟨_, hr, hsz, fun e => by cases e⟩
    · rw [Heap.set_ne _ _ _ _ e] at hk
      exact h.loc k es1 hk
  · intro k es1 b1 nc1 sz1 hk hr1
    by_cases e : k = id
    · subst e
      rw [Heap.set_same] at hk; cases hk
      rw [hr] at hr1
      simp only [Option.some.injEq, Loc.mk.injEq, Prod.mk.injEq] at hr1
      obtain ⟨⟨rfl, rfl⟩, rfl⟩ := hr1
      exact ⟨hnf, cells, t, hnew, hn, hes⟩
    · rw [Heap.set_ne _ _ _ _ e] at hk
      have hne : b1 ≠ b := fun e' => e (h.inj k id es1 es b1 nc1 sz1 nc sz hk hid hr1 (e' ▸ hr))
      obtain ⟨h1, cells', t', h2, h3⟩ := h.live k es1 b1 nc1 sz1 hk hr1
      exact ⟨h1, cells', t', (setRow_other _ _ _ _ hne).trans h2, h3⟩
  · intro k k' es1 es2 b1 nc1 s1 nc' s2 hk hk' h1 h2
    have g : ∀ {k es1}, (H.set id (some es')) k = some es1 → ∃ e0, H k = some e0 := fun {k es1} hk => by
      by_cases e : k = id
      · exact ⟨es, e ▸ hid⟩
      · rw [Heap.set_ne _ _ _ _ e] at hk; exact ⟨_, hk⟩
    obtain ⟨e1, g1⟩ := g hk
    obtain ⟨e2, g2⟩ := g hk'
    exact h.inj k k' e1 e2 b1 nc1 s1 nc' s2 g1 g2 h1 h2

/-- Less is told of a row. -/
theorem Sim.trunc {E : Env} {c : Corr} {H : Heap} {w : World} (h : Sim E c H w) {id : Nat} {es : Blk} (hid : H id = some es) (n : Nat) : Sim E c (H.set id (some (es.take n))) w := by
  have up : ∀ {k es1}, (H.set id (some (es.take n))) k = some es1 → ∃ e0, H k = some e0 ∧ ∀ (i : Nat) (cs : List AV), es1[i]? = some cs → e0[i]? = some cs := fun {k es1} hk => by
    by_cases e : k = id
    · subst e
      rw [Heap.set_same] at hk; cases hk
      refine ⟨es, hid, fun i cs hi => ?_⟩
      rw [List.getElem?_take] at hi
      split at hi
      · exact hi
      · cases hi
    · rw [Heap.set_ne _ _ _ _ e] at hk; exact ⟨es1, hk, fun _ _ h => h⟩
  refine ⟨h.mem, h.lt, h.top, ?_, ?_, ?_, h.glob⟩
  · intro k es1 hk
    obtain ⟨e0, g1, g2⟩ := up hk
    obtain ⟨l, l1, l2, l3⟩ := h.loc k e0 g1
    refine ⟨l, l1, fun cs hc => ?_, fun hb => ?_⟩
    · obtain ⟨i, hi⟩ := List.mem_iff_getElem?.1 hc
      exact l2 cs (List.mem_of_getElem? (g2 i cs hi))
    · have := l3 hb; subst this
      cases es1 with
      | nil => rfl
      | cons a r => have := g2 0 a rfl; simp at this
  · intro k es1 b nc sz hk hr
    obtain ⟨e0, g1, g2⟩ := up hk
    obtain ⟨h1, cells, t, h2, h3, h4⟩ := h.live k e0 b nc sz g1 hr
    exact ⟨h1, cells, t, h2, h3, fun i cs j x hi hj => h4 i cs j x (g2 i cs hi) hj⟩
  · intro k k' es1 es2 b nc s1 nc' s2 hk hk' h1 h2
    obtain ⟨e1, g1, _⟩ := up hk
    obtain ⟨e2, g2, _⟩ := up hk'
    exact h.inj k k' e1 e2 b nc s1 nc' s2 g1 g2 h1 h2

/-- A live id goes over to another, new id at the same block. -/
theorem Sim.rename {E : Env} {c : Corr} {H : Heap} {w : World} (h : Sim E c H w) (id : Nat) (es : Blk) (l : Loc) (hid : H id = some es) (hr : c.ρ id = some l)
    (new : Nat) (hnew : c.ρ new = none) :
    Sim E (c.add new l) ((H.set id none).set new (some es)) w ∧ StepX new c w (c.add new l) w := by
  have hle := c.add_le new l hnew
  have hne : id ≠ new := fun e => by rw [e, hnew] at hr; cases hr
  have back : ∀ {k es1}, ((H.set id none).set new (some es)) k = some es1 → (k = new ∧ es1 = es) ∨ (k ≠ new ∧ k ≠ id ∧ H k = some es1) := fun {k es1} hk => by
    by_cases e : k = new
    · subst e; rw [Heap.set_same] at hk; cases hk; exact .inl ⟨rfl, rfl⟩
    · rw [Heap.set_ne _ _ _ _ e] at hk
      by_cases e' : k = id
      · subst e'; rw [Heap.set_same] at hk; cases hk
      · rw [Heap.set_ne _ _ _ _ e'] at hk; exact .inr ⟨e, e', hk⟩
  refine ⟨⟨h.mem, h.lt, ?_, ?_, ?_, ?_, fun g av hg => (h.glob g av hg).mono hle⟩, ⟨hle, fun k _ hk => Corr.add_ne _ _ _ _ hk, .refl _ _⟩⟩
  · intro k hk
    have h1 : c.nxt ≤ k ∧ new + 1 ≤ k := by simp [Corr.add] at hk; omega
    rw [Corr.add_ne _ _ _ _ (by omega)]
    exact h.top k h1.1
  · intro k es1 hk
    rcases back hk with ⟨rfl, rfl⟩ | ⟨h1, h2, h3⟩
    · obtain ⟨l', hl, h4, h5⟩ := h.loc id _ hid
      rw [hr] at hl; cases hl
      exact ⟨l, Corr.add_same _ _ _, h4, h5⟩
    · rw [Corr.add_ne _ _ _ _ h1]; exact h.loc k es1 h3
  · intro k es1 b nc sz hk hr1
    rcases back hk with ⟨rfl, rfl⟩ | ⟨h1, h2, h3⟩
    · rw [Corr.add_same] at hr1; cases hr1
      obtain ⟨h1, cells', t', h2, h3, h4⟩ := h.live id _ b nc sz hid hr
      exact ⟨h1, cells', t', h2, h3, fun i cs j x hi hj => by
        obtain ⟨v, h1, h2, h3⟩ := h4 i cs j x hi hj
        exact ⟨v, h1, h2.mono hle, h3⟩⟩
    · rw [Corr.add_ne _ _ _ _ h1] at hr1
      obtain ⟨h1, cells', t', h2, h3, h4⟩ := h.live k es1 b nc sz h3 hr1
      exact ⟨h1, cells', t', h2, h3, fun i cs j x hi hj => by
        obtain ⟨v, h1, h2, h3⟩ := h4 i cs j x hi hj
        exact ⟨v, h1, h2.mono hle, h3⟩⟩
  · intro k k' es1 es2 b nc s1 nc' s2 hk hk' h1 h2
    rcases back hk with ⟨rfl, rfl⟩ | ⟨a1, a2, a3⟩
    · rcases back hk' with ⟨rfl, rfl⟩ | ⟨b1, b2, b3⟩
      · rfl
      · rw [Corr.add_same] at h1; cases h1
        rw [Corr.add_ne _ _ _ _ b1] at h2
        exact absurd (h.inj k' id es2 _ b nc' s2 nc s1 b3 hid h2 hr) b2
    · rw [Corr.add_ne _ _ _ _ a1] at h1
      rcases back hk' with ⟨rfl, rfl⟩ | ⟨b1, b2, b3⟩
      · rw [Corr.add_same] at h2; cases h2
        exact absurd (h.inj k id es1 _ b nc s1 nc' s2 a3 hid h1 hr) a2
      · rw [Corr.add_ne _ _ _ _ b1] at h2
        exact h.inj k k' es1 es2 b nc s1 nc' s2 a3 b3 h1 h2

/-- A virtual block: no memory stands for it (the nil slice). -/
theorem Sim.virt {E : Env} {c : Corr} {H : Heap} {w : World} (h : Sim E c H w) (new sz : Nat) (hnew : c.ρ new = none) :
    Sim E (c.add new ⟨none, sz⟩) (H.set new (some [])) w ∧ StepX new c w (c.add new ⟨none, sz⟩) w := by
  have hle := c.add_le new ⟨none, sz⟩ hnew
  refine ⟨⟨h.mem, h.lt, ?_, ?_, ?_, ?_, fun g av hg => (h.glob g av hg).mono hle⟩, ⟨hle, fun k _ hk => Corr.add_ne _ _ _ _ hk, .refl _ _⟩⟩
  · intro k hk
    have h1 : c.nxt ≤ k ∧ new + 1 ≤ k := by simp [Corr.add] at hk; omega
    rw [Corr.add_ne _ _ _ _ (by omega)]
    exact h.top k h1.1
  · intro k es1 hk
    by_cases e : k = new
    · subst e; rw [Heap.set_same] at hk; cases hk
      exact ⟨_, Corr.add_same _ _ _, by simp, fun _ => rfl⟩
    · rw [Heap.set_ne _ _ _ _ e] at hk
      rw [Corr.add_ne _ _ _ _ e]; exact h.loc k es1 hk
  · intro k es1 b nc sz' hk hr1
    by_cases e : k = new
    · subst e; rw [Corr.add_same] at hr1; cases hr1
    · rw [Heap.set_ne _ _ _ _ e] at hk
      rw [Corr.add_ne _ _ _ _ e] at hr1
      obtain ⟨h1, cells', t', h2, h3, h4⟩ := h.live k es1 b nc sz' hk hr1
      exact ⟨h1, cells', t', h2, h3, fun i cs j x hi hj => by
        obtain ⟨v, h1, h2, h3⟩ := h4 i cs j x hi hj
        exact ⟨v, h1, h2.mono hle, h3⟩⟩
  · intro k k' es1 es2 b nc s1 nc' s2 hk hk' h1 h2
    have n1 : k ≠ new := fun e => by subst e; rw [Corr.add_same] at h1; cases h1
    have n2 : k' ≠ new := fun e => by subst e; rw [Corr.add_same] at h2; cases h2
    rw [Heap.set_ne _ _ _ _ n1] at hk
    rw [Heap.set_ne _ _ _ _ n2] at hk'
    rw [Corr.add_ne _ _ _ _ n1] at h1
    rw [Corr.add_ne _ _ _ _ n2] at h2
    exact h.inj k k' es1 es2 b nc s1 nc' s2 hk hk' h1 h2

end Go.Abs
/- The abstract operations of the proofs of this seat: what they are, what they come to, and how they are read off the model's operations. -/
namespace Go.Abs

inductive AOpd where
  | t (n : Nat)
  | c (v : AV)
  deriving Inhabited

def AOpd.ev (T : Tm) : AOpd → AV
  | .t n => T n
  | .c v => v

inductive AOp where
  | mov (x : AOpd)
  | pick (c a b : AOpd)
  | alloc (z : List AV)
  | box (x : AOpd)
  | build (z : List AV) (ps : List (Nat × Nat × AOpd))
  | bsl (sz : Nat) (z : List AV) (len : Nat) (ps : List (Nat × AOpd))
  | ld (x : AOpd)
  | lda (n : Nat) (x : AOpd)
  | st (n : Nat) (x y : AOpd)
  | nilck (x : AOpd)
  | bin (op : BinOp) (x y : AOpd)
  | eqb (neg : Bool) (x y : AOpd)
  | eqp (neg : Bool) (x y : AOpd)
  | eqv (neg : Bool) (ks : List Bool) (x y : AOpd)
  | un (op : UnOp) (x : AOpd)
  | conv (k : IntKind) (x : AOpd)
  | mkfn (f : Nat) (caps : List AOpd)
  | mksl (sz bytes : Nat) (z : List AV) (n m : AOpd)
  | slice (sz : Nat) (x : AOpd) (lo hi : Option AOpd)
  | fad (off : Nat) (x : AOpd)
  | fld (off : Nat) (x : AOpd)
  | flda (off n : Nat) (x : AOpd)
  | iad (sz : Nat) (x i : AOpd)
  | iadA (n sz : Nat) (x i : AOpd)
  | ext (x : AOpd) (i : Nat)
  | len (x : AOpd)
  | lenc (n : Nat)
  | app (sz : Nat) (x y : AOpd)
  | cpy (sz : Nat) (x y : AOpd)
  | mn (x y : AOpd)
  | mx (x y : AOpd)
  | call (f : AOpd) (args : List AOpd)
  deriving Inhabited

structure AOper where
  dst : Option Nat
  op : AOp
  guard : Option (Nat × Bool)
  deriving Inhabited

def AV.cells : AV → List AV
  | .agg cs => cs
  | v => [v]
/-- A value that may be stored. -/
def AV.ok : AV → Bool
  | .tup _ | .undef => false
  | _ => true

def spl (cs : List AV) (off : Nat) : List AV → List AV
  | [] => cs
  | v :: r => spl (cs.set off v) (off + 1) r

def fillA (cs : List AV) : List (Nat × AV) → List AV
  | [] => cs
  | (off, v) :: r => fillA (spl cs off v.cells) r

/-- The bits of a word, as the model has them. -/
def bitsOf (op : BinOp) (k : IntKind) (x y : Int) : Int :=
  let a := BitVec.ofInt k.bits x
  let b := BitVec.ofInt k.bits y
  match op with
  | .and => k.wrap (a &&& b).toNat
  | .or => k.wrap (a ||| b).toNat
  | .xor => k.wrap (a ^^^ b).toNat
  | _ => k.wrap (a &&& ~~~b).toNat

def abin (op : BinOp) (k : IntKind) (x y : Int) : Option AV :=
  match op with
  | .add => some (.int k (k.wrap (x + y)))
  | .sub => some (.int k (k.wrap (x - y)))
  | .mul => some (.int k (k.wrap (x * y)))
  | .quo => if y = 0 then none else some (.int k (k.wrap (x.tdiv y)))
  | .rem => if y = 0 then none else some (.int k (x.tmod y))
  | .and => some (.int k (bitsOf .and k x y))
  | .or => some (.int k (bitsOf .or k x y))
  | .xor => some (.int k (bitsOf .xor k x y))
  | .andNot => some (.int k (bitsOf .andNot k x y))
  | .eql => some (.bool (x == y))
  | .neq => some (.bool (x != y))
  | .lss => some (.bool (decide (x < y)))
  | .leq => some (.bool (decide (x ≤ y)))
  | .gtr => some (.bool (decide (x > y)))
  | .geq => some (.bool (decide (x ≥ y)))
  | _ => none

def ashift (op : BinOp) (k : IntKind) (x y : Int) : Option AV :=
  if y < 0 then none
  else match op with
    | .shl => some (.int k (k.wrap (x * 2 ^ (min y.toNat k.bits))))
    | .shr => some (.int k (x.fdiv (2 ^ (min y.toNat k.bits))))
    | _ => none

/-- Are two cells the same? 'isInt': of the kind of a word; else a truth. -/
def AV.eqc (isInt : Bool) : AV → AV → Option Bool
  | .int k a, .int k' b => if isInt = true ∧ k = k' then some (a == b) else none
  | .bool a, .bool b => if isInt then none else some (a == b)
  | _, _ => none

def eqCells : List Bool → List AV → List AV → Option Bool
  | [], [], [] => some true
  | k :: ks, x :: xs, y :: ys => match x.eqc k y, eqCells ks xs ys with
    | some b, some r => some (b && r)
    | _, _ => none
  | _, _, _ => none

/-- The elements of a slice, and what must be known of the heap for them. -/
def elems (sz : Nat) (H : Heap) : AV → Option (List (List AV) × List (Nat × Blk))
  | .nilsl => some ([], [])
  | .ro s es => if s = sz then some (es, []) else none
  | .sl s id off len => match H id with
    | some es => if s = sz ∧ off + len ≤ es.length then some ((es.drop off).take len, [(id, es)]) else none
    | none => none
  | _ => none

/-- A bound of a cut. -/
def bnd : Option AV → Int → Option Int
  | none, d => some d
  | some (.int _ n), _ => some n
  | _, _ => none

def aslice (sz : Nat) (x : AV) (lo hi : Option AV) : Option AV :=
  match x with
  | .ro s es => match bnd lo 0, bnd hi es.length with
    | some l, some h => if s = sz ∧ 0 ≤ l ∧ l ≤ h ∧ h ≤ es.length then some (.ro sz ((es.drop l.toNat).take (h - l).toNat)) else none
    | _, _ => none
  | .sl s id off len => match bnd lo 0, bnd hi len with
    | some l, some h => if s = sz ∧ 0 ≤ l ∧ l ≤ h ∧ h ≤ len then some (.sl sz id (off + l.toNat) (h - l).toNat) else none
    | _, _ => none
  | .nilsl => match bnd lo 0, bnd hi 0 with
    | some l, some h => if l = 0 ∧ h = 0 then some .nilsl else none
    | _, _ => none
  | _ => none

abbrev Eff := AV × List (Nat × Blk) × List (Nat × Option Blk)

def pure1 (v : AV) : Option Eff := some (v, [], [])

def appLim : Nat := 68719476736

/-- What an operation comes to (no calls here): its value, what it needs of the heap, what it gives to it. 'new': the id of what it makes. -/
def aop (new : Nat) (T : Tm) (H : Heap) : AOp → Option Eff
  | .mov x => pure1 (x.ev T)
  | .pick c a b => match c.ev T with
    | .bool t => pure1 (if t then a.ev T else b.ev T)
    | _ => none
  | .alloc z => some (.ptr new 0 0, [], [(new, some [z])])
  | .box x => if (x.ev T).ok then some (.ptr new 0 0, [], [(new, some [(x.ev T).cells])]) else none
  | .build z ps => if ps.all (fun p => (p.2.2.ev T).ok && (p.2.2.ev T).cells.length == p.2.1 && decide (p.1 + p.2.1 ≤ z.length)) then pure1 (.agg (fillA z (ps.map fun p => (p.1, p.2.2.ev T)))) else none
  | .bsl sz z len ps => if ps.all (fun p => (p.2.ev T).ok && (p.2.ev T).cells.length == sz) then
      some (.sl sz new 0 len, [], [(new, some (ps.foldl (fun es p => es.set p.1 (p.2.ev T).cells) (List.replicate len z)))]) else none
  | .ld x => match x.ev T with
    | .ptr id i off => match H id with
      | some es => match es[i]? with
        | some cs => match cs[off]? with
          | some v => some (v, [(id, es)], [])
          | none => none
        | none => none
      | none => none
    | .rp cs => match cs[0]? with
      | some v => pure1 v
      | none => none
    | _ => none
  | .lda n x => match x.ev T with
    | .ptr id i off => match H id with
      | some es => match es[i]? with
        | some cs => if off + n ≤ cs.length then some (.agg ((cs.drop off).take n), [(id, es)], []) else none
        | none => none
      | none => none
    | .rp cs => if n ≤ cs.length then pure1 (.agg (cs.take n)) else none
    | _ => none
  | .st n x y => match x.ev T with
    | .ptr id i off => match H id with
      | some es => match es[i]? with
        | some cs => if (y.ev T).ok = true ∧ (y.ev T).cells.length = n ∧ off + n ≤ cs.length then some (.undef, [(id, es)], [(id, some (es.set i (spl cs off (y.ev T).cells)))]) else none
        | none => none
      | none => none
    | _ => none
  | .nilck x => match x.ev T with
    | .ptr id i off => pure1 (.ptr id i off)
    | .rp cs => pure1 (.rp cs)
    | .fn f caps => pure1 (.fn f caps)
    | _ => none
  | .bin op x y => match x.ev T, y.ev T with
    | .int k a, .int k' b => match op with
      | .shl => (ashift .shl k a b).bind pure1
      | .shr => (ashift .shr k a b).bind pure1
      | _ => if k = k' then (abin op k a b).bind pure1 else none
    | _, _ => none
  | .eqb neg x y => match x.ev T, y.ev T with
    | .bool a, .bool b => pure1 (.bool (if neg then !(a == b) else a == b))
    | _, _ => none
  | .eqp neg x y => match x.ev T, y.ev T with
    | .ptr _ _ _, .nilp => pure1 (.bool neg)
    | .rp _, .nilp => pure1 (.bool neg)
    | .nilp, .ptr _ _ _ => pure1 (.bool neg)
    | .nilp, .rp _ => pure1 (.bool neg)
    | .nilp, .nilp => pure1 (.bool !neg)
    | _, _ => none
  | .eqv neg ks x y => match x.ev T, y.ev T with
    | .agg a, .agg b => match eqCells ks a b with
      | some r => pure1 (.bool (if neg then !r else r))
      | none => none
    | _, _ => none
  | .un op x => match op, x.ev T with
    | .not, .bool b => pure1 (.bool !b)
    | .neg, .int k n => pure1 (.int k (k.wrap (0 - n)))
    | .xor, .int k n => pure1 (.int k (bitsOf .xor k (if k.signed then -1 else k.max) n))
    | _, _ => none
  | .conv k x => match x.ev T with
    | .int _ n => pure1 (.int k (k.wrap n))
    | _ => none
  | .mkfn f caps => pure1 (.fn f (caps.map (AOpd.ev T)))
  | .mksl sz _ z n m => match n.ev T, m.ev T with
    | .int .i64 a, .int .i64 b => if a = b ∧ 0 ≤ a ∧ a ≤ appLim then some (.sl sz new 0 a.toNat, [], [(new, some (List.replicate a.toNat z))]) else none
    | _, _ => none
  | .slice sz x lo hi => (aslice sz (x.ev T) (lo.map (AOpd.ev T)) (hi.map (AOpd.ev T))).bind pure1
  | .fad o x => match x.ev T with
    | .ptr id i off => pure1 (.ptr id i (off + o))
    | .rp cs => pure1 (.rp (cs.drop o))
    | _ => none
  | .fld o x => match x.ev T with
    | .agg cs => match cs[o]? with
      | some v => pure1 v
      | none => none
    | _ => none
  | .flda o n x => match x.ev T with
    | .agg cs => if o + n ≤ cs.length then pure1 (.agg ((cs.drop o).take n)) else none
    | _ => none
  | .iad sz x i => match x.ev T, i.ev T with
    | .ro s es, .int _ n => if s = sz ∧ 0 ≤ n ∧ n < es.length then pure1 (.rp (es.getD n.toNat [])) else none
    | .sl s id off len, .int _ n => if s = sz ∧ 0 ≤ n ∧ n < len then pure1 (.ptr id (off + n.toNat) 0) else none
    | _, _ => none
  | .iadA m sz x i => match x.ev T, i.ev T with
    | .ptr id j off, .int _ n => if 0 ≤ n ∧ n < m then pure1 (.ptr id j (off + n.toNat * sz)) else none
    | .rp cs, .int _ n => if 0 ≤ n ∧ n < m then pure1 (.rp (cs.drop (n.toNat * sz))) else none
    | _, _ => none
  | .ext x i => match x.ev T with
    | .tup vs => match vs[i]? with
      | some v => pure1 v
      | none => none
    | _ => none
  | .len x => match x.ev T with
    | .ro _ es => pure1 (.int .i64 es.length)
    | .sl _ _ _ len => pure1 (.int .i64 len)
    | .nilsl => pure1 (.int .i64 0)
    | _ => none
  | .lenc n => pure1 (.int .i64 n)
  | .app sz x y => match elems sz H (y.ev T) with
    | some (xs, need) => match x.ev T with
      | .nilsl => if xs.length ≤ appLim then some (.sl sz new 0 xs.length, need, [(new, some xs)]) else none
      | .sl s id off len => match H id with
        | some es => if s = sz ∧ off = 0 ∧ len ≤ es.length ∧ len + xs.length ≤ appLim then some (.sl sz new 0 (len + xs.length), (id, es) :: need, [(id, none), (new, some (es.take len ++ xs))]) else none
        | none => none
      | _ => none
    | none => none
  | .cpy sz x y => match elems sz H (y.ev T) with
    | some (xs, need) => match x.ev T with
      | .nilsl => some (.int .i64 0, need, [])
      | .sl s id off len => match H id with
        | some es => if s = sz ∧ off + len ≤ es.length then
            some (.int .i64 (min xs.length len : Nat), (id, es) :: need, [(id, some (es.take off ++ xs.take (min xs.length len) ++ es.drop (off + min xs.length len)))]) else none
        | none => none
      | _ => none
    | none => none
  | .mn x y => match x.ev T, y.ev T with
    | .int k a, .int _ b => pure1 (.int k (if b < a then b else a))
    | _, _ => none
  | .mx x y => match x.ev T, y.ev T with
    | .int k a, .int _ b => pure1 (.int k (if a < b then b else a))
    | _, _ => none
  | .call _ _ => none

def AOp.makes : AOp → Bool
  | .alloc _ | .box _ | .bsl .. | .mksl .. | .app .. => true
  | _ => false

def Heap.app (H : Heap) : List (Nat × Option Blk) → Heap
  | [] => H
  | (id, b) :: r => (H.set id b).app r

def Tm.put (T : Tm) (d : Nat) (v : AV) : Tm := fun s => if s = d then v else T s
def Tm.puto (T : Tm) (d : Option Nat) (v : AV) : Tm := match d with
  | some d => T.put d v
  | none => T

/-! ### Off the model's operations -/

def vAV : Value → Option AV
  | .int k n => some (.int k n)
  | .bool b => some (.bool b)
  | .string s => some (.str s)
  | .pointer none => some .nilp
  | .slice none 0 0 => some .nilsl
  | .nilFunc => some .nilfn
  | _ => none

def cOpd (E : Env) : Operand → Option AOpd
  | .tmp t => some (.t t)
  | .const v => (vAV v).map .c
  | .global g => (E.glob g).map .c
  | .func f => (E.fi f).map fun n => .c (.fn n [])

def cOpds (E : Env) : List Operand → Option (List AOpd)
  | [] => some []
  | x :: r => do
    let y ← cOpd E x
    let ys ← cOpds E r
    some (y :: ys)

def TD.agg : TD → Bool
  | .struct _ | .array .. => true
  | _ => false

/-- The kinds of a struct's cells, if they are all single words or truths, one behind the other. -/
def flatAt (E : Env) : Nat → List (Nat × Nat) → Option (List Bool)
  | _, [] => some []
  | n, (off, t) :: r => if off = n then (match E.tt t, flatAt E (n + 1) r with
    | some ⟨1, _, .int _, _⟩, some ks => some (true :: ks)
    | some ⟨1, _, .bool, _⟩, some ks => some (false :: ks)
    | _, _ => none) else none

def cParts (E : Env) (fs : List (Nat × Nat)) : List (Nat × Operand) → Option (List (Nat × Nat × AOpd))
  | [] => some []
  | (i, x) :: r => do
    let (off, ft) ← fs[i]?
    let fi ← E.tt ft
    let y ← cOpd E x
    let ys ← cParts E fs r
    some ((off, fi.size, y) :: ys)

def cPartsA (E : Env) (sz : Nat) : List (Nat × Operand) → Option (List (Nat × Nat × AOpd))
  | [] => some []
  | (i, x) :: r => match cOpd E x, cPartsA E sz r with
    | some y, some ys => some ((i * sz, sz, y) :: ys)
    | _, _ => none

def cElems (E : Env) (len : Nat) : List (Nat × Operand) → Option (List (Nat × AOpd))
  | [] => some []
  | (i, x) :: r => do
    let y ← cOpd E x
    let ys ← cElems E len r
    if i < len then some ((i, y) :: ys) else none

def cOpt (E : Env) : Option Operand → Option (Option AOpd)
  | none => some none
  | some x => (cOpd E x).map some

def cBuiltin (E : Env) (b : Builtin) (args : List AOpd) (ts : List Nat) : Option AOp :=
  match b, args, ts with
  | .len, [x], [t] => match E.tt t with
    | some ⟨_, _, .slice _, _⟩ => some (.len x)
    | some ⟨_, _, .array n _, _⟩ => some (.lenc n)
    | _ => none
  | .append, [x, y], [t, u] => match E.tt t, E.tt u with
    | some ⟨_, _, .slice e, _⟩, some ⟨_, _, .slice _, _⟩ => match E.tt e with
      | some ei => if 0 < ei.bytes && ei.bytes ≤ 1024 && 0 < ei.size then some (.app ei.size x y) else none
      | none => none
    | _, _ => none
  | .copy, [x, y], [t, _] => match E.tt t with
    | some ⟨_, _, .slice e, _⟩ => match E.tt e with
      | some ei => some (.cpy ei.size x y)
      | none => none
    | _ => none
  | .min, [x, y], _ => some (.mn x y)
  | .max, [x, y], _ => some (.mx x y)
  | _, _, _ => none

def compOp (E : Env) : Op → Option AOp
  | .move x | .assign x => (cOpd E x).map .mov
  | .pick c a b => do some (.pick (← cOpd E c) (← cOpd E a) (← cOpd E b))
  | .alloc t => (E.tt t).map fun ti => .alloc ti.zero
  | .box _ x => (cOpd E x).map .box
  | .build t parts => match E.tt t with
    | some ⟨_, _, .struct fs, z⟩ => if fs.all (fun f => (E.tt f.2).isSome) then (cParts E fs parts.toList).map fun ps => .build z ps else none
    | some ⟨_, _, .array _ e, z⟩ => match E.tt e with
      | some ei => (cPartsA E ei.size parts.toList).map fun ps => .build z ps
      | none => none
    | _ => none
  | .buildSlice t len parts => match E.tt t with
    | some ⟨_, _, .slice e, _⟩ => match E.tt e with
      | some ei => if len * ei.size ≤ 2 ^ 24 && 0 < ei.size then (cElems E len parts.toList).map fun ps => .bsl ei.size ei.zero len ps else none
      | none => none
    | _ => none
  | .load t x => match E.tt t with
    | some ti => if ti.desc.agg then (cOpd E x).map fun y => .lda ti.size y else (match ti.desc with | .other => none | _ => (cOpd E x).map .ld)
    | none => none
  | .store t x y => match E.tt t with
    | some ti => if 0 < ti.size then do some (.st ti.size (← cOpd E x) (← cOpd E y)) else none
    | none => none
  | .nilCheck x => (cOpd E x).map .nilck
  | .binOp op t x y _ => match E.tt t with
    | some ⟨_, _, .int _, _⟩ => do some (.bin op (← cOpd E x) (← cOpd E y))
    | some ⟨_, _, .bool, _⟩ => match op with
      | .eql => do some (.eqb false (← cOpd E x) (← cOpd E y))
      | .neq => do some (.eqb true (← cOpd E x) (← cOpd E y))
      | _ => none
    | some ⟨_, _, .ptr _, _⟩ => match op with
      | .eql => do some (.eqp false (← cOpd E x) (← cOpd E y))
      | .neq => do some (.eqp true (← cOpd E x) (← cOpd E y))
      | _ => none
    | some ⟨_, _, .struct fs, _⟩ => match op, flatAt E 0 fs with
      | .eql, some ks => do some (.eqv false ks (← cOpd E x) (← cOpd E y))
      | .neq, some ks => do some (.eqv true ks (← cOpd E x) (← cOpd E y))
      | _, _ => none
    | _ => none
  | .unOp op _ x => (cOpd E x).map (.un op)
  | .convert s d x => match E.tt s, E.tt d with
    | some ⟨_, _, .int _, _⟩, some ⟨_, _, .int k, _⟩ => (cOpd E x).map (.conv k)
    | _, _ => none
  | .makeFunc fn first caps => match fn with
    | .func f => if first.isEmpty then (match E.fi f, cOpds E caps.toList with
      | some n, some cs => some (.mkfn n cs)
      | _, _ => none) else none
    | _ => none
  | .makeSlice t n m => match E.tt t with
    | some ⟨_, _, .slice e, _⟩ => match E.tt e with
      | some ei => if 0 < ei.bytes && ei.bytes ≤ 1024 && 0 < ei.size then do some (.mksl ei.size ei.bytes ei.zero (← cOpd E n) (← cOpd E m)) else none
      | none => none
    | _ => none
  | .slice t x lo hi mx => match E.tt t, mx with
    | some ⟨_, _, .slice e, _⟩, none => match E.tt e with
      | some ei => do some (.slice ei.size (← cOpd E x) (← cOpt E lo) (← cOpt E hi))
      | none => none
    | _, _ => none
  | .fieldAddr s x i => match E.tt s with
    | some ⟨_, _, .struct fs, _⟩ => match fs[i]? with
      | some (off, ft) => match E.tt ft with
        | some fi => if 0 < fi.size then (cOpd E x).map (.fad off) else none
        | none => none
      | none => none
    | _ => none
  | .field s x i => match E.tt s with
    | some ⟨_, _, .struct fs, _⟩ => match fs[i]? with
      | some (off, ft) => match E.tt ft with
        | some fi => if fi.desc.agg then (cOpd E x).map (.flda off fi.size) else (match fi.desc with | .other => none | _ => (cOpd E x).map (.fld off))
        | none => none
      | none => none
    | _ => none
  | .indexAddr t x i => match E.tt t with
    | some ⟨_, _, .slice e, _⟩ => match E.tt e with
      | some ei => do some (.iad ei.size (← cOpd E x) (← cOpd E i))
      | none => none
    | some ⟨_, _, .array n e, _⟩ => match E.tt e with
      | some ei => do some (.iadA n ei.size (← cOpd E x) (← cOpd E i))
      | none => none
    | _ => none
  | .extract x i => (cOpd E x).map fun y => .ext y i
  | .call { callee := .builtin b, args, argTypes } => (cOpds E args.toList).bind fun as => cBuiltin E b as argTypes.toList
  | .call { callee := .value f, args, argTypes := _ } => match cOpd E f, cOpds E args.toList with
    | some g, some as => some (.call g as)
    | _, _ => none
  | _ => none

end Go.Abs
/- Each abstract operation holds of the model's operation that it was read off. -/
namespace Go.Abs

/-- A constant's value. -/
def AV.cval : AV → Option Value
  | .int k n => some (.int k n)
  | .bool b => some (.bool b)
  | .str s => some (.string s)
  | .nilp => some (.pointer none)
  | .nilsl => some (.slice none 0 0)
  | .nilfn => some .nilFunc
  | _ => none

theorem VR.of_cval {E : Env} {c : Corr} {x : AV} {v : Value} (h : x.cval = some v) : VR E c x v ∧ v.oneCell' = true := by
  cases x <;> simp [AV.cval] at h <;> subst h
  · exact ⟨.int _ _, rfl⟩
  · exact ⟨.bool _, rfl⟩
  · exact ⟨.str _, rfl⟩
  · exact ⟨.nilp, rfl⟩
  · exact ⟨.nilsl, rfl⟩
  · exact ⟨.nilfn, rfl⟩

/-- The table's row of a type says what the program says. -/
structure TOK (E : Env) (t : Nat) (ti : TInfo) : Prop where
  info : ∃ i z, E.P.info? t = some i ∧ i.size = ti.size ∧ i.bytes = ti.bytes ∧ i.zero = some z ∧ z.cells.size = ti.zero.length ∧ ti.zero.length = ti.size ∧
    ∀ (j : Nat) (x : AV) (v : Value), ti.zero[j]? = some x → z.cells[j]? = some v → x.cval = some v
  desc : match ti.desc with
    | .int k => E.P.underlying t = some (.int k)
    | .bool => E.P.underlying t = some .bool
    | .str => E.P.underlying t = some .string
    | .struct fs => (E.P.stoodInHeld t = false ∧ E.P.eqGuardType E.P.depth t = false) ∧ ∃ fields : Array Field, E.P.underlying t = some (.struct fields) ∧ fields.toList.map (fun f => (f.offset, f.type)) = fs ∧ ∀ f ∈ fields.toList, f.name ≠ "_"
    | .slice e => E.P.underlying t = some (.slice e)
    | .array n e => E.P.underlying t = some (.array n e) ∧ 1 < n
    | .ptr e => E.P.underlying t = some (.pointer e)
    | .func => ∃ p r v, E.P.underlying t = some (.func p r v)
    | .other => True

def Env.Types (E : Env) : Prop := ∀ t ti, E.tt t = some ti → TOK E t ti

def TRel (E : Env) (c : Corr) (T : Tm) (a : Act) : Prop := ∀ s, VR E c (T s) (a.tmps.getD s undef)

theorem vAV_VR {E : Env} {c : Corr} {v : Value} {x : AV} (h : vAV v = some x) : VR E c x v := by
  cases v with
  | int k n => simp [vAV] at h; subst h; exact .int _ _
  | bool b => simp [vAV] at h; subst h; exact .bool _
  | string s => simp [vAV] at h; subst h; exact .str _
  | pointer a => cases a <;> simp [vAV] at h; subst h; exact .nilp
  | slice a n k => 
    cases a with
    | some a => simp [vAV] at h
    | none =>
      cases n with
      | succ n => simp [vAV] at h
      | zero => cases k with
        | succ k => simp [vAV] at h
        | zero => simp [vAV] at h; subst h; exact .nilsl
  | nilFunc => simp [vAV] at h; subst h; exact .nilfn
  | _ => simp [vAV] at h

theorem cOpd_VR {E : Env} {c : Corr} {H : Heap} {w : World} {T : Tm} {a : Act} (hs : Sim E c H w) (hT : TRel E c T a) {x : Operand} {y : AOpd} (h : cOpd E x = some y) :
    VR E c (y.ev T) (a.eval x) := by
  cases x with
  | tmp t => simp [cOpd] at h; subst h; exact hT t
  | const v =>
    simp only [cOpd, Option.map_eq_some_iff] at h
    obtain ⟨z, hz, rfl⟩ := h
    exact vAV_VR hz
  | global g =>
    simp only [cOpd, Option.map_eq_some_iff] at h
    obtain ⟨z, hz, rfl⟩ := h
    exact hs.glob g z hz
  | func f =>
    simp only [cOpd, Option.map_eq_some_iff] at h
    obtain ⟨z, hz, rfl⟩ := h
    exact .fn hz rfl (fun j x v h => by simp at h)

theorem cOpds_VR {E : Env} {c : Corr} {H : Heap} {w : World} {T : Tm} {a : Act} (hs : Sim E c H w) (hT : TRel E c T a) : ∀ {xs : List Operand} {ys : List AOpd}, cOpds E xs = some ys →
    xs.length = ys.length ∧ ∀ (j : Nat) (x : AV) (v : Value), (ys.map (AOpd.ev T))[j]? = some x → (xs.map a.eval)[j]? = some v → VR E c x v
  | [], ys, h => by simp [cOpds] at h; subst h; exact ⟨rfl, fun j x v h => by simp at h⟩
  | x :: xs, ys, h => by
    simp only [cOpds, Option.bind_eq_bind, Option.bind_eq_some_iff] at h
    obtain ⟨y, hy, ys', hys, e⟩ := h
    simp only [Option.some.injEq] at e
    subst e
    obtain ⟨h1, h2⟩ := cOpds_VR hs hT hys
    refine ⟨by simp [h1], fun j => ?_⟩
    cases j with
    | zero =>
      intro x' v hx hv
      simp at hx hv
      subst hx; subst hv
      exact cOpd_VR hs hT hy
    | succ j => intro x' v hx hv; exact h2 j x' v (by simpa using hx) (by simpa using hv)

/-- What an operation's step has come to. -/
def OpRes (E : Env) (o : Oper) (a : Act) (new : Nat) (c : Corr) (w : World) (H' : Heap) (v : AV) : Prop :=
  ∃ cv w' c', (∀ (next : Act → World → Prop) (Q : Exit → Act → World → Prop), next (a.put o.dst cv) w' → o.wp E.P a w next Q) ∧ StepX new c w c' w' ∧ Sim E c' H' w' ∧ VR E c' v cv

theorem OpRes.value {E : Env} {o : Oper} {a : Act} {new : Nat} {c c' : Corr} {w w' : World} {H' : Heap} {v : AV} {cv : Value} (hr : (execOp a.eval o).run E.P w = .ok (.value cv) w')
    (hx : StepX new c w c' w') (hs : Sim E c' H' w') (hv : VR E c' v cv) : OpRes E o a new c w H' v :=
  ⟨cv, w', c', fun next Q h => by simpa [Oper.wp, hr, Oper.upon] using h, hx, hs, hv⟩

theorem OpRes.skip {E : Env} {o : Oper} {a : Act} {new : Nat} {c c' : Corr} {w w' : World} {H' : Heap} (hr : (execOp a.eval o).run E.P w = .ok .skip w')
    (hx : StepX new c w c' w') (hs : Sim E c' H' w') : OpRes E o a new c w H' .undef :=
  ⟨Go.undef, w', c', fun next Q h => by simpa [Oper.wp, hr, Oper.upon] using h, hx, hs, .undef _⟩

/-- An operation that leaves the world alone. -/
theorem OpRes.quiet {E : Env} {o : Oper} {a : Act} {new : Nat} {c : Corr} {w : World} {H : Heap} {v : AV} {cv : Value} (hs : Sim E c H w) (hr : (execOp a.eval o).run E.P w = .ok (.value cv) w)
    (hv : VR E c v cv) : OpRes E o a new c w H v := .value hr (.refl _ _ _) hs hv

theorem sc_VR {E : Env} {c : Corr} {x : AV} {v : Value} (h : VR E c x v) (hx : x.ok = true) :
    v.cells.size = x.cells.length ∧ (∀ (j : Nat) (y : AV) (u : Value), x.cells[j]? = some y → v.cells[j]? = some u → VR E c y u) ∧ ∀ (j : Nat) (u : Value), v.cells[j]? = some u → u.oneCell' = true := by
  have one : ∀ {x : AV} {v : Value}, VR E c x v → v.oneCell' = true → x.cells = [x] → v.cells = #[v] → v.cells.size = x.cells.length ∧ (∀ (j : Nat) (y : AV) (u : Value), x.cells[j]? = some y → v.cells[j]? = some u → VR E c y u) ∧
      ∀ (j : Nat) (u : Value), v.cells[j]? = some u → u.oneCell' = true := fun {x v} h h1 hx hv => by
    rw [hx, hv]
    refine ⟨rfl, fun j y u hj hu => ?_, fun j u hu => ?_⟩
    · cases j with
      | zero => simp at hj hu; subst hj; subst hu; exact h
      | succ j => simp at hj
    · cases j with
      | zero => simp at hu; subst hu; exact h1
      | succ j => simp at hu
  cases h with
  | agg h1 h2 h3 => exact ⟨h1, h3, h2⟩
  | tup => simp [AV.ok] at hx
  | undef => simp [AV.ok] at hx
  | int k n => exact one (.int k n) rfl rfl rfl
  | bool b => exact one (.bool b) rfl rfl rfl
  | str s => exact one (.str s) rfl rfl rfl
  | ptr h => exact one (.ptr h) rfl rfl rfl
  | rp vs h1 h2 => exact one (.rp vs h1 h2) rfl rfl rfl
  | nilp => exact one .nilp rfl rfl rfl
  | sl h1 h2 h3 => exact one (.sl h1 h2 h3) rfl rfl rfl
  | slv h => exact one (.slv h) rfl rfl rfl
  | slz h1 h2 => exact one (.slz h1 h2) rfl rfl rfl
  | ro vs h1 h2 h3 h4 => exact one (.ro vs h1 h2 h3 h4) rfl rfl rfl
  | ro0 sz => exact one (.ro0 sz) rfl rfl rfl
  | roz sz a => exact one (.roz sz a) rfl rfl rfl
  | nilsl => exact one .nilsl rfl rfl rfl
  | fn h1 h2 h3 => exact one (.fn h1 h2 h3) rfl rfl rfl
  | nilfn => exact one .nilfn rfl rfl rfl

/-! ### Loads -/

theorem add_plain (b o n : Nat) : (⟨b, o, none⟩ : Addr).add n = ⟨b, o + n, none⟩ := by unfold Addr.add; split <;> simp_all

theorem isAgg_run {E : Env} (hE : E.Types) {t : Nat} {ti : TInfo} (h : E.tt t = some ti) (hd : ti.desc ≠ .other) (w : World) : (isAgg t).run E.P w = .ok ti.desc.agg w := by
  have hd' := (hE t ti h).desc
  unfold isAgg
  cases hq : ti.desc with
  | int k => rw [hq] at hd'; simp [run_underlying hd', TD.agg]
  | bool => rw [hq] at hd'; simp [run_underlying hd', TD.agg]
  | str => rw [hq] at hd'; simp [run_underlying hd', TD.agg]
  | struct fs => rw [hq] at hd'; obtain ⟨_, f, hf, _⟩ := hd'; simp [run_underlying hf, TD.agg]
  | slice e => rw [hq] at hd'; simp [run_underlying hd', TD.agg]
  | array n e => rw [hq] at hd'; simp [run_underlying hd'.1, TD.agg]
  | ptr e => rw [hq] at hd'; simp [run_underlying hd', TD.agg]
  | func => rw [hq] at hd'; obtain ⟨p, r, v, hf⟩ := hd'; simp [run_underlying hf, TD.agg]
  | other => exact absurd hq hd

theorem sizeOf_run {E : Env} (hE : E.Types) {t : Nat} {ti : TInfo} (h : E.tt t = some ti) (w : World) : (sizeOf t).run E.P w = .ok ti.size w := by
  obtain ⟨i, z, hi, hsz, _⟩ := (hE t ti h).info
  simp [sizeOf, typeInfo, hi, hsz]

/-- A cell of a live block. -/
theorem Sim.cell {E : Env} {c : Corr} {H : Heap} {w : World} (hs : Sim E c H w) {id b nc sz : Nat} {es : Blk} (hid : H id = some es) (hr : c.ρ id = some ⟨some (b, nc), sz⟩) {i j : Nat} {cs : List AV} {x : AV}
    (hi : es[i]? = some cs) (hj : cs[j]? = some x) : ∃ v, w.cell? ⟨b, i * sz + j, none⟩ = some v ∧ VR E c x v ∧ v.oneCell' = true := by
  obtain ⟨_, cells, t, hb, _, hrow⟩ := hs.live id es b nc sz hid hr
  obtain ⟨v, h1, h2, h3⟩ := hrow i cs j x hi hj
  exact ⟨v, by simp [World.cell?, hb, h1], h2, h3⟩

theorem run_loadVar_one {E : Env} (hE : E.Types) {t : Nat} {ti : TInfo} (h : E.tt t = some ti) (hd : ti.desc ≠ .other) (ha : ti.desc.agg = false) {w : World} {a : Addr} {v : Value} (hv : w.cell? a = some v) :
    (loadVar t a).run E.P w = .ok v w := by
  simp [loadVar, isAgg_run hE h hd, ha, hv]

theorem run_loadVar_agg {E : Env} (hE : E.Types) {t : Nat} {ti : TInfo} (h : E.tt t = some ti) (ha : ti.desc.agg = true) {w : World} {b o : Nat} (vs : List Value) (hl : vs.length = ti.size)
    (hv : ∀ j v, vs[j]? = some v → w.cell? ⟨b, o + j, none⟩ = some v) : (loadVar t ⟨b, o, none⟩).run E.P w = .ok (.agg vs.toArray) w := by
  have hd : ti.desc ≠ .other := fun e => by rw [e] at ha; simp [TD.agg] at ha
  have hl' := run_loadCells_list (P := E.P) w ⟨b, o, none⟩ vs (fun j v hj => by rw [add_plain]; exact hv j v hj)
  rw [hl] at hl'
  simp [loadVar, isAgg_run hE h hd, ha, sizeOf_run hE h, hl']

/-- The values of cells that are told. -/
theorem choose_vals {P : Nat → AV → Value → Prop} : ∀ (cs : List AV), (∀ (j : Nat) (x : AV), cs[j]? = some x → ∃ v, P j x v) → ∃ vs : List Value, vs.length = cs.length ∧ ∀ (j : Nat) (x : AV) (v : Value), cs[j]? = some x → vs[j]? = some v → P j x v := by
  intro cs
  induction cs generalizing P with
  | nil => intro _; exact ⟨[], rfl, fun j x v h => by simp at h⟩
  | cons x cs ih =>
    intro h
    obtain ⟨v, hv⟩ := h 0 x rfl
    obtain ⟨vs, h1, h2⟩ := ih (P := fun j => P (j + 1)) (fun j y hj => h (j + 1) y (by simpa using hj))
    refine ⟨v :: vs, by simp [h1], fun j y u hj hu => ?_⟩
    cases j with
    | zero => simp at hj hu; subst hj; subst hu; exact hv
    | succ j => exact h2 j y u (by simpa using hj) (by simpa using hu)

theorem VR.mkAgg {E : Env} {c : Corr} {cs : List AV} {vs : List Value} (hl : vs.length = cs.length) (h : ∀ (j : Nat) (x : AV) (v : Value), cs[j]? = some x → vs[j]? = some v → VR E c x v ∧ v.oneCell' = true) :
    VR E c (.agg cs) (.agg vs.toArray) :=
  .agg (by simpa using hl) (fun j v hj => by
    have hj' : vs[j]? = some v := by simpa using hj
    have : j < cs.length := by rw [← hl]; exact (List.getElem?_eq_some_iff.1 hj').1
    exact (h j cs[j] v (by simp [this]) hj').2) (fun j x v hj hv => (h j x v hj (by simpa using hv)).1)

end Go.Abs
/- Each abstract operation holds of the model's operation that it was read off: the ones that leave the world alone. -/
namespace Go.Abs

section
variable {E : Env} {c : Corr} {H : Heap} {w : World} {T : Tm} {a : Act}

theorem ld_sound (hE : E.Types) (hs : Sim E c H w) {t : Nat} {ti : TInfo} (ht : E.tt t = some ti) (hd : ti.desc ≠ .other) (ha : ti.desc.agg = false) {x : AV} {cx : Value} (hx : VR E c x cx) {v : AV} {need : List (Nat × Blk)} {give : List (Nat × Option Blk)} {new : Nat} {T : Tm}
    (h : aop new T H (.ld (.c x)) = some (v, need, give)) : give = [] ∧ ∃ cv, (Instr.loadAt t cx).run E.P w = .ok cv w ∧ VR E c v cv := by
  simp only [aop, AOpd.ev] at h
  cases hx with
  | ptr hr =>
    rename_i id i off b nc sz
    simp only at h
    split at h
    · rename_i es hid
      split at h
      · rename_i cs hi
        split at h
        · rename_i u hu
          simp only [Option.some.injEq, Prod.mk.injEq] at h
          obtain ⟨rfl, _, rfl⟩ := h
          obtain ⟨cv, h1, h2, _⟩ := hs.cell hid hr hi hu
          exact ⟨rfl, cv, by simp [Instr.loadAt, Instr.sureAddr, run_loadVar_one hE ht hd ha h1], h2⟩
        · simp at h
      · simp at h
    · simp at h
  | rp vs h1 h2 =>
    simp only at h
    split at h
    · rename_i u hu
      simp only [pure1, Option.some.injEq, Prod.mk.injEq] at h
      obtain ⟨rfl, _, rfl⟩ := h
      have h3 := (hs.mem _ _ _ (h1 0 _ hu).1).1
      exact ⟨rfl, vs 0, by simp [Instr.loadAt, Instr.sureAddr, run_loadVar_one hE ht hd ha (by simpa using h3)], h2 0 _ hu⟩
    · simp at h
  | _ => simp at h

theorem lda_sound (hE : E.Types) (hs : Sim E c H w) {t : Nat} {ti : TInfo} (ht : E.tt t = some ti) (ha : ti.desc.agg = true) {x : AV} {cx : Value} (hx : VR E c x cx) {v : AV} {need : List (Nat × Blk)} {give : List (Nat × Option Blk)} {new : Nat} {T : Tm}
    (h : aop new T H (.lda ti.size (.c x)) = some (v, need, give)) : give = [] ∧ ∃ cv, (Instr.loadAt t cx).run E.P w = .ok cv w ∧ VR E c v cv := by
  simp only [aop, AOpd.ev] at h
  cases hx with
  | ptr hr =>
    rename_i id i off b nc sz
    simp only at h
    split at h
    · rename_i es hid
      split at h
      · rename_i cs hi
        split at h
        · rename_i hle
          simp only [Option.some.injEq, Prod.mk.injEq] at h
          obtain ⟨rfl, _, rfl⟩ := h
          have hlen : ((cs.drop off).take ti.size).length = ti.size := by simp; omega
          obtain ⟨vs, hl, hv⟩ := choose_vals (P := fun j x v => w.cell? ⟨b, i * sz + off + j, none⟩ = some v ∧ VR E c x v ∧ v.oneCell' = true) ((cs.drop off).take ti.size) (fun j x hj => by
            rw [List.getElem?_take] at hj
            split at hj
            · rw [List.getElem?_drop] at hj
              obtain ⟨u, g1, g2⟩ := hs.cell hid hr hi hj
              exact ⟨u, by rw [Nat.add_assoc]; exact g1, g2⟩
            · simp at hj)
          have hcell : ∀ j v, vs[j]? = some v → w.cell? ⟨b, i * sz + off + j, none⟩ = some v := fun j v hj => by
            have hjl : j < ((cs.drop off).take ti.size).length := by rw [← hl]; exact (List.getElem?_eq_some_iff.1 hj).1
            exact (hv j _ v (List.getElem?_eq_getElem hjl) hj).1
          exact ⟨rfl, _, by simp only [Instr.loadAt, Instr.sureAddr, Sem.run_bind, Sem.run_pure, Result.andThen_ok]; exact run_loadVar_agg hE ht ha vs (hl.trans hlen) hcell, VR.mkAgg hl (fun j x v h1 h2 => (hv j x v h1 h2).2)⟩
        · simp at h
      · simp at h
    · simp at h
  | rp vs h1 h2 =>
    rename_i cs b o
    simp only at h
    split at h
    · rename_i hle
      simp only [pure1, Option.some.injEq, Prod.mk.injEq] at h
      obtain ⟨rfl, _, rfl⟩ := h
      have hlen : (cs.take ti.size).length = ti.size := by simp; omega
      obtain ⟨us, hl, hv⟩ := choose_vals (P := fun j x v => w.cell? ⟨b, o + j, none⟩ = some v ∧ VR E c x v ∧ v.oneCell' = true) (cs.take ti.size) (fun j x hj => by
        rw [List.getElem?_take] at hj
        split at hj
        · exact ⟨vs j, (hs.mem _ _ _ (h1 j x hj).1).1, h2 j x hj, (h1 j x hj).2⟩
        · simp at hj)
      have hcell : ∀ j v, us[j]? = some v → w.cell? ⟨b, o + j, none⟩ = some v := fun j v hj => by
        have hjl : j < (cs.take ti.size).length := by rw [← hl]; exact (List.getElem?_eq_some_iff.1 hj).1
        exact (hv j _ v (List.getElem?_eq_getElem hjl) hj).1
      exact ⟨rfl, _, by simp only [Instr.loadAt, Instr.sureAddr, Sem.run_bind, Sem.run_pure, Result.andThen_ok]; exact run_loadVar_agg hE ht ha us (hl.trans hlen) hcell, VR.mkAgg hl (fun j x v h1 h2 => (hv j x v h1 h2).2)⟩
    · simp at h
  | _ => simp at h

theorem VR.rp_drop {cs : List AV} {b o : Nat} (h : VR E c (.rp cs) (.pointer (some ⟨b, o, none⟩))) (n : Nat) : VR E c (.rp (cs.drop n)) (.pointer (some ⟨b, o + n, none⟩)) := by
  cases h with
  | rp vs h1 h2 =>
    refine .rp (fun j => vs (n + j)) (fun j x hj => ?_) (fun j x hj => ?_)
    · rw [List.getElem?_drop] at hj
      have := h1 (n + j) x hj
      rwa [← Nat.add_assoc] at this
    · rw [List.getElem?_drop] at hj
      exact h2 (n + j) x hj

/-- An element of a slice that is never written. -/
theorem VR.ro_elem {sz : Nat} {es : List (List AV)} {b o n cap : Nat} (h : VR E c (.ro sz es) (.slice (some ⟨b, o, none⟩) n cap)) (i : Nat) : VR E c (.rp (es.getD i [])) (.pointer (some ⟨b, o + i * sz, none⟩)) := by
  cases h with
  | roz sz a => exact .rp (fun j => .bool true) (fun j x hj => by simp at hj) (fun j x hj => by simp at hj)
  | ro vs h1 h2 h3 h4 =>
    cases hi : es[i]? with
    | none => exact .rp (fun j => .bool true) (fun j x hj => by simp [hi] at hj) (fun j x hj => by simp [hi] at hj)
    | some cs => exact .rp (vs i) (fun j x hj => h3 i cs j x hi (by simpa [hi] using hj)) (fun j x hj => h4 i cs j x hi (by simpa [hi] using hj))

theorem VR.ro_cut {sz : Nat} {es : List (List AV)} {b o n cap : Nat} (h : VR E c (.ro sz es) (.slice (some ⟨b, o, none⟩) n cap)) (l k cap' : Nat) (hk : ((es.drop l).take k).length ≤ cap' ∧ cap' < 9223372036854775808) :
    VR E c (.ro sz ((es.drop l).take k)) (.slice (some ⟨b, o + l * sz, none⟩) ((es.drop l).take k).length cap') := by
  have get : ∀ {i cs}, ((es.drop l).take k)[i]? = some cs → es[l + i]? = some cs := fun {i cs} hi => by
    rw [List.getElem?_take] at hi
    split at hi
    · rwa [List.getElem?_drop] at hi
    · simp at hi
  cases h with
  | roz sz a =>
    refine .ro (fun _ _ => .bool true) hk (fun i cs hi => ?_) (fun i cs j x hi hj => ?_) (fun i cs j x hi hj => ?_) <;> (have := get hi; simp at this)
  | ro vs h1 h2 h3 h4 =>
    refine .ro (fun i j => vs (l + i) j) hk (fun i cs hi => h2 _ _ (get hi)) (fun i cs j x hi hj => ?_) (fun i cs j x hi hj => h4 _ cs j x (get hi) hj)
    have := h3 _ cs j x (get hi) hj
    rwa [Nat.add_mul, ← Nat.add_assoc] at this

theorem iad_sound (hE : E.Types) {t e : Nat} {ti ei : TInfo} (ht : E.tt t = some ti) (hd : ti.desc = .slice e) (he : E.tt e = some ei) {x i : AV} {cx ci : Value} (hx : VR E c x cx) (hi : VR E c i ci)
    {v : AV} {need : List (Nat × Blk)} {give : List (Nat × Option Blk)} {new : Nat} {T : Tm} (h : aop new T H (.iad ei.size (.c x) (.c i)) = some (v, need, give)) :
    give = [] ∧ ∃ cv, (Instr.indexAt t cx ci).run E.P w = .ok cv w ∧ VR E c v cv := by
  have hu := (hE t ti ht).desc
  rw [hd] at hu
  simp only at hu
  simp only [aop, AOpd.ev] at h
  cases hx <;> cases hi <;> simp only [pure1, reduceCtorEq] at h
  · -- sl
    rename_i hr hle hcap k n
    split at h
    · rename_i hc
      obtain ⟨rfl, h0, h1⟩ := hc
      simp only [Option.some.injEq, Prod.mk.injEq] at h
      obtain ⟨rfl, _, rfl⟩ := h
      refine ⟨rfl, _, ?_, .ptr hr⟩
      simp [Instr.indexAt, asIntOf, run_underlying hu, h0, h1, sizeOf_run hE he, add_plain, Nat.add_mul]
    · simp at h
  · -- slz
    split at h
    · rename_i hc
      omega
    · simp at h
  · split at h
    · rename_i hc
      omega
    · simp at h
  · -- ro
    rename_i sz es b o cap vs g1 g2 g3 g4 k n
    split at h
    · rename_i hc
      obtain ⟨rfl, h0, h1⟩ := hc
      simp only [Option.some.injEq, Prod.mk.injEq] at h
      obtain ⟨rfl, _, rfl⟩ := h
      refine ⟨rfl, _, ?_, VR.ro_elem (.ro vs g1 g2 g3 g4) n.toNat⟩
      simp [Instr.indexAt, asIntOf, run_underlying hu, h0, h1, sizeOf_run hE he, add_plain]
    · simp at h
  · split at h
    · rename_i hc
      simp at hc
      omega
    · simp at h
  · split at h
    · rename_i hc
      simp at hc
      omega
    · simp at h

theorem iadA_sound (hE : E.Types) {t m e : Nat} {ti ei : TInfo} (ht : E.tt t = some ti) (hd : ti.desc = .array m e) (he : E.tt e = some ei) {x i : AV} {cx ci : Value} (hx : VR E c x cx) (hi : VR E c i ci)
    {v : AV} {need : List (Nat × Blk)} {give : List (Nat × Option Blk)} {new : Nat} {T : Tm} (h : aop new T H (.iadA m ei.size (.c x) (.c i)) = some (v, need, give)) :
    give = [] ∧ ∃ cv, (Instr.indexAt t cx ci).run E.P w = .ok cv w ∧ VR E c v cv := by
  have hu := (hE t ti ht).desc
  rw [hd] at hu
  simp only at hu
  obtain ⟨hu, _⟩ := hu
  simp only [aop, AOpd.ev] at h
  cases hx <;> cases hi <;> simp only [pure1, reduceCtorEq] at h
  · rename_i hr k n
    split at h
    · rename_i hc
      obtain ⟨h0, h1⟩ := hc
      simp only [Option.some.injEq, Prod.mk.injEq] at h
      obtain ⟨rfl, _, rfl⟩ := h
      refine ⟨rfl, _, ?_, .ptr hr⟩
      simp [Instr.indexAt, Instr.sureAddr, asIntOf, run_underlying hu, h0, h1, sizeOf_run hE he, add_plain, Nat.add_assoc]
    · simp at h
  · rename_i vs g1 g2 k n
    split at h
    · rename_i hc
      obtain ⟨h0, h1⟩ := hc
      simp only [Option.some.injEq, Prod.mk.injEq] at h
      obtain ⟨rfl, _, rfl⟩ := h
      refine ⟨rfl, _, ?_, VR.rp_drop (.rp vs g1 g2) _⟩
      simp [Instr.indexAt, Instr.sureAddr, asIntOf, run_underlying hu, h0, h1, sizeOf_run hE he, add_plain]
    · simp at h

theorem fad_sound (hE : E.Types) {s ft off i : Nat} {fs : List (Nat × Nat)} {si fi : TInfo} (ht : E.tt s = some si) (hd : si.desc = .struct fs) (hf : fs[i]? = some (off, ft)) (hfi : E.tt ft = some fi) (h0 : 0 < fi.size) {x : AV} {cx : Value} (hx : VR E c x cx)
    {v : AV} {need : List (Nat × Blk)} {give : List (Nat × Option Blk)} {new : Nat} {T : Tm} (h : aop new T H (.fad off (.c x)) = some (v, need, give)) :
    give = [] ∧ ∃ cv, (Instr.fieldAt s cx i).run E.P w = .ok cv w ∧ VR E c v cv := by
  have hu := (hE s si ht).desc
  rw [hd] at hu
  simp only at hu
  obtain ⟨_, fields, hu, hfs, _⟩ := hu
  have hfield : ∃ f : Field, fields[i]? = some f ∧ f.offset = off ∧ f.type = ft := by
    have : (fields.toList.map (fun f => (f.offset, f.type)))[i]? = some (off, ft) := by rw [hfs]; exact hf
    rw [List.getElem?_map, Option.map_eq_some_iff] at this
    obtain ⟨f, g1, g2⟩ := this
    simp only [Prod.mk.injEq] at g2
    exact ⟨f, by simpa using g1, g2⟩
  obtain ⟨f, g1, rfl, rfl⟩ := hfield
  have hsz := sizeOf_run hE hfi
  simp only [aop, AOpd.ev] at h
  cases hx <;> simp only [pure1, reduceCtorEq, Option.some.injEq, Prod.mk.injEq] at h
  · rename_i hr
    obtain ⟨rfl, _, rfl⟩ := h
    refine ⟨rfl, _, ?_, .ptr hr⟩
    simp [Instr.fieldAt, Instr.sureAddr, run_underlying hu, g1, fieldPlace, hsz, show ¬ fi.size = 0 by omega, add_plain, Nat.add_assoc]
  · rename_i vs k1 k2
    obtain ⟨rfl, _, rfl⟩ := h
    refine ⟨rfl, _, ?_, VR.rp_drop (.rp vs k1 k2) _⟩
    simp [Instr.fieldAt, Instr.sureAddr, run_underlying hu, g1, fieldPlace, hsz, show ¬ fi.size = 0 by omega, add_plain]


theorem bin_sound {op : BinOp} {t : Nat} {x y : AV} {cx cy : Value} (hx : VR E c x cx) (hy : VR E c y cy) {v : AV} {need : List (Nat × Blk)} {give : List (Nat × Option Blk)} {new : Nat} {T : Tm}
    (h : aop new T H (.bin op (.c x) (.c y)) = some (v, need, give)) : give = [] ∧ ∃ cv, (binOp op t cx cy).run E.P w = .ok cv w ∧ VR E c v cv ∧ ∃ k k' a b, cx = .int k a ∧ cy = .int k' b := by
  simp only [aop, AOpd.ev] at h
  cases hx <;> cases hy <;> simp only [reduceCtorEq] at h
  rename_i k a k' b
  have sh : ∀ {r : Option AV}, r.bind pure1 = some (v, need, give) → r = some v ∧ give = [] := fun {r} h => by
    cases r with
    | none => simp at h
    | some r => simp [pure1] at h; exact ⟨by rw [h.1], h.2.2⟩
  cases op with
  | shl =>
    simp only at h
    obtain ⟨h1, rfl⟩ := sh h
    simp only [ashift] at h1
    split at h1
    · simp at h1
    · rename_i hb
      simp only [Option.some.injEq] at h1
      subst h1
      exact ⟨rfl, _, by simp [binOp, Op.shift, hb], .int _ _, k, k', a, b, rfl, rfl⟩
  | shr =>
    simp only at h
    obtain ⟨h1, rfl⟩ := sh h
    simp only [ashift] at h1
    split at h1
    · simp at h1
    · rename_i hb
      simp only [Option.some.injEq] at h1
      subst h1
      exact ⟨rfl, _, by simp [binOp, Op.shift, hb], .int _ _, k, k', a, b, rfl, rfl⟩
  | quo =>
    simp only at h
    split at h
    · rename_i e; subst e
      obtain ⟨h1, rfl⟩ := sh h
      simp only [abin] at h1
      split at h1
      · simp at h1
      · rename_i hb
        simp only [Option.some.injEq] at h1
        subst h1
        exact ⟨rfl, _, by simp [binOp, Op.intDiv, hb], .int _ _, k, k, a, b, rfl, rfl⟩
    · simp at h
  | rem =>
    simp only at h
    split at h
    · rename_i e; subst e
      obtain ⟨h1, rfl⟩ := sh h
      simp only [abin] at h1
      split at h1
      · simp at h1
      · rename_i hb
        simp only [Option.some.injEq] at h1
        subst h1
        exact ⟨rfl, _, by simp [binOp, Op.intDiv, hb], .int _ _, k, k, a, b, rfl, rfl⟩
    · simp at h
  | _ =>
    simp only at h
    split at h
    · rename_i e; subst e
      obtain ⟨h1, rfl⟩ := sh h
      simp only [abin, Option.some.injEq] at h1
      subst h1
      first
        | exact ⟨rfl, .int k _, by simp [binOp, Op.intArith]; rfl, .int _ _, k, k, a, b, rfl, rfl⟩
        | exact ⟨rfl, .int k _, by simp [binOp]; rfl, .int _ _, k, k, a, b, rfl, rfl⟩
        | exact ⟨rfl, .bool _, by simp [binOp, Op.intCmp], .bool _, k, k, a, b, rfl, rfl⟩
    · simp at h

end
end Go.Abs
/- Each abstract operation holds of the model's operation that it was read off: the rest of those that leave the world alone. -/
namespace Go.Abs

section
variable {E : Env} {c : Corr} {H : Heap} {w : World} {T : Tm} {a : Act}

theorem un_sound {op : UnOp} {x : AV} {cx : Value} (hx : VR E c x cx) {v : AV} {need : List (Nat × Blk)} {give : List (Nat × Option Blk)} {new : Nat} {T : Tm}
    (h : aop new T H (.un op (.c x)) = some (v, need, give)) : give = [] ∧ ∃ cv, (Op.unary op cx).run E.P w = .ok cv w ∧ VR E c v cv := by
  simp only [aop, AOpd.ev] at h
  cases op <;> cases hx <;> simp only [pure1, reduceCtorEq, Option.some.injEq, Prod.mk.injEq] at h
  all_goals obtain ⟨rfl, _, rfl⟩ := h
  · exact ⟨rfl, .int _ _, by simp [Op.unary, Op.intArith], .int _ _⟩
  · exact ⟨rfl, .int _ _, by simp [Op.unary]; rfl, .int _ _⟩
  · exact ⟨rfl, .bool _, by simp [Op.unary], .bool _⟩

theorem conv_sound (hE : E.Types) {s d : Nat} {di : TInfo} {k : IntKind} (hd : E.tt d = some di) (hk : di.desc = .int k) (hsrc : ∃ x, E.P.underlying s = some x) {x : AV} {cx : Value} (hx : VR E c x cx)
    {v : AV} {need : List (Nat × Blk)} {give : List (Nat × Option Blk)} {new : Nat} {T : Tm}
    (h : aop new T H (.conv k (.c x)) = some (v, need, give)) : give = [] ∧ ∃ cv, (convert s d cx).run E.P w = .ok cv w ∧ VR E c v cv := by
  have hu := (hE d di hd).desc
  rw [hk] at hu
  simp only at hu
  obtain ⟨xs, hsrc⟩ := hsrc
  simp only [aop, AOpd.ev] at h
  cases hx <;> simp only [pure1, reduceCtorEq, Option.some.injEq, Prod.mk.injEq] at h
  obtain ⟨rfl, _, rfl⟩ := h
  exact ⟨rfl, .int _ _, by simp [convert, run_underlying hu, run_underlying hsrc, Conv.intToInt], .int _ _⟩

theorem len_sound (hE : E.Types) {t e : Nat} {ti : TInfo} (ht : E.tt t = some ti) (hd : ti.desc = .slice e) {x : AV} {cx : Value} (hx : VR E c x cx) {v : AV} {need : List (Nat × Blk)} {give : List (Nat × Option Blk)} {new ty : Nat} {T : Tm}
    (h : aop new T H (.len (.c x)) = some (v, need, give)) : give = [] ∧ ∃ cv, (Builtin.len_ #[t] ty #[cx]).run E.P w = .ok cv w ∧ VR E c v cv := by
  have hu := (hE t ti ht).desc
  rw [hd] at hu
  simp only at hu
  simp only [aop, AOpd.ev] at h
  cases hx <;> simp only [pure1, reduceCtorEq, Option.some.injEq, Prod.mk.injEq] at h
  all_goals
    obtain ⟨rfl, _, rfl⟩ := h
    exact ⟨rfl, .int .i64 _, by simp [Builtin.len_, run_underlying hu, goInt], .int _ _⟩

theorem lenc_sound (hE : E.Types) {t m e : Nat} {ti : TInfo} (ht : E.tt t = some ti) (hd : ti.desc = .array m e) {cx : Value} {ty : Nat} :
    (Builtin.len_ #[t] ty #[cx]).run E.P w = .ok (.int .i64 m) w := by
  have hu := (hE t ti ht).desc
  rw [hd] at hu
  simp only at hu
  simp [Builtin.len_, run_underlying hu.1, goInt]

theorem mn_sound {x y : AV} {cx cy : Value} (hx : VR E c x cx) (hy : VR E c y cy) {v : AV} {need : List (Nat × Blk)} {give : List (Nat × Option Blk)} {new ty : Nat} {T : Tm} {ts : Array Nat}
    (h : aop new T H (.mn (.c x) (.c y)) = some (v, need, give)) : give = [] ∧ ∃ cv, (Builtin.min_ ts ty #[cx, cy]).run E.P w = .ok cv w ∧ VR E c v cv := by
  simp only [aop, AOpd.ev] at h
  cases hx <;> cases hy <;> simp only [pure1, reduceCtorEq, Option.some.injEq, Prod.mk.injEq] at h
  obtain ⟨rfl, _, rfl⟩ := h
  exact ⟨rfl, .int _ _, by simp [Builtin.min_, Builtin.min2], .int _ _⟩

theorem mx_sound {x y : AV} {cx cy : Value} (hx : VR E c x cx) (hy : VR E c y cy) {v : AV} {need : List (Nat × Blk)} {give : List (Nat × Option Blk)} {new ty : Nat} {T : Tm} {ts : Array Nat}
    (h : aop new T H (.mx (.c x) (.c y)) = some (v, need, give)) : give = [] ∧ ∃ cv, (Builtin.max_ ts ty #[cx, cy]).run E.P w = .ok cv w ∧ VR E c v cv := by
  simp only [aop, AOpd.ev] at h
  cases hx <;> cases hy <;> simp only [pure1, reduceCtorEq, Option.some.injEq, Prod.mk.injEq] at h
  obtain ⟨rfl, _, rfl⟩ := h
  exact ⟨rfl, .int _ _, by simp [Builtin.max_, Builtin.max2], .int _ _⟩

theorem ext_sound {x : AV} {cx : Value} (hx : VR E c x cx) {i : Nat} {v : AV} {need : List (Nat × Blk)} {give : List (Nat × Option Blk)} {new : Nat} {T : Tm}
    (h : aop new T H (.ext (.c x) i) = some (v, need, give)) : give = [] ∧ ∃ cv, (Instr.extract cx i).run E.P w = .ok cv w ∧ VR E c v cv := by
  simp only [aop, AOpd.ev] at h
  cases hx <;> simp only [reduceCtorEq] at h
  rename_i cs vs h1 h2
  split at h
  · rename_i u hu
    simp only [pure1, Option.some.injEq, Prod.mk.injEq] at h
    obtain ⟨rfl, _, rfl⟩ := h
    have hi : i < vs.size := by rw [h1]; exact (List.getElem?_eq_some_iff.1 hu).1
    exact ⟨rfl, vs[i], by simp [Instr.extract, hi], h2 i _ _ hu (by simp [hi])⟩
  · simp at h

theorem fld_sound (hE : E.Types) {s ft off i : Nat} {fs : List (Nat × Nat)} {si fi : TInfo} (ht : E.tt s = some si) (hd : si.desc = .struct fs) (hf : fs[i]? = some (off, ft)) (hfi : E.tt ft = some fi) (hd' : fi.desc ≠ .other)
    {x : AV} {cx : Value} (hx : VR E c x cx) {v : AV} {need : List (Nat × Blk)} {give : List (Nat × Option Blk)} {new : Nat} {T : Tm}
    (h : (fi.desc.agg = false ∧ aop new T H (.fld off (.c x)) = some (v, need, give)) ∨ (fi.desc.agg = true ∧ aop new T H (.flda off fi.size (.c x)) = some (v, need, give))) :
    give = [] ∧ ∃ cv, (Instr.field s cx i).run E.P w = .ok cv w ∧ VR E c v cv := by
  have hu := (hE s si ht).desc
  rw [hd] at hu
  simp only at hu
  obtain ⟨_, fields, hu, hfs, _⟩ := hu
  have hfield : ∃ f : Field, fields[i]? = some f ∧ f.offset = off ∧ f.type = ft := by
    have : (fields.toList.map (fun f => (f.offset, f.type)))[i]? = some (off, ft) := by rw [hfs]; exact hf
    rw [List.getElem?_map, Option.map_eq_some_iff] at this
    obtain ⟨f, g1, g2⟩ := this
    simp only [Prod.mk.injEq] at g2
    exact ⟨f, by simpa using g1, g2⟩
  obtain ⟨f, g1, rfl, rfl⟩ := hfield
  have hag := isAgg_run hE hfi hd' w
  have hsz := sizeOf_run hE hfi w
  rcases h with ⟨ha, h⟩ | ⟨ha, h⟩
  · simp only [aop, AOpd.ev] at h
    cases hx <;> simp only [reduceCtorEq] at h
    rename_i cs vs h1 h3 h2
    split at h
    · rename_i u hu'
      simp only [pure1, Option.some.injEq, Prod.mk.injEq] at h
      obtain ⟨rfl, _, rfl⟩ := h
      have hi : f.offset < vs.size := by rw [h1]; exact (List.getElem?_eq_some_iff.1 hu').1
      exact ⟨rfl, vs[f.offset], by simp [Instr.field, run_underlying hu, g1, asAgg, part, hag, ha, hi], h2 _ _ _ hu' (by simp [hi])⟩
    · simp at h
  · simp only [aop, AOpd.ev] at h
    cases hx <;> simp only [reduceCtorEq] at h
    rename_i cs vs h1 h3 h2
    split at h
    · rename_i hle
      simp only [pure1, Option.some.injEq, Prod.mk.injEq] at h
      obtain ⟨rfl, _, rfl⟩ := h
      refine ⟨rfl, .agg (vs.extract f.offset (f.offset + fi.size)), by simp [Instr.field, run_underlying hu, g1, asAgg, part, hag, ha, hsz], ?_⟩
      have get : ∀ {j u}, (vs.extract f.offset (f.offset + fi.size))[j]? = some u → vs[f.offset + j]? = some u := fun {j u} hj => by
        rw [Array.getElem?_extract] at hj
        split at hj
        · exact hj
        · simp at hj
      refine .agg (by simp [h1]; omega) (fun j u hj => h3 _ _ (get hj)) (fun j y u hj hu' => ?_)
      rw [List.getElem?_take] at hj
      split at hj
      · rw [List.getElem?_drop] at hj
        exact h2 _ _ _ hj (get hu')
      · simp at hj
    · simp at h

theorem nilck_sound {o : Oper} {x0 : Operand} (ho : o.op = .nilCheck x0) {x : AV} (hx : VR E c x (a.eval x0)) {v : AV} {need : List (Nat × Blk)} {give : List (Nat × Option Blk)} {new : Nat} {T : Tm}
    (h : aop new T H (.nilck (.c x)) = some (v, need, give)) : give = [] ∧ ∃ cv, (execOp a.eval o).run E.P w = .ok (.value cv) w ∧ VR E c v cv := by
  simp only [aop, AOpd.ev] at h
  simp only [execOp, ho]
  generalize a.eval x0 = cx at hx
  cases hx <;> simp only [pure1, reduceCtorEq, Option.some.injEq, Prod.mk.injEq] at h
  · rename_i h1
    obtain ⟨rfl, _, rfl⟩ := h
    exact ⟨rfl, _, rfl, .ptr h1⟩
  · rename_i vs h1 h2
    obtain ⟨rfl, _, rfl⟩ := h
    exact ⟨rfl, _, rfl, .rp vs h1 h2⟩
  · rename_i h1 h2 h3
    obtain ⟨rfl, _, rfl⟩ := h
    exact ⟨rfl, _, rfl, .fn h1 h2 h3⟩

/-! ### Parts of what is built -/

theorem spl_length : ∀ (vs cs : List AV) (off : Nat), (spl cs off vs).length = cs.length
  | [], cs, off => rfl
  | v :: r, cs, off => by rw [spl, spl_length r]; simp

theorem spl_get : ∀ (vs cs : List AV) (off j : Nat), (spl cs off vs)[j]? = if off ≤ j ∧ j < off + vs.length then (if j < cs.length then vs[j - off]? else none) else cs[j]?
  | [], cs, off, j => by
    have h : ¬ (off ≤ j ∧ j < off + ([] : List AV).length) := by simp
    rw [spl, if_neg h]
  | v :: r, cs, off, j => by
    rw [spl, spl_get r]
    simp only [List.length_set, List.length_cons, List.getElem?_set]
    by_cases h1 : off ≤ j ∧ j < off + (r.length + 1)
    · rw [if_pos h1]
      by_cases h2 : j = off
      · subst h2
        rw [if_neg (by omega)]
        simp
      · rw [if_pos (by omega)]
        have : j - off = j - (off + 1) + 1 := by omega
        rw [this, List.getElem?_cons_succ]
    · rw [if_neg h1, if_neg (by omega), if_neg (by omega)]

/-- How lists of cells stand for lists of values. -/
def CR (E : Env) (c : Corr) (cs : List AV) (vs : List Value) : Prop :=
  vs.length = cs.length ∧ (∀ (j : Nat) (x : AV) (v : Value), cs[j]? = some x → vs[j]? = some v → VR E c x v) ∧ ∀ v ∈ vs, v.oneCell' = true

theorem CR.of_val {x : AV} {v : Value} (h : VR E c x v) (hx : x.ok = true) : CR E c x.cells v.cells.toList := by
  obtain ⟨h1, h2, h3⟩ := sc_VR h hx
  refine ⟨by simpa using h1, fun j y u hj hu => h2 j y u hj (by simpa using hu), fun u hu => ?_⟩
  obtain ⟨j, hj, rfl⟩ := List.getElem_of_mem hu
  exact h3 j _ (by simp)

theorem CR.get {cs : List AV} {vs : List Value} (h : CR E c cs vs) {j : Nat} {x : AV} (hj : cs[j]? = some x) : ∃ v, vs[j]? = some v ∧ VR E c x v ∧ v.oneCell' = true := by
  have : j < vs.length := by rw [h.1]; exact (List.getElem?_eq_some_iff.1 hj).1
  exact ⟨vs[j], by simp [this], h.2.1 j x _ hj (by simp [this]), h.2.2 _ (List.getElem_mem this)⟩

theorem CR.append {as bs : List AV} {vs us : List Value} (h : CR E c as vs) (k : CR E c bs us) : CR E c (as ++ bs) (vs ++ us) := by
  refine ⟨by simp [h.1, k.1], fun j x v hj hv => ?_, fun v hv => (List.mem_append.1 hv).elim (h.2.2 v) (k.2.2 v)⟩
  rw [List.getElem?_append] at hj hv
  rw [h.1] at hv
  split at hj
  · rename_i hlt
    rw [if_pos hlt] at hv
    exact h.2.1 j x v hj hv
  · rename_i hge
    rw [if_neg hge] at hv
    exact k.2.1 _ x v hj hv

theorem CR.agg {cs : List AV} {vs : List Value} (h : CR E c cs vs) : VR E c (.agg cs) (.agg vs.toArray) :=
  VR.mkAgg h.1 (fun j x v hj hv => ⟨h.2.1 j x v hj hv, h.2.2 v (List.mem_of_getElem? hv)⟩)

/-- The model's own way to lay a part into cells. -/
def splV (cs : Array Value) (off : Nat) (vs : Array Value) : Array Value := vs.zipIdx.foldl (fun cs (c, j) => cs.setIfInBounds (off + j) c) cs

theorem foldl_zipIdx_size (off : Nat) : ∀ (l : List Value) (k : Nat) (cs : Array Value), ((l.zipIdx k).foldl (fun cs (p : Value × Nat) => cs.setIfInBounds (off + p.2) p.1) cs).size = cs.size
  | [], _, _ => rfl
  | v :: r, k, cs => by rw [List.zipIdx_cons, List.foldl_cons, foldl_zipIdx_size off r]; simp

theorem foldl_zipIdx_get (off : Nat) : ∀ (l : List Value) (k : Nat) (cs : Array Value) (j : Nat), off + k + l.length ≤ cs.size →
    ((l.zipIdx k).foldl (fun cs (p : Value × Nat) => cs.setIfInBounds (off + p.2) p.1) cs)[j]? = if off + k ≤ j ∧ j < off + k + l.length then l[j - (off + k)]? else cs[j]?
  | [], k, cs, j, _ => by
    have h : ¬ (off + k ≤ j ∧ j < off + k + ([] : List Value).length) := by simp
    rw [if_neg h]; rfl
  | v :: r, k, cs, j, h => by
    rw [List.zipIdx_cons, List.foldl_cons, foldl_zipIdx_get off r (k + 1) _ j (by simp at h ⊢; omega)]
    simp only [List.length_cons, Array.getElem?_setIfInBounds]
    by_cases h1 : off + k ≤ j ∧ j < off + k + (r.length + 1)
    · rw [if_pos h1]
      by_cases h2 : j = off + k
      · subst h2
        rw [if_neg (by omega), if_pos rfl, if_pos (by simp at h; omega)]
        simp
      · rw [if_pos (by omega)]
        have : j - (off + k) = j - (off + (k + 1)) + 1 := by omega
        rw [this, List.getElem?_cons_succ]
    · rw [if_neg h1, if_neg (by omega), if_neg (by omega)]

theorem splV_list (cs : Array Value) (off : Nat) (vs : Array Value) : splV cs off vs = (vs.toList.zipIdx 0).foldl (fun cs (p : Value × Nat) => cs.setIfInBounds (off + p.2) p.1) cs := by
  unfold splV
  rw [← Array.foldl_toList, Array.toList_zipIdx]

theorem CR.spl {cs xs : List AV} {vs us : Array Value} (h : CR E c cs vs.toList) (k : CR E c xs us.toList) (off : Nat) (hle : off + xs.length ≤ cs.length) : CR E c (spl cs off xs) (splV vs off us).toList := by
  have hv : vs.size = cs.length := by simpa using h.1
  have hu : us.size = xs.length := by simpa using k.1
  have hsz : (splV vs off us).size = vs.size := by rw [splV_list, foldl_zipIdx_size]
  have hget : ∀ j, (splV vs off us)[j]? = if off ≤ j ∧ j < off + us.size then us[j - off]? else vs[j]? := fun j => by
    rw [splV_list, foldl_zipIdx_get off us.toList 0 vs j (by simp; omega)]
    simp
  refine ⟨by simp [hsz, hv, spl_length], fun j x v hj hv' => ?_, fun v hv' => ?_⟩
  · rw [Array.getElem?_toList, hget] at hv'
    rw [spl_get] at hj
    rw [hu] at hv'
    split at hj
    · rename_i hc
      rw [if_pos hc] at hv'
      split at hj
      · exact k.2.1 _ x v hj (by simpa using hv')
      · simp at hj
    · rename_i hc
      rw [if_neg hc] at hv'
      exact h.2.1 j x v hj (by simpa using hv')
  · obtain ⟨j, hj⟩ := List.mem_iff_getElem?.1 hv'
    rw [Array.getElem?_toList, hget] at hj
    split at hj
    · exact k.2.2 v (List.mem_of_getElem? (by simpa using hj))
    · exact h.2.2 v (List.mem_of_getElem? (by simpa using hj))

end
end Go.Abs
/- Each abstract operation holds of the model's operation that it was read off: comparisons of structs. -/
namespace Go.Abs

section
variable {E : Env} {c : Corr} {H : Heap} {w : World}

theorem VR.inj_int {k : IntKind} {n : Int} {v : Value} (h : VR E c (.int k n) v) : v = .int k n := by cases h; rfl
theorem VR.inj_bool {b : Bool} {v : Value} (h : VR E c (.bool b) v) : v = .bool b := by cases h; rfl

theorem run_part {E : Env} (hE : E.Types) {t : Nat} {ti : TInfo} (h : E.tt t = some ti) (hd : ti.desc ≠ .other) (ha : ti.desc.agg = false) {xs : Array Value} {i : Nat} (hi : i < xs.size) (w : World) :
    (part t xs i).run E.P w = .ok xs[i] w := by
  simp only [part, Sem.run_bind, isAgg_run hE h hd, ha, Result.andThen_ok, Bool.false_eq_true, if_false]
  rw [Array.getElem?_eq_getElem hi]
  rfl

theorem eqFields_flat (hE : E.Types) (d : Nat) (xs ys : Array Value) : ∀ (fl : List Field) (n : Nat) (ks : List Bool) (as bs : List AV) (r : Bool), flatAt E n (fl.map fun f => (f.offset, f.type)) = some ks → (∀ f ∈ fl, f.name ≠ "_") →
    n + as.length = xs.size → n + bs.length = ys.size → (∀ (j : Nat) (x : AV) (v : Value), as[j]? = some x → xs[n + j]? = some v → VR E c x v) → (∀ (j : Nat) (x : AV) (v : Value), bs[j]? = some x → ys[n + j]? = some v → VR E c x v) →
    eqCells ks as bs = some r → (Op.eqFields (d + 1) xs ys fl).run E.P w = .ok r w
  | [], n, ks, as, bs, r, hf, _, _, _, _, _, h => by
    simp only [List.map_nil, flatAt, Option.some.injEq] at hf
    subst hf
    cases as <;> cases bs <;> simp [eqCells] at h
    subst h; simp [Op.eqFields]
  | f :: fl, n, ks, as, bs, r, hf, hn, hx, hy, hax, hby, h => by
    simp only [List.map_cons, flatAt] at hf
    split at hf
    case isFalse => simp at hf
    rename_i hoff
    have key : ∃ ti k ks', E.tt f.type = some ti ∧ flatAt E (n + 1) (fl.map fun f => (f.offset, f.type)) = some ks' ∧ ks = k :: ks' ∧ ti.desc.agg = false ∧ ti.desc ≠ .other ∧ (if k then ∃ q, ti.desc = .int q else ti.desc = .bool) := by
      split at hf
      · rename_i ht hk
        simp only [Option.some.injEq] at hf
        exact ⟨_, true, _, ht, hk, hf.symm, rfl, by simp, by simp⟩
      · rename_i ht hk
        simp only [Option.some.injEq] at hf
        exact ⟨_, false, _, ht, hk, hf.symm, rfl, by simp, by simp⟩
      · simp at hf
    obtain ⟨ti, k, ks', ht, hrest, rfl, hag, hot, hk⟩ := key
    cases as with
    | nil => simp [eqCells] at h
    | cons a as =>
      cases bs with
      | nil => simp [eqCells] at h
      | cons b bs =>
        simp only [eqCells] at h
        split at h
        case h_2 => simp at h
        rename_i r1 r2 h1 h2
        simp only [Option.some.injEq] at h
        have hxs : n < xs.size := by simp at hx; omega
        have hys : n < ys.size := by simp at hy; omega
        have va := hax 0 a xs[n] rfl (by simp [hxs])
        have vb := hby 0 b ys[n] rfl (by simp [hys])
        have ih := eqFields_flat hE d xs ys fl (n + 1) ks' as bs r2 hrest (fun f hf => hn f (by simp [hf])) (by simp at hx ⊢; omega) (by simp at hy ⊢; omega)
          (fun j x v hj hv => hax (j + 1) x v (by simpa using hj) (by rw [← hv]; congr 1; omega)) (fun j x v hj hv => hby (j + 1) x v (by simpa using hj) (by rw [← hv]; congr 1; omega)) h2
        have hname := hn f (by simp)
        subst hoff
        have hpx := run_part hE ht hot hag hxs w
        have hpy := run_part hE ht hot hag hys w
        have hd := (hE _ _ ht).desc
        have heq : (Op.equalIn (d + 1) f.type xs[f.offset] ys[f.offset]).run E.P w = .ok r1 w := by
          cases a <;> cases b <;> simp only [AV.eqc, reduceCtorEq] at h1
          · rw [va.inj_int, vb.inj_int]
            split at h1
            · rename_i e
              obtain ⟨rfl, rfl⟩ := e
              simp only [Option.some.injEq] at h1
              subst h1
              simp only [if_true] at hk
              obtain ⟨q, hq⟩ := hk
              rw [hq] at hd
              exact run_equalIn_int w d _ _ _ _ _ hd
            · simp at h1
          · rw [va.inj_bool, vb.inj_bool]
            split at h1
            · simp at h1
            · rename_i e
              simp only [Option.some.injEq] at h1
              subst h1
              rw [if_neg e] at hk
              rw [hk] at hd
              exact run_equalIn_bool' w d _ _ _ hd
        simp only [Op.eqFields, hname, ne_eq, not_false_eq_true, if_true, Sem.run_bind, hpx, hpy, heq, Result.andThen_ok, Sem.run_ite, Sem.run_pure, ih]
        subst h
        cases r1 <;> simp

theorem eqv_sound (hE : E.Types) {t : Nat} {ti : TInfo} {fs : List (Nat × Nat)} (ht : E.tt t = some ti) (hd : ti.desc = .struct fs) {ks : List Bool} (hk : flatAt E 0 fs = some ks) {neg : Bool} {x y : AV} {cx cy : Value} (hx : VR E c x cx) (hy : VR E c y cy)
    {v : AV} {need : List (Nat × Blk)} {give : List (Nat × Option Blk)} {new : Nat} {T : Tm} (h : aop new T H (.eqv neg ks (.c x) (.c y)) = some (v, need, give)) (ox oy : Operand) :
    give = [] ∧ ∃ cv, ((do eqGuard (if neg then .neq else .eql) t ox oy cx cy; binOp (if neg then .neq else .eql) t cx cy : Sem Value)).run E.P w = .ok cv w ∧ VR E c v cv := by
  have hu := (hE t ti ht).desc
  rw [hd] at hu
  simp only at hu
  obtain ⟨⟨hst, hg⟩, fields, hu, hfs, hnm⟩ := hu
  have hof : E.P.fieldsOf t = fields := by simp [Program.fieldsOf, hu]
  simp only [aop, AOpd.ev] at h
  cases hx <;> cases hy <;> simp only [reduceCtorEq] at h
  rename_i cs vs h1 h2 h3 ds us k1 k2 k3
  split at h
  case h_2 => simp at h
  rename_i r hr
  simp only [pure1, Option.some.injEq, Prod.mk.injEq] at h
  obtain ⟨rfl, _, rfl⟩ := h
  have hrun := eqFields_flat (w := w) hE 9998 vs us fields.toList 0 ks cs ds r (by rw [hfs]; exact hk) hnm (by omega) (by omega) (fun j x v hj hv => h3 j x v hj (by simpa using hv)) (fun j x v hj hv => k3 j x v hj (by simpa using hv)) hr
  refine ⟨rfl, _, ?_, .bool _⟩
  have he := run_equalIn_struct (P := E.P) w 9999 t vs us (by rw [hof]; exact hu) hst
  rw [hof] at he
  simp only [Sem.run_bind, run_eqGuard_agg w _ t ox oy vs us hg, Result.andThen_ok]
  cases neg
  · simp only [Bool.false_eq_true, if_false, run_eql_struct, he, hrun, Result.andThen_ok]
  · simp only [if_true, run_neq_struct, he, hrun, Result.andThen_ok]

theorem eqb_sound (hE : E.Types) {t : Nat} {ti : TInfo} (ht : E.tt t = some ti) (hd : ti.desc = .bool) {neg : Bool} {x y : AV} {cx cy : Value} (hx : VR E c x cx) (hy : VR E c y cy)
    {v : AV} {need : List (Nat × Blk)} {give : List (Nat × Option Blk)} {new : Nat} {T : Tm} (h : aop new T H (.eqb neg (.c x) (.c y)) = some (v, need, give)) (ox oy : Operand) :
    give = [] ∧ ∃ cv, ((do eqGuard (if neg then .neq else .eql) t ox oy cx cy; binOp (if neg then .neq else .eql) t cx cy : Sem Value)).run E.P w = .ok cv w ∧ VR E c v cv := by
  have hu := (hE t ti ht).desc
  rw [hd] at hu
  simp only at hu
  simp only [aop, AOpd.ev] at h
  cases hx <;> cases hy <;> simp only [reduceCtorEq] at h
  rename_i a b
  simp only [pure1, Option.some.injEq, Prod.mk.injEq] at h
  obtain ⟨rfl, _, rfl⟩ := h
  refine ⟨rfl, _, ?_, .bool _⟩
  have he := run_equalIn_bool' (P := E.P) w 9999 t a b hu
  cases neg
  · simp [eqGuard, binOp, Op.equal, Op.maxDepth, he]
  · simp [eqGuard, binOp, Op.equal, Op.maxDepth, he]

theorem run_equalIn_nil (P : Program) (w : World) (d : Nat) (t e : Nat) (a b : Option Addr) (h : P.underlying t = some (.pointer e)) (hab : a = none ∨ b = none) : (Op.equalIn (d + 1) t (.pointer a) (.pointer b)).run P w = .ok (a.isNone && b.isNone) w := by
  rcases hab with rfl | rfl
  · cases b <;> simp [Op.equalIn, run_underlying h]
  · cases a <;> simp [Op.equalIn, run_underlying h]

theorem eqp_sound (hE : E.Types) {t pe : Nat} {ti : TInfo} (ht : E.tt t = some ti) (hd : ti.desc = .ptr pe) {neg : Bool} {x y : AV} {cx cy : Value} (hx : VR E c x cx) (hy : VR E c y cy)
    {v : AV} {need : List (Nat × Blk)} {give : List (Nat × Option Blk)} {new : Nat} {T : Tm} (h : aop new T H (.eqp neg (.c x) (.c y)) = some (v, need, give)) (ox oy : Operand) :
    give = [] ∧ ∃ cv, ((do eqGuard (if neg then .neq else .eql) t ox oy cx cy; binOp (if neg then .neq else .eql) t cx cy : Sem Value)).run E.P w = .ok cv w ∧ VR E c v cv := by
  have hu := (hE t ti ht).desc
  rw [hd] at hu
  simp only at hu
  simp only [aop, AOpd.ev] at h
  cases hx <;> cases hy <;> simp only [reduceCtorEq] at h
  all_goals
    simp only [pure1, Option.some.injEq, Prod.mk.injEq] at h
    obtain ⟨rfl, _, rfl⟩ := h
    refine ⟨rfl, _, ?_, .bool _⟩
    have he := fun (a b : Option Addr) (h : a = none ∨ b = none) => run_equalIn_nil E.P w 9999 t pe a b hu h
    cases neg <;> simp [eqGuard, binOp, Op.equal, Op.maxDepth, he]

theorem bin_guard {op : BinOp} {t : Nat} {k k' : IntKind} {x y : Int} (ox oy : Operand) : (eqGuard op t ox oy (.int k x) (.int k' y)).run E.P w = .ok () w := by
  cases op <;> simp [eqGuard]

end
end Go.Abs
/- Each abstract operation holds of the model's operation that it was read off: what makes memory. -/
namespace Go.Abs

section
variable {E : Env} {c : Corr} {H : Heap} {w : World}

/-- How the rows of a block stand in its cells. -/
def ER (E : Env) (c : Corr) (sz : Nat) (es : Blk) (cells : Array Value) : Prop :=
  (∀ cs ∈ es, cs.length = sz) ∧ ∀ (i : Nat) (cs : List AV) (j : Nat) (x : AV), es[i]? = some cs → cs[j]? = some x → ∃ v, cells[i * sz + j]? = some v ∧ VR E c x v ∧ v.oneCell' = true

theorem flatten_get {sz : Nat} : ∀ (es : Blk), (∀ cs ∈ es, cs.length = sz) → ∀ (i : Nat) (cs : List AV) (j : Nat) (x : AV), es[i]? = some cs → cs[j]? = some x → es.flatten[i * sz + j]? = some x
  | [], _, i, cs, j, x, hi, _ => by simp at hi
  | a :: es, h, i, cs, j, x, hi, hj => by
    have ha : a.length = sz := h a (by simp)
    rw [List.flatten_cons, List.getElem?_append]
    cases i with
    | zero =>
      simp at hi; subst hi
      have : j < a.length := (List.getElem?_eq_some_iff.1 hj).1
      rw [if_pos (by omega)]
      simpa using hj
    | succ i =>
      rw [if_neg (by rw [Nat.succ_mul]; omega)]
      have := flatten_get es (fun cs hc => h cs (by simp [hc])) i cs j x (by simpa using hi) hj
      rw [← this]
      congr 1
      rw [Nat.succ_mul]; omega

theorem flatten_len {sz : Nat} : ∀ (es : Blk), (∀ cs ∈ es, cs.length = sz) → es.flatten.length = es.length * sz
  | [], _ => by simp
  | a :: es, h => by
    rw [List.flatten_cons, List.length_append, flatten_len es (fun cs hc => h cs (by simp [hc])), h a (by simp), List.length_cons, Nat.succ_mul]
    omega

theorem flatten_from {sz : Nat} : ∀ (es : Blk), (∀ cs ∈ es, cs.length = sz) → ∀ (k : Nat) (x : AV), es.flatten[k]? = some x → ∃ i cs j, es[i]? = some cs ∧ cs[j]? = some x ∧ k = i * sz + j
  | [], _, k, x, h => by simp at h
  | a :: es, h, k, x, hk => by
    have ha : a.length = sz := h a (by simp)
    rw [List.flatten_cons, List.getElem?_append] at hk
    split at hk
    · exact ⟨0, a, k, rfl, hk, by omega⟩
    · obtain ⟨i, cs, j, h1, h2, h3⟩ := flatten_from es (fun cs hc => h cs (by simp [hc])) _ x hk
      exact ⟨i + 1, cs, j, by simpa using h1, h2, by rw [Nat.succ_mul]; omega⟩

/-- Out of a list of values that begins the cells. -/
theorem ER.of_CR {sz : Nat} {es : Blk} (hsz : ∀ cs ∈ es, cs.length = sz) {vs : List Value} (h : CR E c es.flatten vs) {cells : Array Value} (hp : ∀ (k : Nat) (v : Value), vs[k]? = some v → cells[k]? = some v) : ER E c sz es cells :=
  ⟨hsz, fun i cs j x hi hj => by
    obtain ⟨v, h1, h2, h3⟩ := h.get (flatten_get es hsz i cs j x hi hj)
    exact ⟨v, hp _ _ h1, h2, h3⟩⟩

theorem ER.set {sz : Nat} {es : Blk} {cells us : Array Value} (h : ER E c sz es cells) {xs : List AV} (hx : CR E c xs us.toList) (hl : xs.length = sz) {i : Nat} (hi : i * sz + sz ≤ cells.size) : ER E c sz (es.set i xs) (splV cells (i * sz) us) := by
  have hu : us.size = sz := by have := hx.1; simp at this; omega
  have hget : ∀ j, (splV cells (i * sz) us)[j]? = if i * sz ≤ j ∧ j < i * sz + us.size then us[j - i * sz]? else cells[j]? := fun j => by
    rw [splV_list, foldl_zipIdx_get (i * sz) us.toList 0 cells j (by simp; omega)]
    simp
  refine ⟨fun cs hc => ?_, fun k cs j x hk hj => ?_⟩
  · rcases List.mem_or_eq_of_mem_set hc with h1 | h1
    · exact h.1 cs h1
    · rw [h1]; exact hl
  · rw [List.getElem?_set] at hk
    split at hk
    · rename_i e; subst e
      split at hk
      · simp only [Option.some.injEq] at hk; subst hk
        obtain ⟨v, h1, h2, h3⟩ := hx.get hj
        have hjl : j < xs.length := (List.getElem?_eq_some_iff.1 hj).1
        exact ⟨v, by rw [hget, if_pos (by omega)]; rw [← h1]; simp, h2, h3⟩
      · simp at hk
    · rename_i e
      obtain ⟨v, h1, h2, h3⟩ := h.2 k cs j x hk hj
      have hjl : j < cs.length := (List.getElem?_eq_some_iff.1 hj).1
      have hcs : cs.length = sz := h.1 cs (List.mem_of_getElem? hk)
      refine ⟨v, ?_, h2, h3⟩
      rw [hget, if_neg]
      · exact h1
      · intro ⟨a1, a2⟩
        rcases Nat.lt_or_gt_of_ne e with h4 | h4
        · have := Nat.mul_le_mul_right sz (show i + 1 ≤ k by omega)
          rw [Nat.succ_mul] at this; omega
        · have := Nat.mul_le_mul_right sz (show k + 1 ≤ i by omega)
          rw [Nat.succ_mul] at this; omega

/-- A type's zero. -/
theorem zero_run (hE : E.Types) {t : Nat} {ti : TInfo} (ht : E.tt t = some ti) (w : World) : ∃ z : Value, (zeroValue t).run E.P w = .ok z w ∧ z.cells.size = ti.size ∧ CR E c ti.zero z.cells.toList := by
  obtain ⟨i, z, hi, _, _, hz, h1, h2, h3⟩ := (hE t ti ht).info
  refine ⟨z, by simp [zeroValue, typeInfo, hi, hz], by omega, by simpa using h1, fun j x v hj hv => (VR.of_cval (h3 j x v hj (by simpa using hv))).1, fun v hv => ?_⟩
  obtain ⟨j, hj⟩ := List.mem_iff_getElem?.1 hv
  have hjl : j < ti.zero.length := by have := (List.getElem?_eq_some_iff.1 hj).1; simp at this; omega
  exact (VR.of_cval (E := E) (c := c) (h3 j _ v (List.getElem?_eq_getElem hjl) (by simpa using hj))).2

theorem alloc_sound (hE : E.Types) (hs : Sim E c H w) {t : Nat} {ti : TInfo} (ht : E.tt t = some ti) {new : Nat} (hnew : c.ρ new = none) :
    ∃ cv w' c', (Instr.alloc t true (.tuple #[])).run E.P w = .ok cv w' ∧ StepX new c w c' w' ∧ Sim E c' (H.set new (some [ti.zero])) w' ∧ VR E c' (.ptr new 0 0) cv := by
  obtain ⟨z, hz, hsz, hCR⟩ := zero_run (c := c) hE ht w
  have hl : ti.zero.length = ti.size := by have := hCR.1; simp at this; omega
  obtain ⟨h1, h2⟩ := hs.alloc new hnew ti.size z.cells t [ti.zero] (by simp [hl]) (fun i cs j x hi hj => by
    cases i with
    | succ i => simp at hi
    | zero =>
      simp at hi; subst hi
      obtain ⟨v, a1, a2, a3⟩ := hCR.get hj
      exact ⟨v, by simpa using a1, a2, a3⟩)
  refine ⟨.pointer (some ⟨w.heap.size, 0, none⟩), _, _, ?_, h2, h1, ?_⟩
  · simp [Instr.alloc, hz, newVar, newRow]
  · have := VR.ptr (E := E) (c := c.add new ⟨some (w.heap.size, z.cells.size), ti.size⟩) (id := new) (i := 0) (off := 0) (Corr.add_same _ _ _)
    simpa using this

theorem box_sound (hs : Sim E c H w) {t : Nat} {x : AV} {cx : Value} (hx : VR E c x cx) (hok : x.ok = true) {new : Nat} (hnew : c.ρ new = none) :
    ∃ cv w' c', (Instr.box t cx).run E.P w = .ok cv w' ∧ StepX new c w c' w' ∧ Sim E c' (H.set new (some [x.cells])) w' ∧ VR E c' (.ptr new 0 0) cv := by
  have hCR := CR.of_val hx hok
  obtain ⟨h1, h2⟩ := hs.alloc new hnew x.cells.length cx.cells t [x.cells] (by simp) (fun i cs j x hi hj => by
    cases i with
    | succ i => simp at hi
    | zero =>
      simp at hi; subst hi
      obtain ⟨v, a1, a2, a3⟩ := hCR.get hj
      exact ⟨v, by simpa using a1, a2, a3⟩)
  refine ⟨.pointer (some ⟨w.heap.size, 0, none⟩), _, _, ?_, h2, h1, ?_⟩
  · simp [Instr.box, newVar, newRow]
  · have := VR.ptr (E := E) (c := c.add new ⟨some (w.heap.size, cx.cells.size), x.cells.length⟩) (id := new) (i := 0) (off := 0) (Corr.add_same _ _ _)
    simpa using this

/-- 'n' cells, filled by a zero again and again. -/
def zc (z : Array Value) (n : Nat) : Array Value := (Array.range n).map (z[· % z.size]!)
theorem zc_size (z : Array Value) (n : Nat) : (zc z n).size = n := by simp [zc]
theorem zc_get (z : Array Value) (n k : Nat) (hk : k < n) (hz : 0 < z.size) : (zc z n)[k]? = z[k % z.size]? := by
  have h := Nat.mod_lt k hz
  simp [zc, hk, h]

theorem ER.zero {z : List AV} {zv : Array Value} (h : CR E c z zv.toList) (h0 : 0 < z.length) (len n : Nat) (hn : len * z.length ≤ n) : ER E c z.length (List.replicate len z) (zc zv n) := by
  have hzs : zv.size = z.length := by have := h.1; simpa using this
  refine ⟨fun cs hc => by rw [List.eq_of_mem_replicate hc], fun i cs j x hi hj => ?_⟩
  rw [List.getElem?_replicate] at hi
  split at hi
  case isFalse => simp at hi
  rename_i hlt
  simp only [Option.some.injEq] at hi
  subst hi
  obtain ⟨v, a1, a2, a3⟩ := h.get hj
  have hjl : j < z.length := (List.getElem?_eq_some_iff.1 hj).1
  refine ⟨v, ?_, a2, a3⟩
  have hb : i * z.length + j < n := by
    have := Nat.mul_le_mul_right z.length (show i + 1 ≤ len by omega)
    rw [Nat.succ_mul] at this; omega
  rw [zc_get _ _ _ hb (by omega), hzs, Nat.add_comm, Nat.add_mul_mod_self_right, Nat.mod_eq_of_lt hjl]
  simpa using a1

/-- The parts of a slice's literal. -/
theorem fill_elems {sz len : Nat} : ∀ (ps : List (Nat × AOpd)) (qs : List (Nat × Value)) (T : Tm) (es : Blk) (cells : Array Value), qs.length = ps.length → (∀ (j : Nat) (p : Nat × AOpd) (q : Nat × Value), ps[j]? = some p → qs[j]? = some q → q.1 = p.1 ∧ p.1 < len ∧ VR E c (p.2.ev T) q.2) →
    ps.all (fun p => (p.2.ev T).ok && (p.2.ev T).cells.length == sz) = true → ER E c sz es cells → cells.size = len * sz →
    ∃ cells', Instr.fill (fun i => some (i * sz, sz)) cells qs = some cells' ∧ cells'.size = len * sz ∧ ER E c sz (ps.foldl (fun es p => es.set p.1 (p.2.ev T).cells) es) cells'
  | [], qs, T, es, cells, hl, _, _, h, hn => by
    cases qs with
    | nil => exact ⟨cells, rfl, hn, h⟩
    | cons => simp at hl
  | p :: ps, qs, T, es, cells, hl, hq, hok, h, hn => by
    cases qs with
    | nil => simp at hl
    | cons q qs =>
      obtain ⟨i, v⟩ := q
      obtain ⟨h1, h2, h3⟩ := hq 0 p (i, v) rfl rfl
      simp only at h1 h3
      simp only [List.all_cons, Bool.and_eq_true, beq_iff_eq] at hok
      obtain ⟨⟨hok1, hok2⟩, hok3⟩ := hok
      have hCR := CR.of_val h3 hok1
      have hvs : v.cells.size = sz := by have := hCR.1; simp at this; omega
      have hb : i * sz + sz ≤ len * sz := by
        have := Nat.mul_le_mul_right sz (show i + 1 ≤ len by omega)
        rw [Nat.succ_mul] at this; omega
      subst h1
      have hER := ER.set h hCR hok2 (i := p.1) (by omega)
      have hsz : (splV cells (p.1 * sz) v.cells).size = len * sz := by rw [splV_list, foldl_zipIdx_size]; exact hn
      obtain ⟨cells', g1, g2, g3⟩ := fill_elems ps qs T _ _ (by simpa using hl) (fun j p q hp hq' => hq (j + 1) p q (by simpa using hp) (by simpa using hq')) hok3 hER hsz
      refine ⟨cells', ?_, g2, g3⟩
      simp only [Instr.fill]
      rw [if_neg (by simp; omega)]
      exact g1

theorem cElems_spec {T : Tm} {a : Act} (hs : Sim E c H w) (hT : TRel E c T a) {len : Nat} : ∀ {xs : List (Nat × Operand)} {ps : List (Nat × AOpd)}, cElems E len xs = some ps →
    (xs.map fun p => (p.1, a.eval p.2)).length = ps.length ∧ ∀ (j : Nat) (p : Nat × AOpd) (q : Nat × Value), ps[j]? = some p → (xs.map fun p => (p.1, a.eval p.2))[j]? = some q → q.1 = p.1 ∧ p.1 < len ∧ VR E c (p.2.ev T) q.2
  | [], ps, h => by simp [cElems] at h; subst h; exact ⟨rfl, fun j p q h => by simp at h⟩
  | (i, x) :: xs, ps, h => by
    simp only [cElems, Option.bind_eq_bind, Option.bind_eq_some_iff] at h
    obtain ⟨y, hy, ys, hys, e⟩ := h
    split at e
    case isFalse => simp at e
    rename_i hlt
    simp only [Option.some.injEq] at e
    subst e
    obtain ⟨h1, h2⟩ := cElems_spec hs hT hys
    refine ⟨by simpa using h1, fun j => ?_⟩
    cases j with
    | zero =>
      intro p q hp hq
      simp at hp hq
      subst hp; subst hq
      exact ⟨rfl, hlt, cOpd_VR hs hT hy⟩
    | succ j => intro p q hp hq; exact h2 j p q (by simpa using hp) (by simpa using hq)

theorem bsl_sound (hE : E.Types) (hs : Sim E c H w) {t e len : Nat} {ti ei : TInfo} (ht : E.tt t = some ti) (hd : ti.desc = .slice e) (he : E.tt e = some ei) (h0 : 0 < ei.size) (hlen : len * ei.size ≤ 2 ^ 24) {T : Tm} {a : Act} (hT : TRel E c T a)
    {parts : Array (Nat × Operand)} {ps : List (Nat × AOpd)} (hps : cElems E len parts.toList = some ps) (hok : ps.all (fun p => (p.2.ev T).ok && (p.2.ev T).cells.length == ei.size) = true) {new : Nat} (hnew : c.ρ new = none) :
    ∃ cv w' c', (Instr.buildSlice t len (parts.map fun (i, x) => (i, a.eval x))).run E.P w = .ok cv w' ∧ StepX new c w c' w' ∧
      Sim E c' (H.set new (some (ps.foldl (fun es p => es.set p.1 (p.2.ev T).cells) (List.replicate len ei.zero)))) w' ∧ VR E c' (.sl ei.size new 0 len) cv := by
  have hu := (hE t ti ht).desc
  rw [hd] at hu
  simp only at hu
  obtain ⟨z, hz, hzs, hCR⟩ := zero_run (c := c) hE he w
  have hzl : ei.zero.length = ei.size := by have := hCR.1; simp at this; omega
  obtain ⟨h1, h2⟩ := cElems_spec hs hT hps
  have hER := ER.zero hCR (by omega) len (len * ei.size) (by rw [hzl]; exact Nat.le_refl _)
  rw [hzl] at hER
  obtain ⟨cells, g1, g2, g3⟩ := fill_elems ps (parts.toList.map fun p => (p.1, a.eval p.2)) T _ _ h1 h2 hok hER (zc_size _ _)
  obtain ⟨k1, k2⟩ := hs.alloc new hnew ei.size cells e _ g3.1 g3.2
  refine ⟨.slice (some ⟨w.heap.size, 0, none⟩) len len, _, _, ?_, k2, k1, ?_⟩
  · have hmap : (parts.map fun (p : Nat × Operand) => (p.1, a.eval p.2)).toList = parts.toList.map fun p => (p.1, a.eval p.2) := by simp
    have hg : Instr.fill (fun i => some (i * ei.size, ei.size)) ((Array.range (len * ei.size)).map (z.cells[· % z.cells.size]!)) (parts.map fun (p : Nat × Operand) => (p.1, a.eval p.2)).toList = some cells := by rw [hmap]; exact g1
    unfold Instr.buildSlice
    simp only [Sem.run_bind, run_underlying hu, Result.andThen_ok, sizeOf_run hE he]
    rw [if_neg (by omega)]
    by_cases hl0 : len * ei.size = 0
    · rw [hl0] at hg
      simp only [hl0, if_true, Sem.run_bind, Sem.run_pure, Result.andThen_ok]
      have e0 : (Array.range 0).map ((#[] : Array Value)[· % (#[] : Array Value).size]!) = (Array.range 0).map (z.cells[· % z.cells.size]!) := by simp
      rw [e0, hg]
      simp [newRow]
    · rw [if_neg hl0]
      simp only [Sem.run_bind, hz, Sem.run_pure, Result.andThen_ok, hg]
      simp [newRow]
  · have := VR.sl (E := E) (c := c.add new ⟨some (w.heap.size, cells.size), ei.size⟩) (id := new) (off := 0) (len := len) (cap := len) (Corr.add_same _ _ _) ⟨Nat.le_refl _, by have := Nat.mul_le_mul_left len (show 1 ≤ ei.size from h0); omega⟩ (by rw [g2]; simp)
    simpa using this

theorem mksl_sound (hE : E.Types) (hs : Sim E c H w) {t e : Nat} {ti ei : TInfo} (ht : E.tt t = some ti) (hd : ti.desc = .slice e) (he : E.tt e = some ei) (h0 : 0 < ei.size) (hb : ei.bytes ≤ 1024) {n : Int} (hn0 : 0 ≤ n) (hn1 : n ≤ appLim) {new : Nat} (hnew : c.ρ new = none) :
    ∃ cv w' c', (Instr.makeSlice t (.int .i64 n) (.int .i64 n)).run E.P w = .ok cv w' ∧ StepX new c w c' w' ∧ Sim E c' (H.set new (some (List.replicate n.toNat ei.zero))) w' ∧ VR E c' (.sl ei.size new 0 n.toNat) cv := by
  have hu := (hE t ti ht).desc
  rw [hd] at hu
  simp only at hu
  obtain ⟨i, _, hi, hsz, hbt, _⟩ := (hE e ei he).info
  obtain ⟨z, hz, hzs, hCR⟩ := zero_run (c := c) hE he w
  have hzl : ei.zero.length = ei.size := by have := hCR.1; simp at this; omega
  unfold appLim at hn1
  have hwrap : IntKind.i64.wrap n = n := by simp [IntKind.wrap, IntKind.bits, IntKind.signed]; omega
  have hbig : ¬ (2 ^ 48 : Int) < ei.bytes * n := by
    have h1 : (ei.bytes : Int) * n ≤ 1024 * 68719476736 := Int.mul_le_mul (by omega) hn1 hn0 (by omega)
    omega
  have hER := ER.zero hCR (by omega) n.toNat (n.toNat * ei.size) (by rw [hzl]; exact Nat.le_refl _)
  rw [hzl] at hER
  obtain ⟨k1, k2⟩ := hs.alloc new hnew ei.size (zc z.cells (n.toNat * ei.size)) e _ hER.1 hER.2
  refine ⟨.slice (some ⟨w.heap.size, 0, none⟩) n.toNat n.toNat, _, _, ?_, k2, k1, ?_⟩
  · have hcond : ¬ ((decide (n < 0) || decide ((ei.bytes : Int) * n > 2 ^ 48) || decide (n < 0) || decide (n > n)) = true) := by simp; omega
    unfold Instr.makeSlice
    simp only [Sem.run_bind, run_underlying hu, Result.andThen_ok, asInt, asIntOf, Sem.run_pure, typeInfo, run_program, hi, hbt, hwrap]
    rw [if_neg hcond]
    simp only [Sem.run_bind, Sem.run_pure, Result.andThen_ok, run_askRoom, sizeOf_run hE he, Sem.run_ite]
    by_cases hl0 : n.toNat * ei.size = 0
    · have e0 : (Array.range (n.toNat * ei.size)).map ((#[] : Array Value)[· % (#[] : Array Value).size]!) = zc z.cells (n.toNat * ei.size) := by rw [hl0]; simp [zc]
      rw [if_pos hl0]
      simp only [e0]
      simp [newRow]
    · rw [if_neg hl0]
      simp only [hz, Result.andThen_ok]
      have e1 : (Array.range (n.toNat * ei.size)).map (z.cells[· % z.cells.size]!) = zc z.cells (n.toNat * ei.size) := rfl
      rw [e1]
      simp [newRow]
  · have := VR.sl (E := E) (c := c.add new ⟨some (w.heap.size, (zc z.cells (n.toNat * ei.size)).size), ei.size⟩) (id := new) (off := 0) (len := n.toNat) (cap := n.toNat) (Corr.add_same _ _ _) ⟨Nat.le_refl _, by omega⟩ (by rw [zc_size]; simp)
    simpa using this

end
end Go.Abs
/- Each abstract operation holds of the model's operation that it was read off: structs built, slices cut, stores, append, copy. -/
namespace Go.Abs

section
variable {E : Env} {c : Corr} {H : Heap} {w : World}

theorem cParts_spec {T : Tm} {a : Act} (hs : Sim E c H w) (hT : TRel E c T a) {fs : List (Nat × Nat)} : ∀ {xs : List (Nat × Operand)} {ps : List (Nat × Nat × AOpd)}, cParts E fs xs = some ps →
    (xs.map fun p => (p.1, a.eval p.2)).length = ps.length ∧ ∀ (j : Nat) (p : Nat × Nat × AOpd) (q : Nat × Value), ps[j]? = some p → (xs.map fun p => (p.1, a.eval p.2))[j]? = some q →
      (∃ ft fi, fs[q.1]? = some (p.1, ft) ∧ E.tt ft = some fi ∧ p.2.1 = fi.size) ∧ VR E c (p.2.2.ev T) q.2
  | [], ps, h => by simp [cParts] at h; subst h; exact ⟨rfl, fun j p q h => by simp at h⟩
  | (i, x) :: xs, ps, h => by
    simp only [cParts, Option.bind_eq_bind, Option.bind_eq_some_iff] at h
    obtain ⟨⟨off, ft⟩, hf, fi, hfi, y, hy, ys, hys, e⟩ := h
    simp only [Option.some.injEq] at e
    subst e
    obtain ⟨h1, h2⟩ := cParts_spec hs hT hys
    refine ⟨by simpa using h1, fun j => ?_⟩
    cases j with
    | zero =>
      intro p q hp hq
      simp at hp hq
      subst hp; subst hq
      exact ⟨⟨ft, fi, hf, hfi, rfl⟩, cOpd_VR hs hT hy⟩
    | succ j => intro p q hp hq; exact h2 j p q (by simpa using hp) (by simpa using hq)

theorem fill_parts (place : Nat → Option (Nat × Nat)) :
    ∀ (ps : List (Nat × Nat × AOpd)) (qs : List (Nat × Value)) (T : Tm) (cs : List AV) (cells : Array Value), qs.length = ps.length →
    (∀ (j : Nat) (p : Nat × Nat × AOpd) (q : Nat × Value), ps[j]? = some p → qs[j]? = some q → place q.1 = some (p.1, p.2.1) ∧ VR E c (p.2.2.ev T) q.2) →
    ps.all (fun p => (p.2.2.ev T).ok && (p.2.2.ev T).cells.length == p.2.1 && decide (p.1 + p.2.1 ≤ cs.length)) = true → CR E c cs cells.toList →
    ∃ cells', Instr.fill place cells qs = some cells' ∧ CR E c (fillA cs (ps.map fun p => (p.1, p.2.2.ev T))) cells'.toList
  | [], qs, T, cs, cells, hl, _, _, h => by
    cases qs with
    | nil => exact ⟨cells, rfl, h⟩
    | cons => simp at hl
  | p :: ps, qs, T, cs, cells, hl, hq, hok, h => by
    cases qs with
    | nil => simp at hl
    | cons q qs =>
      obtain ⟨i, v⟩ := q
      obtain ⟨h1, h4⟩ := hq 0 p (i, v) rfl rfl
      simp only at h1 h4
      simp only [List.all_cons, Bool.and_eq_true, beq_iff_eq, decide_eq_true_eq] at hok
      obtain ⟨⟨⟨hok1, hok2⟩, hok4⟩, hok3⟩ := hok
      have hCR := CR.of_val h4 hok1
      have hvs : v.cells.size = p.2.1 := by have := hCR.1; simp at this; omega
      have hcs : cells.size = cs.length := by have := h.1; simpa using this
      have hsp := CR.spl (off := p.1) h hCR (by omega)
      obtain ⟨cells', g1, g2⟩ := fill_parts place ps qs T (spl cs p.1 (p.2.2.ev T).cells) (splV cells p.1 v.cells) (by simpa using hl) (fun j p q hp hq' => hq (j + 1) p q (by simpa using hp) (by simpa using hq'))
        (by rw [spl_length]; simpa using hok3) hsp
      refine ⟨cells', ?_, g2⟩
      simp only [Instr.fill, h1]
      rw [if_neg (by simp; omega)]
      exact g1

theorem cPartsA_spec {T : Tm} {a : Act} (hs : Sim E c H w) (hT : TRel E c T a) {sz : Nat} : ∀ {xs : List (Nat × Operand)} {ps : List (Nat × Nat × AOpd)}, cPartsA E sz xs = some ps →
    (xs.map fun p => (p.1, a.eval p.2)).length = ps.length ∧ ∀ (j : Nat) (p : Nat × Nat × AOpd) (q : Nat × Value), ps[j]? = some p → (xs.map fun p => (p.1, a.eval p.2))[j]? = some q →
      some (q.1 * sz, sz) = some (p.1, p.2.1) ∧ VR E c (p.2.2.ev T) q.2
  | [], ps, h => by simp [cPartsA] at h; subst h; exact ⟨rfl, fun j p q h => by simp at h⟩
  | (i, x) :: xs, ps, h => by
    simp only [cPartsA] at h
    split at h
    case h_2 => simp at h
    rename_i y ys hy hys
    simp only [Option.some.injEq] at h
    subst h
    obtain ⟨h1, h2⟩ := cPartsA_spec hs hT hys
    refine ⟨by simpa using h1, fun j => ?_⟩
    cases j with
    | zero =>
      intro p q hp hq
      simp at hp hq
      subst hp; subst hq
      exact ⟨rfl, cOpd_VR hs hT hy⟩
    | succ j => intro p q hp hq; exact h2 j p q (by simpa using hp) (by simpa using hq)

theorem buildA_sound (hE : E.Types) (hs : Sim E c H w) {t n e : Nat} {ti ei : TInfo} (ht : E.tt t = some ti) (hd : ti.desc = .array n e) (he : E.tt e = some ei) {T : Tm} {a : Act} (hT : TRel E c T a)
    {parts : Array (Nat × Operand)} {ps : List (Nat × Nat × AOpd)} (hps : cPartsA E ei.size parts.toList = some ps) {v : AV} {need : List (Nat × Blk)} {give : List (Nat × Option Blk)} {new : Nat}
    (h : aop new T H (.build ti.zero ps) = some (v, need, give)) :
    give = [] ∧ ∃ cv, (Instr.build t (parts.map fun (i, x) => (i, a.eval x))).run E.P w = .ok cv w ∧ VR E c v cv := by
  have hu := (hE t ti ht).desc
  rw [hd] at hu
  simp only at hu
  obtain ⟨z, hz, hzs, hCR⟩ := zero_run (c := c) hE ht w
  obtain ⟨h1, h2⟩ := cPartsA_spec hs hT hps
  simp only [aop] at h
  split at h
  case isFalse => simp at h
  rename_i hok
  simp only [pure1, Option.some.injEq, Prod.mk.injEq] at h
  obtain ⟨rfl, _, rfl⟩ := h
  obtain ⟨cells, g1, g2⟩ := fill_parts (fun i => some (i * ei.size, ei.size)) ps (parts.toList.map fun p => (p.1, a.eval p.2)) T ti.zero z.cells h1 h2 hok hCR
  refine ⟨rfl, .agg cells, ?_, by have := g2.agg; simpa using this⟩
  have hmap : (parts.map fun (p : Nat × Operand) => (p.1, a.eval p.2)).toList = parts.toList.map fun p => (p.1, a.eval p.2) := by simp
  simp only [Instr.build, Sem.run_bind, hz, Result.andThen_ok, run_underlying hu.1, sizeOf_run hE he]
  rw [hmap, g1]
  rfl

theorem run_mapM_places (hE : E.Types) {fs : List (Nat × Nat)} (hall : ∀ (off ft : Nat), (off, ft) ∈ fs → ∃ fi, E.tt ft = some fi) (fields : Array Field) (hf : fields.toList.map (fun f => (f.offset, f.type)) = fs) (w : World) :
    ∃ places : Array (Nat × Nat), ((fields.mapM fun f => do pure (f.offset, ← sizeOf f.type) : Sem (Array (Nat × Nat)))).run E.P w = .ok places w ∧ ∀ (i off ft : Nat) (fi : TInfo), fs[i]? = some (off, ft) → E.tt ft = some fi → places[i]? = some (off, fi.size) := by
  have key : ∀ (l : List Field), (∀ f ∈ l, ∃ fi, E.tt f.type = some fi) → ∃ ps : List (Nat × Nat), ((l.mapM fun f => do pure (f.offset, ← sizeOf f.type) : Sem (List (Nat × Nat)))).run E.P w = .ok ps w ∧
      ∀ (i : Nat) (f : Field) (fi : TInfo), l[i]? = some f → E.tt f.type = some fi → ps[i]? = some (f.offset, fi.size) := by
    intro l
    induction l with
    | nil => intro _; exact ⟨[], by simp, fun i f fi h => by simp at h⟩
    | cons f l ih =>
      intro hall
      obtain ⟨ps, h1, h2⟩ := ih (fun g hg => hall g (by simp [hg]))
      obtain ⟨fi, hfi⟩ := hall f (by simp)
      refine ⟨(f.offset, fi.size) :: ps, ?_, ?_⟩
      · simp only [List.mapM_cons, Sem.run_bind, sizeOf_run hE hfi, Result.andThen_ok, Sem.run_pure] at h1 ⊢
        rw [h1]
        rfl
      · intro i g gi hg hgi
        cases i with
        | zero => simp at hg; subst hg; rw [hfi] at hgi; cases hgi; rfl
        | succ i => exact h2 i g gi (by simpa using hg) hgi
  obtain ⟨ps, h1, h2⟩ := key fields.toList (fun f hf' => by
    obtain ⟨fi, h⟩ := hall f.offset f.type (by rw [← hf]; exact List.mem_map.2 ⟨f, hf', rfl⟩)
    exact ⟨fi, h⟩)
  refine ⟨ps.toArray, ?_, fun i off ft fi hi hfi => ?_⟩
  · rw [Array.mapM_eq_mapM_toList]
    simp only [Sem.run_map]
    rw [h1]
    rfl
  · rw [← hf, List.getElem?_map, Option.map_eq_some_iff] at hi
    obtain ⟨f, g1, g2⟩ := hi
    simp only [Prod.mk.injEq] at g2
    obtain ⟨rfl, rfl⟩ := g2
    simpa using h2 i f fi g1 hfi

theorem build_sound (hE : E.Types) (hs : Sim E c H w) {t : Nat} {ti : TInfo} {fs : List (Nat × Nat)} (ht : E.tt t = some ti) (hd : ti.desc = .struct fs) (hall : ∀ (off ft : Nat), (off, ft) ∈ fs → ∃ fi, E.tt ft = some fi) {T : Tm} {a : Act} (hT : TRel E c T a)
    {parts : Array (Nat × Operand)} {ps : List (Nat × Nat × AOpd)} (hps : cParts E fs parts.toList = some ps) {v : AV} {need : List (Nat × Blk)} {give : List (Nat × Option Blk)} {new : Nat}
    (h : aop new T H (.build ti.zero ps) = some (v, need, give)) :
    give = [] ∧ ∃ cv, (Instr.build t (parts.map fun (i, x) => (i, a.eval x))).run E.P w = .ok cv w ∧ VR E c v cv := by
  have hu := (hE t ti ht).desc
  rw [hd] at hu
  simp only at hu
  obtain ⟨_, fields, hu, hfs, _⟩ := hu
  obtain ⟨z, hz, hzs, hCR⟩ := zero_run (c := c) hE ht w
  obtain ⟨places, hp1, hp2⟩ := run_mapM_places hE hall fields hfs w
  obtain ⟨h1, h2⟩ := cParts_spec hs hT hps
  simp only [aop] at h
  split at h
  case isFalse => simp at h
  rename_i hok
  simp only [pure1, Option.some.injEq, Prod.mk.injEq] at h
  obtain ⟨rfl, _, rfl⟩ := h
  obtain ⟨cells, g1, g2⟩ := fill_parts (places[·]?) ps (parts.toList.map fun p => (p.1, a.eval p.2)) T ti.zero z.cells h1 (fun j p q hp hq => by
    obtain ⟨⟨ft, fi, k1, k2, k3⟩, k4⟩ := h2 j p q hp hq
    exact ⟨by rw [hp2 _ _ _ _ k1 k2, k3], k4⟩) hok hCR
  refine ⟨rfl, .agg cells, ?_, by have := g2.agg; simpa using this⟩
  have hmap : (parts.map fun (p : Nat × Operand) => (p.1, a.eval p.2)).toList = parts.toList.map fun p => (p.1, a.eval p.2) := by simp
  simp only [Instr.build, Sem.run_bind, hz, Result.andThen_ok, run_underlying hu]
  rw [hp1]
  simp only [Result.andThen_ok]
  rw [hmap, g1]
  rfl

/-- The elements of a slice as they lie in memory. -/
theorem elems_sound (hs : Sim E c H w) {sz : Nat} {x : AV} {cx : Value} (hx : VR E c x cx) {xs : List (List AV)} {need : List (Nat × Blk)} (h : elems sz H x = some (xs, need)) :
    (∀ cs ∈ xs, cs.length = sz) ∧ ∃ (ad : Option Addr) (cap : Nat) (vs : List Value), cx = .slice ad xs.length cap ∧ CR E c xs.flatten vs ∧ (∀ n ≤ xs.length, ∀ d, (Builtin.firstCells sz n cx).run E.P { w with drawn := d } = .ok (vs.take (n * sz)).toArray { w with drawn := d }) ∧ (ad = none → xs = []) := by
  have fin : ∀ {b o n cap : Nat} (es : List (List AV)), es.length = n → (∀ cs ∈ es, cs.length = sz) → (∀ (k : Nat) (x : AV), es.flatten[k]? = some x → ∃ v, w.cell? ⟨b, o + k, none⟩ = some v ∧ VR E c x v ∧ v.oneCell' = true) →
      (∀ cs ∈ es, cs.length = sz) ∧ ∃ (ad : Option Addr) (cap' : Nat) (vs : List Value), Value.slice (some ⟨b, o, none⟩) n cap = .slice ad es.length cap' ∧ CR E c es.flatten vs ∧
        (∀ m ≤ es.length, ∀ d, (Builtin.firstCells sz m (.slice (some ⟨b, o, none⟩) n cap)).run E.P { w with drawn := d } = .ok (vs.take (m * sz)).toArray { w with drawn := d }) ∧ (ad = none → es = []) := by
    intro b o n cap es hn hsz hcell
    obtain ⟨vs, h1, h2⟩ := choose_vals (P := fun k x v => w.cell? ⟨b, o + k, none⟩ = some v ∧ VR E c x v ∧ v.oneCell' = true) es.flatten hcell
    have hk : ∀ {k v}, vs[k]? = some v → ∃ x, es.flatten[k]? = some x := fun {k v} hv => by
      have : k < es.flatten.length := by rw [← h1]; exact (List.getElem?_eq_some_iff.1 hv).1
      exact ⟨_, List.getElem?_eq_getElem this⟩
    refine ⟨hsz, _, cap, vs, by rw [hn], ⟨h1, fun j x v hj hv => (h2 j x v hj hv).2.1, fun v hv => ?_⟩, fun m hm d => ?_, fun e => by cases e⟩
    · obtain ⟨k, hk'⟩ := List.mem_iff_getElem?.1 hv
      obtain ⟨x, hx⟩ := hk hk'
      exact (h2 k x v hx hk').2.2
    · have hl := run_loadCells_list (P := E.P) { w with drawn := d } ⟨b, o, none⟩ (vs.take (m * sz)) (fun j v hj => by
        rw [add_plain]
        show w.cell? _ = _
        rw [List.getElem?_take] at hj
        split at hj
        · obtain ⟨x, hx⟩ := hk hj
          exact (h2 j x v hx hj).1
        · simp at hj)
      have hlen : (vs.take (m * sz)).length = m * sz := by
        rw [List.length_take, h1, flatten_len es hsz]
        exact Nat.min_eq_left (Nat.mul_le_mul_right sz hm)
      rw [hlen] at hl
      simpa [Builtin.firstCells] using hl
  cases hx <;> simp only [elems, reduceCtorEq] at h
  · -- sl
    rename_i s id off len cap b nc hr hle hcap
    split at h
    case h_2 => simp at h
    rename_i es hid
    split at h
    case isFalse => simp at h
    rename_i hc
    obtain ⟨rfl, hc⟩ := hc
    simp only [Option.some.injEq, Prod.mk.injEq] at h
    obtain ⟨rfl, _⟩ := h
    obtain ⟨l, hl, hsz, _⟩ := hs.loc id es hid
    rw [hr] at hl; cases hl
    have hsz' : ∀ cs ∈ (es.drop off).take len, cs.length = s := fun cs hcs => hsz cs (List.mem_of_mem_drop (List.mem_of_mem_take hcs))
    refine fin _ (by simp; omega) hsz' (fun k x hk => ?_)
    obtain ⟨i, cs, j, g1, g2, rfl⟩ := flatten_from _ hsz' k x hk
    rw [List.getElem?_take] at g1
    split at g1
    case isFalse => simp at g1
    rw [List.getElem?_drop] at g1
    obtain ⟨v, k1, k2⟩ := hs.cell hid hr g1 g2
    exact ⟨v, by rw [← Nat.add_assoc, ← Nat.add_mul]; exact k1, k2⟩
  · -- slz
    rename_i s id off b o l hr hls
    split at h
    case h_2 => simp at h
    rename_i es hid
    split at h
    case isFalse => simp at h
    simp only [Option.some.injEq, Prod.mk.injEq] at h
    obtain ⟨rfl, _⟩ := h
    exact fin [] rfl (by simp) (fun k x hk => by simp at hk)
  · -- slv
    rename_i s id hr
    split at h
    case h_2 => simp at h
    split at h
    case isFalse => simp at h
    simp only [Option.some.injEq, Prod.mk.injEq] at h
    obtain ⟨rfl, _⟩ := h
    exact ⟨by simp, none, 0, [], rfl, ⟨rfl, fun j x v hj => by simp at hj, by simp⟩, fun n hn d => by simp at hn; subst hn; simp [Builtin.firstCells], fun _ => rfl⟩
  · -- ro
    rename_i s es b o cap vs g1 g2 g3 g4
    split at h
    case isFalse => simp at h
    rename_i hc; subst hc
    simp only [Option.some.injEq, Prod.mk.injEq] at h
    obtain ⟨rfl, _⟩ := h
    have hsz : ∀ cs ∈ es, cs.length = s := fun cs hcs => by
      obtain ⟨i, hi⟩ := List.mem_iff_getElem?.1 hcs
      exact g2 i cs hi
    refine fin _ rfl hsz (fun k x hk => ?_)
    obtain ⟨i, cs, j, k1, k2, rfl⟩ := flatten_from _ hsz k x hk
    exact ⟨vs i j, by rw [← Nat.add_assoc]; exact (hs.mem _ _ _ (g3 i cs j x k1 k2).1).1, g4 i cs j x k1 k2, (g3 i cs j x k1 k2).2⟩
  · -- ro0
    split at h
    case isFalse => simp at h
    simp only [Option.some.injEq, Prod.mk.injEq] at h
    obtain ⟨rfl, _⟩ := h
    exact ⟨by simp, none, 0, [], rfl, ⟨rfl, fun j x v hj => by simp at hj, by simp⟩, fun n hn d => by simp at hn; subst hn; simp [Builtin.firstCells], fun _ => rfl⟩
  · -- roz
    split at h
    case isFalse => simp at h
    simp only [Option.some.injEq, Prod.mk.injEq] at h
    obtain ⟨rfl, _⟩ := h
    rename_i a _ _
    exact ⟨by simp, some a, 0, [], rfl, ⟨rfl, fun j x v hj => by simp at hj, by simp⟩, fun n hn d => by simp at hn; subst hn; simp [Builtin.firstCells]; rfl, fun _ => rfl⟩
  · -- nilsl
    simp only [Option.some.injEq, Prod.mk.injEq] at h
    obtain ⟨rfl, _⟩ := h
    exact ⟨by simp, none, 0, [], rfl, ⟨rfl, fun j x v hj => by simp at hj, by simp⟩, fun n hn d => by simp at hn; subst hn; simp [Builtin.firstCells], fun _ => rfl⟩

theorem seg_get (l vs : List Value) (o k : Nat) (h : o + vs.length ≤ l.length) : (l.take o ++ vs ++ l.drop (o + vs.length))[k]? = if o ≤ k ∧ k < o + vs.length then vs[k - o]? else l[k]? := by
  have ho : (l.take o).length = o := by simp; omega
  rw [List.append_assoc, List.getElem?_append, ho]
  by_cases h1 : k < o
  · rw [if_pos h1, if_neg (by omega), List.getElem?_take, if_pos h1]
  · rw [if_neg h1, List.getElem?_append]
    by_cases h2 : k - o < vs.length
    · rw [if_pos h2, if_pos (by omega)]
    · rw [if_neg h2, if_neg (by omega), List.getElem?_drop]
      congr 1; omega

/-- Cells of a live block are written: 'n' of them from 'o' on; the rows as they then read. -/
theorem write_sound (hs : Sim E c H w) {id b nc sz : Nat} {es es' : Blk} (hid : H id = some es) (hr : c.ρ id = some ⟨some (b, nc), sz⟩) {o : Nat} {vs : List Value} (h1 : ∀ v ∈ vs, v.oneCell' = true) (hfit : o + vs.length ≤ nc) (hsz : ∀ cs ∈ es', cs.length = sz)
    (hes : ∀ (i : Nat) (cs : List AV) (j : Nat) (x : AV), es'[i]? = some cs → cs[j]? = some x →
      (o ≤ i * sz + j ∧ i * sz + j < o + vs.length ∧ ∀ v, vs[i * sz + j - o]? = some v → VR E c x v) ∨ (¬ (o ≤ i * sz + j ∧ i * sz + j < o + vs.length) ∧ ∃ cs0, es[i]? = some cs0 ∧ cs0[j]? = some x)) :
    ∃ w', (storeCells ⟨b, o, none⟩ vs).run E.P w = .ok () w' ∧ Keep c w w' ∧ Sim E c (H.set id (some es')) w' := by
  obtain ⟨hnf, cells, ty, hb, hnc, hrow⟩ := hs.live id es b nc sz hid hr
  have hst := run_storeCells_at E.P b o ty vs 0 cells w hb (by omega) h1
  simp only [Nat.add_zero] at hst
  have hlen : o + vs.length ≤ cells.toList.length := by simp; omega
  have hsz' : (cells.toList.take o ++ vs ++ cells.toList.drop (o + vs.length)).toArray.size = nc := by simp; omega
  obtain ⟨k1, k2⟩ := hs.setRow id es b nc sz hid hr _ hsz' es' hsz (fun i cs j x hi hj => by
    have hg := seg_get cells.toList vs o (i * sz + j) hlen
    rw [List.getElem?_toArray, hg]
    rcases hes i cs j x hi hj with ⟨a1, a2, a3⟩ | ⟨a1, cs0, a2, a3⟩
    · rw [if_pos ⟨a1, a2⟩]
      have hlt : i * sz + j - o < vs.length := by omega
      exact ⟨vs[i * sz + j - o], by simp [hlt], a3 _ (by simp [hlt]), h1 _ (List.getElem_mem hlt)⟩
    · rw [if_neg a1]
      obtain ⟨v, b1, b2, b3⟩ := hrow i cs0 j x a2 a3
      exact ⟨v, by simpa using b1, b2, b3⟩)
  exact ⟨_, hst, k2, k1⟩

theorem row_fits (hs : Sim E c H w) {id b nc sz : Nat} {es : Blk} (hid : H id = some es) (hr : c.ρ id = some ⟨some (b, nc), sz⟩) {i : Nat} (hi : i < es.length) : i * sz + sz ≤ nc := by
  rcases Nat.eq_zero_or_pos sz with h0 | h0
  · subst h0; simp
  · obtain ⟨l, hl', hsz, _⟩ := hs.loc id es hid
    rw [hr] at hl'; cases hl'
    obtain ⟨hnf, cells, ty, hb, hnc, hrow⟩ := hs.live id es b nc sz hid hr
    have hcs : es[i].length = sz := hsz _ (List.getElem_mem hi)
    obtain ⟨u, hu, _⟩ := hrow i es[i] (sz - 1) es[i][sz - 1] (List.getElem?_eq_getElem hi) (List.getElem?_eq_getElem (by omega))
    have := (Array.getElem?_eq_some_iff.1 hu).1
    omega

theorem st_sound (hE : E.Types) (hs : Sim E c H w) {t : Nat} {ti : TInfo} (ht : E.tt t = some ti) {x y : AV} {cx cy : Value} (hx : VR E c x cx) (hy : VR E c y cy)
    {v : AV} {need : List (Nat × Blk)} {give : List (Nat × Option Blk)} {new : Nat} {T : Tm} (h : aop new T H (.st ti.size (.c x) (.c y)) = some (v, need, give)) :
    v = .undef ∧ ∃ w', (Instr.storeAt t cx cy).run E.P w = .ok () w' ∧ Keep c w w' ∧ Sim E c (H.app give) w' := by
  simp only [aop] at h
  rw [show AOpd.ev T (.c x) = x from rfl, show AOpd.ev T (.c y) = y from rfl] at h
  cases hx <;> simp only [reduceCtorEq] at h
  rename_i id i off b nc sz hr
  split at h
  case h_2 => simp at h
  rename_i es hid
  split at h
  case h_2 => simp at h
  rename_i cs hi
  by_cases hc : y.ok = true ∧ y.cells.length = ti.size ∧ off + ti.size ≤ cs.length
  case neg => rw [if_neg hc] at h; simp at h
  rw [if_pos hc] at h
  obtain ⟨hok, hl, hle⟩ := hc
  simp only [Option.some.injEq, Prod.mk.injEq] at h
  obtain ⟨rfl, _, rfl⟩ := h
  refine ⟨rfl, ?_⟩
  have hCR := CR.of_val hy hok
  obtain ⟨l, hl', hsz, _⟩ := hs.loc id es hid
  rw [hr] at hl'; cases hl'
  have hcs : cs.length = sz := hsz cs (List.mem_of_getElem? hi)
  have hvs : cy.cells.size = ti.size := by have := hCR.1; simp at this; omega
  have hil : i < es.length := (List.getElem?_eq_some_iff.1 hi).1
  have hcsm : es[i] = cs := by have := List.getElem?_eq_getElem hil; rw [hi] at this; exact (Option.some.inj this).symm
  have hfit := row_fits hs hid hr hil
  obtain ⟨w', h1, h2, h3⟩ := write_sound hs hid hr (o := i * sz + off) (vs := cy.cells.toList) (es' := es.set i (spl cs off y.cells)) hCR.2.2 (by simp; omega) (fun r hrm => by
      rcases List.mem_or_eq_of_mem_set hrm with h1 | h1
      · exact hsz r h1
      · rw [h1, spl_length]; exact hcs) (fun k r j z hk hj => by
      rw [List.getElem?_set] at hk
      split at hk
      · rename_i e; subst e
        simp only [Option.some.injEq] at hk
        subst hk
        rw [spl_get] at hj
        split at hj
        · rename_i hc
          split at hj
          case isFalse => simp at hj
          refine .inl ⟨by omega, by simp; omega, fun v hv => hCR.2.1 (j - off) z v hj ?_⟩
          rw [← hv]; congr 1; omega
        · rename_i hc
          exact .inr ⟨by simp; omega, cs, hi, hj⟩
      · rename_i e
        have hrl : r.length = sz := hsz r (List.mem_of_getElem? hk)
        have hjl : j < r.length := (List.getElem?_eq_some_iff.1 hj).1
        refine .inr ⟨fun ⟨a1, a2⟩ => ?_, r, hk, hj⟩
        simp at a2
        rcases Nat.lt_or_gt_of_ne e with h4 | h4
        · have := Nat.mul_le_mul_right sz (show i + 1 ≤ k by omega)
          rw [Nat.succ_mul] at this; omega
        · have := Nat.mul_le_mul_right sz (show k + 1 ≤ i by omega)
          rw [Nat.succ_mul] at this; omega)
  refine ⟨w', ?_, h2, h3⟩
  simp only [Instr.storeAt, Instr.sureAddr, Sem.run_bind, Sem.run_pure, Result.andThen_ok, storeVar, sizeOf_run hE ht, hvs, ne_eq, not_true, if_false]
  exact h1

end
end Go.Abs
/- Each abstract operation holds of the model's operation that it was read off: slices cut, append, copy. -/
namespace Go.Abs

section
variable {E : Env} {c : Corr} {H : Heap} {w : World}

theorem slice_run (hE : E.Types) {t e : Nat} {ti ei : TInfo} (ht : E.tt t = some ti) (hd : ti.desc = .slice e) (he : E.tt e = some ei) {a : Option Addr} {len cap l h : Nat} {lov hiv : Option Value}
    (hlo : (lov = none ∧ l = 0) ∨ ∃ k, lov = some (.int k l)) (hhi : (hiv = none ∧ h = len) ∨ ∃ k, hiv = some (.int k h)) (h1 : l ≤ h) (h2 : h ≤ cap) (w : World) :
    (Instr.sliceAt t (.slice a len cap) lov hiv none).run E.P w = .ok (.slice (if cap = l then a else a.map (·.add (l * ei.size))) (h - l) (cap - l)) w := by
  have hu := (hE t ti ht).desc
  rw [hd] at hu
  simp only at hu
  have hb : (Instr.sliceBounds true len cap lov hiv none).run E.P w = .ok (l, h, cap) w := by
    rcases hlo with ⟨rfl, rfl⟩ | ⟨k, rfl⟩ <;> rcases hhi with ⟨rfl, rfl⟩ | ⟨k', rfl⟩ <;> simp [Instr.sliceBounds, Instr.sliceBound, asIntOf, h1, h2]
  simp only [Instr.sliceAt, Instr.slice, Sem.run_bind, run_underlying hu, Result.andThen_ok, hb, sizeOf_run hE he, Sem.run_pure]

theorem bnd_nat {o : Option AV} {ov : Option Value} (h : (o = none ∧ ov = none) ∨ ∃ y u, o = some y ∧ ov = some u ∧ VR E c y u) {d : Nat} {n : Int} (hb : bnd o d = some n) (h0 : 0 ≤ n) : (ov = none ∧ n.toNat = d) ∨ ∃ k, ov = some (.int k (n.toNat : Nat)) := by
  rcases h with ⟨rfl, rfl⟩ | ⟨y, u, rfl, rfl, hy⟩
  · simp [bnd] at hb; exact .inl ⟨rfl, by omega⟩
  · cases y <;> simp [bnd] at hb
    subst hb
    rw [hy.inj_int]
    exact .inr ⟨_, by rw [Int.toNat_of_nonneg h0]⟩

theorem slice_sound (hE : E.Types) {t e : Nat} {ti ei : TInfo} (ht : E.tt t = some ti) (hd : ti.desc = .slice e) (he : E.tt e = some ei) {x : AV} {cx : Value} (hx : VR E c x cx) {lo hi : Option AV} {lov hiv : Option Value}
    (hlo : (lo = none ∧ lov = none) ∨ ∃ y u, lo = some y ∧ lov = some u ∧ VR E c y u) (hhi : (hi = none ∧ hiv = none) ∨ ∃ y u, hi = some y ∧ hiv = some u ∧ VR E c y u)
    {v : AV} (h : aslice ei.size x lo hi = some v) : ∃ cv, (Instr.sliceAt t cx lov hiv none).run E.P w = .ok cv w ∧ VR E c v cv := by
  have two : ∀ {α : Type} {p q : Option Int} {f : Int → Int → Option α} {r : α}, (match p, q with | some l, some h => f l h | _, _ => none) = some r → ∃ l h, p = some l ∧ q = some h ∧ f l h = some r := by
    intro α p q f r h
    cases p <;> cases q <;> simp at h
    exact ⟨_, _, rfl, rfl, h⟩
  cases hx <;> simp only [aslice, reduceCtorEq] at h
  all_goals
    obtain ⟨l, hh, hl, hhq, h⟩ := two h
    split at h
    case isFalse => simp at h
    rename_i hc
    simp only [Option.some.injEq] at h
    subst h
  · -- sl
    rename_i s id off len cap b nc hr hle hcap
    obtain ⟨rfl, c1, c2, c3⟩ := hc
    refine ⟨_, slice_run hE ht hd he (bnd_nat (d := 0) hlo hl c1) (bnd_nat hhi hhq (by omega)) (by omega) (by omega) w, ?_⟩
    by_cases hm : cap = l.toNat
    · rw [if_pos hm]
      have e1 : hh.toNat - l.toNat = 0 := by omega
      have e2 : cap - l.toNat = 0 := by omega
      have e3 : (hh - l).toNat = 0 := by omega
      rw [e1, e2, e3]
      exact .slz hr rfl
    · rw [if_neg hm]
      have e3 : (hh - l).toNat = hh.toNat - l.toNat := by omega
      rw [e3]
      simp only [Option.map_some, add_plain]
      rw [← Nat.add_mul]
      exact .sl hr (by omega) (by
        have : off + l.toNat + (cap - l.toNat) = off + cap := by omega
        rw [this]; exact hcap)
  · -- slz
    rename_i s id off b o lo' hr hls
    obtain ⟨rfl, c1, c2, c3⟩ := hc
    refine ⟨_, slice_run hE ht hd he (bnd_nat (d := 0) hlo hl c1) (bnd_nat (d := 0) hhi hhq (by omega)) (by omega) (by omega) w, ?_⟩
    have e0 : l.toNat = 0 := by omega
    have e1 : hh.toNat = 0 := by omega
    have e3 : (hh - l).toNat = 0 := by omega
    rw [e0, e1, e3]
    exact .slz hr hls
  · -- slv
    rename_i s id hr
    obtain ⟨rfl, c1, c2, c3⟩ := hc
    refine ⟨_, slice_run hE ht hd he (bnd_nat (d := 0) hlo hl c1) (bnd_nat (d := 0) hhi hhq (by omega)) (by omega) (by omega) w, ?_⟩
    have e0 : l.toNat = 0 := by omega
    have e1 : hh.toNat = 0 := by omega
    have e3 : (hh - l).toNat = 0 := by omega
    rw [e0, e1, e3]
    exact .slv hr
  · -- ro
    rename_i s es b o cap vs g1 g2 g3 g4
    obtain ⟨rfl, c1, c2, c3⟩ := hc
    refine ⟨_, slice_run hE ht hd he (bnd_nat (d := 0) hlo hl c1) (bnd_nat hhi hhq (by omega)) (by omega) (by omega) w, ?_⟩
    have hlen : ((es.drop l.toNat).take (hh - l).toNat).length = hh.toNat - l.toNat := by simp; omega
    by_cases hm : cap = l.toNat
    · rw [if_pos hm]
      have e1 : hh.toNat - l.toNat = 0 := by omega
      have e2 : (es.drop l.toNat).take (hh - l).toNat = [] := by rw [show (hh - l).toNat = 0 by omega]; rfl
      rw [e1, e2]
      exact .ro (fun _ _ => .bool true) ⟨by simp, by omega⟩ (by simp) (by simp) (by simp)
    · rw [if_neg hm]
      have := VR.ro_cut (VR.ro vs g1 g2 g3 g4) l.toNat (hh - l).toNat (cap - l.toNat) (by omega)
      rw [hlen] at this
      simpa only [Option.map_some, add_plain] using this
  · -- ro0
    obtain ⟨rfl, c1, c2, c3⟩ := hc
    simp only [List.length_nil] at c3 hhq
    refine ⟨_, slice_run hE ht hd he (bnd_nat (d := 0) hlo hl c1) (bnd_nat (d := 0) hhi hhq (by omega)) (by omega) (by omega) w, ?_⟩
    have e0 : l.toNat = 0 := by omega
    have e1 : hh.toNat = 0 := by omega
    rw [e0, e1]
    simp only [List.drop_nil, List.take_nil]
    exact .ro0 _
  · -- roz
    obtain ⟨rfl, c1, c2, c3⟩ := hc
    simp only [List.length_nil] at c3 hhq
    refine ⟨_, slice_run hE ht hd he (bnd_nat (d := 0) hlo hl c1) (bnd_nat (d := 0) hhi hhq (by omega)) (by omega) (by omega) w, ?_⟩
    have e0 : l.toNat = 0 := by omega
    have e1 : hh.toNat = 0 := by omega
    rw [e0, e1]
    simp only [List.drop_nil, List.take_nil]
    exact .roz _ _
  · -- nilsl
    obtain ⟨rfl, rfl⟩ := hc
    exact ⟨_, slice_run hE ht hd he (bnd_nat (d := 0) hlo hl (by omega)) (bnd_nat (d := 0) hhi hhq (by omega)) (by omega) (by omega) w, .nilsl⟩

theorem grow_le (need : Nat) : ∀ (r k : Nat), k ≤ 2 * need + 1000 → Builtin.growBy need r k ≤ 2 * need + 1000
  | 0, k, h => h
  | r + 1, k, h => by
    simp only [Builtin.growBy]
    split
    · exact h
    · exact grow_le need r _ (by omega)

theorem nextcap_le (need old : Nat) (h : old < need) : Builtin.nextslicecap need old ≤ 2 * need + 1000 := by
  unfold Builtin.nextslicecap
  split
  · omega
  · split
    · omega
    · exact grow_le need 4 old (by omega)

/-- What 'append' comes to: in place, or in a new row. -/
theorem app_run (hE : E.Types) {t u e : Nat} {ti ui ei : TInfo} {e' : Nat} (ht : E.tt t = some ti) (hd : ti.desc = .slice e) (hu : E.tt u = some ui) (hud : ui.desc = .slice e') (he : E.tt e = some ei) (h0 : 0 < ei.bytes) (hb : ei.bytes ≤ 1024) (_hsz : 0 < ei.size)
    {ad bd : Option Addr} {len cap n ncap ty : Nat} (hn : len + n ≤ appLim) {olds news : List Value}
    (ho : (Builtin.firstCells ei.size len (.slice ad len cap)).run E.P w.drew = .ok olds.toArray w.drew) (hnw : (Builtin.firstCells ei.size n (.slice bd n ncap)).run E.P w = .ok news.toArray w)
    (hnw' : (Builtin.firstCells ei.size n (.slice bd n ncap)).run E.P w.drew = .ok news.toArray w.drew) (hol : olds.length = len * ei.size) (hnl : news.length = n * ei.size) :
    (len + n ≤ cap ∧ ∀ w', (match ad with | some a => storeCells (a.add (len * ei.size)) news | none => pure ()).run E.P w = .ok () w' → (Builtin.append_ #[t, u] ty #[.slice ad len cap, .slice bd n ncap]).run E.P w = .ok (.slice ad (len + n) cap) w') ∨
    (cap < len + n ∧ ∃ (newCap : Nat) (cells : Array Value), (len + n ≤ newCap ∧ newCap < 9223372036854775808) ∧ cells.size = newCap * ei.size ∧ (∀ (k : Nat) (v : Value), (olds ++ news)[k]? = some v → cells[k]? = some v) ∧
      (Builtin.append_ #[t, u] ty #[.slice ad len cap, .slice bd n ncap]).run E.P w = .ok (.slice (some ⟨w.heap.size, 0, none⟩) (len + n) newCap) (w.drew.alloc (.cells cells e))) := by
  have htu := (hE t ti ht).desc
  rw [hd] at htu
  simp only at htu
  have huu := (hE u ui hu).desc
  rw [hud] at huu
  simp only at huu
  obtain ⟨i, _, hi, hisz, hibt, _⟩ := (hE e ei he).info
  unfold appLim at hn
  by_cases hc : len + n ≤ cap
  · refine .inl ⟨hc, fun w' hst => ?_⟩
    cases ad with
    | none => simp at hst; subst hst; simp [Builtin.append_, run_underlying htu, run_underlying huu, sizeOf_run hE he, Builtin.lenOf, hc, hnw]
    | some a => simp at hst; simp [Builtin.append_, run_underlying htu, run_underlying huu, sizeOf_run hE he, Builtin.lenOf, hc, hnw, hst]
  · refine .inr ⟨by omega, ?_⟩
    have hnc := nextcap_le (len + n) cap (by omega)
    have hbig : ¬ (Builtin.nextslicecap (len + n) cap * ei.bytes > 2 ^ 48) := by
      have := Nat.mul_le_mul hnc hb
      omega
    obtain ⟨z, hz, hzs, _⟩ := zero_run (c := ⟨fun _ => none, fun _ _ => none, fun _ => False, 0⟩) hE he w.drew
    have hb0 : ¬ ei.bytes = 0 := by omega
    refine ⟨len + n + w.tape w.drawn (.appendCap (len + n) cap e) % (2 ^ 63 - (len + n)), (olds ++ news).toArray ++ Builtin.zeroCells z.cells (w.tape w.drawn (.appendCap (len + n) cap e) % (2 ^ 63 - (len + n))), ⟨by omega, by have := Nat.mod_lt (w.tape w.drawn (.appendCap (len + n) cap e)) (show 0 < 2 ^ 63 - (len + n) by omega); omega⟩, ?_, ?_, ?_⟩
    · simp [hol, hnl, Builtin.zeroCells, hzs]; rw [← Nat.add_mul, ← Nat.add_mul]
    · intro k v hk
      have hlt : k < (olds ++ news).length := (List.getElem?_eq_some_iff.1 hk).1
      rw [Array.getElem?_append, if_pos (by simpa using hlt)]
      simpa using hk
    · simp only [Builtin.append_]
      simp [run_underlying htu, run_underlying huu, sizeOf_run hE he, Builtin.lenOf, hc, hnw', ho, hz, typeInfo, hi, hibt, hb0, hbig, Question.forced, Question.cut, newRow]
      rw [show olds.toArray ++ (news.toArray ++ Builtin.zeroCells z.cells (w.tape w.drawn (Question.appendCap (len + n) cap e) % (9223372036854775808 - (len + n)))) = (olds ++ news).toArray ++ Builtin.zeroCells z.cells (w.tape w.drawn (Question.appendCap (len + n) cap e) % (9223372036854775808 - (len + n))) from by rw [← Array.append_assoc, List.append_toArray olds news]]

theorem Keep.after (c : Corr) {w w' : World} (h : Keep c w.drew w') : Keep c w w' := ⟨h.os, h.tape, h.output, h.size, h.block⟩

theorem app_sound (hE : E.Types) (hs : Sim E c H w) {t u e e' : Nat} {ti ui ei : TInfo} (ht : E.tt t = some ti) (hd : ti.desc = .slice e) (hu : E.tt u = some ui) (hud : ui.desc = .slice e') (he : E.tt e = some ei) (h0 : 0 < ei.bytes) (hb : ei.bytes ≤ 1024) (hsz : 0 < ei.size)
    {x y : AV} {cx cy : Value} (hx : VR E c x cx) (hy : VR E c y cy) {v : AV} {need : List (Nat × Blk)} {give : List (Nat × Option Blk)} {new ty : Nat} (hnew : c.ρ new = none) {T : Tm} (h : aop new T H (.app ei.size (.c x) (.c y)) = some (v, need, give)) :
    ∃ cv w' c', (Builtin.append_ #[t, u] ty #[cx, cy]).run E.P w = .ok cv w' ∧ StepX new c w c' w' ∧ Sim E c' (H.app give) w' ∧ VR E c' v cv := by
  simp only [aop] at h
  rw [show AOpd.ev T (.c x) = x from rfl, show AOpd.ev T (.c y) = y from rfl] at h
  split at h
  case h_2 => simp at h
  rename_i xs need' hel
  obtain ⟨hxsz, bd, ncap, news, rfl, hnCR, hnrun, _⟩ := elems_sound hs hy hel
  have hnl : news.length = xs.length * ei.size := by rw [hnCR.1, flatten_len xs hxsz]
  have hn1 := hnrun xs.length (Nat.le_refl _) w.drawn
  have hn2 := hnrun xs.length (Nat.le_refl _) (w.drawn + 1)
  rw [← hnl, List.take_length] at hn1 hn2
  have hsd : Sim E c H w.drew := hs.drew (w.drawn + 1)
  -- into a new row
  have fresh : ∀ {es : Blk} {olds : List Value} {len newCap : Nat} {cells : Array Value} (H0 : Heap), Sim E c H0 w.drew → (∀ cs ∈ es, cs.length = ei.size) → CR E c es.flatten olds → es.length = len → (len + xs.length ≤ newCap ∧ newCap < 9223372036854775808) → cells.size = newCap * ei.size →
      (∀ (k : Nat) (v : Value), (olds ++ news)[k]? = some v → cells[k]? = some v) →
      ∃ c', StepX new c w c' (w.drew.alloc (.cells cells e)) ∧ Sim E c' (H0.set new (some (es ++ xs))) (w.drew.alloc (.cells cells e)) ∧ VR E c' (.sl ei.size new 0 (len + xs.length)) (.slice (some ⟨w.heap.size, 0, none⟩) (len + xs.length) newCap) := by
    intro es olds len newCap cells H0 hH0 hes hCR hl hcap hcs hk
    have hER := ER.of_CR (sz := ei.size) (es := es ++ xs) (fun cs hc => (List.mem_append.1 hc).elim (hes cs) (hxsz cs)) (by rw [List.flatten_append]; exact hCR.append hnCR) hk
    obtain ⟨k1, k2⟩ := hH0.alloc new hnew ei.size cells e (es ++ xs) hER.1 hER.2
    refine ⟨_, ⟨k2.le, fun k hk hne => k2.old k hk hne, Keep.after c k2.keep⟩, k1, ?_⟩
    have := VR.sl (E := E) (c := c.add new ⟨some (w.heap.size, cells.size), ei.size⟩) (id := new) (off := 0) (len := len + xs.length) (cap := newCap) (Corr.add_same _ _ _) hcap (by rw [hcs]; simp)
    simpa using this
  cases hx <;> simp only [reduceCtorEq] at h
  · -- sl
    rename_i s id off len cap b nc hr hle hcap
    split at h
    case h_2 => simp at h
    rename_i es hid
    split at h
    case isFalse => simp at h
    rename_i hc
    obtain ⟨rfl, rfl, hle0, hlim⟩ := hc
    simp only [Option.some.injEq, Prod.mk.injEq] at h
    obtain ⟨rfl, _, rfl⟩ := h
    obtain ⟨es1, he1⟩ : ∃ es1, es1 = es.take len := ⟨_, rfl⟩
    rw [← he1]
    obtain ⟨H1, hH1⟩ : ∃ H1, H1 = H.set id (some es1) := ⟨_, rfl⟩
    have hs1 : Sim E c H1 w := by rw [hH1, he1]; exact hs.trunc hid _
    have hid1 : H1 id = some es1 := by rw [hH1]; exact Heap.set_same _ _ _
    have hg : H.app [(id, none), (new, some (es1 ++ xs))] = H1.app [(id, none), (new, some (es1 ++ xs))] := by
      rw [hH1]; funext k; simp only [Heap.app, Heap.set]; split
      · rfl
      · split <;> rfl
    rw [hg]; clear hg
    have hlen1 : es1.length = len := by rw [he1]; simp; try omega
    have hsd1 := hs1.drew (w.drawn + 1)
    obtain ⟨l, hl', hesz, _⟩ := hs1.loc id es1 hid1
    rw [hr] at hl'; cases hl'
    -- what it held
    have hold := elems_sound (sz := ei.size) hs1 (VR.sl hr hle hcap) (xs := es1) (need := [(id, es1)]) (by simp [elems, hid1, hlen1]; exact List.take_of_length_le (by omega))
    obtain ⟨_, ad, cap', olds, hcx, hoCR, horun, _⟩ := hold
    simp only [Value.slice.injEq] at hcx
    obtain ⟨rfl, rfl, rfl⟩ := hcx
    have hol : olds.length = es1.length * ei.size := by rw [hoCR.1, flatten_len es1 hesz]
    have ho := horun es1.length (Nat.le_refl _) (w.drawn + 1)
    rw [← hol, List.take_length] at ho
    rcases app_run (ty := ty) hE ht hd hu hud he h0 hb hsz (len := es1.length) (cap := cap) (n := xs.length) hlim (olds := olds) (news := news) ho hn1 hn2 hol hnl with ⟨hfit, hrun⟩ | ⟨hfit, newCap, cells, g1, g2, g3, g4⟩
    · -- in place
      have hfit' : es1.length * ei.size + news.length ≤ nc := by
        rw [hnl, ← Nat.add_mul]
        exact Nat.le_trans (Nat.mul_le_mul_right ei.size hfit) (by simpa using hcap)
      have hER := ER.of_CR (sz := ei.size) (es := es1 ++ xs) (fun cs hc => (List.mem_append.1 hc).elim (hesz cs) (hxsz cs)) (by rw [List.flatten_append]; exact hoCR.append hnCR) (cells := (olds ++ news).toArray) (fun k v hk => by simpa using hk)
      obtain ⟨w', k1, k2, k3⟩ := write_sound hs1 hid1 hr (o := es1.length * ei.size) (vs := news) (es' := es1 ++ xs) hnCR.2.2 hfit' hER.1 (fun i cs j z hi hj => by
        have hcs : cs.length = ei.size := hER.1 cs (List.mem_of_getElem? hi)
        have hjl : j < cs.length := (List.getElem?_eq_some_iff.1 hj).1
        have hil : i < (es1 ++ xs).length := (List.getElem?_eq_some_iff.1 hi).1
        by_cases hlt : i < es1.length
        · refine .inr ⟨fun ⟨a1, _⟩ => ?_, cs, by rwa [List.getElem?_append, if_pos hlt] at hi, hj⟩
          have := Nat.mul_le_mul_right ei.size (show i + 1 ≤ es1.length by omega)
          rw [Nat.succ_mul] at this; omega
        · rw [List.getElem?_append, if_neg hlt] at hi
          have hm : i * ei.size = es1.length * ei.size + (i - es1.length) * ei.size := by rw [← Nat.add_mul]; congr 1; omega
          have hm2 : (i - es1.length) * ei.size + ei.size ≤ xs.length * ei.size := by
            have := Nat.mul_le_mul_right ei.size (show i - es1.length + 1 ≤ xs.length by simp at hil; omega)
            rwa [Nat.succ_mul] at this
          refine .inl ⟨by omega, by omega, fun v hv => ?_⟩
          have hf := flatten_get xs hxsz (i - es1.length) cs j z hi hj
          exact hnCR.2.1 _ z v hf (by rw [← hv]; congr 1; omega))
      have hstore : (match (some (⟨b, 0 * ei.size, none⟩ : Addr)) with | some a => storeCells (a.add (es1.length * ei.size)) news | none => pure ()).run E.P w = .ok () w' := by
        simp only [add_plain]
        rw [show 0 * ei.size + es1.length * ei.size = es1.length * ei.size by omega]
        exact k1
      have hrun' := hrun w' hstore
      have hren := k3.rename id (es1 ++ xs) _ (Heap.set_same _ _ _) hr new hnew
      refine ⟨_, w', _, hrun', ⟨hren.2.le, fun k hk hne => hren.2.old k hk hne, k2⟩, ?_, ?_⟩
      · have : ((H1.set id (some (es1 ++ xs))).set id none).set new (some (es1 ++ xs)) = (H1.app [(id, none), (new, some (es1 ++ xs))]) := by
          funext k; simp only [Heap.app, Heap.set]; split
          · rfl
          · split <;> rfl
        rw [← this]; exact hren.1
      · exact .sl (Corr.add_same _ _ _) ⟨hfit, by omega⟩ (by simpa using hcap)
    · -- anew
      have hle : (H1.set id none).Le H1 := fun k => by
        by_cases e : k = id
        · subst e; exact .inl (Heap.set_same _ _ _)
        · exact .inr (Heap.set_ne _ _ _ _ e)
      obtain ⟨c', k1, k2, k3⟩ := fresh (H1.set id none) (hsd1.weaken hle) hesz hoCR rfl g1 g2 g3
      exact ⟨_, _, c', g4, k1, k2, k3⟩
  · -- slz
    rename_i s id off b o lc hr hls
    split at h
    case h_2 => simp at h
    rename_i es hid
    split at h
    case isFalse => simp at h
    rename_i hc
    obtain ⟨rfl, rfl, hle0, hlim⟩ := hc
    simp only [Option.some.injEq, Prod.mk.injEq] at h
    obtain ⟨rfl, _, rfl⟩ := h
    obtain ⟨es1, he1⟩ : ∃ es1, es1 = es.take 0 := ⟨_, rfl⟩
    rw [← he1]
    obtain ⟨H1, hH1⟩ : ∃ H1, H1 = H.set id (some es1) := ⟨_, rfl⟩
    have hs1 : Sim E c H1 w := by rw [hH1, he1]; exact hs.trunc hid _
    have hid1 : H1 id = some es1 := by rw [hH1]; exact Heap.set_same _ _ _
    have hg : H.app [(id, none), (new, some (es1 ++ xs))] = H1.app [(id, none), (new, some (es1 ++ xs))] := by
      rw [hH1]; funext k; simp only [Heap.app, Heap.set]; split
      · rfl
      · split <;> rfl
    rw [hg]; clear hg
    have hlen1 : es1.length = 0 := by rw [he1]; simp; try omega
    have hsd1 := hs1.drew (w.drawn + 1)
    have hes : es1 = [] := List.eq_nil_of_length_eq_zero hlen1
    subst hes
    have hle : (H1.set id none).Le H1 := fun k => by
      by_cases e : k = id
      · subst e; exact .inl (Heap.set_same _ _ _)
      · exact .inr (Heap.set_ne _ _ _ _ e)
    rcases app_run (ty := ty) (w := w) hE ht hd hu hud he h0 hb hsz (ad := some ⟨b, o, none⟩) (len := 0) (cap := 0) (n := xs.length) hlim (olds := []) (news := news) (by simp [Builtin.firstCells, loadCells, loadCellsFrom]) hn1 hn2 (by simp) hnl with ⟨hfit, hrun⟩ | ⟨hfit, newCap, cells, g1, g2, g3, g4⟩
    · have hx0 : xs = [] := List.eq_nil_of_length_eq_zero (by omega)
      subst hx0
      have hn0 : news = [] := List.eq_nil_of_length_eq_zero (by simpa using hnl)
      subst hn0
      have hren := hs1.rename id [] _ hid1 hr new hnew
      refine ⟨_, w, _, hrun w (by simp [storeCells]), hren.2, by simpa [Heap.app] using hren.1, ?_⟩
      exact .slz (Corr.add_same _ _ _) hls
    · obtain ⟨c', k1, k2, k3⟩ := fresh (es := []) (olds := []) (len := 0) (H1.set id none) (hsd1.weaken hle) (by simp) ⟨rfl, fun j x v hj => by simp at hj, by simp⟩ rfl g1 g2 g3
      exact ⟨_, _, c', g4, k1, k2, k3⟩
  · -- slv
    rename_i s id hr
    split at h
    case h_2 => simp at h
    rename_i es hid
    split at h
    case isFalse => simp at h
    rename_i hc
    obtain ⟨rfl, _, hle0, hlim⟩ := hc
    simp only [Option.some.injEq, Prod.mk.injEq] at h
    obtain ⟨rfl, _, rfl⟩ := h
    obtain ⟨es1, he1⟩ : ∃ es1, es1 = es.take 0 := ⟨_, rfl⟩
    rw [← he1]
    obtain ⟨H1, hH1⟩ : ∃ H1, H1 = H.set id (some es1) := ⟨_, rfl⟩
    have hs1 : Sim E c H1 w := by rw [hH1, he1]; exact hs.trunc hid _
    have hid1 : H1 id = some es1 := by rw [hH1]; exact Heap.set_same _ _ _
    have hg : H.app [(id, none), (new, some (es1 ++ xs))] = H1.app [(id, none), (new, some (es1 ++ xs))] := by
      rw [hH1]; funext k; simp only [Heap.app, Heap.set]; split
      · rfl
      · split <;> rfl
    rw [hg]; clear hg
    have hlen1 : es1.length = 0 := by rw [he1]; simp; try omega
    have hsd1 := hs1.drew (w.drawn + 1)
    have hes : es1 = [] := List.eq_nil_of_length_eq_zero hlen1
    subst hes
    have hle : (H1.set id none).Le H1 := fun k => by
      by_cases e : k = id
      · subst e; exact .inl (Heap.set_same _ _ _)
      · exact .inr (Heap.set_ne _ _ _ _ e)
    rcases app_run (ty := ty) (w := w) hE ht hd hu hud he h0 hb hsz (ad := none) (len := 0) (cap := 0) (n := xs.length) hlim (olds := []) (news := news) (by simp [Builtin.firstCells]) hn1 hn2 (by simp) hnl with ⟨hfit, hrun⟩ | ⟨hfit, newCap, cells, g1, g2, g3, g4⟩
    · have hx0 : xs = [] := List.eq_nil_of_length_eq_zero (by omega)
      subst hx0
      have hren := hs1.rename id [] _ hid1 hr new hnew
      refine ⟨_, w, _, hrun w (by simp), hren.2, by simpa [Heap.app] using hren.1, ?_⟩
      exact .slv (Corr.add_same _ _ _)
    · obtain ⟨c', k1, k2, k3⟩ := fresh (es := []) (olds := []) (len := 0) (H1.set id none) (hsd1.weaken hle) (by simp) ⟨rfl, fun j x v hj => by simp at hj, by simp⟩ rfl g1 g2 g3
      exact ⟨_, _, c', g4, k1, k2, k3⟩
  · -- nilsl
    split at h
    case isFalse => simp at h
    rename_i hlim
    simp only [Option.some.injEq, Prod.mk.injEq] at h
    obtain ⟨rfl, _, rfl⟩ := h
    rcases app_run (ty := ty) (w := w) hE ht hd hu hud he h0 hb hsz (ad := none) (len := 0) (cap := 0) (n := xs.length) (by omega) (olds := []) (news := news) (by simp [Builtin.firstCells]) hn1 hn2 (by simp) hnl with ⟨hfit, hrun⟩ | ⟨hfit, newCap, cells, g1, g2, g3, g4⟩
    · have hx0 : xs = [] := List.eq_nil_of_length_eq_zero (by omega)
      subst hx0
      have hvi := hs.virt new ei.size hnew
      refine ⟨_, w, _, hrun w (by simp), hvi.2, by simpa [Heap.app] using hvi.1, ?_⟩
      exact .slv (Corr.add_same _ _ _)
    · obtain ⟨c', k1, k2, k3⟩ := fresh (es := []) (olds := []) (len := 0) H hsd (by simp) ⟨rfl, fun j x v hj => by simp at hj, by simp⟩ rfl g1 g2 g3
      rw [Nat.zero_add] at k3
      rw [Nat.zero_add] at g4
      exact ⟨_, _, c', g4, k1, by simpa [Heap.app] using k2, k3⟩

end
end Go.Abs
/- Each abstract operation holds of the model's operation that it was read off: copy; and all together. -/
namespace Go.Abs

section
variable {E : Env} {c : Corr} {H : Heap} {w : World}

theorem cpy_sound (hE : E.Types) (hs : Sim E c H w) {t u e : Nat} {ti ei : TInfo} (ht : E.tt t = some ti) (hd : ti.desc = .slice e) (he : E.tt e = some ei)
    {x y : AV} {cx cy : Value} (hx : VR E c x cx) (hy : VR E c y cy) {v : AV} {need : List (Nat × Blk)} {give : List (Nat × Option Blk)} {new ty : Nat} {T : Tm} (h : aop new T H (.cpy ei.size (.c x) (.c y)) = some (v, need, give)) :
    ∃ cv w', (Builtin.copy_ #[t, u] ty #[cx, cy]).run E.P w = .ok cv w' ∧ Keep c w w' ∧ Sim E c (H.app give) w' ∧ VR E c v cv := by
  have htu := (hE t ti ht).desc
  rw [hd] at htu
  simp only at htu
  simp only [aop] at h
  rw [show AOpd.ev T (.c x) = x from rfl, show AOpd.ev T (.c y) = y from rfl] at h
  split at h
  case h_2 => simp at h
  rename_i xs need' hel
  obtain ⟨hxsz, bd, ncap, news, rfl, hnCR, hnrun, _⟩ := elems_sound hs hy hel
  have hlen : ∀ (k : Nat), (Nat.min xs.length k) ≤ xs.length := fun k => Nat.min_le_left _ _
  cases hx <;> simp only [reduceCtorEq] at h
  · -- sl
    rename_i s id off len cap b nc hr hle hcap
    split at h
    case h_2 => simp at h
    rename_i es hid
    split at h
    case isFalse => simp at h
    rename_i hc
    obtain ⟨rfl, hfit⟩ := hc
    simp only [Option.some.injEq, Prod.mk.injEq] at h
    obtain ⟨rfl, _, rfl⟩ := h
    obtain ⟨l, hl', hesz, _⟩ := hs.loc id es hid
    rw [hr] at hl'; cases hl'
    generalize hm : min xs.length len = m
    have hm1 : m ≤ xs.length := by omega
    have hm2 : m ≤ len := by omega
    have hrun := hnrun m hm1 w.drawn
    have hnl : news.length = xs.length * ei.size := by rw [hnCR.1, flatten_len xs hxsz]
    have hml := Nat.mul_le_mul_right ei.size hm1
    have htl : (news.take (m * ei.size)).length = m * ei.size := by rw [List.length_take]; omega
    have hb : off * ei.size + (news.take (m * ei.size)).length ≤ nc := by
      rw [htl, ← Nat.add_mul]
      exact Nat.le_trans (Nat.mul_le_mul_right ei.size (by omega)) hcap
    obtain ⟨w', k1, k2, k3⟩ := write_sound hs hid hr (o := off * ei.size) (vs := news.take (m * ei.size)) (es' := es.take off ++ xs.take m ++ es.drop (off + m)) (fun v hv => hnCR.2.2 v (List.mem_of_mem_take hv)) hb (fun cs hcs => by
        rcases List.mem_append.1 hcs with h1 | h1
        · rcases List.mem_append.1 h1 with h2 | h2
          · exact hesz cs (List.mem_of_mem_take h2)
          · exact hxsz cs (List.mem_of_mem_take h2)
        · exact hesz cs (List.mem_of_mem_drop h1)) (fun i cs j z hi hj => by
      rw [htl]
      have e1 : (es.take off).length = off := by simp; omega
      have e2 : (xs.take m).length = m := by simp; omega
      rw [List.append_assoc, List.getElem?_append, e1] at hi
      split at hi
      · rename_i hlt
        have hi' : es[i]? = some cs := by rw [List.getElem?_take, if_pos hlt] at hi; exact hi
        have hcs := hesz cs (List.mem_of_getElem? hi')
        have hjl : j < cs.length := (List.getElem?_eq_some_iff.1 hj).1
        refine .inr ⟨fun ⟨a1, _⟩ => ?_, cs, hi', hj⟩
        have := Nat.mul_le_mul_right ei.size (show i + 1 ≤ off by omega)
        rw [Nat.succ_mul] at this
        simp only at hcs
        omega
      · rename_i hge
        rw [List.getElem?_append, e2] at hi
        split at hi
        · rename_i hlt
          have hi' : xs[i - off]? = some cs := by rw [List.getElem?_take, if_pos hlt] at hi; exact hi
          have hcs := hxsz cs (List.mem_of_getElem? hi')
          have hjl : j < cs.length := (List.getElem?_eq_some_iff.1 hj).1
          have hmul : i * ei.size = off * ei.size + (i - off) * ei.size := by rw [← Nat.add_mul]; congr 1; omega
          have hmul2 := Nat.mul_le_mul_right ei.size (show i - off + 1 ≤ m by omega)
          rw [Nat.succ_mul] at hmul2
          refine .inl ⟨by omega, by omega, fun v hv => ?_⟩
          have hf := flatten_get xs hxsz (i - off) cs j z hi' hj
          rw [List.getElem?_take] at hv
          split at hv
          · exact hnCR.2.1 _ z v hf (by rw [← hv]; congr 1; omega)
          · simp at hv
        · rename_i hge2
          rw [List.getElem?_drop] at hi
          have hi' : es[i]? = some cs := by rw [← hi]; congr 1; omega
          have hcs := hesz cs (List.mem_of_getElem? hi')
          have hjl : j < cs.length := (List.getElem?_eq_some_iff.1 hj).1
          refine .inr ⟨fun ⟨_, a2⟩ => ?_, cs, hi', hj⟩
          have := Nat.mul_le_mul_right ei.size (show off + m ≤ i by omega)
          rw [Nat.add_mul] at this
          omega)
    refine ⟨.int .i64 (m : Nat), w', ?_, k2, k3, .int _ _⟩
    have hst : (storeCells ⟨b, off * ei.size, none⟩ (news.take (m * ei.size))).run E.P w = .ok () w' := k1
    have hmm : Nat.min xs.length len = m := hm
    have hrun' : (Builtin.firstCells ei.size m (.slice bd xs.length ncap)).run E.P w = .ok (news.take (m * ei.size)).toArray w := hrun
    simp [Builtin.copy_, run_underlying htu, Builtin.lenOf, sizeOf_run hE he, hmm, hrun', hst, goInt]
  · -- slz
    rename_i s id off b o lc hr hls
    split at h
    case h_2 => simp at h
    rename_i es hid
    split at h
    case isFalse => simp at h
    simp only [Option.some.injEq, Prod.mk.injEq] at h
    obtain ⟨rfl, _, rfl⟩ := h
    refine ⟨.int .i64 0, w, ?_, .refl _ _, ?_, by simpa using VR.int (E := E) (c := c) .i64 0⟩
    · have hrun' : (Builtin.firstCells ei.size 0 (.slice bd xs.length ncap)).run E.P w = .ok #[] w := by have := hnrun 0 (Nat.zero_le _) w.drawn; simpa using this
      simp [Builtin.copy_, run_underlying htu, Builtin.lenOf, sizeOf_run hE he, hrun', goInt, storeCells]
    · refine hs.weaken (fun k => ?_)
      simp only [Heap.app, Heap.set]
      split
      · rename_i e; subst e; right; rw [hid]; simp
      · exact .inr rfl
  · -- slv
    rename_i s id hr
    split at h
    case h_2 => simp at h
    rename_i es hid
    split at h
    case isFalse => simp at h
    simp only [Option.some.injEq, Prod.mk.injEq] at h
    obtain ⟨rfl, _, rfl⟩ := h
    refine ⟨.int .i64 0, w, ?_, .refl _ _, ?_, by simpa using VR.int (E := E) (c := c) .i64 0⟩
    · have hrun' : (Builtin.firstCells ei.size 0 (.slice bd xs.length ncap)).run E.P w = .ok #[] w := by have := hnrun 0 (Nat.zero_le _) w.drawn; simpa using this
      simp [Builtin.copy_, run_underlying htu, Builtin.lenOf, sizeOf_run hE he, hrun', goInt]
    · refine hs.weaken (fun k => ?_)
      simp only [Heap.app, Heap.set]
      split
      · rename_i e; subst e; right; rw [hid]; simp
      · exact .inr rfl
  · -- nilsl
    simp only [Option.some.injEq, Prod.mk.injEq] at h
    obtain ⟨rfl, _, rfl⟩ := h
    refine ⟨.int .i64 0, w, ?_, .refl _ _, hs, .int _ _⟩
    have hrun' : (Builtin.firstCells ei.size 0 (.slice bd xs.length ncap)).run E.P w = .ok #[] w := by have := hnrun 0 (Nat.zero_le _) w.drawn; simpa using this
    simp [Builtin.copy_, run_underlying htu, Builtin.lenOf, sizeOf_run hE he, hrun', goInt]

end
end Go.Abs
/- Each abstract operation (no call) holds of the model's operation that it was read off. -/
namespace Go.Abs

section
variable {E : Env} {c : Corr} {H : Heap} {w : World} {T : Tm} {a : Act}

theorem omap {α β : Type} {o : Option α} {f : α → β} {b : β} (h : o.map f = some b) : ∃ x, o = some x ∧ f x = b := Option.map_eq_some_iff.1 h

theorem OpRes.of_quiet {o : Oper} {new : Nat} {s : Sem Value} {v : AV} {give : List (Nat × Option Blk)} (hs : Sim E c H w) (ho : execOp a.eval o = do pure (.value (← s)))
    (h : give = [] ∧ ∃ cv, s.run E.P w = .ok cv w ∧ VR E c v cv) : OpRes E o a new c w (H.app give) v := by
  obtain ⟨rfl, cv, h1, h2⟩ := h
  exact OpRes.quiet hs (by rw [ho]; simp [h1]) h2

theorem OpRes.of_made {o : Oper} {new : Nat} {s : Sem Value} {v : AV} {H' : Heap} (ho : execOp a.eval o = do pure (.value (← s)))
    (h : ∃ cv w' c', s.run E.P w = .ok cv w' ∧ StepX new c w c' w' ∧ Sim E c' H' w' ∧ VR E c' v cv) : OpRes E o a new c w H' v := by
  obtain ⟨cv, w', c', h1, h2, h3, h4⟩ := h
  exact .value (by rw [ho]; simp [h1]) h2 h3 h4

/-- Every type that an operation names is told (for 'convert', whose source must have a description). -/
def Env.Src (E : Env) : Prop := ∀ (s d : Nat) (x : Operand), (compOp E (.convert s d x)).isSome → ∃ u, E.P.underlying s = some u

theorem Env.Types.src (hE : E.Types) : E.Src := by
  intro s d x h
  simp only [compOp] at h
  split at h
  · rename_i sz by' k z ht hd
    exact ⟨_, (hE s _ ht).desc⟩
  · simp at h

theorem agg_other {d : TD} (h : d.agg = true) : d ≠ .other := fun e => by rw [e] at h; simp [TD.agg] at h

theorem aop_sound (hE : E.Types) (hsrc : E.Src) {o : Oper} {ao : AOp} (hc : compOp E o.op = some ao) (hs : Sim E c H w) (hT : TRel E c T a) {new : Nat} (hnew : ao.makes = true → c.ρ new = none)
    {v : AV} {need : List (Nat × Blk)} {give : List (Nat × Option Blk)} (h : aop new T H ao = some (v, need, give)) : OpRes E o a new c w (H.app give) v := by
  have V : ∀ {x : Operand} {y : AOpd}, cOpd E x = some y → VR E c (y.ev T) (a.eval x) := fun h => cOpd_VR hs hT h
  cases hop : o.op with
  | move x =>
    rw [hop] at hc
    obtain ⟨y, hy, rfl⟩ := omap hc
    simp only [aop, pure1, Option.some.injEq, Prod.mk.injEq] at h
    obtain ⟨rfl, _, rfl⟩ := h
    exact OpRes.quiet hs (by simp [execOp, hop]) (V hy)
  | assign x =>
    rw [hop] at hc
    obtain ⟨y, hy, rfl⟩ := omap hc
    simp only [aop, pure1, Option.some.injEq, Prod.mk.injEq] at h
    obtain ⟨rfl, _, rfl⟩ := h
    exact OpRes.quiet hs (by simp [execOp, hop]) (V hy)
  | pick q x y =>
    rw [hop] at hc
    simp only [compOp, Option.bind_eq_bind, Option.bind_eq_some_iff] at hc
    obtain ⟨q', hq, x', hx, y', hy, e⟩ := hc
    simp only [Option.some.injEq] at e
    subst e
    simp only [aop] at h
    have hv := V hq
    cases hqe : q'.ev T <;> rw [hqe] at h hv <;> simp only [reduceCtorEq] at h
    rename_i t
    simp only [pure1, Option.some.injEq, Prod.mk.injEq] at h
    obtain ⟨rfl, _, rfl⟩ := h
    have hqv := hv.inj_bool
    cases t
    · exact OpRes.quiet hs (cv := a.eval y) (by simp [execOp, hop, hqv, asBool]) (by simpa using V hy)
    · exact OpRes.quiet hs (cv := a.eval x) (by simp [execOp, hop, hqv, asBool]) (by simpa using V hx)
  | alloc t =>
    rw [hop] at hc
    obtain ⟨ti, ht, rfl⟩ := omap hc
    simp only [aop, Option.some.injEq, Prod.mk.injEq] at h
    obtain ⟨rfl, _, rfl⟩ := h
    exact OpRes.of_made (by simp only [execOp, hop]) (alloc_sound hE hs ht (hnew rfl))
  | box t x =>
    rw [hop] at hc
    obtain ⟨y, hy, rfl⟩ := omap hc
    simp only [aop] at h
    split at h
    case isFalse => simp at h
    rename_i hok
    simp only [Option.some.injEq, Prod.mk.injEq] at h
    obtain ⟨rfl, _, rfl⟩ := h
    exact OpRes.of_made (by simp only [execOp, hop]) (box_sound (t := t) hs (V hy) hok (hnew rfl))
  | build t parts =>
    rw [hop] at hc
    simp only [compOp] at hc
    split at hc
    case h_3 => simp at hc
    case h_2 =>
      rename_i sz by' n e z ht
      split at hc
      case h_2 => simp at hc
      rename_i ei he
      obtain ⟨ps, hps, rfl⟩ := omap hc
      exact OpRes.of_quiet hs (by simp only [execOp, hop]) (buildA_sound hE hs ht rfl he hT hps h)
    rename_i sz by' fs z ht
    split at hc
    case isFalse => simp at hc
    rename_i hall
    obtain ⟨ps, hps, rfl⟩ := omap hc
    exact OpRes.of_quiet hs (by simp only [execOp, hop]) (build_sound hE hs ht rfl (fun off ft hm => by
      have := List.all_eq_true.1 hall (off, ft) hm
      simp only [Option.isSome_iff_exists] at this
      exact this) hT hps h)
  | buildSlice t len parts =>
    rw [hop] at hc
    simp only [compOp] at hc
    split at hc
    case h_2 => simp at hc
    rename_i sz by' e z ht
    split at hc
    case h_2 => simp at hc
    rename_i ei he
    split at hc
    case isFalse => simp at hc
    rename_i hcond
    obtain ⟨ps, hps, rfl⟩ := omap hc
    simp only [Bool.and_eq_true, decide_eq_true_eq] at hcond
    simp only [aop] at h
    split at h
    case isFalse => simp at h
    rename_i hok
    simp only [Option.some.injEq, Prod.mk.injEq] at h
    obtain ⟨rfl, _, rfl⟩ := h
    exact OpRes.of_made (by simp only [execOp, hop]) (bsl_sound hE hs ht rfl he hcond.2 hcond.1 hT hps hok (hnew rfl))
  | load t x =>
    rw [hop] at hc
    simp only [compOp] at hc
    split at hc
    case h_2 => simp at hc
    rename_i ti ht
    split at hc
    · rename_i hag
      obtain ⟨y, hy, rfl⟩ := omap hc
      exact OpRes.of_quiet hs (by simp only [execOp, hop]) (lda_sound hE hs ht hag (V hy) (T := T) (new := new) h)
    · rename_i hag
      split at hc
      · simp at hc
      · rename_i hoth
        obtain ⟨y, hy, rfl⟩ := omap hc
        exact OpRes.of_quiet hs (by simp only [execOp, hop]) (ld_sound hE hs ht hoth (by simpa using hag) (V hy) (T := T) (new := new) h)
  | store t x y =>
    rw [hop] at hc
    simp only [compOp] at hc
    split at hc
    case h_2 => simp at hc
    rename_i ti ht
    split at hc
    case isFalse => simp at hc
    simp only [Option.bind_eq_bind, Option.bind_eq_some_iff] at hc
    obtain ⟨x', hx, y', hy, e⟩ := hc
    simp only [Option.some.injEq] at e
    subst e
    obtain ⟨rfl, w', h1, h2, h3⟩ := st_sound hE hs ht (V hx) (V hy) (T := T) (new := new) h
    exact .skip (by simp [execOp, hop, h1]) ⟨.refl _, fun _ _ _ => rfl, h2⟩ h3
  | nilCheck x =>
    rw [hop] at hc
    obtain ⟨y, hy, rfl⟩ := omap hc
    obtain ⟨rfl, cv, h1, h2⟩ := nilck_sound hop (V hy) (w := w) (T := T) (H := H) (new := new) h
    exact OpRes.quiet hs h1 h2
  | binOp op t x y yt =>
    rw [hop] at hc
    simp only [compOp] at hc
    split at hc
    · rename_i sz by' k z ht
      simp only [Option.bind_eq_bind, Option.bind_eq_some_iff] at hc
      obtain ⟨x', hx, y', hy, e⟩ := hc
      simp only [Option.some.injEq] at e
      subst e
      obtain ⟨rfl, cv, h1, h2, k1, k2, b1, b2, e1, e2⟩ := bin_sound (w := w) (t := t) (V hx) (V hy) (T := T) (H := H) (new := new) h
      refine OpRes.quiet hs (cv := cv) ?_ h2
      simp only [execOp, hop, e1, e2] at h1 ⊢
      simp [bin_guard, h1]
    · rename_i sz by' z ht
      split at hc
      · simp only [Option.bind_eq_bind, Option.bind_eq_some_iff] at hc
        obtain ⟨x', hx, y', hy, e⟩ := hc
        simp only [Option.some.injEq] at e
        subst e
        obtain ⟨rfl, cv, h1, h2⟩ := eqb_sound (w := w) hE ht rfl (V hx) (V hy) (T := T) (H := H) (new := new) h x y
        exact OpRes.quiet hs (cv := cv) (by simp only [execOp, hop]; simp only [Bool.false_eq_true, if_false] at h1; rw [Sem.run_bind, h1]; rfl) h2
      · simp only [Option.bind_eq_bind, Option.bind_eq_some_iff] at hc
        obtain ⟨x', hx, y', hy, e⟩ := hc
        simp only [Option.some.injEq] at e
        subst e
        obtain ⟨rfl, cv, h1, h2⟩ := eqb_sound (w := w) hE ht rfl (V hx) (V hy) (T := T) (H := H) (new := new) h x y
        exact OpRes.quiet hs (cv := cv) (by simp only [execOp, hop]; simp only [if_true] at h1; rw [Sem.run_bind, h1]; rfl) h2
      · simp at hc
    · rename_i sz by' pe z ht
      split at hc
      · simp only [Option.bind_eq_bind, Option.bind_eq_some_iff] at hc
        obtain ⟨x', hx, y', hy, e⟩ := hc
        simp only [Option.some.injEq] at e
        subst e
        obtain ⟨rfl, cv, h1, h2⟩ := eqp_sound (w := w) hE ht rfl (V hx) (V hy) (T := T) (H := H) (new := new) h x y
        exact OpRes.quiet hs (cv := cv) (by simp only [execOp, hop]; simp only [Bool.false_eq_true, if_false] at h1; rw [Sem.run_bind, h1]; rfl) h2
      · simp only [Option.bind_eq_bind, Option.bind_eq_some_iff] at hc
        obtain ⟨x', hx, y', hy, e⟩ := hc
        simp only [Option.some.injEq] at e
        subst e
        obtain ⟨rfl, cv, h1, h2⟩ := eqp_sound (w := w) hE ht rfl (V hx) (V hy) (T := T) (H := H) (new := new) h x y
        exact OpRes.quiet hs (cv := cv) (by simp only [execOp, hop]; simp only [if_true] at h1; rw [Sem.run_bind, h1]; rfl) h2
      · simp at hc
    · rename_i sz by' fs z ht
      split at hc
      · rename_i ks hks
        simp only [Option.bind_eq_bind, Option.bind_eq_some_iff] at hc
        obtain ⟨x', hx, y', hy, e⟩ := hc
        simp only [Option.some.injEq] at e
        subst e
        obtain ⟨rfl, cv, h1, h2⟩ := eqv_sound (w := w) hE ht rfl hks (V hx) (V hy) (T := T) (H := H) (new := new) h x y
        exact OpRes.quiet hs (cv := cv) (by simp only [execOp, hop]; simp only [Bool.false_eq_true, if_false] at h1; rw [Sem.run_bind, h1]; rfl) h2
      · rename_i ks hks
        simp only [Option.bind_eq_bind, Option.bind_eq_some_iff] at hc
        obtain ⟨x', hx, y', hy, e⟩ := hc
        simp only [Option.some.injEq] at e
        subst e
        obtain ⟨rfl, cv, h1, h2⟩ := eqv_sound (w := w) hE ht rfl hks (V hx) (V hy) (T := T) (H := H) (new := new) h x y
        exact OpRes.quiet hs (cv := cv) (by simp only [execOp, hop]; simp only [if_true] at h1; rw [Sem.run_bind, h1]; rfl) h2
      · simp at hc
    · simp at hc
  | unOp op t x =>
    rw [hop] at hc
    obtain ⟨y, hy, rfl⟩ := omap hc
    exact OpRes.of_quiet hs (by simp only [execOp, hop]) (un_sound (w := w) (V hy) (T := T) (H := H) (new := new) h)
  | convert s d x =>
    rw [hop] at hc
    have hss := hsrc s d x (by rw [hc]; rfl)
    simp only [compOp] at hc
    split at hc
    case h_2 => simp at hc
    rename_i sz by' k z _ ht
    obtain ⟨y, hy, rfl⟩ := omap hc
    exact OpRes.of_quiet hs (by simp only [execOp, hop]) (conv_sound (w := w) hE ht rfl hss (V hy) (T := T) (H := H) (new := new) h)
  | makeFunc fn first caps =>
    rw [hop] at hc
    simp only [compOp] at hc
    split at hc
    case h_2 => simp at hc
    rename_i f
    split at hc
    case isFalse => simp at hc
    rename_i hf
    split at hc
    case h_2 => simp at hc
    rename_i n cs hn hcs
    simp only [Option.some.injEq] at hc
    subst hc
    simp only [aop, pure1, Option.some.injEq, Prod.mk.injEq] at h
    obtain ⟨rfl, _, rfl⟩ := h
    obtain ⟨h1, h2⟩ := cOpds_VR hs hT hcs
    have hf0 : first = #[] := by simpa using hf
    subst hf0
    refine OpRes.quiet hs (cv := .func (.func f) #[] (caps.map a.eval)) (by simp [execOp, hop, Instr.makeFunc]) (.fn hn (by simpa using h1) (fun j x v hj hv => h2 j x v hj ?_))
    rw [← hv]; simp
  | makeSlice t n m =>
    rw [hop] at hc
    simp only [compOp] at hc
    split at hc
    case h_2 => simp at hc
    rename_i sz by' e z ht
    split at hc
    case h_2 => simp at hc
    rename_i ei he
    split at hc
    case isFalse => simp at hc
    rename_i hcond
    simp only [Bool.and_eq_true, decide_eq_true_eq] at hcond
    simp only [Option.bind_eq_bind, Option.bind_eq_some_iff] at hc
    obtain ⟨n', hn, m', hm, e'⟩ := hc
    simp only [Option.some.injEq] at e'
    subst e'
    simp only [aop] at h
    have vn := V hn
    have vm := V hm
    split at h
    case h_2 => simp at h
    rename_i p q hp hq
    rw [hp] at vn
    rw [hq] at vm
    split at h
    case isFalse => simp at h
    rename_i hpq
    obtain ⟨rfl, hp0, hp1⟩ := hpq
    simp only [Option.some.injEq, Prod.mk.injEq] at h
    obtain ⟨rfl, _, rfl⟩ := h
    have hmade := mksl_sound hE hs ht rfl he hcond.2 hcond.1.2 hp0 hp1 (hnew rfl)
    exact OpRes.of_made (by simp only [execOp, hop, vn.inj_int, vm.inj_int]) hmade
  | slice t x lo hi mx =>
    rw [hop] at hc
    simp only [compOp] at hc
    split at hc
    case h_2 => simp at hc
    rename_i sz by' e z ht
    split at hc
    case h_2 => simp at hc
    rename_i ei he
    simp only [Option.bind_eq_bind, Option.bind_eq_some_iff] at hc
    obtain ⟨x', hx, lo', hlo, hi', hhi, e'⟩ := hc
    simp only [Option.some.injEq] at e'
    subst e'
    have opt : ∀ {p : Option Operand} {q : Option AOpd}, cOpt E p = some q → (q.map (AOpd.ev T) = none ∧ p.map a.eval = none) ∨ ∃ y u, q.map (AOpd.ev T) = some y ∧ p.map a.eval = some u ∧ VR E c y u := by
      intro p q hpq
      cases p with
      | none => simp [cOpt] at hpq; subst hpq; exact .inl ⟨rfl, rfl⟩
      | some p => obtain ⟨y, hy, rfl⟩ := omap hpq; exact .inr ⟨_, _, rfl, rfl, V hy⟩
    simp only [aop] at h
    cases hsl : aslice ei.size (x'.ev T) (lo'.map (AOpd.ev T)) (hi'.map (AOpd.ev T)) with
    | none => rw [hsl] at h; simp at h
    | some r =>
      rw [hsl] at h
      simp only [Option.bind_some, pure1, Option.some.injEq, Prod.mk.injEq] at h
      obtain ⟨rfl, _, rfl⟩ := h
      obtain ⟨cv, h1, h2⟩ := slice_sound (w := w) hE ht rfl he (V hx) (opt hlo) (opt hhi) hsl
      exact OpRes.quiet hs (cv := cv) (by simp only [execOp, hop, Option.map_none]; rw [Sem.run_bind, h1]; rfl) h2
  | fieldAddr s x i =>
    rw [hop] at hc
    simp only [compOp] at hc
    split at hc
    case h_2 => simp at hc
    rename_i sz by' fs z ht
    split at hc
    case h_2 => simp at hc
    rename_i off ft hf
    split at hc
    case h_2 => simp at hc
    rename_i fi hfi
    split at hc
    case isFalse => simp at hc
    rename_i h0
    obtain ⟨y, hy, rfl⟩ := omap hc
    exact OpRes.of_quiet hs (by simp only [execOp, hop]) (fad_sound (w := w) hE ht rfl hf hfi h0 (V hy) (T := T) (H := H) (new := new) h)
  | field s x i =>
    rw [hop] at hc
    simp only [compOp] at hc
    split at hc
    case h_2 => simp at hc
    rename_i sz by' fs z ht
    split at hc
    case h_2 => simp at hc
    rename_i off ft hf
    split at hc
    case h_2 => simp at hc
    rename_i fi hfi
    split at hc
    · rename_i hag
      obtain ⟨y, hy, rfl⟩ := omap hc
      exact OpRes.of_quiet hs (by simp only [execOp, hop]) (fld_sound (w := w) hE ht rfl hf hfi (agg_other hag) (V hy) (T := T) (H := H) (new := new) (.inr ⟨hag, h⟩))
    · rename_i hag
      split at hc
      · simp at hc
      · rename_i hoth
        obtain ⟨y, hy, rfl⟩ := omap hc
        exact OpRes.of_quiet hs (by simp only [execOp, hop]) (fld_sound (w := w) hE ht rfl hf hfi hoth (V hy) (T := T) (H := H) (new := new) (.inl ⟨by simpa using hag, h⟩))
  | indexAddr t x i =>
    rw [hop] at hc
    simp only [compOp] at hc
    split at hc
    · rename_i sz by' e z ht
      split at hc
      case h_2 => simp at hc
      rename_i ei he
      simp only [Option.bind_eq_bind, Option.bind_eq_some_iff] at hc
      obtain ⟨x', hx, i', hi, e'⟩ := hc
      simp only [Option.some.injEq] at e'
      subst e'
      exact OpRes.of_quiet hs (by simp only [execOp, hop]) (iad_sound (w := w) hE ht rfl he (V hx) (V hi) (T := T) (H := H) (new := new) h)
    · rename_i sz by' n e z ht
      split at hc
      case h_2 => simp at hc
      rename_i ei he
      simp only [Option.bind_eq_bind, Option.bind_eq_some_iff] at hc
      obtain ⟨x', hx, i', hi, e'⟩ := hc
      simp only [Option.some.injEq] at e'
      subst e'
      exact OpRes.of_quiet hs (by simp only [execOp, hop]) (iadA_sound (w := w) hE ht rfl he (V hx) (V hi) (T := T) (H := H) (new := new) h)
    · simp at hc
  | extract x i =>
    rw [hop] at hc
    obtain ⟨y, hy, rfl⟩ := omap hc
    exact OpRes.of_quiet hs (by simp only [execOp, hop]) (ext_sound (w := w) (V hy) (T := T) (H := H) (new := new) h)
  | call k =>
    obtain ⟨callee, args, argTypes⟩ := k
    cases callee with
    | value f =>
      rw [hop] at hc
      simp only [compOp] at hc
      split at hc
      case h_2 => simp at hc
      simp only [Option.some.injEq] at hc
      subst hc
      simp [aop] at h
    | invoke r m => rw [hop] at hc; simp [compOp] at hc
    | builtin b =>
      rw [hop] at hc
      simp only [compOp, Option.bind_eq_some_iff] at hc
      obtain ⟨as, has, hb⟩ := hc
      obtain ⟨h1, h2⟩ := cOpds_VR hs hT has
      have hev : ∀ (n : Nat), as.length = n → (args.map a.eval).toList.length = n := fun n hn => by simp; rw [← hn]; simpa using h1
      have get : ∀ (j : Nat) (y : AOpd), as[j]? = some y → ∃ cv, (args.map a.eval)[j]? = some cv ∧ VR E c (y.ev T) cv := fun j y hj => by
        have hjl : j < as.length := (List.getElem?_eq_some_iff.1 hj).1
        have hjl2 : j < args.toList.length := by rw [h1]; exact hjl
        refine ⟨a.eval args[j], by simp at hjl2; simp [hjl2], h2 j _ _ (by simp [hj]) (by simp at hjl2; simp [hjl2])⟩
      have one : ∀ {x : AOpd}, as = [x] → ∃ cx, args.map a.eval = #[cx] ∧ VR E c (x.ev T) cx := fun {x} e => by
        subst e
        obtain ⟨cx, g1, g2⟩ := get 0 x rfl
        refine ⟨cx, ?_, g2⟩
        have := hev 1 rfl
        apply Array.ext' ; 
        match hl : (args.map a.eval).toList, this with
        | [q], _ =>
          have : (args.map a.eval)[0]? = some q := by rw [← Array.getElem?_toList, hl]; rfl
          rw [g1] at this; cases this; rfl
      have two : ∀ {x y : AOpd}, as = [x, y] → ∃ cx cy, args.map a.eval = #[cx, cy] ∧ VR E c (x.ev T) cx ∧ VR E c (y.ev T) cy := fun {x y} e => by
        subst e
        obtain ⟨cx, g1, g2⟩ := get 0 x rfl
        obtain ⟨cy, g3, g4⟩ := get 1 y rfl
        refine ⟨cx, cy, ?_, g2, g4⟩
        have := hev 2 rfl
        apply Array.ext' ;
        match hl : (args.map a.eval).toList, this with
        | [q, r], _ =>
          have e1 : (args.map a.eval)[0]? = some q := by rw [← Array.getElem?_toList, hl]; rfl
          have e2 : (args.map a.eval)[1]? = some r := by rw [← Array.getElem?_toList, hl]; rfl
          rw [g1] at e1; cases e1
          rw [g3] at e2; cases e2; rfl
      have ts1 : ∀ {t : Nat}, argTypes.toList = [t] → argTypes = #[t] := fun e => Array.ext' e
      have ts2 : ∀ {t u : Nat}, argTypes.toList = [t, u] → argTypes = #[t, u] := fun e => Array.ext' e
      unfold cBuiltin at hb
      split at hb
      · -- len
        rename_i x t hts
        obtain ⟨cx, e1, vx⟩ := one rfl
        have e2 := ts1 hts
        split at hb
        · rename_i sz by' e z ht
          simp only [Option.some.injEq] at hb
          subst hb
          exact OpRes.of_quiet hs (by simp only [execOp, hop, resolve, e1, e2]; rfl) (len_sound (w := w) (ty := o.type) hE ht rfl vx (T := T) (H := H) (new := new) h)
        · rename_i sz by' n e z ht
          simp only [Option.some.injEq] at hb
          subst hb
          simp only [aop, pure1, Option.some.injEq, Prod.mk.injEq] at h
          obtain ⟨rfl, _, rfl⟩ := h
          exact OpRes.of_quiet (give := []) hs (by simp only [execOp, hop, resolve, e1, e2]; rfl) ⟨rfl, _, lenc_sound (w := w) (ty := o.type) hE ht rfl, .int _ _⟩
        · simp at hb
      · -- append
        rename_i x y t u hts
        obtain ⟨cx, cy, e1, vx, vy⟩ := two rfl
        have e2 := ts2 hts
        split at hb
        case h_2 => simp at hb
        rename_i sz by' e z sz2 by2 e' z2 ht hu
        split at hb
        case h_2 => simp at hb
        rename_i ei he
        split at hb
        case isFalse => simp at hb
        rename_i hcond
        simp only [Bool.and_eq_true, decide_eq_true_eq] at hcond
        simp only [Option.some.injEq] at hb
        subst hb
        exact OpRes.of_made (by simp only [execOp, hop, resolve, e1, e2]; rfl) (app_sound (ty := o.type) hE hs ht rfl hu rfl he hcond.1.1 hcond.1.2 hcond.2 vx vy (hnew rfl) (T := T) h)
      · -- copy
        rename_i x y t u hts
        obtain ⟨cx, cy, e1, vx, vy⟩ := two rfl
        have e2 := ts2 hts
        split at hb
        case h_2 => simp at hb
        rename_i sz by' e z ht
        split at hb
        case h_2 => simp at hb
        rename_i ei he
        simp only [Option.some.injEq] at hb
        subst hb
        obtain ⟨cv, w', k1, k2, k3, k4⟩ := cpy_sound (u := u) (ty := o.type) hE hs ht rfl he vx vy (T := T) (new := new) h
        exact OpRes.of_made (by simp only [execOp, hop, resolve, e1, e2]; rfl) ⟨cv, w', c, k1, ⟨.refl _, fun _ _ _ => rfl, k2⟩, k3, k4⟩
      · -- min
        rename_i x y
        obtain ⟨cx, cy, e1, vx, vy⟩ := two rfl
        simp only [Option.some.injEq] at hb
        subst hb
        exact OpRes.of_quiet hs (by simp only [execOp, hop, resolve, e1]; rfl) (mn_sound (w := w) (ty := o.type) vx vy (T := T) (H := H) (new := new) h)
      · -- max
        rename_i x y
        obtain ⟨cx, cy, e1, vx, vy⟩ := two rfl
        simp only [Option.some.injEq] at hb
        subst hb
        exact OpRes.of_quiet hs (by simp only [execOp, hop, resolve, e1]; rfl) (mx_sound (w := w) (ty := o.type) vx vy (T := T) (H := H) (new := new) h)
      · simp at hb
  | _ => rw [hop] at hc; simp [compOp] at hc

end
end Go.Abs
