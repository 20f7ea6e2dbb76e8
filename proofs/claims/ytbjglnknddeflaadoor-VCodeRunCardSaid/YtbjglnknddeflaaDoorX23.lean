/- A part of the proof: Br, Br2, Br3 -/
import Derived.Deep.Slices
import Derived.ChangeReads
import Derived.ChangeSame
import Derived.OpenShut
import Derived.ProofKit
import Derived.LaidMore
import Derived.Deep.Onto
import Derived.WideKeyArgs
import Derived.Test.YtbjglnknddeflaaDoorX22
set_option linter.unusedSimpArgs false
set_option linter.unusedVariables false
/- From what a row reads to abstract values. -/
namespace Go.Abs

/-- All that stands, untouched from here on. -/
def snap (w : World) : Corr := { ρ := fun _ => none, mem := fun b o => w.cell? ⟨b, o, none⟩, frz := fun b => b < w.heap.size, nxt := 0 }

theorem cell_lt {w : World} {b o : Nat} {v : Value} (h : w.cell? ⟨b, o, none⟩ = some v) : b < w.heap.size := by
  unfold World.cell? at h
  split at h
  · rename_i e; exact (Array.getElem?_eq_some_iff.1 e).1
  · cases h
theorem snap_sim {E : Env} {w : World} (hg : ∀ g av, E.glob g = some av → VR E (snap w) av (.pointer (some ⟨g, 0, none⟩))) : Sim E (snap w) (fun _ => none) w :=
  ⟨fun b o v h => ⟨h, cell_lt h⟩, fun b h => h, fun _ _ => rfl, (fun id es h => by cases h), (fun id es b nc sz h => by cases h), (fun id id' es es' b nc sz nc' sz' h => by cases h), hg⟩

/-- Cells read as abstract values. -/
def Rd (E : Env) (c : Corr) (cs : List Value) (xs : List AV) : Prop := xs.length = cs.length ∧ ∀ (j : Nat) (x : AV) (v : Value), xs[j]? = some x → cs[j]? = some v → VR E c x v ∧ v.oneCell' = true

section
variable {H : Type} {enc : TypeId × Value → H} {P : Program} {w : World} {E : Env} {sp : Nat → Bool} {held : Bool}

/-- What a type's reading tells. -/
def Dec (enc : TypeId × Value → H) (P : Program) (w : World) (sp : Nat → Bool) (held : Bool) (E : Env) (t : TypeId) {A : Type} (cells : A → List AV) (un : DataW H → Option A) : Prop :=
  ∀ (fuel : Nat) (cs : List Value) (d : DataW H) (ps : List MemPlace), DataW.trod enc P w 0 sp held fuel t cs = some (d, ps) → ∃ a, un d = some a ∧ Rd E (snap w) cs (cells a)

theorem rd_one {x : AV} {v : Value} (h : VR E (snap w) x v) (ho : v.oneCell' = true) : Rd E (snap w) [v] [x] := ⟨rfl, fun j y u hy hu => by
  match j with
  | 0 => cases hy; cases hu; exact ⟨h, ho⟩
  | j + 1 => cases hy⟩

def unInt (k : IntKind) : DataW H → Option Int
  | .lit (.int k' n) => if k' = k then some n else none
  | _ => none
theorem dec_int {t : TypeId} {k : IntKind} (ht : P.underlying t = some (.int k)) : Dec enc P w sp held E t (fun n : Int => [AV.int k n]) (unInt k) := by
  intro fuel cs d ps h
  cases fuel with
  | zero => simp [DataW.trod] at h
  | succ m =>
    unfold DataW.trod at h
    rw [ht] at h
    split at h <;> simp only [Option.some.injEq, TypeDesc.int.injEq, reduceCtorEq] at *
    rename_i k1 k2 n e
    subst e
    split at h
    · rename_i hc
      obtain ⟨rfl, -⟩ := hc
      simp only [Option.some.injEq, Prod.mk.injEq] at h
      obtain ⟨rfl, -⟩ := h
      exact ⟨n, by simp [unInt], rd_one (.int _ _) rfl⟩
    · cases h
def unBool : DataW H → Option Bool
  | .lit (.bool b) => some b
  | _ => none
theorem dec_bool {t : TypeId} (ht : P.underlying t = some .bool) : Dec enc P w sp held E t (fun n : Bool => [AV.bool n]) unBool := by
  intro fuel cs d ps h
  cases fuel with
  | zero => simp [DataW.trod] at h
  | succ m =>
    unfold DataW.trod at h
    rw [ht] at h
    split at h <;> simp only [Option.some.injEq, TypeDesc.int.injEq, reduceCtorEq, Prod.mk.injEq] at *
    rename_i b
    obtain ⟨rfl, -⟩ := h
    exact ⟨_, rfl, rd_one (.bool _) rfl⟩
def unStr : DataW H → Option (List UInt8)
  | .lit (.string s) => some s
  | _ => none
theorem dec_str {t : TypeId} (ht : P.underlying t = some .string) : Dec enc P w sp held E t (fun s : List UInt8 => [AV.str ⟨s.toArray⟩]) unStr := by
  intro fuel cs d ps h
  cases fuel with
  | zero => simp [DataW.trod] at h
  | succ m =>
    unfold DataW.trod at h
    rw [ht] at h
    split at h <;> simp only [Option.some.injEq, TypeDesc.int.injEq, reduceCtorEq, Prod.mk.injEq] at *
    rename_i s
    split at h
    · simp only [Option.some.injEq, Prod.mk.injEq] at h
      obtain ⟨rfl, -⟩ := h
      exact ⟨_, rfl, rd_one (.str _) rfl⟩
    · cases h

theorem mapM_get {α β : Type} {f : α → Option β} : ∀ (ds : List α) (l : List β), l.length = ds.length → (∀ (i : Nat) (d : α) (a : β), ds[i]? = some d → l[i]? = some a → f d = some a) → ds.mapM f = some l
  | [], [], _, _ => rfl
  | d :: ds, a :: l, hl, h => by
    rw [List.mapM_cons, h 0 d a rfl rfl, mapM_get ds l (by simpa using hl) (fun i d a h1 h2 => h (i + 1) d a (by simpa using h1) (by simpa using h2))]; rfl
  | [], _ :: _, hl, _ => by simp at hl
  | _ :: _, [], hl, _ => by simp at hl

theorem cells_get {a : Addr} {n : Nat} {cs : List Value} (h : w.cells? 0 a n = some cs) : cs.length = n ∧ ∀ j, j < n → w.cell? (a.add j) = cs[j]? := by
  unfold World.cells? at h
  rw [if_pos (Nat.zero_le _)] at h
  have key : ∀ (l : List Nat) (cs : List Value), l.mapM (fun i => w.cell? (a.add i)) = some cs → cs.length = l.length ∧ ∀ (k i : Nat), l[k]? = some i → w.cell? (a.add i) = cs[k]? := by
    intro l
    induction l with
    | nil => intro cs h; simp at h; subst h; simp
    | cons x l ih =>
      intro cs h
      rw [List.mapM_cons] at h
      simp only [Option.bind_eq_bind, Option.bind_eq_some_iff] at h
      obtain ⟨v, hv, r, hr, h⟩ := h
      simp at h; subst h
      obtain ⟨h1, h2⟩ := ih r hr
      refine ⟨by simp [h1], fun k i hk => ?_⟩
      cases k with
      | zero => simp at hk; subst hk; simpa using hv
      | succ k => simpa using h2 k i (by simpa using hk)
  obtain ⟨h1, h2⟩ := key _ _ h
  exact ⟨by simpa using h1, fun j hj => h2 j j (by simp [hj])⟩

theorem cell_plain {a : Addr} {v : Value} (h : w.cell? a = some v) : a = ⟨a.block, a.off, none⟩ := by
  unfold World.cell? at h
  split at h
  · split at h
    · cases h
    · rename_i hs
      cases a; simp at hs; simp [hs]
  · cases h

def unSl {A : Type} (un : DataW H → Option A) : DataW H → Option (List A)
  | .nil => some []
  | .slice es _ => es.mapM un
  | _ => none
theorem dec_slice (hsp : ∀ b, sp b = true) {t e : TypeId} {A : Type} {cells : A → List AV} {un : DataW H → Option A} {sz : Nat} (ht : P.underlying t = some (.slice e)) (hsz : P.cellsOf e = sz) (hpos : 0 < sz) (hc : ∀ a, (cells a).length = sz) (h : Dec enc P w sp held E e cells un) :
    Dec enc P w sp held E t (fun l : List A => [AV.ro sz (l.map cells)]) (unSl un) := by
  intro fuel cs d ps hd
  rcases Go.Deep.open_slice ht hd with ⟨rfl, hx⟩ | ⟨a, len, cap, m, n, D, Pl, rfl, -, hlc, hcap, hm, hx, hel⟩
  · simp only [Prod.mk.injEq] at hx
    obtain ⟨rfl, -⟩ := hx
    exact ⟨[], rfl, rd_one (.ro0 _) rfl⟩
  simp only [Prod.mk.injEq] at hx
  obtain ⟨rfl, -⟩ := hx
  have hlm : len ≤ m := by rw [hm]; split <;> omega
  rw [hsz] at hel
  have hl : ∀ k, k ≤ len → ∃ l : List A, l.length = k ∧ ∀ (i : Nat) (a' : A), l[i]? = some a' → un (D i) = some a' ∧ ∃ cs', w.cells? 0 (a.add (i * sz)) sz = some cs' ∧ Rd E (snap w) cs' (cells a') := by
    intro k
    induction k with
    | zero => intro _; exact ⟨[], rfl, fun i a' h => by simp at h⟩
    | succ k ih =>
      intro hk
      obtain ⟨l, h1, h2⟩ := ih (by omega)
      obtain ⟨cs', h3, h4⟩ := hel k (by omega)
      obtain ⟨a', h5, h6⟩ := h _ _ _ _ h4
      refine ⟨l ++ [a'], by simp [h1], fun i b hb => ?_⟩
      rw [List.getElem?_append] at hb
      split at hb
      · exact h2 i b hb
      · have hi : i = k := by
          have := (List.getElem?_eq_some_iff.1 hb).1
          simp at this; omega
        subst hi
        rw [h1] at hb; simp at hb; subst hb
        exact ⟨h5, cs', h3, h6⟩
  obtain ⟨l, hll, hg⟩ := hl len (Nat.le_refl _)
  refine ⟨l, ?_, rd_one ?_ rfl⟩
  · refine mapM_get _ _ (by simp [hll]) fun i d a' h1 h2 => ?_
    have hi := (List.getElem?_eq_some_iff.1 h2).1
    rw [List.getElem?_map, List.getElem?_range (by omega)] at h1
    simp at h1; subst h1
    exact (hg i a' h2).1
  · subst hll
    cases l with
    | nil =>
      by_cases hcz : cap = 0
      · subst hcz; exact .roz _ _
      · rw [hm, hsp, if_pos rfl] at hel
        obtain ⟨cs0, h0, -⟩ := hel 0 (by omega)
        obtain ⟨h2, h3⟩ := cells_get h0
        have h4 := h3 0 hpos
        rw [List.getElem?_eq_getElem (by omega), Nat.zero_mul] at h4
        have h5 : a.add 0 = a := by unfold Addr.add; simp
        rw [h5, h5] at h4
        rw [cell_plain h4]
        exact .ro (es := []) (fun _ _ => .bool true) ⟨Nat.zero_le _, by unfold maxLen at hcap; omega⟩ (by simp) (by simp) (by simp)
    | cons a0 l =>
      obtain ⟨-, cs0, h0, h1⟩ := hg 0 a0 rfl
      obtain ⟨h2, h3⟩ := cells_get h0
      have h4 := h3 0 hpos
      rw [List.getElem?_eq_getElem (by omega), Nat.zero_mul] at h4
      have h5 : a.add 0 = a := by unfold Addr.add; simp
      rw [h5, h5] at h4
      have ha := cell_plain h4
      rw [ha]
      have he : (a0 :: l).length = ((a0 :: l).map cells).length := by simp
      rw [he]
      have get : ∀ {i : Nat} {cs : List AV}, ((a0 :: l).map cells)[i]? = some cs → ∃ a', (a0 :: l)[i]? = some a' ∧ cs = cells a' := fun {i cs} hi => by
        rw [List.getElem?_map, Option.map_eq_some_iff] at hi
        obtain ⟨a', h1, h2⟩ := hi
        exact ⟨a', h1, h2.symm⟩
      have val : ∀ {i : Nat} {cs : List AV} {j : Nat} {x : AV}, ((a0 :: l).map cells)[i]? = some cs → cs[j]? = some x → ∃ v, w.cell? ⟨a.block, a.off + i * sz + j, none⟩ = some v ∧ VR E (snap w) x v ∧ v.oneCell' = true := fun {i cs j x} hi hj => by
        obtain ⟨a', h6, rfl⟩ := get hi
        obtain ⟨-, cs', h7, h8, h9⟩ := hg i a' h6
        obtain ⟨g1, g2⟩ := cells_get h7
        have hj' := (List.getElem?_eq_some_iff.1 hj).1
        have g3 := g2 j (by rw [hc] at hj'; exact hj')
        rw [ha, add_plain, add_plain] at g3
        rw [List.getElem?_eq_getElem (by omega)] at g3
        have g4 := h9 j x _ hj (List.getElem?_eq_getElem (by omega))
        exact ⟨_, g3, g4⟩
      refine .ro (fun i j => (w.cell? ⟨a.block, a.off + i * sz + j, none⟩).getD Go.undef) ⟨by simp at hlc ⊢; omega, by unfold maxLen at hcap; omega⟩ (fun i cs hi => ?_) (fun i cs j x hi hj => ?_) (fun i cs j x hi hj => ?_)
      · obtain ⟨a', -, rfl⟩ := get hi; exact hc a'
      · obtain ⟨v, g1, g2, g3⟩ := val hi hj
        simp only [snap, g1, Option.getD_some]; exact ⟨trivial, g3⟩
      · obtain ⟨v, g1, g2, g3⟩ := val hi hj
        simp only [g1, Option.getD_some]; exact g2

theorem rd_append {a b : List Value} {x y : List AV} (h1 : Rd E (snap w) a x) (h2 : Rd E (snap w) b y) : Rd E (snap w) (a ++ b) (x ++ y) := by
  refine ⟨by simp [h1.1, h2.1], fun j v u hv hu => ?_⟩
  rw [List.getElem?_append] at hv hu
  by_cases hj : j < x.length
  · rw [if_pos hj] at hv
    rw [if_pos (by rw [← h1.1]; exact hj)] at hu
    exact h1.2 j v u hv hu
  · rw [if_neg hj] at hv
    rw [if_neg (by rw [← h1.1]; exact hj)] at hu
    rw [← h1.1] at hu
    exact h2.2 _ v u hv hu
theorem rd_nil : Rd E (snap w) [] [] := ⟨rfl, fun j v u hv => by simp at hv⟩

/-- What a stretch of fields tells. -/
def DecF (enc : TypeId × Value → H) (P : Program) (w : World) (sp : Nat → Bool) (held : Bool) (E : Env) (fs : List Field) (off tot : Nat) {A : Type} (cells : A → List AV) (un : List (DataW H) → Option A) : Prop :=
  ∀ (n : Nat) (cs : List Value) (xs : List (DataW H × List MemPlace)), off + tot ≤ cs.length → xs.length = fs.length → (∀ (i : Nat) (f : Field), fs[i]? = some f → DataW.trod enc P w 0 sp held n f.type ((cs.drop f.offset).take (P.cellsOf f.type)) = xs[i]?) →
    ∃ a, un (xs.map (·.1)) = some a ∧ Rd E (snap w) ((cs.drop off).take tot) (cells a)
def unNil : List (DataW H) → Option Unit
  | [] => some ()
  | _ => none
def unCons {A B : Type} (u : DataW H → Option A) (v : List (DataW H) → Option B) : List (DataW H) → Option (A × B)
  | d :: ds => (u d).bind fun a => (v ds).map fun b => (a, b)
  | [] => none
theorem decF_nil (off : Nat) : DecF enc P w sp held E [] off 0 (fun _ : Unit => []) unNil := by
  intro n cs xs _ hl _
  have : xs = [] := List.eq_nil_of_length_eq_zero hl
  subst this
  exact ⟨(), rfl, by rw [List.take_zero]; exact rd_nil⟩
theorem decF_cons {f : Field} {fs : List Field} {off : Nat} (sz tot : Nat) {T o2 : Nat} (hT : T = sz + tot) (ho : o2 = off + sz) {A B : Type} {cells : A → List AV} {un : DataW H → Option A} {cellsB : B → List AV} {unB : List (DataW H) → Option B} (hf : f.offset = off) (hsz : P.cellsOf f.type = sz)
    (h1 : Dec enc P w sp held E f.type cells un) (h2 : DecF enc P w sp held E fs o2 tot cellsB unB) : DecF enc P w sp held E (f :: fs) off T (fun p : A × B => cells p.1 ++ cellsB p.2) (unCons un unB) := by
  subst hT; subst ho
  intro n cs xs hle hl h
  match xs, hl with
  | x :: xs, hl =>
    have e0 := h 0 f rfl
    rw [hf, hsz] at e0
    obtain ⟨a, h3, h4⟩ := h1 _ _ _ _ (show _ = some (x.1, x.2) from e0)
    obtain ⟨b, h5, h6⟩ := h2 n cs xs (by omega) (by simpa using hl) (fun i g hg => h (i + 1) g (by simpa using hg))
    refine ⟨(a, b), by simp only [List.map_cons, unCons, h3, h5, Option.bind_some, Option.map_some], ?_⟩
    rw [List.take_add, List.drop_drop]
    exact rd_append h4 h6
def unAgg {A : Type} (u : List (DataW H) → Option A) : DataW H → Option A
  | .agg ds => u ds
  | _ => none
theorem dec_struct {t : TypeId} {fs : List Field} {tot : Nat} {A : Type} {cells : A → List AV} {un : List (DataW H) → Option A} (ht : P.underlying t = some (.struct fs.toArray)) (hc : P.cellsOf t = tot) (h : DecF enc P w sp held E fs 0 tot cells un) :
    Dec enc P w sp held E t cells (unAgg un) := by
  intro fuel cs d ps hd
  obtain ⟨xs, n, rfl, hx, hl, hxl, hel⟩ := DataW.trod_struct ht hd
  simp only [Prod.mk.injEq] at hx
  obtain ⟨rfl, -⟩ := hx
  obtain ⟨a, h1, h2⟩ := h n cs xs (by omega) (by simpa using hxl) (fun i f hf => hel i f (by simpa using hf))
  refine ⟨a, h1, ?_⟩
  rw [List.drop_zero, List.take_of_length_le (by omega)] at h2
  exact h2
theorem dec_map {t : TypeId} {A B : Type} {cells : A → List AV} {un : DataW H → Option A} {cells' : B → List AV} (f : A → B) (h : Dec enc P w sp held E t cells un) (hf : ∀ a, cells' (f a) = cells a) : Dec enc P w sp held E t cells' (fun d => (un d).map f) := by
  intro fuel cs d ps hd
  obtain ⟨a, h1, h2⟩ := h _ _ _ _ hd
  exact ⟨f a, by simp [h1], by rw [hf]; exact h2⟩

/-- A package-level variable that holds a slice. -/
theorem glob_of {g : Nat} {cs : List Value} {x : AV} (hv : ∃ cs' t fr, w.heap[g]? = some (.cells cs' t fr) ∧ cs'.toList = cs) (h : Rd E (snap w) cs [x]) : VR E (snap w) (.rp [x]) (.pointer (some ⟨g, 0, none⟩)) := by
  obtain ⟨cs', t, fr, h1, rfl⟩ := hv
  have hl : cs'.size = 1 := by have := h.1; simp at this; omega
  have hc : w.cell? ⟨g, 0, none⟩ = some cs'[0] := by
    unfold World.cell?
    simp [h1, Array.getElem?_eq_getElem (show 0 < cs'.size by omega)]
  have h0 := h.2 0 x cs'[0] rfl (by simp [Array.getElem?_eq_getElem (show 0 < cs'.size by omega)])
  refine .rp (fun _ => cs'[0]) (fun j y hy => ?_) (fun j y hy => ?_)
  · match j with
    | 0 => cases hy; exact ⟨hc, h0.2⟩
    | j + 1 => cases hy
  · match j with
    | 0 => cases hy; exact h0.1
    | j + 1 => cases hy
end
end Go.Abs
/- From a call's contract to a row's condition: nothing that stood changed. -/
namespace Go.Abs
open Go.ChangeShapes Go.WideShapes

section
variable {H : Type} {enc : TypeId × Value → H} {P : Program} {E : Env}

/-- What stood stands. -/
structure Stood (W W' : World) : Prop where
  os : W'.os = W.os
  out : W'.output = W.output
  blk : ∀ i, i < W.heap.size → W'.heap[i]? = W.heap[i]?
theorem stood_of {w w' : World} {c' : Corr} (h : Ext (snap w) w c' w') : Stood w w' := ⟨h.keep.os, h.keep.output, fun i hi => h.keep.block i hi⟩
theorem Stood.same {W W' : World} (h : Stood W W') {p : MemPlace} (hp : p.block < W.heap.size) : W.sameAt W' p := by
  cases p with
  | cell b o =>
    show W'.cell? ⟨b, o, none⟩ = W.cell? ⟨b, o, none⟩
    unfold World.cell?
    rw [show W'.heap[(⟨b, o, none⟩ : Addr).block]? = W.heap[(⟨b, o, none⟩ : Addr).block]? from h.blk b hp]
  | map b => exact h.blk b hp
theorem Stood.trod {W W' : World} (h : Stood W W') {base : Nat} {sp : Nat → Bool} {held : Bool} {t : TypeId} {v : Value} {d : DataW H} {p : List MemPlace} (hd : DataW.Trod enc P W base sp held t v d p) (hp : ∀ q ∈ p, q.block < W.heap.size) : DataW.Trod enc P W' base sp held t v d p := by
  obtain ⟨fuel, hf⟩ := hd
  exact ⟨fuel, DataW.trod_carry fuel t _ _ hf fun q hq => h.same (hp q hq)⟩

theorem post_stood {f : Func} {s : ChangeSpec} {apart fresh handsOn again : Bool} {W W' : World} {args : Array Value} {v : Value} {ds gs : List (DataW H)} {before pa pv : List MemPlace}
    (hW : DataW.Whole enc P f.params.toList s.vars apart W args.toList ds gs before) (hst : Stood W W')
    (hres : ∀ (b : Nat) (sp : Nat → Bool) (hd : Bool), DataW.TrodAll enc P W' b sp hd f.resultTypes.toList (v.resultList f.resultTypes.size) (s.fn H (ds ++ gs)).results [])
    (hargs : ∀ sp : Nat → Bool, (∀ p ∈ before, sp p.block = true) → DataW.TrodAll enc P W' 0 sp true f.params.toList args.toList (s.fn H (ds ++ gs)).args pa)
    (hvars : ∀ sp : Nat → Bool, (∀ p ∈ before, sp p.block = true) → DataW.TrodVars enc P W' sp s.vars (s.fn H (ds ++ gs)).vars pv)
    (hps : before = pa ++ pv)
    (hok : ∀ (j : Nat) (t : TypeId) (r : Value), f.resultTypes[j]? = some t → (v.resultList f.resultTypes.size)[j]? = some r → Value.okWide P W' .any 0 t r) :
    s.post enc P f apart fresh handsOn again W args v W' := by
  have hlt := hW.lt
  have hold : ∀ p ∈ before, (fun b => decide (b < W.heap.size)) p.block = true := fun p hp => by simpa using hlt p hp
  have hk : W.keptBut W' (· ∈ before) := (World.keptBut_refl W _).congr hst.os hst.out hst.blk
  refine ⟨ds, gs, before, [], pa, pv, hW, hres _ _ _, hargs _ hold, hvars _ hold, World.keptBut_mono (fun p hp => ⟨hp, ?_⟩) hk, fun _ => ?_⟩
  · rw [hps, List.mem_append] at hp
    exact Or.inr hp
  · obtain ⟨_, _, _, _, _, hz, hn⟩ := hW
    refine ⟨hok, _, _, ([] ++ pa) ++ pv, ⟨[] ++ pa, pv, trodAll_append (hargs _ (fun _ _ => rfl)) (hres _ _ _), hvars _ (fun _ _ => rfl), rfl, ?_, ?_⟩, ?_⟩
    · intro b off hp
      have hb : MemPlace.cell b off ∈ before := by rw [hps]; simpa using hp
      have e : W'.frozen? ⟨b, off, none⟩ = W.frozen? ⟨b, off, none⟩ := by
        unfold World.frozen?
        rw [show W'.heap[(⟨b, off, none⟩ : Addr).block]? = W.heap[(⟨b, off, none⟩ : Addr).block]? from hst.blk b (hlt _ hb)]
      rw [e]
      exact hz b off hb
    · intro ha
      have := hn ha
      rw [hps] at this
      simpa using this
    · intro p hp _
      rw [hps]
      simpa using hp

/-- A call of a function whose contract says: true. -/
theorem calls_true {f g : Nat} {args : List AV} {cargs : Array Value} {w : World} (h : PF E f args (.bool true)) (hg : E.fi g = some f) (hglob : ∀ g av, E.glob g = some av → VR E (snap w) av (.pointer (some ⟨g, 0, none⟩)))
    (ha : VRs E (snap w) args cargs.toList) : Calls E.P g cargs w fun e w' => e = .returned (.bool true) ∧ Stood w w' := by
  refine (h (fun _ => none) g hg (snap w) cargs w (snap_sim hglob) ha).mono fun e w' hp => ?_
  cases e with
  | returned v =>
    obtain ⟨x, H', c', ⟨rfl, _⟩, h2, h3, h4⟩ := hp
    cases h4
    exact ⟨rfl, stood_of h2⟩
  | panicked ch => exact hp.elim
  | outgrown => exact hp.elim
end
end Go.Abs
/- Arguments: what their readings tell, word by word in range; and that they read again as they did. -/
namespace Go.Abs
open Go.ChangeShapes Go.WideShapes

abbrev W64N := {n : Int // I64 n}
def MI.W (m : MI) : Prop := I64 m.op ∧ I64 m.a ∧ I64 m.b ∧ I64 m.c ∧ I64 m.n
def VI.W (v : VI) : Prop := v.i.W ∧ ∀ x ∈ v.args, I64 x
def Bl.W (b : Bl) : Prop := (∀ v ∈ b.ins, v.W) ∧ I64 b.en ∧ I64 b.reg ∧ I64 b.tgt ∧ I64 b.els
def VF.W (c : VF) : Prop := I64 c.params ∧ I64 c.regs ∧ ∀ b ∈ c.blocks, b.W

section
variable {H : Type} {enc : TypeId × Value → H} {P : Program} {w : World} {E : Env} {held : Bool}

theorem i64_of {n : Int} (h : (Lit.int .i64 n).wf = true) : I64 n := by
  simp only [Lit.wf, Bool.and_eq_true, decide_eq_true_eq] at h
  have h1 := h.1
  have h2 := h.2
  have e1 : IntKind.i64.min = -9223372036854775808 := by decide
  have e2 : IntKind.i64.max = 9223372036854775807 := by decide
  rw [e1] at h1; rw [e2] at h2
  exact ⟨h1, by omega⟩

/-- What a type's reading tells, its decoder left open. -/
def Dcd (enc : TypeId × Value → H) (P : Program) (w : World) (held : Bool) (E : Env) (t : TypeId) {A : Type} (cells : A → List AV) : Prop := ∃ un, Dec enc P w (fun _ => true) held E t cells un

def unIntR : DataW H → Option W64N
  | .lit (.int k' n) => if h : k' = .i64 ∧ (-9223372036854775808 ≤ n ∧ n < 9223372036854775808) then some ⟨n, h.2⟩ else none
  | _ => none
theorem dcd_int {t : TypeId} (ht : P.underlying t = some (.int .i64)) : Dcd enc P w held E t (fun n : W64N => [AV.int .i64 n.1]) := by
  refine ⟨unIntR, ?_⟩
  intro fuel cs d ps h
  cases fuel with
  | zero => simp [DataW.trod] at h
  | succ m =>
    unfold DataW.trod at h
    rw [ht] at h
    split at h <;> simp only [Option.some.injEq, TypeDesc.int.injEq, reduceCtorEq] at *
    rename_i k1 k2 n e
    subst e
    split at h
    · rename_i hc
      obtain ⟨rfl, hw⟩ := hc
      simp only [Option.some.injEq, Prod.mk.injEq] at h
      obtain ⟨rfl, -⟩ := h
      exact ⟨⟨n, i64_of hw⟩, by have := i64_of hw; unfold I64 at this; simp [unIntR, this], rd_one (.int _ _) rfl⟩
    · cases h
theorem dcd_map {t : TypeId} {A B : Type} {cells : A → List AV} {cells' : B → List AV} (f : A → B) (h : Dcd enc P w held E t cells) (hf : ∀ a, cells' (f a) = cells a) : Dcd enc P w held E t cells' := by
  obtain ⟨un, h⟩ := h
  exact ⟨_, dec_map f h hf⟩
theorem dcd_slice {t e : TypeId} {A : Type} {cells : A → List AV} {sz : Nat} (ht : P.underlying t = some (.slice e)) (hsz : P.cellsOf e = sz) (hpos : 0 < sz) (hc : ∀ a, (cells a).length = sz) (h : Dcd enc P w held E e cells) :
    Dcd enc P w held E t (fun l : List A => [AV.ro sz (l.map cells)]) := by
  obtain ⟨un, h⟩ := h
  exact ⟨_, dec_slice (fun _ => rfl) ht hsz hpos hc h⟩
/-- A slice whose elements are well. -/
theorem dcd_slice' {t e : TypeId} {A : Type} {Wp : A → Prop} {cells : A → List AV} {sz : Nat} {f : List A → AV} (hf : ∀ l, f l = .ro sz (l.map cells)) (ht : P.underlying t = some (.slice e)) (hsz : P.cellsOf e = sz) (hpos : 0 < sz) (hc : ∀ a, (cells a).length = sz)
    (h : Dcd enc P w held E e (fun a : {a : A // Wp a} => cells a.1)) : Dcd enc P w held E t (fun l : {l : List A // ∀ x ∈ l, Wp x} => [f l.1]) :=
  dcd_map (fun l : List {a : A // Wp a} => ⟨l.map (·.1), fun x hx => by obtain ⟨a, -, rfl⟩ := List.mem_map.1 hx; exact a.2⟩) (dcd_slice ht hsz hpos (fun a => hc a.1) h) (fun l => by
    show [f (l.map (·.1))] = _
    rw [hf, List.map_map]; rfl)
def DcdF (enc : TypeId × Value → H) (P : Program) (w : World) (held : Bool) (E : Env) (fs : List Field) (off tot : Nat) {A : Type} (cells : A → List AV) : Prop := ∃ un, DecF enc P w (fun _ => true) held E fs off tot cells un

theorem dcd_ints {t e : TypeId} (ht : P.underlying t = some (.slice e)) (he : P.underlying e = some (.int .i64)) (hsz : P.cellsOf e = 1) : Dcd enc P w held E t (fun l : {l : List Int // ∀ x ∈ l, I64 x} => [ints l.1]) :=
  dcd_slice' (fun l => rfl) ht hsz (by decide) (fun _ => rfl) (dcd_int he)

/-! ### Arguments -/
theorem vr_of_cell {v : Value} {x : AV} (h : Rd E (snap w) v.cells.toList [x]) (hv : ∀ cs, v ≠ .agg cs) : VR E (snap w) x v := by
  have e : v.cells = #[v] := by cases v <;> first | rfl | exact absurd rfl (hv _)
  rw [e] at h
  exact (h.2 0 x v rfl rfl).1
/-- What an argument's reading and its type tell of it. -/
def ArgD (enc : TypeId × Value → H) (P : Program) (w : World) (E : Env) (t : TypeId) (Q : AV → Prop) : Prop :=
  ∀ (base : Nat) (v : Value) (d : DataW H) (ps : List MemPlace), DataW.Trod enc P w 0 (fun _ => true) true t v d ps → Value.okWide P w .any base t v → ∃ x, Q x ∧ VR E (snap w) x v
theorem argD_cell {t : TypeId} {A : Type} {f : A → AV} {Q : AV → Prop} (hd : ∀ base v, Value.okWide P w .any base t v → ∀ cs, v ≠ .agg cs) (h : Dcd enc P w true E t (fun a : A => [f a])) (hq : ∀ a, Q (f a)) : ArgD enc P w E t Q := by
  rintro base v d ps ⟨fuel, ht⟩ hok
  obtain ⟨un, hu⟩ := h
  obtain ⟨a, -, hr⟩ := hu _ _ _ _ ht
  exact ⟨f a, hq a, vr_of_cell hr (hd base v hok)⟩
theorem ok_cell {t : TypeId} {d : TypeDesc} (ht : P.underlying t = some d) (hd : (match d with | .int _ | .bool | .slice _ => true | _ => false) = true) (base : Nat) (v : Value) (h : Value.okWide P w .any base t v) (cs : Array Value) : v ≠ .agg cs := by
  rintro rfl
  unfold Value.okWide at h
  rw [ht] at h
  cases d <;> simp at hd <;> simp [Cell.okWide, Cell.ok, ht] at h
def AllQ : List (AV → Prop) → List AV → Prop
  | [], [] => True
  | q :: qs, x :: xs => q x ∧ AllQ qs xs
  | _, _ => False
theorem allQ_cons {q : AV → Prop} {qs : List (AV → Prop)} : ∀ {xs : List AV}, AllQ (q :: qs) xs → ∃ x xs', xs = x :: xs' ∧ q x ∧ AllQ qs xs'
  | [], h => h.elim
  | x :: xs, h => ⟨x, xs, rfl, h.1, h.2⟩
theorem allQ_nil : ∀ {xs : List AV}, AllQ [] xs → xs = []
  | [], _ => rfl
  | _ :: _, h => h.elim
theorem args_vrs {base : Nat} : ∀ {ts : List TypeId} {qs : List (AV → Prop)} {vs : List Value} {ds : List (DataW H)} {ps : List MemPlace}, ts.length = qs.length → (∀ (j : Nat) (t : TypeId) (q : AV → Prop), ts[j]? = some t → qs[j]? = some q → ArgD enc P w E t q) →
    DataW.TrodAll enc P w 0 (fun _ => true) true ts vs ds ps → (∀ (j : Nat) (t : TypeId) (v : Value), ts[j]? = some t → vs[j]? = some v → Value.okWide P w .any base t v) → ∃ xs, AllQ qs xs ∧ VRs E (snap w) xs vs
  | [], [], [], [], _, _, _, _, _ => ⟨[], trivial, rfl, fun j x v h => by simp at h⟩
  | t :: ts, q :: qs, v :: vs, d :: ds, _, hl, hq, ⟨p, r, h1, h2, _⟩, hok => by
    obtain ⟨x, g1, g2⟩ := hq 0 t q rfl rfl base v d p h1 (hok 0 t v rfl rfl)
    obtain ⟨xs, g3, g4, g5⟩ := args_vrs (base := base) (by simpa using hl) (fun j t' q' a b => hq (j + 1) t' q' (by simpa using a) (by simpa using b)) h2 (fun j t' v' a b => hok (j + 1) t' v' (by simpa using a) (by simpa using b))
    refine ⟨x :: xs, ⟨g1, g3⟩, by simp [g4], fun j y u hy hu => ?_⟩
    cases j with
    | zero => simp at hy hu; subst hy; subst hu; exact g2
    | succ j => exact g5 j y u (by simpa using hy) (by simpa using hu)
  | [], _ :: _, _, _, _, hl, _, _, _ => by simp at hl
  | _ :: _, [], _, _, _, hl, _, _, _ => by simp at hl
  | [], [], [], _ :: _, _, _, _, h, _ => h.elim
  | [], [], _ :: _, _, _, _, _, h, _ => by cases h
  | _ :: _, _ :: _, [], _, _, _, _, h, _ => by cases h
  | _ :: _, _ :: _, _ :: _, [], _, _, _, h, _ => by cases h

theorem Stood.again {W W' : World} (h : Stood W W') (hl : laidOutB P = true) {sp : Nat → Bool} : ∀ {ts : List TypeId} {vs : List Value} {ds : List (DataW H)} {p : List MemPlace}, (∀ t ∈ ts, P.readableRec t = true ∧ t < P.types.size) →
    DataW.TrodAll enc P W 0 (fun _ => true) true ts vs ds p → (∀ q ∈ p, q.block < W.heap.size) → (∀ q ∈ p, sp q.block = true) → DataW.TrodAll enc P W' 0 sp true ts vs ds p
  | [], [], [], _, _, hd, _, _ => hd
  | t :: ts, v :: vs, d :: ds, _, ht, ⟨p, q, h1, h2, e⟩, hp, hs => by
    subst e
    refine ⟨p, q, Go.WideElems.Trod_stays hl (ht t List.mem_cons_self).1 (ht t List.mem_cons_self).2 h1 (fun x hx => h.same (hp x (List.mem_append_left _ hx))) (fun x hx => hs x (List.mem_append_left _ hx)),
      h.again hl (fun t' ht' => ht t' (List.mem_cons_of_mem _ ht')) h2 (fun x hx => hp x (List.mem_append_right _ hx)) (fun x hx => hs x (List.mem_append_right _ hx)), rfl⟩
  | [], [], _ :: _, _, _, hd, _, _ => hd.elim
  | [], _ :: _, _, _, _, hd, _, _ => by cases hd
  | _ :: _, [], _, _, _, hd, _, _ => by cases hd
  | _ :: _, _ :: _, [], _, _, hd, _, _ => by cases hd
theorem trodAll_len {base : Nat} {sp : Nat → Bool} : ∀ {ts : List TypeId} {vs : List Value} {ds : List (DataW H)} {p : List MemPlace}, DataW.TrodAll enc P w base sp held ts vs ds p → ds.length = ts.length
  | [], [], [], _, _ => rfl
  | _ :: _, _ :: _, _ :: _, _, ⟨_, _, _, h, _⟩ => by simp [trodAll_len h]
  | [], [], _ :: _, _, hd => hd.elim
  | [], _ :: _, _, _, hd => by cases hd
  | _ :: _, [], _, _, hd => by cases hd
  | _ :: _, _ :: _, [], _, hd => by cases hd
theorem len_cons {α : Type} {l : List α} {n : Nat} (h : l.length = n + 1) : ∃ a l', l = a :: l' ∧ l'.length = n := by
  cases l with
  | nil => simp at h
  | cons a l => exact ⟨a, l, rfl, by simpa using h⟩
theorem len_nil {α : Type} {l : List α} (h : l.length = 0) : l = [] := List.eq_nil_of_length_eq_zero h
end
end Go.Abs
