/- A part of the proof: W5 -/
import Derived.Test.YtbjglnknddeflaaDoorX5
set_option linter.unusedSimpArgs false
set_option linter.unusedVariables false
/- Regions that draw their order whose every order comes to the text's own: calls of pure functions, reads, and blocks made. -/
namespace Go.Abs

/-- A call of a pure function. -/
def pcallW (E : Env) (f : AV) (args : List AV) (H : Heap) (k : AV → Heap → Prop) (_ : Ky k := .mk) : Prop := match f with
  | .fn g caps => ∃ v, (∀ H', ACall E g (args ++ caps) H' fun v' H'' => v' = v ∧ H'' = H') ∧ k v H
  | _ => False

def stP (E : Env) (op : AOp) (T : Tm) (H : Heap) (k : AV → Heap → Prop) : Prop := match op with
  | .call f as => pcallW E (f.ev T) (as.map (AOpd.ev T)) H k
  | op => match op.cls with
    | 0 => pW (op.sub T) fun v => k v H
    | 1 => rdW (op.sub T) H fun v => k v H
    | 2 => mW (op.sub T) H k
    | _ => mkW (op.sub T) H k

def segP (E : Env) : List (Nat × Bool) → DSegs → (Tm → Heap → Prop) → Tm → Heap → Prop
  | _, .nil, N, T, H => N T H
  | kn, .one o r, N, T, H => match o.guard with
    | none => stP E o.op T H fun v H' => segP E kn r N (T.puto o.dst v) H'
    | some (g, w) => match knows kn g w with
      | true => stP E o.op T H fun v H' => segP E kn r N (T.puto o.dst v) H'
      | false => gdW w (T g) (fun k => stP E o.op T H k) H fun v H' => segP E kn r N (T.puto o.dst v) H'
  | kn, .grp gs p g w b pg r, N, T, H => match skips g w [] gs.flat && !(dstsOf gs.flat).contains g && (match pg with | none => true | some (s, w') => knows kn s w') with
    | true => grpW w (T g) (fun k => segP E ((g, w) :: kn) gs (fun T' H' => k (T' b) H') T H) H fun vs v => segP E kn r N ((putl T vs (dstsOf gs.flat)).put p v) H
    | false => False
  | _, .frz .., _, _, _ => False
  | _, .box .., _, _, _ => False
  | _, .alst .., _, _, _ => False
  | _, .bsl .., _, _, _ => False

/-! ### The same over a flat list -/
def PStep (E : Env) (o : AOper) (N : Tm → Heap → Prop) (T : Tm) (H : Heap) : Prop :=
  match o.op with
  | .call f args => ∃ g caps v, f.ev T = .fn g caps ∧ (∀ H', ACall E g (args.map (AOpd.ev T) ++ caps) H' fun v' H'' => v' = v ∧ H'' = H') ∧ N (T.puto o.dst v) H
  | op => if op.makes then ∀ new, (∀ k b, H k = some b → k < new) → ∃ v need give, aop new T H op = some (v, need, give) ∧ N (T.puto o.dst v) (H.app give)
    else ∃ v need give, aop 0 T H op = some (v, need, give) ∧ N (T.puto o.dst v) (H.app give)

def PRun (E : Env) (N : Tm → Heap → Prop) : List AOper → Tm → Heap → Prop
  | [], T, H => N T H
  | o :: os, T, H => match o.guard with
    | none => PStep E o (PRun E N os) T H
    | some (g, want) => (T g = .tup [] ∧ PRun E N os (T.puto o.dst (.tup [])) H) ∨
        ∃ b, T g = .bool b ∧ (b = want → PStep E o (PRun E N os) T H) ∧ (b = !want → PRun E N os (T.puto o.dst (.tup [])) H)

section
variable {E : Env}

theorem prun_append (N : Tm → Heap → Prop) (l2 : List AOper) : ∀ l1 : List AOper, PRun E N (l1 ++ l2) = PRun E (PRun E N l2) l1
  | [] => rfl
  | o :: os => by
    have ih := prun_append N l2 os
    funext T H
    simp only [List.cons_append, PRun, ih]

theorem pstep_mono {o : AOper} {N N' : Tm → Heap → Prop} {T : Tm} {H : Heap} (h : PStep E o N T H) (hn : ∀ v H', N (T.puto o.dst v) H' → N' (T.puto o.dst v) H') : PStep E o N' T H := by
  unfold PStep at h ⊢
  split
  · rename_i f as hop
    rw [hop] at h
    obtain ⟨k, caps, v, h1, h2, h3⟩ := h
    exact ⟨k, caps, v, h1, h2, hn _ _ h3⟩
  · rename_i op hop
    split at h
    · rename_i f as h'; exact absurd h' (hop f as)
    · split at h
      · rename_i hm
        rw [if_pos hm]
        intro new hnew
        obtain ⟨v, need, give, h1, h2⟩ := h new hnew
        exact ⟨v, need, give, h1, hn _ _ h2⟩
      · rename_i hm
        rw [if_neg hm]
        obtain ⟨v, need, give, h1, h2⟩ := h
        exact ⟨v, need, give, h1, hn _ _ h2⟩

theorem prun_frame {N N' : Tm → Heap → Prop} : ∀ {l : List AOper} {T : Tm} {H : Heap}, PRun E N l T H → (∀ T' H', (∀ s, s ∉ dstsOf l → T' s = T s) → N T' H' → N' T' H') → PRun E N' l T H
  | [], T, H, h, hn => hn T H (fun _ _ => rfl) h
  | o :: os, T, H, h, hn => by
    have key : ∀ v T' H', (∀ s, s ∉ dstsOf os → T' s = (T.puto o.dst v) s) → N T' H' → N' T' H' := fun v T' H' hs hN => hn T' H' (fun s hs' => by
      cases hd : o.dst with
      | none =>
        rw [hd] at hs
        have : s ∉ dstsOf os := by simpa [dstsOf, hd] using hs'
        exact hs s this
      | some d =>
        rw [hd] at hs
        have : s ≠ d ∧ s ∉ dstsOf os := by simpa [dstsOf, hd, not_or] using hs'
        rw [hs s this.2]; simp [Tm.puto, Tm.put, this.1]) hN
    simp only [PRun] at h ⊢
    split
    · rename_i hg
      rw [hg] at h
      exact pstep_mono h fun v H' hr => prun_frame hr (key v)
    · rename_i g w hg
      rw [hg] at h
      rcases h with ⟨h1, h2⟩ | ⟨b, h1, h2, h3⟩
      · exact .inl ⟨h1, prun_frame h2 (key _)⟩
      · exact .inr ⟨b, h1, fun e => pstep_mono (h2 e) fun v H' hr => prun_frame hr (key v), fun e => prun_frame (h3 e) (key _)⟩

theorem prun_skip {g : Nat} {w b : Bool} (hb : b = !w) {N : Tm → Heap → Prop} : ∀ {l : List AOper} {seen : List Nat} {T : Tm} {H : Heap}, skips g w seen l = true → T g = .bool b → (∀ s ∈ seen, T s = .tup []) →
    (∀ T', (∀ s, s ∉ dstsOf l → T' s = T s) → T' g = .bool b → N T' H) → PRun E N l T H
  | [], seen, T, H, hs, hg, hse, k => k T (fun _ _ => rfl) hg
  | o :: os, seen, T, H, hs, hg, hse, k => by
    simp only [skips, Bool.and_eq_true] at hs
    obtain ⟨hs1, hs2⟩ := hs
    have next : PRun E N os (T.puto o.dst (.tup [])) H := by
      cases hd : o.dst with
      | none =>
        rw [hd] at hs2
        exact prun_skip hb hs2 hg hse (fun T' h1 h2 => k T' (fun s hs' => h1 s (by simpa [dstsOf, hd] using hs')) h2)
      | some d =>
        rw [hd] at hs2
        simp only [Bool.and_eq_true, bne_iff_ne, ne_eq] at hs2
        refine prun_skip hb hs2.2 (by simp only [Tm.puto, Tm.put]; rw [if_neg (fun e => hs2.1 e.symm)]; exact hg) (fun s hs' => ?_) (fun T' h1 h2 => k T' (fun s hs' => ?_) h2)
        · simp only [Tm.puto, Tm.put]
          split
          · rfl
          · rename_i hne
            rcases List.mem_cons.1 hs' with e | e
            · exact absurd e hne
            · exact hse s e
        · have : s ≠ d ∧ s ∉ dstsOf os := by simpa [dstsOf, hd, not_or] using hs'
          rw [h1 s this.2]; simp [Tm.puto, Tm.put, this.1]
    simp only [PRun]
    cases hgd : o.guard with
    | none => rw [hgd] at hs1; simp at hs1
    | some gw =>
      obtain ⟨s, w'⟩ := gw
      rw [hgd] at hs1
      simp only [Bool.or_eq_true, Bool.and_eq_true, beq_iff_eq, List.contains_iff_mem] at hs1
      rcases hs1 with ⟨rfl, rfl⟩ | hin
      · exact .inr ⟨b, hg, fun e => by rw [hb] at e; cases w' <;> simp at e, fun _ => next⟩
      · exact .inl ⟨hse s hin, next⟩

theorem pstep_no {o : AOper} {N : Tm → Heap → Prop} {T : Tm} {H : Heap} (hc : o.op.isCall = false) (h : AStep E o N T H) : PStep E o N T H := by
  unfold AStep at h
  unfold PStep
  split
  · rename_i f as hf; rw [hf] at hc; simp [AOp.isCall] at hc
  · rename_i hnc
    split at h
    · rename_i f as hf; exact absurd hf (hnc f as)
    · exact h

theorem stP_eq {op : AOp} {T : Tm} {H : Heap} {k : AV → Heap → Prop} (h : op.isCall = false) : stP E op T H k = stV E op T H k := by
  cases op <;> first | rfl | (simp [AOp.isCall] at h)

theorem stP_sound {o : AOper} {T : Tm} {H : Heap} {k : AV → Heap → Prop} {N : Tm → Heap → Prop} (h : stP E o.op T H k) (hk : ∀ v H', k v H' → N (T.puto o.dst v) H') : PStep E o N T H := by
  cases hic : o.op.isCall with
  | true =>
    obtain ⟨d, op, gd⟩ := o
    cases op <;> simp [AOp.isCall] at hic
    rename_i f as
    simp only [stP, pcallW] at h
    simp only [PStep]
    split at h
    · rename_i g caps hf
      obtain ⟨v, h1, h2⟩ := h
      exact ⟨g, caps, v, hf, h1, hk _ _ h2⟩
    · exact h.elim
  | false =>
    rw [stP_eq hic] at h
    exact pstep_no hic (stV_sound h hk)

theorem gdP_sound {o : AOper} {g : Nat} {w : Bool} {T : Tm} {H : Heap} {k : AV → Heap → Prop} {N : Tm → Heap → Prop} (h : gdW w (T g) (fun k => stP E o.op T H k) H k) (hk : ∀ v H', k v H' → N (T.puto o.dst v) H') :
    (T g = .tup [] ∧ N (T.puto o.dst (.tup [])) H) ∨ ∃ b, T g = .bool b ∧ (b = w → PStep E o N T H) ∧ (b = !w → N (T.puto o.dst (.tup [])) H) := by
  unfold gdW at h
  split at h
  · rename_i b hb
    exact .inr ⟨b, hb, fun e => stP_sound (h.1 e) hk, fun e => hk _ _ (h.2 e)⟩
  · rename_i hb; exact .inl ⟨hb, hk _ _ h⟩
  · exact h.elim

theorem seg_prun : ∀ (s : DSegs) (kn : List (Nat × Bool)) (N : Tm → Heap → Prop) (T : Tm) (H : Heap), KnOK kn T (dstsOf s.flat) → segP E kn s N T H → PRun E N s.flat T H
  | .nil, kn, N, T, H, _, h => h
  | .one o r, kn, N, T, H, hkn, h => by
    have ih : ∀ v H', segP E kn r N (T.puto o.dst v) H' → PRun E N r.flat (T.puto o.dst v) H' := fun v H' => seg_prun r kn N _ H' (hkn.puto v)
    simp only [segP] at h
    simp only [DSegs.flat, PRun]
    split at h
    · rename_i hg; exact stP_sound h ih
    · rename_i g w hg
      split at h
      · rename_i hk
        obtain ⟨h1, h2⟩ := hkn _ (knows_mem hk)
        exact .inr ⟨w, h1, fun _ => stP_sound h ih, fun e => by cases w <;> simp at e⟩
      · exact gdP_sound h ih
  | .frz d r, kn, N, T, H, hkn, h => h.elim
  | .box .., kn, N, T, H, hkn, h => h.elim
  | .alst .., kn, N, T, H, hkn, h => h.elim
  | .bsl .., kn, N, T, H, hkn, h => h.elim
  | .grp gs p g w b pg r, kn, N, T, H, hkn, h => by
    simp only [segP] at h
    split at h
    case h_2 => exact h.elim
    rename_i hc
    simp only [Bool.and_eq_true, Bool.not_eq_true'] at hc
    obtain ⟨⟨hs, hgd⟩, hpg⟩ := hc
    have hgd' : g ∉ dstsOf gs.flat := fun hm => by
      have := List.contains_iff_mem.2 hm
      rw [this] at hgd; cases hgd
    obtain ⟨bg, rv, h1, h2, h3⟩ := h
    have hds : ∀ q ∈ kn, q.1 ∉ dstsOf gs.flat ∧ q.1 ≠ p ∧ q.1 ∉ dstsOf r.flat := fun q hq => by
      have := (hkn q hq).2
      simp only [DSegs.flat, dsts_append, List.mem_append, not_or] at this
      have h2 : q.1 ≠ p ∧ q.1 ∉ dstsOf r.flat := by simpa [dstsOf, not_or] using this.2
      exact ⟨this.1, h2⟩
    have hpg' : ∀ s want, pg = some (s, want) → T s = .bool want ∧ s ∉ dstsOf gs.flat := fun s want e => by
      subst e
      have hm := knows_mem hpg
      exact ⟨(hkn _ hm).1, (hds _ hm).1⟩
    have hrest : ∀ vs, PRun E N r.flat ((putl T vs (dstsOf gs.flat)).put p (.bool (if w = true then bg && rv else bg || rv))) H := fun vs => seg_prun r kn N _ H (fun q hq => by
        obtain ⟨a1, a2, a3⟩ := hds q hq
        exact ⟨by simp only [Tm.put]; rw [if_neg a2, putl_ap, if_neg a1]; exact (hkn q hq).1, a3⟩) (h3 vs)
    have hrun : bg = w → PRun E (fun T' H' => T' b = .bool rv ∧ H' = H) gs.flat T H := fun e => seg_prun gs _ _ T H (fun q hq => by
        rcases List.mem_cons.1 hq with e' | e'
        · subst e'; exact ⟨by rw [h1, e], hgd'⟩
        · exact ⟨(hkn q e').1, (hds q e').1⟩) (h2 e)
    simp only [DSegs.flat]
    rw [prun_append]
    have fin : ∀ T', (∀ s, s ∉ dstsOf gs.flat → T' s = T s) → (bg = w → T' b = .bool rv) → PRun E N (⟨some p, pickOf g w b, pg⟩ :: r.flat) T' H := fun T' hfr hrv => by
      have hT' : T' = putl T T' (dstsOf gs.flat) := by
        funext s
        rw [putl_ap]
        split
        · rfl
        · rename_i hn; exact hfr s hn
      have hg' : T' g = .bool bg := by rw [hfr g hgd']; exact h1
      have st : PStep E ⟨some p, pickOf g w b, pg⟩ (PRun E N r.flat) T' H := by
        have ev : aop 0 T' H (pickOf g w b) = some (.bool (if w = true then bg && rv else bg || rv), [], []) := by
          cases w with
          | true =>
            simp only [pickOf, if_true, aop, AOpd.ev, hg']
            cases bg with
            | true => simp [pure1, hrv rfl]
            | false => simp [pure1]
          | false =>
            simp only [pickOf, aop, AOpd.ev, hg', Bool.false_eq_true, if_false]
            cases bg with
            | true => simp [pure1]
            | false => simp [pure1, hrv rfl]
        have := hrest T'
        rw [← hT'] at this
        unfold PStep
        cases w <;> exact ⟨_, _, _, ev, this⟩
      simp only [PRun]
      cases pg with
      | none => exact st
      | some sw =>
        obtain ⟨s, want⟩ := sw
        obtain ⟨h1, h2⟩ := hpg' s want rfl
        refine .inr ⟨want, by rw [hfr s h2]; exact h1, fun _ => st, fun e => by cases want <;> simp at e⟩
    by_cases e : bg = w
    · exact prun_frame (hrun e) (fun T' H' hfr ⟨h1, h2⟩ => by rw [h2]; exact fin T' hfr (fun _ => h1))
    · have : bg = !w := by cases bg <;> cases w <;> simp_all
      exact prun_skip this hs h1 (by simp) (fun T' hfr _ => fin T' hfr (fun e' => absurd e' e))

/-! ### Every order comes to the same -/
/-- An operation's way: 0 it leaves no mark on memory, 1 it reads or writes, 2 it makes a block and no more. -/
def AOp.way : AOp → Nat
  | .call .. => 0
  | .ld _ | .lda .. | .st .. | .app .. | .cpy .. => 1
  | .alloc _ | .box _ | .bsl .. | .mksl .. => 2
  | _ => 0

def fineP (l : List AOper) : List (Nat × Nat) → Bool
  | [] => true
  | (i, j) :: ps => Nat.blt i j && (match l[i]?, l[j]? with
    | some x, some y => Nat.beq x.op.way 0 || Nat.beq y.op.way 0 || Nat.beq y.op.way 2
    | _, _ => false) && fineP l ps

theorem aop_keys {new base : Nat} {op : AOp} {T : Tm} {H : Heap} {v : AV} {need : List (Nat × Blk)} {give : List (Nat × Option Blk)} (h : aop new T H op = some (v, need, give)) (hb : ∀ k b, H k = some b → k < base) (_hn : base ≤ new) :
    (∀ p ∈ need, p.1 < base) ∧ (∀ p ∈ give, p.1 < base ∨ p.1 = new) ∧ (op.way = 2 → need = [] ∧ ∀ p ∈ give, p.1 = new) ∧ (op.way = 0 → op.isCall = false → need = [] ∧ give = []) := by
  have hneed : ∀ p ∈ need, p.1 < base := fun p hp => hb _ _ (aop_need h p hp)
  have hgive : ∀ p ∈ give, p.1 < base ∨ p.1 = new := by
    have g1 : op.mem = 1 → give = [] := (aop_mem h).2
    have g0 : op.mem = 0 → give = [] := fun e => ((aop_mem h).1 e).2
    cases op with
    | alloc z => simp only [aop, Option.some.injEq, Prod.mk.injEq] at h; obtain ⟨_, _, rfl⟩ := h; simp
    | box x =>
      simp only [aop] at h; split at h
      · simp only [Option.some.injEq, Prod.mk.injEq] at h; obtain ⟨_, _, rfl⟩ := h; simp
      · simp at h
    | bsl sz z ln ps =>
      simp only [aop] at h; split at h
      · simp only [Option.some.injEq, Prod.mk.injEq] at h; obtain ⟨_, _, rfl⟩ := h; simp
      · simp at h
    | mksl sz b z n m =>
      simp only [aop] at h; split at h
      · split at h
        · simp only [Option.some.injEq, Prod.mk.injEq] at h; obtain ⟨_, _, rfl⟩ := h; simp
        · simp at h
      · simp at h
    | st n x y =>
      simp only [aop] at h; split at h
      · split at h
        · split at h
          · split at h
            · simp only [Option.some.injEq, Prod.mk.injEq] at h; obtain ⟨_, rfl, rfl⟩ := h
              intro p hp; simp only [List.mem_singleton] at hp; subst hp; exact .inl (hneed _ (List.mem_singleton.2 rfl))
            · simp at h
          · simp at h
        · simp at h
      · simp at h
    | app sz x y =>
      simp only [aop] at h; split at h
      · split at h
        · split at h
          · simp only [Option.some.injEq, Prod.mk.injEq] at h; obtain ⟨_, _, rfl⟩ := h; simp
          · simp at h
        · split at h
          · split at h
            · simp only [Option.some.injEq, Prod.mk.injEq] at h; obtain ⟨_, rfl, rfl⟩ := h
              intro p hp; simp only [List.mem_cons, List.not_mem_nil, or_false] at hp
              rcases hp with rfl | rfl
              · exact .inl (hneed _ (List.mem_cons_self))
              · exact .inr rfl
            · simp at h
          · simp at h
        · simp at h
      · simp at h
    | cpy sz x y =>
      simp only [aop] at h; split at h
      · split at h
        · simp only [Option.some.injEq, Prod.mk.injEq] at h; obtain ⟨_, _, rfl⟩ := h; simp
        · split at h
          · split at h
            · simp only [Option.some.injEq, Prod.mk.injEq] at h; obtain ⟨_, rfl, rfl⟩ := h
              intro p hp; simp only [List.mem_singleton] at hp; subst hp; exact .inl (hneed _ (List.mem_cons_self))
            · simp at h
          · simp at h
        · simp at h
      · simp at h
    | call f as => simp [aop] at h
    | ld x => rw [g1 rfl]; simp
    | lda n x => rw [g1 rfl]; simp
    | _ => rw [g0 rfl]; simp
  refine ⟨hneed, hgive, fun hw => ?_, fun hw hc => ?_⟩
  · cases op <;> simp [AOp.way] at hw <;> simp only [aop] at h
    · simp only [Option.some.injEq, Prod.mk.injEq] at h; obtain ⟨_, rfl, rfl⟩ := h; simp
    · split at h
      · simp only [Option.some.injEq, Prod.mk.injEq] at h; obtain ⟨_, rfl, rfl⟩ := h; simp
      · simp at h
    · split at h
      · simp only [Option.some.injEq, Prod.mk.injEq] at h; obtain ⟨_, rfl, rfl⟩ := h; simp
      · simp at h
    · split at h
      · split at h
        · simp only [Option.some.injEq, Prod.mk.injEq] at h; obtain ⟨_, rfl, rfl⟩ := h; simp
        · simp at h
      · simp at h
  · have hm : op.mem = 0 := by cases op <;> simp [AOp.way, AOp.mem, AOp.isCall] at hw hc ⊢
    exact (aop_mem h).1 hm

/-- What is known of the keys so far. -/
structure KOK (base : Nat) (l : List AOper) (acc : List (List Nat × List Nat)) : Prop where
  lt : ∀ (k : Nat) (x : List Nat × List Nat), acc[k]? = some x → (∀ i ∈ x.1, i < base + k) ∧ ∀ i ∈ x.2, i < base + k + 1
  w0 : ∀ (k : Nat) (x : List Nat × List Nat) (o : AOper), acc[k]? = some x → l[k]? = some o → o.op.way = 0 → x = ([], [])
  w2 : ∀ (k : Nat) (x : List Nat × List Nat) (o : AOper), acc[k]? = some x → l[k]? = some o → o.op.way = 2 → x.1 = [] ∧ ∀ i ∈ x.2, i = base + k

theorem kok_disj {base : Nat} {l : List AOper} {acc : List (List Nat × List Nat)} (h : KOK base l acc) (hl : acc.length = l.length) : ∀ {ps : List (Nat × Nat)}, fineP l ps = true → disj acc ps
  | [], _ => trivial
  | (i, j) :: ps, hf => by
    simp only [fineP, Bool.and_eq_true] at hf
    obtain ⟨⟨hij, hw⟩, hr⟩ := hf
    refine ⟨?_, kok_disj h hl hr⟩
    split at hw
    case h_2 => simp at hw
    rename_i x y hx hy
    have hi : i < acc.length := by rw [hl]; exact (List.getElem?_eq_some_iff.1 hx).1
    have hj : j < acc.length := by rw [hl]; exact (List.getElem?_eq_some_iff.1 hy).1
    have hij' : i < j := Nat.lt_of_succ_le (Nat.le_of_ble_eq_true hij)
    rw [List.getElem?_eq_getElem hi, List.getElem?_eq_getElem hj]
    have ai := List.getElem?_eq_getElem hi
    have aj := List.getElem?_eq_getElem hj
    simp only [Bool.or_eq_true] at hw
    rcases hw with (hw | hw) | hw
    · simp only [h.w0 i _ x ai hx (Nat.eq_of_beq_eq_true hw)]; exact ⟨by simp, by simp⟩
    · simp only [h.w0 j _ y aj hy (Nat.eq_of_beq_eq_true hw)]; exact ⟨by simp, by simp⟩
    · obtain ⟨h1, h2⟩ := h.w2 j _ y aj hy (Nat.eq_of_beq_eq_true hw)
      obtain ⟨h3, h4⟩ := h.lt i _ ai
      refine ⟨fun k hk => ⟨by rw [h1]; simp, fun hk2 => ?_⟩, fun k hk hk2 => ?_⟩
      · have := h4 k hk; have := h2 k hk2; omega
      · have := h3 k hk2; have := h2 k hk; omega

theorem app_lt {H : Heap} {n : Nat} : ∀ {give : List (Nat × Option Blk)}, (∀ k b, H k = some b → k < n) → (∀ p ∈ give, p.1 < n) → ∀ k b, H.app give k = some b → k < n
  | [], h, _, k, b, hk => h k b hk
  | (id, bb) :: g, h, hg, k, b, hk => by
    refine app_lt (H := H.set id bb) (give := g) (fun k b hk => ?_) (fun p hp => hg p (by simp [hp])) k b hk
    by_cases e : k = id
    · subst e; exact hg (k, bb) (by simp)
    · rw [Heap.set_ne _ _ _ _ e] at hk; exact h k b hk

theorem prun_drun {base : Nat} {ps : List (Nat × Nat)} {K : Tm → Heap → Prop} {l : List AOper} (hf : fineP l ps = true) : ∀ (os : List AOper) (acc : List (List Nat × List Nat)) (T : Tm) (H : Heap),
    (∀ j, os[j]? = l[acc.length + j]?) → acc.length + os.length = l.length → KOK base l acc → (∀ k b, H k = some b → k < base + acc.length) → PRun E K os T H → DRun E base ps K os acc T H
  | [], acc, T, H, ho, hl, hk, hb, h => ⟨kok_disj hk (by simpa using hl) hf, h⟩
  | o :: os, acc, T, H, ho, hl, hk, hb, h => by
    have hoi : l[acc.length]? = some o := by have := ho 0; simpa using this.symm
    -- one step on
    have next : ∀ (x : List Nat × List Nat) (T' : Tm) (H' : Heap), (∀ i ∈ x.1, i < base + acc.length) → (∀ i ∈ x.2, i < base + acc.length + 1) → (o.op.way = 0 → x = ([], [])) → (o.op.way = 2 → x.1 = [] ∧ ∀ i ∈ x.2, i = base + acc.length) →
        (∀ k b, H' k = some b → k < base + acc.length + 1) → PRun E K os T' H' → DRun E base ps K os (acc ++ [x]) T' H' := by
      intro x T' H' h1 h2 h3 h4 h5 h6
      have hget : ∀ (k : Nat) (y : List Nat × List Nat), (acc ++ [x])[k]? = some y → (k < acc.length ∧ acc[k]? = some y) ∨ (k = acc.length ∧ y = x) := fun k y hy => by
        rw [List.getElem?_append] at hy
        split at hy
        · exact .inl ⟨by assumption, hy⟩
        · rename_i hge
          have : k - acc.length = 0 := by
            rcases Nat.eq_zero_or_pos (k - acc.length) with e | e
            · exact e
            · rw [List.getElem?_eq_none (by simp; omega)] at hy; cases hy
          rw [this] at hy
          simp at hy
          exact .inr ⟨by omega, hy.symm⟩
      refine prun_drun hf os (acc ++ [x]) T' H' (fun j => ?_) (by simp at hl ⊢; omega) ⟨fun k y hy => ?_, fun k y o' hy ho' hw => ?_, fun k y o' hy ho' hw => ?_⟩ (fun k b hkb => ?_) h6
      · have := ho (j + 1)
        rw [List.getElem?_cons_succ] at this
        rw [this]; congr 1; simp; omega
      · rcases hget k y hy with ⟨_, e⟩ | ⟨rfl, rfl⟩
        · exact hk.lt k y e
        · exact ⟨h1, h2⟩
      · rcases hget k y hy with ⟨_, e⟩ | ⟨rfl, rfl⟩
        · exact hk.w0 k y o' e ho' hw
        · rw [hoi] at ho'; cases ho'; exact h3 hw
      · rcases hget k y hy with ⟨_, e⟩ | ⟨rfl, rfl⟩
        · exact hk.w2 k y o' e ho' hw
        · rw [hoi] at ho'; cases ho'; exact h4 hw
      · have := h5 k b hkb; simp; omega
    have step : PStep E o (PRun E K os) T H → DStep E (base + acc.length) o (fun v need give => DRun E base ps K os (acc ++ [(need.map (·.1), give.map (·.1))]) (T.puto o.dst v) (H.app give)) T H := by
      intro hp
      unfold PStep at hp
      unfold DStep
      split at hp
      · rename_i f as hop
        rw [hop]
        obtain ⟨g, caps, v, h1, h2, h3⟩ := hp
        exact ⟨g, caps, v, [], [], h1, fun H' _ => h2 H', by simp, next _ _ _ (by simp) (by simp) (fun _ => rfl) (fun e => by rw [hop] at e; simp [AOp.way] at e) (fun k b hkb => by have := hb k b hkb; omega) h3⟩
      · rename_i hnc
        have hic : o.op.isCall = false := by
          cases hq : o.op <;> first | rfl | exact absurd hq (hnc _ _)
        have go : ∀ v need give, aop (base + acc.length) T H o.op = some (v, need, give) → PRun E K os (T.puto o.dst v) (H.app give) → DRun E base ps K os (acc ++ [(need.map (·.1), give.map (·.1))]) (T.puto o.dst v) (H.app give) := by
          intro v need give he hr
          obtain ⟨k1, k2, k3, k4⟩ := aop_keys he hb (Nat.le_refl _)
          have k2' : ∀ p ∈ give, p.1 < base + acc.length + 1 := fun p hp => by rcases k2 p hp with e | e <;> omega
          refine next _ _ _ (fun i hi => ?_) (fun i hi => ?_) (fun hw => ?_) (fun hw => ?_) (app_lt (fun k b hkb => by have := hb k b hkb; omega) k2') hr
          · obtain ⟨p, hp, rfl⟩ := List.mem_map.1 hi; exact k1 p hp
          · obtain ⟨p, hp, rfl⟩ := List.mem_map.1 hi; exact k2' p hp
          · obtain ⟨e1, e2⟩ := k4 hw hic; rw [e1, e2]; rfl
          · obtain ⟨e1, e2⟩ := k3 hw
            refine ⟨by rw [e1]; rfl, fun i hi => ?_⟩
            obtain ⟨p, hp, rfl⟩ := List.mem_map.1 hi; exact e2 p hp
        split at hp
        · rename_i hm
          obtain ⟨v, need, give, h1, h2⟩ := hp (base + acc.length) hb
          split
          · rename_i f as hf'; exact absurd hf' (hnc f as)
          · exact ⟨v, need, give, h1, go v need give h1 h2⟩
        · rename_i hm
          obtain ⟨v, need, give, h1, h2⟩ := hp
          have h1' : aop (base + acc.length) T H o.op = some (v, need, give) := by rw [aop_new _ 0 T H o.op hm]; exact h1
          split
          · rename_i f as hf'; exact absurd hf' (hnc f as)
          · exact ⟨v, need, give, h1', go v need give h1' h2⟩
    have skip : PRun E K os (T.puto o.dst (.tup [])) H → DRun E base ps K os (acc ++ [([], [])]) (T.puto o.dst (.tup [])) H := fun hr =>
      next _ _ _ (by simp) (by simp) (fun _ => rfl) (fun _ => ⟨rfl, by simp⟩) (fun k b hkb => by have := hb k b hkb; omega) hr
    simp only [PRun] at h
    simp only [DRun]
    split
    · rename_i hg
      rw [hg] at h
      exact step h
    · rename_i s w hg
      rw [hg] at h
      rcases h with ⟨h1, h2⟩ | ⟨b, h1, h2, h3⟩
      · exact .inl ⟨h1, skip h2⟩
      · exact .inr ⟨b, h1, fun e => step (h2 e), fun e => skip (h3 e)⟩

theorem pcallW_mono {f : AV} {as : List AV} {H : Heap} {k k' : AV → Heap → Prop} (hk : ∀ v H, k v H → k' v H) (h : pcallW E f as H k) : pcallW E f as H k' := by
  unfold pcallW at h ⊢
  split at h
  · obtain ⟨v, h1, h2⟩ := h; exact ⟨v, h1, hk _ _ h2⟩
  · exact h.elim
theorem pW_mono {op : AOp} {k k' : AV → Prop} (hk : ∀ v, k v → k' v) (h : pW op k) : pW op k' := by
  unfold pW at h ⊢; split at h
  · exact hk _ h
  · exact h.elim
theorem rdW_mono {op : AOp} {H : Heap} {k k' : AV → Prop} (hk : ∀ v, k v → k' v) (h : rdW op H k) : rdW op H k' := by
  unfold rdW at h ⊢; split at h
  · exact hk _ h
  · exact h.elim
theorem mW_mono {op : AOp} {H : Heap} {k k' : AV → Heap → Prop} (hk : ∀ v H, k v H → k' v H) (h : mW op H k) : mW op H k' := by
  unfold mW at h ⊢; split at h
  · exact hk _ _ h
  · exact h.elim
theorem mkW_mono {op : AOp} {H : Heap} {k k' : AV → Heap → Prop} (hk : ∀ v H, k v H → k' v H) (h : mkW op H k) : mkW op H k' := fun new hnew => by
  have h3 := h new hnew
  unfold mkR at h3 ⊢; split at h3
  · exact hk _ _ h3
  · exact h3.elim
theorem stP_mono {op : AOp} {T : Tm} {H : Heap} {k k' : AV → Heap → Prop} (hk : ∀ v H, k v H → k' v H) (h : stP E op T H k) : stP E op T H k' := by
  cases op <;> first | exact pcallW_mono hk h | exact hk _ _ h | exact pW_mono (fun v => hk v H) h | exact rdW_mono (fun v => hk v H) h | exact mW_mono hk h | exact mkW_mono hk h

theorem segP_mono : ∀ (s : DSegs) (kn : List (Nat × Bool)) {N N' : Tm → Heap → Prop} {T : Tm} {H : Heap}, (∀ T H, N T H → N' T H) → segP E kn s N T H → segP E kn s N' T H
  | .nil, kn, N, N', T, H, hn, h => hn _ _ h
  | .one o r, kn, N, N', T, H, hn, h => by
    simp only [segP] at h ⊢
    have ih : ∀ v H', segP E kn r N (T.puto o.dst v) H' → segP E kn r N' (T.puto o.dst v) H' := fun v H' => segP_mono r kn hn
    split at h
    · exact stP_mono ih h
    · split at h
      · exact stP_mono ih h
      · unfold gdW at h ⊢
        split at h
        · exact ⟨fun e => stP_mono ih (h.1 e), fun e => ih _ _ (h.2 e)⟩
        · exact ih _ _ h
        · exact h.elim
  | .frz .., _, _, _, _, _, _, h => h.elim
  | .box .., _, _, _, _, _, _, h => h.elim
  | .alst .., _, _, _, _, _, _, h => h.elim
  | .bsl .., _, _, _, _, _, _, h => h.elim
  | .grp gs p g w b pg r, kn, N, N', T, H, hn, h => by
    simp only [segP] at h ⊢
    split at h
    · obtain ⟨bg, rv, h1, h2, h3⟩ := h
      exact ⟨bg, rv, h1, h2, fun vs => segP_mono r kn hn (h3 vs)⟩
    · exact h.elim

theorem awp_drawq (hE : E.Good) {s : DSegs} {ps : List (Nat × Nat)} {Q : AEx → Tm → Heap → Prop} {T : Tm} {H : Heap} (hf : fineP s.flat ps = true) (h : segP E [] s (Q .normal) T H) : AWP E (.draw s.flat ps) Q T H :=
  awp_draw hE fun base hb => prun_drun hf s.flat [] T H (fun j => by simp) (by simp) ⟨fun k x hx => by simp at hx, fun k x o hx => by simp at hx, fun k x o hx => by simp at hx⟩ (by simpa using hb) (seg_prun s [] _ T H (fun q hq => by simp at hq) h)

end
end Go.Abs
