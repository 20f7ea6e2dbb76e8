/- A part of the proof: AbsS -/
import Derived.Test.YtbjglnknddeflaaDoorX2
set_option linter.unusedSimpArgs false
set_option linter.unusedVariables false
/- Stretches of operations with their conditional parts marked: what '&&' and '||' print. -/
namespace Go.Abs

def dstsOf (l : List AOper) : List Nat := l.filterMap (·.dst)

def putl (T : Tm) (vs : Nat → AV) : List Nat → Tm
  | [] => T
  | d :: ds => (putl T vs ds).put d (vs d)

theorem putl_ap (T : Tm) (vs : Nat → AV) : ∀ (ds : List Nat) (s : Nat), putl T vs ds s = if s ∈ ds then vs s else T s
  | [], s => by simp [putl]
  | d :: ds, s => by
    simp only [putl, Tm.put, putl_ap T vs ds s, List.mem_cons]
    by_cases h : s = d
    · subst h; simp
    · simp [h]

/-- Do all skip where the slot says otherwise? -/
def skips (g : Nat) (w : Bool) : List Nat → List AOper → Bool
  | _, [] => true
  | seen, o :: os => (match o.guard with
    | some (s, w') => (s == g && w' == w) || seen.contains s
    | none => false) && (match o.dst with
    | some d => d != g && skips g w (d :: seen) os
    | none => skips g w seen os)

section
variable {E : Env}

theorem arun_append (N : Tm → Heap → Prop) (l2 : List AOper) : ∀ l1 : List AOper, ARun E N (l1 ++ l2) = ARun E (ARun E N l2) l1
  | [] => rfl
  | o :: os => by
    have ih := arun_append N l2 os
    funext T H
    simp only [List.cons_append, ARun, ih]

theorem astep_mono {o : AOper} {N N' : Tm → Heap → Prop} {T : Tm} {H : Heap} (h : AStep E o N T H) (hn : ∀ v H', N (T.puto o.dst v) H' → N' (T.puto o.dst v) H') : AStep E o N' T H := by
  unfold AStep at h ⊢
  split
  · rename_i f as hop
    rw [hop] at h
    obtain ⟨k, caps, h1, h2⟩ := h
    exact ⟨k, caps, h1, ACall.mono h2 fun v H' => hn v H'⟩
  · rename_i op hop
    split at h
    · rename_i f as h'; exact absurd h' (hop f as)
    · split at h
      · rename_i hm
        rw [if_pos hm]
        intro new hnew
        obtain ⟨v, need, give, h1, h2⟩ := h new hnew
        exact ⟨v, need, give, h1, hn _ _ h2⟩
      · rename_i hm
        rw [if_neg hm]
        obtain ⟨v, need, give, h1, h2⟩ := h
        exact ⟨v, need, give, h1, hn _ _ h2⟩

theorem arun_frame {N N' : Tm → Heap → Prop} : ∀ {l : List AOper} {T : Tm} {H : Heap}, ARun E N l T H → (∀ T' H', (∀ s, s ∉ dstsOf l → T' s = T s) → N T' H' → N' T' H') → ARun E N' l T H
  | [], T, H, h, hn => hn T H (fun _ _ => rfl) h
  | o :: os, T, H, h, hn => by
    have key : ∀ v T' H', (∀ s, s ∉ dstsOf os → T' s = (T.puto o.dst v) s) → N T' H' → N' T' H' := fun v T' H' hs hN => hn T' H' (fun s hs' => by
      cases hd : o.dst with
      | none =>
        rw [hd] at hs
        have : s ∉ dstsOf os := by simpa [dstsOf, hd] using hs'
        exact hs s this
      | some d =>
        rw [hd] at hs
        have : s ≠ d ∧ s ∉ dstsOf os := by simpa [dstsOf, hd, not_or] using hs'
        rw [hs s this.2]; simp [Tm.puto, Tm.put, this.1]) hN
    simp only [ARun] at h ⊢
    split
    · rename_i hg
      rw [hg] at h
      exact astep_mono h fun v H' hr => arun_frame hr (key v)
    · rename_i g w hg
      rw [hg] at h
      rcases h with ⟨h1, h2⟩ | ⟨b, h1, h2, h3⟩
      · exact .inl ⟨h1, arun_frame h2 (key _)⟩
      · exact .inr ⟨b, h1, fun e => astep_mono (h2 e) fun v H' hr => arun_frame hr (key v), fun e => arun_frame (h3 e) (key _)⟩

theorem arun_skip {g : Nat} {w b : Bool} (hb : b = !w) {N : Tm → Heap → Prop} : ∀ {l : List AOper} {seen : List Nat} {T : Tm} {H : Heap}, skips g w seen l = true → T g = .bool b → (∀ s ∈ seen, T s = .tup []) →
    (∀ T', (∀ s, s ∉ dstsOf l → T' s = T s) → T' g = .bool b → N T' H) → ARun E N l T H
  | [], seen, T, H, hs, hg, hse, k => k T (fun _ _ => rfl) hg
  | o :: os, seen, T, H, hs, hg, hse, k => by
    simp only [skips, Bool.and_eq_true] at hs
    obtain ⟨hs1, hs2⟩ := hs
    have next : ARun E N os (T.puto o.dst (.tup [])) H := by
      cases hd : o.dst with
      | none =>
        rw [hd] at hs2
        exact arun_skip hb hs2 hg hse (fun T' h1 h2 => k T' (fun s hs' => h1 s (by simpa [dstsOf, hd] using hs')) h2)
      | some d =>
        rw [hd] at hs2
        simp only [Bool.and_eq_true, bne_iff_ne, ne_eq] at hs2
        refine arun_skip hb hs2.2 (by simp only [Tm.puto, Tm.put]; rw [if_neg (fun e => hs2.1 e.symm)]; exact hg) (fun s hs' => ?_) (fun T' h1 h2 => k T' (fun s hs' => ?_) h2)
        · simp only [Tm.puto, Tm.put]
          split
          · rfl
          · rename_i hne
            rcases List.mem_cons.1 hs' with e | e
            · exact absurd e hne
            · exact hse s e
        · have : s ≠ d ∧ s ∉ dstsOf os := by simpa [dstsOf, hd, not_or] using hs'
          rw [h1 s this.2]; simp [Tm.puto, Tm.put, this.1]
    simp only [ARun]
    cases hgd : o.guard with
    | none => rw [hgd] at hs1; simp at hs1
    | some gw =>
      obtain ⟨s, w'⟩ := gw
      rw [hgd] at hs1
      simp only [Bool.or_eq_true, Bool.and_eq_true, beq_iff_eq, List.contains_iff_mem] at hs1
      rcases hs1 with ⟨rfl, rfl⟩ | hin
      · exact .inr ⟨b, hg, fun e => by rw [hb] at e; cases w' <;> simp at e, fun _ => next⟩
      · exact .inl ⟨hse s hin, next⟩

structure IfB (p q : Prop) : Prop where
  h : p → q
structure AllV (P : (Nat → AV) → Prop) : Prop where
  h : ∀ vs, P vs

def SRun (E : Env) (N : Tm → Heap → Prop) (s : Segs) (T : Tm) (H : Heap) : Prop := ARun E N s.flat T H




end
end Go.Abs
