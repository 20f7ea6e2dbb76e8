/- A part of the proof: W9 -/
import Derived.Test.YtbjglnknddeflaaDoorX18
set_option linter.unusedSimpArgs false
set_option linter.unusedVariables false
/- One telling of a value for another. -/
namespace Go.Abs

theorem vle_ro {s : Nat} {es es' : List (List AV)} (hl : es'.length = es.length) (h : ∀ (i : Nat) (a b : List AV), es[i]? = some a → es'[i]? = some b → b.length = a.length ∧ ∀ (j : Nat) (x y : AV), a[j]? = some x → b[j]? = some y → VLe x y) : VLe (.ro s es) (.ro s es') := fun E c v hv => by
  have get : ∀ {i : Nat} {b : List AV}, es'[i]? = some b → ∃ a, es[i]? = some a := fun {i b} hb => by
    have := (List.getElem?_eq_some_iff.1 hb).1
    exact ⟨_, List.getElem?_eq_getElem (by omega)⟩
  have get2 : ∀ {i : Nat} {b : List AV} {j : Nat} {y : AV}, es'[i]? = some b → b[j]? = some y → ∃ a x, es[i]? = some a ∧ a[j]? = some x ∧ VLe x y := fun {i b j y} hb hy => by
    obtain ⟨a, ha⟩ := get hb
    obtain ⟨h1, h2⟩ := h i a b ha hb
    have := (List.getElem?_eq_some_iff.1 hy).1
    have hx := List.getElem?_eq_getElem (l := a) (i := j) (by omega)
    exact ⟨a, _, ha, hx, h2 j _ y hx hy⟩
  cases hv with
  | ro vs h1 h2 h3 h4 =>
    rw [← hl]
    refine .ro vs (by omega) (fun i b hb => ?_) (fun i b j y hb hy => ?_) (fun i b j y hb hy => ?_)
    · obtain ⟨a, ha⟩ := get hb
      rw [(h i a b ha hb).1]; exact h2 i a ha
    · obtain ⟨a, x, ha, hx, _⟩ := get2 hb hy
      exact h3 i a j x ha hx
    · obtain ⟨a, x, ha, hx, hle⟩ := get2 hb hy
      exact hle E c _ (h4 i a j x ha hx)
  | ro0 s =>
    have : es' = [] := List.eq_nil_of_length_eq_zero hl
    subst this; exact .ro0 s
  | roz s a =>
    have : es' = [] := List.eq_nil_of_length_eq_zero hl
    subst this; exact .roz s a

def leL {α : Type} (p : α → α → Bool) : List α → List α → Bool
  | [], [] => true
  | a :: as, b :: bs => p a b && leL p as bs
  | _, _ => false
theorem leL_get {α : Type} {p : α → α → Bool} : ∀ {as bs : List α}, leL p as bs = true → bs.length = as.length ∧ ∀ (j : Nat) (x y : α), as[j]? = some x → bs[j]? = some y → p x y = true
  | [], [], _ => ⟨rfl, fun j x y hx => by simp at hx⟩
  | a :: as, b :: bs, h => by
    simp only [leL, Bool.and_eq_true] at h
    obtain ⟨h1, h2⟩ := leL_get h.2
    refine ⟨by simp [h1], fun j x y hx hy => ?_⟩
    cases j with
    | zero => simp at hx hy; subst hx; subst hy; exact h.1
    | succ j => exact h2 j x y (by simpa using hx) (by simpa using hy)
  | [], _ :: _, h => by simp [leL] at h
  | _ :: _, [], h => by simp [leL] at h

def leB : Nat → AV → AV → Bool
  | 0, _, _ => false
  | n + 1, x, y => match x, y with
    | .nilsl, .ro _ [] => true
    | .nilsl, .nilsl => true
    | .int k a, .int k' b => decide (k = k') && decide (a = b)
    | .bool a, .bool b => a == b
    | .ro s es, .ro s' es' => Nat.beq s s' && leL (fun a b => leL (leB n) a b) es es'
    | .agg a, .agg b => leL (leB n) a b
    | .tup a, .tup b => leL (leB n) a b
    | _, _ => false
theorem vle_of_leB : ∀ {n : Nat} {x y : AV}, leB n x y = true → VLe x y
  | 0, _, _, h => by simp [leB] at h
  | n + 1, x, y, h => by
    simp only [leB] at h
    split at h
    · exact vle_nil _
    · exact VLe.refl _
    · simp only [Bool.and_eq_true, decide_eq_true_eq] at h; obtain ⟨rfl, rfl⟩ := h; exact VLe.refl _
    · rw [beq_iff_eq] at h; subst h; exact VLe.refl _
    · simp only [Bool.and_eq_true] at h
      have e := Nat.eq_of_beq_eq_true h.1
      subst e
      obtain ⟨h1, h2⟩ := leL_get h.2
      refine vle_ro h1 fun i a b ha hb => ?_
      obtain ⟨h3, h4⟩ := leL_get (h2 i a b ha hb)
      exact ⟨h3, fun j x y hx hy => vle_of_leB (h4 j x y hx hy)⟩
    · obtain ⟨h1, h2⟩ := leL_get h
      exact vle_agg h1 fun j x y hx hy => vle_of_leB (h2 j x y hx hy)
    · obtain ⟨h1, h2⟩ := leL_get h
      exact vle_tup h1 fun j x y hx hy => vle_of_leB (h2 j x y hx hy)
    · cases h

inductive VLes : List AV → List AV → Prop
  | nil : VLes [] []
  | cons {x y : AV} {xs ys : List AV} : VLe x y → VLes xs ys → VLes (x :: xs) (y :: ys)
theorem vles_refl : ∀ (l : List AV), VLes l l
  | [] => .nil
  | _ :: l => .cons (VLe.refl _) (vles_refl l)
section
variable {E : Env}
theorem vles_get : ∀ {xs ys : List AV}, VLes xs ys → ys.length = xs.length ∧ ∀ (j : Nat) (x y : AV), xs[j]? = some x → ys[j]? = some y → VLe x y
  | _, _, .nil => ⟨rfl, fun j x y hx => by simp at hx⟩
  | _, _, .cons h1 h2 => ⟨by simp [(vles_get h2).1], fun j x y hx hy => by
    cases j with
    | zero => simp at hx hy; subst hx; subst hy; exact h1
    | succ j => exact (vles_get h2).2 j x y (by simpa using hx) (by simpa using hy)⟩
theorem vrs_le {c : Corr} {xs ys : List AV} {vs : List Value} (h : VLes xs ys) (hv : VRs E c xs vs) : VRs E c ys vs := by
  obtain ⟨h1, h2⟩ := vles_get h
  refine ⟨h1.trans hv.1, fun j y v hy hv' => ?_⟩
  have : j < xs.length := by rw [← h1]; exact (List.getElem?_eq_some_iff.1 hy).1
  exact h2 j xs[j] y (List.getElem?_eq_getElem this) hy E c v (hv.2 j _ v (List.getElem?_eq_getElem this) hv')
theorem ACall.le {f : Nat} {args args' : List AV} {H : Heap} {R : AV → Heap → Prop} (h : ACall E f args' H R) (hle : VLes args args') : ACall E f args H R :=
  fun g hg c cargs w hs hargs => h g hg c cargs w hs (vrs_le hle hargs)
theorem PF.le {f : Nat} {args args' : List AV} {v : AV} (h : PF E f args' v) (hle : VLes args args') : PF E f args v := fun H => (h H).le hle
theorem PF.ret {f : Nat} {args : List AV} {v v' : AV} (h : PF E f args v) (hle : VLe v v') : PF E f args v' := fun H => acall_cl ((h H).mono fun x H' ⟨h1, h2⟩ => by
  subst h1; subst h2; exact .le (fun _ => v') _ (fun _ => hle) (Heap.Le.refl _) (.here ⟨rfl, rfl⟩))
end
end Go.Abs
