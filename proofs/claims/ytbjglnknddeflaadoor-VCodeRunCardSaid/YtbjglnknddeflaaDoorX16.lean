/- A part of the proof: Hold -/
import Derived.Test.YtbjglnknddeflaaDoorX15
set_option linter.unusedSimpArgs false
set_option linter.unusedVariables false
/- What a heap holds: a list of blocks, each of its own. -/
namespace Go.Abs

def Holds (H : Heap) (m : List (Nat × Blk)) : Prop := (m.map (·.1)).Nodup ∧ ∀ p ∈ m, H p.1 = some p.2
theorem Holds.get {H : Heap} {m : List (Nat × Blk)} (h : Holds H m) {k : Nat} {b : Blk} (hm : (k, b) ∈ m) : H k = some b := h.2 (k, b) hm
theorem Holds.left {H : Heap} {a b : List (Nat × Blk)} (h : Holds H (a ++ b)) : Holds H a := by
  refine ⟨?_, fun p hp => h.2 p (List.mem_append_left _ hp)⟩
  have := h.1; rw [List.map_append] at this; exact (List.nodup_append.1 this).1
theorem Holds.right {H : Heap} {a b : List (Nat × Blk)} (h : Holds H (a ++ b)) : Holds H b := by
  refine ⟨?_, fun p hp => h.2 p (List.mem_append_right _ hp)⟩
  have := h.1; rw [List.map_append] at this; exact (List.nodup_append.1 this).2.1
theorem Holds.apart {H : Heap} {a b : List (Nat × Blk)} (h : Holds H (a ++ b)) {p q : Nat × Blk} (hp : p ∈ a) (hq : q ∈ b) : p.1 ≠ q.1 := by
  have := h.1; rw [List.map_append] at this
  exact (List.nodup_append.1 this).2.2 _ (List.mem_map.2 ⟨p, hp, rfl⟩) _ (List.mem_map.2 ⟨q, hq, rfl⟩)
theorem Holds.comm {H : Heap} {a b : List (Nat × Blk)} (h : Holds H (a ++ b)) : Holds H (b ++ a) := by
  refine ⟨?_, fun p hp => h.2 p (by rcases List.mem_append.1 hp with h | h <;> simp [h])⟩
  have := h.1; rw [List.map_append] at this
  have := List.nodup_append.1 this
  rw [List.map_append, List.nodup_append]
  exact ⟨this.2.1, this.1, fun x hx y hy e => this.2.2 y hy x hx e.symm⟩
theorem Holds.perm {H : Heap} {a b : List (Nat × Blk)} (h : Holds H a) (p : a.Perm b) : Holds H b :=
  ⟨(p.map _).nodup_iff.1 h.1, fun q hq => h.2 q (p.symm.subset hq)⟩
theorem Holds.append {H : Heap} {a b : List (Nat × Blk)} (ha : Holds H a) (hb : Holds H b) (hd : ∀ p ∈ a, ∀ q ∈ b, p.1 ≠ q.1) : Holds H (a ++ b) := by
  refine ⟨?_, fun p hp => ?_⟩
  · rw [List.map_append, List.nodup_append]
    refine ⟨ha.1, hb.1, fun x hx y hy e => ?_⟩
    obtain ⟨p, hp, rfl⟩ := List.mem_map.1 hx
    obtain ⟨q, hq, rfl⟩ := List.mem_map.1 hy
    exact hd p hp q hq e
  · rcases List.mem_append.1 hp with h | h
    · exact ha.2 p h
    · exact hb.2 p h
/-- What is of the rest stays. -/
theorem Holds.rest {H H' : Heap} {X B : List (Nat × Blk)} (h : Holds H (X ++ B)) (hk : Kept H H' (X.map (·.1))) : Holds H' B :=
  ⟨h.right.1, fun p hp => hk _ _ (h.right.2 p hp) (fun hx => by
    obtain ⟨q, hq, e⟩ := List.mem_map.1 hx
    exact h.apart hq hp e)⟩
theorem Holds.frame {H H' : Heap} {X X' B : List (Nat × Blk)} (h : Holds H (X ++ B)) (hX : Holds H' X') (hk : Kept H H' (X.map (·.1))) (hf : ∀ k ∈ X'.map (·.1), k ∈ X.map (·.1) ∨ H k = none) : Holds H' (X' ++ B) := by
  refine hX.append (h.rest hk) fun p hp q hq e => ?_
  rcases hf p.1 (List.mem_map.2 ⟨p, hp, rfl⟩) with h1 | h1
  · obtain ⟨p', hp', e'⟩ := List.mem_map.1 h1
    exact h.apart hp' hq (e'.trans e)
  · have := h.right.2 q hq
    rw [← e, h1] at this; cases this
/-- The first one written. -/
theorem Holds.set {H : Heap} {k : Nat} {b b' : Blk} {B : List (Nat × Blk)} (h : Holds H ((k, b) :: B)) : Holds (H.set k (some b')) ((k, b') :: B) := by
  have h' : Holds H ([(k, b)] ++ B) := h
  refine h'.frame (X' := [(k, b')]) ⟨by simp, by simp [Heap.set_same]⟩ ((Kept.refl _ _).step _ (.inl (by simp))) (by simp)
/-- A new one. -/
theorem Holds.new {H : Heap} {k : Nat} {b : Blk} {B : List (Nat × Blk)} (h : Holds H B) (hn : Fresh H k) : Holds (H.set k (some b)) ((k, b) :: B) := by
  have h' : Holds H ([] ++ B) := h
  refine h'.frame (X' := [(k, b)]) ⟨by simp, by simp [Heap.set_same]⟩ ((Kept.refl _ _).step _ (.inr hn.none)) (fun j hj => .inr (by simp at hj; subst hj; exact hn.none))
/-- One moved. -/
theorem Holds.move {H : Heap} {k k' : Nat} {b b' : Blk} {B : List (Nat × Blk)} (h : Holds H ((k, b) :: B)) (hn : Fresh H k') : Holds ((H.set k none).set k' (some b')) ((k', b') :: B) := by
  have h' : Holds H ([(k, b)] ++ B) := h
  exact h'.frame (X' := [(k', b')]) ⟨by simp, by simp [Heap.set_same]⟩ (((Kept.refl _ _).step _ (.inl (by simp))).step _ (.inr hn.none)) (fun j hj => .inr (by simp at hj; subst hj; exact hn.none))
/-- One more, of no account. -/
theorem Holds.more {H : Heap} {k : Nat} {b : Option Blk} {B : List (Nat × Blk)} (h : Holds H B) (hn : H k = none) : Holds (H.set k b) B := by
  have h' : Holds H ([] ++ B) := h
  exact h'.rest ((Kept.refl _ _).step _ (.inr hn))

/-- The same, and beside it a heap's own blocks stand untouched. -/
structure HoldsG (G H : Heap) (m : List (Nat × Blk)) : Prop where
  to : Holds H m
  kp : ∀ k b, G k = some b → H k = some b ∧ k ∉ m.map (·.1)
section
variable {G H H' : Heap}
theorem HoldsG.get {m : List (Nat × Blk)} (h : HoldsG G H m) {k : Nat} {b : Blk} (hm : (k, b) ∈ m) : H k = some b := h.to.get hm
theorem HoldsG.apart {a b : List (Nat × Blk)} (h : HoldsG G H (a ++ b)) {p q : Nat × Blk} (hp : p ∈ a) (hq : q ∈ b) : p.1 ≠ q.1 := h.to.apart hp hq
theorem HoldsG.perm {a b : List (Nat × Blk)} (h : HoldsG G H a) (p : a.Perm b) : HoldsG G H b :=
  ⟨h.to.perm p, fun k c hk => ⟨(h.kp k c hk).1, fun hm => (h.kp k c hk).2 ((p.map _).symm.subset hm)⟩⟩
theorem HoldsG.left {a b : List (Nat × Blk)} (h : HoldsG G H (a ++ b)) : HoldsG G H a :=
  ⟨h.to.left, fun k c hk => ⟨(h.kp k c hk).1, fun hm => (h.kp k c hk).2 (by rw [List.map_append]; exact List.mem_append_left _ hm)⟩⟩
theorem HoldsG.right {a b : List (Nat × Blk)} (h : HoldsG G H (a ++ b)) : HoldsG G H b :=
  ⟨h.to.right, fun k c hk => ⟨(h.kp k c hk).1, fun hm => (h.kp k c hk).2 (by rw [List.map_append]; exact List.mem_append_right _ hm)⟩⟩
theorem HoldsG.comm {a b : List (Nat × Blk)} (h : HoldsG G H (a ++ b)) : HoldsG G H (b ++ a) := h.perm List.perm_append_comm
theorem HoldsG.frame {X X' B : List (Nat × Blk)} (h : HoldsG G H (X ++ B)) (hX : Holds H' X') (hk : Kept H H' (X.map (·.1))) (hf : ∀ k ∈ X'.map (·.1), k ∈ X.map (·.1) ∨ H k = none) : HoldsG G H' (X' ++ B) := by
  refine ⟨h.to.frame hX hk hf, fun k c hc => ?_⟩
  obtain ⟨h1, h2⟩ := h.kp k c hc
  rw [List.map_append, List.mem_append, not_or] at h2
  refine ⟨hk k c h1 h2.1, ?_⟩
  rw [List.map_append, List.mem_append, not_or]
  refine ⟨fun hm => ?_, h2.2⟩
  rcases hf k hm with h3 | h3
  · exact h2.1 h3
  · rw [h3] at h1; cases h1
theorem HoldsG.set {k : Nat} {b b' : Blk} {B : List (Nat × Blk)} (h : HoldsG G H ((k, b) :: B)) : HoldsG G (H.set k (some b')) ((k, b') :: B) := by
  have h' : HoldsG G H ([(k, b)] ++ B) := h
  exact h'.frame (X' := [(k, b')]) ⟨by simp, by simp [Heap.set_same]⟩ ((Kept.refl _ _).step _ (.inl (by simp))) (by simp)
theorem HoldsG.more {k : Nat} {b : Option Blk} {B : List (Nat × Blk)} (h : HoldsG G H B) (hn : H k = none) : HoldsG G (H.set k b) B := by
  refine ⟨h.to.more hn, fun j c hc => ⟨?_, (h.kp j c hc).2⟩⟩
  rw [Heap.get_ne _ _ _ _ (fun e => by subst e; rw [(h.kp _ c hc).1] at hn; cases hn)]
  exact (h.kp j c hc).1
theorem HoldsG.move {k k' : Nat} {b b' : Blk} {B : List (Nat × Blk)} (h : HoldsG G H ((k, b) :: B)) (hn : Fresh H k') : HoldsG G ((H.set k none).set k' (some b')) ((k', b') :: B) := by
  have h' : HoldsG G H ([(k, b)] ++ B) := h
  exact h'.frame (X' := [(k', b')]) ⟨by simp, by simp [Heap.set_same]⟩ (((Kept.refl _ _).step _ (.inl (by simp))).step _ (.inr hn.none)) (fun j hj => .inr (by simp at hj; subst hj; exact hn.none))
theorem HoldsG.new {k : Nat} {b : Blk} {B : List (Nat × Blk)} (h : HoldsG G H B) (hn : Fresh H k) : HoldsG G (H.set k (some b)) ((k, b) :: B) := by
  have h' : HoldsG G H ([] ++ B) := h
  exact h'.frame (X' := [(k, b)]) ⟨by simp, by simp [Heap.set_same]⟩ ((Kept.refl _ _).step _ (.inr hn.none)) (fun j hj => .inr (by simp at hj; subst hj; exact hn.none))
end

/-! ### Words of one's own -/
def ownL (rv : AV) (xs : List Int) : List (Nat × Blk) := match rv with
  | .sl _ id _ _ => [(id, xs.map icell)]
  | _ => []
def OwnV (rv : AV) (xs : List Int) : Prop := (rv = .nilsl ∧ xs = []) ∨ ∃ id, rv = .sl 1 id 0 xs.length
theorem Own.of {H : Heap} {rv : AV} {xs : List Int} (h : OwnV rv xs) (hh : ∀ p ∈ ownL rv xs, H p.1 = some p.2) : Own H rv xs ((ownL rv xs).map (·.1)) := by
  rcases h with ⟨rfl, rfl⟩ | ⟨id, rfl⟩
  · exact .inl ⟨rfl, rfl, rfl⟩
  · exact .inr ⟨id, rfl, hh (id, xs.map icell) (by simp [ownL]), rfl⟩
theorem Own.to {H : Heap} {rv : AV} {xs : List Int} {F : List Nat} (h : Own H rv xs F) : OwnV rv xs ∧ F = (ownL rv xs).map (·.1) ∧ Holds H (ownL rv xs) := by
  rcases h with ⟨rfl, rfl, rfl⟩ | ⟨id, rfl, h2, rfl⟩
  · exact ⟨.inl ⟨rfl, rfl⟩, rfl, ⟨by simp [ownL], by simp [ownL]⟩⟩
  · exact ⟨.inr ⟨id, rfl⟩, rfl, ⟨by simp [ownL], by simp [ownL, h2]⟩⟩
end Go.Abs
