/- A part of the proof: W6 -/
import Derived.Test.YtbjglnknddeflaaDoorX6
set_option linter.unusedSimpArgs false
set_option linter.unusedVariables false
/- Regions that draw their order around one call whose outcome is not told beforehand. -/
namespace Go.Abs

section
variable {E : Env} {Q : AEx → Tm → Heap → Prop} {T : Tm} {H : Heap}

theorem AStep.congr {x : AOper} {N N' : Tm → Heap → Prop} {T T1 : Tm} {H : Heap} (h : AStep E x N T H) (hr : ∀ s ∈ x.reads, T1 s = T s) (hn : ∀ v H', N (T.puto x.dst v) H' → N' (T1.puto x.dst v) H') : AStep E x N' T1 H := by
  have hev : ∀ y ∈ x.op.opds, y.ev T1 = y.ev T := reads_opds hr
  unfold AStep at h ⊢
  split
  · rename_i f as hop
    rw [hop] at h hev
    obtain ⟨g, caps, h1, h2⟩ := h
    have ha : as.map (AOpd.ev T1) = as.map (AOpd.ev T) := List.map_congr_left fun y hy => hev y (by simp [AOp.opds, hy])
    exact ⟨g, caps, by rw [hev f (by simp [AOp.opds])]; exact h1, by rw [ha]; exact ACall.mono h2 hn⟩
  · rename_i op hnc
    split at h
    · rename_i f as hf; exact absurd hf (hnc f as)
    · split at h
      · rename_i hm
        rw [if_pos hm]
        intro new hnew
        obtain ⟨v, need, give, h1, h2⟩ := h new hnew
        exact ⟨v, need, give, aop_local h1 hev (fun p hp => aop_need h1 p hp), hn _ _ h2⟩
      · rename_i hm
        rw [if_neg hm]
        obtain ⟨v, need, give, h1, h2⟩ := h
        exact ⟨v, need, give, aop_local h1 hev (fun p hp => aop_need h1 p hp), hn _ _ h2⟩

def noKeys (r : Eff) : Prop := r.2.1 = [] ∧ r.2.2 = []

/-- What is left of the first part may as well come behind the call. -/
theorem past {n : Nat} {ops : Array Oper} {base : Nat} {l : List AOper} {r : Nat → Eff} {x : AOper} {M : Tm → Heap → Prop} : ∀ (is : List Nat) (T : Tm) (H : Heap),
    (∀ i ∈ is, ∀ y, l[i]? = some y → slotsApart y x = true ∧ noKeys (r i)) → SeqOK E n ops base l r (AStep E x M) is T H →
    AStep E x (fun T' H' => SeqOK E n ops base l r M is T' H') T H
  | [], T, H, _, h => h
  | i :: is, T, H, hi, ⟨y, hy, h1, h2, h3⟩ => by
    obtain ⟨hsl, hk1, hk2⟩ := hi i (by simp) y hy
    obtain ⟨s1, s2⟩ := slots_facts hsl
    rw [hk2] at h3
    have ih := past is _ _ (fun j hj => hi j (by simp [hj])) h3
    refine AStep.congr ih (fun s hs => ?_) (fun v H' hh => ?_)
    · exact (puto_other _ _ _ (fun e => (s1 s e).1 hs)).symm
    · refine ⟨y, hy, h1.congr (fun s hs => puto_other _ _ _ (fun e => s2 s e hs)), by rw [hk1]; simp, ?_⟩
      rw [hk2]
      rw [puto_comm T v (r i).1 (fun d e e2 => (s1 d e2).2 e)]
      exact hh

/-- The first part's end. -/
theorem seq_end {n : Nat} {ops : Array Oper} {base : Nat} {l : List AOper} {r : Nat → Eff} {M : Tm → Heap → Prop} : ∀ (is : List Nat) (T : Tm) (H : Heap), SeqOK E n ops base l r M is T H →
    ∃ Tf Hf, M Tf Hf ∧ ∀ M' : Tm → Heap → Prop, M' Tf Hf → SeqOK E n ops base l r M' is T H
  | [], _, _, h => ⟨_, _, h, fun _ h' => h'⟩
  | _ :: is, _, _, ⟨y, hy, h1, h2, h3⟩ => by
    obtain ⟨Tf, Hf, g1, g2⟩ := seq_end is _ _ h3
    exact ⟨Tf, Hf, g1, fun M' h' => ⟨y, hy, h1, h2, g2 M' h'⟩⟩

theorem seq_append {n : Nat} {ops : Array Oper} {base : Nat} {l : List AOper} {r : Nat → Eff} {M : Tm → Heap → Prop} (js : List Nat) : ∀ (is : List Nat) (T : Tm) (H : Heap), SeqOK E n ops base l r (fun T' H' => SeqOK E n ops base l r M js T' H') is T H → SeqOK E n ops base l r M (is ++ js) T H
  | [], _, _, h => h
  | _ :: is, _, _, ⟨y, hy, h1, h2, h3⟩ => ⟨y, hy, h1, h2, seq_append js is _ _ h3⟩

theorem befs_trans {ops : Array Oper} {l : List AOper} {b : List (List Nat)} (hsh : Shape ops l b) {p m : Nat} : ∀ {q : Nat}, q < ops.size → m ∈ b.getD q [] → p ∈ b.getD m [] → p ∈ b.getD q [] := by
  intro q
  induction q using Nat.strongRecOn with
  | ind q ih =>
    intro hq hm hp
    have ho : ops[q]? = some ops[q] := by simp [hq]
    rw [hsh.bef q _ ho] at hm ⊢
    obtain ⟨e, he, hme⟩ := List.mem_flatMap.1 hm
    obtain ⟨he1, he2⟩ := List.mem_filter.1 he
    have hlt := hsh.edge q _ ho e he1 he2
    refine List.mem_flatMap.2 ⟨e, he, ?_⟩
    rcases List.mem_cons.1 hme with h3 | h3
    · rw [h3] at hp; exact List.mem_cons_of_mem _ hp
    · exact List.mem_cons_of_mem _ (ih e.on hlt (by omega) h3 hp)

/-- What is still to come behind the call. -/
def PostOK (E : Env) (n : Nat) (ops : Array Oper) (base : Nat) (l : List AOper) (b : List (List Nat)) (K : Tm → Heap → Prop) (post : List Nat) (T : Tm) (H : Heap) : Prop :=
  ∃ r, (∀ (p i : Nat) (x y : AOper), p < i → p ∈ post → i ∈ post → p ∉ b.getD i [] → l[p]? = some x → l[i]? = some y → Indep x y (r p) (r i)) ∧ SeqOK E n ops base l r K post T H

/-- The state of the first part. -/
structure LeftA (ops : Array Oper) (b : List (List Nat)) (m : Nat) (listed : Array Bool) (rem : List Nat) : Prop where
  size : listed.size = ops.size
  mem : ∀ i, i ∈ rem ↔ i < m ∧ listed.getD i true = false
  later : ∀ i, m ≤ i → i < ops.size → listed.getD i true = false
  sorted : rem.Pairwise (· < ·)
  closed : ∀ i, i < ops.size → listed.getD i true = true → ∀ p ∈ b.getD i [], listed.getD p false = true

theorem barrier_sound (hE : E.Good) {n : Nat} {ops : Array Oper} {base m : Nat} {l : List AOper} {b : List (List Nat)} {r : Nat → Eff} {K : Tm → Heap → Prop} (hsh : Shape ops l b) (hm : m < ops.size) {xo : Oper} {x : AOper} (hxo : ops[m]? = some xo) (hx : l[m]? = some x) (hcx : cOper E n ops xo = some x) (hgx : x.guard = none)
    (hind : ∀ (p i : Nat) (x y : AOper), p < i → i < m → p ∉ b.getD i [] → l[p]? = some x → l[i]? = some y → Indep x y (r p) (r i))
    (hslots : ∀ (p i : Nat) (x y : AOper), p < i → p ∉ b.getD i [] → l[p]? = some x → l[i]? = some y → slotsApart x y = true)
    (hharm : ∀ p, p < m → p ∉ b.getD m [] → noKeys (r p)) (hpost : ∀ i, m < i → i < ops.size → m ∈ b.getD i [])
    {c0 : Corr} {w0 : World} {Qc : Exit → Act → World → Prop} (hbase : base = c0.nxt) (hn : ∀ (T : Tm) (H : Heap) (c : Corr) (a : Act) (w : World), K T H → c0.Le c → (∀ k, k < c0.nxt → c.ρ k = c0.ρ k) → Keep c0 w0 w → Sim E c H w → Frm E n c T a → Qc .normal a w) :
    ∀ (fuel : Nat) (rem : List Nat) (listed : Array Bool) (T : Tm) (H : Heap) (c : Corr) (a : Act) (w : World), rem.length + 1 + (ops.size - (m + 1)) = fuel → LeftA ops b m listed rem →
      SeqOK E n ops base l r (AStep E x (PostOK E n ops base l b K (List.range' (m + 1) (ops.size - (m + 1))))) rem T H →
      c0.Le c → (∀ k, k < c0.nxt → c.ρ k = c0.ρ k) → (∀ i, (i ∈ rem ∨ m ≤ i ∧ i < ops.size) → c.ρ (base + i) = none ∧ base + i < c.nxt) → Keep c0 w0 w → Sim E c H w → Frm E n c T a → wpAny E.P .any ops Qc fuel listed a w := by
  intro fuel
  induction fuel with
  | zero => intro rem listed T H c a w hl; omega
  | succ fuel ih =>
    intro rem listed T H c a w hl hL hS hle hold hfree hk hs hf
    -- what is ready has all that goes before it
    have hready : ∀ i o, ops[i]? = some o → (∀ e ∈ o.after.toList, Region.binds .any e = true → listed.getD e.on false = true) → ∀ p ∈ b.getD i [], listed.getD p false = true := by
      intro i o ho hpre p hp
      rw [hsh.bef i o ho] at hp
      obtain ⟨e, he, hme⟩ := List.mem_flatMap.1 hp
      obtain ⟨he1, he2⟩ := List.mem_filter.1 he
      have hle' := hpre e he1 he2
      have hi : i < ops.size := (Array.getElem?_eq_some_iff.1 ho).1
      have heon : e.on < ops.size := by have := hsh.edge i o ho e he1 he2; omega
      rcases List.mem_cons.1 hme with h3 | h3
      · rw [h3]; exact hle'
      · exact hL.closed e.on heon (by rw [getD_any (by rw [hL.size]; exact heon) true false]; exact hle') p h3
    have hget : ∀ i, i < ops.size → ∀ j d, (listed.setIfInBounds i true).getD j d = if j = i then true else listed.getD j d := by
      intro i h1 j d
      simp only [Array.getD_eq_getD_getElem?, Array.getElem?_setIfInBounds]
      by_cases e : j = i
      · subst e; simp [hL.size, h1]
      · rw [if_neg (fun h => e h.symm), if_neg e]
    have hclosed : ∀ i o, i < ops.size → ops[i]? = some o → (∀ e ∈ o.after.toList, Region.binds .any e = true → listed.getD e.on false = true) →
        ∀ j, j < ops.size → (listed.setIfInBounds i true).getD j true = true → ∀ p ∈ b.getD j [], (listed.setIfInBounds i true).getD p false = true := by
      intro i o h1 ho hpre j hj hlj p hp
      rw [hget i h1] at hlj ⊢
      by_cases e : p = i
      · rw [if_pos e]
      · rw [if_neg e]
        by_cases e2 : j = i
        · subst e2; exact hready j o ho hpre p hp
        · rw [if_neg e2] at hlj
          exact hL.closed j hj hlj p hp
    refine ⟨fun hr => ?_, fun i hi => ?_⟩
    · exfalso
      have isr : ∀ h, h < ops.size → listed.getD h true = false → (∀ k, k < h → listed.getD k false = true) → False := fun h h1 h2 h3 => by
        have hmem : h ∈ Region.ready .any ops listed := ready_mem.2 ⟨h1, h2, ops[h], by simp [h1], fun e he hb => h3 _ (hsh.edge h ops[h] (by simp [h1]) e he hb)⟩
        rw [hr] at hmem
        simp at hmem
      cases rem with
      | nil =>
        refine isr m hm (hL.later m (Nat.le_refl _) hm) (fun k hkm => ?_)
        cases hq : listed.getD k false with
        | true => rfl
        | false => exact absurd ((hL.mem k).2 ⟨hkm, by rw [getD_any (by rw [hL.size]; omega) true false]; exact hq⟩) (by simp)
      | cons h rem' =>
        obtain ⟨h1, h2⟩ := (hL.mem h).1 (by simp)
        refine isr h (by omega) h2 (fun k hkh => ?_)
        cases hq : listed.getD k false with
        | true => rfl
        | false =>
          have hem : k ∈ h :: rem' := (hL.mem k).2 ⟨by omega, by rw [getD_any (by rw [hL.size]; omega) true false]; exact hq⟩
          rcases List.mem_cons.1 hem with h3 | h3
          · omega
          · have := (List.pairwise_cons.1 hL.sorted).1 _ h3; omega
    · obtain ⟨h1, h2, o, ho, hpre⟩ := ready_mem.1 hi
      rcases Nat.lt_trichotomy i m with him | him | him
      · -- one of the first part
        have himr : i ∈ rem := (hL.mem i).2 ⟨him, h2⟩
        obtain ⟨pre, post, rfl⟩ := List.append_of_mem himr
        have hyl : i < l.length := by rw [hsh.len]; exact h1
        have hy : l[i]? = some l[i] := List.getElem?_eq_getElem hyl
        have hsorted := hL.sorted
        rw [List.pairwise_append] at hsorted
        have hprelt : ∀ p ∈ pre, p < i := fun p hp => hsorted.2.2 p hp i (by simp)
        have hnotbef : ∀ p ∈ pre, p ∉ b.getD i [] := by
          intro p hp hmm
          have h5 := hready i o ho hpre p hmm
          have h6 := (hL.mem p).1 (by simp [hp])
          rw [getD_any (by rw [hL.size]; omega) false true, h6.2] at h5
          cases h5
        obtain ⟨k1, k2, k3⟩ := front hy pre post T H (fun p hp x hx => hind p i x l[i] (hprelt p hp) him (hnotbef p hp) hx hy) hS
        obtain ⟨hf1, hf2⟩ := hfree i (.inl (by simp))
        refine k1 c a w T H hs hf (fun _ _ => rfl) k2 hf1 hf2 _ Qc (fun a' w' c' hx2 hs' hf' => ?_)
        have hnd : i ∉ pre ∧ i ∉ post := by
          refine ⟨fun h => by have := hprelt i h; omega, fun h => ?_⟩
          have := (List.pairwise_cons.1 hsorted.2.1).1 i h; omega
        refine ih (pre ++ post) (listed.setIfInBounds i true) _ _ c' a' w' (by simp at hl ⊢; omega) ⟨by simp [hL.size], fun j => ?_, fun j hj1 hj2 => ?_, ?_, hclosed i o h1 ho hpre⟩ k3 (hle.trans hx2.le) (fun k hkn => ?_) (fun j hj => ?_) (hk.trans hle hx2.keep) hs' hf'
        · rw [hget i h1]
          have := hL.mem j
          by_cases e : j = i
          · subst e; simp [hnd]
          · rw [if_neg e, ← this]; simp [e]
        · rw [hget i h1, if_neg (by omega)]; exact hL.later j hj1 hj2
        · rw [List.pairwise_append]
          exact ⟨hsorted.1, (List.pairwise_cons.1 hsorted.2.1).2, fun p hp q hq => hsorted.2.2 p hp q (by simp [hq])⟩
        · rw [hx2.old k (Nat.lt_of_lt_of_le hkn hle.nxt) (by omega)]
          exact hold k hkn
        · have hji : j ≠ i := by
            rcases hj with hj | hj
            · intro e; subst e; rcases List.mem_append.1 hj with h | h
              · exact hnd.1 h
              · exact hnd.2 h
            · omega
          have hfj := hfree j (hj.elim (fun h => .inl (by
            rcases List.mem_append.1 h with h | h
            · simp [h]
            · simp [h])) .inr)
          refine ⟨?_, by have := hx2.le.nxt; omega⟩
          rw [hx2.old _ hfj.2 (by omega)]
          exact hfj.1
      · -- the call itself
        subst him
        rw [hxo] at ho; cases ho
        have hleft : ∀ p ∈ rem, p < i ∧ p ∉ b.getD i [] := fun p hp => by
          obtain ⟨g1, g2⟩ := (hL.mem p).1 hp
          refine ⟨g1, fun hmm => ?_⟩
          have h5 := hready i xo hxo hpre p hmm
          rw [getD_any (by rw [hL.size]; omega) false true, g2] at h5
          cases h5
        have hpast := past rem T H (fun p hp y hy => ⟨hslots p i y x (hleft p hp).1 (hleft p hp).2 hy hx, hharm p (hleft p hp).1 (hleft p hp).2⟩) hS
        have hwp : xo.wp E.P a w (wpAny E.P .any ops Qc fuel (listed.setIfInBounds i true)) Qc := step_sound hE hcx hpast hs hf (fun a' w' hgot => by
          obtain ⟨T', H', c', g1, g2, g3, g4⟩ := hgot
          obtain ⟨Tf, Hf, ⟨r2, hind2, hseq2⟩, hre⟩ := seq_end rem T' H' g1
          -- one telling for what is left of the first part and what comes behind
          have hsame1 : ∀ j ∈ rem, r j = (fun j => if j < i then r j else r2 j) j := fun j hj => by simp only [if_pos (hleft j hj).1]
          have hsame2 : ∀ j ∈ List.range' (i + 1) (ops.size - (i + 1)), r2 j = (fun j => if j < i then r j else r2 j) j := fun j hj => by
            have : ¬ j < i := by simp at hj; omega
            simp only [if_neg this]
          have hall := seq_append (List.range' (i + 1) (ops.size - (i + 1))) rem T' H' (SeqOK.congr rem T' H' hsame1 (hre _ (SeqOK.congr _ _ _ hsame2 hseq2)))
          refine any_sound (b := b) (r := fun j => if j < i then r j else r2 j) (base := base) (c0 := c0) (w0 := w0) (K := K) hsh (fun p q xp yq hpq hpn hxp hyq => ?_) hbase hn fuel _ (listed.setIfInBounds i true) T' H' c' a' w' (by simp at hl ⊢; omega) ⟨by simp [hL.size], fun j => ?_, ?_, hclosed i xo h1 hxo hpre⟩ hall (hle.trans g2.le) (fun k hkn => ?_) (fun j hj => ?_) (hk.trans hle g2.keep) g3 g4
          · -- what may change places
            have hql : q < ops.size := by rw [← hsh.len]; exact (List.getElem?_eq_some_iff.1 hyq).1
            rcases Nat.lt_trichotomy q i with c1 | c1 | c1
            · simp only [if_pos c1, if_pos (show p < i by omega)]
              exact hind p q xp yq hpq c1 hpn hxp hyq
            · subst c1
              refine ⟨hslots p q xp yq hpq hpn hxp hyq, ?_⟩
              simp only [if_pos hpq]
              obtain ⟨e1, e2⟩ := hharm p hpq hpn
              have : keysOf (r p) = ([], []) := by simp [keysOf, e1, e2]
              rw [this]; exact (keysDisj_nil _).1
            · rcases Nat.lt_trichotomy p i with c2 | c2 | c2
              · refine ⟨hslots p q xp yq hpq hpn hxp hyq, ?_⟩
                simp only [if_pos c2, if_neg (show ¬ q < i by omega)]
                have hpi : p ∉ b.getD i [] := fun hmm => hpn (befs_trans hsh hql (hpost q c1 hql) hmm)
                obtain ⟨e1, e2⟩ := hharm p c2 hpi
                have : keysOf (r p) = ([], []) := by simp [keysOf, e1, e2]
                rw [this]; exact (keysDisj_nil _).1
              · subst c2; exact absurd (hpost q hpq hql) hpn
              · simp only [if_neg (show ¬ p < i by omega), if_neg (show ¬ q < i by omega)]
                exact hind2 p q xp yq hpq (by simp; omega) (by simp; omega) hpn hxp hyq
          · rw [hget i h1]
            have hmj := hL.mem j
            simp only [List.mem_append, List.mem_range'_1]
            by_cases e : j = i
            · subst e
              simp only [if_true, Bool.true_eq_false, and_false, iff_false]
              rintro (h | h)
              · have := (hleft j h).1; omega
              · omega
            · rw [if_neg e]
              constructor
              · rintro (h | h)
                · exact ⟨by have := (hmj.1 h).1; omega, (hmj.1 h).2⟩
                · exact ⟨by omega, hL.later j (by omega) (by omega)⟩
              · rintro ⟨g5, g6⟩
                by_cases e3 : j < i
                · exact .inl (hmj.2 ⟨e3, g6⟩)
                · exact .inr (by omega)
          · rw [List.pairwise_append]
            refine ⟨hL.sorted, List.pairwise_lt_range', fun p hp q hq => ?_⟩
            have := (hleft p hp).1
            simp at hq; omega
          · rw [g2.old k (Nat.lt_of_lt_of_le hkn hle.nxt)]
            exact hold k hkn
          · have hfj := hfree j (by
              rcases List.mem_append.1 hj with h | h
              · exact .inl h
              · right; simp at h; omega)
            refine ⟨?_, by have := g2.le.nxt; omega⟩
            rw [g2.old _ hfj.2]
            exact hfj.1)
        unfold wpOp
        simp only [hxo]
        obtain ⟨_, _, _, hg⟩ := cOper_inv hcx
        rw [if_pos (by
          rcases hg with ⟨q1, q2⟩ | ⟨j, want, d, q1, q2, q3⟩
          · simp [Region.wanted, q1]
          · rw [q3] at hgx; cases hgx)]
        exact .inl hwp
      · -- none of the later ones
        exfalso
        have h5 := hready i o ho hpre m (hpost i him h1)
        rw [getD_any (by rw [hL.size]; exact hm) false true, hL.later m (Nat.le_refl _) hm] at h5
        cases h5

end
end Go.Abs
