/- A part of the proof: W1 -/
import Derived.Test.YtbjglnknddeflaaDoorX3
set_option linter.unusedSimpArgs false
set_option linter.unusedVariables false
/- What may be forgotten or told anew of a frame and a heap between two steps: undefined words, less heap, frozen blocks, a nil slice as an empty row of one's own. -/
namespace Go.Abs

/-- What may be forgotten of a value. -/
def VLe (x y : AV) : Prop := ∀ (E : Env) (c : Corr) (v : Value), VR E c x v → VR E c y v
theorem VLe.refl (x : AV) : VLe x x := fun _ _ _ h => h
theorem VLe.of_eq {x y : AV} (h : x = y) : VLe x y := h ▸ VLe.refl x
theorem VLe.trans {x y z : AV} (h : VLe x y) (k : VLe y z) : VLe x z := fun E c v hv => k E c v (h E c v hv)
theorem vle_nil (sz : Nat) : VLe .nilsl (.ro sz []) := fun _ _ _ h => by cases h; exact .ro0 sz
theorem vle_tup {xs ys : List AV} (hl : ys.length = xs.length) (h : ∀ (j : Nat) (x y : AV), xs[j]? = some x → ys[j]? = some y → VLe x y) : VLe (.tup xs) (.tup ys) := fun E c v hv => by
  cases hv with
  | tup h1 h2 =>
    refine .tup (h1.trans hl.symm) (fun j y v hy hv => ?_)
    have : j < xs.length := by rw [← hl]; exact (List.getElem?_eq_some_iff.1 hy).1
    exact h j xs[j] y (List.getElem?_eq_getElem this) hy E c v (h2 j _ v (List.getElem?_eq_getElem this) hv)
theorem vle_agg {xs ys : List AV} (hl : ys.length = xs.length) (h : ∀ (j : Nat) (x y : AV), xs[j]? = some x → ys[j]? = some y → VLe x y) : VLe (.agg xs) (.agg ys) := fun E c v hv => by
  cases hv with
  | agg h1 h1' h2 =>
    refine .agg (h1.trans hl.symm) h1' (fun j y v hy hv => ?_)
    have : j < xs.length := by rw [← hl]; exact (List.getElem?_eq_some_iff.1 hy).1
    exact h j xs[j] y (List.getElem?_eq_getElem this) hy E c v (h2 j _ v (List.getElem?_eq_getElem this) hv)

inductive Cl (P : Tm → Heap → Prop) : Tm → Heap → Prop
  | here {T : Tm} {H : Heap} : P T H → Cl P T H
  | le {T H} (T' : Tm) (H' : Heap) : (∀ s, VLe (T s) (T' s)) → H'.Le H → Cl P T' H' → Cl P T H
  | frz {T H} (id : Nat) (es : Blk) (T' : Tm) : H id = some es → (∀ s, T' s = T s ∨ T' s = frz id es (T s)) → Cl P T' (H.set id none) → Cl P T H
  | frz2 {T H} (id : Nat) (es : Blk) (k : Nat) (b : Blk) (T' : Tm) : H id = some es → k ≠ id → H k = some b → (∀ s, T' s = T s ∨ T' s = frz id es (T s)) → Cl P T' ((H.set id none).set k (some (b.map fun cs => cs.map (frz1 id es)))) → Cl P T H
  | virt {T H} (s sz : Nat) : T s = .nilsl → (∀ new, (∀ k b, H k = some b → k < new) → Cl P (fun i => if i = s then .sl sz new 0 0 else T i) (H.set new (some []))) → Cl P T H

theorem Cl.mono {P P' : Tm → Heap → Prop} (hp : ∀ T H, P T H → P' T H) {T : Tm} {H : Heap} (h : Cl P T H) : Cl P' T H := by
  induction h with
  | here h => exact .here (hp _ _ h)
  | le T' H' h1 h2 _ ih => exact .le T' H' h1 h2 ih
  | frz id es T' h1 ht _ ih => exact .frz id es T' h1 ht ih
  | frz2 id es k b T' h1 h2 h3 ht _ ih => exact .frz2 id es k b T' h1 h2 h3 ht ih
  | virt s sz h1 _ ih => exact .virt s sz h1 ih

section
variable {E : Env}

theorem Sim.fresh {c : Corr} {H : Heap} {w : World} (h : Sim E c H w) : ∀ k b, H k = some b → k < c.nxt := fun k b hk => by
  obtain ⟨lc, hlc, _⟩ := h.loc k b hk
  rcases Nat.lt_or_ge k c.nxt with h5 | h5
  · exact h5
  · rw [h.top k h5] at hlc; cases hlc

theorem cl_sound {P : Tm → Heap → Prop} {T : Tm} {H : Heap} (h : Cl P T H) : ∀ (c : Corr) (w : World) (u : Nat → Value), Sim E c H w → (∀ s, VR E c (T s) (u s)) →
    ∃ T' H' c', P T' H' ∧ Ext c w c' w ∧ Sim E c' H' w ∧ ∀ s, VR E c' (T' s) (u s) := by
  induction h with
  | here h => exact fun c w u hs hv => ⟨_, _, c, h, .refl _ _, hs, hv⟩
  | le T' H' h1 h2 _ ih => exact fun c w u hs hv => ih c w u (hs.weaken h2) (fun s => h1 s E c _ (hv s))
  | frz id es T' h1 ht _ ih =>
    intro c w u hs hv
    obtain ⟨c', hfz⟩ := hs.freeze h1
    obtain ⟨T', H', c'', g1, g2, g3, g4⟩ := ih c' w u hfz.sim (fun s => by
      rcases ht s with e | e
      · rw [e]; exact (hv s).mono hfz.le
      · rw [e]; exact hfz.val (hv s))
    exact ⟨T', H', c'', g1, hfz.ext.trans g2, g3, g4⟩
  | frz2 id es k b T' h1 h2 h3 ht _ ih =>
    intro c w u hs hv
    obtain ⟨c', hfz⟩ := hs.freeze h1
    obtain ⟨T', H', c'', g1, g2, g3, g4⟩ := ih c' w u (Sim.retell hfz h3 hfz.sim (by rw [Heap.set_ne _ _ _ _ h2]; exact h3) hs) (fun s => by
      rcases ht s with e | e
      · rw [e]; exact (hv s).mono hfz.le
      · rw [e]; exact hfz.val (hv s))
    exact ⟨T', H', c'', g1, hfz.ext.trans g2, g3, g4⟩
  | virt s sz h1 _ ih =>
    rename_i T H _
    intro c w u hs hv
    have hnew : c.ρ c.nxt = none := hs.top _ (Nat.le_refl _)
    obtain ⟨k1, k2⟩ := hs.virt c.nxt sz hnew
    have hx : Ext c w (c.add c.nxt ⟨none, sz⟩) w := ⟨k2.le, fun k hk => k2.old k hk (Nat.ne_of_lt hk), k2.keep⟩
    obtain ⟨T', H', c'', g1, g2, g3, g4⟩ := ih c.nxt hs.fresh _ w u k1 (fun i => by
      by_cases e : i = s
      · subst e
        have := hv i
        rw [h1] at this
        simp only [if_true]
        generalize u i = x at this
        cases this
        exact .slv (Corr.add_same _ _ _)
      · simp only [if_neg e]; exact (hv i).mono k2.le)
    exact ⟨T', H', c'', g1, hx.trans g2, g3, g4⟩

theorem Frm.of_rel {n : Nat} {c c' : Corr} {T T' : Tm} {a : Act} (h : Frm E n c T a) (hv : ∀ s, VR E c' (T' s) (a.tmps.getD s Go.undef)) : Frm E n c' T' a := ⟨hv, h.size, h.defers⟩

theorem awp_cl {ac : ACode} {Q : AEx → Tm → Heap → Prop} {T : Tm} {H : Heap} (h : Cl (AWP E ac Q) T H) : AWP E ac Q T H := by
  intro n code hc c a w hs hf
  obtain ⟨T', H', c', h1, h2, h3, h4⟩ := cl_sound h c w _ hs hf.rel
  exact wp_mono (h1 n code hc c' a w h3 (hf.of_rel h4)) (fun e a' w' hl => Lift.from h2 hl)

/-- Values in a row. -/
def vl (l : List AV) : Tm := fun i => l.getD i .undef
theorem vl0 (a : AV) (l : List AV) : vl (a :: l) 0 = a := rfl
theorem vl_cons (a : AV) (l : List AV) (i : Nat) : vl (a :: l) (i + 1) = vl l i := rfl

/-- A frame of just these slots. -/
def Tm.frame : List Nat → Nat → Tm → Tm
  | [], _, _ => fun _ => .undef
  | s0 :: r, i, V => fun s => if s = s0 then V i else Tm.frame r (i + 1) V s

theorem frame_cases (V : Tm) : ∀ (ss : List Nat) (i s : Nat), Tm.frame ss i V s = .undef ∨ ∃ j, ss[j]? = some s ∧ Tm.frame ss i V s = V (i + j)
  | [], i, s => .inl rfl
  | s0 :: r, i, s => by
    simp only [Tm.frame]
    split
    · rename_i e; exact .inr ⟨0, by simp [e], rfl⟩
    · rcases frame_cases V r (i + 1) s with h | ⟨j, h1, h2⟩
      · exact .inl h
      · exact .inr ⟨j + 1, by simpa using h1, by rw [h2]; congr 1; omega⟩

/-- At a mark: the slots alive, in any telling of them. -/
def atW (P : Tm → Heap → Prop) (l : List AV) (H : Heap) : Prop := Cl P (vl l) H

theorem at_sound {ac : ACode} {Q : AEx → Tm → Heap → Prop} {ss : List Nat} {P : Tm → Heap → Prop} (hp : ∀ V H, P V H → AWP E ac Q (Tm.frame ss 0 V) H) {T : Tm} {H : Heap} (h : atW P (ss.map T) H) : AWP E ac Q T H := by
  intro n code hc c a w hs hf
  obtain ⟨V, H', c', h1, h2, h3, h4⟩ := cl_sound h c w (fun i => a.tmps.getD (ss.getD i 0) Go.undef) hs (fun i => by
    unfold vl
    rw [List.getD_eq_getElem?_getD, List.getElem?_map]
    cases hi : ss[i]? with
    | none => exact .undef _
    | some s => simp only [Option.map_some, Option.getD_some]; rw [List.getD_eq_getElem?_getD, hi]; exact hf.rel s)
  refine wp_mono (hp V H' h1 n code hc c' a w h3 (hf.of_rel fun s => ?_)) (fun e a' w' hl => Lift.from h2 hl)
  rcases frame_cases V ss 0 s with e | ⟨j, e1, e2⟩
  · rw [e]; exact .undef _
  · rw [e2]
    have := h4 (0 + j)
    rw [show (ss.getD (0 + j) 0) = s by rw [Nat.zero_add, List.getD_eq_getElem?_getD, e1]; rfl] at this
    exact this

theorem acall_cl {f : Nat} {args : List AV} {H : Heap} {R : AV → Heap → Prop} (h : ACall E f args H (fun v H' => Cl (fun V H' => R (V 0) H') (fun _ => v) H')) : ACall E f args H R := by
  intro g hg c cargs w hs hargs
  refine (h g hg c cargs w hs hargs).mono (fun e w' hp => ?_)
  cases e with
  | returned v =>
    obtain ⟨x, H', c', h1, h2, h3, h4⟩ := hp
    obtain ⟨V, H'', c'', g1, g2, g3, g4⟩ := cl_sound h1 c' w' (fun _ => v) h3 (fun _ => h4)
    exact ⟨V 0, H'', c'', g1, h2.trans g2, g3, g4 0⟩
  | panicked ch => exact hp
  | outgrown => exact hp

/-! ### Operations in the text's order, with such a telling at each -/

def FRun (E : Env) (N : Tm → Heap → Prop) : List AOper → Tm → Heap → Prop
  | [] => Cl N
  | o :: os => Cl fun T H => match o.guard with
    | none => AStep E o (FRun E N os) T H
    | some (g, want) => (T g = .tup [] ∧ FRun E N os (T.puto o.dst (.tup [])) H) ∨
        ∃ b, T g = .bool b ∧ (b = want → AStep E o (FRun E N os) T H) ∧ (b = !want → FRun E N os (T.puto o.dst (.tup [])) H)

theorem frun_sound (hE : E.Good) {n : Nat} {ops : Array Oper} {c0 : Corr} {w0 : World} {N : Tm → Heap → Prop} {Qc : Exit → Act → World → Prop} (hn : ∀ a' w', Got E n c0 w0 N a' w' → Qc .normal a' w') :
    ∀ (os : List Oper) (k : Nat) (l : List AOper), (∀ j, os[j]? = ops[k + j]?) → cOpers E n ops os = some l → ∀ (T : Tm) (H : Heap) (c : Corr) (a : Act) (w : World), FRun E N l T H → Ext c0 w0 c w → Sim E c H w → Frm E n c T a →
      wpOps E.P ops Qc (List.range' k os.length) a w
  | [], k, l, _, hc, T, H, c, a, w, h, he, hs, hf => by
    simp only [cOpers, Option.some.injEq] at hc
    subst hc
    obtain ⟨T', H', c', h1, h2, h3, h4⟩ := cl_sound h c w _ hs hf.rel
    exact hn a w ⟨T', H', c', h1, he.trans h2, h3, hf.of_rel h4⟩
  | o :: os, k, l, ho, hc, T0, H0, cc, a, w, h0, he0, hs0, hf0 => by
    simp only [cOpers] at hc
    split at hc
    case h_2 => simp at hc
    rename_i x xs hx hxs
    simp only [Option.some.injEq] at hc
    subst hc
    obtain ⟨T, H, c, h, hx2, hs, h4⟩ := cl_sound h0 cc w _ hs0 hf0.rel
    have he := he0.trans hx2
    have hf := hf0.of_rel h4
    have hok : ops[k]? = some o := by have := ho 0; simpa using this.symm
    obtain ⟨hop, hdst, hd, hg⟩ := cOper_inv hx
    have rest : ∀ {T' : Tm} {H' : Heap} {c' : Corr} {a' : Act} {w' : World}, FRun E N xs T' H' → Ext c0 w0 c' w' → Sim E c' H' w' → Frm E n c' T' a' → wpOps E.P ops Qc (List.range' (k + 1) os.length) a' w' :=
      fun {T' H' c' a' w'} h1 h2 h3 h4 => frun_sound hE hn os (k + 1) xs (fun j => by rw [← List.getElem?_cons_succ (a := o), ho (j + 1)]; congr 1; omega) hxs T' H' c' a' w' h1 h2 h3 h4
    have stepd : AStep E x (FRun E N xs) T H → o.wp E.P a w (wpOps E.P ops Qc (List.range' (k + 1) os.length)) Qc := fun hA =>
      step_sound hE hx hA hs hf (fun a' w' hgot => by
        obtain ⟨T', H', c', h1, h2, h3, h4⟩ := hgot
        exact rest h1 (he.trans h2) h3 h4)
    have skipd : FRun E N xs (T.puto x.dst (.tup [])) H → wpOps E.P ops Qc (List.range' (k + 1) os.length) (a.put o.dst Go.undef) w := fun hA =>
      rest hA he hs (by rw [hdst]; exact skip_put hf hd)
    simp only [List.length_cons, List.range'_succ, wpOps, hok]
    rcases hg with ⟨g1, g2⟩ | ⟨j, want, d, g1, g2, g3⟩
    · rw [g2] at h
      simp only at h
      rw [if_pos (by simp [Region.wanted, g1])]
      exact .inl (stepd h)
    · rw [g3] at h
      simp only at h
      rcases h with ⟨h1, h2⟩ | ⟨b, h1, h2, h3⟩
      · have hy := yielded_none hf g2 h1
        rw [if_neg (by simp [Region.wanted, g1, hy])]
        exact skipd h2
      · have hy := yielded_bool hf g2 h1
        by_cases hb : b = want
        · rw [if_pos (by simp [Region.wanted, g1, hy, hb])]
          exact .inl (stepd (h2 hb))
        · rw [if_neg (by simp [Region.wanted, g1, hy, hb])]
          exact skipd (h3 (by cases b <;> cases want <;> simp_all))

theorem awp_fops (hE : E.Good) {l : List AOper} {Q : AEx → Tm → Heap → Prop} {T : Tm} {H : Heap} (h : FRun E (Q .normal) l T H) : AWP E (.ops l) Q T H := by
  intro n code hc c a w hs hf
  obtain ⟨id, ops, rfl, hl⟩ := compC_inv hc
  refine Go.wp_region ?_
  have := frun_sound hE (Qc := Lift E n c w Q) (c0 := c) (w0 := w) (fun a' w' h => h) ops.toList 0 l (fun j => by simp) hl T H c a w h (.refl _ _) hs hf
  rw [List.range_eq_range']
  simpa using this

theorem frun_cl {N : Tm → Heap → Prop} {l : List AOper} {T : Tm} {H : Heap} (h : Cl (FRun E N l) T H) : FRun E N l T H := by
  have join : ∀ {P : Tm → Heap → Prop} {T H}, Cl (Cl P) T H → Cl P T H := fun {P T H} h => by
    induction h with
    | here h => exact h
    | le T' H' h1 h2 _ ih => exact .le T' H' h1 h2 ih
    | frz id es T' h1 ht _ ih => exact .frz id es T' h1 ht ih
    | frz2 id es k b T' h1 h2 h3 ht _ ih => exact .frz2 id es k b T' h1 h2 h3 ht ih
    | virt s sz h1 _ ih => exact .virt s sz h1 ih
  cases l with
  | nil => exact join h
  | cons o os => exact join h

theorem frun_append {N : Tm → Heap → Prop} (l2 : List AOper) : ∀ {l1 : List AOper} {T : Tm} {H : Heap}, ARun E (FRun E N l2) l1 T H → FRun E N (l1 ++ l2) T H
  | [], T, H, h => h
  | o :: os, T, H, h => by
    refine .here ?_
    simp only [ARun] at h
    split
    · rename_i hg
      rw [hg] at h
      exact astep_mono h fun v H' hr => frun_append l2 hr
    · rename_i g w hg
      rw [hg] at h
      rcases h with ⟨h1, h2⟩ | ⟨b, h1, h2, h3⟩
      · exact .inl ⟨h1, frun_append l2 h2⟩
      · exact .inr ⟨b, h1, fun e => astep_mono (h2 e) fun v H' hr => frun_append l2 hr, fun e => frun_append l2 (h3 e)⟩

end
end Go.Abs
