/- A part of the proof: W7 -/
import Derived.Test.YtbjglnknddeflaaDoorX7
set_option linter.unusedSimpArgs false
set_option linter.unusedVariables false
/- Regions that draw their order around one call whose outcome is not told beforehand: the rule. -/
namespace Go.Abs

section
variable {E : Env} {Q : AEx → Tm → Heap → Prop} {T : Tm} {H : Heap}

def DRunF (E : Env) (base : Nat) (F : List (List Nat × List Nat) → Prop) (K : Tm → Heap → Prop) : List AOper → List (List Nat × List Nat) → Tm → Heap → Prop
  | [], acc, T, H => F acc ∧ K T H
  | o :: os, acc, T, H => match o.guard with
    | none => DStep E (base + acc.length) o (fun v need give => DRunF E base F K os (acc ++ [(need.map (·.1), give.map (·.1))]) (T.puto o.dst v) (H.app give)) T H
    | some (g, want) => (T g = .tup [] ∧ DRunF E base F K os (acc ++ [([], [])]) (T.puto o.dst (.tup [])) H) ∨
        ∃ b, T g = .bool b ∧ (b = want → DStep E (base + acc.length) o (fun v need give => DRunF E base F K os (acc ++ [(need.map (·.1), give.map (·.1))]) (T.puto o.dst v) (H.app give)) T H) ∧
          (b = !want → DRunF E base F K os (acc ++ [([], [])]) (T.puto o.dst (.tup [])) H)

structure DataF (E : Env) (n : Nat) (ops : Array Oper) (base : Nat) (l : List AOper) (F : List (List Nat × List Nat) → Prop) (K : Tm → Heap → Prop) (acc : List (List Nat × List Nat)) (i m : Nat) (T : Tm) (H : Heap) (r : Nat → Eff) (acc' : List (List Nat × List Nat)) : Prop where
  seq : SeqOK E n ops base l r K (List.range' i m) T H
  len : acc'.length = i + m
  pre : ∀ j, j < i → acc'[j]? = acc[j]?
  keys : ∀ j, i ≤ j → j < i + m → acc'[j]? = some (keysOf (r j))
  dis : F acc'
  mem : ∀ j, i ≤ j → j < i + m → ∀ x, l[j]? = some x → (x.op.mem = 0 → (r j).2.1 = [] ∧ (r j).2.2 = []) ∧ (x.op.mem = 1 → (r j).2.2 = [])

theorem drunF_data (hE : E.Good) {n : Nat} {ops : Array Oper} {base : Nat} {l : List AOper} {F : List (List Nat × List Nat) → Prop} {K : Tm → Heap → Prop} : ∀ (os : List Oper) (xs : List AOper) (i : Nat) (acc : List (List Nat × List Nat)) (T : Tm) (H : Heap),
    (∀ j, j < os.length → os[j]? = ops[i + j]?) → (∀ j, j < xs.length → xs[j]? = l[i + j]?) → cOpers E n ops os = some xs → acc.length = i → DRunF E base F K xs acc T H → ∃ r acc', DataF E n ops base l F K acc i os.length T H r acc'
  | [], xs, i, acc, T, H, ho, hx, hc, hl, h => by
    simp only [cOpers, Option.some.injEq] at hc
    subst hc
    obtain ⟨h1, h2⟩ := h
    exact ⟨fun _ => (.undef, [], []), acc, h2, by simp [hl], fun _ _ => rfl, fun j h3 h4 => by simp at h4; omega, h1, fun j h3 h4 => by simp at h4; omega⟩
  | o :: os, xs, i, acc, T, H, ho, hx, hc, hl, h => by
    simp only [cOpers] at hc
    split at hc
    case h_2 => simp at hc
    rename_i x xs' hcx hcxs
    simp only [Option.some.injEq] at hc
    subst hc
    have hoi : ops[i]? = some o := by have := ho 0 (by simp); simpa using this.symm
    have hxi : l[i]? = some x := by have := hx 0 (by simp); simpa using this.symm
    -- one step more
    have step : ∀ (rr : Eff), RImpl E n ops base i x T rr → (∀ p ∈ rr.2.1, H p.1 = some p.2) → ((x.op.mem = 0 → rr.2.1 = [] ∧ rr.2.2 = []) ∧ (x.op.mem = 1 → rr.2.2 = [])) →
        DRunF E base F K xs' (acc ++ [keysOf rr]) (T.puto x.dst rr.1) (H.app rr.2.2) → ∃ r acc', DataF E n ops base l F K acc i (os.length + 1) T H r acc' := by
      intro rr h1 h2 h3 h4
      obtain ⟨r, acc', hd⟩ := drunF_data hE os xs' (i + 1) (acc ++ [keysOf rr]) _ _ (fun j hj => by rw [← List.getElem?_cons_succ (a := o), ho (j + 1) (by simp; omega)]; congr 1; omega) (fun j hj => by rw [← List.getElem?_cons_succ (a := x), hx (j + 1) (by simp; omega)]; congr 1; omega) hcxs (by simp [hl]) h4
      have hr' : ∀ j, j ≠ i → (fun j => if j = i then rr else r j) j = r j := fun j hj => by simp [hj]
      refine ⟨fun j => if j = i then rr else r j, acc', ?_, by have := hd.len; omega, fun j hj => ?_, fun j hj1 hj2 => ?_, hd.dis, fun j hj1 hj2 y hy => ?_⟩
      · rw [List.range'_succ]
        refine ⟨x, hxi, by simpa using h1, by simpa using h2, ?_⟩
        have hseq := hd.seq
        simp only [if_true]
        exact SeqOK.congr _ _ _ (fun j hj => (hr' j (by simp at hj; omega)).symm) hseq
      · rw [hd.pre j (by omega), List.getElem?_append, if_pos (by omega)]
      · by_cases e : j = i
        · subst e
          rw [hd.pre j (by omega), List.getElem?_append, if_neg (by omega)]
          simp [hl]
        · rw [if_neg e]; exact hd.keys j (by omega) (by omega)
      · by_cases e : j = i
        · subst e
          rw [hxi] at hy; cases hy
          simpa using h3
        · simp only [if_neg e]; exact hd.mem j (by omega) (by omega) y hy
    have dstep : ∀ {N : AV → List (Nat × Blk) → List (Nat × Option Blk) → Prop}, Wants ops n E x o T → DStep E (base + acc.length) x N T H → (∀ v need give, N v need give → DRunF E base F K xs' (acc ++ [(need.map (·.1), give.map (·.1))]) (T.puto x.dst v) (H.app give)) →
        ∃ r acc', DataF E n ops base l F K acc i (os.length + 1) T H r acc' := by
      intro N hw hD hN
      rw [hl] at hD
      unfold DStep at hD
      split at hD
      · rename_i f args hop
        obtain ⟨g, caps, v, need, give, h1, h2, h3, h4⟩ := hD
        exact step (v, need, give) (rimpl_call hE hoi hcx hw hop h1 h2) h3 (by rw [hop]; simp [AOp.mem]) (hN v need give h4)
      · rename_i op hop
        obtain ⟨v, need, give, h1, h2⟩ := hD
        refine step (v, need, give) (rimpl_op hE hoi hcx hw h1) ?_ (aop_mem h1) (hN v need give h2)
        exact aop_need h1
    have dskip : (∀ (c : Corr) (a : Act) (T' : Tm), Frm E n c T' a → (∀ s ∈ x.reads, T' s = T s) → Region.wanted o (yielded ops a.tmps) = false) → DRunF E base F K xs' (acc ++ [([], [])]) (T.puto x.dst (.tup [])) H →
        ∃ r acc', DataF E n ops base l F K acc i (os.length + 1) T H r acc' :=
      fun hw hD => step (.tup [], [], []) (rimpl_skip hoi hcx hw) (by simp) (by simp) hD
    simp only [DRunF] at h
    rw [List.length_cons]
    split at h
    · rename_i hg
      exact dstep (wanted_none hcx hg) h (fun v need give h => h)
    · rename_i g want hg
      rcases h with ⟨h1, h2⟩ | ⟨b, h1, h2, h3⟩
      · exact dskip (unwanted hcx hg (.inl h1)) h2
      · by_cases hb : b = want
        · subst hb
          exact dstep (wanted_some hcx hg h1) (h2 rfl) (fun v need give h => h)
        · have hb' : b = !want := by cases b <;> cases want <;> simp_all
          exact dskip (unwanted hcx hg (.inr (by rw [h1, hb']))) (h3 hb')


/-- The pairs of one side. -/
def pairsLo (m : Nat) (ps : List (Nat × Nat)) : List (Nat × Nat) := ps.filter fun p => Nat.blt p.1 m && Nat.blt p.2 m
def pairsHi (m : Nat) (ps : List (Nat × Nat)) : List (Nat × Nat) := ps.filter fun p => Nat.blt m p.1 && Nat.blt m p.2
/-- None unordered across the call. -/
def barChk (m : Nat) (ps : List (Nat × Nat)) : Bool := ps.all fun p => (Nat.blt p.1 m && Nat.blt p.2 m) || (Nat.blt m p.1 && Nat.blt m p.2) || (Nat.blt p.1 m && Nat.beq p.2 m)
def harm (m : Nat) (acc : List (List Nat × List Nat)) : List (Nat × Nat) → Prop
  | [] => True
  | (i, j) :: ps => match Nat.beq j m with
    | true => (match acc[i]? with
      | some p => p.1 = [] ∧ p.2 = []
      | none => False) ∧ harm m acc ps
    | false => harm m acc ps
def FA (m : Nat) (ps : List (Nat × Nat)) (acc : List (List Nat × List Nat)) : Prop := disj acc (pairsLo m ps) ∧ harm m acc ps

theorem harm_mem {m : Nat} {acc : List (List Nat × List Nat)} : ∀ {ps : List (Nat × Nat)}, harm m acc ps → ∀ i, (i, m) ∈ ps → acc[i]? = some ([], [])
  | [], _, i, hi => by simp at hi
  | (p, j) :: ps, h, i, hi => by
    simp only [harm] at h
    rcases List.mem_cons.1 hi with e | e
    · cases e
      rw [show Nat.beq m m = true from Nat.beq_refl m] at h
      obtain ⟨h1, -⟩ := h
      split at h1
      · rename_i p hp
        rw [hp]
        obtain ⟨a, b⟩ := p
        obtain ⟨rfl, rfl⟩ := h1
        rfl
      · exact h1.elim
    · split at h
      · exact harm_mem h.2 i e
      · exact harm_mem h i e

theorem cOpers_append {n : Nat} {ops : Array Oper} : ∀ {a b : List Oper} {l : List AOper}, cOpers E n ops (a ++ b) = some l → cOpers E n ops a = some (l.take a.length) ∧ cOpers E n ops b = some (l.drop a.length)
  | [], b, l, h => by simpa [cOpers] using h
  | o :: a, b, l, h => by
    simp only [List.cons_append, cOpers] at h
    split at h
    case h_2 => simp at h
    rename_i x xs hx hxs
    simp only [Option.some.injEq] at h
    subst h
    obtain ⟨h1, h2⟩ := cOpers_append hxs
    simp only [cOpers, hx, h1, List.length_cons, List.take_succ_cons, List.drop_succ_cons, h2, and_self]

theorem awp_drawb (hE : E.Good) {l : List AOper} {ps : List (Nat × Nat)} {m : Nat} {x : AOper} (hx : l[m]? = some x) (hgx : x.guard = none) (hcall : x.op.isCall = true) (hchk : barChk m ps = true)
    (h : ∀ base, (∀ k b, H k = some b → k < base) → DRunF E base (FA m ps) (AStep E x (DRunF E base (fun acc => disj acc (pairsHi m ps)) (Q .normal) (l.drop (m + 1)) (List.replicate (m + 1) ([], [])))) (l.take m) [] T H) : AWP E (.draw l ps) Q T H := by
  intro n code hc c a w hs hf
  obtain ⟨id, ops, rfl, hd⟩ := compC_inv hc
  unfold cDraw at hd
  split at hd
  case h_2 => simp at hd
  rename_i l' hl
  split at hd
  case isFalse => simp at hd
  rename_i hok
  simp only [Option.some.injEq, ACode.draw.injEq] at hd
  obtain ⟨rfl, rfl⟩ := hd
  rw [Bool.and_eq_true] at hok
  obtain ⟨hslots, hedges⟩ := hok
  have hlen : l'.length = ops.size := by rw [cOpers_len hl]; simp
  have hml : m < l'.length := (List.getElem?_eq_some_iff.1 hx).1
  have hm : m < ops.size := by omega
  have hedge : ∀ (i : Nat) (o : Oper), ops[i]? = some o → ∀ e ∈ o.after.toList, Region.binds .any e = true → e.on < i := by
    intro i o ho e he hb
    have hi : i < ops.size := (Array.getElem?_eq_some_iff.1 ho).1
    have h1 := List.all_eq_true.1 hedges i (by simp [hi])
    have ho' : ops.toList[i]? = some o := by simpa using ho
    rw [ho'] at h1
    have h2 := List.all_eq_true.1 h1 e he
    rw [hb] at h2
    simpa using h2
  have hshape : Shape ops l' (befs ops.toList []) := ⟨hlen, fun i o ho => by
    have := befs_get ops.toList [] i o (by simpa using ho) (fun j q hq e he hb => by simpa using hedge j q (by simpa using hq) e he hb)
    simpa using this, hedge⟩
  have hs1 : Sim E { c with nxt := c.nxt + ops.size } H { w with drawn := w.drawn + 1 } := by
    have h0 := hs.drew (w.drawn + 1)
    have hle0 : c.Le { c with nxt := c.nxt + ops.size } := ⟨fun _ _ h => h, fun _ _ _ h => h, fun _ h => h, by simp⟩
    have up : ∀ {x : AV} {v : Value}, VR E c x v → VR E { c with nxt := c.nxt + ops.size } x v := fun h => h.mono hle0
    exact ⟨h0.mem, h0.lt, fun k hk => h0.top k (by simp at hk; omega), h0.loc, fun id es b nc sz h1 h2 => by
      obtain ⟨k1, cells, t, k2, k3, k4⟩ := h0.live id es b nc sz h1 h2
      exact ⟨k1, cells, t, k2, k3, fun i cs j x hi hj => by
        obtain ⟨v, g1, g2, g3⟩ := k4 i cs j x hi hj
        exact ⟨v, g1, up g2, g3⟩⟩, h0.inj, fun g av hg => up (h0.glob g av hg)⟩
  have hle1 : c.Le { c with nxt := c.nxt + ops.size } := ⟨fun _ _ h => h, fun _ _ _ h => h, fun _ h => h, by simp⟩
  have hD := h c.nxt (fun k b hk => by
    obtain ⟨lc, hlc, _⟩ := hs.loc k b hk
    rcases Nat.lt_or_ge k c.nxt with h5 | h5
    · exact h5
    · rw [hs.top k h5] at hlc; cases hlc)
  -- the parts
  have hsplit : ops.toList = ops.toList.take m ++ (ops[m] :: ops.toList.drop (m + 1)) := by
    have e : ops[m] = ops.toList[m]'(by simpa using hm) := by simp
    rw [e, ← List.drop_eq_getElem_cons (by simpa using hm) (l := ops.toList)]; simp
  have hcs := hl
  rw [hsplit] at hcs
  obtain ⟨hcA, hcB0⟩ := cOpers_append hcs
  have hlenA : (ops.toList.take m).length = m := by simp; omega
  rw [hlenA] at hcA hcB0
  have hcB : cOper E n ops ops[m] = some x ∧ cOpers E n ops (ops.toList.drop (m + 1)) = some (l'.drop (m + 1)) := by
    simp only [cOpers] at hcB0
    split at hcB0
    case h_2 => simp at hcB0
    rename_i y ys hy hys
    simp only [Option.some.injEq] at hcB0
    rw [List.drop_eq_getElem_cons hml] at hcB0
    obtain ⟨rfl, rfl⟩ := List.cons.inj hcB0
    rw [List.getElem?_eq_getElem hml] at hx
    cases hx
    exact ⟨hy, hys⟩
  obtain ⟨r, acc', hdata⟩ := drunF_data (ops := ops) (l := l') hE (ops.toList.take m) (l'.take m) 0 [] T H (fun j hj => by rw [List.getElem?_take, if_pos (by simp at hj; omega)]; simp) (fun j hj => by rw [List.getElem?_take, if_pos (by simp at hj; omega)]; simp) hcA rfl hD
  rw [hlenA] at hdata
  have hsl : ∀ (p i : Nat) (x y : AOper), p < i → p ∉ (befs ops.toList []).getD i [] → l'[p]? = some x → l'[i]? = some y → slotsApart x y = true := by
    intro p i x y hpi hpn hx hy
    have hil : i < l'.length := (List.getElem?_eq_some_iff.1 hy).1
    have h1 := List.all_eq_true.1 (List.all_eq_true.1 hslots i (by simp [hil])) p (by simp [hpi])
    rw [hx, hy] at h1
    simp only [Bool.or_eq_true] at h1
    rcases h1 with h1 | h1
    · exact absurd (by simpa using h1) hpn
    · exact h1
  have hpair : ∀ (p i : Nat) (x y : AOper), p < i → p ∉ (befs ops.toList []).getD i [] → l'[p]? = some x → l'[i]? = some y → memConf x y = true → (p, i) ∈ pairsOf l' (befs ops.toList []) := by
    intro p i x y hpi hpn hx hy hmc
    have hil : i < l'.length := (List.getElem?_eq_some_iff.1 hy).1
    unfold pairsOf
    refine List.mem_flatMap.2 ⟨i, by simp [hil], List.mem_map.2 ⟨p, List.mem_filter.2 ⟨by simp [hpi], ?_⟩, rfl⟩⟩
    rw [hx, hy]
    simp only [hmc, Bool.and_true, Bool.not_eq_true']
    simpa using hpn
  -- what may change places
  have core : ∀ {F : List (List Nat × List Nat) → Prop} {K : Tm → Heap → Prop} {acc acc' : List (List Nat × List Nat)} {lo len : Nat} {T : Tm} {H : Heap} {r : Nat → Eff} {qs : List (Nat × Nat)}, DataF E n ops c.nxt l' F K acc lo len T H r acc' → disj acc' qs →
      (∀ p i, lo ≤ p → p < i → i < lo + len → (p, i) ∈ pairsOf l' (befs ops.toList []) → (p, i) ∈ qs) →
      ∀ (p i : Nat) (x y : AOper), lo ≤ p → p < i → i < lo + len → p ∉ (befs ops.toList []).getD i [] → l'[p]? = some x → l'[i]? = some y → Indep x y (r p) (r i) := by
    intro F K acc acc' lo len T H r qs hdata hdis hin p i x y hlo hpi hhi hpn hx hy
    refine ⟨hsl p i x y hpi hpn hx hy, ?_⟩
    by_cases hmc : memConf x y = true
    · exact disj_mem hdis (p, i) (hin p i hlo hpi hhi (hpair p i x y hpi hpn hx hy hmc)) _ _ (hdata.keys p (by omega) (by omega)) (hdata.keys i (by omega) (by omega))
    · have hmx := hdata.mem p (by omega) (by omega) x hx
      have hmy := hdata.mem i (by omega) (by omega) y hy
      have hm2 : ¬ ((x.op.mem != 0 && y.op.mem != 0 && !(x.op.mem == 1 && y.op.mem == 1)) = true) := fun e => hmc (by simp only [memConf, e, Bool.or_true])
      have hcase : x.op.mem = 0 ∨ y.op.mem = 0 ∨ (x.op.mem = 1 ∧ y.op.mem = 1) := by
        simp only [Bool.and_eq_true, bne_iff_ne, ne_eq, Bool.not_eq_true', Bool.and_eq_false_iff, beq_eq_false_iff_ne] at hm2
        by_cases h1 : x.op.mem = 0
        · exact .inl h1
        · by_cases h2 : y.op.mem = 0
          · exact .inr (.inl h2)
          · refine .inr (.inr ?_)
            by_cases h3 : x.op.mem = 1
            · by_cases h4 : y.op.mem = 1
              · exact ⟨h3, h4⟩
              · exact absurd ⟨⟨h1, h2⟩, .inr h4⟩ hm2
            · exact absurd ⟨⟨h1, h2⟩, .inl h3⟩ hm2
      rcases hcase with h0 | h0 | ⟨h0, h1⟩
      · obtain ⟨e1, e2⟩ := hmx.1 h0
        have : keysOf (r p) = ([], []) := by simp [keysOf, e1, e2]
        rw [this]; exact (keysDisj_nil _).1
      · obtain ⟨e1, e2⟩ := hmy.1 h0
        have : keysOf (r i) = ([], []) := by simp [keysOf, e1, e2]
        rw [this]; exact (keysDisj_nil _).2
      · have e1 := hmx.2 h0
        have e2 := hmy.2 h1
        exact ⟨by simp [keysOf, e1], by simp [keysOf, e2]⟩
  have hchk' := List.all_eq_true.1 hchk
  have blt : ∀ {a b : Nat}, Nat.blt a b = true → a < b := fun h => Nat.lt_of_succ_le (Nat.le_of_ble_eq_true h)
  have ltb : ∀ {a b : Nat}, a < b → Nat.blt a b = true := fun h => Nat.ble_eq_true_of_le h
  have hcm : ∀ y : AOper, memConf x y = true ∧ memConf y x = true := fun y => by simp [memConf, hcall]
  refine wp_region_any hE.mixed ?_
  refine barrier_sound hE (b := befs ops.toList []) (r := r) (base := c.nxt) (m := m) (c0 := c) (w0 := w) (K := Q .normal) hshape hm (show ops[m]? = some ops[m] by simp [hm]) hx hcB.1 hgx
    (fun p i x y hpi him hpn hx hy => core hdata hdata.dis.1 (fun p i _ hpi him hmem => by
      unfold pairsLo
      exact List.mem_filter.2 ⟨hmem, by rw [Bool.and_eq_true]; exact ⟨ltb (by omega), ltb (by omega)⟩⟩) p i x y (by omega) hpi (by omega) hpn hx hy)
    hsl (fun p hpm hpn => ?_) (fun i hmi hi => ?_) rfl (fun T' H' c' a' w' hK hle hold hk hs' hf' => ⟨T', H', c', hK, ⟨hle, hold, hk⟩, hs', hf'⟩) ops.size (List.range' 0 m) (Array.replicate ops.size false) T H { c with nxt := c.nxt + ops.size } a _ (by simp; omega) ?_ ?_ hle1 (fun _ _ => rfl) (fun i hi => ?_) (Keep.drew c w _) hs1 (hf.mono hle1)
  · have hpl : p < l'.length := by omega
    have hk := hdata.keys p (by omega) (by omega)
    have hh := harm_mem hdata.dis.2 p (hpair p m l'[p] x hpm hpn (List.getElem?_eq_getElem hpl) hx (hcm _).2)
    rw [hh] at hk
    simp only [keysOf, Option.some.injEq, Prod.mk.injEq] at hk
    exact ⟨List.map_eq_nil_iff.1 hk.1.symm, List.map_eq_nil_iff.1 hk.2.symm⟩
  · by_cases hb : m ∈ (befs ops.toList []).getD i []
    · exact hb
    · exfalso
      have hil : i < l'.length := by omega
      have hmem := hpair m i x l'[i] hmi hb hx (List.getElem?_eq_getElem hil) (hcm _).1
      have := hchk' _ hmem
      simp only [Bool.or_eq_true, Bool.and_eq_true] at this
      rcases this with (⟨h1, _⟩ | ⟨h1, _⟩) | ⟨h1, _⟩
      · have := blt h1; omega
      · have := blt h1; omega
      · have := blt h1; omega
  · refine ⟨by simp, fun i => ?_, fun i hi1 hi2 => ?_, List.pairwise_lt_range', fun i hi hli => ?_⟩
    · simp only [Array.getD_eq_getD_getElem?, Array.getElem?_replicate, List.mem_range'_1]
      constructor
      · intro h1
        exact ⟨by omega, by rw [if_pos (by omega)]; rfl⟩
      · intro h1
        exact ⟨Nat.zero_le _, by omega⟩
    · simp [Array.getD_eq_getD_getElem?, Array.getElem?_replicate, hi2]
    · simp only [Array.getD_eq_getD_getElem?, Array.getElem?_replicate, if_pos hi] at hli
      simp at hli
  · refine (fun hseq => ?_) hdata.seq
    obtain ⟨Tf, Hf, g1, g2⟩ := seq_end _ _ _ hseq
    refine g2 _ (AStep.congr g1 (fun _ _ => rfl) (fun v H' hh => ?_))
    have hlB : (ops.toList.drop (m + 1)).length = ops.size - (m + 1) := by simp
    obtain ⟨r2, acc2, hdata2⟩ := drunF_data (ops := ops) (l := l') hE (ops.toList.drop (m + 1)) (l'.drop (m + 1)) (m + 1) (List.replicate (m + 1) ([], [])) _ _ (fun j hj => by rw [List.getElem?_drop]; simp) (fun j hj => by rw [List.getElem?_drop]) hcB.2 (by simp) hh
    rw [hlB] at hdata2
    refine ⟨r2, fun p i x y hpi hp hi hpn hx hy => ?_, hdata2.seq⟩
    simp only [List.mem_range'_1] at hp hi
    exact core hdata2 hdata2.dis (fun p i hlo hpi hhi hmem => by
      unfold pairsHi
      exact List.mem_filter.2 ⟨hmem, by rw [Bool.and_eq_true]; exact ⟨ltb (by omega), ltb (by omega)⟩⟩) p i x y hp.1 hpi hi.2 hpn hx hy
  · have hi' : i < ops.size := by
      rcases hi with h | h
      · simp at h; omega
      · exact h.2
    exact ⟨hs.top _ (by omega), by simp; omega⟩

end
end Go.Abs
