/- A part of the proof: W3 -/
import Derived.Test.YtbjglnknddeflaaDoorX8
set_option linter.unusedSimpArgs false
set_option linter.unusedVariables false
/- Abstract code as propositions: whole functions. -/
namespace Go.Abs

/-! ### Regions that draw their order -/
def dW (op : AOp) (new : Nat) (H : Heap) (k : AV → List Nat → List Nat → Heap → Prop) (_ : Ky k := .mk) : Prop := match aop new Tm.none H op with
  | some (v, need, give) => k v (need.map (·.1)) (give.map (·.1)) (H.app give)
  | none => False
def dcallW (E : Env) (f : AV) (args : List AV) (H : Heap) (k : AV → List Nat → List Nat → Heap → Prop) (_ : Ky k := .mk) : Prop := match f with
  | .fn g caps => ∃ v need give, CAct E g (args ++ caps) v need give ∧ (∀ p ∈ need, H p.1 = some p.2) ∧ k v (need.map (·.1)) (give.map (·.1)) (H.app give)
  | _ => False

def dstV (E : Env) (new : Nat) (op : AOp) (T : Tm) (H : Heap) (k : AV → List Nat → List Nat → Heap → Prop) : Prop := match op with
  | .call f as => dcallW E (f.ev T) (as.map (AOpd.ev T)) H k
  | op => match op.cls with
    | 0 => pW (op.sub T) fun v => k v [] [] H
    | _ => dW (op.sub T) new H k

def gdD (want : Bool) (g : AV) (run : (AV → List Nat → List Nat → Heap → Prop) → Prop) (H : Heap) (k : AV → List Nat → List Nat → Heap → Prop) (_ : Ky run := .mk) (_ : Ky k := .mk) : Prop := match g with
  | .bool b => (b = want → run k) ∧ (b = !want → k (.tup []) [] [] H)
  | .tup [] => k (.tup []) [] [] H
  | _ => False

def drW (E : Env) (base : Nat) (ps : List (Nat × Nat)) (K : Tm → Heap → Prop) : List AOper → List (List Nat × List Nat) → Tm → Heap → Prop
  | [], acc, T, H => disj acc ps ∧ K T H
  | o :: os, acc, T, H => match o.guard with
    | none => dstV E (base + acc.length) o.op T H fun v n g H' => drW E base ps K os (acc ++ [(n, g)]) (T.puto o.dst v) H'
    | some (s, w) => gdD w (T s) (fun k => dstV E (base + acc.length) o.op T H k) H fun v n g H' => drW E base ps K os (acc ++ [(n, g)]) (T.puto o.dst v) H'

/-- As drW, with a condition of one's own. -/
def drF (E : Env) (base : Nat) (F : List (List Nat × List Nat) → Prop) (K : Tm → Heap → Prop) : List AOper → List (List Nat × List Nat) → Tm → Heap → Prop
  | [], acc, T, H => F acc ∧ K T H
  | o :: os, acc, T, H => match o.guard with
    | none => dstV E (base + acc.length) o.op T H fun v n g H' => drF E base F K os (acc ++ [(n, g)]) (T.puto o.dst v) H'
    | some (s, w) => gdD w (T s) (fun k => dstV E (base + acc.length) o.op T H k) H fun v n g H' => drF E base F K os (acc ++ [(n, g)]) (T.puto o.dst v) H'

/-- Around one call of any kind. -/
def drbW (E : Env) (m : Nat) (l : List AOper) (ps : List (Nat × Nat)) (K : Tm → Heap → Prop) (T : Tm) (H : Heap) : Prop := match barChk m ps with
  | true => match l[m]? with
    | some x => match x.guard with
      | none => match x.op.isCall with
        | true => ∀ base, Fresh H base → drF E base (FA m ps) (fun T H => stV E x.op T H fun v H' => drF E base (fun acc => disj acc (pairsHi m ps)) K (l.drop (m + 1)) (List.replicate (m + 1) ([], [])) (T.puto x.dst v) H') (l.take m) [] T H
        | false => False
      | some _ => False
    | none => False
  | false => False

/-! ### Ends of a function -/
def res1W (T : Tm) (H : Heap) (k : AV → Prop) : ARes → Prop
  | .tmp t => k (T t)
  | .ld t => rdW (.ld (.c (T t))) H k
  | .lda n t => rdW (.lda n (.c (T t))) H k
def ressW (T : Tm) (H : Heap) (k : List AV → Prop) : List ARes → Prop
  | [] => k []
  | r :: rs => res1W T H (fun v => ressW T H (fun vs => k (v :: vs)) rs) r
def resW (rs : List ARes) (T : Tm) (H : Heap) (k : AV → Prop) : Prop := match rs with
  | [r] => res1W T H k r
  | rs => ressW T H (fun vs => k (.tup vs)) rs

def RetC (R : AV → Heap → Prop) (v : AV) (H : Heap) : Prop := Cl (fun V H' => R (V 0) H') (fun _ => v) H

def QF (rs : List ARes) (R : AV → Heap → Prop) : AEx → Tm → Heap → Prop
  | .normal, T, H => resW rs T H fun v => RetC R v H
  | .ret, T, H => resW rs T H fun v => RetC R v H
  | .exit _, _, _ => False

/-! ### Code -/
def loopW (body : (Tm → Heap → Prop) → Tm → Heap → Prop) (l : List AV) (H : Heap) : Prop :=
  ∃ I : Nat → Tm → Heap → Prop, ∃ m, atW (I m) l H ∧ ∀ k V H, I k V H → body (fun V' H' => ∃ j, j < k ∧ I j V' H') V H

def LQ (ss : List Nat) (K : Tm → Heap → Prop) (Q : AEx → Tm → Heap → Prop) : AEx → Tm → Heap → Prop
  | .normal, T, H => atW K (ss.map T) H
  | .exit id, T, H => Q (.exit id) T H
  | .ret, T, H => Q .ret T H

def SQ (N : Tm → Heap → Prop) (Q : AEx → Tm → Heap → Prop) : AEx → Tm → Heap → Prop
  | .normal, T, H => N T H
  | .exit id, T, H => Q (.exit id) T H
  | .ret, T, H => Q .ret T H

def BQ (id : Nat) (Q : AEx → Tm → Heap → Prop) : AEx → Tm → Heap → Prop
  | .normal, T, H => Q .normal T H
  | .exit k, T, H => match Nat.beq k id with
    | true => Q .normal T H
    | false => Q (.exit k) T H
  | .ret, T, H => Q .ret T H

def DW (E : Env) : DCode → (AEx → Tm → Heap → Prop) → Tm → Heap → Prop
  | .skip, Q, T, H => Q .normal T H
  | .ops l, Q, T, H => segW E [] l (Q .normal) T H
  | .draw l ps, Q, T, H => ∀ base, Fresh H base → drW E base ps (Q .normal) l [] T H
  | .drawb m l ps, Q, T, H => drbW E m l ps (Q .normal) T H
  | .drawq l ps, Q, T, H => match fineP l.flat ps with
    | true => segP E [] l (Q .normal) T H
    | false => False
  | .frz d a, Q, T, H => frzW (T d) H fun v H' => DW E a Q (T.put d v) H'
  | .seq a b, Q, T, H => DW E a (SQ (DW E b Q) Q) T H
  | .cond x a b, Q, T, H => condW (x.ev T) (DW E a Q T H) (DW E b Q T H)
  | .block id a, Q, T, H => DW E a (BQ id Q) T H
  | .loop ss a, Q, T, H => loopW (fun K V H => DW E a (LQ ss K Q) (Tm.frame ss 0 V) H) (ss.map T) H
  | .exit id, Q, T, H => Q (.exit id) T H
  | .ret, Q, T, H => Q .ret T H
  | .mark ss a, Q, T, H => atW (fun V H => DW E a Q (Tm.frame ss 0 V) H) (ss.map T) H

section
variable {E : Env}

theorem dstV_sound {new : Nat} {o : AOper} {T : Tm} {H : Heap} {k : AV → List Nat → List Nat → Heap → Prop} {N : AV → List (Nat × Blk) → List (Nat × Option Blk) → Prop} (h : dstV E new o.op T H k)
    (hk : ∀ (v : AV) (need : List (Nat × Blk)) (give : List (Nat × Option Blk)), k v (need.map (·.1)) (give.map (·.1)) (H.app give) → N v need give) : DStep E new o N T H := by
  unfold DStep
  unfold dstV at h
  split at h
  · rename_i f as hop
    rw [hop]
    unfold dcallW at h
    split at h
    · rename_i g caps hf
      obtain ⟨v, need, give, h1, h2, h3⟩ := h
      exact ⟨g, caps, v, need, give, hf, h1, h2, hk _ _ _ h3⟩
    · exact h.elim
  · rename_i hnc
    have hic : o.op.isCall = false := by
      cases hq : o.op <;> first | rfl | exact absurd hq (hnc _ _)
    split
    · rename_i f as hf; exact absurd hf (hnc f as)
    · split at h
      · rename_i hc
        unfold pW at h
        rw [aop_sub] at h
        split at h
        · rename_i v need give he
          have hm : o.op.makes = false := by rw [cls_makes, hc]; rfl
          refine ⟨v, [], [], ?_, hk _ _ _ h⟩
          rw [aop_new new 0 T H _ (by simp [hm])]
          exact pure_eff H he hc hic
        · exact h.elim
      · unfold dW at h
        rw [aop_sub] at h
        split at h
        · rename_i v need give he
          exact ⟨v, need, give, he, hk _ _ _ h⟩
        · exact h.elim

theorem drW_sound {base : Nat} {ps : List (Nat × Nat)} {K K' : Tm → Heap → Prop} (hK : ∀ T H, K T H → K' T H) : ∀ {l : List AOper} {acc : List (List Nat × List Nat)} {T : Tm} {H : Heap}, drW E base ps K l acc T H → DRun E base ps K' l acc T H
  | [], acc, T, H, h => ⟨h.1, hK _ _ h.2⟩
  | o :: os, acc, T, H, h => by
    simp only [drW] at h
    simp only [DRun]
    split at h
    · rename_i hg
      rw [hg]
      exact dstV_sound h fun v need give hh => drW_sound hK hh
    · rename_i s w hg
      rw [hg]
      unfold gdD at h
      split at h
      · rename_i b hb
        exact .inr ⟨b, hb, fun e => dstV_sound (h.1 e) fun v need give hh => drW_sound hK hh, fun e => drW_sound hK (h.2 e)⟩
      · rename_i hb; exact .inl ⟨hb, drW_sound hK h⟩
      · exact h.elim

theorem drF_sound {base : Nat} {F : List (List Nat × List Nat) → Prop} {K K' : Tm → Heap → Prop} (hK : ∀ T H, K T H → K' T H) : ∀ {l : List AOper} {acc : List (List Nat × List Nat)} {T : Tm} {H : Heap}, drF E base F K l acc T H → DRunF E base F K' l acc T H
  | [], acc, T, H, h => ⟨h.1, hK _ _ h.2⟩
  | o :: os, acc, T, H, h => by
    simp only [drF] at h
    simp only [DRunF]
    split at h
    · rename_i hg
      rw [hg]
      exact dstV_sound h fun v need give hh => drF_sound hK hh
    · rename_i s w hg
      rw [hg]
      unfold gdD at h
      split at h
      · rename_i b hb
        exact .inr ⟨b, hb, fun e => dstV_sound (h.1 e) fun v need give hh => drF_sound hK hh, fun e => drF_sound hK (h.2 e)⟩
      · rename_i hb; exact .inl ⟨hb, drF_sound hK h⟩
      · exact h.elim

theorem awp_drbW (hE : E.Good) {m : Nat} {l : List AOper} {ps : List (Nat × Nat)} {Q : AEx → Tm → Heap → Prop} {T : Tm} {H : Heap} (h : drbW E m l ps (Q .normal) T H) : AWP E (.draw l ps) Q T H := by
  unfold drbW at h
  split at h
  case h_2 => exact h.elim
  rename_i hchk
  split at h
  case h_2 => exact h.elim
  rename_i x hx
  split at h
  case h_2 => exact h.elim
  rename_i hg
  split at h
  case h_2 => exact h.elim
  rename_i hcall
  exact awp_drawb hE hx hg hcall hchk fun base hb => drF_sound (fun T H hh => stV_sound hh fun v H' h2 => drF_sound (fun _ _ h => h) h2) (h base hb)

theorem res1W_sound {T : Tm} {H : Heap} {k : AV → Prop} {r : ARes} (h : res1W T H k r) : ∃ v, ares1 T H r = some v ∧ k v := by
  cases r with
  | tmp t => exact ⟨_, rfl, h⟩
  | ld t =>
    simp only [res1W, rdW] at h
    split at h
    · rename_i v need give he
      refine ⟨v, ?_, h⟩
      have : aop 0 T H (.ld (.t t)) = some (v, need, give) := by rw [← he]; rfl
      simp only [ares1, this]; rfl
    · exact h.elim
  | lda n t =>
    simp only [res1W, rdW] at h
    split at h
    · rename_i v need give he
      refine ⟨v, ?_, h⟩
      have : aop 0 T H (.lda n (.t t)) = some (v, need, give) := by rw [← he]; rfl
      simp only [ares1, this]; rfl
    · exact h.elim
theorem ressW_sound {T : Tm} {H : Heap} : ∀ {rs : List ARes} {k : List AV → Prop}, ressW T H k rs → ∃ vs, aress T H rs = some vs ∧ k vs
  | [], k, h => ⟨[], rfl, h⟩
  | r :: rs, k, h => by
    obtain ⟨v, h1, h2⟩ := res1W_sound h
    obtain ⟨vs, h3, h4⟩ := ressW_sound h2
    exact ⟨v :: vs, by simp [aress, h1, h3], h4⟩
theorem aress_len {T : Tm} {H : Heap} : ∀ {rs : List ARes} {vs : List AV}, aress T H rs = some vs → vs.length = rs.length
  | [], vs, h => by simp [aress] at h; subst h; rfl
  | r :: rs, vs, h => by
    simp only [aress] at h
    split at h
    · rename_i x xs h1 h2
      simp only [Option.some.injEq] at h
      subst h
      simp [aress_len h2]
    · simp at h
theorem resW_sound {rs : List ARes} {T : Tm} {H : Heap} {k : AV → Prop} (h : resW rs T H k) : ∃ v, ares rs T H = some v ∧ k v := by
  unfold resW at h
  split at h
  · obtain ⟨v, h1, h2⟩ := res1W_sound h
    refine ⟨v, ?_, h2⟩
    have : ∀ r, aress T H [r] = (ares1 T H r).map fun x => [x] := fun r => by
      simp only [aress]; cases ares1 T H r <;> rfl
    simp only [ares, this, h1, Option.map_some]
  · rename_i hne
    obtain ⟨vs, h1, h2⟩ := ressW_sound h
    refine ⟨_, ?_, h2⟩
    have hl := aress_len h1
    unfold ares
    rw [h1]
    match vs, hl with
    | [], _ => rfl
    | [x], hl => 
      exfalso
      match rs, hl with
      | [r], _ => exact hne r rfl
    | x :: y :: vs, _ => rfl

theorem dw_sound (hE : E.Good) : ∀ (c : DCode) (Q Q' : AEx → Tm → Heap → Prop) (T : Tm) (H : Heap), (∀ e T H, Q e T H → Q' e T H) → DW E c Q T H → AWP E c.strip Q' T H
  | .skip, Q, Q', T, H, hq, h => awp_skip (hq _ _ _ h)
  | .ops l, Q, Q', T, H, hq, h => awp_fops hE (seg_frun l [] _ _ T H (hq _) rfl h)
  | .draw l ps, Q, Q', T, H, hq, h => awp_draw hE fun base hb => drW_sound (hq _) (h base hb)
  | .drawb m l ps, Q, Q', T, H, hq, h => (awp_drbW hE h).mono hq
  | .drawq l ps, Q, Q', T, H, hq, h => by
    simp only [DW] at h
    split at h
    · rename_i hf
      exact awp_drawq hE hf (segP_mono l [] (hq _) h)
    · exact h.elim
  | .frz d a, Q, Q', T, H, hq, h => awp_cl (frzW_sound h fun v H' hh => dw_sound hE a Q Q' _ H' hq hh)
  | .seq a b, Q, Q', T, H, hq, h => awp_seq (dw_sound hE a _ _ T H (fun e T H hh => by
      cases e with
      | normal => exact dw_sound hE b Q Q' T H hq hh
      | exit id => exact hq _ _ _ hh
      | ret => exact hq _ _ _ hh) h)
  | .cond x a b, Q, Q', T, H, hq, h => by
    simp only [DW, condW] at h
    split at h
    · rename_i v hv
      exact awp_cond hv (fun e => dw_sound hE a Q Q' T H hq (h.1 e)) (fun e => dw_sound hE b Q Q' T H hq (h.2 e))
    · exact h.elim
  | .block id a, Q, Q', T, H, hq, h => awp_block (dw_sound hE a _ _ T H (fun e T H hh => by
      cases e with
      | normal => exact hq _ _ _ hh
      | exit k =>
        simp only [BQ] at hh
        simp only [Out]
        split at hh
        · rename_i e; rw [if_pos (Nat.eq_of_beq_eq_true e)]; exact hq _ _ _ hh
        · rename_i e; rw [if_neg (fun e' => by subst e'; simp at e)]; exact hq _ _ _ hh
      | ret => exact hq _ _ _ hh) h)
  | .loop ss a, Q, Q', T, H, hq, h => by
    obtain ⟨I, m, h1, h2⟩ := h
    let J : Nat → Tm → Heap → Prop := fun k T H => atW (fun V H => ∃ j, j < k ∧ I j V H) (ss.map T) H
    refine awp_loop J (m + 1) (Cl.mono (fun V H hh => ⟨m, Nat.lt_succ_self m, hh⟩) h1) (fun k T H hJ => ?_)
    refine at_sound (ss := ss) (P := fun V H => ∃ j, j < k ∧ I j V H) ?_ hJ
    rintro V H ⟨j, hj, hI⟩
    refine dw_sound hE a _ _ _ H (fun e T' H' hh => ?_) (h2 j V H hI)
    cases e with
    | normal => exact ⟨j, hj, hh⟩
    | exit id => exact hq _ _ _ hh
    | ret => exact hq _ _ _ hh
  | .exit id, Q, Q', T, H, hq, h => awp_exit (hq _ _ _ h)
  | .ret, Q, Q', T, H, hq, h => awp_ret (hq _ _ _ h)
  | .mark ss a, Q, Q', T, H, hq, h => at_sound (fun V H hh => dw_sound hE a Q Q' _ H hq hh) h

theorem acallW (hE : E.Good) {tab : Nat → Option AFunc} (hF : E.Fits tab) {f n : Nat} {rs : List ARes} {b : DCode} (hf : tab f = some ⟨n, rs, b.strip⟩) {args : List AV} {R : AV → Heap → Prop} {H : Heap} (hl : args.length ≤ n)
    (h : DW E b (QF rs R) (vl args) H) : ACall E f args H R := by
  refine acall_cl (acall_enter hE hF hf hl ?_)
  refine dw_sound hE b _ _ _ H (fun e T H hh => ?_) h
  cases e with
  | normal => exact resW_sound hh
  | exit id => exact hh.elim
  | ret => exact resW_sound hh

end

/-! Short forms for the printed texts. -/
def DSegs.o (d : Nat) (op : AOp) (r : DSegs) : DSegs := .one ⟨some d, op, none⟩ r
def AOpd.i (n : Int) : AOpd := .c (.int .i64 n)
def AV.i (n : Int) : AV := .int .i64 n
abbrev AHP := AV → Heap → Prop
abbrev THP := Tm → Heap → Prop
end Go.Abs
