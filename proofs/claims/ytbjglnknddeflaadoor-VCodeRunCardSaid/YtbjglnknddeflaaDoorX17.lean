/- A part of the proof: W8 -/
import Derived.Test.YtbjglnknddeflaaDoorX16
set_option linter.unusedSimpArgs false
set_option linter.unusedVariables false
/- Regions that draw their order: the rules of each step. -/
namespace Go.Abs

section
variable {E : Env} {new : Nat} {H : Heap} {k : AV → List Nat → List Nat → Heap → Prop}

@[go_sem] theorem kd_nn (a b : List Nat) : keysDisj (a, []) (b, []) = True := by simp [keysDisj]
@[go_sem] theorem d_ldr (cs : List AV) : dW (.ld (.c (.rp cs))) new H k = optP (fun v => k v [] [] H) cs[0]? := by
  simp only [dW, aop, AOpd.ev]; cases cs[0]? <;> rfl
@[go_sem] theorem d_ld (id i off : Nat) : dW (.ld (.c (.ptr id i off))) new H k = atH (fun es => atC (fun cs => optP (fun v => k v [id] [] H) cs[off]?) es[i]?) (H id) := by
  simp only [dW, aop, AOpd.ev]
  cases H id with
  | none => rfl
  | some es => simp only [atH]; cases es[i]? with
    | none => rfl
    | some cs => simp only [atC]; cases cs[off]? <;> rfl
@[go_sem] theorem d_lda (n id i off : Nat) : dW (.lda n (.c (.ptr id i off))) new H k = atH (fun es => atC (fun cs => off + n ≤ cs.length ∧ k (.agg ((cs.drop off).take n)) [id] [] H) es[i]?) (H id) := by
  simp only [dW, aop, AOpd.ev]
  cases H id with
  | none => rfl
  | some es => simp only [atH]; cases es[i]? with
    | none => rfl
    | some cs =>
      simp only [atC]
      by_cases e : off + n ≤ cs.length
      · simp only [e, if_true, true_and]; rfl
      · simp only [e, if_false, false_and]
@[go_sem] theorem d_ldar (n : Nat) (cs : List AV) : dW (.lda n (.c (.rp cs))) new H k = (n ≤ cs.length ∧ k (.agg (cs.take n)) [] [] H) := by
  simp only [dW, aop, AOpd.ev]; by_cases e : n ≤ cs.length <;> simp [e, pure1] <;> rfl
@[go_sem] theorem d_st (n id i off : Nat) (v : AV) : dW (.st n (.c (.ptr id i off)) (.c v)) new H k = atH (fun es => atC (fun cs => (v.ok = true ∧ v.cells.length = n ∧ off + n ≤ cs.length) ∧ k .undef [id] [id] (H.set id (some (es.set i (spl cs off v.cells))))) es[i]?) (H id) := by
  simp only [dW, aop, AOpd.ev]
  cases H id with
  | none => rfl
  | some es => simp only [atH]; cases es[i]? with
    | none => rfl
    | some cs =>
      simp only [atC]
      by_cases e : v.ok = true ∧ v.cells.length = n ∧ off + n ≤ cs.length
      · simp only [e.1, e.2.1, e.2.2, true_and, if_true]; rfl
      · simp only [e, false_and, if_false]
theorem d_bsl {sz ln : Nat} {z : List AV} {ps : List (Nat × AOpd)} (h0 : ps.all (fun p => (p.2.ev Tm.none).ok && (p.2.ev Tm.none).cells.length == sz) = true) (h : k (.sl sz new 0 ln) [] [new] (H.set new (some (ps.foldl (fun es p => es.set p.1 (p.2.ev Tm.none).cells) (List.replicate ln z))))) : dW (.bsl sz z ln ps) new H k := by
  simp only [dW, aop]; rw [if_pos h0]; exact h
theorem d_app_nil {sz i2 n2 : Nat} {es2 : Blk} (h2 : H i2 = some es2) (h0 : n2 ≤ es2.length ∧ n2 ≤ appLim) (h : k (.sl sz new 0 n2) [i2] [new] (H.set new (some (es2.take n2)))) : dW (.app sz (.c .nilsl) (.c (.sl sz i2 0 n2))) new H k := by
  have e : ((es2.drop 0).take n2).length = n2 := by simp; omega
  have h1 : 0 + n2 ≤ es2.length := by omega
  simp only [dW, aop, AOpd.ev, elems, h2, h1, and_self, if_true, e, h0.2]
  exact h
theorem d_app {sz id len i2 n2 : Nat} {es es2 : Blk} (hid : H id = some es) (h2 : H i2 = some es2) (h0 : len ≤ es.length ∧ len + n2 ≤ appLim) (h1 : n2 ≤ es2.length)
    (h : k (.sl sz new 0 (len + n2)) [id, i2] [id, new] ((H.set id none).set new (some (es.take len ++ es2.take n2)))) : dW (.app sz (.c (.sl sz id 0 len)) (.c (.sl sz i2 0 n2))) new H k := by
  have e : ((es2.drop 0).take n2).length = n2 := by simp; omega
  have h3 : 0 + n2 ≤ es2.length := by omega
  simp only [dW, aop, AOpd.ev, elems, h2, hid, h3, and_self, if_true, e]
  rw [if_pos ⟨trivial, trivial, h0⟩]
  exact h
/-- A call of which all is told. -/
theorem dcall_act {f : Nat} {args caps : List AV} {v : AV} {need : List (Nat × Blk)} (h : CAct E f (args ++ caps) v need []) (hn : ∀ p ∈ need, H p.1 = some p.2) (hk : k v (need.map (·.1)) [] H) : dcallW E (.fn f caps) args H k :=
  ⟨v, need, [], h, hn, hk⟩
end
end Go.Abs
