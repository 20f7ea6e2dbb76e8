/- A part of the proof: F5, F6 -/
import Derived.Test.YtbjglnknddeflaaDoorX14
set_option linter.unusedSimpArgs false
set_option linter.unusedVariables false
set_option linter.unusedSimpArgs false
set_option linter.unusedVariables false
set_option maxRecDepth 100000
namespace Go.Abs
variable {E : Env}

def W64 (x : Int) : Int := IntKind.i64.wrap x
def U64 (x : Int) : Int := IntKind.u64.wrap x
def tr (b : Bool) : Int := if b then 1 else 0
def wquo (a b : Int) : Int := if b = 0 then 0 else if b = -1 then W64 (0 - a) else W64 (a.tdiv b)
def wsh (b : Int) : Int := U64 (bitsOf .and .i64 b 63)
theorem U64_nn (x : Int) : 0 ≤ IntKind.u64.wrap x := by
  simp only [IntKind.wrap]
  exact Int.emod_nonneg _ (by decide)

/-- The word that an operation of two words gives. -/
def wbin (o a b : Int) : Int :=
  if o = 4 then W64 (a + b) else if o = 5 then W64 (a - b) else if o = 6 then W64 (a * b)
  else if o = 7 then wquo a b else if o = 8 then (if b = 0 then 0 else W64 (a - W64 (wquo a b * b)))
  else if o = 9 then bitsOf .and .i64 a b else if o = 10 then bitsOf .or .i64 a b else if o = 11 then bitsOf .xor .i64 a b
  else if o = 12 then W64 (a * 2 ^ (min (wsh b).toNat 64)) else if o = 13 then W64 ((U64 a).fdiv (2 ^ (min (wsh b).toNat 64)))
  else if o = 14 then a.fdiv (2 ^ (min (wsh b).toNat 64))
  else if o = 15 then tr (decide (a = b)) else if o = 16 then tr (decide (a ≠ b)) else if o = 17 then tr (decide (a < b))
  else if o = 18 then tr (decide (a ≤ b)) else if o = 19 then tr (decide (U64 a < U64 b)) else 0

theorem quo_spec (hE : E.Good) (hF : E.Fits tab) (a b : Int) : PF E 129 [.int .i64 a, .int .i64 b] (.int .i64 (wquo a b)) := by
  intro H; refine ent129 hE hF _ _ _ _ ?_; unfold w129
  repeat' (first | ((with_reducible refine cond_mk (fun hb => ?_) (fun hb => ?_)) <;> ((try simp only [if_true, if_false, qq, reduceCtorEq] at hb); (try (exfalso; first | (exact hb) | contradiction | omega)))) | ((with_reducible refine And.intro ?_ ?_); (first | decide | omega)) | (simp (disch := omega) only [go_sem, Heap.get_ne, wrap64_id, Nat.reduceAdd, Nat.reduceLeDiff, Nat.reduceSub, Nat.reduceEqDiff, Int.reduceLT, Int.reduceLE, Int.reduceEq]) | (with_reducible rfl) | ((with_reducible refine And.intro ?_ ?_) <;> (with_reducible rfl)))
  all_goals ((with_reducible refine ret_q ?_); simp only [wquo, W64]; grind)
theorem truth_spec (hE : E.Good) (hF : E.Fits tab) (b : Bool) : PF E 136 [.bool b] (.int .i64 (tr b)) := by
  intro H; refine ent136 hE hF _ _ _ ?_; unfold w136
  repeat' (first | ((with_reducible refine cond_mk (fun hb => ?_) (fun hb => ?_)) <;> ((try simp only [if_true, if_false, qq, reduceCtorEq] at hb); (try (exfalso; first | (exact hb) | contradiction | omega)))) | ((with_reducible refine And.intro ?_ ?_); (first | decide | omega)) | (simp (disch := omega) only [go_sem, Heap.get_ne, wrap64_id, Nat.reduceAdd, Nat.reduceLeDiff, Nat.reduceSub, Nat.reduceEqDiff, Int.reduceLT, Int.reduceLE, Int.reduceEq]) | (with_reducible rfl) | ((with_reducible refine And.intro ?_ ?_) <;> (with_reducible rfl)))
  all_goals ((with_reducible refine ret_q ?_); simp only [tr, hb, if_true, if_false, Bool.false_eq_true])
theorem shc_spec (hE : E.Good) (hF : E.Fits tab) (o a b : Int) (ho : 12 ≤ o) : PF E 130 [.int .i64 o, .int .i64 a, .int .i64 b] (.int .i64 (wbin o a b)) := by
  intro H; refine ent130 hE hF _ _ _ _ _ ?_; unfold w130
  repeat' (first | ((with_reducible refine cond_mk (fun hb => ?_) (fun hb => ?_)) <;> ((try simp only [if_true, if_false, qq, reduceCtorEq] at hb); (try (exfalso; first | (exact hb) | contradiction | omega)))) | ((with_reducible refine call_pure (truth_spec hE hF _) ?_); intro _) | ((with_reducible refine pc_pure (truth_spec hE hF _) ?_)) | ((with_reducible refine dcall_pure0 (truth_spec hE hF _) ?_)) | ((with_reducible refine And.intro ?_ ?_); (exact U64_nn _)) | ((with_reducible refine And.intro ?_ ?_); (first | decide | omega)) | (simp (disch := omega) only [go_sem, Heap.get_ne, wrap64_id, Nat.reduceAdd, Nat.reduceLeDiff, Nat.reduceSub, Nat.reduceEqDiff, Int.reduceLT, Int.reduceLE, Int.reduceEq]) | (with_reducible rfl) | ((with_reducible refine And.intro ?_ ?_) <;> (with_reducible rfl)))
  all_goals (try exact U64_nn _)
  all_goals ((with_reducible refine ret_q ?_); simp only [wbin, W64, U64, wsh]; grind)

theorem W64_eq {x y : Int} (h : x % 18446744073709551616 = y % 18446744073709551616) : W64 x = W64 y := by
  have g : ∀ z, W64 z = if 9223372036854775808 ≤ z % 18446744073709551616 then z % 18446744073709551616 - 18446744073709551616 else z % 18446744073709551616 := fun z => by
    simp [W64, IntKind.wrap, IntKind.bits, IntKind.signed]
  rw [g, g, h]
theorem W64_mod (x : Int) : W64 x % 18446744073709551616 = x % 18446744073709551616 := by
  simp only [W64, IntKind.wrap, IntKind.bits, IntKind.signed, Int.reducePow, Bool.true_and]
  split <;> omega
theorem U64_mod (x : Int) : U64 x = x % 18446744073709551616 := by
  simp [U64, IntKind.wrap, IntKind.bits, IntKind.signed]
theorem mul_mod_l {x y z : Int} (h : x % 18446744073709551616 = y % 18446744073709551616) : (x * z) % 18446744073709551616 = (y * z) % 18446744073709551616 := by
  rw [Int.mul_emod, h, ← Int.mul_emod]
/-- A word's range. -/
def I64 (x : Int) : Prop := -9223372036854775808 ≤ x ∧ x < 9223372036854775808
theorem W64_id {x : Int} (h : I64 x) : W64 x = x := wrap64_id h.1 h.2
theorem W64_in (x : Int) : I64 (W64 x) := by
  simp only [I64, W64, IntKind.wrap, IntKind.bits, IntKind.signed, Int.reducePow, Bool.true_and, decide_eq_true_eq]
  split <;> (simp at *; omega)
theorem bits_in (o : BinOp) (a b : Int) : I64 (bitsOf o .i64 a b) := by
  unfold bitsOf
  split <;> exact W64_in _
theorem I64_0 : I64 0 := by constructor <;> decide
theorem tr_in (b : Bool) : I64 (tr b) := by cases b <;> (simp only [tr, if_true, if_false, Bool.false_eq_true]; constructor <;> decide)
theorem ite_in {c : Prop} [Decidable c] {x y : Int} (h1 : I64 x) (h2 : I64 y) : I64 (if c then x else y) := by split <;> assumption
theorem wquo_in (a b : Int) : I64 (wquo a b) := by
  unfold wquo
  exact ite_in I64_0 (ite_in (W64_in _) (W64_in _))
theorem fdiv_in {a : Int} (n : Nat) (h : I64 a) : I64 (a.fdiv (2 ^ n)) := by
  have hp : (0 : Int) < 2 ^ n := Int.pow_pos (by decide)
  have h1 := h.1; have h2 := h.2
  rw [Int.fdiv_eq_ediv_of_nonneg _ (by omega)]
  constructor
  · rw [Int.le_ediv_iff_mul_le (by omega)]
    have : -9223372036854775808 * (2 ^ n : Int) ≤ -9223372036854775808 * 1 := by
      apply Int.mul_le_mul_of_nonpos_left <;> omega
    omega
  · rw [Int.ediv_lt_iff_lt_mul (by omega)]
    have : 9223372036854775808 * 1 ≤ 9223372036854775808 * (2 ^ n : Int) := by
      apply Int.mul_le_mul_of_nonneg_left <;> omega
    omega
theorem wbin_in (o : Int) {a : Int} (b : Int) (h : I64 a) : I64 (wbin o a b) := by
  unfold wbin
  repeat' (with_reducible refine ite_in ?_ ?_)
  all_goals first | exact W64_in _ | exact bits_in _ _ _ | exact I64_0 | exact tr_in _ | exact wquo_in _ _ | exact fdiv_in _ h

/-- The word that an operation of one word gives (neg, not). -/
def wun (o a : Int) : Int := if o = 15 then W64 (0 - a) else W64 (-1 - a)
theorem not_eq (a : Int) : bitsOf .xor .i64 (-1) a = W64 (-1 - a) := by
  unfold bitsOf
  show W64 _ = _
  apply W64_eq
  show (((BitVec.ofInt 64 (-1) ^^^ BitVec.ofInt 64 a).toNat : Int)) % _ = _
  rw [show BitVec.ofInt 64 (-1) = BitVec.allOnes 64 by decide]
  rw [BitVec.allOnes_xor, BitVec.toNat_not, BitVec.toNat_ofInt]
  simp only [Nat.reducePow, Int.reducePow]
  omega
theorem un107_spec (hE : E.Good) (hF : E.Fits tab) (o a : Int) (ho : o = 20 ∨ o = 21) : PF E 107 [.int .i64 o, .int .i64 a] (.int .i64 (wun (o - 5) a)) := by
  intro H; refine ent107 hE hF _ _ _ _ ?_; unfold w107
  repeat' (first | ((with_reducible refine cond_mk (fun hb => ?_) (fun hb => ?_)) <;> ((try simp only [if_true, if_false, qq, reduceCtorEq] at hb); (try (exfalso; first | (exact hb) | contradiction | omega)))) | ((with_reducible refine And.intro ?_ ?_); (first | decide | omega)) | (simp (disch := omega) only [go_sem, Heap.get_ne, wrap64_id, Nat.reduceAdd, Nat.reduceLeDiff, Nat.reduceSub, Nat.reduceEqDiff, Int.reduceLT, Int.reduceLE, Int.reduceEq]) | (with_reducible rfl) | ((with_reducible refine And.intro ?_ ?_) <;> (with_reducible rfl)))
  · (with_reducible refine ret_q ?_); simp only [wun, W64] at *; grind
  · (with_reducible refine ret_q ?_)
    have e : wun (o - 5) a = W64 (-1 - a) := by simp only [wun]; rw [if_neg (by omega)]
    rw [e]
    exact congrArg (AV.int .i64) (not_eq a)
theorem un109_spec (hE : E.Good) (hF : E.Fits tab) (o a : Int) : PF E 109 [.int .i64 o, .int .i64 a] (.int .i64 (wun o a)) := by
  intro H; refine ent109 hE hF _ _ _ _ ?_; unfold w109
  repeat' (first | ((with_reducible refine cond_mk (fun hb => ?_) (fun hb => ?_)) <;> ((try simp only [if_true, if_false, qq, reduceCtorEq] at hb); (try (exfalso; first | (exact hb) | contradiction | omega)))) | ((with_reducible refine And.intro ?_ ?_); (first | decide | omega)) | (simp (disch := omega) only [go_sem, Heap.get_ne, wrap64_id, Nat.reduceAdd, Nat.reduceLeDiff, Nat.reduceSub, Nat.reduceEqDiff, Int.reduceLT, Int.reduceLE, Int.reduceEq]) | (with_reducible rfl) | ((with_reducible refine And.intro ?_ ?_) <;> (with_reducible rfl)))
  all_goals ((with_reducible refine ret_q ?_); simp only [wun, W64] at *; grind)
theorem bin108_spec (hE : E.Good) (hF : E.Fits tab) (o a b : Int) (ho : 4 ≤ o) : PF E 108 [.int .i64 o, .int .i64 a, .int .i64 b] (.int .i64 (wbin o a b)) := by
  intro H; refine ent108 hE hF _ _ _ _ _ ?_; unfold w108
  repeat' (first | ((with_reducible refine cond_mk (fun hb => ?_) (fun hb => ?_)) <;> ((try simp only [if_true, if_false, qq, reduceCtorEq] at hb); (try (exfalso; first | (exact hb) | contradiction | omega)))) | ((with_reducible refine call_pure (quo_spec hE hF _ _) ?_); intro _) | ((with_reducible refine pc_pure (quo_spec hE hF _ _) ?_)) | ((with_reducible refine dcall_pure0 (quo_spec hE hF _ _) ?_)) | ((with_reducible refine call_pure (shc_spec hE hF _ _ _ (by omega)) ?_); intro _) | ((with_reducible refine pc_pure (shc_spec hE hF _ _ _ (by omega)) ?_)) | ((with_reducible refine dcall_pure0 (shc_spec hE hF _ _ _ (by omega)) ?_)) | ((with_reducible refine And.intro ?_ ?_); (first | decide | omega)) | ((with_reducible refine at_here ?_); unfold m108_0 w108_0) | (simp (disch := omega) only [go_sem, Heap.get_ne, wrap64_id, Nat.reduceAdd, Nat.reduceLeDiff, Nat.reduceSub, Nat.reduceEqDiff, Int.reduceLT, Int.reduceLE, Int.reduceEq]) | (with_reducible rfl) | ((with_reducible refine And.intro ?_ ?_) <;> (with_reducible rfl)))
  all_goals ((with_reducible refine ret_q ?_); simp only [wbin, W64] at * <;> grind)
theorem one_spec (hE : E.Good) (hF : E.Fits tab) (b : Bool) : PF E 131 [.bool b] (.int .i64 (tr b)) := by
  intro H; refine ent131 hE hF _ _ _ ?_; unfold w131
  repeat' (first | ((with_reducible refine cond_mk (fun hb => ?_) (fun hb => ?_)) <;> ((try simp only [if_true, if_false, qq, reduceCtorEq] at hb); (try (exfalso; first | (exact hb) | contradiction | omega)))) | ((with_reducible refine And.intro ?_ ?_); (first | decide | omega)) | (simp (disch := omega) only [go_sem, Heap.get_ne, wrap64_id, Nat.reduceAdd, Nat.reduceLeDiff, Nat.reduceSub, Nat.reduceEqDiff, Int.reduceLT, Int.reduceLE, Int.reduceEq]) | (with_reducible rfl) | ((with_reducible refine And.intro ?_ ?_) <;> (with_reducible rfl)))
  all_goals ((with_reducible refine ret_q ?_); simp only [tr, hb, if_true, if_false, Bool.false_eq_true])

def rshift (a b : Int) : Int := W64 (U64 (U64 a * 2 ^ (min (wsh b).toNat 64)))
/-- The reference's word. -/
def rbin (o a b : Int) : Int :=
  if o = 17 then W64 (a + b) else if o = 18 then W64 (a - b) else if o = 19 then W64 (a * b)
  else if o = 20 then wquo a b else if o = 21 then (if b = 0 ∨ b = -1 then 0 else a.tmod b)
  else if o = 22 then bitsOf .and .i64 a b else if o = 23 then bitsOf .or .i64 a b else if o = 24 then bitsOf .xor .i64 a b
  else if o = 25 then rshift a b else if o = 26 then W64 ((U64 a).fdiv (2 ^ (min (wsh b).toNat 64)))
  else if o = 27 then a.fdiv (2 ^ (min (wsh b).toNat 64))
  else if o = 28 then tr (decide (a = b)) else if o = 29 then tr (decide (a ≠ b)) else if o = 30 then tr (decide (a < b))
  else if o = 31 then tr (decide (a ≤ b)) else tr (decide (U64 a < U64 b))
set_option maxHeartbeats 1000000 in
theorem bin111_spec (hE : E.Good) (hF : E.Fits tab) (o a b : Int) : PF E 111 [.int .i64 o, .int .i64 a, .int .i64 b] (.int .i64 (rbin o a b)) := by
  intro H; refine ent111 hE hF _ _ _ _ _ ?_; unfold w111
  repeat' (first | ((with_reducible refine cond_mk (fun hb => ?_) (fun hb => ?_)) <;> ((try simp only [if_true, if_false, qq, reduceCtorEq] at hb); (try (exfalso; first | (exact hb) | contradiction | omega)))) | ((with_reducible refine grp_mk ?_ (fun hb => ?_) (fun _ => ?_)) <;> (try simp only [if_true, if_false, qq, reduceCtorEq] at hb)) | ((with_reducible refine call_pure (one_spec hE hF _) ?_); intro _) | ((with_reducible refine pc_pure (one_spec hE hF _) ?_)) | ((with_reducible refine dcall_pure0 (one_spec hE hF _) ?_)) | ((with_reducible refine And.intro ?_ ?_); (exact U64_nn _)) | ((with_reducible refine And.intro ?_ ?_); (first | decide | omega)) | ((with_reducible refine at_here ?_); first | unfold m111_0 w111_0 | unfold m111_1 w111_1) | (simp (disch := omega) only [go_sem, Heap.get_ne, wrap64_id, Nat.reduceAdd, Nat.reduceLeDiff, Nat.reduceSub, Nat.reduceEqDiff, Int.reduceLT, Int.reduceLE, Int.reduceEq]) | (with_reducible rfl) | ((with_reducible refine And.intro ?_ ?_) <;> (with_reducible rfl)))
  all_goals (try exact U64_nn _)
  all_goals ((with_reducible refine ret_q ?_); simp only [rbin, rshift, wsh, wquo, W64, U64] at *; grind)

theorem wrem_eq {a b : Int} (h : I64 a) (hb : b ≠ 0) : W64 (a - W64 (wquo a b * b)) = if b = -1 then 0 else a.tmod b := by
  have e1 : ∀ x, W64 (a - W64 x) = W64 (a - x) := fun x => W64_eq (by have := W64_mod x; omega)
  rw [e1]
  have e2 : ∀ q, W64 (a - W64 q * b) = W64 (a - q * b) := fun q => W64_eq (by have := mul_mod_l (z := b) (W64_mod q); omega)
  unfold wquo
  rw [if_neg hb]
  by_cases hm : b = -1
  · subst hm
    rw [if_pos rfl, if_pos rfl, e2]
    have : a - (0 - a) * -1 = 0 := by omega
    rw [this]; exact W64_id I64_0
  · rw [if_neg hm, if_neg hm, e2]
    have h1 : a - a.tdiv b * b = a.tmod b := by
      have := Int.mul_tdiv_add_tmod a b
      rw [Int.mul_comm] at this; omega
    rw [h1]
    apply W64_id
    have h2 : (a.tmod b).natAbs ≤ a.natAbs := by rw [Int.natAbs_tmod]; exact Nat.mod_le _ _
    have h3 := h.1; have h4 := h.2
    by_cases h5 : 0 ≤ a
    · constructor <;> omega
    · have h6 : 0 ≤ (-a).tmod b := Int.tmod_nonneg _ (by omega)
      rw [Int.neg_tmod] at h6
      constructor <;> omega
theorem shl_eq (a : Int) (n : Nat) : W64 (U64 (U64 a * 2 ^ n)) = W64 (a * 2 ^ n) := by
  apply W64_eq
  rw [U64_mod, U64_mod, Int.emod_emod]
  exact mul_mod_l (Int.emod_emod _ _)
theorem rbin_eq {o a b : Int} (h : I64 a) (h1 : 17 ≤ o) (h2 : o ≤ 32) : rbin o a b = wbin (o - 13) a b := by
  have ho : o = 17 ∨ o = 18 ∨ o = 19 ∨ o = 20 ∨ o = 21 ∨ o = 22 ∨ o = 23 ∨ o = 24 ∨ o = 25 ∨ o = 26 ∨ o = 27 ∨ o = 28 ∨ o = 29 ∨ o = 30 ∨ o = 31 ∨ o = 32 := by omega
  rcases ho with rfl | rfl | rfl | rfl | rfl | rfl | rfl | rfl | rfl | rfl | rfl | rfl | rfl | rfl | rfl | rfl
  case inr.inr.inr.inr.inl =>
    show (if b = 0 ∨ b = -1 then 0 else a.tmod b) = if b = 0 then 0 else W64 (a - W64 (wquo a b * b))
    by_cases hb : b = 0
    · rw [if_pos (.inl hb), if_pos hb]
    · rw [if_neg hb, wrem_eq h hb]
      by_cases hc : b = -1
      · rw [if_pos (.inr hc), if_pos hc]
      · rw [if_neg (by omega), if_neg hc]
  case inr.inr.inr.inr.inr.inr.inr.inr.inl => exact shl_eq a _
  all_goals rfl
end Go.Abs
set_option linter.unusedSimpArgs false
set_option linter.unusedVariables false
set_option maxRecDepth 100000
namespace Go.Abs
variable {E : Env}

@[go_sem] theorem atC_ic (k : List AV → Prop) (l : List Int) (i : Nat) : atC k ((l.map icell)[i]?) = (i < l.length ∧ k [.int .i64 (l.getD i 0)]) := by
  by_cases h : i < l.length
  · simp [atC, List.getElem?_eq_getElem h, icell, h, List.getD]
  · simp [atC, List.getElem?_eq_none (Nat.not_lt.1 h), h]

/-- The cells of an activation. -/
def frc (f : VF) (rv av : AV) (bi at' to : Int) : List AV := [.int .i64 f.params, .int .i64 f.regs, bls f.blocks, rv, av, .int .i64 bi, .int .i64 at', .int .i64 to]
@[go_sem] theorem e_frc (f : VF) (rv av : AV) (bi at' to : Int) (i : Nat) : (frc f rv av bi at' to)[i]? = ([.int .i64 f.params, .int .i64 f.regs, bls f.blocks, rv, av, .int .i64 bi, .int .i64 at', .int .i64 to] : List AV)[i]? := id rfl
@[go_sem] theorem e_frcl (f : VF) (rv av : AV) (bi at' to : Int) : (frc f rv av bi at' to).length = 8 := id rfl
@[go_sem] theorem set_frc3 (f : VF) (rv av : AV) (bi at' to : Int) (v : AV) : (frc f rv av bi at' to).set 3 (v) = frc f v av bi at' to := id rfl
@[go_sem] theorem set_frc5 (f : VF) (rv av : AV) (bi at' to : Int) (v : Int) : (frc f rv av bi at' to).set 5 (.int .i64 v) = frc f rv av v at' to := id rfl
@[go_sem] theorem set_frc6 (f : VF) (rv av : AV) (bi at' to : Int) (v : Int) : (frc f rv av bi at' to).set 6 (.int .i64 v) = frc f rv av bi v to := id rfl
@[go_sem] theorem set_frc4 (f : VF) (rv av : AV) (bi at' to : Int) (v : AV) : (frc f rv av bi at' to).set 4 (v) = frc f rv v bi at' to := id rfl

/-- A slice of words of one's own. -/
def Own (H : Heap) (rv : AV) (xs : List Int) (F : List Nat) : Prop := (rv = .nilsl ∧ xs = [] ∧ F = []) ∨ ∃ id, rv = .sl 1 id 0 xs.length ∧ H id = some (xs.map icell) ∧ F = [id]
theorem Own.keep {H H' : Heap} {rv : AV} {xs : List Int} {F : List Nat} (h : Own H rv xs F) (hk : ∀ k ∈ F, H' k = H k) : Own H' rv xs F := by
  rcases h with h | ⟨id, h1, h2, rfl⟩
  · exact .inl h
  · exact .inr ⟨id, h1, by rw [hk id (by simp)]; exact h2, rfl⟩
theorem Own.len {H : Heap} {rv : AV} {xs : List Int} {F : List Nat} (h : Own H rv xs F) {k : AV → Prop} : pW (.len (.c rv)) k = k (.int .i64 xs.length) := by
  rcases h with ⟨rfl, rfl, rfl⟩ | ⟨id, rfl, h2, rfl⟩ <;> simp only [go_sem] <;> rfl

theorem get_spec (hE : E.Good) (hF : E.Fits tab) {H : Heap} {c : Nat} {f : VF} {rv av : AV} {bi at' to n : Int} {xs : List Int} {F : List Nat} (hc : H c = some [frc f rv av bi at' to]) (hr : Own H rv xs F) (hn : 0 ≤ n) :
    ACall E 78 [.ptr c 0 0, .int .i64 n] H (Ret (.int .i64 (xs.getD n.toNat 0)) H) := by
  rcases hr with ⟨rfl, rfl, rfl⟩ | ⟨id, rfl, h2, rfl⟩
  · refine ent78 hE hF _ _ _ _ ?_; unfold w78
    repeat' (first | ((with_reducible refine cond_mk (fun hb => ?_) (fun hb => ?_)) <;> ((try simp only [if_true, if_false, qq, reduceCtorEq] at hb); (try (exfalso; first | (exact hb) | contradiction | omega)))) | ((with_reducible refine And.intro ?_ ?_); (first | decide | omega)) | ((with_reducible refine at_here ?_); unfold m78_0 w78_0) | (simp (disch := omega) only [go_sem, Heap.get_ne, wrap64_id, Nat.reduceAdd, Nat.reduceLeDiff, Nat.reduceSub, Nat.reduceEqDiff, Int.reduceLT, Int.reduceLE, Int.reduceEq, hc]) | (with_reducible rfl) | ((with_reducible refine And.intro ?_ ?_) <;> (with_reducible rfl)))
    all_goals ((with_reducible refine ret_q ?_); simp)
  · refine ent78 hE hF _ _ _ _ ?_; unfold w78
    repeat' (first | ((with_reducible refine cond_mk (fun hb => ?_) (fun hb => ?_)) <;> ((try simp only [if_true, if_false, qq, reduceCtorEq] at hb); (try (exfalso; first | (exact hb) | contradiction | omega)))) | ((with_reducible refine And.intro ?_ ?_); (first | decide | omega)) | ((with_reducible refine at_here ?_); unfold m78_0 w78_0) | (simp (disch := omega) only [go_sem, Heap.get_ne, wrap64_id, Nat.reduceAdd, Nat.reduceLeDiff, Nat.reduceSub, Nat.reduceEqDiff, Int.reduceLT, Int.reduceLE, Int.reduceEq, hc, h2]) | (with_reducible rfl) | ((with_reducible refine And.intro ?_ ?_) <;> (with_reducible rfl)))
    · (with_reducible refine ret_q ?_)
      rw [List.getD, List.getElem?_eq_none (by omega)]; rfl
    · (with_reducible refine ret_q ?_)
      rfl

/-- A list with one place set, made longer if need be. -/
def lset (xs : List Int) (n : Nat) (x : Int) : List Int := (xs ++ List.replicate (n + 1 - xs.length) 0).set n x
/-- What was there and is not of these stays. -/
def Kept (H H' : Heap) (S : List Nat) : Prop := ∀ k b, H k = some b → k ∉ S → H' k = some b
theorem Kept.refl (H : Heap) (S : List Nat) : Kept H H S := fun _ _ h _ => h
theorem Kept.trans {H H1 H2 : Heap} {S : List Nat} (h : Kept H H1 S) (h2 : Kept H1 H2 S) : Kept H H2 S := fun k b hk hs => h2 k b (h k b hk hs) hs
/-- What an id that is not of these, and was not there, may become. -/
theorem Kept.step {H H1 : Heap} {S : List Nat} {k : Nat} (b : Option Blk) (h : Kept H H1 S) (hk : k ∈ S ∨ H k = none) : Kept H (H1.set k b) S := fun j c hj hs => by
  rw [Heap.get_ne _ _ _ _ (fun e => by subst e; rcases hk with hk | hk; exact hs hk; rw [hk] at hj; cases hj)]; exact h j c hj hs
theorem Kept.fresh {H H1 : Heap} {S : List Nat} {k : Nat} (h : Kept H H1 S) (hk : Fresh H1 k) (hs : k ∉ S) : H k = none := by
  cases e : H k with
  | none => rfl
  | some b => exact absurd (hk k b (h k b e hs)) (Nat.lt_irrefl _)
theorem lset_ge {xs : List Int} {n : Nat} {x : Int} (h : n < xs.length) : lset xs n x = xs.set n x := by
  unfold lset
  have : n + 1 - xs.length = 0 := by omega
  rw [this]; simp
theorem lset_grow {xs : List Int} {n : Nat} {x : Int} (h : xs.length ≤ n) : lset (xs ++ [0]) n x = lset xs n x := by
  unfold lset
  have : n + 1 - xs.length = (n + 1 - (xs ++ [0]).length) + 1 := by simp; omega
  rw [this, List.replicate_succ]; simp
theorem icell_set (xs : List Int) (n : Nat) (x : Int) : (xs.map icell).set n [.int .i64 x] = (xs.set n x).map icell := by
  rw [List.map_set]; rfl

def SetPost (H : Heap) (c : Nat) (f : VF) (av : AV) (bi at' to : Int) (xs : List Int) (F : List Nat) : AV → Heap → Prop := fun v H' =>
  v = .tup [] ∧ ∃ rv' F', H' c = some [frc f rv' av bi at' to] ∧ Own H' rv' xs F' ∧ c ∉ F' ∧ (∀ k ∈ F', k ∈ F ∨ H k = none) ∧ Kept H H' (c :: F)

theorem set_spec (hE : E.Good) (hF : E.Fits tab) {H : Heap} {c : Nat} {f : VF} {rv av : AV} {bi at' to n x : Int} {xs : List Int} {F : List Nat} (hc : H c = some [frc f rv av bi at' to]) (hr : Own H rv xs F) (hcF : c ∉ F) (hn : 0 ≤ n) (hn2 : n < 100000) :
    ACall E 105 [.ptr c 0 0, .int .i64 n, .int .i64 x] H (SetPost H c f av bi at' to (lset xs n.toNat x) F) := by
  refine ent105 hE hF _ _ _ _ _ ?_; unfold w105
  refine loop_mk (σ := List Int × AV × List Nat) (fun _ => [.ptr c 0 0, .int .i64 n, .int .i64 x])
    (fun s H' => H' c = some [frc f s.2.1 av bi at' to] ∧ Own H' s.2.1 s.1 s.2.2 ∧ c ∉ s.2.2 ∧ (∀ k ∈ s.2.2, k ∈ F ∨ H k = none) ∧ Kept H H' (c :: F) ∧ lset s.1 n.toNat x = lset xs n.toNat x)
    (fun s => n.toNat + 1 - s.1.length) (xs, rv, F) rfl ⟨hc, hr, hcF, fun _ h => .inl h, Kept.refl _ _, rfl⟩ ?_
  rintro ⟨ys, rv, F2⟩ H2 K ⟨hc, hr, hcF, hF2, hkept, hls⟩ hK
  dsimp only at hc hr hcF hF2 hls
  have hnF : ∀ new, Fresh H2 new → new ∈ c :: F ∨ H new = none := fun new hn => by
    by_cases h : new ∈ c :: F
    · exact .inl h
    · exact .inr (hkept.fresh hn h)
  rcases hr with ⟨rfl, rfl, rfl⟩ | ⟨id, rfl, h2, rfl⟩
  · unfold l105_0 w105_0; simp only [go_sem]
    repeat' (first | ((with_reducible refine cond_mk (fun hb => ?_) (fun hb => ?_)) <;> ((try simp only [if_true, if_false, qq, reduceCtorEq] at hb); (try (exfalso; first | (exact hb) | contradiction | omega)))) | ((with_reducible refine And.intro ?_ ?_); (first | decide | omega)) | ((with_reducible refine at_here ?_); first | unfold m105_1 w105_1 | unfold m105_2 w105_2) | (simp (disch := omega) only [go_sem, Heap.get_ne, wrap64_id, Nat.reduceAdd, Nat.reduceLeDiff, Nat.reduceSub, Nat.reduceEqDiff, Int.reduceLT, Int.reduceLE, Int.reduceEq, hc]) | (with_reducible rfl) | ((with_reducible refine And.intro ?_ ?_) <;> (with_reducible rfl)))
    refine mk_app_nil (by decide) fun new hnew => ?_
    have hlt := hnew.lt hc
    repeat' (first | ((with_reducible refine cond_mk (fun hb => ?_) (fun hb => ?_)) <;> ((try simp only [if_true, if_false, qq, reduceCtorEq] at hb); (try (exfalso; first | (exact hb) | contradiction | omega)))) | ((with_reducible refine And.intro ?_ ?_); (first | decide | omega)) | ((with_reducible refine at_here ?_); first | unfold m105_1 w105_1 | unfold m105_2 w105_2) | (simp (disch := omega) only [go_sem, Heap.get_ne, wrap64_id, Nat.reduceAdd, Nat.reduceLeDiff, Nat.reduceSub, Nat.reduceEqDiff, Int.reduceLT, Int.reduceLE, Int.reduceEq, hc]) | (with_reducible rfl) | ((with_reducible refine And.intro ?_ ?_) <;> (with_reducible rfl)))
    refine at_eq (hK ([0], .sl 1 new 0 1, [new]) _ ⟨Heap.set_same _ _ _, ?_, by simp; omega, ?_, ?_, ?_⟩ (by simp <;> omega)) rfl
    · exact .inr ⟨new, rfl, by rw [Heap.get_ne _ _ _ _ (by omega), Heap.set_same]; rfl, rfl⟩
    · intro k hk
      obtain rfl : k = new := by simpa using hk
      exact (hnF k hnew).imp (fun h => by simpa using (List.mem_cons.1 h).resolve_left (by omega)) (fun h => h)
    · exact (hkept.step _ (hnF new hnew)).step _ (.inl (by simp))
    · rw [← hls]; exact lset_grow (xs := []) (Nat.zero_le _)
  · have hcid : c ≠ id := by simpa using hcF
    have hid : id ∈ F ∨ H id = none := hF2 id (by simp)
    unfold l105_0 w105_0; simp only [go_sem]
    repeat' (first | ((with_reducible refine cond_mk (fun hb => ?_) (fun hb => ?_)) <;> ((try simp only [if_true, if_false, qq, reduceCtorEq] at hb); (try (exfalso; first | (exact hb) | contradiction | omega)))) | ((with_reducible refine And.intro ?_ ?_); (first | decide | omega)) | ((with_reducible refine at_here ?_); first | unfold m105_1 w105_1 | unfold m105_2 w105_2) | (simp (disch := omega) only [go_sem, Heap.get_ne, wrap64_id, Nat.reduceAdd, Nat.reduceLeDiff, Nat.reduceSub, Nat.reduceEqDiff, Int.reduceLT, Int.reduceLE, Int.reduceEq, hc, h2]) | (with_reducible rfl) | ((with_reducible refine And.intro ?_ ?_) <;> (with_reducible rfl)))
    · refine mk_app h2 ⟨by simp, by simp [appLim]; omega⟩ fun new hnew => ?_
      have hlt := hnew.lt hc
      have hlt2 := hnew.lt h2
      repeat' (first | ((with_reducible refine cond_mk (fun hb => ?_) (fun hb => ?_)) <;> ((try simp only [if_true, if_false, qq, reduceCtorEq] at hb); (try (exfalso; first | (exact hb) | contradiction | omega)))) | ((with_reducible refine And.intro ?_ ?_); (first | decide | omega)) | ((with_reducible refine at_here ?_); first | unfold m105_1 w105_1 | unfold m105_2 w105_2) | (simp (disch := omega) only [go_sem, Heap.get_ne, wrap64_id, Nat.reduceAdd, Nat.reduceLeDiff, Nat.reduceSub, Nat.reduceEqDiff, Int.reduceLT, Int.reduceLE, Int.reduceEq, hc]) | (with_reducible rfl) | ((with_reducible refine And.intro ?_ ?_) <;> (with_reducible rfl)))
      refine at_eq (hK (ys ++ [0], .sl 1 new 0 (ys.length + 1), [new]) _ ⟨Heap.set_same _ _ _, ?_, by simp; omega, ?_, ?_, ?_⟩ (by simp; omega)) rfl
      · refine .inr ⟨new, by simp, ?_, rfl⟩
        rw [Heap.get_ne _ _ _ _ (by omega), Heap.set_same, List.take_of_length_le (by simp)]; simp [icell]
      · intro k hk
        obtain rfl : k = new := by simpa using hk
        exact (hnF k hnew).imp (fun h => by simpa using (List.mem_cons.1 h).resolve_left (by omega)) (fun h => h)
      · exact ((hkept.step _ (hid.imp (fun h => List.mem_cons_of_mem _ h) (fun h => h))).step _ (hnF new hnew)).step _ (.inl (by simp))
      · rw [← hls]; exact lset_grow (by omega)
    · refine ret_here ⟨rfl, .sl 1 id 0 ys.length, [id], ?_, ?_, hcF, hF2, ?_⟩
      · rw [Heap.get_ne _ _ _ _ hcid]; exact hc
      · refine .inr ⟨id, ?_, ?_, rfl⟩
        · rw [← hls, lset_ge (by omega), List.length_set]
        · rw [Heap.set_same, ← hls, lset_ge (by omega), icell_set]
      · exact hkept.step _ (hid.imp (fun h => List.mem_cons_of_mem _ h) (fun h => h))
end Go.Abs
