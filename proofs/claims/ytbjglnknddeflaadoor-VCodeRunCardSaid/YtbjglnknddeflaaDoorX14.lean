/- A part of the proof: F1, F2, F3, F4 -/
import Derived.Test.YtbjglnknddeflaaDoorX13
set_option linter.unusedSimpArgs false
set_option linter.unusedVariables false
set_option linter.unusedSimpArgs false
set_option linter.unusedVariables false
set_option maxRecDepth 100000
namespace Go.Abs
variable {E : Env}

def allowedF (op : Int) : Bool := op == 3 || op == 6 || op == 9 || op == 10 || op == 11 || op == 12 || op == 13 || op == 33 || op == 34 || op == 35 || op == 38 || (decide (op ≥ 15) && decide (op ≤ 32))

theorem allowed_spec (hE : E.Good) (hF : E.Fits tab) (op : Int) : PF E 53 [.int .i64 op] (.bool (allowedF op)) := by
  intro H; refine ent53 hE hF _ _ _ ?_; unfold w53
  repeat' (first | ((with_reducible refine cond_mk (fun hb => ?_) (fun hb => ?_)) <;> ((try simp only [if_true, if_false, qq, reduceCtorEq] at hb); (try (exfalso; first | (exact hb) | contradiction | omega)))) | ((with_reducible refine grp_mk ?_ (fun hb => ?_) (fun _ => ?_)) <;> (try simp only [if_true, if_false, qq, reduceCtorEq] at hb)) | ((with_reducible refine And.intro ?_ ?_); (first | decide | omega)) | ((with_reducible refine at_here ?_); unfold m53_0 w53_0) | (simp (disch := omega) only [go_sem, Heap.get_ne, wrap64_id, Nat.reduceAdd, Nat.reduceLeDiff, Nat.reduceSub, Nat.reduceEqDiff, Int.reduceLT, Int.reduceLE, Int.reduceEq]) | (with_reducible rfl) | ((with_reducible refine And.intro ?_ ?_) <;> (with_reducible rfl)))
  all_goals ((with_reducible refine ret_q ?_); simp [allowedF, *])

theorem allowed55_spec (hE : E.Good) (hF : E.Fits tab) (op : Int) : PF E 55 [.int .i64 op] (.bool (allowedF op)) := by
  intro H; refine ent55 hE hF _ _ _ ?_; unfold w55
  repeat' (first | ((with_reducible refine cond_mk (fun hb => ?_) (fun hb => ?_)) <;> ((try simp only [if_true, if_false, qq, reduceCtorEq] at hb); (try (exfalso; first | (exact hb) | contradiction | omega)))) | ((with_reducible refine grp_mk ?_ (fun hb => ?_) (fun _ => ?_)) <;> (try simp only [if_true, if_false, qq, reduceCtorEq] at hb)) | ((with_reducible refine And.intro ?_ ?_); (first | decide | omega)) | ((with_reducible refine at_here ?_); unfold m55_0 w55_0) | (simp (disch := omega) only [go_sem, Heap.get_ne, wrap64_id, Nat.reduceAdd, Nat.reduceLeDiff, Nat.reduceSub, Nat.reduceEqDiff, Int.reduceLT, Int.reduceLE, Int.reduceEq]) | (with_reducible rfl) | ((with_reducible refine And.intro ?_ ?_) <;> (with_reducible rfl)))
  all_goals ((with_reducible refine ret_q ?_); simp [allowedF, *])

def rowTab : List Row := [
  ⟨[110, 111, 112], 1, false, false, false, false, 1⟩,
  ⟨[114, 101, 116], 1, false, false, false, false, 1⟩,
  ⟨[116, 105, 99, 107], 1, false, false, false, false, 1⟩,
  ⟨[116, 114, 97, 112], 8, false, false, false, true, 1⟩,
  ⟨[106, 109, 112], 8, false, false, false, false, 1⟩,
  ⟨[99, 97, 108, 108], 5, false, false, false, false, 1⟩,
  ⟨[106, 122], 5, true, false, false, false, 1⟩,
  ⟨[106, 110, 122], 5, true, false, false, false, 1⟩,
  ⟨[111, 117, 116], 2, true, false, false, false, 1⟩,
  ⟨[109, 111, 118], 3, false, true, true, false, 1⟩,
  ⟨[99, 109, 111, 118, 122], 4, true, true, true, false, 1⟩,
  ⟨[99, 109, 111, 118, 110, 122], 4, true, true, true, false, 1⟩,
  ⟨[108, 100, 105], 5, false, true, false, false, 1⟩,
  ⟨[108, 100, 99], 6, false, true, false, false, 3⟩,
  ⟨[110, 101, 103], 2, true, true, false, false, 1⟩,
  ⟨[110, 111, 116], 2, true, true, false, false, 1⟩,
  ⟨[97, 100, 100], 3, true, true, true, false, 1⟩,
  ⟨[115, 117, 98], 3, true, true, true, false, 1⟩,
  ⟨[109, 117, 108], 3, true, true, true, false, 1⟩,
  ⟨[100, 105, 118], 3, true, true, true, true, 1⟩,
  ⟨[114, 101, 109], 3, true, true, true, true, 1⟩,
  ⟨[97, 110, 100], 3, true, true, true, false, 1⟩,
  ⟨[111, 114], 3, true, true, true, false, 1⟩,
  ⟨[120, 111, 114], 3, true, true, true, false, 1⟩,
  ⟨[115, 104, 108], 3, true, true, true, false, 1⟩,
  ⟨[115, 104, 114], 3, true, true, true, false, 1⟩,
  ⟨[115, 97, 114], 3, true, true, true, false, 1⟩,
  ⟨[101, 113], 3, true, true, true, false, 1⟩,
  ⟨[110, 101], 3, true, true, true, false, 1⟩,
  ⟨[108, 116], 3, true, true, true, false, 1⟩,
  ⟨[108, 101], 3, true, true, true, false, 1⟩,
  ⟨[108, 116, 117], 3, true, true, true, false, 1⟩,
  ⟨[97, 100, 100, 105], 5, true, true, false, false, 1⟩,
  ⟨[108, 100], 7, false, true, true, true, 1⟩,
  ⟨[115, 116], 7, true, false, true, true, 1⟩,
  ⟨[108, 100, 115], 5, false, true, false, false, 1⟩,
  ⟨[115, 116, 115], 5, true, false, false, false, 1⟩]

theorem k_tab : tableAV = .rp [.ro 7 (rowTab.map Row.cells)] := rfl
def zeroR : Row := ⟨[], 0, false, false, false, false, 0⟩
def okOp (op : Int) : Bool := decide (1 ≤ op ∧ op ≤ 37)
def rowOf (op : Int) : Row := if 1 ≤ op ∧ op ≤ 37 then rowTab.getD (op - 1).toNat default else zeroR
theorem okOp_t {op : Int} (h : 1 ≤ op ∧ op ≤ 37) : okOp op = true := decide_eq_true h
theorem okOp_f {op : Int} (h : ¬ (1 ≤ op ∧ op ≤ 37)) : okOp op = false := decide_eq_false h
theorem rowOf_t {op : Int} (h : 1 ≤ op ∧ op ≤ 37) : rowOf op = rowTab.getD (op - 1).toNat default := if_pos h
theorem rowOf_f {op : Int} (h : ¬ (1 ≤ op ∧ op ≤ 37)) : rowOf op = zeroR := if_neg h
theorem iad_rows (l : List Row) (q : IntKind) (n : Int) {k : AV → Prop} : pW (.iad 7 (.c (.ro 7 (l.map Row.cells))) (.c (.int q n))) k = ((0 ≤ n ∧ n < l.length) ∧ k (.rp (l.getD n.toNat default).cells)) := iad_map 7 Row.cells l q n
theorem rowTab_length : rowTab.length = 37 := rfl

theorem info_spec (hE : E.Good) (hF : E.Fits tab) (op : Int) : PF E 54 [.int .i64 op] (.tup [.agg (rowOf op).cells, .bool (okOp op)]) := by
  intro H; refine ent54 hE hF _ _ _ ?_; unfold w54
  repeat' (first | ((with_reducible refine cond_mk (fun hb => ?_) (fun hb => ?_)) <;> ((try simp only [if_true, if_false, qq, reduceCtorEq] at hb); (try (exfalso; first | (exact hb) | contradiction | omega)))) | ((with_reducible refine grp_mk ?_ (fun hb => ?_) (fun _ => ?_)) <;> (try simp only [if_true, if_false, qq, reduceCtorEq] at hb)) | ((with_reducible refine mk_alloc (fun id hid => ?_)); have hid0 := hid.none; (try have hlt := hid.lt (Heap.set_same _ _ _))) | ((with_reducible refine And.intro ?_ ?_); (rw [rowTab_length]; omega)) | ((with_reducible refine And.intro ?_ ?_); (first | decide | omega)) | ((with_reducible refine at_here ?_); unfold m54_0 w54_0) | (simp (disch := omega) only [go_sem, Heap.get_ne, wrap64_id, Nat.reduceAdd, Nat.reduceLeDiff, Nat.reduceSub, Nat.reduceEqDiff, Int.reduceLT, Int.reduceLE, Int.reduceEq, k_tab, iad_rows]) | (with_reducible rfl) | ((with_reducible refine And.intro ?_ ?_) <;> (with_reducible rfl)))
  · (with_reducible refine ret_q ?_)
    rw [rowOf_f (by omega), okOp_f (by omega)]; rfl
  · (with_reducible refine ret_q ?_)
    rw [rowOf_t (by omega), okOp_t (by omega)]

def inReg (c : VF) (n : Int) : Bool := decide (0 ≤ n) && decide (n < c.regs)

theorem reg81_spec (hE : E.Good) (hF : E.Fits tab) (n : Int) (c : VF) : PF E 81 [.int .i64 n, .rp c.cells] (.bool (inReg c n)) := by
  intro H; refine ent81 hE hF _ _ _ _ ?_; unfold w81
  repeat' (first | ((with_reducible refine cond_mk (fun hb => ?_) (fun hb => ?_)) <;> ((try simp only [if_true, if_false, qq, reduceCtorEq] at hb); (try (exfalso; first | (exact hb) | contradiction | omega)))) | ((with_reducible refine grp_mk ?_ (fun hb => ?_) (fun _ => ?_)) <;> (try simp only [if_true, if_false, qq, reduceCtorEq] at hb)) | ((with_reducible refine And.intro ?_ ?_); (first | decide | omega)) | (simp (disch := omega) only [go_sem, Heap.get_ne, wrap64_id, Nat.reduceAdd, Nat.reduceLeDiff, Nat.reduceSub, Nat.reduceEqDiff, Int.reduceLT, Int.reduceLE, Int.reduceEq]) | (with_reducible rfl) | ((with_reducible refine And.intro ?_ ?_) <;> (with_reducible rfl)))
  all_goals ((with_reducible refine ret_q ?_); rfl)

def formV (op : Int) : Int := if op = 38 then 5 else (rowOf op).form

theorem form_spec (hE : E.Good) (hF : E.Fits tab) (op : Int) : PF E 82 [.int .i64 op] (.int .i64 (formV op)) := by
  intro H; refine ent82 hE hF _ _ _ ?_; unfold w82
  repeat' (first | ((with_reducible refine cond_mk (fun hb => ?_) (fun hb => ?_)) <;> ((try simp only [if_true, if_false, qq, reduceCtorEq] at hb); (try (exfalso; first | (exact hb) | contradiction | omega)))) | ((with_reducible refine call_pure (info_spec hE hF _) ?_); intro _) | ((with_reducible refine pc_pure (info_spec hE hF _) ?_)) | ((with_reducible refine dcall_pure0 (info_spec hE hF _) ?_)) | ((with_reducible refine And.intro ?_ ?_); (first | decide | omega)) | ((with_reducible refine at_here ?_); unfold m82_0 w82_0) | (simp (disch := omega) only [go_sem, Heap.get_ne, wrap64_id, Nat.reduceAdd, Nat.reduceLeDiff, Nat.reduceSub, Nat.reduceEqDiff, Int.reduceLT, Int.reduceLE, Int.reduceEq]) | (with_reducible rfl) | ((with_reducible refine And.intro ?_ ?_) <;> (with_reducible rfl)))
  all_goals ((with_reducible refine ret_q ?_); simp [formV, *])

def fA (f : Int) : Bool := f == 2 || f == 3 || f == 4 || f == 5 || f == 7
def fB (f : Int) : Bool := f == 3 || f == 4 || f == 7
def fC (f : Int) : Bool := f == 4
def fN (f : Int) : Bool := f == 5 || f == 7
def fieldsOk (c : VF) (v : VI) (a b d n : Bool) : Bool :=
  !(a && !inReg c v.i.a || b && !inReg c v.i.b || d && !inReg c v.i.c || !a && v.i.a != 0 || !b && v.i.b != 0 || !d && v.i.c != 0 || !n && v.i.n != 0)
def immOk (c : VF) (v : VI) : Bool :=
  if v.i.op = 33 then decide (-4194304 ≤ v.i.n) && decide (v.i.n < 4194304)
  else if v.i.op = 6 then decide (0 ≤ v.i.n) && decide (v.i.n < 8)
  else if v.i.op = 34 ∨ v.i.op = 35 then decide (0 ≤ v.i.n) && decide (v.i.n < 4)
  else if v.i.op = 38 then decide (0 ≤ v.i.n) && decide (v.i.n < c.params)
  else true
def restI (c : VF) (v : VI) : Bool := v.args.all (inReg c) && fieldsOk c v (fA (formV v.i.op)) (fB (formV v.i.op)) (fC (formV v.i.op)) (fN (formV v.i.op)) && immOk c v
def validI (c : VF) (v : VI) : Bool := !(!allowedF v.i.op || decide ((6 : Int) < v.args.length) || v.i.op != 6 && decide ((0 : Int) < v.args.length)) && restI c v

theorem all_of_getD {l : List Int} {p : Int → Bool} (h : ∀ j < l.length, p (l.getD j 0) = true) : l.all p = true := by
  rw [List.all_eq_true]
  intro x hx
  obtain ⟨j, hj, rfl⟩ := List.mem_iff_getElem.1 hx
  have := h j hj
  simpa [List.getD, List.getElem?_eq_getElem hj] using this
theorem not_all_of_getD {l : List Int} {p : Int → Bool} {j : Nat} (hj : j < l.length) (h : p (l.getD j 0) = false) : l.all p = false := by
  rw [Bool.eq_false_iff]
  intro ha
  rw [List.all_eq_true] at ha
  have := ha _ (List.getElem_mem hj)
  rw [List.getD, List.getElem?_eq_getElem hj, Option.getD_some] at h
  rw [h] at this; exact absurd this (by simp)

set_option maxHeartbeats 2000000 in
theorem validI_spec (hE : E.Good) (hF : E.Fits tab) (c : VF) (v : VI) : PF E 45 [.agg c.cells, .agg v.cells] (.bool (validI c v)) := by
  skip
  intro H
  have k5 : validI c v = immOk c v → w45_5 E (Ret (.bool (validI c v)) H) (.rp c.cells) (.rp v.i.cells) H := by
    intro hv
    unfold w45_5
    repeat' (first | ((with_reducible refine cond_mk (fun hb => ?_) (fun hb => ?_)) <;> ((try simp only [if_true, if_false, qq, reduceCtorEq] at hb); (try (exfalso; first | (exact hb) | contradiction | omega)))) | ((with_reducible refine grp_mk ?_ (fun hb => ?_) (fun _ => ?_)) <;> (try simp only [if_true, if_false, qq, reduceCtorEq] at hb)) | ((with_reducible refine And.intro ?_ ?_); (first | decide | omega)) | ((with_reducible refine at_here ?_); first | unfold m45_2 w45_2 | unfold m45_6 w45_6 | unfold m45_5 w45_5 | unfold m45_4 w45_4 | unfold m45_3 w45_3 | unfold m45_0 w45_0) | (simp (disch := omega) only [go_sem, Heap.get_ne, wrap64_id, Nat.reduceAdd, Nat.reduceLeDiff, Nat.reduceSub, Nat.reduceEqDiff, Int.reduceLT, Int.reduceLE, Int.reduceEq]) | (with_reducible rfl) | ((with_reducible refine And.intro ?_ ?_) <;> (with_reducible rfl)))
    all_goals ((with_reducible refine ret_q ?_); simp [hv, immOk, *])
  have k4 : ∀ a b d n, validI c v = (fieldsOk c v a b d n && immOk c v) → w45_4 E (Ret (.bool (validI c v)) H) (.rp c.cells) (.rp v.i.cells) (.fn 81 [.rp c.cells]) (.bool a) (.bool b) (.bool d) (.bool n) H := by
    intro a b d n hv
    unfold w45_4
    repeat' (first | ((with_reducible refine cond_mk (fun hb => ?_) (fun hb => ?_)) <;> ((try simp only [if_true, if_false, qq, reduceCtorEq] at hb); (try (exfalso; first | (exact hb) | contradiction | omega)))) | ((with_reducible refine grp_mk ?_ (fun hb => ?_) (fun _ => ?_)) <;> (try simp only [if_true, if_false, qq, reduceCtorEq] at hb)) | ((with_reducible refine call_pure (reg81_spec hE hF _ c) ?_); intro _) | ((with_reducible refine pc_pure (reg81_spec hE hF _ c) ?_)) | ((with_reducible refine dcall_pure0 (reg81_spec hE hF _ c) ?_)) | ((with_reducible refine And.intro ?_ ?_); (first | decide | omega)) | ((with_reducible refine at_here ?_); first | unfold m45_2 w45_2 | unfold m45_6 w45_6 | unfold m45_4 w45_4 | unfold m45_3 w45_3 | unfold m45_0 w45_0) | (simp (disch := omega) only [go_sem, Heap.get_ne, wrap64_id, Nat.reduceAdd, Nat.reduceLeDiff, Nat.reduceSub, Nat.reduceEqDiff, Int.reduceLT, Int.reduceLE, Int.reduceEq]) | (with_reducible rfl) | ((with_reducible refine And.intro ?_ ?_) <;> (with_reducible rfl)))
    · (with_reducible refine ret_q ?_)
      rw [hv]; simp only [fieldsOk]; clear k5 hv; grind
    · refine at_here (k5 ?_)
      rw [hv]; simp only [fieldsOk]; clear k5 hv; grind
  refine ent45 hE hF _ _ _ _ ?_
  unfold w45
  repeat' (first | ((with_reducible refine cond_mk (fun hb => ?_) (fun hb => ?_)) <;> ((try simp only [if_true, if_false, qq, reduceCtorEq] at hb); (try (exfalso; first | (exact hb) | contradiction | omega)))) | ((with_reducible refine grp_mk ?_ (fun hb => ?_) (fun _ => ?_)) <;> (try simp only [if_true, if_false, qq, reduceCtorEq] at hb)) | ((with_reducible refine call_pure (allowed_spec hE hF _) ?_); intro _) | ((with_reducible refine pc_pure (allowed_spec hE hF _) ?_)) | ((with_reducible refine dcall_pure0 (allowed_spec hE hF _) ?_)) | ((with_reducible refine call_pure (reg81_spec hE hF _ c) ?_); intro _) | ((with_reducible refine pc_pure (reg81_spec hE hF _ c) ?_)) | ((with_reducible refine dcall_pure0 (reg81_spec hE hF _ c) ?_)) | ((with_reducible refine call_pure (form_spec hE hF _) ?_); intro _) | ((with_reducible refine pc_pure (form_spec hE hF _) ?_)) | ((with_reducible refine dcall_pure0 (form_spec hE hF _) ?_)) | ((with_reducible refine And.intro ?_ ?_); (first | decide | omega)) | ((with_reducible refine at_here ?_); first | unfold m45_2 w45_2 | unfold m45_6 w45_6 | unfold m45_5 w45_5 | unfold m45_4 w45_4 | unfold m45_3 w45_3) | (simp (disch := omega) only [go_sem, Heap.get_ne, wrap64_id, Nat.reduceAdd, Nat.reduceLeDiff, Nat.reduceSub, Nat.reduceEqDiff, Int.reduceLT, Int.reduceLE, Int.reduceEq]) | (with_reducible rfl) | ((with_reducible refine And.intro ?_ ?_) <;> (with_reducible rfl)))
  · (with_reducible refine ret_q ?_)
    simp only [validI, AV.bool.injEq]; have : (0:Int) ≤ v.args.length := by omega
    grind
  obtain ⟨⟨hal, hlen⟩, hc⟩ := hb
  have hv : validI c v = restI c v := by
    simp only [validI, hal]; rcases hc with hc | hc
    · simp [hc]; omega
    · simp [show v.args.length = 0 by omega]
  refine at_here ?_; unfold m45_0 w45_0; (repeat' (first | ((with_reducible refine cond_mk (fun hb => ?_) (fun hb => ?_)) <;> ((try simp only [if_true, if_false, qq, reduceCtorEq] at hb); (try (exfalso; first | (exact hb) | contradiction | omega)))) | ((with_reducible refine grp_mk ?_ (fun hb => ?_) (fun _ => ?_)) <;> (try simp only [if_true, if_false, qq, reduceCtorEq] at hb)) | ((with_reducible refine And.intro ?_ ?_); (first | decide | omega)) | (simp (disch := omega) only [go_sem, Heap.get_ne, wrap64_id, Nat.reduceAdd, Nat.reduceLeDiff, Nat.reduceSub, Nat.reduceEqDiff, Int.reduceLT, Int.reduceLE, Int.reduceEq]) | (with_reducible rfl) | ((with_reducible refine And.intro ?_ ?_) <;> (with_reducible rfl))))
  refine loop_mk (σ := Nat) (fun i => [.rp c.cells, .rp v.i.cells, .fn 81 [.rp c.cells], ints v.args, .int .i64 v.args.length, .int .i64 i]) (fun i H' => H' = H ∧ i ≤ v.args.length ∧ ∀ j < i, inReg c (v.args.getD j 0) = true) (fun i => v.args.length - i) 0 rfl ⟨rfl, Nat.zero_le _, by omega⟩ ?_
  rintro i H K ⟨rfl, hi, hall⟩ hK
  unfold l45_1 w45_1; simp only [go_sem]
  repeat' (first | ((with_reducible refine cond_mk (fun hb => ?_) (fun hb => ?_)) <;> ((try simp only [if_true, if_false, qq, reduceCtorEq] at hb); (try (exfalso; first | (exact hb) | contradiction | omega)))) | ((with_reducible refine grp_mk ?_ (fun hb => ?_) (fun _ => ?_)) <;> (try simp only [if_true, if_false, qq, reduceCtorEq] at hb)) | ((with_reducible refine call_pure (allowed_spec hE hF _) ?_); intro _) | ((with_reducible refine pc_pure (allowed_spec hE hF _) ?_)) | ((with_reducible refine dcall_pure0 (allowed_spec hE hF _) ?_)) | ((with_reducible refine call_pure (reg81_spec hE hF _ c) ?_); intro _) | ((with_reducible refine pc_pure (reg81_spec hE hF _ c) ?_)) | ((with_reducible refine dcall_pure0 (reg81_spec hE hF _ c) ?_)) | ((with_reducible refine call_pure (form_spec hE hF _) ?_); intro _) | ((with_reducible refine pc_pure (form_spec hE hF _) ?_)) | ((with_reducible refine dcall_pure0 (form_spec hE hF _) ?_)) | ((with_reducible refine And.intro ?_ ?_); (first | decide | omega)) | ((with_reducible refine at_here ?_); first | unfold m45_2 w45_2 | unfold m45_6 w45_6 | unfold m45_5 w45_5 | unfold m45_3 w45_3 | unfold m45_0 w45_0) | (simp (disch := omega) only [go_sem, Heap.get_ne, wrap64_id, Nat.reduceAdd, Nat.reduceLeDiff, Nat.reduceSub, Nat.reduceEqDiff, Int.reduceLT, Int.reduceLE, Int.reduceEq]) | (with_reducible rfl) | ((with_reducible refine And.intro ?_ ?_) <;> (with_reducible rfl)))
  · (with_reducible refine ret_q ?_)
    rw [hv, restI, not_all_of_getD (by omega) hb]; rfl
  · refine at_eq (hK (i + 1) _ ⟨rfl, by omega, fun j hj => ?_⟩ (by omega)) rfl
    rcases Nat.lt_succ_iff_lt_or_eq.1 hj with h | h
    · exact hall j h
    · rw [h]; exact hb
  all_goals
    have ha : v.args.all (inReg c) = true := all_of_getD fun j hj => hall j (by omega)
    refine at_here (k4 _ _ _ _ ?_)
    rw [hv, restI, ha, Bool.true_and]
    clear k4 k5 hK hv hall
    simp only [fA, fB, fC, fN]
    first
    | (rename_i h2 h3 h4 h5; have e2 := beq_eq_false_iff_ne.2 h2; have e3 := beq_eq_false_iff_ne.2 h3; have e4 := beq_eq_false_iff_ne.2 h4; have e5 := beq_eq_false_iff_ne.2 h5; have e7 := beq_eq_false_iff_ne.2 hb; simp only [e2, e3, e4, e5, e7, Bool.or_false])
    | (simp only [hb]; rfl)
end Go.Abs
set_option linter.unusedSimpArgs false
set_option linter.unusedVariables false
set_option maxRecDepth 100000
namespace Go.Abs
variable {E : Env}

theorem allS {P : Nat → Prop} {i : Nat} (h : ∀ j < i, P j) (hi : P i) : ∀ j < i + 1, P j := fun j hj => by
  rcases Nat.lt_succ_iff_lt_or_eq.1 hj with e | e
  · exact h j e
  · rw [e]; exact hi
theorem all_getD {α : Type} [Inhabited α] {l : List α} {p : α → Bool} (h : ∀ j < l.length, p (l.getD j default) = true) : l.all p = true := by
  rw [List.all_eq_true]
  intro x hx
  obtain ⟨j, hj, rfl⟩ := List.mem_iff_getElem.1 hx
  have := h j hj
  simpa [List.getD, List.getElem?_eq_getElem hj] using this
theorem nall_getD {α : Type} [Inhabited α] {l : List α} {p : α → Bool} {j : Nat} (hj : j < l.length) (h : p (l.getD j default) = false) : l.all p = false := by
  rw [Bool.eq_false_iff]
  intro ha
  rw [List.all_eq_true] at ha
  have := ha _ (List.getElem_mem hj)
  rw [List.getD, List.getElem?_eq_getElem hj, Option.getD_some] at h
  rw [h] at this; exact absurd this (by simp)

def inBlk (c : VF) (n : Int) : Bool := decide (0 ≤ n) && decide (n < c.blocks.length)
theorem blk43_spec (hE : E.Good) (hF : E.Fits tab) (n : Int) (c : VF) : PF E 43 [.int .i64 n, .rp c.cells] (.bool (inBlk c n)) := by
  intro H; refine ent43 hE hF _ _ _ _ ?_; unfold w43
  repeat' (first | ((with_reducible refine cond_mk (fun hb => ?_) (fun hb => ?_)) <;> ((try simp only [if_true, if_false, qq, reduceCtorEq] at hb); (try (exfalso; first | (exact hb) | contradiction | omega)))) | ((with_reducible refine grp_mk ?_ (fun hb => ?_) (fun _ => ?_)) <;> (try simp only [if_true, if_false, qq, reduceCtorEq] at hb)) | ((with_reducible refine And.intro ?_ ?_); (first | decide | omega)) | (simp (disch := omega) only [go_sem, Heap.get_ne, wrap64_id, Nat.reduceAdd, Nat.reduceLeDiff, Nat.reduceSub, Nat.reduceEqDiff, Int.reduceLT, Int.reduceLE, Int.reduceEq]) | (with_reducible rfl) | ((with_reducible refine And.intro ?_ ?_) <;> (with_reducible rfl)))
  all_goals ((with_reducible refine ret_q ?_); rfl)
theorem reg44_spec (hE : E.Good) (hF : E.Fits tab) (n : Int) (c : VF) : PF E 44 [.int .i64 n, .rp c.cells] (.bool (inReg c n)) := by
  intro H; refine ent44 hE hF _ _ _ _ ?_; unfold w44
  repeat' (first | ((with_reducible refine cond_mk (fun hb => ?_) (fun hb => ?_)) <;> ((try simp only [if_true, if_false, qq, reduceCtorEq] at hb); (try (exfalso; first | (exact hb) | contradiction | omega)))) | ((with_reducible refine grp_mk ?_ (fun hb => ?_) (fun _ => ?_)) <;> (try simp only [if_true, if_false, qq, reduceCtorEq] at hb)) | ((with_reducible refine And.intro ?_ ?_); (first | decide | omega)) | (simp (disch := omega) only [go_sem, Heap.get_ne, wrap64_id, Nat.reduceAdd, Nat.reduceLeDiff, Nat.reduceSub, Nat.reduceEqDiff, Int.reduceLT, Int.reduceLE, Int.reduceEq]) | (with_reducible rfl) | ((with_reducible refine And.intro ?_ ?_) <;> (with_reducible rfl)))
  all_goals ((with_reducible refine ret_q ?_); rfl)

def endOk (c : VF) (b : Bl) : Bool :=
  if b.en = 1 then inBlk c b.tgt && b.reg == 0 && b.els == 0
  else if b.en = 2 then inBlk c b.tgt && inBlk c b.els && inReg c b.reg
  else if b.en = 3 then inReg c b.reg && b.tgt == 0 && b.els == 0
  else if b.en = 4 then decide (1 ≤ b.tgt) && decide (b.tgt < 33554432) && b.reg == 0 && b.els == 0
  else false
def blockOk (c : VF) (b : Bl) : Bool := b.ins.all (validI c) && endOk c b
def headOk (c : VF) : Bool := !(decide (c.params < 0) || decide (6 < c.params) || decide (c.regs < 0) || decide (3000 < c.regs) || decide ((c.blocks.length : Int) < 1) || decide (1000 < (c.blocks.length : Int)))
def validF (c : VF) : Bool := headOk c && c.blocks.all (blockOk c)

set_option maxHeartbeats 2000000 in
theorem valid_spec (hE : E.Good) (hF : E.Fits tab) (c : VF) : PF E 14 [.agg c.cells] (.bool (validF c)) := by
  intro H
  refine acall_small fun hs => ?_
  have hsm : c.Sm := small_vf (hs _ (by simp))
  clear hs
  refine ent14 hE hF _ _ _ ?_; unfold w14
  repeat' (first | ((with_reducible refine cond_mk (fun hb => ?_) (fun hb => ?_)) <;> ((try simp only [if_true, if_false, qq, reduceCtorEq] at hb); (try (exfalso; first | (exact hb) | contradiction | omega)))) | ((with_reducible refine grp_mk ?_ (fun hb => ?_) (fun _ => ?_)) <;> (try simp only [if_true, if_false, qq, reduceCtorEq] at hb)) | ((with_reducible refine And.intro ?_ ?_); (first | decide | omega)) | ((with_reducible refine at_here ?_); first | unfold m14_4 w14_4 | unfold m14_5 w14_5 | unfold m14_2 w14_2) | (simp (disch := omega) only [go_sem, Heap.get_ne, wrap64_id, Nat.reduceAdd, Nat.reduceLeDiff, Nat.reduceSub, Nat.reduceEqDiff, Int.reduceLT, Int.reduceLE, Int.reduceEq]) | (with_reducible rfl) | ((with_reducible refine And.intro ?_ ?_) <;> (with_reducible rfl)))
  · (with_reducible refine ret_q ?_)
    simp only [validF, headOk, AV.bool.injEq]; grind
  have hv : validF c = c.blocks.all (blockOk c) := by simp only [validF, headOk]; grind
  refine at_here ?_; unfold m14_0 w14_0; (repeat' (first | ((with_reducible refine cond_mk (fun hb => ?_) (fun hb => ?_)) <;> ((try simp only [if_true, if_false, qq, reduceCtorEq] at hb); (try (exfalso; first | (exact hb) | contradiction | omega)))) | ((with_reducible refine grp_mk ?_ (fun hb => ?_) (fun _ => ?_)) <;> (try simp only [if_true, if_false, qq, reduceCtorEq] at hb)) | ((with_reducible refine And.intro ?_ ?_); (first | decide | omega)) | (simp (disch := omega) only [go_sem, Heap.get_ne, wrap64_id, Nat.reduceAdd, Nat.reduceLeDiff, Nat.reduceSub, Nat.reduceEqDiff, Int.reduceLT, Int.reduceLE, Int.reduceEq]) | (with_reducible rfl) | ((with_reducible refine And.intro ?_ ?_) <;> (with_reducible rfl))))
  refine loop_mk (σ := Nat) (fun i => [.rp c.cells, .fn 43 [.rp c.cells], .fn 44 [.rp c.cells], bls c.blocks, .int .i64 c.blocks.length, .int .i64 i]) (fun i H' => H' = H ∧ i ≤ c.blocks.length ∧ ∀ j < i, blockOk c (c.blocks.getD j default) = true) (fun i => c.blocks.length - i) 0 rfl ⟨rfl, Nat.zero_le _, by omega⟩ ?_
  rintro i H K ⟨rfl, hi, hall⟩ hK
  unfold l14_1 w14_1; simp only [go_sem]
  have k5 : i < c.blocks.length → ((c.blocks.getD i default).ins.all (validI c) = true) → w14_5 E (Ret (.bool (validF c)) H) K (.rp c.cells) (.fn 43 [.rp c.cells]) (.fn 44 [.rp c.cells]) (.rp (c.blocks.getD i default).cells) (bls c.blocks) (.int .i64 c.blocks.length) (.int .i64 i) H := by
    intro hil hins
    have hbad : endOk c (c.blocks.getD i default) = false → validF c = false := fun h => by rw [hv, nall_getD hil]; simp only [blockOk, h, Bool.and_false]
    have hok : endOk c (c.blocks.getD i default) = true → blockOk c (c.blocks.getD i default) = true := fun h => by simp only [blockOk, hins, h, Bool.and_true]
    have hnext : blockOk c (c.blocks.getD i default) = true → atW K [.rp c.cells, .fn 43 [.rp c.cells], .fn 44 [.rp c.cells], bls c.blocks, .int .i64 c.blocks.length, .int .i64 (i + 1)] H := fun h =>
      at_eq (hK (i + 1) _ ⟨rfl, by omega, allS hall h⟩ (by omega)) rfl
    generalize c.blocks.getD i default = b at *
    unfold w14_5
    repeat' (first | ((with_reducible refine cond_mk (fun hb => ?_) (fun hb => ?_)) <;> ((try simp only [if_true, if_false, qq, reduceCtorEq] at hb); (try (exfalso; first | (exact hb) | contradiction | omega)))) | ((with_reducible refine grp_mk ?_ (fun hb => ?_) (fun _ => ?_)) <;> (try simp only [if_true, if_false, qq, reduceCtorEq] at hb)) | ((with_reducible refine call_pure (blk43_spec hE hF _ c) ?_); intro _) | ((with_reducible refine pc_pure (blk43_spec hE hF _ c) ?_)) | ((with_reducible refine dcall_pure0 (blk43_spec hE hF _ c) ?_)) | ((with_reducible refine call_pure (reg44_spec hE hF _ c) ?_); intro _) | ((with_reducible refine pc_pure (reg44_spec hE hF _ c) ?_)) | ((with_reducible refine dcall_pure0 (reg44_spec hE hF _ c) ?_)) | ((with_reducible refine And.intro ?_ ?_); (first | decide | omega)) | ((with_reducible refine at_here ?_); first | unfold m14_4 w14_4 | unfold m14_5 w14_5 | unfold m14_2 w14_2 | unfold m14_0 w14_0) | (simp (disch := omega) only [go_sem, Heap.get_ne, wrap64_id, Nat.reduceAdd, Nat.reduceLeDiff, Nat.reduceSub, Nat.reduceEqDiff, Int.reduceLT, Int.reduceLE, Int.reduceEq]) | (with_reducible rfl) | ((with_reducible refine And.intro ?_ ?_) <;> (with_reducible rfl)))
    all_goals first
      | ((with_reducible refine ret_q ?_); rw [hbad]; simp only [endOk]; grind)
      | (refine hnext (hok ?_); simp only [endOk]; grind)
  repeat' (first | ((with_reducible refine cond_mk (fun hb => ?_) (fun hb => ?_)) <;> ((try simp only [if_true, if_false, qq, reduceCtorEq] at hb); (try (exfalso; first | (exact hb) | contradiction | omega)))) | ((with_reducible refine grp_mk ?_ (fun hb => ?_) (fun _ => ?_)) <;> (try simp only [if_true, if_false, qq, reduceCtorEq] at hb)) | ((with_reducible refine And.intro ?_ ?_); (first | decide | omega)) | ((with_reducible refine at_here ?_); first | unfold m14_4 w14_4 | unfold m14_5 w14_5 | unfold m14_0 w14_0) | (simp (disch := omega) only [go_sem, Heap.get_ne, wrap64_id, Nat.reduceAdd, Nat.reduceLeDiff, Nat.reduceSub, Nat.reduceEqDiff, Int.reduceLT, Int.reduceLE, Int.reduceEq]) | (with_reducible rfl) | ((with_reducible refine And.intro ?_ ?_) <;> (with_reducible rfl)))
  · refine at_here ?_
    unfold m14_2 w14_2
    repeat' (first | ((with_reducible refine cond_mk (fun hb => ?_) (fun hb => ?_)) <;> ((try simp only [if_true, if_false, qq, reduceCtorEq] at hb); (try (exfalso; first | (exact hb) | contradiction | omega)))) | ((with_reducible refine grp_mk ?_ (fun hb => ?_) (fun _ => ?_)) <;> (try simp only [if_true, if_false, qq, reduceCtorEq] at hb)) | ((with_reducible refine And.intro ?_ ?_); (first | decide | omega)) | ((with_reducible refine at_here ?_); first | unfold m14_4 w14_4 | unfold m14_5 w14_5 | unfold m14_2 w14_2 | unfold m14_0 w14_0) | (simp (disch := omega) only [go_sem, Heap.get_ne, wrap64_id, Nat.reduceAdd, Nat.reduceLeDiff, Nat.reduceSub, Nat.reduceEqDiff, Int.reduceLT, Int.reduceLE, Int.reduceEq]) | (with_reducible rfl) | ((with_reducible refine And.intro ?_ ?_) <;> (with_reducible rfl)))
    refine loop_mk (σ := Nat) (fun j => [.rp c.cells, .fn 43 [.rp c.cells], .fn 44 [.rp c.cells], .rp (c.blocks.getD i default).cells, bls c.blocks, .int .i64 c.blocks.length, .int .i64 i, vins (c.blocks.getD i default).ins, .int .i64 (c.blocks.getD i default).ins.length, .int .i64 j]) (fun j H' => H' = H ∧ j ≤ (c.blocks.getD i default).ins.length ∧ ∀ k < j, validI c ((c.blocks.getD i default).ins.getD k default) = true) (fun j => (c.blocks.getD i default).ins.length - j) 0 rfl ⟨rfl, Nat.zero_le _, by omega⟩ ?_
    have hlen := (hsm.2 _ (getD_mem (show i < c.blocks.length by omega))).1
    rintro j H K2 ⟨rfl, hj, hall2⟩ hK2
    unfold l14_3 w14_3; simp only [go_sem]
    repeat' (first | ((with_reducible refine cond_mk (fun hb => ?_) (fun hb => ?_)) <;> ((try simp only [if_true, if_false, qq, reduceCtorEq] at hb); (try (exfalso; first | (exact hb) | contradiction | omega)))) | ((with_reducible refine grp_mk ?_ (fun hb => ?_) (fun _ => ?_)) <;> (try simp only [if_true, if_false, qq, reduceCtorEq] at hb)) | ((with_reducible refine call_pure (validI_spec hE hF c _) ?_); intro _) | ((with_reducible refine pc_pure (validI_spec hE hF c _) ?_)) | ((with_reducible refine dcall_pure0 (validI_spec hE hF c _) ?_)) | ((with_reducible refine And.intro ?_ ?_); (first | decide | omega)) | ((with_reducible refine at_here ?_); first | unfold m14_4 w14_4 | unfold m14_2 w14_2 | unfold m14_0 w14_0) | (simp (disch := omega) only [go_sem, Heap.get_ne, wrap64_id, Nat.reduceAdd, Nat.reduceLeDiff, Nat.reduceSub, Nat.reduceEqDiff, Int.reduceLT, Int.reduceLE, Int.reduceEq]) | (with_reducible rfl) | ((with_reducible refine And.intro ?_ ?_) <;> (with_reducible rfl)))
    · (with_reducible refine ret_q ?_)
      rw [hv, nall_getD (j := i) (by omega)]; simp only [blockOk, nall_getD (j := j) (by omega) hb, Bool.false_and]
    · exact at_eq (hK2 (j + 1) _ ⟨rfl, by omega, allS hall2 hb⟩ (by omega)) rfl
    · refine at_here (k5 (by omega) (all_getD fun k hk => hall2 k (by omega)))
  · (with_reducible refine ret_q ?_)
    rw [hv, all_getD fun k hk => hall k (by omega)]
end Go.Abs
set_option linter.unusedSimpArgs false
set_option linter.unusedVariables false
set_option maxRecDepth 100000
namespace Go.Abs
variable {E : Env}

/-! ### The reference's table -/
def binF (op : Int) : Bool := decide (17 ≤ op) && decide (op ≤ 32)
theorem isBinary_spec (hE : E.Good) (hF : E.Fits tab) (op : Int) : PF E 88 [.int .i64 op] (.bool (binF op)) := by
  intro H; refine ent88 hE hF _ _ _ ?_; unfold w88
  repeat' (first | ((with_reducible refine cond_mk (fun hb => ?_) (fun hb => ?_)) <;> ((try simp only [if_true, if_false, qq, reduceCtorEq] at hb); (try (exfalso; first | (exact hb) | contradiction | omega)))) | ((with_reducible refine grp_mk ?_ (fun hb => ?_) (fun _ => ?_)) <;> (try simp only [if_true, if_false, qq, reduceCtorEq] at hb)) | ((with_reducible refine And.intro ?_ ?_); (first | decide | omega)) | (simp (disch := omega) only [go_sem, Heap.get_ne, wrap64_id, Nat.reduceAdd, Nat.reduceLeDiff, Nat.reduceSub, Nat.reduceEqDiff, Int.reduceLT, Int.reduceLE, Int.reduceEq]) | (with_reducible rfl) | ((with_reducible refine And.intro ?_ ?_) <;> (with_reducible rfl)))
  all_goals ((with_reducible refine ret_q ?_); rfl)

def formR (op : Int) : Int :=
  if op = 1 ∨ op = 2 ∨ op = 3 then 1
  else if op = 4 ∨ op = 5 then 8
  else if op = 6 ∨ op = 7 ∨ op = 8 ∨ op = 13 ∨ op = 33 ∨ op = 36 ∨ op = 37 then 5
  else if op = 9 ∨ op = 15 ∨ op = 16 then 2
  else if op = 11 ∨ op = 12 then 4
  else if op = 14 then 6
  else if op = 34 ∨ op = 35 then 7
  else if op = 10 ∨ (17 ≤ op ∧ op ≤ 32) then 3
  else 0

set_option maxHeartbeats 4000000 in
theorem formR_spec (hE : E.Good) (hF : E.Fits tab) (op : Int) : PF E 63 [.int .i64 op] (.int .i64 (formR op)) := by
  intro H; refine ent63 hE hF _ _ _ ?_; unfold w63
  repeat' (first | ((with_reducible refine cond_mk (fun hb => ?_) (fun hb => ?_)) <;> ((try simp only [if_true, if_false, qq, reduceCtorEq] at hb); (try (exfalso; first | (exact hb) | contradiction | omega)))) | ((with_reducible refine grp_mk ?_ (fun hb => ?_) (fun _ => ?_)) <;> (try simp only [if_true, if_false, qq, reduceCtorEq] at hb)) | ((with_reducible refine call_pure (isBinary_spec hE hF _) ?_); intro _) | ((with_reducible refine pc_pure (isBinary_spec hE hF _) ?_)) | ((with_reducible refine dcall_pure0 (isBinary_spec hE hF _) ?_)) | ((with_reducible refine And.intro ?_ ?_); (first | decide | omega)) | ((with_reducible refine at_here ?_); first | unfold m63_5 w63_5 | unfold m63_4 w63_4 | unfold m63_3 w63_3 | unfold m63_2 w63_2 | unfold m63_1 w63_1 | unfold m63_0 w63_0) | (simp (disch := omega) only [go_sem, Heap.get_ne, wrap64_id, Nat.reduceAdd, Nat.reduceLeDiff, Nat.reduceSub, Nat.reduceEqDiff, Int.reduceLT, Int.reduceLE, Int.reduceEq]) | (with_reducible rfl) | ((with_reducible refine And.intro ?_ ?_) <;> (with_reducible rfl)))
  all_goals ((with_reducible refine ret_q ?_); (try simp only [binF, Bool.and_eq_true, Bool.and_eq_false_iff, decide_eq_true_eq, decide_eq_false_iff_not, not_or] at *); simp [formR, *] <;> omega)


def nmTab : List (List UInt8) := [] :: rowTab.map Row.nm
def scell (s : List UInt8) : List AV := [.str ⟨s.toArray⟩]
theorem names_spec (hE : E.Good) (hF : E.Fits tab) : PF E 87 [] (.ro 1 (nmTab.map scell)) := by
  intro H; refine ent87 hE hF _ _ ?_; unfold w87
  refine ⟨rfl, ?_⟩
  exact ret_eq (Heap.Le.refl _) rfl
theorem iad_strs (l : List (List UInt8)) (q : IntKind) (n : Int) {k : AV → Prop} : pW (.iad 1 (.c (.ro 1 (l.map scell))) (.c (.int q n))) k = ((0 ≤ n ∧ n < l.length) ∧ k (.rp [.str ⟨(l.getD n.toNat default).toArray⟩])) := iad_map 1 scell l q n
theorem nmTab_length : nmTab.length = 38 := rfl

/-- The reference's row. -/
def refRow (op : Int) : Row :=
  let cond := op == 11 || op == 12
  let un := op == 15 || op == 16
  ⟨nmTab.getD op.toNat default, formR op,
    cond || un || binF op || op == 7 || op == 8 || op == 9 || op == 33 || op == 35 || op == 37,
    cond || un || binF op || op == 10 || op == 13 || op == 14 || op == 33 || op == 34 || op == 36,
    cond || binF op || op == 10 || op == 34 || op == 35,
    op == 4 || op == 20 || op == 21 || op == 34 || op == 35,
    if op = 14 then 3 else 1⟩
theorem refRow_fin : ∀ k : Fin 37, refRow (Int.ofNat (k.val + 1)) = rowTab.getD k.val default := by decide +kernel
theorem refRow_eq {op : Int} (h : 1 ≤ op ∧ op ≤ 37) : refRow op = rowOf op := by
  have := refRow_fin ⟨(op - 1).toNat, by omega⟩
  rw [rowOf_t h, ← this]
  congr 1
  simp; omega
theorem formR_range (op : Int) : formR op = 0 ↔ ¬ (1 ≤ op ∧ op ≤ 37) := by
  unfold formR
  repeat' split
  all_goals (constructor <;> intro h <;> omega)

set_option maxHeartbeats 4000000 in
theorem infoR_spec (hE : E.Good) (hF : E.Fits tab) (op : Int) : PF E 52 [.int .i64 op] (.tup [.agg (rowOf op).cells, .bool (okOp op)]) := by
  intro H; refine ent52 hE hF _ _ _ ?_; unfold w52
  repeat' (first | ((with_reducible refine cond_mk (fun hb => ?_) (fun hb => ?_)) <;> ((try simp only [if_true, if_false, qq, reduceCtorEq] at hb); (try (exfalso; first | (exact hb) | contradiction | omega)))) | ((with_reducible refine grp_mk ?_ (fun hb => ?_) (fun _ => ?_)) <;> (try simp only [if_true, if_false, qq, reduceCtorEq] at hb)) | ((with_reducible refine call_pure (formR_spec hE hF _) ?_); intro _) | ((with_reducible refine pc_pure (formR_spec hE hF _) ?_)) | ((with_reducible refine dcall_pure0 (formR_spec hE hF _) ?_)) | ((with_reducible refine call_pure (names_spec hE hF) ?_); intro _) | ((with_reducible refine pc_pure (names_spec hE hF) ?_)) | ((with_reducible refine dcall_pure0 (names_spec hE hF) ?_)) | ((with_reducible refine mk_alloc (fun id hid => ?_)); have hid0 := hid.none; (try have hlt := hid.lt (Heap.set_same _ _ _))) | ((with_reducible refine And.intro ?_ ?_); (have h0 := mt (formR_range op).2; rw [nmTab_length]; omega)) | ((with_reducible refine And.intro ?_ ?_); (first | decide | omega)) | (simp (disch := omega) only [go_sem, Heap.get_ne, wrap64_id, Nat.reduceAdd, Nat.reduceLeDiff, Nat.reduceSub, Nat.reduceEqDiff, Int.reduceLT, Int.reduceLE, Int.reduceEq, iad_strs]) | (with_reducible rfl) | ((with_reducible refine And.intro ?_ ?_) <;> (with_reducible rfl)))
  · have h0 := (formR_range op).1 hb
    (with_reducible refine ret_q ?_)
    rw [rowOf_f h0, okOp_f h0]; rfl
  have h0 : 1 ≤ op ∧ op ≤ 37 := Classical.not_not.1 (mt (formR_range op).2 hb)
  rw [← refRow_eq h0, okOp_t h0]
  repeat' (first | ((with_reducible refine cond_mk (fun hb => ?_) (fun hb => ?_)) <;> ((try simp only [if_true, if_false, qq, reduceCtorEq] at hb); (try (exfalso; first | (exact hb) | contradiction | omega)))) | ((with_reducible refine grp_mk ?_ (fun hb => ?_) (fun _ => ?_)) <;> (try simp only [if_true, if_false, qq, reduceCtorEq] at hb)) | ((with_reducible refine call_pure (isBinary_spec hE hF _) ?_); intro _) | ((with_reducible refine pc_pure (isBinary_spec hE hF _) ?_)) | ((with_reducible refine dcall_pure0 (isBinary_spec hE hF _) ?_)) | ((with_reducible refine call_pure (names_spec hE hF) ?_); intro _) | ((with_reducible refine pc_pure (names_spec hE hF) ?_)) | ((with_reducible refine dcall_pure0 (names_spec hE hF) ?_)) | ((with_reducible refine mk_alloc (fun id hid => ?_)); have hid0 := hid.none; (try have hlt := hid.lt (Heap.set_same _ _ _))) | ((with_reducible refine And.intro ?_ ?_); (rw [nmTab_length]; omega)) | ((with_reducible refine And.intro ?_ ?_); (first | decide | omega)) | ((with_reducible refine at_here ?_); first | unfold m52_1 w52_1 | unfold m52_0 w52_0) | (simp (disch := omega) only [go_sem, Heap.get_ne, wrap64_id, Nat.reduceAdd, Nat.reduceLeDiff, Nat.reduceSub, Nat.reduceEqDiff, Int.reduceLT, Int.reduceLE, Int.reduceEq, iad_strs]) | (with_reducible rfl) | ((with_reducible refine And.intro ?_ ?_) <;> (with_reducible rfl)))
  all_goals ((with_reducible refine ret_q ?_); simp [refRow, Row.cells, hb])

/-- What the reference tells of an operation of virtual code. -/
def infoV (op : Int) : Row := if op = 38 then ⟨[], 5, false, true, false, false, 0⟩ else rowOf op
theorem infoV_spec (hE : E.Good) (hF : E.Fits tab) (op : Int) : PF E 56 [.int .i64 op] (.agg (infoV op).cells) := by
  intro H; refine ent56 hE hF _ _ _ ?_; unfold w56
  repeat' (first | ((with_reducible refine cond_mk (fun hb => ?_) (fun hb => ?_)) <;> ((try simp only [if_true, if_false, qq, reduceCtorEq] at hb); (try (exfalso; first | (exact hb) | contradiction | omega)))) | ((with_reducible refine call_pure (infoR_spec hE hF _) ?_); intro _) | ((with_reducible refine pc_pure (infoR_spec hE hF _) ?_)) | ((with_reducible refine dcall_pure0 (infoR_spec hE hF _) ?_)) | ((with_reducible refine mk_alloc (fun id hid => ?_)); have hid0 := hid.none; (try have hlt := hid.lt (Heap.set_same _ _ _))) | ((with_reducible refine And.intro ?_ ?_); (first | decide | omega)) | ((with_reducible refine at_here ?_); unfold m56_0 w56_0) | (simp (disch := omega) only [go_sem, Heap.get_ne, wrap64_id, Nat.reduceAdd, Nat.reduceLeDiff, Nat.reduceSub, Nat.reduceEqDiff, Int.reduceLT, Int.reduceLE, Int.reduceEq]) | (with_reducible rfl) | ((with_reducible refine And.intro ?_ ?_) <;> (with_reducible rfl)))
  all_goals ((with_reducible refine ret_q ?_); simp [infoV, Row.cells, hb])

theorem validOperand_spec (hE : E.Good) (hF : E.Fits tab) (h : Bool) (n r : Int) : PF E 83 [.bool h, .int .i64 n, .int .i64 r] (.bool (if h = true then decide (0 ≤ n) && decide (n < r) else n == 0)) := by
  intro H; refine ent83 hE hF _ _ _ _ _ ?_; unfold w83
  repeat' (first | ((with_reducible refine cond_mk (fun hb => ?_) (fun hb => ?_)) <;> ((try simp only [if_true, if_false, qq, reduceCtorEq] at hb); (try (exfalso; first | (exact hb) | contradiction | omega)))) | ((with_reducible refine grp_mk ?_ (fun hb => ?_) (fun _ => ?_)) <;> (try simp only [if_true, if_false, qq, reduceCtorEq] at hb)) | ((with_reducible refine And.intro ?_ ?_); (first | decide | omega)) | (simp (disch := omega) only [go_sem, Heap.get_ne, wrap64_id, Nat.reduceAdd, Nat.reduceLeDiff, Nat.reduceSub, Nat.reduceEqDiff, Int.reduceLT, Int.reduceLE, Int.reduceEq]) | (with_reducible rfl) | ((with_reducible refine And.intro ?_ ?_) <;> (with_reducible rfl)))
  all_goals ((with_reducible refine ret_q ?_); simp [hb])

theorem endR_spec (hE : E.Good) (hF : E.Fits tab) (b : Bl) (c : VF) : PF E 49 [.agg b.cells, .agg c.cells] (.bool (endOk c b)) := by
  intro H; refine ent49 hE hF _ _ _ _ ?_; unfold w49
  repeat' (first | ((with_reducible refine cond_mk (fun hb => ?_) (fun hb => ?_)) <;> ((try simp only [if_true, if_false, qq, reduceCtorEq] at hb); (try (exfalso; first | (exact hb) | contradiction | omega)))) | ((with_reducible refine grp_mk ?_ (fun hb => ?_) (fun _ => ?_)) <;> (try simp only [if_true, if_false, qq, reduceCtorEq] at hb)) | ((with_reducible refine And.intro ?_ ?_); (first | decide | omega)) | (simp (disch := omega) only [go_sem, Heap.get_ne, wrap64_id, Nat.reduceAdd, Nat.reduceLeDiff, Nat.reduceSub, Nat.reduceEqDiff, Int.reduceLT, Int.reduceLE, Int.reduceEq]) | (with_reducible rfl) | ((with_reducible refine And.intro ?_ ?_) <;> (with_reducible rfl)))
  all_goals ((with_reducible refine ret_q ?_); simp only [endOk, inBlk, inReg, AV.bool.injEq]; grind)

theorem infoV_form (op : Int) : (infoV op).form = formV op := by unfold infoV formV; split <;> rfl
theorem rowTab_forms : ∀ k : Fin 37, (rowTab.getD k.val default).form ∈ [1, 2, 3, 4, 5, 6, 7, 8] ∧ (allowedF (Int.ofNat (k.val + 1)) = true → (rowTab.getD k.val default).form ∈ [1, 2, 3, 4, 5, 7] ∧ ((rowTab.getD k.val default).form = 1 ↔ k.val = 2) ∧ ((rowTab.getD k.val default).form = 5 ↔ (k.val = 5 ∨ k.val = 12 ∨ k.val = 32)) ∧ ((rowTab.getD k.val default).form = 7 ↔ (k.val = 33 ∨ k.val = 34))) := by decide +kernel
/-- The forms of virtual code's operations. -/
theorem formV_of {op : Int} (h : allowedF op = true) : (formV op = 1 ∨ formV op = 2 ∨ formV op = 3 ∨ formV op = 4 ∨ formV op = 5 ∨ formV op = 7) ∧ (formV op = 1 ↔ op = 3) ∧ (formV op = 5 ↔ op = 6 ∨ op = 13 ∨ op = 33 ∨ op = 38) ∧ (formV op = 7 ↔ op = 34 ∨ op = 35) := by
  by_cases e : op = 38
  · subst e; decide
  have h1 : 1 ≤ op ∧ op ≤ 37 := by simp [allowedF] at h; omega
  have e0 : Int.ofNat ((op - 1).toNat + 1) = op := by simp; omega
  obtain ⟨_, h3⟩ := rowTab_forms ⟨(op - 1).toNat, by omega⟩
  have hf : formV op = (rowTab.getD (op - 1).toNat default).form := by simp only [formV, if_neg e, rowOf_t h1]
  obtain ⟨h4, h5, h6, h7⟩ := h3 (by rw [e0]; exact h)
  rw [hf]
  simp only at h4 h5 h6 h7
  refine ⟨by simpa using h4, h5.trans (by omega), h6.trans (by omega), h7.trans (by omega)⟩

end Go.Abs
set_option linter.unusedSimpArgs false
set_option linter.unusedVariables false
set_option maxRecDepth 100000
namespace Go.Abs
variable {E : Env}

set_option maxHeartbeats 4000000 in
theorem validIR_spec (hE : E.Good) (hF : E.Fits tab) (v : VI) (c : VF) : PF E 50 [.agg v.cells, .agg c.cells] (.bool (validI c v)) := by
  intro H; refine ent50 hE hF _ _ _ _ ?_; unfold w50
  repeat' (first | ((with_reducible refine cond_mk (fun hb => ?_) (fun hb => ?_)) <;> ((try simp only [if_true, if_false, qq, reduceCtorEq] at hb); (try (exfalso; first | (exact hb) | contradiction | omega)))) | ((with_reducible refine grp_mk ?_ (fun hb => ?_) (fun _ => ?_)) <;> (try simp only [if_true, if_false, qq, reduceCtorEq] at hb)) | ((with_reducible refine call_pure (allowed55_spec hE hF _) ?_); intro _) | ((with_reducible refine pc_pure (allowed55_spec hE hF _) ?_)) | ((with_reducible refine dcall_pure0 (allowed55_spec hE hF _) ?_)) | ((with_reducible refine And.intro ?_ ?_); (first | decide | omega)) | ((with_reducible refine at_here ?_); first | unfold m50_2 w50_2 | unfold m50_5 w50_5 | unfold m50_4 w50_4 | unfold m50_3 w50_3) | (simp (disch := omega) only [go_sem, Heap.get_ne, wrap64_id, Nat.reduceAdd, Nat.reduceLeDiff, Nat.reduceSub, Nat.reduceEqDiff, Int.reduceLT, Int.reduceLE, Int.reduceEq]) | (with_reducible rfl) | ((with_reducible refine And.intro ?_ ?_) <;> (with_reducible rfl)))
  · (with_reducible refine ret_q ?_)
    simp only [validI, AV.bool.injEq]; have : (0:Int) ≤ v.args.length := by omega
    grind
  obtain ⟨⟨hal, hc⟩, hlen⟩ := hb
  have hv : validI c v = restI c v := by
    simp only [validI, hal]; rcases hc with hc | hc
    · simp [hc]; omega
    · simp [show v.args.length = 0 by omega]
  obtain ⟨hf0, hf1, hf5, hf7⟩ := formV_of hal
  refine at_here ?_; unfold m50_0 w50_0; (repeat' (first | ((with_reducible refine cond_mk (fun hb => ?_) (fun hb => ?_)) <;> ((try simp only [if_true, if_false, qq, reduceCtorEq] at hb); (try (exfalso; first | (exact hb) | contradiction | omega)))) | ((with_reducible refine grp_mk ?_ (fun hb => ?_) (fun _ => ?_)) <;> (try simp only [if_true, if_false, qq, reduceCtorEq] at hb)) | ((with_reducible refine And.intro ?_ ?_); (first | decide | omega)) | (simp (disch := omega) only [go_sem, Heap.get_ne, wrap64_id, Nat.reduceAdd, Nat.reduceLeDiff, Nat.reduceSub, Nat.reduceEqDiff, Int.reduceLT, Int.reduceLE, Int.reduceEq]) | (with_reducible rfl) | ((with_reducible refine And.intro ?_ ?_) <;> (with_reducible rfl))))
  refine loop_mk (σ := Nat) (fun i => [.rp v.cells, .rp c.cells, .rp v.i.cells, .int .i64 i]) (fun i H' => H' = H ∧ i ≤ v.args.length ∧ ∀ j < i, inReg c (v.args.getD j 0) = true) (fun i => v.args.length - i) 0 rfl ⟨rfl, Nat.zero_le _, by omega⟩ ?_
  rintro i H K ⟨rfl, hi, hall⟩ hK
  unfold l50_1 w50_1; simp only [go_sem]
  repeat' (first | ((with_reducible refine cond_mk (fun hb => ?_) (fun hb => ?_)) <;> ((try simp only [if_true, if_false, qq, reduceCtorEq] at hb); (try (exfalso; first | (exact hb) | contradiction | omega)))) | ((with_reducible refine grp_mk ?_ (fun hb => ?_) (fun _ => ?_)) <;> (try simp only [if_true, if_false, qq, reduceCtorEq] at hb)) | ((with_reducible refine call_pure (infoV_spec hE hF _) ?_); intro _) | ((with_reducible refine pc_pure (infoV_spec hE hF _) ?_)) | ((with_reducible refine dcall_pure0 (infoV_spec hE hF _) ?_)) | ((with_reducible refine call_pure (validOperand_spec hE hF _ _ _) ?_); intro _) | ((with_reducible refine pc_pure (validOperand_spec hE hF _ _ _) ?_)) | ((with_reducible refine dcall_pure0 (validOperand_spec hE hF _ _ _) ?_)) | ((with_reducible refine And.intro ?_ ?_); (first | decide | omega)) | ((with_reducible refine at_here ?_); first | unfold m50_2 w50_2 | unfold m50_5 w50_5 | unfold m50_4 w50_4 | unfold m50_0 w50_0) | (simp (disch := omega) only [go_sem, Heap.get_ne, wrap64_id, Nat.reduceAdd, Nat.reduceLeDiff, Nat.reduceSub, Nat.reduceEqDiff, Int.reduceLT, Int.reduceLE, Int.reduceEq, infoV_form]) | (with_reducible rfl) | ((with_reducible refine And.intro ?_ ?_) <;> (with_reducible rfl)))
  · (with_reducible refine ret_q ?_)
    rw [hv, restI, not_all_of_getD (j := i) (by omega) (by simp only [inReg]; grind)]; rfl
  · refine at_eq (hK (i + 1) _ ⟨rfl, by omega, allS hall (by simp only [inReg]; grind)⟩ (by omega)) rfl
  have ha : v.args.all (inReg c) = true := all_of_getD fun j hj => hall j (by omega)
  rw [restI, ha, Bool.true_and] at hv
  clear hK hall ha
  refine at_here ?_; unfold m50_3 w50_3
  repeat' (first | ((with_reducible refine cond_mk (fun hb => ?_) (fun hb => ?_)) <;> ((try simp only [if_true, if_false, qq, reduceCtorEq] at hb); (try (exfalso; first | (exact hb) | contradiction | omega)))) | ((with_reducible refine grp_mk ?_ (fun hb => ?_) (fun _ => ?_)) <;> (try simp only [if_true, if_false, qq, reduceCtorEq] at hb)) | ((with_reducible refine call_pure (infoV_spec hE hF _) ?_); intro _) | ((with_reducible refine pc_pure (infoV_spec hE hF _) ?_)) | ((with_reducible refine dcall_pure0 (infoV_spec hE hF _) ?_)) | ((with_reducible refine call_pure (validOperand_spec hE hF _ _ _) ?_); intro _) | ((with_reducible refine pc_pure (validOperand_spec hE hF _ _ _) ?_)) | ((with_reducible refine dcall_pure0 (validOperand_spec hE hF _ _ _) ?_)) | ((with_reducible refine And.intro ?_ ?_); (first | decide | omega)) | ((with_reducible refine at_here ?_); first | unfold m50_2 w50_2 | unfold m50_5 w50_5 | unfold m50_4 w50_4 | unfold m50_3 w50_3 | unfold m50_0 w50_0) | (simp (disch := omega) only [go_sem, Heap.get_ne, wrap64_id, Nat.reduceAdd, Nat.reduceLeDiff, Nat.reduceSub, Nat.reduceEqDiff, Int.reduceLT, Int.reduceLE, Int.reduceEq, infoV_form]) | (with_reducible rfl) | ((with_reducible refine And.intro ?_ ?_) <;> (with_reducible rfl)))
  all_goals
    (with_reducible refine ret_q ?_)
    rw [hv]; clear hv K
    simp only [fieldsOk, fA, fB, fC, fN, immOk, inReg, AV.bool.injEq]
    grind

set_option maxHeartbeats 4000000 in
theorem validR_spec (hE : E.Good) (hF : E.Fits tab) (c : VF) : PF E 21 [.agg c.cells] (.bool (validF c)) := by
  intro H
  refine acall_small fun hs => ?_
  have hsm : c.Sm := small_vf (hs _ (by simp))
  clear hs
  refine ent21 hE hF _ _ _ ?_; unfold w21
  repeat' (first | ((with_reducible refine cond_mk (fun hb => ?_) (fun hb => ?_)) <;> ((try simp only [if_true, if_false, qq, reduceCtorEq] at hb); (try (exfalso; first | (exact hb) | contradiction | omega)))) | ((with_reducible refine grp_mk ?_ (fun hb => ?_) (fun _ => ?_)) <;> (try simp only [if_true, if_false, qq, reduceCtorEq] at hb)) | ((with_reducible refine And.intro ?_ ?_); (first | decide | omega)) | ((with_reducible refine at_here ?_); first | unfold m21_5 w21_5 | unfold m21_3 w21_3 | unfold m21_2 w21_2) | (simp (disch := omega) only [go_sem, Heap.get_ne, wrap64_id, Nat.reduceAdd, Nat.reduceLeDiff, Nat.reduceSub, Nat.reduceEqDiff, Int.reduceLT, Int.reduceLE, Int.reduceEq]) | (with_reducible rfl) | ((with_reducible refine And.intro ?_ ?_) <;> (with_reducible rfl)))
  · (with_reducible refine ret_q ?_)
    simp only [validF, headOk, AV.bool.injEq]; grind
  have hv : validF c = c.blocks.all (blockOk c) := by simp only [validF, headOk]; grind
  refine at_here ?_; unfold m21_0 w21_0; (repeat' (first | ((with_reducible refine cond_mk (fun hb => ?_) (fun hb => ?_)) <;> ((try simp only [if_true, if_false, qq, reduceCtorEq] at hb); (try (exfalso; first | (exact hb) | contradiction | omega)))) | ((with_reducible refine grp_mk ?_ (fun hb => ?_) (fun _ => ?_)) <;> (try simp only [if_true, if_false, qq, reduceCtorEq] at hb)) | ((with_reducible refine And.intro ?_ ?_); (first | decide | omega)) | (simp (disch := omega) only [go_sem, Heap.get_ne, wrap64_id, Nat.reduceAdd, Nat.reduceLeDiff, Nat.reduceSub, Nat.reduceEqDiff, Int.reduceLT, Int.reduceLE, Int.reduceEq]) | (with_reducible rfl) | ((with_reducible refine And.intro ?_ ?_) <;> (with_reducible rfl))))
  refine loop_mk (σ := Nat) (fun i => [.rp c.cells, .int .i64 i]) (fun i H' => H' = H ∧ i ≤ c.blocks.length ∧ ∀ j < i, blockOk c (c.blocks.getD j default) = true) (fun i => c.blocks.length - i) 0 rfl ⟨rfl, Nat.zero_le _, by omega⟩ ?_
  rintro i H K ⟨rfl, hi, hall⟩ hK
  unfold l21_1 w21_1; simp only [go_sem]
  repeat' (first | ((with_reducible refine cond_mk (fun hb => ?_) (fun hb => ?_)) <;> ((try simp only [if_true, if_false, qq, reduceCtorEq] at hb); (try (exfalso; first | (exact hb) | contradiction | omega)))) | ((with_reducible refine grp_mk ?_ (fun hb => ?_) (fun _ => ?_)) <;> (try simp only [if_true, if_false, qq, reduceCtorEq] at hb)) | ((with_reducible refine call_pure (endR_spec hE hF _ _) ?_); intro _) | ((with_reducible refine pc_pure (endR_spec hE hF _ _) ?_)) | ((with_reducible refine dcall_pure0 (endR_spec hE hF _ _) ?_)) | ((with_reducible refine And.intro ?_ ?_); (first | decide | omega)) | ((with_reducible refine at_here ?_); first | unfold m21_5 w21_5 | unfold m21_2 w21_2 | unfold m21_0 w21_0) | (simp (disch := omega) only [go_sem, Heap.get_ne, wrap64_id, Nat.reduceAdd, Nat.reduceLeDiff, Nat.reduceSub, Nat.reduceEqDiff, Int.reduceLT, Int.reduceLE, Int.reduceEq]) | (with_reducible rfl) | ((with_reducible refine And.intro ?_ ?_) <;> (with_reducible rfl)))
  · (with_reducible refine ret_q ?_)
    rw [hv, nall_getD (j := i) (by omega)]; simp only [blockOk, hb, Bool.and_false]
  · have hend := hb
    refine at_here ?_
    unfold m21_3 w21_3
    refine loop_mk (σ := Nat) (fun j => [.rp c.cells, .int .i64 i, .rp (c.blocks.getD i default).cells, .int .i64 j]) (fun j H' => H' = H ∧ j ≤ (c.blocks.getD i default).ins.length ∧ ∀ k < j, validI c ((c.blocks.getD i default).ins.getD k default) = true) (fun j => (c.blocks.getD i default).ins.length - j) 0 rfl ⟨rfl, Nat.zero_le _, by omega⟩ ?_
    have hlen := (hsm.2 _ (getD_mem (show i < c.blocks.length by omega))).1
    rintro j H K2 ⟨rfl, hj, hall2⟩ hK2
    unfold l21_4 w21_4; simp only [go_sem]
    repeat' (first | ((with_reducible refine cond_mk (fun hb => ?_) (fun hb => ?_)) <;> ((try simp only [if_true, if_false, qq, reduceCtorEq] at hb); (try (exfalso; first | (exact hb) | contradiction | omega)))) | ((with_reducible refine grp_mk ?_ (fun hb => ?_) (fun _ => ?_)) <;> (try simp only [if_true, if_false, qq, reduceCtorEq] at hb)) | ((with_reducible refine call_pure (validIR_spec hE hF _ _) ?_); intro _) | ((with_reducible refine pc_pure (validIR_spec hE hF _ _) ?_)) | ((with_reducible refine dcall_pure0 (validIR_spec hE hF _ _) ?_)) | ((with_reducible refine And.intro ?_ ?_); (first | decide | omega)) | ((with_reducible refine at_here ?_); first | unfold m21_5 w21_5 | unfold m21_3 w21_3 | unfold m21_2 w21_2 | unfold m21_0 w21_0) | (simp (disch := omega) only [go_sem, Heap.get_ne, wrap64_id, Nat.reduceAdd, Nat.reduceLeDiff, Nat.reduceSub, Nat.reduceEqDiff, Int.reduceLT, Int.reduceLE, Int.reduceEq]) | (with_reducible rfl) | ((with_reducible refine And.intro ?_ ?_) <;> (with_reducible rfl)))
    · (with_reducible refine ret_q ?_)
      rw [hv, nall_getD (j := i) (by omega)]; simp only [blockOk, nall_getD (j := j) (by omega) hb, Bool.false_and]
    · exact at_eq (hK2 (j + 1) _ ⟨rfl, by omega, allS hall2 hb⟩ (by omega)) rfl
    · refine at_eq (hK (i + 1) _ ⟨rfl, by omega, allS hall ?_⟩ (by omega)) rfl
      simp only [blockOk, hend, all_getD fun k hk => hall2 k (by omega), Bool.and_true]
  · (with_reducible refine ret_q ?_)
    rw [hv, all_getD fun k hk => hall k (by omega)]

/-- The calls and accesses of an instruction name what there is. -/
def callOk (l : List VF) (lens : List Int) (v : VI) : Bool :=
  if v.i.op = 6 then decide (v.i.n < l.length) && (v.args.length : Int) == (l.getD v.i.n.toNat default).params
  else if v.i.op = 34 ∨ v.i.op = 35 then decide (v.i.n < lens.length)
  else true
def funcOk (l : List VF) (lens : List Int) (c : VF) : Bool := validF c && c.blocks.all fun b => b.ins.all (callOk l lens)
def progHead (l : List VF) (lens : List Int) : Bool := !(decide ((l.length : Int) < 1) || decide (8 < (l.length : Int)) || decide (4 < (lens.length : Int)))
def lenOk (n : Int) : Bool := decide (1 ≤ n) && decide (n ≤ 16)
def progOk (l : List VF) (lens : List Int) : Bool := progHead l lens && lens.all lenOk && l.all (funcOk l lens)

theorem validF_n {c : VF} (h : validF c = true) {b : Bl} (hb : b ∈ c.blocks) {v : VI} (hv : v ∈ b.ins) : validI c v = true := by
  simp only [validF, Bool.and_eq_true, List.all_eq_true, blockOk] at h
  exact (h.2 b hb).1 v hv
theorem validI_n {c : VF} {v : VI} (h : validI c v = true) (h2 : v.i.op = 6 ∨ v.i.op = 34 ∨ v.i.op = 35) : 0 ≤ v.i.n := by
  simp only [validI, restI, immOk] at h; grind

set_option maxHeartbeats 8000000 in
theorem progR_spec (hE : E.Good) (hF : E.Fits tab) (l : List VF) (lens : List Int) : PF E 24 [vfs l, ints lens] (.bool (progOk l lens)) := by
  intro H
  refine acall_small fun hs => ?_
  have hsm := small_vfs (hs _ List.mem_cons_self)
  clear hs
  refine ent24 hE hF _ _ _ _ ?_; unfold w24
  repeat' (first | ((with_reducible refine cond_mk (fun hb => ?_) (fun hb => ?_)) <;> ((try simp only [if_true, if_false, qq, reduceCtorEq] at hb); (try (exfalso; first | (exact hb) | contradiction | omega)))) | ((with_reducible refine grp_mk ?_ (fun hb => ?_) (fun _ => ?_)) <;> (try simp only [if_true, if_false, qq, reduceCtorEq] at hb)) | ((with_reducible refine And.intro ?_ ?_); (first | decide | omega)) | ((with_reducible refine at_here ?_); first | unfold m24_2 w24_2 | unfold m24_11 w24_11 | unfold m24_10 w24_10 | unfold m24_8 w24_8 | unfold m24_6 w24_6 | unfold m24_5 w24_5 | unfold m24_3 w24_3) | (simp (disch := omega) only [go_sem, Heap.get_ne, wrap64_id, Nat.reduceAdd, Nat.reduceLeDiff, Nat.reduceSub, Nat.reduceEqDiff, Int.reduceLT, Int.reduceLE, Int.reduceEq]) | (with_reducible rfl) | ((with_reducible refine And.intro ?_ ?_) <;> (with_reducible rfl)))
  · (with_reducible refine ret_q ?_)
    simp only [progOk, progHead, AV.bool.injEq]; grind
  have hv : progOk l lens = (lens.all lenOk && l.all (funcOk l lens)) := by simp only [progOk, progHead]; grind
  refine at_here ?_; unfold m24_0 w24_0; (repeat' (first | ((with_reducible refine cond_mk (fun hb => ?_) (fun hb => ?_)) <;> ((try simp only [if_true, if_false, qq, reduceCtorEq] at hb); (try (exfalso; first | (exact hb) | contradiction | omega)))) | ((with_reducible refine grp_mk ?_ (fun hb => ?_) (fun _ => ?_)) <;> (try simp only [if_true, if_false, qq, reduceCtorEq] at hb)) | ((with_reducible refine And.intro ?_ ?_); (first | decide | omega)) | (simp (disch := omega) only [go_sem, Heap.get_ne, wrap64_id, Nat.reduceAdd, Nat.reduceLeDiff, Nat.reduceSub, Nat.reduceEqDiff, Int.reduceLT, Int.reduceLE, Int.reduceEq]) | (with_reducible rfl) | ((with_reducible refine And.intro ?_ ?_) <;> (with_reducible rfl))))
  refine loop_mk (σ := Nat) (fun i => [vfs l, ints lens, .int .i64 i]) (fun i H' => H' = H ∧ i ≤ lens.length ∧ ∀ j < i, lenOk (lens.getD j 0) = true) (fun i => lens.length - i) 0 rfl ⟨rfl, Nat.zero_le _, by omega⟩ ?_
  rintro i H K ⟨rfl, hi, hall⟩ hK
  unfold l24_1 w24_1; simp only [go_sem]
  repeat' (first | ((with_reducible refine cond_mk (fun hb => ?_) (fun hb => ?_)) <;> ((try simp only [if_true, if_false, qq, reduceCtorEq] at hb); (try (exfalso; first | (exact hb) | contradiction | omega)))) | ((with_reducible refine grp_mk ?_ (fun hb => ?_) (fun _ => ?_)) <;> (try simp only [if_true, if_false, qq, reduceCtorEq] at hb)) | ((with_reducible refine And.intro ?_ ?_); (first | decide | omega)) | ((with_reducible refine at_here ?_); first | unfold m24_2 w24_2 | unfold m24_11 w24_11 | unfold m24_10 w24_10 | unfold m24_8 w24_8 | unfold m24_6 w24_6 | unfold m24_5 w24_5 | unfold m24_0 w24_0) | (simp (disch := omega) only [go_sem, Heap.get_ne, wrap64_id, Nat.reduceAdd, Nat.reduceLeDiff, Nat.reduceSub, Nat.reduceEqDiff, Int.reduceLT, Int.reduceLE, Int.reduceEq]) | (with_reducible rfl) | ((with_reducible refine And.intro ?_ ?_) <;> (with_reducible rfl)))
  · (with_reducible refine ret_q ?_)
    rw [hv, not_all_of_getD (j := i) (by omega) (by simp only [lenOk]; grind)]; rfl
  · exact at_eq (hK (i + 1) _ ⟨rfl, by omega, allS hall (by simp only [lenOk]; grind)⟩ (by omega)) rfl
  rw [all_of_getD fun j hj => hall j (by omega), Bool.true_and] at hv
  clear hK hall
  refine at_here ?_
  unfold m24_3 w24_3
  refine loop_mk (σ := Nat) (fun i => [vfs l, ints lens, .int .i64 i]) (fun i H' => H' = H ∧ i ≤ l.length ∧ ∀ j < i, funcOk l lens (l.getD j default) = true) (fun i => l.length - i) 0 rfl ⟨rfl, Nat.zero_le _, by omega⟩ ?_
  rintro f H K1 ⟨rfl, hf, hall1⟩ hK1
  unfold l24_4 w24_4; simp only [go_sem]
  repeat' (first | ((with_reducible refine cond_mk (fun hb => ?_) (fun hb => ?_)) <;> ((try simp only [if_true, if_false, qq, reduceCtorEq] at hb); (try (exfalso; first | (exact hb) | contradiction | omega)))) | ((with_reducible refine grp_mk ?_ (fun hb => ?_) (fun _ => ?_)) <;> (try simp only [if_true, if_false, qq, reduceCtorEq] at hb)) | ((with_reducible refine call_pure (validR_spec hE hF _) ?_); intro _) | ((with_reducible refine pc_pure (validR_spec hE hF _) ?_)) | ((with_reducible refine dcall_pure0 (validR_spec hE hF _) ?_)) | ((with_reducible refine And.intro ?_ ?_); (first | decide | omega)) | ((with_reducible refine at_here ?_); first | unfold m24_2 w24_2 | unfold m24_11 w24_11 | unfold m24_10 w24_10 | unfold m24_8 w24_8 | unfold m24_5 w24_5 | unfold m24_3 w24_3 | unfold m24_0 w24_0) | (simp (disch := omega) only [go_sem, Heap.get_ne, wrap64_id, Nat.reduceAdd, Nat.reduceLeDiff, Nat.reduceSub, Nat.reduceEqDiff, Int.reduceLT, Int.reduceLE, Int.reduceEq]) | (with_reducible rfl) | ((with_reducible refine And.intro ?_ ?_) <;> (with_reducible rfl)))
  · (with_reducible refine ret_q ?_)
    rw [hv, nall_getD (j := f) (by omega)]; simp only [funcOk, hb, Bool.false_and]
  rotate_left
  · (with_reducible refine ret_q ?_)
    rw [hv, all_getD fun k hk => hall1 k (by omega)]
  have hval := hb
  have hbad : ∀ b, b < (l.getD f default).blocks.length → ∀ j, j < ((l.getD f default).blocks.getD b default).ins.length → callOk l lens (((l.getD f default).blocks.getD b default).ins.getD j default) = false → progOk l lens = false := fun b hb j hj h => by
    rw [hv, nall_getD (j := f) (by omega)]
    simp only [funcOk, Bool.and_eq_false_iff]; right
    exact nall_getD hb (nall_getD hj h)
  have hsmf := hsm.2 _ (getD_mem (show f < l.length by omega))
  refine at_here ?_
  unfold m24_6 w24_6
  refine loop_mk (σ := Nat) (fun i => [vfs l, ints lens, .int .i64 f, .int .i64 i]) (fun i H' => H' = H ∧ i ≤ (l.getD f default).blocks.length ∧ ∀ j < i, ((l.getD f default).blocks.getD j default).ins.all (callOk l lens) = true) (fun i => (l.getD f default).blocks.length - i) 0 rfl ⟨rfl, Nat.zero_le _, by omega⟩ ?_
  rintro b H K2 ⟨rfl, hbl, hall2⟩ hK2
  have h64 := hsmf.1
  unfold l24_7 w24_7; simp only [go_sem]
  repeat' (first | ((with_reducible refine cond_mk (fun hb => ?_) (fun hb => ?_)) <;> ((try simp only [if_true, if_false, qq, reduceCtorEq] at hb); (try (exfalso; first | (exact hb) | contradiction | omega)))) | ((with_reducible refine grp_mk ?_ (fun hb => ?_) (fun _ => ?_)) <;> (try simp only [if_true, if_false, qq, reduceCtorEq] at hb)) | ((with_reducible refine And.intro ?_ ?_); (first | decide | omega)) | ((with_reducible refine at_here ?_); first | unfold m24_2 w24_2 | unfold m24_11 w24_11 | unfold m24_10 w24_10 | unfold m24_6 w24_6 | unfold m24_5 w24_5 | unfold m24_3 w24_3 | unfold m24_0 w24_0) | (simp (disch := omega) only [go_sem, Heap.get_ne, wrap64_id, Nat.reduceAdd, Nat.reduceLeDiff, Nat.reduceSub, Nat.reduceEqDiff, Int.reduceLT, Int.reduceLE, Int.reduceEq]) | (with_reducible rfl) | ((with_reducible refine And.intro ?_ ?_) <;> (with_reducible rfl)))
  rotate_left
  · refine at_eq (hK1 (f + 1) _ ⟨rfl, by omega, allS hall1 ?_⟩ (by omega)) rfl
    simp only [funcOk, hval, Bool.true_and]
    exact all_getD fun k hk => hall2 k (by omega)
  have hsmb := hsmf.2 _ (getD_mem (show b < (l.getD f default).blocks.length by omega))
  have h65 := hsmb.1
  have hn : ∀ j, j < ((l.getD f default).blocks.getD b default).ins.length → validI (l.getD f default) (((l.getD f default).blocks.getD b default).ins.getD j default) = true := fun j hj => validF_n hval (getD_mem (by omega)) (getD_mem hj)
  have hbad := hbad b (by omega)
  refine at_here ?_
  unfold m24_8 w24_8
  refine loop_mk (σ := Nat) (fun i => [vfs l, ints lens, .int .i64 f, .int .i64 b, .int .i64 i]) (fun i H' => H' = H ∧ i ≤ ((l.getD f default).blocks.getD b default).ins.length ∧ ∀ j < i, callOk l lens (((l.getD f default).blocks.getD b default).ins.getD j default) = true) (fun i => ((l.getD f default).blocks.getD b default).ins.length - i) 0 rfl ⟨rfl, Nat.zero_le _, by omega⟩ ?_
  rintro j H K3 ⟨rfl, hj, hall3⟩ hK3
  have hn6 : j < ((l.getD f default).blocks.getD b default).ins.length → (((l.getD f default).blocks.getD b default).ins.getD j default).i.op = 6 → 0 ≤ (((l.getD f default).blocks.getD b default).ins.getD j default).i.n := fun h h2 => validI_n (hn j h) (.inl h2)
  unfold l24_9 w24_9; simp only [go_sem]
  repeat' (first | ((with_reducible refine cond_mk (fun hb => ?_) (fun hb => ?_)) <;> ((try simp only [if_true, if_false, qq, reduceCtorEq] at hb); (try (exfalso; first | (exact hb) | contradiction | omega)))) | ((with_reducible refine grp_mk ?_ (fun hb => ?_) (fun _ => ?_)) <;> (try simp only [if_true, if_false, qq, reduceCtorEq] at hb)) | ((with_reducible refine And.intro ?_ ?_); (first | decide | omega)) | ((with_reducible refine at_here ?_); first | unfold m24_2 w24_2 | unfold m24_11 w24_11 | unfold m24_10 w24_10 | unfold m24_8 w24_8 | unfold m24_6 w24_6 | unfold m24_5 w24_5 | unfold m24_3 w24_3 | unfold m24_0 w24_0) | (simp (disch := omega) only [go_sem, Heap.get_ne, wrap64_id, Nat.reduceAdd, Nat.reduceLeDiff, Nat.reduceSub, Nat.reduceEqDiff, Int.reduceLT, Int.reduceLE, Int.reduceEq]) | (with_reducible rfl) | ((with_reducible refine And.intro ?_ ?_) <;> (with_reducible rfl)))
  · (with_reducible refine ret_q ?_)
    rw [hbad j (by omega) (by simp only [callOk]; clear hK1 hK2 hK3 hall1 hall2 hall3 hbad hn; grind)]
  · (with_reducible refine ret_q ?_)
    rw [hbad j (by omega) (by simp only [callOk]; clear hK1 hK2 hK3 hall1 hall2 hall3 hbad hn; grind)]
  · refine at_eq (hK3 (j + 1) _ ⟨rfl, by omega, allS hall3 ?_⟩ (by omega)) rfl
    simp only [callOk]; clear hK1 hK2 hK3 hall1 hall2 hall3 hbad hn; grind
  · exact at_eq (hK2 (b + 1) _ ⟨rfl, by omega, allS hall2 (all_getD fun k hk => hall3 k (by omega))⟩ (by omega)) rfl

set_option maxHeartbeats 8000000 in
theorem prog_spec (hE : E.Good) (hF : E.Fits tab) (l : List VF) (lens : List Int) : PF E 23 [vfs l, ints lens] (.bool (progOk l lens)) := by
  intro H
  refine acall_small fun hs => ?_
  have hsm := small_vfs (hs _ List.mem_cons_self)
  clear hs
  refine ent23 hE hF _ _ _ _ ?_; unfold w23
  repeat' (first | ((with_reducible refine cond_mk (fun hb => ?_) (fun hb => ?_)) <;> ((try simp only [if_true, if_false, qq, reduceCtorEq] at hb); (try (exfalso; first | (exact hb) | contradiction | omega)))) | ((with_reducible refine grp_mk ?_ (fun hb => ?_) (fun _ => ?_)) <;> (try simp only [if_true, if_false, qq, reduceCtorEq] at hb)) | ((with_reducible refine And.intro ?_ ?_); (first | decide | omega)) | ((with_reducible refine at_here ?_); first | unfold m23_2 w23_2 | unfold m23_11 w23_11 | unfold m23_10 w23_10 | unfold m23_8 w23_8 | unfold m23_6 w23_6 | unfold m23_5 w23_5 | unfold m23_3 w23_3) | (simp (disch := omega) only [go_sem, Heap.get_ne, wrap64_id, Nat.reduceAdd, Nat.reduceLeDiff, Nat.reduceSub, Nat.reduceEqDiff, Int.reduceLT, Int.reduceLE, Int.reduceEq]) | (with_reducible rfl) | ((with_reducible refine And.intro ?_ ?_) <;> (with_reducible rfl)))
  · (with_reducible refine ret_q ?_)
    simp only [progOk, progHead, AV.bool.injEq]; grind
  have hv : progOk l lens = (lens.all lenOk && l.all (funcOk l lens)) := by simp only [progOk, progHead]; grind
  refine at_here ?_; unfold m23_0 w23_0; (repeat' (first | ((with_reducible refine cond_mk (fun hb => ?_) (fun hb => ?_)) <;> ((try simp only [if_true, if_false, qq, reduceCtorEq] at hb); (try (exfalso; first | (exact hb) | contradiction | omega)))) | ((with_reducible refine grp_mk ?_ (fun hb => ?_) (fun _ => ?_)) <;> (try simp only [if_true, if_false, qq, reduceCtorEq] at hb)) | ((with_reducible refine And.intro ?_ ?_); (first | decide | omega)) | (simp (disch := omega) only [go_sem, Heap.get_ne, wrap64_id, Nat.reduceAdd, Nat.reduceLeDiff, Nat.reduceSub, Nat.reduceEqDiff, Int.reduceLT, Int.reduceLE, Int.reduceEq]) | (with_reducible rfl) | ((with_reducible refine And.intro ?_ ?_) <;> (with_reducible rfl))))
  refine loop_mk (σ := Nat) (fun i => [vfs l, ints lens, ints lens, .int .i64 lens.length, .int .i64 i]) (fun i H' => H' = H ∧ i ≤ lens.length ∧ ∀ j < i, lenOk (lens.getD j 0) = true) (fun i => lens.length - i) 0 rfl ⟨rfl, Nat.zero_le _, by omega⟩ ?_
  rintro i H K ⟨rfl, hi, hall⟩ hK
  unfold l23_1 w23_1; simp only [go_sem]
  repeat' (first | ((with_reducible refine cond_mk (fun hb => ?_) (fun hb => ?_)) <;> ((try simp only [if_true, if_false, qq, reduceCtorEq] at hb); (try (exfalso; first | (exact hb) | contradiction | omega)))) | ((with_reducible refine grp_mk ?_ (fun hb => ?_) (fun _ => ?_)) <;> (try simp only [if_true, if_false, qq, reduceCtorEq] at hb)) | ((with_reducible refine And.intro ?_ ?_); (first | decide | omega)) | ((with_reducible refine at_here ?_); first | unfold m23_2 w23_2 | unfold m23_11 w23_11 | unfold m23_10 w23_10 | unfold m23_8 w23_8 | unfold m23_6 w23_6 | unfold m23_5 w23_5 | unfold m23_0 w23_0) | (simp (disch := omega) only [go_sem, Heap.get_ne, wrap64_id, Nat.reduceAdd, Nat.reduceLeDiff, Nat.reduceSub, Nat.reduceEqDiff, Int.reduceLT, Int.reduceLE, Int.reduceEq]) | (with_reducible rfl) | ((with_reducible refine And.intro ?_ ?_) <;> (with_reducible rfl)))
  · (with_reducible refine ret_q ?_)
    rw [hv, not_all_of_getD (j := i) (by omega) (by simp only [lenOk]; grind)]; rfl
  · exact at_eq (hK (i + 1) _ ⟨rfl, by omega, allS hall (by simp only [lenOk]; grind)⟩ (by omega)) rfl
  rw [all_of_getD fun j hj => hall j (by omega), Bool.true_and] at hv
  clear hK hall
  refine at_here ?_; unfold m23_3 w23_3; (repeat' (first | ((with_reducible refine cond_mk (fun hb => ?_) (fun hb => ?_)) <;> ((try simp only [if_true, if_false, qq, reduceCtorEq] at hb); (try (exfalso; first | (exact hb) | contradiction | omega)))) | ((with_reducible refine grp_mk ?_ (fun hb => ?_) (fun _ => ?_)) <;> (try simp only [if_true, if_false, qq, reduceCtorEq] at hb)) | ((with_reducible refine And.intro ?_ ?_); (first | decide | omega)) | (simp (disch := omega) only [go_sem, Heap.get_ne, wrap64_id, Nat.reduceAdd, Nat.reduceLeDiff, Nat.reduceSub, Nat.reduceEqDiff, Int.reduceLT, Int.reduceLE, Int.reduceEq]) | (with_reducible rfl) | ((with_reducible refine And.intro ?_ ?_) <;> (with_reducible rfl))))
  refine loop_mk (σ := Nat) (fun i => [vfs l, ints lens, vfs l, .int .i64 l.length, .int .i64 i]) (fun i H' => H' = H ∧ i ≤ l.length ∧ ∀ j < i, funcOk l lens (l.getD j default) = true) (fun i => l.length - i) 0 rfl ⟨rfl, Nat.zero_le _, by omega⟩ ?_
  rintro f H K1 ⟨rfl, hf, hall1⟩ hK1
  unfold l23_4 w23_4; simp only [go_sem]
  repeat' (first | ((with_reducible refine cond_mk (fun hb => ?_) (fun hb => ?_)) <;> ((try simp only [if_true, if_false, qq, reduceCtorEq] at hb); (try (exfalso; first | (exact hb) | contradiction | omega)))) | ((with_reducible refine grp_mk ?_ (fun hb => ?_) (fun _ => ?_)) <;> (try simp only [if_true, if_false, qq, reduceCtorEq] at hb)) | ((with_reducible refine call_pure (valid_spec hE hF _) ?_); intro _) | ((with_reducible refine pc_pure (valid_spec hE hF _) ?_)) | ((with_reducible refine dcall_pure0 (valid_spec hE hF _) ?_)) | ((with_reducible refine And.intro ?_ ?_); (first | decide | omega)) | ((with_reducible refine at_here ?_); first | unfold m23_2 w23_2 | unfold m23_11 w23_11 | unfold m23_10 w23_10 | unfold m23_8 w23_8 | unfold m23_5 w23_5 | unfold m23_3 w23_3 | unfold m23_0 w23_0) | (simp (disch := omega) only [go_sem, Heap.get_ne, wrap64_id, Nat.reduceAdd, Nat.reduceLeDiff, Nat.reduceSub, Nat.reduceEqDiff, Int.reduceLT, Int.reduceLE, Int.reduceEq]) | (with_reducible rfl) | ((with_reducible refine And.intro ?_ ?_) <;> (with_reducible rfl)))
  · (with_reducible refine ret_q ?_)
    rw [hv, nall_getD (j := f) (by omega)]; simp only [funcOk, hb, Bool.false_and]
  rotate_left
  · (with_reducible refine ret_q ?_)
    rw [hv, all_getD fun k hk => hall1 k (by omega)]
  have hval := hb
  have hbad : ∀ b, b < (l.getD f default).blocks.length → ∀ j, j < ((l.getD f default).blocks.getD b default).ins.length → callOk l lens (((l.getD f default).blocks.getD b default).ins.getD j default) = false → progOk l lens = false := fun b hb j hj h => by
    rw [hv, nall_getD (j := f) (by omega)]
    simp only [funcOk, Bool.and_eq_false_iff]; right
    exact nall_getD hb (nall_getD hj h)
  have hsmf := hsm.2 _ (getD_mem (show f < l.length by omega))
  refine at_here ?_; unfold m23_6 w23_6; (repeat' (first | ((with_reducible refine cond_mk (fun hb => ?_) (fun hb => ?_)) <;> ((try simp only [if_true, if_false, qq, reduceCtorEq] at hb); (try (exfalso; first | (exact hb) | contradiction | omega)))) | ((with_reducible refine grp_mk ?_ (fun hb => ?_) (fun _ => ?_)) <;> (try simp only [if_true, if_false, qq, reduceCtorEq] at hb)) | ((with_reducible refine And.intro ?_ ?_); (first | decide | omega)) | (simp (disch := omega) only [go_sem, Heap.get_ne, wrap64_id, Nat.reduceAdd, Nat.reduceLeDiff, Nat.reduceSub, Nat.reduceEqDiff, Int.reduceLT, Int.reduceLE, Int.reduceEq]) | (with_reducible rfl) | ((with_reducible refine And.intro ?_ ?_) <;> (with_reducible rfl))))
  refine loop_mk (σ := Nat) (fun i => [vfs l, ints lens, vfs l, .int .i64 l.length, .int .i64 f, bls (l.getD f default).blocks, .int .i64 (l.getD f default).blocks.length, .int .i64 i]) (fun i H' => H' = H ∧ i ≤ (l.getD f default).blocks.length ∧ ∀ j < i, ((l.getD f default).blocks.getD j default).ins.all (callOk l lens) = true) (fun i => (l.getD f default).blocks.length - i) 0 rfl ⟨rfl, Nat.zero_le _, by omega⟩ ?_
  rintro b H K2 ⟨rfl, hbl, hall2⟩ hK2
  have h64 := hsmf.1
  unfold l23_7 w23_7; simp only [go_sem]
  repeat' (first | ((with_reducible refine cond_mk (fun hb => ?_) (fun hb => ?_)) <;> ((try simp only [if_true, if_false, qq, reduceCtorEq] at hb); (try (exfalso; first | (exact hb) | contradiction | omega)))) | ((with_reducible refine grp_mk ?_ (fun hb => ?_) (fun _ => ?_)) <;> (try simp only [if_true, if_false, qq, reduceCtorEq] at hb)) | ((with_reducible refine And.intro ?_ ?_); (first | decide | omega)) | ((with_reducible refine at_here ?_); first | unfold m23_2 w23_2 | unfold m23_11 w23_11 | unfold m23_10 w23_10 | unfold m23_6 w23_6 | unfold m23_5 w23_5 | unfold m23_3 w23_3 | unfold m23_0 w23_0) | (simp (disch := omega) only [go_sem, Heap.get_ne, wrap64_id, Nat.reduceAdd, Nat.reduceLeDiff, Nat.reduceSub, Nat.reduceEqDiff, Int.reduceLT, Int.reduceLE, Int.reduceEq]) | (with_reducible rfl) | ((with_reducible refine And.intro ?_ ?_) <;> (with_reducible rfl)))
  rotate_left
  · refine at_eq (hK1 (f + 1) _ ⟨rfl, by omega, allS hall1 ?_⟩ (by omega)) rfl
    simp only [funcOk, hval, Bool.true_and]
    exact all_getD fun k hk => hall2 k (by omega)
  have hsmb := hsmf.2 _ (getD_mem (show b < (l.getD f default).blocks.length by omega))
  have h65 := hsmb.1
  have hn : ∀ j, j < ((l.getD f default).blocks.getD b default).ins.length → validI (l.getD f default) (((l.getD f default).blocks.getD b default).ins.getD j default) = true := fun j hj => validF_n hval (getD_mem (by omega)) (getD_mem hj)
  have hbad := hbad b (by omega)
  refine at_here ?_; unfold m23_8 w23_8; (repeat' (first | ((with_reducible refine cond_mk (fun hb => ?_) (fun hb => ?_)) <;> ((try simp only [if_true, if_false, qq, reduceCtorEq] at hb); (try (exfalso; first | (exact hb) | contradiction | omega)))) | ((with_reducible refine grp_mk ?_ (fun hb => ?_) (fun _ => ?_)) <;> (try simp only [if_true, if_false, qq, reduceCtorEq] at hb)) | ((with_reducible refine And.intro ?_ ?_); (first | decide | omega)) | (simp (disch := omega) only [go_sem, Heap.get_ne, wrap64_id, Nat.reduceAdd, Nat.reduceLeDiff, Nat.reduceSub, Nat.reduceEqDiff, Int.reduceLT, Int.reduceLE, Int.reduceEq]) | (with_reducible rfl) | ((with_reducible refine And.intro ?_ ?_) <;> (with_reducible rfl))))
  refine loop_mk (σ := Nat) (fun i => [vfs l, ints lens, vfs l, .int .i64 l.length, .int .i64 f, bls (l.getD f default).blocks, .int .i64 (l.getD f default).blocks.length, .int .i64 b, vins ((l.getD f default).blocks.getD b default).ins, .int .i64 ((l.getD f default).blocks.getD b default).ins.length, .int .i64 i]) (fun i H' => H' = H ∧ i ≤ ((l.getD f default).blocks.getD b default).ins.length ∧ ∀ j < i, callOk l lens (((l.getD f default).blocks.getD b default).ins.getD j default) = true) (fun i => ((l.getD f default).blocks.getD b default).ins.length - i) 0 rfl ⟨rfl, Nat.zero_le _, by omega⟩ ?_
  rintro j H K3 ⟨rfl, hj, hall3⟩ hK3
  have hn6 : j < ((l.getD f default).blocks.getD b default).ins.length → (((l.getD f default).blocks.getD b default).ins.getD j default).i.op = 6 → 0 ≤ (((l.getD f default).blocks.getD b default).ins.getD j default).i.n := fun h h2 => validI_n (hn j h) (.inl h2)
  unfold l23_9 w23_9; simp only [go_sem]
  repeat' (first | ((with_reducible refine cond_mk (fun hb => ?_) (fun hb => ?_)) <;> ((try simp only [if_true, if_false, qq, reduceCtorEq] at hb); (try (exfalso; first | (exact hb) | contradiction | omega)))) | ((with_reducible refine grp_mk ?_ (fun hb => ?_) (fun _ => ?_)) <;> (try simp only [if_true, if_false, qq, reduceCtorEq] at hb)) | ((with_reducible refine And.intro ?_ ?_); (first | decide | omega)) | ((with_reducible refine at_here ?_); first | unfold m23_2 w23_2 | unfold m23_11 w23_11 | unfold m23_10 w23_10 | unfold m23_8 w23_8 | unfold m23_6 w23_6 | unfold m23_5 w23_5 | unfold m23_3 w23_3 | unfold m23_0 w23_0) | (simp (disch := omega) only [go_sem, Heap.get_ne, wrap64_id, Nat.reduceAdd, Nat.reduceLeDiff, Nat.reduceSub, Nat.reduceEqDiff, Int.reduceLT, Int.reduceLE, Int.reduceEq]) | (with_reducible rfl) | ((with_reducible refine And.intro ?_ ?_) <;> (with_reducible rfl)))
  all_goals first
  | ((with_reducible refine ret_q ?_)
     rw [hbad j (by omega) (by simp only [callOk]; clear hK1 hK2 hK3 hall1 hall2 hall3 hbad hn; grind)])
  | (refine at_eq (hK3 (j + 1) _ ⟨rfl, by omega, allS hall3 ?_⟩ (by omega)) rfl
     simp only [callOk]; clear hK1 hK2 hK3 hall1 hall2 hall3 hbad hn; grind)
  | exact at_eq (hK2 (b + 1) _ ⟨rfl, by omega, allS hall2 (all_getD fun k hk => hall3 k (by omega))⟩ (by omega)) rfl
end Go.Abs
