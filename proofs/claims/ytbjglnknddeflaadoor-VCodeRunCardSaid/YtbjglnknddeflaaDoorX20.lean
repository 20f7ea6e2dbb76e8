/- A part of the proof: F14, Own2, F28, F15, F16, F17, F18, F29, G1 -/
import Derived.Test.YtbjglnknddeflaaDoorX19
set_option linter.unusedSimpArgs false
set_option linter.unusedVariables false
set_option linter.unusedSimpArgs false
set_option linter.unusedVariables false
set_option maxRecDepth 100000
namespace Go.Abs
variable {E : Env}

theorem vle_outV (l : List Int) : VLe (outV l) (ints l) := by
  unfold outV
  split
  · rename_i h; subst h; exact vle_nil 1
  · exact VLe.refl _
/-- A run's outcome. -/
def Oc.ic (o : Oc) : List AV := [.int .i64 o.kind, .int .i64 o.code, ints o.out, .int .i64 o.val]
@[go_sem] theorem e_oc (o : Oc) (i : Nat) : o.ic[i]? = ([.int .i64 o.kind, .int .i64 o.code, ints o.out, .int .i64 o.val] : List AV)[i]? := id rfl
@[go_sem] theorem e_ocl (o : Oc) : o.ic.length = 4 := id rfl
@[go_sem] theorem e_oct (o : Oc) : o.ic.take 4 = o.ic := id rfl
theorem vle_oc (o : Oc) : VLe (.agg o.cells) (.agg o.ic) := vle_agg rfl fun j x y hx hy => by
  match j with
  | 0 => cases hx; cases hy; exact VLe.refl _
  | 1 => cases hx; cases hy; exact VLe.refl _
  | 2 => cases hx; cases hy; exact vle_outV _
  | 3 => cases hx; cases hy; exact VLe.refl _
  | n + 4 => cases hx
theorem vrun_spec (hE : E.Good) (hF : E.Fits tab) (l : List VF) (lens : List Int) (f : Int) (args : List Int) (fuel most : Int) (hmost : most < 900000) :
    PF E 13 [vfs l, ints lens, .int .i64 f, ints args, .int .i64 fuel, .int .i64 most] (.tup [.agg (runV l lens f args fuel most).1.ic, .bool (runV l lens f args fuel most).2]) :=
  (run_spec hE hF l lens f args fuel most hmost).ret (vle_tup rfl fun j x y hx hy => by
    match j with
    | 0 => cases hx; cases hy; exact vle_oc _
    | 1 => cases hx; cases hy; exact VLe.refl _
    | n + 2 => cases hx)

theorem ext_eq {a b : List Int} (hl : a.length = b.length) (h : ∀ j < a.length, a.getD j 0 = b.getD j 0) : a = b := by
  apply List.ext_getElem hl
  intro j h1 h2
  have := h j h1
  simpa [List.getD, List.getElem?_eq_getElem h1, List.getElem?_eq_getElem h2] using this


theorem sameOc_spec (hE : E.Good) (hF : E.Fits tab) (a b : Oc) : PF E 15 [.agg a.ic, .agg b.ic] (.bool (decide (a = b))) := by
  intro H
  refine acall_small fun hs => ?_
  have h1 := small_ints (small_agg (hs (.agg a.ic) (by simp)) (ints a.out) (by simp [Oc.ic]))
  have h2 := small_ints (small_agg (hs (.agg b.ic) (by simp)) (ints b.out) (by simp [Oc.ic]))
  clear hs
  obtain ⟨ak, ac, ao, av⟩ := a
  obtain ⟨bk, bc, bo, bv⟩ := b
  dsimp only at h1 h2
  refine ent15 hE hF _ _ _ _ ?_; unfold w15
  repeat' (first | ((with_reducible refine cond_mk (fun hb => ?_) (fun hb => ?_)) <;> ((try simp only [if_true, if_false, qq, reduceCtorEq] at hb); (try (exfalso; first | (exact hb) | contradiction | omega)))) | ((with_reducible refine grp_mk ?_ (fun hb => ?_) (fun _ => ?_)) <;> (try simp only [if_true, if_false, qq, reduceCtorEq] at hb)) | ((with_reducible refine And.intro ?_ ?_); (first | decide | omega)) | ((with_reducible refine at_here ?_); unfold m15_2 w15_2) | (simp (disch := omega) only [go_sem, Heap.get_ne, wrap64_id, Nat.reduceAdd, Nat.reduceLeDiff, Nat.reduceSub, Nat.reduceEqDiff, Int.reduceLT, Int.reduceLE, Int.reduceEq, Nat.reduceMul, Nat.reduceBEq, Int.reduceNeg, Int.reduceToNat, Int.reduceAdd, Int.reduceSub]) | (with_reducible rfl) | ((with_reducible refine And.intro ?_ ?_) <;> (with_reducible rfl)))
  · (with_reducible refine ret_q ?_)
    simp only [Oc.mk.injEq]
    have : ¬ (ak = bk ∧ ac = bc ∧ ao = bo ∧ av = bv) := by
      rintro ⟨rfl, rfl, rfl, rfl⟩
      simp at hb
    simp [this]
  obtain ⟨⟨⟨rfl, rfl⟩, rfl⟩, hl⟩ := hb
  have hl : ao.length = bo.length := by omega
  refine at_here ?_; unfold m15_0 w15_0; (repeat' (first | ((with_reducible refine cond_mk (fun hb => ?_) (fun hb => ?_)) <;> ((try simp only [if_true, if_false, qq, reduceCtorEq] at hb); (try (exfalso; first | (exact hb) | contradiction | omega)))) | ((with_reducible refine grp_mk ?_ (fun hb => ?_) (fun _ => ?_)) <;> (try simp only [if_true, if_false, qq, reduceCtorEq] at hb)) | ((with_reducible refine And.intro ?_ ?_); (first | decide | omega)) | (simp (disch := omega) only [go_sem, Heap.get_ne, wrap64_id, Nat.reduceAdd, Nat.reduceLeDiff, Nat.reduceSub, Nat.reduceEqDiff, Int.reduceLT, Int.reduceLE, Int.reduceEq, Nat.reduceMul, Nat.reduceBEq, Int.reduceNeg, Int.reduceToNat, Int.reduceAdd, Int.reduceSub]) | (with_reducible rfl) | ((with_reducible refine And.intro ?_ ?_) <;> (with_reducible rfl))))
  refine loop_mk (σ := Nat) (fun i => [.rp (Oc.ic ⟨ak, ac, ao, av⟩), .rp (Oc.ic ⟨ak, ac, bo, av⟩), .int .i64 i]) (fun i H' => H' = H ∧ i ≤ ao.length ∧ ∀ j < i, ao.getD j 0 = bo.getD j 0) (fun i => ao.length - i) 0 rfl ⟨rfl, Nat.zero_le _, by omega⟩ ?_
  rintro i H K ⟨rfl, hi, hall⟩ hK
  unfold l15_1 w15_1; simp only [go_sem]
  repeat' (first | ((with_reducible refine cond_mk (fun hb => ?_) (fun hb => ?_)) <;> ((try simp only [if_true, if_false, qq, reduceCtorEq] at hb); (try (exfalso; first | (exact hb) | contradiction | omega)))) | ((with_reducible refine grp_mk ?_ (fun hb => ?_) (fun _ => ?_)) <;> (try simp only [if_true, if_false, qq, reduceCtorEq] at hb)) | ((with_reducible refine And.intro ?_ ?_); (first | decide | omega)) | ((with_reducible refine at_here ?_); first | unfold m15_2 w15_2 | unfold m15_0 w15_0) | (simp (disch := omega) only [go_sem, Heap.get_ne, wrap64_id, Nat.reduceAdd, Nat.reduceLeDiff, Nat.reduceSub, Nat.reduceEqDiff, Int.reduceLT, Int.reduceLE, Int.reduceEq, Nat.reduceMul, Nat.reduceBEq, Int.reduceNeg, Int.reduceToNat, Int.reduceAdd, Int.reduceSub]) | (with_reducible rfl) | ((with_reducible refine And.intro ?_ ?_) <;> (with_reducible rfl)))
  · (with_reducible refine ret_q ?_)
    have : ¬ ao = bo := fun e => by subst e; exact hb rfl
    simp [this]
  · exact at_eq (hK (i + 1) _ ⟨rfl, by omega, allS hall (by simpa using hb)⟩ (by omega)) rfl
  · (with_reducible refine ret_q ?_)
    have : ao = bo := ext_eq hl fun j hj => hall j (by omega)
    simp [this]

/-- Where a number belongs, looked for from the back. -/
def posB (out : List Int) (n : Int) : Nat → Nat
  | 0 => 0
  | k + 1 => if n ≤ out.getD k 0 then posB out n k else k + 1
def insB (out : List Int) (n : Int) : List Int :=
  let k := posB out n out.length
  if k < out.length ∧ out.getD k 0 = n then out else out.take k ++ n :: out.drop k
theorem posB_le (out : List Int) (n : Int) : ∀ k, posB out n k ≤ k
  | 0 => Nat.le_refl _
  | k + 1 => by
    unfold posB; split
    · exact Nat.le_succ_of_le (posB_le out n k)
    · exact Nat.le_refl _
theorem posB_stop {out : List Int} {n : Int} {k : Nat} (h : (k : Int) ≤ 0 ∨ out.getD ((k : Int) - 1).toNat 0 < n) : posB out n k = k := by
  cases k with
  | zero => rfl
  | succ k =>
    have hb1 : out.getD k 0 < n := by
      rcases h with h | h
      · omega
      · have e : (((k + 1 : Nat) : Int) - 1).toNat = k := by omega
        rw [e] at h; exact h
    rw [posB, if_neg (by omega)]
def uniqV (l : List Int) : List Int := l.foldl insB []

section
variable {H : Heap} {K : AV → Heap → Prop}
theorem m_cpy {sz id off len off2 n2 : Nat} {es : Blk} (hid : H id = some es) (h1 : off + len ≤ es.length) (h2 : off2 + n2 ≤ es.length)
    (h : K (.int .i64 (min n2 len : Nat)) (H.set id (some (es.take off ++ (((es.drop off2).take n2).take (min n2 len)) ++ es.drop (off + min n2 len))))) : mW (.cpy sz (.c (.sl sz id off len)) (.c (.sl sz id off2 n2))) H K := by
  have e : ((es.drop off2).take n2).length = n2 := by simp; omega
  simp only [mW, aop, AOpd.ev, elems, hid, h1, h2, and_self, if_true, e]
  exact h
end

theorem shift_l (out : List Int) {k : Nat} (hk : k ≤ out.length) : (out ++ [0]).take (k + 1) ++ ((((out ++ [0]).drop k).take (out.length + 1 - k)).take (min (out.length + 1 - k) (out.length + 1 - (k + 1)))) ++ (out ++ [0]).drop (k + 1 + min (out.length + 1 - k) (out.length + 1 - (k + 1))) = out.take k ++ (out ++ [0]).getD k 0 :: out.drop k := by
  have e1 : min (out.length + 1 - k) (out.length + 1 - (k + 1)) = out.length - k := by omega
  rw [e1, List.drop_of_length_le (l := out ++ [0]) (i := k + 1 + (out.length - k)) (by simp; omega), List.append_nil, List.take_take]
  have e2 : min (out.length - k) (out.length + 1 - k) = out.length - k := by omega
  rw [e2]
  have hkl : k < (out ++ [0]).length := by simp; omega
  have a1 : (out ++ [0]).take (k + 1) = out.take k ++ [(out ++ [0]).getD k 0] := by
    rw [List.take_add_one, List.take_append_of_le_length hk, List.getElem?_eq_getElem hkl]
    simp [List.getD, List.getElem?_eq_getElem hkl]
  have a2 : ((out ++ [0]).drop k).take (out.length - k) = out.drop k := by
    rw [List.drop_append_of_le_length hk, List.take_append_of_le_length (by rw [List.length_drop]; exact Nat.le_refl _), List.take_of_length_le (by rw [List.length_drop]; exact Nat.le_refl _)]
  rw [a1, a2]; simp
theorem m_cpy_ic {H : Heap} {K : AV → Heap → Prop} {id : Nat} {out : List Int} {k : Nat} (hk : k ≤ out.length) (hid : H id = some ((out ++ [0]).map icell))
    (h : ∀ x, K x (H.set id (some ((out.take k ++ (out ++ [0]).getD k 0 :: out.drop k).map icell)))) : mW (.cpy 1 (.c (.sl 1 id (k + 1) (out.length + 1 - (k + 1)))) (.c (.sl 1 id k (out.length + 1 - k)))) H K := by
  refine m_cpy hid (by simp; omega) (by simp; omega) ?_
  have e := shift_l out hk
  have h2 := h (.int .i64 (min (out.length + 1 - k) (out.length + 1 - (k + 1)) : Nat))
  rw [← e] at h2
  simpa only [List.map_append, List.map_take, List.map_drop] using h2
theorem set_mid (a b : List Int) (x y : Int) {k : Nat} (h : a.length = k) : (a ++ x :: b).set k y = a ++ y :: b := by
  subst h; simp
theorem Kept0.of {G H : Heap} {m : List (Nat × Blk)} (h : HoldsG G H m) : G.Le H := fun k => by
  cases e : G k with
  | none => exact .inl rfl
  | some b => exact .inr (h.kp k b e).1.symm

theorem ret_own {G H : Heap} {rv : AV} {out : List Int} (ho : OwnV rv out) (h : HoldsG G H (ownL rv out)) : RetC (Ret (ints out) G) rv H := by
  rcases ho with ⟨rfl, rfl⟩ | ⟨id, rfl⟩
  · exact ret_le (vle_nil 1) (Kept0.of h) ⟨rfl, rfl⟩
  · have hid : H id = some (out.map icell) := h.get (by simp [ownL])
    refine .frz id (out.map icell) (fun _ => ints out) hid (fun _ => .inr ?_) (.le (fun _ => ints out) G (fun _ => VLe.refl _) (fun k => ?_) (.here ⟨rfl, rfl⟩))
    · simp [frz, frz0, frz1, ints]
      rw [List.take_of_length_le (by simp)]
    · cases e : G k with
      | none => exact .inl rfl
      | some b =>
        have := h.kp k b e
        refine .inr ?_
        rw [Heap.get_ne _ _ _ _ (fun e2 => this.2 (by rw [e2]; simp [ownL]))]
        exact this.1.symm

set_option maxHeartbeats 2000000 in
theorem uniq_spec (hE : E.Good) (hF : E.Fits tab) (l : List Int) (hl : l.length < 60000000000) : PF E 46 [ints l] (ints (uniqV l)) := by
  intro G
  refine ent46 hE hF _ _ _ ?_; unfold w46
  repeat' (first | ((with_reducible refine cond_mk (fun hb => ?_) (fun hb => ?_)) <;> ((try simp only [if_true, if_false, qq, reduceCtorEq] at hb); (try (exfalso; first | (exact hb) | contradiction | omega)))) | ((with_reducible refine grp_mk ?_ (fun hb => ?_) (fun _ => ?_)) <;> (try simp only [if_true, if_false, qq, reduceCtorEq] at hb)) | ((with_reducible refine And.intro ?_ ?_); (first | decide | omega)) | ((with_reducible refine at_here ?_); first | unfold m46_4 w46_4 | unfold m46_3 w46_3 | unfold m46_1 w46_1) | (simp (disch := omega) only [go_sem, Heap.get_ne, wrap64_id, Nat.reduceAdd, Nat.reduceLeDiff, Nat.reduceSub, Nat.reduceEqDiff, Int.reduceLT, Int.reduceLE, Int.reduceEq, Nat.reduceMul, Nat.reduceBEq, Int.reduceNeg, Int.reduceToNat, Int.reduceAdd, Int.reduceSub]) | (with_reducible rfl) | ((with_reducible refine And.intro ?_ ?_) <;> (with_reducible rfl)))
  refine loop_mk (σ := Nat × AV) (fun p => [p.2, ints l, .int .i64 l.length, .int .i64 p.1]) (fun p H' => p.1 ≤ l.length ∧ OwnV p.2 ((l.take p.1).foldl insB []) ∧ HoldsG G H' (ownL p.2 ((l.take p.1).foldl insB []))) (fun p => l.length - p.1) (0, .nilsl) rfl ⟨Nat.zero_le _, .inl ⟨rfl, rfl⟩, ⟨⟨by simp [ownL], by simp [ownL]⟩, fun k b h => ⟨h, by simp [ownL]⟩⟩⟩ ?_
  rintro ⟨i, rv⟩ H K ⟨hi, ho, hg⟩ hK
  dsimp only at hi ho hg
  unfold l46_0 w46_0; simp only [go_sem]
  repeat' (first | ((with_reducible refine cond_mk (fun hb => ?_) (fun hb => ?_)) <;> ((try simp only [if_true, if_false, qq, reduceCtorEq] at hb); (try (exfalso; first | (exact hb) | contradiction | omega)))) | ((with_reducible refine grp_mk ?_ (fun hb => ?_) (fun _ => ?_)) <;> (try simp only [if_true, if_false, qq, reduceCtorEq] at hb)) | ((with_reducible refine And.intro ?_ ?_); (first | decide | omega)) | ((with_reducible refine at_here ?_); first | unfold m46_4 w46_4 | unfold m46_3 w46_3) | (simp (disch := omega) only [go_sem, Heap.get_ne, wrap64_id, Nat.reduceAdd, Nat.reduceLeDiff, Nat.reduceSub, Nat.reduceEqDiff, Int.reduceLT, Int.reduceLE, Int.reduceEq, Nat.reduceMul, Nat.reduceBEq, Int.reduceNeg, Int.reduceToNat, Int.reduceAdd, Int.reduceSub]) | (with_reducible rfl) | ((with_reducible refine And.intro ?_ ?_) <;> (with_reducible rfl)))
  rotate_left
  · have hia : i = l.length := by omega
    subst hia
    rw [List.take_length] at ho hg
    exact ret_own ho hg
  have hil : i < l.length := by omega
  have hK2 : ∀ rv' H', OwnV rv' (insB ((l.take i).foldl insB []) (l.getD i 0)) → HoldsG G H' (ownL rv' (insB ((l.take i).foldl insB []) (l.getD i 0))) → K (vl [rv', ints l, .int .i64 l.length, .int .i64 ((i + 1 : Nat) : Int)]) H' := fun rv' H' h1 h2 => by
    have ex : (l.take (i + 1)).foldl insB [] = insB ((l.take i).foldl insB []) (l.getD i 0) := by
      rw [List.take_add_one, List.foldl_append, List.getElem?_eq_getElem hil]
      simp [List.getD, List.getElem?_eq_getElem hil]
    exact hK (i + 1, rv') H' ⟨hil, by rw [ex]; exact h1, by rw [ex]; exact h2⟩ (by simp; omega)
  have hlen : ((l.take i).foldl insB []).length < 60000000001 := by
    have : ∀ (m : List Int) (o : List Int), (m.foldl insB o).length ≤ o.length + m.length := by
      intro m
      induction m with
      | nil => intro o; simp
      | cons a m ih =>
        intro o
        have h1 := ih (insB o a)
        have h2 : (insB o a).length ≤ o.length + 1 := by
          unfold insB; dsimp only; split
          · omega
          · have := posB_le o a o.length
            simp; omega
        simp only [List.foldl_cons, List.length_cons]; omega
    have h1 := this (l.take i) []
    simp at h1; omega
  generalize (l.take i).foldl insB [] = out at ho hg hK2 hlen
  clear hK
  refine at_here ?_; unfold m46_1 w46_1
  repeat' (first | ((with_reducible refine cond_mk (fun hb => ?_) (fun hb => ?_)) <;> ((try simp only [if_true, if_false, qq, reduceCtorEq] at hb); (try (exfalso; first | (exact hb) | contradiction | omega)))) | ((with_reducible refine grp_mk ?_ (fun hb => ?_) (fun _ => ?_)) <;> (try simp only [if_true, if_false, qq, reduceCtorEq] at hb)) | ((with_reducible refine And.intro ?_ ?_); (first | decide | omega)) | ((with_reducible refine at_here ?_); first | unfold m46_4 w46_4 | unfold m46_3 w46_3 | unfold m46_1 w46_1) | (simp (disch := omega) only [go_sem, Heap.get_ne, wrap64_id, Nat.reduceAdd, Nat.reduceLeDiff, Nat.reduceSub, Nat.reduceEqDiff, Int.reduceLT, Int.reduceLE, Int.reduceEq, Nat.reduceMul, Nat.reduceBEq, Int.reduceNeg, Int.reduceToNat, Int.reduceAdd, Int.reduceSub]) | (with_reducible rfl) | ((with_reducible refine And.intro ?_ ?_) <;> (with_reducible rfl)))
  generalize l.getD i 0 = n at hK2
  rcases ho with ⟨rfl, rfl⟩ | ⟨id, rfl⟩
  · repeat' (first | ((with_reducible refine cond_mk (fun hb => ?_) (fun hb => ?_)) <;> ((try simp only [if_true, if_false, qq, reduceCtorEq] at hb); (try (exfalso; first | (exact hb) | contradiction | omega)))) | ((with_reducible refine grp_mk ?_ (fun hb => ?_) (fun _ => ?_)) <;> (try simp only [if_true, if_false, qq, reduceCtorEq] at hb)) | ((with_reducible refine And.intro ?_ ?_); (first | decide | omega)) | ((with_reducible refine at_here ?_); first | unfold m46_4 w46_4 | unfold m46_3 w46_3 | unfold m46_1 w46_1) | (simp (disch := omega) only [go_sem, Heap.get_ne, wrap64_id, Nat.reduceAdd, Nat.reduceLeDiff, Nat.reduceSub, Nat.reduceEqDiff, Int.reduceLT, Int.reduceLE, Int.reduceEq, Nat.reduceMul, Nat.reduceBEq, Int.reduceNeg, Int.reduceToNat, Int.reduceAdd, Int.reduceSub]) | (with_reducible rfl) | ((with_reducible refine And.intro ?_ ?_) <;> (with_reducible rfl)))
    refine loop_mk (σ := Nat) (fun k => [.nilsl, .int .i64 n, .int .i64 0, ints l, .int .i64 l.length, .int .i64 i]) (fun k H' => H' = H) (fun k => k) 0 rfl rfl ?_
    rintro k H K3 rfl hK3
    unfold l46_2 w46_2; simp only [go_sem]
    refine grp_mk false (fun hb => ?_) (fun _ => ?_)
    · exfalso; revert hb; decide
    repeat' (first | ((with_reducible refine cond_mk (fun hb => ?_) (fun hb => ?_)) <;> ((try simp only [if_true, if_false, qq, reduceCtorEq] at hb); (try (exfalso; first | (exact hb) | contradiction | omega)))) | ((with_reducible refine grp_mk ?_ (fun hb => ?_) (fun _ => ?_)) <;> (try simp only [if_true, if_false, qq, reduceCtorEq] at hb)) | ((with_reducible refine And.intro ?_ ?_); (first | decide | omega)) | ((with_reducible refine at_here ?_); unfold m46_1 w46_1) | (simp (disch := omega) only [go_sem, Heap.get_ne, wrap64_id, Nat.reduceAdd, Nat.reduceLeDiff, Nat.reduceSub, Nat.reduceEqDiff, Int.reduceLT, Int.reduceLE, Int.reduceEq, Nat.reduceMul, Nat.reduceBEq, Int.reduceNeg, Int.reduceToNat, Int.reduceAdd, Int.reduceSub]) | (with_reducible rfl) | ((with_reducible refine And.intro ?_ ?_) <;> (with_reducible rfl)))
    refine at_here ?_
    unfold m46_3 w46_3
    simp only [go_sem]
    refine grp_mk false (fun hb => ?_) (fun _ => ?_)
    · exfalso; revert hb; decide
    repeat' (first | ((with_reducible refine cond_mk (fun hb => ?_) (fun hb => ?_)) <;> ((try simp only [if_true, if_false, qq, reduceCtorEq] at hb); (try (exfalso; first | (exact hb) | contradiction | omega)))) | ((with_reducible refine grp_mk ?_ (fun hb => ?_) (fun _ => ?_)) <;> (try simp only [if_true, if_false, qq, reduceCtorEq] at hb)) | ((with_reducible refine And.intro ?_ ?_); (first | decide | omega)) | ((with_reducible refine at_here ?_); first | unfold m46_3 w46_3 | unfold m46_1 w46_1) | (simp (disch := omega) only [go_sem, Heap.get_ne, wrap64_id, Nat.reduceAdd, Nat.reduceLeDiff, Nat.reduceSub, Nat.reduceEqDiff, Int.reduceLT, Int.reduceLE, Int.reduceEq, Nat.reduceMul, Nat.reduceBEq, Int.reduceNeg, Int.reduceToNat, Int.reduceAdd, Int.reduceSub]) | (with_reducible rfl) | ((with_reducible refine And.intro ?_ ?_) <;> (with_reducible rfl)))
    refine at_here ?_; unfold m46_4 w46_4; (repeat' (first | ((with_reducible refine cond_mk (fun hb => ?_) (fun hb => ?_)) <;> ((try simp only [if_true, if_false, qq, reduceCtorEq] at hb); (try (exfalso; first | (exact hb) | contradiction | omega)))) | ((with_reducible refine grp_mk ?_ (fun hb => ?_) (fun _ => ?_)) <;> (try simp only [if_true, if_false, qq, reduceCtorEq] at hb)) | ((with_reducible refine And.intro ?_ ?_); (first | decide | omega)) | (simp (disch := omega) only [go_sem, Heap.get_ne, wrap64_id, Nat.reduceAdd, Nat.reduceLeDiff, Nat.reduceSub, Nat.reduceEqDiff, Int.reduceLT, Int.reduceLE, Int.reduceEq, Nat.reduceMul, Nat.reduceBEq, Int.reduceNeg, Int.reduceToNat, Int.reduceAdd, Int.reduceSub]) | (with_reducible rfl) | ((with_reducible refine And.intro ?_ ?_) <;> (with_reducible rfl))))
    refine mk_app_nil (by decide) fun new hnew => ?_
    repeat' (first | ((with_reducible refine cond_mk (fun hb => ?_) (fun hb => ?_)) <;> ((try simp only [if_true, if_false, qq, reduceCtorEq] at hb); (try (exfalso; first | (exact hb) | contradiction | omega)))) | ((with_reducible refine grp_mk ?_ (fun hb => ?_) (fun _ => ?_)) <;> (try simp only [if_true, if_false, qq, reduceCtorEq] at hb)) | ((with_reducible refine And.intro ?_ ?_); (first | decide | omega)) | ((with_reducible refine at_here ?_); first | unfold m46_4 w46_4 | unfold m46_3 w46_3 | unfold m46_1 w46_1) | (simp (disch := omega) only [go_sem, Heap.get_ne, wrap64_id, Nat.reduceAdd, Nat.reduceLeDiff, Nat.reduceSub, Nat.reduceEqDiff, Int.reduceLT, Int.reduceLE, Int.reduceEq, Nat.reduceMul, Nat.reduceBEq, Int.reduceNeg, Int.reduceToNat, Int.reduceAdd, Int.reduceSub]) | (with_reducible rfl) | ((with_reducible refine And.intro ?_ ?_) <;> (with_reducible rfl)))
    refine m_cpy (Heap.set_same _ _ _) (by simp) (by simp) ?_
    repeat' (first | ((with_reducible refine cond_mk (fun hb => ?_) (fun hb => ?_)) <;> ((try simp only [if_true, if_false, qq, reduceCtorEq] at hb); (try (exfalso; first | (exact hb) | contradiction | omega)))) | ((with_reducible refine grp_mk ?_ (fun hb => ?_) (fun _ => ?_)) <;> (try simp only [if_true, if_false, qq, reduceCtorEq] at hb)) | ((with_reducible refine And.intro ?_ ?_); (first | decide | omega)) | ((with_reducible refine at_here ?_); first | unfold m46_4 w46_4 | unfold m46_3 w46_3 | unfold m46_1 w46_1) | (simp (disch := omega) only [go_sem, Heap.get_ne, wrap64_id, Nat.reduceAdd, Nat.reduceLeDiff, Nat.reduceSub, Nat.reduceEqDiff, Int.reduceLT, Int.reduceLE, Int.reduceEq, Nat.reduceMul, Nat.reduceBEq, Int.reduceNeg, Int.reduceToNat, Int.reduceAdd, Int.reduceSub]) | (with_reducible rfl) | ((with_reducible refine And.intro ?_ ?_) <;> (with_reducible rfl)))
    refine at_eq (hK2 (.sl 1 new 0 1) _ (.inr ⟨new, by simp [insB, posB]⟩) ?_) ?_
    · have h9 := hg.new hnew (b := [[AV.int .i64 n]])
      simpa [ownL, insB, posB, icell] using h9
    · simp
  · have hid : H id = some (out.map icell) := hg.get (by simp [ownL])
    repeat' (first | ((with_reducible refine cond_mk (fun hb => ?_) (fun hb => ?_)) <;> ((try simp only [if_true, if_false, qq, reduceCtorEq] at hb); (try (exfalso; first | (exact hb) | contradiction | omega)))) | ((with_reducible refine grp_mk ?_ (fun hb => ?_) (fun _ => ?_)) <;> (try simp only [if_true, if_false, qq, reduceCtorEq] at hb)) | ((with_reducible refine And.intro ?_ ?_); (first | decide | omega)) | ((with_reducible refine at_here ?_); first | unfold m46_4 w46_4 | unfold m46_3 w46_3 | unfold m46_1 w46_1) | (simp (disch := omega) only [go_sem, Heap.get_ne, wrap64_id, Nat.reduceAdd, Nat.reduceLeDiff, Nat.reduceSub, Nat.reduceEqDiff, Int.reduceLT, Int.reduceLE, Int.reduceEq, Nat.reduceMul, Nat.reduceBEq, Int.reduceNeg, Int.reduceToNat, Int.reduceAdd, Int.reduceSub]) | (with_reducible rfl) | ((with_reducible refine And.intro ?_ ?_) <;> (with_reducible rfl)))
    refine loop_mk (σ := Nat) (fun k => [.sl 1 id 0 out.length, .int .i64 n, .int .i64 k, ints l, .int .i64 l.length, .int .i64 i]) (fun k H' => H' = H ∧ k ≤ out.length ∧ posB out n out.length = posB out n k) (fun k => k) out.length rfl ⟨rfl, Nat.le_refl _, rfl⟩ ?_
    rintro k H K3 ⟨rfl, hk, hpos⟩ hK3
    unfold l46_2 w46_2; simp only [go_sem]
    repeat' (first | ((with_reducible refine cond_mk (fun hb => ?_) (fun hb => ?_)) <;> ((try simp only [if_true, if_false, qq, reduceCtorEq] at hb); (try (exfalso; first | (exact hb) | contradiction | omega)))) | ((with_reducible refine grp_mk ?_ (fun hb => ?_) (fun _ => ?_)) <;> (try simp only [if_true, if_false, qq, reduceCtorEq] at hb)) | ((with_reducible refine And.intro ?_ ?_); (first | decide | omega)) | ((with_reducible refine at_here ?_); first | unfold m46_3 w46_3 | unfold m46_1 w46_1) | (simp (disch := omega) only [go_sem, Heap.get_ne, wrap64_id, Nat.reduceAdd, Nat.reduceLeDiff, Nat.reduceSub, Nat.reduceEqDiff, Int.reduceLT, Int.reduceLE, Int.reduceEq, Nat.reduceMul, Nat.reduceBEq, Int.reduceNeg, Int.reduceToNat, Int.reduceAdd, Int.reduceSub, hid, Nat.zero_add]) | (with_reducible rfl) | ((with_reducible refine And.intro ?_ ?_) <;> (with_reducible rfl)))
    · have e : ((k : Int) - 1) = ((k - 1 : Nat) : Int) := by omega
      rw [e]
      refine at_eq (hK3 (k - 1) _ ⟨rfl, by omega, ?_⟩ (by omega)) rfl
      rw [hpos]
      obtain ⟨k, rfl⟩ : ∃ m, k = m + 1 := ⟨k - 1, by omega⟩
      rw [posB, if_pos (by have := hb.2; rw [e] at this; simpa using this)]
      rfl
    · have hp : posB out n k = k := posB_stop (by assumption)
      have e : insB out n = out := by
        unfold insB; dsimp only; rw [hpos, hp, if_pos ⟨by omega, hb.2⟩]
      refine at_eq (hK2 (.sl 1 id 0 out.length) _ (by rw [e]; exact .inr ⟨id, rfl⟩) (by rw [e]; exact hg)) ?_
      simp
    · have hp : posB out n k = k := posB_stop (by assumption)
      have e : insB out n = out.take k ++ n :: out.drop k := by
        unfold insB; dsimp only; rw [hpos, hp, if_neg (by omega)]
      refine at_here ?_; unfold m46_4 w46_4; (repeat' (first | ((with_reducible refine cond_mk (fun hb => ?_) (fun hb => ?_)) <;> ((try simp only [if_true, if_false, qq, reduceCtorEq] at hb); (try (exfalso; first | (exact hb) | contradiction | omega)))) | ((with_reducible refine grp_mk ?_ (fun hb => ?_) (fun _ => ?_)) <;> (try simp only [if_true, if_false, qq, reduceCtorEq] at hb)) | ((with_reducible refine And.intro ?_ ?_); (first | decide | omega)) | (simp (disch := omega) only [go_sem, Heap.get_ne, wrap64_id, Nat.reduceAdd, Nat.reduceLeDiff, Nat.reduceSub, Nat.reduceEqDiff, Int.reduceLT, Int.reduceLE, Int.reduceEq, Nat.reduceMul, Nat.reduceBEq, Int.reduceNeg, Int.reduceToNat, Int.reduceAdd, Int.reduceSub]) | (with_reducible rfl) | ((with_reducible refine And.intro ?_ ?_) <;> (with_reducible rfl))))
      refine mk_app hid ⟨by simp, by simp [appLim]; omega⟩ fun new hnew => ?_
      have e2 : (out.map icell).take out.length ++ [[AV.int .i64 0]] = (out ++ [0]).map icell := by
        rw [List.take_of_length_le (by simp)]; simp [icell]
      rw [e2]
      have e3 : ((k : Int) + 1).toNat = k + 1 := by omega
      repeat' (first | ((with_reducible refine cond_mk (fun hb => ?_) (fun hb => ?_)) <;> ((try simp only [if_true, if_false, qq, reduceCtorEq] at hb); (try (exfalso; first | (exact hb) | contradiction | omega)))) | ((with_reducible refine grp_mk ?_ (fun hb => ?_) (fun _ => ?_)) <;> (try simp only [if_true, if_false, qq, reduceCtorEq] at hb)) | ((with_reducible refine And.intro ?_ ?_); (first | decide | omega)) | ((with_reducible refine at_here ?_); first | unfold m46_4 w46_4 | unfold m46_3 w46_3 | unfold m46_1 w46_1) | (simp (disch := omega) only [go_sem, Heap.get_ne, wrap64_id, Nat.reduceAdd, Nat.reduceLeDiff, Nat.reduceSub, Nat.reduceEqDiff, Int.reduceLT, Int.reduceLE, Int.reduceEq, Nat.reduceMul, Nat.reduceBEq, Int.reduceNeg, Int.reduceToNat, Int.reduceAdd, Int.reduceSub, Nat.zero_add, e3]) | (with_reducible rfl) | ((with_reducible refine And.intro ?_ ?_) <;> (with_reducible rfl)))
      refine m_cpy_ic hk (Heap.set_same _ _ _) fun x => ?_
      repeat' (first | ((with_reducible refine cond_mk (fun hb => ?_) (fun hb => ?_)) <;> ((try simp only [if_true, if_false, qq, reduceCtorEq] at hb); (try (exfalso; first | (exact hb) | contradiction | omega)))) | ((with_reducible refine grp_mk ?_ (fun hb => ?_) (fun _ => ?_)) <;> (try simp only [if_true, if_false, qq, reduceCtorEq] at hb)) | ((with_reducible refine And.intro ?_ ?_); (first | decide | omega)) | ((with_reducible refine at_here ?_); first | unfold m46_4 w46_4 | unfold m46_3 w46_3 | unfold m46_1 w46_1) | (simp (disch := omega) only [go_sem, Heap.get_ne, wrap64_id, Nat.reduceAdd, Nat.reduceLeDiff, Nat.reduceSub, Nat.reduceEqDiff, Int.reduceLT, Int.reduceLE, Int.reduceEq, Nat.reduceMul, Nat.reduceBEq, Int.reduceNeg, Int.reduceToNat, Int.reduceAdd, Int.reduceSub, Nat.zero_add]) | (with_reducible rfl) | ((with_reducible refine And.intro ?_ ?_) <;> (with_reducible rfl)))
      refine ⟨by simp; omega, ?_⟩
      repeat' (first | ((with_reducible refine cond_mk (fun hb => ?_) (fun hb => ?_)) <;> ((try simp only [if_true, if_false, qq, reduceCtorEq] at hb); (try (exfalso; first | (exact hb) | contradiction | omega)))) | ((with_reducible refine grp_mk ?_ (fun hb => ?_) (fun _ => ?_)) <;> (try simp only [if_true, if_false, qq, reduceCtorEq] at hb)) | ((with_reducible refine And.intro ?_ ?_); (first | decide | omega)) | ((with_reducible refine at_here ?_); first | unfold m46_4 w46_4 | unfold m46_3 w46_3 | unfold m46_1 w46_1) | (simp (disch := omega) only [go_sem, Heap.get_ne, wrap64_id, Nat.reduceAdd, Nat.reduceLeDiff, Nat.reduceSub, Nat.reduceEqDiff, Int.reduceLT, Int.reduceLE, Int.reduceEq, Nat.reduceMul, Nat.reduceBEq, Int.reduceNeg, Int.reduceToNat, Int.reduceAdd, Int.reduceSub]) | (with_reducible rfl) | ((with_reducible refine And.intro ?_ ?_) <;> (with_reducible rfl)))
      rw [icell_set, set_mid _ _ _ _ (by simp; omega)]
      refine at_eq (hK2 (.sl 1 new 0 (out.length + 1)) _ (.inr ⟨new, by rw [e]; simp; omega⟩) ?_) ?_
      · rw [e]
        have h9 : HoldsG G H ((id, out.map icell) :: []) := hg
        exact h9.move hnew
      · simp
end Go.Abs
/- Rows of one's own: appended to, frozen where another block holds them. -/
namespace Go.Abs
variable {E : Env} {G H : Heap}

def ownR (v : AV) (rows : Blk) : List (Nat × Blk) := match v with
  | .sl _ id _ _ => [(id, rows)]
  | _ => []
def OwnR (sz : Nat) (v : AV) (rows : Blk) : Prop := (v = .nilsl ∧ rows = []) ∨ ∃ id, v = .sl sz id 0 rows.length
/-- What such a cell is once frozen. -/
def ownC (v : AV) (rows : Blk) : AV := match v with
  | .sl sz _ _ _ => .ro sz rows
  | x => x
theorem ownC_le {sz : Nat} {v : AV} {rows : Blk} (h : OwnR sz v rows) : VLe (ownC v rows) (.ro sz rows) := by
  rcases h with ⟨rfl, rfl⟩ | ⟨id, rfl⟩
  · exact vle_nil sz
  · exact VLe.refl _
theorem OwnR.ok {sz : Nat} {v : AV} {rows : Blk} (h : OwnR sz v rows) : v.ok = true ∧ v.cells = [v] := by
  rcases h with ⟨rfl, rfl⟩ | ⟨id, rfl⟩ <;> exact ⟨rfl, rfl⟩
theorem OwnR.len {sz : Nat} {v : AV} {rows : Blk} (h : OwnR sz v rows) {k : AV → Prop} : pW (.len (.c v)) k = k (.int .i64 rows.length) := by
  rcases h with ⟨rfl, rfl⟩ | ⟨id, rfl⟩ <;> simp only [go_sem] <;> rfl

section
variable {K : AV → Heap → Prop} {sz : Nat} {v : AV} {rows xs : Blk} {B : List (Nat × Blk)}
theorem app_own (ho : OwnR sz v rows) (h : HoldsG G H (ownR v rows ++ B)) (hl : rows.length + xs.length ≤ appLim)
    (hk : ∀ new H', HoldsG G H' ((new, rows ++ xs) :: B) → K (.sl sz new 0 (rows ++ xs).length) H') : mkW (.app sz (.c v) (.c (.ro sz xs))) H K := by
  rcases ho with ⟨rfl, rfl⟩ | ⟨id, rfl⟩
  · refine mk_app_nil (by simpa using hl) fun new hn => hk new _ ?_
    exact HoldsG.new (by simpa [ownR] using h) hn
  · have hid : H id = some rows := h.get (by simp [ownR])
    refine mk_app hid ⟨Nat.le_refl _, hl⟩ fun new hn => by
      rw [← List.length_append]
      refine hk new _ ?_
      rw [List.take_length]
      exact HoldsG.move (by simpa [ownR] using h) hn
theorem bsl_app_own {x : AV} {z : List AV} (hx : x.ok = true ∧ x.cells.length = sz) (ho : OwnR sz v rows) (h : HoldsG G H (ownR v rows ++ B)) (hl : rows.length + 1 ≤ appLim)
    (hk : ∀ new H', HoldsG G H' ((new, rows ++ [x.cells]) :: B) → K (.sl sz new 0 (rows ++ [x.cells]).length) H') :
    mkW (.bsl sz z 1 [(0, .c x)]) H fun t H2 => mkW (.app sz (.c v) (.c t)) H2 K := by
  refine mk_bsl (by simp [AOpd.ev, hx.1, hx.2]) fun i1 hn1 => ?_
  have e : ([(0, AOpd.c x)].foldl (fun (es : Blk) p => es.set p.1 (p.2.ev Tm.none).cells) (List.replicate 1 z)) = [x.cells] := rfl
  rw [e]
  have h1 : HoldsG G (H.set i1 (some [x.cells])) (ownR v rows ++ B) := h.more hn1.none
  have g1 : (H.set i1 (some [x.cells])) i1 = some [x.cells] := Heap.set_same _ _ _
  rcases ho with ⟨rfl, rfl⟩ | ⟨id, rfl⟩
  · refine mk_app_nil_sl g1 (by simp) (by simp at hl ⊢; omega) fun new hn => hk new _ ?_
    exact HoldsG.new (by simpa [ownR] using h1) hn
  · have hid : (H.set i1 (some [x.cells])) id = some rows := h1.get (by simp [ownR])
    refine mk_app_sl hid g1 ⟨Nat.le_refl _, hl⟩ (by simp) fun new hn => by
      have e9 := hk new ((H.set i1 (some [x.cells])).set id none |>.set new (some (rows ++ [x.cells]))) (HoldsG.move (by simpa [ownR] using h1) hn)
      rw [List.length_append] at e9
      rw [List.take_length]
      exact e9
/-- What a block's cell holds is frozen. -/
theorem cl_own {P : Tm → Heap → Prop} {T : Tm} {k : Nat} {cs : List AV} (ho : OwnR sz v rows) (h : HoldsG G H (ownR v rows ++ (k, [v :: cs]) :: B)) (hcs : ∀ id, ∀ c ∈ cs, frz1 id rows c = c)
    (hk : ∀ H', HoldsG G H' ((k, [ownC v rows :: cs]) :: B) → Cl P T H') : Cl P T H := by
  rcases ho with ⟨rfl, rfl⟩ | ⟨id, rfl⟩
  · exact hk H (by simpa [ownR, ownC] using h)
  · have hid : H id = some rows := h.get (by simp [ownR])
    have hk1 : H k = some [.sl sz id 0 rows.length :: cs] := h.get (by simp)
    have hne : k ≠ id := by
      have := h.to.1
      simp only [ownR, List.cons_append, List.nil_append, List.map_cons, List.nodup_cons, List.mem_cons, not_or] at this
      exact fun e => this.1.1 e.symm
    refine .frz2 id rows k _ T hid hne hk1 (fun _ => .inl rfl) (hk _ ?_)
    have e : ([AV.sl sz id 0 rows.length :: cs].map fun cs => cs.map (frz1 id rows)) = [ownC (.sl sz id 0 rows.length) rows :: cs] := by
      simp only [List.map_cons, List.map_nil, ownC]
      congr 2
      · simp [frz1]
      · exact List.map_congr_left (fun c hc => hcs id c hc) |>.trans (List.map_id _)
    rw [e]
    have h2 : HoldsG G H ([(id, rows)] ++ ((k, [.sl sz id 0 rows.length :: cs]) :: B)) := by simpa [ownR] using h
    have h3 : HoldsG G (H.set id none) ((k, [.sl sz id 0 rows.length :: cs]) :: B) := by
      refine h2.frame (X' := []) ⟨by simp, by simp⟩ ((Kept.refl _ _).step _ (.inl (by simp))) (by simp)
    exact h3.set
end
end Go.Abs
set_option linter.unusedSimpArgs false
set_option linter.unusedVariables false
set_option maxRecDepth 100000
namespace Go.Abs
variable {E : Env}

/-- The cells of the reference's interpreter. -/
def inc (l : List VF) (cv ov : AV) (fu mo k c v : Int) (o lg : Bool) : List AV := [vfs l, cv, .int .i64 fu, .int .i64 mo, ov, .int .i64 k, .int .i64 c, .nilsl, .int .i64 v, .bool o, .bool lg]
section
variable (l : List VF) (cv ov : AV) (fu mo k c v : Int) (o lg : Bool)
@[go_sem] theorem e_inc (i : Nat) : (inc l cv ov fu mo k c v o lg)[i]? = ([vfs l, cv, .int .i64 fu, .int .i64 mo, ov, .int .i64 k, .int .i64 c, .nilsl, .int .i64 v, .bool o, .bool lg] : List AV)[i]? := id rfl
@[go_sem] theorem e_incl : (inc l cv ov fu mo k c v o lg).length = 11 := id rfl
@[go_sem] theorem set_inc1 (x : AV) : (inc l cv ov fu mo k c v o lg).set 1 x = inc l x ov fu mo k c v o lg := id rfl
@[go_sem] theorem set_inc2 (x : Int) : (inc l cv ov fu mo k c v o lg).set 2 (.int .i64 x) = inc l cv ov x mo k c v o lg := id rfl
@[go_sem] theorem set_inc3 (x : Int) : (inc l cv ov fu mo k c v o lg).set 3 (.int .i64 x) = inc l cv ov fu x k c v o lg := id rfl
@[go_sem] theorem set_inc4 (x : AV) : (inc l cv ov fu mo k c v o lg).set 4 x = inc l cv x fu mo k c v o lg := id rfl
@[go_sem] theorem set_inc5 (x : Int) : (inc l cv ov fu mo k c v o lg).set 5 (.int .i64 x) = inc l cv ov fu mo x c v o lg := id rfl
@[go_sem] theorem set_inc6 (x : Int) : (inc l cv ov fu mo k c v o lg).set 6 (.int .i64 x) = inc l cv ov fu mo k x v o lg := id rfl
@[go_sem] theorem set_inc7 : (inc l cv ov fu mo k c v o lg).set 7 .nilsl = inc l cv ov fu mo k c v o lg := id rfl
@[go_sem] theorem set_inc8 (x : Int) : (inc l cv ov fu mo k c v o lg).set 8 (.int .i64 x) = inc l cv ov fu mo k c x o lg := id rfl
@[go_sem] theorem set_inc9 (x : Bool) : (inc l cv ov fu mo k c v o lg).set 9 (.bool x) = inc l cv ov fu mo k c v x lg := id rfl
@[go_sem] theorem set_inc10 (x : Bool) : (inc l cv ov fu mo k c v o lg).set 10 (.bool x) = inc l cv ov fu mo k c v o x := id rfl
end

structure RX (I : Ids) (ov : AV) (B : List (Nat × Blk)) (s : St) (m : Int) (lg : Bool) (H : Heap) : Prop where
  holds : HoldsG I.G H ((I.r, [inc I.l I.cv ov s.fuel m s.kind s.code s.val s.over lg]) :: (ownL ov s.out ++ (cellsL I.cid I.rids s.cells ++ B)))
  hov : OwnV ov s.out
  hcv : CellsV I.cv I.cid I.rids s.cells
  hov2 : s.out = [] → ov = .nilsl
section
variable {I : Ids} {ov : AV} {B : List (Nat × Blk)} {s : St} {m : Int} {lg : Bool} {H : Heap}
theorem RX.hx (h : RX I ov B s m lg H) : H I.r = some [inc I.l I.cv ov s.fuel m s.kind s.code s.val s.over lg] := h.holds.get (by simp)
theorem RX.hB (h : RX I ov B s m lg H) {p : Nat × Blk} (hp : p ∈ B) : H p.1 = some p.2 := h.holds.to.2 p (by simp [hp])
theorem RX.cast (h : RX I ov B s m lg H) {s' : St} (e : s = s') : RX I ov B s' m lg H := e ▸ h
theorem RX.more (h : RX I ov B s m lg H) {k : Nat} {b : Option Blk} (hk : H k = none) : RX I ov B s m lg (H.set k b) := ⟨h.holds.more hk, h.hov, h.hcv, h.hov2⟩
theorem RX.perm {B' : List (Nat × Blk)} (h : RX I ov B s m lg H) (hp : B.Perm B') : RX I ov B' s m lg H :=
  ⟨h.holds.perm (((hp.append_left _).append_left _).cons _), h.hov, h.hcv, h.hov2⟩
theorem RX.new (h : RX I ov B s m lg H) {k : Nat} {b : Blk} (hk : Fresh H k) : RX I ov ((k, b) :: B) s m lg (H.set k (some b)) :=
  ⟨(h.holds.new hk).perm (perm_of_count fun i _ a => by simp only [List.count_append, List.count_cons]; omega), h.hov, h.hcv, h.hov2⟩
theorem RX.drop {Z : List (Nat × Blk)} (h : RX I ov (Z ++ B) s m lg H) : RX I ov B s m lg H := by
  have h1 : HoldsG I.G H (Z ++ ((I.r, [inc I.l I.cv ov s.fuel m s.kind s.code s.val s.over lg]) :: (ownL ov s.out ++ (cellsL I.cid I.rids s.cells ++ B)))) := h.holds.perm (perm_of_count fun i _ a => by simp only [List.count_append, List.count_cons]; omega)
  exact ⟨h1.right, h.hov, h.hcv, h.hov2⟩
/-- The first of what is beside is written. -/
theorem RX.setB {k : Nat} {b b' : Blk} (h : RX I ov ((k, b) :: B) s m lg H) : RX I ov ((k, b') :: B) s m lg (H.set k (some b')) := by
  have h1 : HoldsG I.G H ((k, b) :: ((I.r, [inc I.l I.cv ov s.fuel m s.kind s.code s.val s.over lg]) :: (ownL ov s.out ++ (cellsL I.cid I.rids s.cells ++ B)))) := h.holds.perm (perm_of_count fun i _ a => by simp only [List.count_append, List.count_cons]; omega)
  exact ⟨(h1.set (b' := b')).perm (perm_of_count fun i _ a => by simp only [List.count_append, List.count_cons]; omega), h.hov, h.hcv, h.hov2⟩
/-- The interpreter's own cells are written. -/
theorem RX.w (h : RX I ov B s m lg H) (s' : St) (m' : Int) (lg' : Bool) (ho : s'.out = s.out) (hc : s'.cells = s.cells) : RX I ov B s' m' lg' (H.set I.r (some [inc I.l I.cv ov s'.fuel m' s'.kind s'.code s'.val s'.over lg'])) := by
  refine ⟨?_, by rw [ho]; exact h.hov, by rw [hc]; exact h.hcv, fun e => h.hov2 (by rw [← ho]; exact e)⟩
  rw [ho, hc]
  exact h.holds.set
theorem RX.ne (h : RX I ov B s m lg H) {p : Nat × Blk} (hp : p ∈ B) : I.r ≠ p.1 := fun e => by
  have := h.holds.to.1
  simp only [List.map_cons, List.nodup_cons] at this
  refine this.1 ?_
  rw [e]
  exact List.mem_map.2 ⟨p, by simp [hp], rfl⟩

theorem istep_spec (hE : E.Good) (hF : E.Fits tab) (h : RX I ov B s m false H) (hm : m < 1000000) :
    ACall E 84 [.ptr I.r 0 0] H (fun x H' => (0 < m ∧ x = .bool true ∧ RX I ov B s (m - 1) false H') ∨ (m ≤ 0 ∧ x = .bool false ∧ RX I ov B s m true H')) := by
  refine ent84 hE hF _ _ _ ?_; unfold w84
  repeat' (first | ((with_reducible refine cond_mk (fun hb => ?_) (fun hb => ?_)) <;> ((try simp only [if_true, if_false, qq, reduceCtorEq] at hb); (try (exfalso; first | (exact hb) | contradiction | omega)))) | ((with_reducible refine And.intro ?_ ?_); (first | decide | omega)) | (simp (disch := omega) only [go_sem, Heap.get_ne, wrap64_id, Nat.reduceAdd, Nat.reduceLeDiff, Nat.reduceSub, Nat.reduceEqDiff, Int.reduceLT, Int.reduceLE, Int.reduceEq, h.hx]) | (with_reducible rfl) | ((with_reducible refine And.intro ?_ ?_) <;> (with_reducible rfl)))
  · apply ret_here
    exact .inr ⟨hb, rfl, h.w s m true rfl rfl⟩
  · refine at_here ?_; unfold m84_0 w84_0
    repeat' (first | ((with_reducible refine cond_mk (fun hb => ?_) (fun hb => ?_)) <;> ((try simp only [if_true, if_false, qq, reduceCtorEq] at hb); (try (exfalso; first | (exact hb) | contradiction | omega)))) | ((with_reducible refine And.intro ?_ ?_); (first | decide | omega)) | ((with_reducible refine at_here ?_); unfold m84_0 w84_0) | (simp (disch := omega) only [go_sem, Heap.get_ne, wrap64_id, Nat.reduceAdd, Nat.reduceLeDiff, Nat.reduceSub, Nat.reduceEqDiff, Int.reduceLT, Int.reduceLE, Int.reduceEq, h.hx]) | (with_reducible rfl) | ((with_reducible refine And.intro ?_ ?_) <;> (with_reducible rfl)))
    apply ret_here
    exact .inl ⟨hb, rfl, h.w s (m - 1) false rfl rfl⟩
theorem istop_spec (hE : E.Good) (hF : E.Fits tab) (h : RX I ov B s m lg H) (k c : Int) :
    ACall E 86 [.ptr I.r 0 0, .int .i64 k, .int .i64 c] H (fun x H' => x = .tup [] ∧ RX I ov B (s.stop k c 0) m lg H') := by
  refine ent86 hE hF _ _ _ _ _ ?_; unfold w86
  repeat' (first | ((with_reducible refine cond_mk (fun hb => ?_) (fun hb => ?_)) <;> ((try simp only [if_true, if_false, qq, reduceCtorEq] at hb); (try (exfalso; first | (exact hb) | contradiction | omega)))) | ((with_reducible refine And.intro ?_ ?_); (first | decide | omega)) | (simp (disch := omega) only [go_sem, Heap.get_ne, wrap64_id, Nat.reduceAdd, Nat.reduceLeDiff, Nat.reduceSub, Nat.reduceEqDiff, Int.reduceLT, Int.reduceLE, Int.reduceEq, h.hx]) | (with_reducible rfl) | ((with_reducible refine And.intro ?_ ?_) <;> (with_reducible rfl)))
  apply ret_here
  refine ⟨rfl, ?_⟩
  have := h.w (s.stop k c 0) m lg rfl rfl
  exact this
end

/-- The reference's registers tell the same as the machine's. -/
structure Agr (f : VF) (rs regs : List Int) : Prop where
  len : (rs.length : Int) = f.regs
  at_ : ∀ j < rs.length, rs.getD j 0 = regs.getD j 0
theorem lset_getD (xs : List Int) (n : Nat) (x : Int) (j : Nat) : (lset xs n x).getD j 0 = if j = n then x else xs.getD j 0 := by
  unfold lset
  by_cases e : j = n
  · subst e
    rw [if_pos rfl, List.getD, List.getElem?_set_self (by simp; omega)]; rfl
  · rw [if_neg e, List.getD, List.getElem?_set_ne (Ne.symm e), List.getElem?_append]
    split
    · rfl
    · rename_i h
      rw [List.getElem?_replicate, List.getD, List.getElem?_eq_none (by omega)]
      split <;> rfl
theorem Agr.set {f : VF} {rs regs : List Int} (h : Agr f rs regs) {n : Nat} (hn : n < rs.length) (x : Int) : Agr f (rs.set n x) (lset regs n x) := by
  refine ⟨by rw [List.length_set]; exact h.len, fun j hj => ?_⟩
  rw [List.length_set] at hj
  rw [lset_getD]
  by_cases e : j = n
  · subst e; rw [if_pos rfl, List.getD, List.getElem?_set_self hn]; rfl
  · rw [if_neg e, List.getD, List.getElem?_set_ne (Ne.symm e)]; exact h.at_ j hj
theorem Agr.init {f : VF} (h : 0 ≤ f.regs) : Agr f (List.replicate f.regs.toNat 0) [] := by
  refine ⟨by simp; omega, fun j hj => ?_⟩
  rw [List.length_replicate] at hj
  simp [List.getD, hj]
theorem rep_ic (n : Nat) : List.replicate n [AV.int .i64 0] = (List.replicate n (0 : Int)).map icell := by simp [icell]
@[go_sem] theorem set_ic (l : List Int) (i : Nat) (x : Int) : (l.map icell).set i [.int .i64 x] = (l.set i x).map icell := by rw [List.map_set]; rfl
end Go.Abs
set_option linter.unusedSimpArgs false
set_option linter.unusedVariables false
set_option maxRecDepth 100000
namespace Go.Abs
variable {E : Env}

def succV (b : Bl) : List Int := if b.en = 1 then [b.tgt] else if b.en = 2 then uniqV [b.tgt, b.els] else []
theorem succ_spec (hE : E.Good) (hF : E.Fits tab) (b : Bl) : PF E 17 [.agg b.cells] (ints (succV b)) := by
  intro H
  refine ent17 hE hF _ _ _ ?_; unfold w17
  repeat' (first | ((with_reducible refine cond_mk (fun hb => ?_) (fun hb => ?_)) <;> ((try simp only [if_true, if_false, qq, reduceCtorEq] at hb); (try (exfalso; first | (exact hb) | contradiction | omega)))) | ((with_reducible refine And.intro ?_ ?_); (first | decide | omega)) | (simp (disch := omega) only [go_sem, Heap.get_ne, wrap64_id, Nat.reduceAdd, Nat.reduceLeDiff, Nat.reduceSub, Nat.reduceEqDiff, Int.reduceLT, Int.reduceLE, Int.reduceEq]) | (with_reducible rfl) | ((with_reducible refine And.intro ?_ ?_) <;> (with_reducible rfl)))
  · (with_reducible refine ret_q ?_)
    unfold succV; rw [if_pos hb]; rfl
  · refine call_pure (uniq_spec hE hF [b.tgt, b.els] (by simp)) fun _ => ?_
    repeat' (first | ((with_reducible refine cond_mk (fun hb => ?_) (fun hb => ?_)) <;> ((try simp only [if_true, if_false, qq, reduceCtorEq] at hb); (try (exfalso; first | (exact hb) | contradiction | omega)))) | ((with_reducible refine And.intro ?_ ?_); (first | decide | omega)) | (simp (disch := omega) only [go_sem, Heap.get_ne, wrap64_id, Nat.reduceAdd, Nat.reduceLeDiff, Nat.reduceSub, Nat.reduceEqDiff, Int.reduceLT, Int.reduceLE, Int.reduceEq]) | (with_reducible rfl) | ((with_reducible refine And.intro ?_ ?_) <;> (with_reducible rfl)))
    (with_reducible refine ret_q ?_)
    unfold succV; rw [if_neg (by omega), if_pos hb]
  · refine ret_le (vle_nil 1) (Heap.Le.refl _) ⟨?_, rfl⟩
    unfold succV; rw [if_neg (by omega), if_neg hb]; rfl

theorem sameInts2_spec (hE : E.Good) (hF : E.Fits tab) (a b : List Int) {id : Nat} {H : Heap} (hid : H id = some (b.map icell)) (h1 : a.length < 1000) (h2 : b.length < 1000) : ACall E 16 [ints a, .sl 1 id 0 b.length] H (Ret (.bool (decide (a = b))) H) := by
  refine ent16 hE hF _ _ _ _ ?_; unfold w16
  repeat' (first | ((with_reducible refine cond_mk (fun hb => ?_) (fun hb => ?_)) <;> ((try simp only [if_true, if_false, qq, reduceCtorEq] at hb); (try (exfalso; first | (exact hb) | contradiction | omega)))) | ((with_reducible refine And.intro ?_ ?_); (first | decide | omega)) | ((with_reducible refine at_here ?_); unfold m16_2 w16_2) | (simp (disch := omega) only [go_sem, Heap.get_ne, wrap64_id, Nat.reduceAdd, Nat.reduceLeDiff, Nat.reduceSub, Nat.reduceEqDiff, Int.reduceLT, Int.reduceLE, Int.reduceEq]) | (with_reducible rfl) | ((with_reducible refine And.intro ?_ ?_) <;> (with_reducible rfl)))
  · (with_reducible refine ret_q ?_)
    have : ¬ a = b := fun e => by subst e; exact hb rfl
    simp [this]
  have hl : a.length = b.length := by omega
  refine at_here ?_; unfold m16_0 w16_0; (repeat' (first | ((with_reducible refine cond_mk (fun hb => ?_) (fun hb => ?_)) <;> ((try simp only [if_true, if_false, qq, reduceCtorEq] at hb); (try (exfalso; first | (exact hb) | contradiction | omega)))) | ((with_reducible refine And.intro ?_ ?_); (first | decide | omega)) | (simp (disch := omega) only [go_sem, Heap.get_ne, wrap64_id, Nat.reduceAdd, Nat.reduceLeDiff, Nat.reduceSub, Nat.reduceEqDiff, Int.reduceLT, Int.reduceLE, Int.reduceEq]) | (with_reducible rfl) | ((with_reducible refine And.intro ?_ ?_) <;> (with_reducible rfl))))
  refine loop_mk (σ := Nat) (fun i => [ints a, .sl 1 id 0 b.length, .int .i64 i]) (fun i H' => H' = H ∧ i ≤ a.length ∧ ∀ j < i, a.getD j 0 = b.getD j 0) (fun i => a.length - i) 0 rfl ⟨rfl, Nat.zero_le _, by omega⟩ ?_
  rintro i H K ⟨rfl, hi, hall⟩ hK
  unfold l16_1 w16_1; simp only [go_sem]
  repeat' (first | ((with_reducible refine cond_mk (fun hb => ?_) (fun hb => ?_)) <;> ((try simp only [if_true, if_false, qq, reduceCtorEq] at hb); (try (exfalso; first | (exact hb) | contradiction | omega)))) | ((with_reducible refine And.intro ?_ ?_); (first | decide | omega)) | ((with_reducible refine at_here ?_); first | unfold m16_2 w16_2 | unfold m16_0 w16_0) | (simp (disch := omega) only [go_sem, Heap.get_ne, wrap64_id, Nat.reduceAdd, Nat.reduceLeDiff, Nat.reduceSub, Nat.reduceEqDiff, Int.reduceLT, Int.reduceLE, Int.reduceEq, hid, Nat.zero_add]) | (with_reducible rfl) | ((with_reducible refine And.intro ?_ ?_) <;> (with_reducible rfl)))
  · (with_reducible refine ret_q ?_)
    have : ¬ a = b := fun e => by subst e; exact hb rfl
    simp [this]
  · exact at_eq (hK (i + 1) _ ⟨rfl, by omega, allS hall (by simpa using hb)⟩ (by omega)) rfl
  · (with_reducible refine ret_q ?_)
    have : a = b := ext_eq hl fun j hj => hall j (by omega)
    simp [this]

def exP : List VF := [⟨1, 1, [⟨[⟨⟨38, 0, 0, 0, 0⟩, []⟩], 3, 0, 0, 0⟩]⟩,
  ⟨1, 2, [⟨[⟨⟨38, 0, 0, 0, 0⟩, []⟩, ⟨⟨6, 1, 0, 0, 0⟩, [0]⟩], 2, 0, 2, 1⟩, ⟨[], 4, 0, 9, 0⟩, ⟨[], 3, 1, 0, 0⟩]⟩]
theorem ex1 : runV exP [] 1 [5] 0 9 = (⟨1, 0, [], 5⟩, true) := by decide +kernel
theorem ex2 : runV exP [] 1 [0] 0 9 = (⟨2, 9, [], 0⟩, true) := by decide +kernel
theorem ex3 : runV exP [] 1 [5] 0 5 = (Oc.zero, false) := by decide +kernel
theorem ex4 : validF (exP.getD 1 default) = true := by decide +kernel
theorem ex5 : succV ((exP.getD 1 default).blocks.getD 0 default) = [1, 2] := by decide +kernel
set_option maxHeartbeats 4000000 in
theorem examples_spec (hE : E.Good) (hF : E.Fits tab) : PF E 3 [] (.bool true) := by
  intro H
  have s1 := vrun_spec hE hF exP [] 1 [5] 0 9 (by decide)
  have s2 := vrun_spec hE hF exP [] 1 [0] 0 9 (by decide)
  have s3 := vrun_spec hE hF exP [] 1 [5] 0 5 (by decide)
  have s4 := valid_spec hE hF (exP.getD 1 default)
  have s5 := succ_spec hE hF ((exP.getD 1 default).blocks.getD 0 default)
  rw [ex1] at s1
  rw [ex2] at s2
  rw [ex3] at s3
  rw [ex4] at s4
  rw [ex5] at s5
  refine ent3 hE hF _ _ ?_; unfold w3
  repeat' (first | ((with_reducible refine cond_mk (fun hb => ?_) (fun hb => ?_)) <;> ((try simp only [if_true, if_false, qq, reduceCtorEq] at hb); (try (exfalso; first | (exact hb) | contradiction | omega)))) | ((with_reducible refine grp_mk ?_ (fun hb => ?_) (fun _ => ?_)) <;> (try simp only [if_true, if_false, qq, reduceCtorEq] at hb)) | ((with_reducible refine And.intro ?_ ?_); (first | decide | omega)) | (simp (disch := omega) only [go_sem, Heap.get_ne, wrap64_id, Nat.reduceAdd, Nat.reduceLeDiff, Nat.reduceSub, Nat.reduceEqDiff, Int.reduceLT, Int.reduceLE, Int.reduceEq]) | (with_reducible rfl) | ((with_reducible refine And.intro ?_ ?_) <;> (with_reducible rfl)))
  refine call_pure (s1.le (.cons (vle_of_leB (n := 12) (by decide +kernel)) (.cons (vle_nil 1) (vles_refl _)))) fun _ => ?_
  repeat' (first | ((with_reducible refine cond_mk (fun hb => ?_) (fun hb => ?_)) <;> ((try simp only [if_true, if_false, qq, reduceCtorEq] at hb); (try (exfalso; first | (exact hb) | contradiction | omega)))) | ((with_reducible refine grp_mk ?_ (fun hb => ?_) (fun _ => ?_)) <;> (try simp only [if_true, if_false, qq, reduceCtorEq] at hb)) | ((with_reducible refine And.intro ?_ ?_); (first | decide | omega)) | (simp (disch := omega) only [go_sem, Heap.get_ne, wrap64_id, Nat.reduceAdd, Nat.reduceLeDiff, Nat.reduceSub, Nat.reduceEqDiff, Int.reduceLT, Int.reduceLE, Int.reduceEq]) | (with_reducible rfl) | ((with_reducible refine And.intro ?_ ?_) <;> (with_reducible rfl)))
  refine call_pure (s2.le (.cons (vle_of_leB (n := 12) (by decide +kernel)) (.cons (vle_nil 1) (vles_refl _)))) fun _ => ?_
  repeat' (first | ((with_reducible refine cond_mk (fun hb => ?_) (fun hb => ?_)) <;> ((try simp only [if_true, if_false, qq, reduceCtorEq] at hb); (try (exfalso; first | (exact hb) | contradiction | omega)))) | ((with_reducible refine grp_mk ?_ (fun hb => ?_) (fun _ => ?_)) <;> (try simp only [if_true, if_false, qq, reduceCtorEq] at hb)) | ((with_reducible refine And.intro ?_ ?_); (first | decide | omega)) | (simp (disch := omega) only [go_sem, Heap.get_ne, wrap64_id, Nat.reduceAdd, Nat.reduceLeDiff, Nat.reduceSub, Nat.reduceEqDiff, Int.reduceLT, Int.reduceLE, Int.reduceEq]) | (with_reducible rfl) | ((with_reducible refine And.intro ?_ ?_) <;> (with_reducible rfl)))
  refine call_pure (s3.le (.cons (vle_of_leB (n := 12) (by decide +kernel)) (.cons (vle_nil 1) (vles_refl _)))) fun _ => ?_
  repeat' (first | ((with_reducible refine cond_mk (fun hb => ?_) (fun hb => ?_)) <;> ((try simp only [if_true, if_false, qq, reduceCtorEq] at hb); (try (exfalso; first | (exact hb) | contradiction | omega)))) | ((with_reducible refine grp_mk ?_ (fun hb => ?_) (fun _ => ?_)) <;> (try simp only [if_true, if_false, qq, reduceCtorEq] at hb)) | ((with_reducible refine And.intro ?_ ?_); (first | decide | omega)) | (simp (disch := omega) only [go_sem, Heap.get_ne, wrap64_id, Nat.reduceAdd, Nat.reduceLeDiff, Nat.reduceSub, Nat.reduceEqDiff, Int.reduceLT, Int.reduceLE, Int.reduceEq]) | (with_reducible rfl) | ((with_reducible refine And.intro ?_ ?_) <;> (with_reducible rfl)))
  refine call_pure (s4.le (.cons (vle_of_leB (n := 12) (by decide +kernel)) .nil)) fun _ => ?_
  have s6 : PF E 15 [.agg (Oc.ic ⟨1, 0, [], 5⟩), .agg [.int .i64 1, .int .i64 0, .nilsl, .int .i64 5]] (.bool true) := (sameOc_spec hE hF ⟨1, 0, [], 5⟩ ⟨1, 0, [], 5⟩).le (.cons (VLe.refl _) (.cons (vle_of_leB (n := 12) (by decide +kernel)) .nil))
  have s7 : PF E 15 [.agg (Oc.ic ⟨2, 9, [], 0⟩), .agg [.int .i64 2, .int .i64 9, .nilsl, .int .i64 0]] (.bool true) := (sameOc_spec hE hF ⟨2, 9, [], 0⟩ ⟨2, 9, [], 0⟩).le (.cons (VLe.refl _) (.cons (vle_of_leB (n := 12) (by decide +kernel)) .nil))
  repeat' (first | ((with_reducible refine cond_mk (fun hb => ?_) (fun hb => ?_)) <;> ((try simp only [if_true, if_false, qq, reduceCtorEq] at hb); (try (exfalso; first | (exact hb) | contradiction | omega)))) | ((with_reducible refine grp_mk ?_ (fun hb => ?_) (fun _ => ?_)) <;> (try simp only [if_true, if_false, qq, reduceCtorEq] at hb)) | ((with_reducible refine call_pure (s6) ?_); intro _) | ((with_reducible refine pc_pure (s6) ?_)) | ((with_reducible refine dcall_pure0 (s6) ?_)) | ((with_reducible refine call_pure (s7) ?_); intro _) | ((with_reducible refine pc_pure (s7) ?_)) | ((with_reducible refine dcall_pure0 (s7) ?_)) | ((with_reducible refine gd_mk (fun _ => ?_) (fun hb => absurd hb (by decide)))) | ((with_reducible refine And.intro ?_ ?_); (first | decide | omega)) | (simp (disch := omega) only [go_sem, Heap.get_ne, wrap64_id, Nat.reduceAdd, Nat.reduceLeDiff, Nat.reduceSub, Nat.reduceEqDiff, Int.reduceLT, Int.reduceLE, Int.reduceEq]) | (with_reducible rfl) | ((with_reducible refine And.intro ?_ ?_) <;> (with_reducible rfl)))
  refine call_pure (s5.le (.cons (vle_of_leB (n := 12) (by decide +kernel)) .nil)) fun _ => ?_
  repeat' (first | ((with_reducible refine cond_mk (fun hb => ?_) (fun hb => ?_)) <;> ((try simp only [if_true, if_false, qq, reduceCtorEq] at hb); (try (exfalso; first | (exact hb) | contradiction | omega)))) | ((with_reducible refine grp_mk ?_ (fun hb => ?_) (fun _ => ?_)) <;> (try simp only [if_true, if_false, qq, reduceCtorEq] at hb)) | ((with_reducible refine gd_mk (fun _ => ?_) (fun hb => absurd hb (by decide)))) | ((with_reducible refine mk_bsl (by decide) (fun id hid => ?_))) | ((with_reducible refine call_any (sameInts2_spec hE hF [1, 2] [1, 2] (Heap.set_same _ _ _) (by decide) (by decide)) ?_); rintro _ _ hsm ⟨rfl, rfl⟩) | ((with_reducible refine And.intro ?_ ?_); (first | decide | omega)) | (simp (disch := omega) only [go_sem, Heap.get_ne, wrap64_id, Nat.reduceAdd, Nat.reduceLeDiff, Nat.reduceSub, Nat.reduceEqDiff, Int.reduceLT, Int.reduceLE, Int.reduceEq]) | (with_reducible rfl) | ((with_reducible refine And.intro ?_ ?_) <;> (with_reducible rfl)))
  · exact true
  · exact ⟨rfl, rfl⟩
  · (with_reducible refine ret_q ?_)
    rfl
end Go.Abs
set_option linter.unusedSimpArgs false
set_option linter.unusedVariables false
set_option maxRecDepth 100000
namespace Go.Abs
variable {E : Env}

theorem tmod_pick {n m : Int} (hm : 0 < m) : (if n.tmod m < 0 then n.tmod m + m else n.tmod m) = n % m := by
  have h1 := Int.emod_nonneg n (show m ≠ 0 by omega)
  have h2 := Int.emod_lt_of_pos n hm
  rw [Int.tmod_eq_emod]
  split
  · rw [if_neg (by omega)]; omega
  · rw [if_pos (by omega)]; omega
theorem tmod_gt {n m : Int} (hm : 0 < m) : -m < n.tmod m := by
  have h1 := Int.emod_nonneg n (show m ≠ 0 by omega)
  have h2 := Int.emod_lt_of_pos n hm
  rw [Int.tmod_eq_emod]
  split
  · omega
  · rename_i h
    have : n % m ≠ 0 := fun e => h (.inr (Int.dvd_of_emod_eq_zero e))
    omega
theorem getD_ic {l : List Int} {k : Nat} (h : k < l.length) : (l.map icell).getD k [] = [AV.int .i64 (l.getD k 0)] := by
  simp [List.getD, List.getElem?_eq_getElem h, icell]
theorem pick_spec (hE : E.Good) (hF : E.Fits tab) (n m : Int) (hm : 0 < m) (hm2 : m < 1000000000) : PF E 19 [.int .i64 n, .int .i64 m] (.int .i64 (n % m)) := by
  have hp := tmod_pick (n := n) hm
  have h1 : -m < n.tmod m := tmod_gt hm
  intro H; refine ent19 hE hF _ _ _ _ ?_; unfold w19
  repeat' (first | ((with_reducible refine cond_mk (fun hb => ?_) (fun hb => ?_)) <;> ((try simp only [if_true, if_false, qq, reduceCtorEq] at hb); (try (exfalso; first | (exact hb) | contradiction | omega)))) | ((with_reducible refine And.intro ?_ ?_); (first | decide | omega)) | (simp (disch := omega) only [go_sem, Heap.get_ne, wrap64_id, Nat.reduceAdd, Nat.reduceLeDiff, Nat.reduceSub, Nat.reduceEqDiff, Int.reduceLT, Int.reduceLE, Int.reduceEq]) | (with_reducible rfl) | ((with_reducible refine And.intro ?_ ?_) <;> (with_reducible rfl)))
  · (with_reducible refine ret_q ?_)
    rw [if_pos hb] at hp
    rw [← hp]
  · (with_reducible refine ret_q ?_)
    rw [if_neg (by omega)] at hp
    rw [← hp]
theorem fuel_spec (hE : E.Good) (hF : E.Fits tab) (n : Int) : PF E 26 [.int .i64 n] (.int .i64 (n % 12)) := by
  intro H; refine ent26 hE hF _ _ _ ?_; unfold w26
  repeat' (first | ((with_reducible refine cond_mk (fun hb => ?_) (fun hb => ?_)) <;> ((try simp only [if_true, if_false, qq, reduceCtorEq] at hb); (try (exfalso; first | (exact hb) | contradiction | omega)))) | ((with_reducible refine call_pure (pick_spec hE hF _ _ (by decide) (by decide)) ?_); intro _) | ((with_reducible refine pc_pure (pick_spec hE hF _ _ (by decide) (by decide)) ?_)) | ((with_reducible refine dcall_pure0 (pick_spec hE hF _ _ (by decide) (by decide)) ?_)) | ((with_reducible refine And.intro ?_ ?_); (first | decide | omega)) | (simp (disch := omega) only [go_sem, Heap.get_ne, wrap64_id, Nat.reduceAdd, Nat.reduceLeDiff, Nat.reduceSub, Nat.reduceEqDiff, Int.reduceLT, Int.reduceLE, Int.reduceEq]) | (with_reducible rfl) | ((with_reducible refine And.intro ?_ ?_) <;> (with_reducible rfl)))
  all_goals ((with_reducible refine ret_q ?_); rfl)

def edgesL : List Int := [0, 1, -1, 2, -9223372036854775808, 9223372036854775807, 4294967296, -2147483648, 63, 64]
/-- A word for a seed. -/
def wordV (n raw : Int) : Int := if n % 24 < 10 then edgesL.getD (n % 24).toNat 0 else if n % 24 < 22 then (W64 (n.tdiv 24)) % 17 - 6 else raw
theorem wordV_in {n raw : Int} (h : I64 raw) : I64 (wordV n raw) := by
  unfold wordV
  have h24 := Int.emod_nonneg n (show (24 : Int) ≠ 0 by decide)
  split
  · rename_i hlt
    have : (n % 24).toNat < 10 := by omega
    generalize (n % 24).toNat = k at this
    have hk : k = 0 ∨ k = 1 ∨ k = 2 ∨ k = 3 ∨ k = 4 ∨ k = 5 ∨ k = 6 ∨ k = 7 ∨ k = 8 ∨ k = 9 := by omega
    rcases hk with rfl | rfl | rfl | rfl | rfl | rfl | rfl | rfl | rfl | rfl <;> (constructor <;> decide)
  split
  · have h1 := Int.emod_nonneg (W64 (n.tdiv 24)) (show (17 : Int) ≠ 0 by decide)
    have h2 := Int.emod_lt_of_pos (W64 (n.tdiv 24)) (show (0 : Int) < 17 by decide)
    constructor <;> omega
  · exact h
theorem word_spec (hE : E.Good) (hF : E.Fits tab) (n raw : Int) : PF E 48 [.int .i64 n, .int .i64 raw] (.int .i64 (wordV n raw)) := by
  have h24 := Int.emod_nonneg n (show (24 : Int) ≠ 0 by decide)
  have h17 := Int.emod_nonneg (IntKind.i64.wrap (n.tdiv 24)) (show (17 : Int) ≠ 0 by decide)
  have h172 := Int.emod_lt_of_pos (IntKind.i64.wrap (n.tdiv 24)) (show (0 : Int) < 17 by decide)
  intro H; refine ent48 hE hF _ _ _ _ ?_; unfold w48
  repeat' (first | ((with_reducible refine cond_mk (fun hb => ?_) (fun hb => ?_)) <;> ((try simp only [if_true, if_false, qq, reduceCtorEq] at hb); (try (exfalso; first | (exact hb) | contradiction | omega)))) | ((with_reducible refine call_pure (pick_spec hE hF _ _ (by decide) (by decide)) ?_); intro _) | ((with_reducible refine pc_pure (pick_spec hE hF _ _ (by decide) (by decide)) ?_)) | ((with_reducible refine dcall_pure0 (pick_spec hE hF _ _ (by decide) (by decide)) ?_)) | ((with_reducible refine And.intro ?_ ?_); (first | decide | omega)) | (simp (disch := omega) only [go_sem, Heap.get_ne, wrap64_id, Nat.reduceAdd, Nat.reduceLeDiff, Nat.reduceSub, Nat.reduceEqDiff, Int.reduceLT, Int.reduceLE, Int.reduceEq]) | (with_reducible rfl) | ((with_reducible refine And.intro ?_ ?_) <;> (with_reducible rfl)))
  · have hk : (n % 24).toNat < edgesL.length := by show _ < 10; omega
    have e := getD_ic hk
    have e2 : ([[AV.int .i64 0], [AV.int .i64 1], [AV.int .i64 (-1)], [AV.int .i64 2], [AV.int .i64 (-9223372036854775808)], [AV.int .i64 9223372036854775807], [AV.int .i64 4294967296], [AV.int .i64 (-2147483648)], [AV.int .i64 63], [AV.int .i64 64]] : List (List AV)) = edgesL.map icell := rfl
    rw [e2, e]
    repeat' (first | ((with_reducible refine cond_mk (fun hb => ?_) (fun hb => ?_)) <;> ((try simp only [if_true, if_false, qq, reduceCtorEq] at hb); (try (exfalso; first | (exact hb) | contradiction | omega)))) | ((with_reducible refine And.intro ?_ ?_); (first | decide | omega)) | (simp (disch := omega) only [go_sem, Heap.get_ne, wrap64_id, Nat.reduceAdd, Nat.reduceLeDiff, Nat.reduceSub, Nat.reduceEqDiff, Int.reduceLT, Int.reduceLE, Int.reduceEq]) | (with_reducible rfl) | ((with_reducible refine And.intro ?_ ?_) <;> (with_reducible rfl)))
    (with_reducible refine ret_q ?_)
    unfold wordV; rw [if_pos hb]
  · (with_reducible refine ret_q ?_)
    unfold wordV W64; rw [if_neg (by omega), if_pos hb]
  · (with_reducible refine ret_q ?_)
    unfold wordV; rw [if_neg (by omega), if_neg (by omega)]

/-- The next of a number's digits. -/
def nxt (n m : Int) : Int := W64 ((W64 (n - n % m)).tdiv m)
theorem next_spec (hE : E.Good) (hF : E.Fits tab) {H : Heap} {d : Nat} {n m : Int} (hd : H d = some [[.int .i64 n]]) (hm : 0 < m) (hm2 : m < 1000000000) :
    ACall E 47 [.ptr d 0 0, .int .i64 m] H (fun v H' => v = .int .i64 (n % m) ∧ H' = H.set d (some [[.int .i64 (nxt n m)]])) := by
  refine ent47 hE hF _ _ _ _ ?_; unfold w47
  repeat' (first | ((with_reducible refine cond_mk (fun hb => ?_) (fun hb => ?_)) <;> ((try simp only [if_true, if_false, qq, reduceCtorEq] at hb); (try (exfalso; first | (exact hb) | contradiction | omega)))) | ((with_reducible refine call_pure (pick_spec hE hF _ _ hm hm2) ?_); intro _) | ((with_reducible refine pc_pure (pick_spec hE hF _ _ hm hm2) ?_)) | ((with_reducible refine dcall_pure0 (pick_spec hE hF _ _ hm hm2) ?_)) | ((with_reducible refine And.intro ?_ ?_); (first | decide | omega)) | (simp (disch := omega) only [go_sem, Heap.get_ne, wrap64_id, Nat.reduceAdd, Nat.reduceLeDiff, Nat.reduceSub, Nat.reduceEqDiff, Int.reduceLT, Int.reduceLE, Int.reduceEq, hd]) | (with_reducible rfl) | ((with_reducible refine And.intro ?_ ?_) <;> (with_reducible rfl)))
  all_goals first
    | omega
    | (apply ret_here; exact ⟨rfl, rfl⟩)
theorem next_cact (hE : E.Good) (hF : E.Fits tab) {d : Nat} {n m : Int} (hm : 0 < m) (hm2 : m < 1000000000) :
    CAct E 47 [.ptr d 0 0, .int .i64 m] (.int .i64 (n % m)) [(d, [[.int .i64 n]])] [(d, some [[.int .i64 (nxt n m)]])] :=
  fun H' hh => next_spec hE hF (hh (d, [[.int .i64 n]]) (by simp)) hm hm2
def argsV (a b w : Int) : List Int := [wordV a w, wordV b w]
theorem args_spec (hE : E.Good) (hF : E.Fits tab) (a b w : Int) : PF E 25 [.int .i64 a, .int .i64 b, .int .i64 w] (ints (argsV a b w)) := by
  intro H; refine ent25 hE hF _ _ _ _ _ ?_; unfold w25
  repeat' (first | ((with_reducible refine cond_mk (fun hb => ?_) (fun hb => ?_)) <;> ((try simp only [if_true, if_false, qq, reduceCtorEq] at hb); (try (exfalso; first | (exact hb) | contradiction | omega)))) | ((with_reducible refine call_pure (word_spec hE hF _ _) ?_); intro _) | ((with_reducible refine pc_pure (word_spec hE hF _ _) ?_)) | ((with_reducible refine dcall_pure0 (word_spec hE hF _ _) ?_)) | ((with_reducible refine And.intro ?_ ?_); (first | decide | omega)) | (simp (disch := omega) only [go_sem, Heap.get_ne, wrap64_id, Nat.reduceAdd, Nat.reduceLeDiff, Nat.reduceSub, Nat.reduceEqDiff, Int.reduceLT, Int.reduceLE, Int.reduceEq]) | (with_reducible rfl) | ((with_reducible refine And.intro ?_ ?_) <;> (with_reducible rfl)))
  all_goals ((with_reducible refine ret_q ?_); rfl)
end Go.Abs
set_option linter.unusedSimpArgs false
set_option linter.unusedVariables false
set_option maxRecDepth 100000
namespace Go.Abs
variable {E : Env}

/-- An instruction that the generator gives. -/
structure GoodI (W : Prop) (c : VF) (v : VI) : Prop where
  valid : validI c v = true
  op : v.i.op ≠ 38
  n : W → I64 v.i.n
  call : v.i.op = 6 → 0 ≤ v.i.n ∧ v.i.n < 2 ∧ (v.args.length : Int) = 2 - v.i.n
  mem : v.i.op = 34 ∨ v.i.op = 35 → 0 ≤ v.i.n ∧ v.i.n < 2

/-- The digits at d, an instruction's cells at v, a result's place at t. -/
def VS (G : Heap) (t d v : Nat) (N : Int) (z cs : List AV) (H : Heap) : Prop := HoldsG G H [(d, [[.int .i64 N]]), (v, [cs]), (t, [z])]
theorem VS.hv {G H : Heap} {t d v : Nat} {N : Int} {z cs : List AV} (h : VS G t d v N z cs H) : H v = some [cs] := HoldsG.get h (by simp)
theorem VS.ht {G H : Heap} {t d v : Nat} {N : Int} {z cs : List AV} (h : VS G t d v N z cs H) : H t = some [z] := HoldsG.get h (by simp)
theorem VS.put {G H : Heap} {t d v : Nat} {N : Int} {z cs : List AV} (h : VS G t d v N z cs H) (cs' : List AV) : VS G t d v N z cs' (H.set v (some [cs'])) := by
  have h2 := (HoldsG.perm h (b := (v, [cs]) :: [(d, [[.int .i64 N]]), (t, [z])]) (List.Perm.swap _ _ _)).set (b' := [cs'])
  exact h2.perm (List.Perm.swap _ _ _)
theorem VS.next {G H : Heap} {t d v : Nat} {N : Int} {z cs : List AV} (hE : E.Good) (hF : E.Fits tab) (h : VS G t d v N z cs H) {m : Int} (hm : 0 < m) (hm2 : m < 1000000000) :
    ACall E 47 [.ptr d 0 0, .int .i64 m] H (fun x H' => x = .int .i64 (N % m) ∧ VS G t d v (nxt N m) z cs H') := by
  have hd : H d = some [[.int .i64 N]] := HoldsG.get h (by simp)
  refine ACall.mono (next_spec hE hF hd hm hm2) ?_
  rintro x H' ⟨h1, h2⟩
  subst h1; subst h2
  exact ⟨rfl, HoldsG.set h⟩

def vc (op a b c n : Int) (av : AV) : List AV := [.int .i64 op, .int .i64 a, .int .i64 b, .int .i64 c, .int .i64 n, av]
section
variable (op a b c n : Int) (av : AV)
@[go_sem] theorem e_vc (i : Nat) : (vc op a b c n av)[i]? = ([.int .i64 op, .int .i64 a, .int .i64 b, .int .i64 c, .int .i64 n, av] : List AV)[i]? := id rfl
@[go_sem] theorem e_vcl : (vc op a b c n av).length = 6 := id rfl
@[go_sem] theorem e_vct : (vc op a b c n av).take 6 = vc op a b c n av := id rfl
@[go_sem] theorem set_vc1 (x : Int) : (vc op a b c n av).set 1 (.int .i64 x) = vc op x b c n av := id rfl
@[go_sem] theorem set_vc2 (x : Int) : (vc op a b c n av).set 2 (.int .i64 x) = vc op a x c n av := id rfl
@[go_sem] theorem set_vc3 (x : Int) : (vc op a b c n av).set 3 (.int .i64 x) = vc op a b x n av := id rfl
@[go_sem] theorem set_vc4 (x : Int) : (vc op a b c n av).set 4 (.int .i64 x) = vc op a b c x av := id rfl
@[go_sem] theorem set_vc5 (x : AV) : (vc op a b c n av).set 5 x = vc op a b c n x := id rfl
end
/-- A function's cells, its blocks in any telling. -/
def vfc (c : VF) (X : AV) : List AV := [.int .i64 c.params, .int .i64 c.regs, X]
@[go_sem] theorem e_vfc (c : VF) (X : AV) (i : Nat) : (vfc c X)[i]? = ([.int .i64 c.params, .int .i64 c.regs, X] : List AV)[i]? := id rfl
@[go_sem] theorem e_vfcl (c : VF) (X : AV) : (vfc c X).length = 3 := id rfl
@[go_sem] theorem e_vfct (c : VF) (X : AV) : (vfc c X).take 3 = vfc c X := id rfl
def z6 : List AV := vc 0 0 0 0 0 .nilsl


/-- An instruction's parts stand as its form has it. -/
structure AbcOk (cf : VF) (op a b c : Int) : Prop where
  a : if fA (rowOf op).form = true then 0 ≤ a ∧ a < cf.regs else a = 0
  b : if fB (rowOf op).form = true then 0 ≤ b ∧ b < cf.regs else b = 0
  c : if fC (rowOf op).form = true then 0 ≤ c ∧ c < cf.regs else c = 0

@[go_sem] theorem spl_z6 (op a b c n : Int) (av : AV) : spl z6 0 (vc op a b c n av) = vc op a b c n av := id rfl
theorem ret_vle {R : AV → Heap → Prop} {v v' : AV} {H : Heap} (h : VLe v v') (hr : RetC R v' H) : RetC R v H := .le (fun _ => v') H (fun _ => h) (Heap.Le.refl _) hr
theorem vle_vc (op a b c n : Int) (l : List Int) {av : AV} (h : VLe av (ints l)) : VLe (.agg (vc op a b c n av)) (.agg (VI.cells ⟨⟨op, a, b, c, n⟩, l⟩)) := vle_agg rfl fun j x y hx hy => by
  match j with
  | 0 => cases hx; cases hy; exact VLe.refl _
  | 1 => cases hx; cases hy; exact VLe.refl _
  | 2 => cases hx; cases hy; exact VLe.refl _
  | 3 => cases hx; cases hy; exact VLe.refl _
  | 4 => cases hx; cases hy; exact VLe.refl _
  | 5 => cases hx; cases hy; exact h
  | n + 6 => cases hx
theorem VS.le {G H : Heap} {t d v : Nat} {N : Int} {z cs : List AV} (h : VS G t d v N z cs H) (b : Option Blk) : G.Le (H.set t b) := fun k => by
  have h : HoldsG G H [(d, [[.int .i64 N]]), (v, [cs]), (t, [z])] := h
  cases e : G k with
  | none => exact .inl rfl
  | some c =>
    have := h.kp k c e
    refine .inr ?_
    rw [Heap.get_ne _ _ _ _ (fun e2 => this.2 (by rw [e2]; simp))]
    exact this.1.symm
theorem good_of {W : Prop} {cf : VF} {op a b c n : Int} {l : List Int} (ho : allowedF op = true) (ho2 : op ≠ 38) (hab : AbcOk cf op a b c) (hn : fN (rowOf op).form = true ∨ n = 0) (hi : immOk cf ⟨⟨op, a, b, c, n⟩, l⟩ = true) (hl : l.length ≤ 6 ∧ (op ≠ 6 → l = []) ∧ ∀ x ∈ l, 0 ≤ x ∧ x < cf.regs) (hw : W → I64 n)
    (hc : op = 6 → 0 ≤ n ∧ n < 2 ∧ (l.length : Int) = 2 - n) (hm : op = 34 ∨ op = 35 → 0 ≤ n ∧ n < 2) : GoodI W cf ⟨⟨op, a, b, c, n⟩, l⟩ := by
  refine ⟨?_, ho2, hw, hc, hm⟩
  have h1 := hab.a
  have h2 := hab.b
  have h3 := hab.c
  have hf : formV op = (rowOf op).form := by unfold formV; rw [if_neg ho2]
  have hall : l.all (inReg cf) = true := by
    rw [List.all_eq_true]; intro x hx
    have := hl.2.2 x hx
    simp [inReg, this]
  simp only [validI, restI, hf, hall, hi, Bool.true_and, Bool.and_true, ho, Bool.not_true, Bool.false_or, Bool.and_eq_true, Bool.not_eq_true', Bool.or_eq_false_iff, decide_eq_false_iff_not]
  refine ⟨⟨by omega, ?_⟩, ?_⟩
  · by_cases e : op = 6
    · simp [e]
    · simp [hl.2.1 e]
  · simp only [fieldsOk, inReg]
    grind

/-- The same, and the instruction's registers. -/
def VSA (G : Heap) (t d v : Nat) (N : Int) (z cs : List AV) (av : AV) (xs : List Int) (H : Heap) : Prop := HoldsG G H ([(d, [[.int .i64 N]]), (v, [cs]), (t, [z])] ++ ownL av xs)
section
variable {G H : Heap} {t d v : Nat} {N : Int} {z cs : List AV} {av : AV} {xs : List Int}
theorem VSA.hv (h : VSA G t d v N z cs av xs H) : H v = some [cs] := HoldsG.get h (by simp)
theorem VSA.ht (h : VSA G t d v N z cs av xs H) : H t = some [z] := HoldsG.get h (by simp)
theorem VSA.dv (h : VSA G t d v N z cs av xs H) : d ≠ v := by
  have := (HoldsG.to h).1
  simp only [List.cons_append, List.map_cons, List.nodup_cons, List.mem_cons, not_or] at this
  exact this.1.1
theorem VSA.dnext (hE : E.Good) (hF : E.Fits tab) (h : VSA G t d v N z cs av xs H) {m : Int} (hm : 0 < m) (hm2 : m < 1000000000) {k : AV → List Nat → List Nat → Heap → Prop}
    (hk : ∀ H', VSA G t d v (nxt N m) z cs av xs H' → (∀ b, Fresh H b → Fresh H' b) → k (.int .i64 (N % m)) [d] [d] H') : dcallW E (.fn 47 []) [.ptr d 0 0, .int .i64 m] H k := by
  have hd : H d = some [[.int .i64 N]] := HoldsG.get h (by simp)
  refine ⟨.int .i64 (N % m), [(d, [[.int .i64 N]])], [(d, some [[.int .i64 (nxt N m)]])], next_cact hE hF hm hm2, by simp [hd], ?_⟩
  refine hk _ (HoldsG.set h) fun b hb j c hj => ?_
  by_cases e : j = d
  · subst e; exact hb _ _ hd
  · have hj' : (H.set d (some [[.int .i64 (nxt N m)]])) j = some c := hj
    rw [Heap.get_ne _ _ _ _ e] at hj'; exact hb j c hj'
end
theorem vargs_end {G H : Heap} {t d v : Nat} {N : Int} {z : List AV} {op a b c n : Int} {av : AV} {xs : List Int} {base : Nat} {x : Int} {k : List Nat → List Nat → Heap → Prop} (ho : OwnV av xs) (h : VSA G t d v N z (vc op a b c n av) av xs H) (hbase : Fresh H base) (hlen : xs.length < 1000000)
    (hk : ∀ av2 H', OwnV av2 (xs ++ [x]) → VSA G t d v N z (vc op a b c n av2) av2 (xs ++ [x]) H' → k [] [base + 6] H') :
    dW (.bsl 1 [.int .i64 0] 1 [(0, .c (.int .i64 x))]) (base + 6) H fun t112 n3 g3 H3 => dW (.app 1 (.c av) (.c t112)) (base + 7) H3 fun t113 n4 g4 H4 => dW (.st 1 (.c (.ptr v 0 5)) (.c t113)) (base + 9) H4 fun _ n5 g5 H5 => k n3 g3 H5 := by
  have hv := h.hv
  have h : HoldsG G H ([(d, [[.int .i64 N]]), (v, [vc op a b c n av]), (t, [z])] ++ ownL av xs) := h
  have hlr := hbase.lt hv
  have hn11 : H (base + 6) = none := by cases e : H (base + 6) with | none => rfl | some b => exact absurd (hbase _ _ e) (by omega)
  have hn12 : H (base + 7) = none := by cases e : H (base + 7) with | none => rfl | some b => exact absurd (hbase _ _ e) (by omega)
  refine d_bsl rfl ?_
  have h11 : (H.set (base + 6) (some [[AV.int .i64 x]])) (base + 6) = some [[AV.int .i64 x]] := Heap.set_same _ _ _
  have hh := ho
  rcases hh with ⟨rfl, hx⟩ | ⟨id, rfl⟩
  · refine d_app_nil h11 ⟨by simp, by decide⟩ ?_
    simp (disch := omega) only [go_sem, Heap.get_ne, hv]
    refine hk (.sl 1 (base + 7) 0 1) _ (by rw [hx]; exact .inr ⟨base + 7, rfl⟩) ?_
    have h2 : HoldsG G H ([(v, [vc op a b c n .nilsl])] ++ [(d, [[.int .i64 N]]), (t, [z])]) := h.perm (by simpa [ownL] using List.Perm.swap _ _ _)
    have h3 := h2.frame (H' := ((H.set (base + 6) (some [[AV.int .i64 x]])).set (base + 7) (some [[AV.int .i64 x]])).set v (some [vc op a b c n (.sl 1 (base + 7) 0 1)])) (X' := [(v, [vc op a b c n (.sl 1 (base + 7) 0 1)]), (base + 7, [[AV.int .i64 x]])])
      ⟨by simp; omega, by simp [Heap.set_same]; rw [Heap.get_ne _ _ _ _ (by omega), Heap.set_same]⟩ ((((Kept.refl _ _).step _ (.inr hn11)).step _ (.inr hn12)).step _ (.inl (by simp)))
      (fun j hj => by simp at hj; rcases hj with rfl | rfl; exact .inl (by simp); exact .inr hn12)
    refine h3.perm (perm_of_count fun i _ a => ?_)
    simp only [ownL, hx, icell, List.nil_append, List.map_cons, List.map_nil, List.count_append, List.count_cons, List.count_nil]; omega
  · have hid : H id = some (xs.map icell) := h.get (by simp [ownL])
    have hlid := hbase.lt hid
    refine d_app (by rw [Heap.get_ne _ _ _ _ (by omega)]; exact hid) h11 ⟨by simp, by simp [appLim]; omega⟩ (by simp) ?_
    have hne : v ≠ id := by
      have := h.to.1
      simp only [ownL, List.cons_append, List.nil_append, List.map_cons, List.map_nil, List.nodup_cons, List.mem_cons, not_or] at this
      exact this.2.1.2.1
    simp (disch := omega) only [go_sem, Heap.get_ne, hv]
    refine hk (.sl 1 (base + 7) 0 (xs.length + 1)) _ (.inr ⟨base + 7, by simp⟩) ?_
    have h2 := h.perm (b := [(v, [vc op a b c n (.sl 1 id 0 xs.length)]), (id, xs.map icell)] ++ [(d, [[.int .i64 N]]), (t, [z])]) (perm_of_count fun i _ a => by
      simp only [ownL, List.count_append, List.count_cons, List.count_nil]; omega)
    have h3 := h2.frame (H' := (((H.set (base + 6) (some [[AV.int .i64 x]])).set id none).set (base + 7) (some ((xs.map icell).take xs.length ++ [[AV.int .i64 x]]))).set v (some [vc op a b c n (.sl 1 (base + 7) 0 (xs.length + 1))])) (X' := [(v, [vc op a b c n (.sl 1 (base + 7) 0 (xs.length + 1))]), (base + 7, (xs ++ [x]).map icell)])
      ⟨by simp; omega, by simp [Heap.set_same]; rw [Heap.get_ne _ _ _ _ (by omega), Heap.set_same, List.take_of_length_le (by simp)]; simp [icell]⟩ (((((Kept.refl _ _).step _ (.inr hn11)).step _ (.inl (by simp))).step _ (.inr hn12)).step _ (.inl (by simp)))
      (fun j hj => by simp at hj; rcases hj with rfl | rfl; exact .inl (by simp); exact .inr hn12)
    refine h3.perm (perm_of_count fun i _ a => ?_)
    simp only [ownL, List.count_append, List.count_cons, List.count_nil]; omega


def viArgs (regs : Int) : Nat → Int → List Int → List Int
  | 0, _, xs => xs
  | j + 1, N, xs => viArgs regs j (nxt N regs) (xs ++ [N % regs])
def vi4F (cf : VF) (N op a b c : Int) (bm : Bool) : VI :=
  if bm = true then ⟨⟨op, a, b, c, N % 2⟩, []⟩
  else if op = 6 then ⟨⟨6, a, b, c, N % 2⟩, viArgs cf.regs (2 - N % 2).toNat (nxt N 2) []⟩
  else ⟨⟨op, a, b, c, 0⟩, []⟩

set_option maxHeartbeats 4000000 in
theorem vi4 (hE : E.Good) (hF : E.Fits tab) (c : VF) (X : AV) (hr : 1 ≤ c.regs ∧ c.regs ≤ 3000) {G H : Heap} {t d v : Nat} {N op a b c3 : Int} {bm : Bool} (h : VS G t d v N z6 (vc op a b c3 0 .nilsl) H)
    {R : AV → Heap → Prop} (hR : ∀ H', G.Le H' → RetC R (.agg (vi4F c N op a b c3 bm).cells) H') :
    atW (m28_4 E R) [.rp (vfc c X), .ptr t 0 0, .ptr d 0 0, .ptr v 0 0, .int .i64 op, .bool bm] H := by
  skip
  refine at_here ?_; unfold m28_4 w28_4
  repeat' (first | ((with_reducible refine cond_mk (fun hb => ?_) (fun hb => ?_)) <;> ((try simp only [if_true, if_false, qq, reduceCtorEq] at hb); (try (exfalso; first | (exact hb) | contradiction | omega)))) | ((with_reducible refine grp_mk ?_ (fun hb => ?_) (fun _ => ?_)) <;> (try simp only [if_true, if_false, qq, reduceCtorEq] at hb)) | ((with_reducible refine call_any (h.next hE hF (by omega) (by omega)) ?_); rintro _ _ hsm ⟨rfl, h⟩) | (with_reducible refine fun (base : Nat) (hbase : Fresh _ base) => ?_) | ((with_reducible refine mk_alloc (fun id hid => ?_)); have hid0 := hid.none; (try have hlt := hid.lt (Heap.set_same _ _ _))) | ((with_reducible refine mk_box ?_ (fun id hid => ?_)); (simp only [go_sem]; done); have hid0 := hid.none; (try have hlt := hid.lt (Heap.set_same _ _ _))) | ((with_reducible refine And.intro ?_ ?_); (first | decide | omega)) | ((with_reducible refine at_here ?_); first | unfold m28_6 w28_6 | unfold m28_4 w28_4 | unfold m28_3 w28_3 | unfold m28_2 w28_2 | unfold m28_1 w28_1 | unfold m28_0 w28_0) | (simp (disch := omega) only [go_sem, Heap.get_ne, wrap64_id, Nat.reduceAdd, Nat.reduceLeDiff, Nat.reduceSub, Nat.reduceEqDiff, Int.reduceLT, Int.reduceLE, Int.reduceEq, h.hv, h.ht, fun cs' => (h.put cs').ht]) | (with_reducible rfl) | ((with_reducible refine And.intro ?_ ?_) <;> (with_reducible rfl)))
  · have e : vi4F c N op a b c3 bm = ⟨⟨op, a, b, c3, N % 2⟩, []⟩ := by unfold vi4F; rw [if_pos hb]
    rw [e] at hR
    exact ret_vle (vle_vc _ _ _ _ _ [] (vle_nil 1)) (hR _ ((h.put _).le _))
  · subst hb
    have hk0 := Int.emod_nonneg N (show (2 : Int) ≠ 0 by decide)
    have hk1 := Int.emod_lt_of_pos N (show (0 : Int) < 2 by decide)
    have e : vi4F c N 6 a b c3 bm = ⟨⟨6, a, b, c3, N % 2⟩, viArgs c.regs (2 - N % 2).toNat (nxt N 2) []⟩ := by
      unfold vi4F; rw [if_neg (by simp [*]), if_pos rfl]
    rw [e] at hR
    generalize N % 2 = k at *
    generalize nxt N 2 = N1 at *
    have e0 : [AV.rp (vfc c X), .ptr t 0 0, .ptr d 0 0, .ptr v 0 0, .int .i64 (2 - k)] = [AV.rp (vfc c X), .ptr t 0 0, .ptr d 0 0, .ptr v 0 0, .int .i64 (((2 - k).toNat : Nat) : Int)] := by
      rw [Int.toNat_of_nonneg (by omega)]
    refine loop_mk (σ := Nat × AV × List Int × Int) (fun s => [.rp (vfc c X), .ptr t 0 0, .ptr d 0 0, .ptr v 0 0, .int .i64 s.1])
      (fun s H' => OwnV s.2.1 s.2.2.1 ∧ VSA G t d v s.2.2.2 z6 (vc 6 a b c3 k s.2.1) s.2.1 s.2.2.1 H' ∧ s.1 + s.2.2.1.length ≤ 2 ∧ viArgs c.regs s.1 s.2.2.2 s.2.2.1 = viArgs c.regs (2 - k).toNat N1 []) (fun s => s.1)
      ((2 - k).toNat, .nilsl, [], N1) e0 ⟨.inl ⟨rfl, rfl⟩, ?_, by simp; omega, rfl⟩ ?_
    · have h9 : HoldsG G _ _ := h.put (vc 6 a b c3 k .nilsl)
      show HoldsG G _ _
      simpa [ownL] using h9
    rintro ⟨j, av, xs, M⟩ H K ⟨ho3, hv3, hj, hx⟩ hK
    dsimp only at ho3 hv3 hj hx
    have hdv := hv3.dv
    have hvh := hv3.hv
    unfold l28_5 w28_5; simp only [go_sem]
    repeat' (first | ((with_reducible refine cond_mk (fun hb => ?_) (fun hb => ?_)) <;> ((try simp only [if_true, if_false, qq, reduceCtorEq] at hb); (try (exfalso; first | (exact hb) | contradiction | omega)))) | ((with_reducible refine grp_mk ?_ (fun hb => ?_) (fun _ => ?_)) <;> (try simp only [if_true, if_false, qq, reduceCtorEq] at hb)) | ((with_reducible refine hv3.dnext hE hF (by omega) (by omega) (fun H' hv3 hfr => ?_))) | ((with_reducible refine vargs_end ho3 hv3 (hfr _ (by simpa only [go_sem] using hbase)) (by omega) (fun av2 H2 ho4 hv4 => ?_))) | ((with_reducible refine And.intro (kd_new (by simp; omega)) ?_)) | (with_reducible refine fun (base : Nat) (hbase : Fresh _ base) => ?_) | ((with_reducible refine mk_alloc (fun id hid => ?_)); have hid0 := hid.none; (try have hlt := hid.lt (Heap.set_same _ _ _))) | ((with_reducible refine mk_box ?_ (fun id hid => ?_)); (simp only [go_sem]; done); have hid0 := hid.none; (try have hlt := hid.lt (Heap.set_same _ _ _))) | ((with_reducible refine And.intro ?_ ?_); (first | decide | omega)) | ((with_reducible refine at_here ?_); first | unfold m28_6 w28_6 | unfold m28_4 w28_4 | unfold m28_3 w28_3 | unfold m28_2 w28_2 | unfold m28_1 w28_1 | unfold m28_0 w28_0) | (simp (disch := omega) only [go_sem, Heap.get_ne, wrap64_id, Nat.reduceAdd, Nat.reduceLeDiff, Nat.reduceSub, Nat.reduceEqDiff, Int.reduceLT, Int.reduceLE, Int.reduceEq, hv3.hv, hv3.ht]) | (with_reducible rfl) | ((with_reducible refine And.intro ?_ ?_) <;> (with_reducible rfl)))
    · have hvb := hbase.lt hvh
      refine ⟨⟨by simp [keysDisj], by simp [keysDisj, hdv], kd_new (by simp; omega)⟩, ?_⟩
      have e1 : ((j : Int) - 1) = ((j - 1 : Nat) : Int) := by omega
      rw [e1]
      refine at_eq (hK (j - 1, av2, _, _) _ ⟨ho4, hv4, by simp; omega, ?_⟩ (by simp; omega)) rfl
      rw [← hx]
      obtain ⟨j, rfl⟩ : ∃ q, j = q + 1 := ⟨j - 1, by omega⟩
      rfl
    · have hj0 : j = 0 := by omega
      subst hj0
      have hx2 : viArgs c.regs (2 - k).toNat N1 [] = xs := hx.symm
      rw [hx2] at hR
      have h9 : HoldsG G H ([(d, [[.int .i64 M]]), (v, [vc 6 a b c3 k av]), (t, [z6])] ++ ownL av xs) := hv3
      have gle : ∀ (f : Heap → Heap), (∀ q cc, G q = some cc → (f (H.set t (some [vc 6 a b c3 k av]))) q = some cc) → G.Le (f (H.set t (some [vc 6 a b c3 k av]))) := fun f hf q => by
        cases e : G q with
        | none => exact .inl rfl
        | some cc => exact .inr (hf q cc e).symm
      have hq : ∀ q cc, G q = some cc → (H.set t (some [vc 6 a b c3 k av])) q = some cc := fun q cc e => by
        have := h9.kp q cc e
        rw [Heap.get_ne _ _ _ _ (fun e2 => this.2 (by rw [e2]; simp))]
        exact this.1
      rcases ho3 with ⟨rfl, rfl⟩ | ⟨i2, rfl⟩
      · exact ret_vle (vle_vc _ _ _ _ _ [] (vle_nil 1)) (hR _ (gle id hq))
      · have hi2 : H i2 = some (xs.map icell) := h9.get (by simp [ownL])
        have hne : i2 ≠ t := by
          have := h9.to.1
          simp only [ownL, List.cons_append, List.nil_append, List.map_cons, List.map_nil, List.nodup_cons, List.mem_cons, not_or] at this
          exact fun e => this.2.2.1.1 e.symm
        refine .frz i2 (xs.map icell) (fun _ => .agg (VI.cells ⟨⟨6, a, b, c3, k⟩, xs⟩)) (by rw [Heap.get_ne _ _ _ _ hne]; exact hi2) (fun _ => .inr ?_) (hR _ (gle (fun X => X.set i2 none) fun q cc e => ?_))
        · simp [frz, frz0, frz1, VI.cells, vc, ints]
          rw [List.take_of_length_le (by simp)]
        · have := h9.kp q cc e
          show (Heap.set _ i2 none) q = some cc
          rw [Heap.get_ne _ _ _ _ (fun e2 => this.2 (by rw [e2]; simp [ownL]))]
          exact hq q cc e
  · have e : vi4F c N op a b c3 bm = ⟨⟨op, a, b, c3, 0⟩, []⟩ := by
      unfold vi4F; rw [if_neg (by simp [*]), if_neg (by assumption)]
    rw [e] at hR
    exact ret_vle (vle_vc _ _ _ _ _ [] (vle_nil 1)) (hR _ (h.le _))

def vi3F (raw : Int) (cf : VF) (N op a b c : Int) : VI :=
  if op = 13 then ⟨⟨op, a, b, c, wordV (N % 400) raw⟩, []⟩
  else if op = 33 then ⟨⟨op, a, b, c, N % 9 - 4⟩, []⟩
  else vi4F cf N op a b c (decide (op = 34 ∨ op = 35))
def vi2F (raw : Int) (cf : VF) (N op a b : Int) : VI :=
  if (rowOf op).form = 4 then vi3F raw cf (nxt N cf.regs) op a b (N % cf.regs) else vi3F raw cf N op a b 0
def vi1F (raw : Int) (cf : VF) (N op a : Int) : VI :=
  if (rowOf op).form = 3 ∨ (rowOf op).form = 4 ∨ (rowOf op).form = 7 then vi2F raw cf (nxt N cf.regs) op a (N % cf.regs) else vi2F raw cf N op a 0
def vi0F (raw : Int) (cf : VF) (N op : Int) : VI :=
  if (rowOf op).form = 1 then vi1F raw cf N op 0 else vi1F raw cf (nxt N cf.regs) op (N % cf.regs)
def opsL : List Int := [3, 6, 9, 10, 11, 12, 13, 33, 34, 35, 10, 9]
def opF (n : Int) : Int := if nxt n 18 % 24 < 12 then opsL.getD (nxt n 18 % 24).toNat 0 else 15 + n % 18
/-- The instruction that the generator gives. -/
def viF (n : Int) (cf : VF) : VI := vi0F n cf (nxt (nxt n 18) 24) (opF n)

section
variable {R : AV → Heap → Prop} {c : VF} {X : AV} {G H : Heap} {t d v : Nat} {raw N op a b c3 : Int}
set_option maxHeartbeats 4000000 in
theorem vi3 (hE : E.Good) (hF : E.Fits tab) (hr : 1 ≤ c.regs ∧ c.regs ≤ 3000) (h : VS G t d v N z6 (vc op a b c3 0 .nilsl) H)
    (hR : ∀ H', G.Le H' → RetC R (.agg (vi3F raw c N op a b c3).cells) H') :
    atW (m28_3 E R) [.int .i64 raw, .rp (vfc c X), .ptr t 0 0, .ptr d 0 0, .int .i64 op, .ptr v 0 0] H := by
  skip
  refine at_here ?_; unfold m28_3 w28_3; (repeat' (first | ((with_reducible refine cond_mk (fun hb => ?_) (fun hb => ?_)) <;> ((try simp only [if_true, if_false, qq, reduceCtorEq] at hb); (try (exfalso; first | (exact hb) | contradiction | omega)))) | ((with_reducible refine grp_mk ?_ (fun hb => ?_) (fun _ => ?_)) <;> (try simp only [if_true, if_false, qq, reduceCtorEq] at hb)) | (with_reducible refine fun (base : Nat) (hbase : Fresh _ base) => ?_) | ((with_reducible refine mk_alloc (fun id hid => ?_)); have hid0 := hid.none; (try have hlt := hid.lt (Heap.set_same _ _ _))) | ((with_reducible refine mk_box ?_ (fun id hid => ?_)); (simp only [go_sem]; done); have hid0 := hid.none; (try have hlt := hid.lt (Heap.set_same _ _ _))) | ((with_reducible refine And.intro ?_ ?_); (first | decide | omega)) | (simp (disch := omega) only [go_sem, Heap.get_ne, wrap64_id, Nat.reduceAdd, Nat.reduceLeDiff, Nat.reduceSub, Nat.reduceEqDiff, Int.reduceLT, Int.reduceLE, Int.reduceEq]) | (with_reducible rfl) | ((with_reducible refine And.intro ?_ ?_) <;> (with_reducible rfl))))
  have h9 := Int.emod_nonneg N (show (9 : Int) ≠ 0 by decide)
  have h92 := Int.emod_lt_of_pos N (show (0 : Int) < 9 by decide)
  repeat' (first | ((with_reducible refine cond_mk (fun hb => ?_) (fun hb => ?_)) <;> ((try simp only [if_true, if_false, qq, reduceCtorEq] at hb); (try (exfalso; first | (exact hb) | contradiction | omega)))) | ((with_reducible refine grp_mk ?_ (fun hb => ?_) (fun _ => ?_)) <;> (try simp only [if_true, if_false, qq, reduceCtorEq] at hb)) | ((with_reducible refine call_any (h.next hE hF (by omega) (by omega)) ?_); rintro _ _ hsm ⟨rfl, h⟩) | ((with_reducible refine call_pure (word_spec hE hF _ _) ?_); intro _) | ((with_reducible refine pc_pure (word_spec hE hF _ _) ?_)) | ((with_reducible refine dcall_pure0 (word_spec hE hF _ _) ?_)) | (with_reducible refine fun (base : Nat) (hbase : Fresh _ base) => ?_) | ((with_reducible refine mk_alloc (fun id hid => ?_)); have hid0 := hid.none; (try have hlt := hid.lt (Heap.set_same _ _ _))) | ((with_reducible refine mk_box ?_ (fun id hid => ?_)); (simp only [go_sem]; done); have hid0 := hid.none; (try have hlt := hid.lt (Heap.set_same _ _ _))) | ((with_reducible refine And.intro ?_ ?_); (first | decide | omega)) | ((with_reducible refine at_here ?_); first | unfold m28_6 w28_6 | unfold m28_3 w28_3 | unfold m28_2 w28_2 | unfold m28_1 w28_1 | unfold m28_0 w28_0) | (simp (disch := omega) only [go_sem, Heap.get_ne, wrap64_id, Nat.reduceAdd, Nat.reduceLeDiff, Nat.reduceSub, Nat.reduceEqDiff, Int.reduceLT, Int.reduceLE, Int.reduceEq, h.hv, h.ht, fun cs' => (h.put cs').ht]) | (with_reducible rfl) | ((with_reducible refine And.intro ?_ ?_) <;> (with_reducible rfl)))
  · have e : vi3F raw c N op a b c3 = ⟨⟨op, a, b, c3, wordV (N % 400) raw⟩, []⟩ := by unfold vi3F; rw [if_pos hb]
    rw [e] at hR
    exact ret_vle (vle_vc _ _ _ _ _ [] (vle_nil 1)) (hR _ ((h.put _).le _))
  · have e : vi3F raw c N op a b c3 = ⟨⟨op, a, b, c3, N % 9 - 4⟩, []⟩ := by unfold vi3F; rw [if_neg (by assumption), if_pos hb]
    rw [e] at hR
    exact ret_vle (vle_vc _ _ _ _ _ [] (vle_nil 1)) (hR _ ((h.put _).le _))
  · refine vi4 hE hF c X hr h fun H' hle => ?_
    have e : vi3F raw c N op a b c3 = vi4F c N op a b c3 (op == 34) := by
      unfold vi3F; rw [if_neg (by assumption), if_neg (by assumption)]; congr 1; simp [hb]
    rw [← e]; exact hR H' hle
  · refine vi4 hE hF c X hr h fun H' hle => ?_
    have e : vi3F raw c N op a b c3 = vi4F c N op a b c3 (op == 35) := by
      unfold vi3F; rw [if_neg (by assumption), if_neg (by assumption)]; congr 1; simp [hb]; rfl
    rw [← e]; exact hR H' hle
set_option maxHeartbeats 4000000 in
theorem vi2 (hE : E.Good) (hF : E.Fits tab) (hr : 1 ≤ c.regs ∧ c.regs ≤ 3000) (h : VS G t d v N z6 (vc op a b 0 0 .nilsl) H)
    (hR : ∀ H', G.Le H' → RetC R (.agg (vi2F raw c N op a b).cells) H') :
    atW (m28_2 E R) [.int .i64 raw, .rp (vfc c X), .ptr t 0 0, .ptr d 0 0, .int .i64 op, .ptr v 0 0, .int .i64 (rowOf op).form] H := by
  skip
  refine at_here ?_; unfold m28_2 w28_2
  repeat' (first | ((with_reducible refine cond_mk (fun hb => ?_) (fun hb => ?_)) <;> ((try simp only [if_true, if_false, qq, reduceCtorEq] at hb); (try (exfalso; first | (exact hb) | contradiction | omega)))) | ((with_reducible refine grp_mk ?_ (fun hb => ?_) (fun _ => ?_)) <;> (try simp only [if_true, if_false, qq, reduceCtorEq] at hb)) | ((with_reducible refine call_any (h.next hE hF (by omega) (by omega)) ?_); rintro _ _ hsm ⟨rfl, h⟩) | (with_reducible refine fun (base : Nat) (hbase : Fresh _ base) => ?_) | ((with_reducible refine mk_alloc (fun id hid => ?_)); have hid0 := hid.none; (try have hlt := hid.lt (Heap.set_same _ _ _))) | ((with_reducible refine mk_box ?_ (fun id hid => ?_)); (simp only [go_sem]; done); have hid0 := hid.none; (try have hlt := hid.lt (Heap.set_same _ _ _))) | ((with_reducible refine And.intro ?_ ?_); (first | decide | omega)) | ((with_reducible refine at_here ?_); first | unfold m28_6 w28_6 | unfold m28_4 w28_4 | unfold m28_2 w28_2 | unfold m28_1 w28_1 | unfold m28_0 w28_0) | (simp (disch := omega) only [go_sem, Heap.get_ne, wrap64_id, Nat.reduceAdd, Nat.reduceLeDiff, Nat.reduceSub, Nat.reduceEqDiff, Int.reduceLT, Int.reduceLE, Int.reduceEq, h.hv, h.ht, fun cs' => (h.put cs').ht]) | (with_reducible rfl) | ((with_reducible refine And.intro ?_ ?_) <;> (with_reducible rfl)))
  · refine vi3 hE hF hr (h.put _) fun H' hle => ?_
    have := hR H' hle
    unfold vi2F at this; rw [if_pos hb] at this; exact this
  · refine vi3 hE hF hr h fun H' hle => ?_
    have := hR H' hle
    unfold vi2F at this; rw [if_neg hb] at this; exact this
set_option maxHeartbeats 4000000 in
theorem vi1 (hE : E.Good) (hF : E.Fits tab) (hr : 1 ≤ c.regs ∧ c.regs ≤ 3000) (h : VS G t d v N z6 (vc op a 0 0 0 .nilsl) H)
    (hR : ∀ H', G.Le H' → RetC R (.agg (vi1F raw c N op a).cells) H') :
    atW (m28_1 E R) [.int .i64 raw, .rp (vfc c X), .ptr t 0 0, .ptr d 0 0, .int .i64 op, .ptr v 0 0, .int .i64 (rowOf op).form] H := by
  skip
  refine at_here ?_; unfold m28_1 w28_1
  repeat' (first | ((with_reducible refine cond_mk (fun hb => ?_) (fun hb => ?_)) <;> ((try simp only [if_true, if_false, qq, reduceCtorEq] at hb); (try (exfalso; first | (exact hb) | contradiction | omega)))) | ((with_reducible refine grp_mk ?_ (fun hb => ?_) (fun _ => ?_)) <;> (try simp only [if_true, if_false, qq, reduceCtorEq] at hb)) | ((with_reducible refine call_any (h.next hE hF (by omega) (by omega)) ?_); rintro _ _ hsm ⟨rfl, h⟩) | (with_reducible refine fun (base : Nat) (hbase : Fresh _ base) => ?_) | ((with_reducible refine mk_alloc (fun id hid => ?_)); have hid0 := hid.none; (try have hlt := hid.lt (Heap.set_same _ _ _))) | ((with_reducible refine mk_box ?_ (fun id hid => ?_)); (simp only [go_sem]; done); have hid0 := hid.none; (try have hlt := hid.lt (Heap.set_same _ _ _))) | ((with_reducible refine And.intro ?_ ?_); (first | decide | omega)) | ((with_reducible refine at_here ?_); first | unfold m28_6 w28_6 | unfold m28_4 w28_4 | unfold m28_3 w28_3 | unfold m28_1 w28_1 | unfold m28_0 w28_0) | (simp (disch := omega) only [go_sem, Heap.get_ne, wrap64_id, Nat.reduceAdd, Nat.reduceLeDiff, Nat.reduceSub, Nat.reduceEqDiff, Int.reduceLT, Int.reduceLE, Int.reduceEq, h.hv, h.ht, fun cs' => (h.put cs').ht]) | (with_reducible rfl) | ((with_reducible refine And.intro ?_ ?_) <;> (with_reducible rfl)))
  · refine vi2 hE hF hr (h.put _) fun H' hle => ?_
    have := hR H' hle
    unfold vi1F at this; rw [if_pos (by omega)] at this; exact this
  · refine vi2 hE hF hr h fun H' hle => ?_
    have := hR H' hle
    unfold vi1F at this; rw [if_neg (by omega)] at this; exact this
set_option maxHeartbeats 4000000 in
theorem vi0 (hE : E.Good) (hF : E.Fits tab) (hr : 1 ≤ c.regs ∧ c.regs ≤ 3000) (h : HoldsG G H [(d, [[.int .i64 N]]), (t, [z6])])
    (hR : ∀ H', G.Le H' → RetC R (.agg (vi0F raw c N op).cells) H') :
    atW (m28_0 E R) [.int .i64 raw, .rp (vfc c X), .ptr t 0 0, .ptr d 0 0, .int .i64 op] H := by
  skip
  refine at_here ?_; unfold m28_0 w28_0
  repeat' (first | ((with_reducible refine cond_mk (fun hb => ?_) (fun hb => ?_)) <;> ((try simp only [if_true, if_false, qq, reduceCtorEq] at hb); (try (exfalso; first | (exact hb) | contradiction | omega)))) | ((with_reducible refine grp_mk ?_ (fun hb => ?_) (fun _ => ?_)) <;> (try simp only [if_true, if_false, qq, reduceCtorEq] at hb)) | ((with_reducible refine call_pure (infoR_spec hE hF _) ?_); intro _) | ((with_reducible refine pc_pure (infoR_spec hE hF _) ?_)) | ((with_reducible refine dcall_pure0 (infoR_spec hE hF _) ?_)) | (with_reducible refine fun (base : Nat) (hbase : Fresh _ base) => ?_) | ((with_reducible refine mk_alloc (fun id hid => ?_)); have hid0 := hid.none; (try have hlt := hid.lt (Heap.set_same _ _ _))) | ((with_reducible refine mk_box ?_ (fun id hid => ?_)); (simp only [go_sem]; done); have hid0 := hid.none; (try have hlt := hid.lt (Heap.set_same _ _ _))) | ((with_reducible refine And.intro ?_ ?_); (first | decide | omega)) | ((with_reducible refine at_here ?_); first | unfold m28_6 w28_6 | unfold m28_4 w28_4 | unfold m28_3 w28_3 | unfold m28_2 w28_2 | unfold m28_0 w28_0) | (simp (disch := omega) only [go_sem, Heap.get_ne, wrap64_id, Nat.reduceAdd, Nat.reduceLeDiff, Nat.reduceSub, Nat.reduceEqDiff, Int.reduceLT, Int.reduceLE, Int.reduceEq]) | (with_reducible rfl) | ((with_reducible refine And.intro ?_ ?_) <;> (with_reducible rfl)))
  · have hV : VS G t d id N z6 (vc op 0 0 0 0 .nilsl) (H.set id (some [vc op 0 0 0 0 .nilsl])) := (h.new hid).perm (List.Perm.swap _ _ _)
    have hV2 := hV.next hE hF (m := c.regs) (by omega) (by omega)
    refine call_any hV2 ?_
    rintro _ H' hsm ⟨rfl, h⟩
    repeat' (first | ((with_reducible refine cond_mk (fun hb => ?_) (fun hb => ?_)) <;> ((try simp only [if_true, if_false, qq, reduceCtorEq] at hb); (try (exfalso; first | (exact hb) | contradiction | omega)))) | ((with_reducible refine grp_mk ?_ (fun hb => ?_) (fun _ => ?_)) <;> (try simp only [if_true, if_false, qq, reduceCtorEq] at hb)) | (with_reducible refine fun (base : Nat) (hbase : Fresh _ base) => ?_) | ((with_reducible refine mk_alloc (fun id hid => ?_)); have hid0 := hid.none; (try have hlt := hid.lt (Heap.set_same _ _ _))) | ((with_reducible refine mk_box ?_ (fun id hid => ?_)); (simp only [go_sem]; done); have hid0 := hid.none; (try have hlt := hid.lt (Heap.set_same _ _ _))) | ((with_reducible refine And.intro ?_ ?_); (first | decide | omega)) | ((with_reducible refine at_here ?_); first | unfold m28_6 w28_6 | unfold m28_4 w28_4 | unfold m28_3 w28_3 | unfold m28_2 w28_2 | unfold m28_0 w28_0) | (simp (disch := omega) only [go_sem, Heap.get_ne, wrap64_id, Nat.reduceAdd, Nat.reduceLeDiff, Nat.reduceSub, Nat.reduceEqDiff, Int.reduceLT, Int.reduceLE, Int.reduceEq, h.hv, h.ht]) | (with_reducible rfl) | ((with_reducible refine And.intro ?_ ?_) <;> (with_reducible rfl)))
    refine vi1 hE hF hr (h.put _) fun H' hle => ?_
    have := hR H' hle
    unfold vi0F at this; rw [if_neg hb] at this; exact this
  · have hV : VS G t d id N z6 (vc op 0 0 0 0 .nilsl) (H.set id (some [vc op 0 0 0 0 .nilsl])) := (h.new hid).perm (List.Perm.swap _ _ _)
    refine vi1 hE hF hr hV fun H' hle => ?_
    have := hR H' hle
    unfold vi0F at this; rw [if_pos hb] at this; exact this
end
theorem next0 {G H : Heap} {t d : Nat} {N : Int} {z : List AV} (hE : E.Good) (hF : E.Fits tab) (h : HoldsG G H [(d, [[.int .i64 N]]), (t, [z])]) {m : Int} (hm : 0 < m) (hm2 : m < 1000000000) :
    ACall E 47 [.ptr d 0 0, .int .i64 m] H (fun x H' => x = .int .i64 (N % m) ∧ HoldsG G H' [(d, [[.int .i64 (nxt N m)]]), (t, [z])]) := by
  have hd : H d = some [[.int .i64 N]] := h.get (by simp)
  refine ACall.mono (next_spec hE hF hd hm hm2) ?_
  rintro x H' ⟨h1, h2⟩
  subst h1; subst h2
  exact ⟨rfl, h.set⟩
set_option maxHeartbeats 4000000 in
theorem vinstr_spec (hE : E.Good) (hF : E.Fits tab) (n : Int) (c : VF) (X : AV) (hr : 1 ≤ c.regs ∧ c.regs ≤ 3000) : PF E 28 [.int .i64 n, .agg (vfc c X)] (.agg (viF n c).cells) := by
  intro G
  have hk20 := Int.emod_nonneg (nxt n 18) (show (24 : Int) ≠ 0 by decide)
  have hk10 := Int.emod_nonneg n (show (18 : Int) ≠ 0 by decide)
  have hk11 := Int.emod_lt_of_pos n (show (0 : Int) < 18 by decide)
  have fin : ∀ H', G.Le H' → RetC (Ret (.agg (viF n c).cells) G) (.agg (vi0F n c (nxt (nxt n 18) 24) (opF n)).cells) H' := fun H' hle => ret_le (VLe.refl _) hle ⟨rfl, rfl⟩
  unfold opF at fin
  refine ent28 hE hF _ _ _ _ ?_; unfold w28
  repeat' (first | ((with_reducible refine cond_mk (fun hb => ?_) (fun hb => ?_)) <;> ((try simp only [if_true, if_false, qq, reduceCtorEq] at hb); (try (exfalso; first | (exact hb) | contradiction | omega)))) | ((with_reducible refine grp_mk ?_ (fun hb => ?_) (fun _ => ?_)) <;> (try simp only [if_true, if_false, qq, reduceCtorEq] at hb)) | (with_reducible refine fun (base : Nat) (hbase : Fresh _ base) => ?_) | ((with_reducible refine mk_alloc (fun id hid => ?_)); have hid0 := hid.none; (try have hlt := hid.lt (Heap.set_same _ _ _))) | ((with_reducible refine mk_box ?_ (fun id hid => ?_)); (simp only [go_sem]; done); have hid0 := hid.none; (try have hlt := hid.lt (Heap.set_same _ _ _))) | ((with_reducible refine And.intro ?_ ?_); (first | decide | omega)) | ((with_reducible refine at_here ?_); first | unfold m28_6 w28_6 | unfold m28_4 w28_4 | unfold m28_3 w28_3 | unfold m28_2 w28_2 | unfold m28_1 w28_1) | (simp (disch := omega) only [go_sem, Heap.get_ne, wrap64_id, Nat.reduceAdd, Nat.reduceLeDiff, Nat.reduceSub, Nat.reduceEqDiff, Int.reduceLT, Int.reduceLE, Int.reduceEq]) | (with_reducible rfl) | ((with_reducible refine And.intro ?_ ?_) <;> (with_reducible rfl)))
  refine mk_box rfl fun d hd => ?_
  repeat' (first | ((with_reducible refine cond_mk (fun hb => ?_) (fun hb => ?_)) <;> ((try simp only [if_true, if_false, qq, reduceCtorEq] at hb); (try (exfalso; first | (exact hb) | contradiction | omega)))) | ((with_reducible refine grp_mk ?_ (fun hb => ?_) (fun _ => ?_)) <;> (try simp only [if_true, if_false, qq, reduceCtorEq] at hb)) | (with_reducible refine fun (base : Nat) (hbase : Fresh _ base) => ?_) | ((with_reducible refine mk_alloc (fun id hid => ?_)); have hid0 := hid.none; (try have hlt := hid.lt (Heap.set_same _ _ _))) | ((with_reducible refine mk_box ?_ (fun id hid => ?_)); (simp only [go_sem]; done); have hid0 := hid.none; (try have hlt := hid.lt (Heap.set_same _ _ _))) | ((with_reducible refine And.intro ?_ ?_); (first | decide | omega)) | ((with_reducible refine at_here ?_); first | unfold m28_6 w28_6 | unfold m28_4 w28_4 | unfold m28_3 w28_3 | unfold m28_2 w28_2 | unfold m28_1 w28_1) | (simp (disch := omega) only [go_sem, Heap.get_ne, wrap64_id, Nat.reduceAdd, Nat.reduceLeDiff, Nat.reduceSub, Nat.reduceEqDiff, Int.reduceLT, Int.reduceLE, Int.reduceEq]) | (with_reducible rfl) | ((with_reducible refine And.intro ?_ ?_) <;> (with_reducible rfl)))
  have h0 : HoldsG G G [] := ⟨⟨by simp, by simp⟩, fun k b h => ⟨h, by simp⟩⟩
  have h : HoldsG G ((G.set id (some [z6])).set d (some [[.int .i64 n]])) [(d, [[.int .i64 n]]), (id, [z6])] := (h0.new hid).new hd
  refine call_any (next0 hE hF h (by decide) (by decide)) ?_
  rintro _ H1 hsm ⟨rfl, h⟩
  repeat' (first | ((with_reducible refine cond_mk (fun hb => ?_) (fun hb => ?_)) <;> ((try simp only [if_true, if_false, qq, reduceCtorEq] at hb); (try (exfalso; first | (exact hb) | contradiction | omega)))) | ((with_reducible refine grp_mk ?_ (fun hb => ?_) (fun _ => ?_)) <;> (try simp only [if_true, if_false, qq, reduceCtorEq] at hb)) | (with_reducible refine fun (base : Nat) (hbase : Fresh _ base) => ?_) | ((with_reducible refine mk_alloc (fun id hid => ?_)); have hid0 := hid.none; (try have hlt := hid.lt (Heap.set_same _ _ _))) | ((with_reducible refine mk_box ?_ (fun id hid => ?_)); (simp only [go_sem]; done); have hid0 := hid.none; (try have hlt := hid.lt (Heap.set_same _ _ _))) | ((with_reducible refine And.intro ?_ ?_); (first | decide | omega)) | ((with_reducible refine at_here ?_); first | unfold m28_6 w28_6 | unfold m28_4 w28_4 | unfold m28_3 w28_3 | unfold m28_2 w28_2 | unfold m28_1 w28_1) | (simp (disch := omega) only [go_sem, Heap.get_ne, wrap64_id, Nat.reduceAdd, Nat.reduceLeDiff, Nat.reduceSub, Nat.reduceEqDiff, Int.reduceLT, Int.reduceLE, Int.reduceEq]) | (with_reducible rfl) | ((with_reducible refine And.intro ?_ ?_) <;> (with_reducible rfl)))
  refine call_any (next0 hE hF h (by decide) (by decide)) ?_
  rintro _ H2 hsm ⟨rfl, h⟩
  repeat' (first | ((with_reducible refine cond_mk (fun hb => ?_) (fun hb => ?_)) <;> ((try simp only [if_true, if_false, qq, reduceCtorEq] at hb); (try (exfalso; first | (exact hb) | contradiction | omega)))) | ((with_reducible refine grp_mk ?_ (fun hb => ?_) (fun _ => ?_)) <;> (try simp only [if_true, if_false, qq, reduceCtorEq] at hb)) | (with_reducible refine fun (base : Nat) (hbase : Fresh _ base) => ?_) | ((with_reducible refine mk_alloc (fun id hid => ?_)); have hid0 := hid.none; (try have hlt := hid.lt (Heap.set_same _ _ _))) | ((with_reducible refine mk_box ?_ (fun id hid => ?_)); (simp only [go_sem]; done); have hid0 := hid.none; (try have hlt := hid.lt (Heap.set_same _ _ _))) | ((with_reducible refine And.intro ?_ ?_); (first | decide | omega)) | ((with_reducible refine at_here ?_); first | unfold m28_6 w28_6 | unfold m28_4 w28_4 | unfold m28_3 w28_3 | unfold m28_2 w28_2 | unfold m28_1 w28_1) | (simp (disch := omega) only [go_sem, Heap.get_ne, wrap64_id, Nat.reduceAdd, Nat.reduceLeDiff, Nat.reduceSub, Nat.reduceEqDiff, Int.reduceLT, Int.reduceLE, Int.reduceEq]) | (with_reducible rfl) | ((with_reducible refine And.intro ?_ ?_) <;> (with_reducible rfl)))
  · have hk : (nxt n 18 % 24).toNat < opsL.length := by show _ < 12; omega
    have e := getD_ic hk
    have e2 : ([[AV.int .i64 3], [AV.int .i64 6], [AV.int .i64 9], [AV.int .i64 10], [AV.int .i64 11], [AV.int .i64 12], [AV.int .i64 13], [AV.int .i64 33], [AV.int .i64 34], [AV.int .i64 35], [AV.int .i64 10], [AV.int .i64 9]] : List (List AV)) = opsL.map icell := rfl
    rw [e2, e]
    repeat' (first | ((with_reducible refine cond_mk (fun hb => ?_) (fun hb => ?_)) <;> ((try simp only [if_true, if_false, qq, reduceCtorEq] at hb); (try (exfalso; first | (exact hb) | contradiction | omega)))) | ((with_reducible refine grp_mk ?_ (fun hb => ?_) (fun _ => ?_)) <;> (try simp only [if_true, if_false, qq, reduceCtorEq] at hb)) | (with_reducible refine fun (base : Nat) (hbase : Fresh _ base) => ?_) | ((with_reducible refine mk_alloc (fun id hid => ?_)); have hid0 := hid.none; (try have hlt := hid.lt (Heap.set_same _ _ _))) | ((with_reducible refine mk_box ?_ (fun id hid => ?_)); (simp only [go_sem]; done); have hid0 := hid.none; (try have hlt := hid.lt (Heap.set_same _ _ _))) | ((with_reducible refine And.intro ?_ ?_); (first | decide | omega)) | ((with_reducible refine at_here ?_); first | unfold m28_6 w28_6 | unfold m28_4 w28_4 | unfold m28_3 w28_3 | unfold m28_2 w28_2 | unfold m28_1 w28_1) | (simp (disch := omega) only [go_sem, Heap.get_ne, wrap64_id, Nat.reduceAdd, Nat.reduceLeDiff, Nat.reduceSub, Nat.reduceEqDiff, Int.reduceLT, Int.reduceLE, Int.reduceEq]) | (with_reducible rfl) | ((with_reducible refine And.intro ?_ ?_) <;> (with_reducible rfl)))
    rw [if_pos (by omega)] at fin
    exact vi0 hE hF hr h fin
  · rw [if_neg (by omega)] at fin
    exact vi0 hE hF hr h fin
end Go.Abs
/- What the generator of instructions gives is well. -/
namespace Go.Abs

theorem form_ne1 {op : Int} (ho : allowedF op = true) (ho2 : op ≠ 38) : ((rowOf op).form = 1 ↔ op = 3) ∧ (fA (rowOf op).form = true ↔ op ≠ 3) := by
  have h : op = 3 ∨ op = 6 ∨ op = 9 ∨ op = 10 ∨ op = 11 ∨ op = 12 ∨ op = 13 ∨ op = 33 ∨ op = 34 ∨ op = 35 ∨ (15 ≤ op ∧ op ≤ 32) := by
    simp only [allowedF, Bool.or_eq_true, Bool.and_eq_true, beq_iff_eq, decide_eq_true_eq] at ho
    omega
  rcases h with rfl | rfl | rfl | rfl | rfl | rfl | rfl | rfl | rfl | rfl | ⟨h1, h2⟩
  case inr.inr.inr.inr.inr.inr.inr.inr.inr.inr =>
    have h3 : op = 15 ∨ op = 16 ∨ op = 17 ∨ op = 18 ∨ op = 19 ∨ op = 20 ∨ op = 21 ∨ op = 22 ∨ op = 23 ∨ op = 24 ∨ op = 25 ∨ op = 26 ∨ op = 27 ∨ op = 28 ∨ op = 29 ∨ op = 30 ∨ op = 31 ∨ op = 32 := by omega
    rcases h3 with rfl | rfl | rfl | rfl | rfl | rfl | rfl | rfl | rfl | rfl | rfl | rfl | rfl | rfl | rfl | rfl | rfl | rfl <;> decide
  all_goals decide


theorem viArgs_ok {regs : Int} (hr : 1 ≤ regs) : ∀ (j : Nat) (N : Int) (xs : List Int), (∀ x ∈ xs, 0 ≤ x ∧ x < regs) → (viArgs regs j N xs).length = xs.length + j ∧ ∀ x ∈ viArgs regs j N xs, 0 ≤ x ∧ x < regs
  | 0, N, xs, h => ⟨rfl, h⟩
  | j + 1, N, xs, h => by
    have h2 := viArgs_ok hr j (nxt N regs) (xs ++ [N % regs]) (fun x hx => by
      rcases List.mem_append.1 hx with h9 | h9
      · exact h x h9
      · simp at h9; rw [h9]; exact ⟨Int.emod_nonneg _ (by omega), Int.emod_lt_of_pos _ (by omega)⟩)
    refine ⟨?_, h2.2⟩
    have := h2.1
    simp at this
    show (viArgs regs j (nxt N regs) (xs ++ [N % regs])).length = _
    omega

theorem vi4_good {W : Prop} {cf : VF} {N op a b c : Int} {bm : Bool} (hr : 1 ≤ cf.regs) (hbm : bm = true ↔ (op = 34 ∨ op = 35)) (ho : allowedF op = true) (ho2 : op ≠ 38) (hn1 : op ≠ 33) (hab : AbcOk cf op a b c) : GoodI W cf (vi4F cf N op a b c bm) := by
  have h0 := Int.emod_nonneg N (show (2 : Int) ≠ 0 by decide)
  have h1 := Int.emod_lt_of_pos N (show (0 : Int) < 2 by decide)
  unfold vi4F
  split
  · rename_i h
    have h34 := hbm.1 h
    have h6 : op ≠ 6 := by omega
    refine good_of ho ho2 hab ?_ ?_ ⟨by simp, fun _ => rfl, by simp⟩ (fun _ => ⟨by omega, by omega⟩) (by omega) (by omega)
    · rcases h34 with rfl | rfl <;> exact .inl (by decide)
    · simp [immOk, h34, hn1, h6]; try omega
  · rename_i h
    have h34 : ¬ (op = 34 ∨ op = 35) := fun e => h (hbm.2 e)
    split
    · rename_i h6
      subst h6
      obtain ⟨g1, g2⟩ := viArgs_ok hr (2 - N % 2).toNat (nxt N 2) [] (by simp)
      simp at g1
      exact good_of ho ho2 hab (.inl (by decide)) (by simp [immOk]; omega) ⟨by omega, fun e => absurd rfl e, g2⟩ (fun _ => ⟨by omega, by omega⟩) (fun _ => ⟨h0, h1, by omega⟩) (by omega)
    · rename_i h6
      refine good_of ho ho2 hab (.inr rfl) ?_ ⟨by simp, fun _ => rfl, by simp⟩ (fun _ => I64_0) (fun e => absurd e h6) (fun e => absurd e h34)
      simp [immOk, h34, hn1, ho2]; try omega
theorem vi3_good {W : Prop} {raw : Int} {cf : VF} {N op a b c : Int} (hraw : W → I64 raw) (hr : 1 ≤ cf.regs) (ho : allowedF op = true) (ho2 : op ≠ 38) (hab : AbcOk cf op a b c) : GoodI W cf (vi3F raw cf N op a b c) := by
  have h0 := Int.emod_nonneg N (show (9 : Int) ≠ 0 by decide)
  have h1 := Int.emod_lt_of_pos N (show (0 : Int) < 9 by decide)
  unfold vi3F
  split
  · rename_i h
    refine good_of ho ho2 hab ?_ ?_ ⟨by simp, fun _ => rfl, by simp⟩ (fun h => wordV_in (hraw h)) (by omega) (by omega)
    · subst h; exact .inl (by decide)
    · simp [immOk, h]
  split
  · rename_i h
    refine good_of ho ho2 hab ?_ ?_ ⟨by simp, fun _ => rfl, by simp⟩ (fun _ => ⟨by omega, by omega⟩) (by omega) (by omega)
    · subst h; exact .inl (by decide)
    · simp [immOk, h]; omega
  · exact vi4_good hr (by simp) ho ho2 (by assumption) hab

theorem viF_good {W : Prop} {n : Int} {cf : VF} (hn : W → I64 n) (hr : 1 ≤ cf.regs ∧ cf.regs ≤ 3000) : GoodI W cf (viF n cf) := by
  have hmod : ∀ N : Int, 0 ≤ N % cf.regs ∧ N % cf.regs < cf.regs := fun N => ⟨Int.emod_nonneg _ (by omega), Int.emod_lt_of_pos _ (by omega)⟩
  have hop : allowedF (opF n) = true ∧ opF n ≠ 38 := by
    have h1 := Int.emod_nonneg n (show (18 : Int) ≠ 0 by decide)
    have h2 := Int.emod_lt_of_pos n (show (0 : Int) < 18 by decide)
    unfold opF
    split
    · rename_i h
      have h3 := Int.emod_nonneg (nxt n 18) (show (24 : Int) ≠ 0 by decide)
      have : (nxt n 18 % 24).toNat < 12 := by omega
      generalize (nxt n 18 % 24).toNat = k at this
      have hk : k = 0 ∨ k = 1 ∨ k = 2 ∨ k = 3 ∨ k = 4 ∨ k = 5 ∨ k = 6 ∨ k = 7 ∨ k = 8 ∨ k = 9 ∨ k = 10 ∨ k = 11 := by omega
      rcases hk with rfl | rfl | rfl | rfl | rfl | rfl | rfl | rfl | rfl | rfl | rfl | rfl <;> decide
    · exact ⟨by simp [allowedF]; omega, by omega⟩
  unfold viF
  generalize opF n = op at hop
  generalize nxt (nxt n 18) 24 = N
  obtain ⟨ho, ho2⟩ := hop
  obtain ⟨hf1, hf2⟩ := form_ne1 ho ho2
  have two : ∀ (N a b : Int), (if fA (rowOf op).form = true then 0 ≤ a ∧ a < cf.regs else a = 0) → (if fB (rowOf op).form = true then 0 ≤ b ∧ b < cf.regs else b = 0) → GoodI W cf (vi2F n cf N op a b) := fun N a b ha hb => by
    unfold vi2F
    split
    · rename_i h
      exact vi3_good hn hr.1 ho ho2 ⟨ha, hb, by simp [fC, h, hmod]⟩
    · rename_i h
      exact vi3_good hn hr.1 ho ho2 ⟨ha, hb, by simp [fC, h]⟩
  have one : ∀ (N a : Int), (if fA (rowOf op).form = true then 0 ≤ a ∧ a < cf.regs else a = 0) → GoodI W cf (vi1F n cf N op a) := fun N a ha => by
    unfold vi1F
    split
    · rename_i h
      refine two _ _ _ ha ?_
      have : fB (rowOf op).form = true := by simp [fB]; omega
      rw [if_pos this]; exact hmod N
    · rename_i h
      refine two _ _ _ ha ?_
      have : fB (rowOf op).form = false := by simp [fB]; omega
      simp [this]
  unfold vi0F
  split
  · rename_i h
    refine one _ _ ?_
    rw [if_neg (fun e => hf2.1 e (hf1.1 h))]
  · rename_i h
    refine one _ _ ?_
    rw [if_pos (hf2.2 (fun e => h (hf1.2 e)))]; exact hmod N
end Go.Abs
set_option linter.unusedSimpArgs false
set_option linter.unusedVariables false
set_option maxRecDepth 100000
namespace Go.Abs
variable {E : Env}

/-- What an instruction other than a call does; the position is moved on already. -/
def St.exI (v : VI) (s : St) : St :=
  if v.i.op = 3 then (if s.fuel = 0 then s.stop 3 0 0 else { s with fuel := s.fuel - 1 })
  else if v.i.op = 9 then { s with out := s.out ++ [s.top.regs.getD v.i.a.toNat 0] }
  else if v.i.op = 34 ∨ v.i.op = 35 then s.acc v.i
  else s.comp v.i
def St.inc (s : St) : St := { s with top := { s.top with pc := s.top.pc + 1 } }
def St.ins (s : St) : VI := (s.top.f.blocks.getD s.top.bi.toNat default).ins.getD s.top.pc.toNat default
theorem step_exI {l : List VF} {s : St} (h : s.top.pc ≠ (s.top.f.blocks.getD s.top.bi.toNat default).ins.length) (h6 : s.ins.i.op ≠ 6) : s.step l = s.inc.exI s.ins := by
  unfold St.step St.exI St.ins St.inc at *
  dsimp only
  rw [if_neg h]
  split
  · rfl
  first | rfl | (rw [if_neg h6]; rfl)
theorem step_call {l : List VF} {s : St} (h : s.top.pc ≠ (s.top.f.blocks.getD s.top.bi.toNat default).ins.length) (h6 : s.ins.i.op = 6) : s.step l = { s with top := ⟨l.getD s.ins.i.n.toNat default, [], s.ins.args.map fun a => s.top.regs.getD a.toNat 0, 0, 0, s.ins.i.a⟩, rest := s.inc.top :: s.rest } := by
  unfold St.step St.ins St.inc at *
  dsimp only
  rw [if_neg h, if_neg (by omega), if_pos h6]
theorem step_term {l : List VF} {s : St} (h : s.top.pc = (s.top.f.blocks.getD s.top.bi.toNat default).ins.length) : s.step l = s.term := by
  unfold St.step
  dsimp only
  rw [if_pos h]

/-- What the form of an instruction asks of its registers. -/
structure RegOk (cf : VF) (v : VI) : Prop where
  al : allowedF v.i.op = true
  a : v.i.op ≠ 3 → 0 ≤ v.i.a ∧ v.i.a < cf.regs
  b : (v.i.op = 10 ∨ v.i.op = 11 ∨ v.i.op = 12 ∨ (17 ≤ v.i.op ∧ v.i.op ≤ 32) ∨ v.i.op = 34 ∨ v.i.op = 35) → 0 ≤ v.i.b ∧ v.i.b < cf.regs
  c : v.i.op = 11 ∨ v.i.op = 12 → 0 ≤ v.i.c ∧ v.i.c < cf.regs
  args : ∀ x ∈ v.args, 0 ≤ x ∧ x < cf.regs
theorem formB {op : Int} (h : op = 10 ∨ op = 11 ∨ op = 12 ∨ (17 ≤ op ∧ op ≤ 32) ∨ op = 34 ∨ op = 35) : fB (formV op) = true := by
  rcases h with rfl | rfl | rfl | ⟨h1, h2⟩ | rfl | rfl
  case inr.inr.inr.inl =>
    have h3 : op = 17 ∨ op = 18 ∨ op = 19 ∨ op = 20 ∨ op = 21 ∨ op = 22 ∨ op = 23 ∨ op = 24 ∨ op = 25 ∨ op = 26 ∨ op = 27 ∨ op = 28 ∨ op = 29 ∨ op = 30 ∨ op = 31 ∨ op = 32 := by omega
    rcases h3 with rfl | rfl | rfl | rfl | rfl | rfl | rfl | rfl | rfl | rfl | rfl | rfl | rfl | rfl | rfl | rfl <;> decide
  all_goals decide
theorem formA {op : Int} (h : allowedF op = true) (h3 : op ≠ 3) : fA (formV op) = true := by
  by_cases e : op = 38
  · subst e; decide
  · have := (form_ne1 h e).2.2 h3
    unfold formV; rw [if_neg e]; exact this
theorem regOk_of {c : VF} {v : VI} (h : validI c v = true) : RegOk c v := by
  simp only [validI, restI, Bool.and_eq_true, Bool.not_eq_true', Bool.or_eq_false_iff, decide_eq_false_iff_not, List.all_eq_true, inReg, decide_eq_true_eq] at h
  obtain ⟨⟨⟨h3, h4⟩, h5⟩, ⟨h6, h7⟩, h8⟩ := h
  simp only [fieldsOk, inReg, Bool.not_eq_true', Bool.or_eq_false_iff, Bool.and_eq_false_iff, Bool.not_eq_false', bne_eq_false_iff_eq, Bool.and_eq_true, decide_eq_true_eq] at h7
  have hal : allowedF v.i.op = true := by simpa using h3
  refine ⟨hal, fun e => ?_, fun e => ?_, fun e => ?_, h6⟩
  · have := formA hal e; simp [this] at h7; exact h7.1.1.1.1.1
  · have := formB e; simp [this] at h7; exact h7.1.1.1.1.2
  · have : fC (formV v.i.op) = true := by rcases e with e | e <;> (rw [e]; decide)
    simp [this] at h7; exact h7.1.1.1.2

section
variable {I : Ids} {ov : AV} {B : List (Nat × Blk)} {s : St} {m : Int} {lg : Bool} {H : Heap}
theorem RX.row (h : RX I ov B s m lg H) {n : Nat} (hn : n < s.cells.length) : ∃ cid, I.cv = .sl 1 cid 0 s.cells.length ∧ H cid = some (rowsOf I.rids s.cells) ∧ (rowsOf I.rids s.cells)[n]? = some [AV.sl 1 (I.rids.getD n 0) 0 (s.cells.getD n []).length] ∧ H (I.rids.getD n 0) = some ((s.cells.getD n []).map icell) := by
  obtain ⟨h1, ⟨_, h2, _⟩ | ⟨cid, h2, h3⟩⟩ := h.hcv
  · rw [h2] at hn; simp at hn
  · refine ⟨cid, h2, ?_, rows_get h1 hn, ?_⟩
    · apply h.holds.get
      refine List.mem_cons_of_mem _ (List.mem_append_right _ (List.mem_append_left _ ?_))
      rw [h3]; exact List.mem_cons_self
    · apply h.holds.get
      refine List.mem_cons_of_mem _ (List.mem_append_right _ (List.mem_append_left _ ?_))
      rw [h3]
      exact List.mem_cons_of_mem _ (List.mem_iff_getElem?.2 ⟨n, zip_get h1 hn⟩)
theorem RX.store (h : RX I ov B s m lg H) {n : Nat} (hn : n < s.cells.length) {ys : List Int} (hy : ys.length = (s.cells.getD n []).length) :
    RX I ov B { s with cells := s.cells.set n ys } m lg (H.set (I.rids.getD n 0) (some (ys.map icell))) := by
  refine ⟨?_, h.hov, ?_, h.hov2⟩
  · have hh := h.holds
    obtain ⟨h1, ⟨_, h2, _⟩ | ⟨cid, h2, h3⟩⟩ := h.hcv
    · rw [h2] at hn; simp at hn
    · simp only [h3, cellsL] at hh ⊢
      rw [rows_set hy, zip_set]
      have hz := zip_get h1 hn
      generalize hZ : (List.zipWith (fun r (x : List Int) => (r, x.map icell)) I.rids s.cells) = Z at hh hz ⊢
      have hnz : n < Z.length := (List.getElem?_eq_some_iff.1 hz).1
      have e1 : ∀ Z' : List (Nat × Blk), (I.r, [inc I.l I.cv ov s.fuel m s.kind s.code s.val s.over lg]) :: (ownL ov s.out ++ ((cid, rowsOf I.rids s.cells) :: Z' ++ B)) = ((I.r, [inc I.l I.cv ov s.fuel m s.kind s.code s.val s.over lg]) :: (ownL ov s.out ++ [(cid, rowsOf I.rids s.cells)])) ++ (Z' ++ B) := fun Z' => by simp
      rw [e1] at hh ⊢
      generalize hA : ((I.r, [inc I.l I.cv ov s.fuel m s.kind s.code s.val s.over lg]) :: (ownL ov s.out ++ [(cid, rowsOf I.rids s.cells)])) = A at hh ⊢
      have := hh.put (i := A.length + n) (b' := ys.map icell) (by rw [List.getElem?_append, if_neg (by omega), Nat.add_sub_cancel_left, List.getElem?_append, if_pos hnz]; exact hz)
      rw [List.set_append, if_neg (by omega), Nat.add_sub_cancel_left, List.set_append, if_pos hnz] at this
      exact this
  · obtain ⟨h1, h2⟩ := h.hcv
    refine ⟨by simpa using h1, ?_⟩
    rcases h2 with ⟨h2, h3, h4⟩ | ⟨cid, h2, h3⟩
    · rw [h3] at hn; simp at hn
    · exact .inr ⟨cid, by simpa using h2, h3⟩

/-- The state's registers, as the reference has them, stand at rb. -/
def RB (I : Ids) (ov : AV) (rb : Nat) (rs : List Int) (B : List (Nat × Blk)) (s : St) (m : Int) (lg : Bool) (H : Heap) : Prop := RX I ov ((rb, rs.map icell) :: B) s m lg H
theorem RB.hrb {rb : Nat} {rs : List Int} (h : RB I ov rb rs B s m lg H) : H rb = some (rs.map icell) := RX.hB h (p := (rb, rs.map icell)) List.mem_cons_self
theorem RB.set {rb : Nat} {rs : List Int} (h : RB I ov rb rs B s m lg H) (n : Nat) (x : Int) : RB I ov rb (rs.set n x) B s m lg (H.set rb (some ((rs.set n x).map icell))) := RX.setB h

def DoneR (I : Ids) (rb : Nat) (rs : List Int) (B : List (Nat × Blk)) (f : VF) (s' : St) (m : Int) (H' : Heap) : Prop :=
  ∃ ov' rs', RB I ov' rb rs' B s' m false H' ∧ rs'.length = rs.length ∧ (s'.over = false → Agr f rs' s'.top.regs)

theorem done_reg {rb : Nat} {rs : List Int} {f : VF} {s' : St} {n : Nat} {x : Int} (h : RB I ov rb rs B s m false H) (hg : Agr f rs s.top.regs) (e : s' = s.setR (lset s.top.regs n x)) (hn : n < rs.length) : DoneR I rb rs B f s' m (H.set rb (some ((rs.set n x).map icell))) := by
  subst e
  have h1 := h.set n x
  exact ⟨ov, rs.set n x, ⟨h1.holds, h1.hov, h1.hcv, h1.hov2⟩, List.length_set, fun _ => hg.set hn x⟩
theorem done_same {rb : Nat} {rs : List Int} {f : VF} {s' : St} (h : RB I ov rb rs B s m false H) (hg : Agr f rs s.top.regs) (e : s' = s) : DoneR I rb rs B f s' m H := by
  subst e
  exact ⟨ov, rs, h, rfl, fun _ => hg⟩
theorem RX.out (h : RX I ov B s m lg H) (hlen : s.out.length < 1000000) (x : Int) {K : AV → Heap → Prop}
    (hk : ∀ n H', H' I.r = some [inc I.l I.cv ov s.fuel m s.kind s.code s.val s.over lg] → RX I (.sl 1 n 0 (s.out.length + 1)) B { s with out := s.out ++ [x] } m lg (H'.set I.r (some [inc I.l I.cv (.sl 1 n 0 (s.out.length + 1)) s.fuel m s.kind s.code s.val s.over lg])) → K (.sl 1 n 0 (s.out.length + 1)) H') :
    mkW (.bsl 1 [.int .i64 0] 1 [(0, .c (.int .i64 x))]) H fun t H2 => mkW (.app 1 (.c ov) (.c t)) H2 K := by
  have ho : OwnR 1 ov (s.out.map icell) := by
    rcases h.hov with ⟨rfl, e⟩ | ⟨id, rfl⟩
    · exact .inl ⟨rfl, by simp [e]⟩
    · exact .inr ⟨id, by simp⟩
  have e0 : ownL ov s.out = ownR ov (s.out.map icell) := by
    rcases h.hov with ⟨rfl, e⟩ | ⟨id, rfl⟩ <;> rfl
  have h1 : HoldsG I.G H (ownR ov (s.out.map icell) ++ ((I.r, [inc I.l I.cv ov s.fuel m s.kind s.code s.val s.over lg]) :: (cellsL I.cid I.rids s.cells ++ B))) := by
    rw [← e0]
    exact h.holds.perm (perm_of_count fun i _ a => by simp only [List.count_append, List.count_cons]; omega)
  refine bsl_app_own ⟨rfl, rfl⟩ ho h1 (by simp [appLim]; omega) fun n H' h2 => ?_
  have e1 : s.out.map icell ++ [(AV.int .i64 x).cells] = (s.out ++ [x]).map icell := by simp [icell, AV.cells]
  rw [e1] at h2 ⊢
  rw [List.length_map, List.length_append]
  refine hk n H' (h2.get (by simp)) ⟨?_, .inr ⟨n, by simp⟩, h.hcv, fun e => by simp at e⟩
  have h3 : HoldsG I.G H' ((I.r, [inc I.l I.cv ov s.fuel m s.kind s.code s.val s.over lg]) :: ((n, (s.out ++ [x]).map icell) :: (cellsL I.cid I.rids s.cells ++ B))) := h2.perm (List.Perm.swap _ _ _)
  have h4 := h3.set (b' := [inc I.l I.cv (.sl 1 n 0 (s.out.length + 1)) s.fuel m s.kind s.code s.val s.over lg])
  simpa [ownL] using h4

theorem mem_spec (hE : E.Good) (hF : E.Fits tab) {rb : Nat} {rs : List Int} {f : VF} {i : MI} (h : RB I ov rb rs B s m false H) (hg : Agr f rs s.top.regs) (ho : i.op = 34 ∨ i.op = 35)
    (ha : 0 ≤ i.a ∧ i.a < f.regs) (hb' : 0 ≤ i.b ∧ i.b < f.regs) (hn : 0 ≤ i.n ∧ i.n < s.cells.length) (hov : s.over = false) :
    ACall E 110 [.ptr I.r 0 0, .agg i.cells, .sl 1 rb 0 rs.length] H (fun x H' => x = .tup [] ∧ DoneR I rb rs B f (s.acc i) m H') := by
  have hl := hg.len
  obtain ⟨cid, g1, g2, g3, g4⟩ := RX.row h (n := i.n.toNat) (by omega)
  have hx := RX.hx h
  rw [g1] at hx
  have ea := hg.at_ i.a.toNat (by omega)
  have eb := hg.at_ i.b.toNat (by omega)
  have hrb := h.hrb
  have e34 : (s.acc i) = if (s.top.regs.getD i.b.toNat 0) < 0 ∨ ((s.cells.getD i.n.toNat []).length : Int) ≤ (s.top.regs.getD i.b.toNat 0) then s.stop 2 2 0
    else if i.op = 34 then s.setR (lset s.top.regs i.a.toNat ((s.cells.getD i.n.toNat []).getD (s.top.regs.getD i.b.toNat 0).toNat 0))
    else { s with cells := s.cells.set i.n.toNat ((s.cells.getD i.n.toNat []).set (s.top.regs.getD i.b.toNat 0).toNat (s.top.regs.getD i.a.toNat 0)) } := rfl
  have hX : RX I ov ((rb, rs.map icell) :: B) s m false H := h
  rw [← ea, ← eb] at e34
  refine ent110 hE hF _ _ _ _ _ ?_; unfold w110
  repeat' (first | ((with_reducible refine cond_mk (fun hb => ?_) (fun hb => ?_)) <;> ((try simp only [if_true, if_false, qq, reduceCtorEq] at hb); (try (exfalso; first | (exact hb) | contradiction | omega)))) | ((with_reducible refine grp_mk ?_ (fun hb => ?_) (fun _ => ?_)) <;> (try simp only [if_true, if_false, qq, reduceCtorEq] at hb)) | ((with_reducible refine call_any (istop_spec hE hF hX _ _) ?_); rintro _ _ hsm ⟨rfl, h⟩) | ((with_reducible refine And.intro ?_ ?_); (first | decide | omega)) | (simp (disch := omega) only [go_sem, Heap.get_ne, wrap64_id, Nat.reduceAdd, Nat.reduceLeDiff, Nat.reduceSub, Nat.reduceEqDiff, Int.reduceLT, Int.reduceLE, Int.reduceEq, hx, hrb, g2, g3, g4, Nat.zero_add]) | (with_reducible rfl) | ((with_reducible refine And.intro ?_ ?_) <;> (with_reducible rfl)))
  · rw [if_pos hb] at e34
    apply ret_here
    refine ⟨rfl, ov, rs, ?_, rfl, fun e => ?_⟩
    · rw [e34]; exact h
    · rw [e34] at e; cases e
  · rw [if_neg (by omega), if_pos hb] at e34
    apply ret_here
    exact ⟨rfl, done_reg h hg e34 (by omega)⟩
  · rw [if_neg (by omega), if_neg hb] at e34
    apply ret_here
    refine ⟨rfl, ov, rs, ?_, rfl, fun _ => ?_⟩
    · rw [e34]; exact RX.store hX (by omega) (by simp)
    · rw [e34]; exact hg

theorem arg_get {av : AV} {args : List Int} {H : Heap} {k : AV → Prop} {n : Int} (hav : ArgV av args) (hown : ∀ p ∈ ownL av args, H p.1 = some p.2) (hn : 0 ≤ n ∧ n < args.length) (hk : k (.int .i64 (args.getD n.toNat 0))) :
    pW (.iad 1 (.c av) (.c (.int .i64 n))) fun t => rdW (.ld (.c t)) H k := by
  rcases hav with rfl | ⟨rfl, rfl⟩ | ⟨id, rfl⟩
  · rw [iad_ints]; exact ⟨hn, by rw [r_ldr]; exact hk⟩
  · simp at hn; omega
  · have hid : H id = some (args.map icell) := hown (id, args.map icell) (by simp [ownL])
    rw [p_iad2]
    refine ⟨hn, ?_⟩
    rw [r_ld, hid, Nat.zero_add, atH_some, atC_ic]
    exact ⟨by omega, hk⟩

set_option maxHeartbeats 4000000 in
theorem do4 (hE : E.Good) (hF : E.Fits tab) {R : AV → Heap → Prop} {rb : Nat} {rs : List Int} {f : VF} {v : VI} {av : AV} {b : Bool} (h : RB I ov rb rs B s m false H) (hg : Agr f rs s.top.regs) (hr : RegOk f v)
    (hb0 : b = true ↔ (v.i.op = 34 ∨ v.i.op = 35)) (hops : v.i.op ≠ 3 ∧ v.i.op ≠ 6 ∧ v.i.op ≠ 9 ∧ v.i.op ≠ 10 ∧ v.i.op ≠ 11 ∧ v.i.op ≠ 12 ∧ v.i.op ≠ 13 ∧ v.i.op ≠ 15 ∧ v.i.op ≠ 16 ∧ v.i.op ≠ 33)
    (hw : ∀ x ∈ s.top.regs, I64 x) (hn : v.i.op = 34 ∨ v.i.op = 35 → 0 ≤ v.i.n ∧ v.i.n < s.cells.length) (hp : v.i.op = 38 → 0 ≤ v.i.n ∧ v.i.n < s.top.args.length) (hav : ArgV av s.top.args) (hown : ∀ p ∈ ownL av s.top.args, H p.1 = some p.2) (hov : s.over = false)
    (hR : ∀ H', DoneR I rb rs B f (s.exI v) m H' → R (.tup []) H') : atW (m85_4 E R) [.ptr I.r 0 0, .sl 1 rb 0 rs.length, av, .rp v.i.cells, .int .i64 v.i.op, .bool b] H := by
  have hl := hg.len
  have hrb := h.hrb
  have hX : RX I ov ((rb, rs.map icell) :: B) s m false H := h
  have ha := hr.a hops.1
  have hb1 := hr.b
  have hal : 17 ≤ v.i.op ∧ v.i.op ≤ 32 ∨ v.i.op = 34 ∨ v.i.op = 35 ∨ v.i.op = 38 := by
    have := hr.al
    simp only [allowedF, Bool.or_eq_true, Bool.and_eq_true, beq_iff_eq, decide_eq_true_eq] at this
    omega
  have ea := hg.at_ v.i.a.toNat (by omega)
  have ecomp : v.i.op ≠ 34 → v.i.op ≠ 35 → s.exI v = s.comp v.i := fun h1 h2 => by
    unfold St.exI
    rw [if_neg hops.1, if_neg hops.2.2.1, if_neg (by omega)]
  skip
  refine at_here ?_
  unfold m85_4 w85_4
  repeat' (first | ((with_reducible refine cond_mk (fun hb => ?_) (fun hb => ?_)) <;> ((try simp only [if_true, if_false, qq, reduceCtorEq] at hb); (try (exfalso; first | (exact hb) | contradiction | omega)))) | ((with_reducible refine grp_mk ?_ (fun hb => ?_) (fun _ => ?_)) <;> (try simp only [if_true, if_false, qq, reduceCtorEq] at hb)) | ((with_reducible refine call_pure (bin111_spec hE hF _ _ _) ?_); intro _) | ((with_reducible refine pc_pure (bin111_spec hE hF _ _ _) ?_)) | ((with_reducible refine dcall_pure0 (bin111_spec hE hF _ _ _) ?_)) | ((with_reducible refine call_any (istop_spec hE hF hX _ _) ?_); rintro _ _ hsm ⟨rfl, h⟩) | (with_reducible refine fun (base : Nat) (hbase : Fresh _ base) => ?_) | ((with_reducible refine And.intro ?_ ?_); (first | decide | omega)) | ((with_reducible refine at_here ?_); first | unfold m85_1 w85_1 | unfold m85_2 w85_2 | unfold m85_4 w85_4 | unfold m85_3 w85_3) | (simp (disch := omega) only [go_sem, Heap.get_ne, wrap64_id, Nat.reduceAdd, Nat.reduceLeDiff, Nat.reduceSub, Nat.reduceEqDiff, Int.reduceLT, Int.reduceLE, Int.reduceEq, hrb, Nat.zero_add]) | (with_reducible rfl) | ((with_reducible refine And.intro ?_ ?_) <;> (with_reducible rfl)))
  · have h34 := hb0.1 hb
    have eacc : s.exI v = s.acc v.i := by unfold St.exI; rw [if_neg hops.1, if_neg hops.2.2.1, if_pos h34]
    refine call_any (mem_spec hE hF h hg h34 ha (hb1 (by omega)) (hn h34) hov) ?_
    rintro _ H' - ⟨rfl, hd⟩
    exact .here (hR H' (by rw [eacc]; exact hd))
  · have h38 : v.i.op = 38 := by assumption
    refine arg_get hav hown (hp h38) ?_
    repeat' (first | ((with_reducible refine cond_mk (fun hb => ?_) (fun hb => ?_)) <;> ((try simp only [if_true, if_false, qq, reduceCtorEq] at hb); (try (exfalso; first | (exact hb) | contradiction | omega)))) | ((with_reducible refine grp_mk ?_ (fun hb => ?_) (fun _ => ?_)) <;> (try simp only [if_true, if_false, qq, reduceCtorEq] at hb)) | (with_reducible refine fun (base : Nat) (hbase : Fresh _ base) => ?_) | ((with_reducible refine And.intro ?_ ?_); (first | decide | omega)) | ((with_reducible refine at_here ?_); first | unfold m85_1 w85_1 | unfold m85_2 w85_2 | unfold m85_4 w85_4 | unfold m85_3 w85_3) | (simp (disch := omega) only [go_sem, Heap.get_ne, wrap64_id, Nat.reduceAdd, Nat.reduceLeDiff, Nat.reduceSub, Nat.reduceEqDiff, Int.reduceLT, Int.reduceLE, Int.reduceEq, hrb, Nat.zero_add]) | (with_reducible rfl) | ((with_reducible refine And.intro ?_ ?_) <;> (with_reducible rfl)))
    refine .here (hR _ (done_reg h hg ?_ (by omega)))
    rw [ecomp (by omega) (by omega)]
    simp [St.comp, exec1, h38]
  · have hbr := hb1 (by omega)
    have eb := hg.at_ v.i.b.toNat (by omega)
    have e : s.exI v = s.stop 2 1 0 := by
      rw [ecomp (by omega) (by omega)]
      have h1 : v.i.op ≠ 38 := by assumption
      have h2 : s.top.regs.getD v.i.b.toNat 0 = 0 := by rw [← eb]; exact hb.2
      have h3 := hb.1
      unfold St.comp exec1
      rw [if_neg (by omega), if_neg (by omega), if_neg (by omega), if_neg (by omega), if_neg (by omega), if_neg (by omega), if_neg (by omega), if_pos ⟨h3, h2⟩]
    exact .here (hR _ (by rw [e]; exact ⟨ov, rs, h, rfl, fun e => by cases e⟩))
  · have h1 : v.i.op ≠ 38 := by assumption
    have hf0 : b = false := by assumption
    have h34 : ¬ (v.i.op = 34 ∨ v.i.op = 35) := fun e => by rw [hb0.2 e] at hf0; cases hf0
    have hbr := hb1 (by omega)
    have eb := hg.at_ v.i.b.toNat (by omega)
    refine .here (hR _ (done_reg h hg ?_ (by omega)))
    rw [ecomp (by omega) (by omega), ea, eb, rbin_eq (getD_in hw _) (by omega) (by omega)]
    rw [eb] at hb
    unfold St.comp exec1
    rw [if_neg (by omega), if_neg (by omega), if_neg (by omega), if_neg (by omega), if_neg (by omega), if_neg (by omega), if_neg (by omega), if_neg (by omega)]
end

section
variable {I : Ids} {ov : AV} {B : List (Nat × Blk)} {s : St} {m : Int} {H : Heap}
set_option maxHeartbeats 4000000 in
theorem do3 (hE : E.Good) (hF : E.Fits tab) {R : AV → Heap → Prop} {rb : Nat} {rs : List Int} {f : VF} {v : VI} {av : AV} {b : Bool} (h : RB I ov rb rs B s m false H) (hg : Agr f rs s.top.regs) (hr : RegOk f v)
    (hb0 : b = true ↔ (v.i.op = 15 ∨ v.i.op = 16)) (hops : v.i.op ≠ 3 ∧ v.i.op ≠ 6 ∧ v.i.op ≠ 9 ∧ v.i.op ≠ 10 ∧ v.i.op ≠ 11 ∧ v.i.op ≠ 12 ∧ v.i.op ≠ 13)
    (hw : ∀ x ∈ s.top.regs, I64 x) (hn : v.i.op = 34 ∨ v.i.op = 35 → 0 ≤ v.i.n ∧ v.i.n < s.cells.length) (hp : v.i.op = 38 → 0 ≤ v.i.n ∧ v.i.n < s.top.args.length) (hav : ArgV av s.top.args) (hown : ∀ p ∈ ownL av s.top.args, H p.1 = some p.2) (hov : s.over = false)
    (hR : ∀ H', DoneR I rb rs B f (s.exI v) m H' → R (.tup []) H') : atW (m85_3 E R) [.ptr I.r 0 0, .sl 1 rb 0 rs.length, av, .rp v.i.cells, .int .i64 v.i.op, .bool b] H := by
  have hl := hg.len
  have hrb := h.hrb
  have ha := hr.a hops.1
  have ea := hg.at_ v.i.a.toNat (by omega)
  have ecomp : v.i.op ≠ 34 → v.i.op ≠ 35 → s.exI v = s.comp v.i := fun h1 h2 => by
    unfold St.exI
    rw [if_neg hops.1, if_neg hops.2.2.1, if_neg (by omega)]
  skip
  refine at_here ?_
  unfold m85_3 w85_3
  repeat' (first | ((with_reducible refine cond_mk (fun hb => ?_) (fun hb => ?_)) <;> ((try simp only [if_true, if_false, qq, reduceCtorEq] at hb); (try (exfalso; first | (exact hb) | contradiction | omega)))) | ((with_reducible refine grp_mk ?_ (fun hb => ?_) (fun _ => ?_)) <;> (try simp only [if_true, if_false, qq, reduceCtorEq] at hb)) | ((with_reducible refine call_pure (un109_spec hE hF _ _) ?_); intro _) | ((with_reducible refine pc_pure (un109_spec hE hF _ _) ?_)) | ((with_reducible refine dcall_pure0 (un109_spec hE hF _ _) ?_)) | (with_reducible refine fun (base : Nat) (hbase : Fresh _ base) => ?_) | ((with_reducible refine And.intro ?_ ?_); (first | decide | omega)) | ((with_reducible refine at_here ?_); first | unfold m85_1 w85_1 | unfold m85_2 w85_2 | unfold m85_3 w85_3) | (simp (disch := omega) only [go_sem, Heap.get_ne, wrap64_id, Nat.reduceAdd, Nat.reduceLeDiff, Nat.reduceSub, Nat.reduceEqDiff, Int.reduceLT, Int.reduceLE, Int.reduceEq, hrb, Nat.zero_add]) | (with_reducible rfl) | ((with_reducible refine And.intro ?_ ?_) <;> (with_reducible rfl)))
  · have h15 := hb0.1 hb
    refine .here (hR _ (done_reg h hg ?_ (by omega)))
    rw [ecomp (by omega) (by omega), ea]
    unfold St.comp exec1
    rw [if_neg (by omega), if_neg (by omega), if_neg (by omega), if_neg (by omega), if_neg (by omega), if_pos h15]
  · have h33 : v.i.op = 33 := by assumption
    refine .here (hR _ (done_reg h hg ?_ (by omega)))
    rw [ecomp (by omega) (by omega), ea]
    simp [St.comp, exec1, h33, W64]
  · have hf0 : b = false := by assumption
    have h15 : ¬ (v.i.op = 15 ∨ v.i.op = 16) := fun e => by rw [hb0.2 e] at hf0; cases hf0
    exact do4 hE hF h hg hr (by simp [hb]) ⟨by omega, by omega, by omega, by omega, by omega, by omega, by omega, by omega, by omega, by omega⟩ hw hn hp hav hown hov hR
  · have hf0 : b = false := by assumption
    have h15 : ¬ (v.i.op = 15 ∨ v.i.op = 16) := fun e => by rw [hb0.2 e] at hf0; cases hf0
    exact do4 hE hF h hg hr (by simp [hb]) ⟨by omega, by omega, by omega, by omega, by omega, by omega, by omega, by omega, by omega, by omega⟩ hw hn hp hav hown hov hR

set_option maxHeartbeats 8000000 in
theorem do1_spec (hE : E.Good) (hF : E.Fits tab) {rb : Nat} {rs : List Int} {f : VF} {v : VI} {av : AV} (h : RB I ov rb rs B s m false H) (hg : Agr f rs s.top.regs) (hr : RegOk f v) (h6 : v.i.op ≠ 6)
    (hw : ∀ x ∈ s.top.regs, I64 x) (hn : v.i.op = 34 ∨ v.i.op = 35 → 0 ≤ v.i.n ∧ v.i.n < s.cells.length) (hp : v.i.op = 38 → 0 ≤ v.i.n ∧ v.i.n < s.top.args.length) (hav : ArgV av s.top.args) (hown : ∀ p ∈ ownL av s.top.args, H p.1 = some p.2)
    (hlen : s.out.length < 1000000) (hfu : 0 ≤ s.fuel ∧ s.fuel < 1000000) (hov : s.over = false) :
    ACall E 85 [.ptr I.r 0 0, .agg v.cells, .sl 1 rb 0 rs.length, av] H (fun x H' => x = .tup [] ∧ DoneR I rb rs B f (s.exI v) m H') := by
  have hl := hg.len
  have hx := RX.hx h
  rw [hov] at hx
  have hrb := h.hrb
  have hX : RX I ov ((rb, rs.map icell) :: B) s m false H := h
  have hne : I.r ≠ rb := RX.ne hX (p := (rb, rs.map icell)) List.mem_cons_self
  have ha := hr.a
  have hb1 := hr.b
  have hc1 := hr.c
  have ecomp : v.i.op ≠ 3 → v.i.op ≠ 9 → v.i.op ≠ 34 → v.i.op ≠ 35 → s.exI v = s.comp v.i := fun h1 h2 h3 h4 => by
    unfold St.exI
    rw [if_neg h1, if_neg h2, if_neg (by omega)]
  refine ent85 hE hF _ _ _ _ _ _ ?_; unfold w85
  repeat' (first | ((with_reducible refine cond_mk (fun hb => ?_) (fun hb => ?_)) <;> ((try simp only [if_true, if_false, qq, reduceCtorEq] at hb); (try (exfalso; first | (exact hb) | contradiction | omega)))) | ((with_reducible refine grp_mk ?_ (fun hb => ?_) (fun _ => ?_)) <;> (try simp only [if_true, if_false, qq, reduceCtorEq] at hb)) | ((with_reducible refine call_any (istop_spec hE hF hX _ _) ?_); rintro _ _ hsm ⟨rfl, h⟩) | (with_reducible refine fun (base : Nat) (hbase : Fresh _ base) => ?_) | ((with_reducible refine And.intro ?_ ?_); (first | decide | omega)) | ((with_reducible refine at_here ?_); first | unfold m85_1 w85_1 | unfold m85_2 w85_2) | (simp (disch := omega) only [go_sem, Heap.get_ne, wrap64_id, Nat.reduceAdd, Nat.reduceLeDiff, Nat.reduceSub, Nat.reduceEqDiff, Int.reduceLT, Int.reduceLE, Int.reduceEq, hx, hrb, Nat.zero_add]) | (with_reducible rfl) | ((with_reducible refine And.intro ?_ ?_) <;> (with_reducible rfl)))
  · have h3 : v.i.op = 3 := by assumption
    apply ret_here
    refine ⟨rfl, ov, rs, ?_, rfl, fun e => ?_⟩
    · have : s.exI v = s.stop 3 0 0 := by unfold St.exI; rw [if_pos h3, if_pos hb]
      rw [this]; exact h
    · have : s.exI v = s.stop 3 0 0 := by unfold St.exI; rw [if_pos h3, if_pos hb]
      rw [this] at e; cases e
  · have h3 : v.i.op = 3 := by assumption
    have e : s.exI v = { s with fuel := s.fuel - 1 } := by unfold St.exI; rw [if_pos h3, if_neg hb]
    apply ret_here
    have hz : inc I.l I.cv ov (s.fuel - 1) m s.kind s.code s.val false false = inc I.l I.cv ov (s.fuel - 1) m s.kind s.code s.val s.over false := by rw [hov]
    refine ⟨rfl, ov, rs, ?_, rfl, fun _ => ?_⟩
    · rw [e, hz]; exact hX.w { s with fuel := s.fuel - 1 } m false rfl rfl
    · rw [e]; exact hg
  · have ha1 := ha (by omega)
    have ea := hg.at_ v.i.a.toNat (by omega)
    refine hX.out hlen _ fun n H' h1 h2 => ?_
    rw [hov] at h1
    repeat' (first | ((with_reducible refine cond_mk (fun hb => ?_) (fun hb => ?_)) <;> ((try simp only [if_true, if_false, qq, reduceCtorEq] at hb); (try (exfalso; first | (exact hb) | contradiction | omega)))) | ((with_reducible refine grp_mk ?_ (fun hb => ?_) (fun _ => ?_)) <;> (try simp only [if_true, if_false, qq, reduceCtorEq] at hb)) | (with_reducible refine fun (base : Nat) (hbase : Fresh _ base) => ?_) | ((with_reducible refine And.intro ?_ ?_); (first | decide | omega)) | ((with_reducible refine at_here ?_); first | unfold m85_1 w85_1 | unfold m85_2 w85_2 | unfold m85_4 w85_4 | unfold m85_3 w85_3) | (simp (disch := omega) only [go_sem, Heap.get_ne, wrap64_id, Nat.reduceAdd, Nat.reduceLeDiff, Nat.reduceSub, Nat.reduceEqDiff, Int.reduceLT, Int.reduceLE, Int.reduceEq, h1]) | (with_reducible rfl) | ((with_reducible refine And.intro ?_ ?_) <;> (with_reducible rfl)))
    have e : s.exI v = { s with out := s.out ++ [rs.getD v.i.a.toNat 0] } := by unfold St.exI; rw [if_neg (by omega), if_pos hb, ea]
    apply ret_here
    have hz : inc I.l I.cv (.sl 1 n 0 (s.out.length + 1)) s.fuel m s.kind s.code s.val false false = inc I.l I.cv (.sl 1 n 0 (s.out.length + 1)) s.fuel m s.kind s.code s.val s.over false := by rw [hov]
    refine ⟨rfl, .sl 1 n 0 (s.out.length + 1), rs, ?_, rfl, fun _ => ?_⟩
    · rw [e, hz]; exact h2
    · rw [e]; exact hg
  · have ha1 := ha (by omega)
    have hb2 := hb1 (by omega)
    refine .here ⟨rfl, done_reg h hg ?_ (by omega)⟩
    rw [ecomp (by omega) (by omega) (by omega) (by omega), hg.at_ v.i.b.toNat (by omega)]
    simp [St.comp, exec1, hb]
  · have ha1 := ha (by omega)
    have hb2 := hb1 (by omega)
    have hc2 := hc1 (by omega)
    have h11 : v.i.op = 11 := by assumption
    refine .here ⟨rfl, done_reg h hg ?_ (by omega)⟩
    rw [hg.at_ v.i.c.toNat (by omega)] at hb
    rw [ecomp (by omega) (by omega) (by omega) (by omega), hg.at_ v.i.b.toNat (by omega)]
    unfold St.comp exec1
    rw [if_neg (by omega), if_pos h11, if_pos hb]
  · have hc2 := hc1 (by omega)
    have h11 : v.i.op = 11 := by assumption
    refine .here ⟨rfl, done_same h hg ?_⟩
    rw [hg.at_ v.i.c.toNat (by omega)] at hb
    rw [ecomp (by omega) (by omega) (by omega) (by omega)]
    unfold St.comp exec1
    rw [if_neg (by omega), if_pos h11, if_neg hb]; rfl
  · have ha1 := ha (by omega)
    have hb2 := hb1 (by omega)
    have hc2 := hc1 (by omega)
    have h11 : v.i.op = 12 := by assumption
    refine .here ⟨rfl, done_reg h hg ?_ (by omega)⟩
    rw [hg.at_ v.i.c.toNat (by omega)] at hb
    rw [ecomp (by omega) (by omega) (by omega) (by omega), hg.at_ v.i.b.toNat (by omega)]
    unfold St.comp exec1
    rw [if_neg (by omega), if_neg (by omega), if_pos h11, if_pos hb]
  · have hc2 := hc1 (by omega)
    have h11 : v.i.op = 12 := by assumption
    refine .here ⟨rfl, done_same h hg ?_⟩
    rw [hg.at_ v.i.c.toNat (by omega)] at hb
    rw [ecomp (by omega) (by omega) (by omega) (by omega)]
    unfold St.comp exec1
    rw [if_neg (by omega), if_neg (by omega), if_pos h11, if_neg (by omega)]; rfl
  · have ha1 := ha (by omega)
    refine .here ⟨rfl, done_reg h hg ?_ (by omega)⟩
    rw [ecomp (by omega) (by omega) (by omega) (by omega)]
    simp [St.comp, exec1, hb]
  · exact do3 hE hF h hg hr (by simp [hb]) ⟨by omega, by omega, by omega, by omega, by omega, by omega, by omega⟩ hw hn hp hav hown hov fun H' hd => ⟨rfl, hd⟩
  · exact do3 hE hF h hg hr (by simp [hb]) ⟨by omega, by omega, by omega, by omega, by omega, by omega, by omega⟩ hw hn hp hav hown hov fun H' hd => ⟨rfl, hd⟩
end
end Go.Abs
/- The functions that the generators give, and that they are well. -/
namespace Go.Abs

def firI (params r : Int) : VI := ⟨⟨if r < params then 38 else 13, r, 0, 0, r⟩, []⟩
def firB (p : Nat) : Bl := ⟨(List.range (9 + p)).map fun r : Nat => firI p r, 1, 0, 1, 0⟩
def manyN (l : List Int) : Nat := 1 + min (l.length / 6) 5
def insF (regs : Int) (l : List Int) (b : Nat) : List VI := ((l.drop (6 * b)).take 5).map fun n => viF n ⟨0, regs, []⟩
def endF (regs many n : Int) (last : Bool) (ins : List VI) : Bl :=
  if n % 6 = 0 then (if last = true then ⟨ins, 3, 0, 0, 0⟩ else ⟨ins, 1, 0, 1 + nxt n 6 % many, 0⟩)
  else if n % 6 = 1 then ⟨ins, 4, 0, 1 + nxt n 6 % 9, 0⟩
  else if n % 6 = 2 then ⟨ins, 3, nxt n 6 % regs, 0, 0⟩
  else ⟨ins, 2, nxt n 6 % regs, 1 + nxt (nxt n 6) regs % many, 1 + nxt (nxt (nxt n 6) regs) many % many⟩
def blkF (p : Nat) (l : List Int) (b : Nat) : Bl := endF (9 + p) (manyN l) (l.getD (6 * b + 5) 0) (b + 1 == manyN l) (insF (9 + p) l b)
/-- The function that the generator gives. -/
def vfF (l : List Int) (p : Nat) : VF := ⟨p, 9 + p, firB p :: (List.range (manyN l)).map (blkF p l)⟩


def mapI (c : VF) (p q : Nat) (f : VI → VI) : VF := { c with blocks := c.blocks.set p { c.blocks.getD p default with ins := (c.blocks.getD p default).ins.set q (f ((c.blocks.getD p default).ins.getD q default)) } }
def mapB (c : VF) (p : Nat) (f : Bl → Bl) : VF := { c with blocks := c.blocks.set p (f (c.blocks.getD p default)) }
/-- One detail changed: which (k), into what (n), where (block p, instruction q). -/
def mutK (c : VF) (k n : Int) (p q : Nat) : VF :=
  if k = 0 then { c with params := n }
  else if k = 1 then { c with regs := n }
  else if k = 2 then mapB c p fun b => { b with en := n }
  else if k = 3 then mapB c p fun b => { b with reg := n }
  else if k = 4 then mapB c p fun b => { b with tgt := n }
  else if k = 5 then mapB c p fun b => { b with els := n }
  else if k = 6 then mapI c p q fun v => { v with i := { v.i with op := n } }
  else if k = 7 then mapI c p q fun v => { v with i := { v.i with a := n } }
  else if k = 8 then mapI c p q fun v => { v with i := { v.i with b := n } }
  else if k = 9 then mapI c p q fun v => { v with i := { v.i with c := n } }
  else if k = 10 then mapI c p q fun v => { v with i := { v.i with n := wordV n 1099511627776 } }
  else if k = 11 then mapI c p q fun v => { v with args := v.args ++ [n] }
  else if k = 12 then { c with blocks := c.blocks.take (max 0 (min n c.blocks.length)).toNat }
  else c
def mutP (c : VF) (at' : Int) : Nat := (at' % c.blocks.length).toNat
def mutF (c : VF) (how at' : Int) : VF :=
  mutK c (nxt how 40 % 14) (how % 40 - 2) (mutP c at') (W64 (at'.tdiv 7) % (c.blocks.getD (mutP c at') default).ins.length).toNat

theorem manyN_pos (l : List Int) : 1 ≤ manyN l ∧ manyN l ≤ 6 := by unfold manyN; omega


theorem endF_ok {c : VF} {p : Nat} {l : List Int} (hc : c = vfF l p) (n : Int) (last : Bool) (ins : List VI) : endOk c (endF (9 + p) (manyN l) n last ins) = true := by
  subst hc
  have hm := manyN_pos l
  have h1 : ∀ N : Int, 0 ≤ N % ((9 : Int) + p) ∧ N % ((9 : Int) + p) < 9 + p := fun N => ⟨Int.emod_nonneg _ (by omega), Int.emod_lt_of_pos _ (by omega)⟩
  have h2 : ∀ N : Int, 0 ≤ N % (manyN l : Int) ∧ N % (manyN l : Int) < manyN l := fun N => ⟨Int.emod_nonneg _ (by omega), Int.emod_lt_of_pos _ (by omega)⟩
  have h3 : ∀ N : Int, 0 ≤ N % (9 : Int) ∧ N % (9 : Int) < 9 := fun N => ⟨Int.emod_nonneg _ (by omega), Int.emod_lt_of_pos _ (by omega)⟩
  have g1 := h1 (nxt n 6)
  have g2 := h2 (nxt n 6)
  have g3 := h3 (nxt n 6)
  have g4 := h2 (nxt (nxt n 6) (9 + p))
  have g5 := h2 (nxt (nxt (nxt n 6) (9 + p)) (manyN l))
  have hlen : ((vfF l p).blocks.length : Int) = manyN l + 1 := by simp [vfF]
  have hregs : (vfF l p).regs = 9 + p := rfl
  unfold endF
  split
  · split
    · simp [endOk, inReg, hregs]; omega
    · simp only [endOk, inBlk, hlen]; simp; omega
  split
  · simp [endOk]; omega
  split
  · simp only [endOk, inReg, hregs]; simp; omega
  · simp only [endOk, inReg, inBlk, hlen, hregs]; simp; omega

theorem endF_ins (regs many n : Int) (last : Bool) (ins : List VI) : (endF regs many n last ins).ins = ins := by
  unfold endF; repeat' split
  all_goals rfl

/-- A function whose calls and accesses have a place in the programs that the generators give. -/
structure GoodF (W : Prop) (c : VF) : Prop where
  valid : validF c = true
  call : ∀ b ∈ c.blocks, ∀ v ∈ b.ins, v.i.op = 6 → 0 ≤ v.i.n ∧ v.i.n < 2 ∧ (v.args.length : Int) = 2 - v.i.n
  mem : ∀ b ∈ c.blocks, ∀ v ∈ b.ins, v.i.op = 34 ∨ v.i.op = 35 → 0 ≤ v.i.n ∧ v.i.n < 2
  n : W → ∀ b ∈ c.blocks, ∀ v ∈ b.ins, I64 v.i.n

theorem firI_ok (p : Nat) (hp : p ≤ 6) (l : List Int) {r : Nat} (hr : r < 9 + p) : validI (vfF l p) (firI p r) = true := by
  have e38 : formV 38 = 5 := rfl
  have e13 : formV 13 = 5 := by decide
  have hregs : (vfF l p).regs = 9 + p := rfl
  have hpar : (vfF l p).params = p := rfl
  unfold firI
  split
  · simp [validI, restI, allowedF, fieldsOk, immOk, inReg, e38, fA, fB, fC, fN, hregs, hpar]; omega
  · simp [validI, restI, allowedF, fieldsOk, immOk, inReg, e13, fA, fB, fC, fN, hregs, hpar]; omega

theorem validI_regs {c c' : VF} {v : VI} (h : validI c v = true) (hr : c'.regs = c.regs) (h38 : v.i.op ≠ 38) : validI c' v = true := by
  have e : ∀ x, inReg c' x = inReg c x := fun x => by simp only [inReg, hr]
  have e2 : inReg c' = inReg c := funext e
  have e3 : immOk c' v = immOk c v := by simp only [immOk, h38, if_false]
  have e4 : ∀ a b d n, fieldsOk c' v a b d n = fieldsOk c v a b d n := fun a b d n => by simp only [fieldsOk, e2]
  simp only [validI, restI, e2, e3, e4] at h ⊢
  exact h

theorem vfF_good (l : List Int) (p : Nat) (hp : p ≤ 6) : GoodF (∀ x ∈ l, I64 x) (vfF l p) := by
  have hg : ∀ b, ∀ v ∈ insF (9 + p) l b, GoodI (∀ x ∈ l, I64 x) ⟨0, 9 + p, []⟩ v := fun b v hv => by
    obtain ⟨n, hn, rfl⟩ := List.mem_map.1 hv
    exact viF_good (fun hl => hl n (List.mem_of_mem_drop (List.mem_of_mem_take hn))) ⟨by show (1 : Int) ≤ 9 + p; omega, by show (9 + p : Int) ≤ 3000; omega⟩
  have hb : ∀ b ∈ (vfF l p).blocks, b = firB p ∨ ∃ k, k < manyN l ∧ b = blkF p l k := fun b hb => by
    rcases List.mem_cons.1 hb with h | h
    · exact .inl h
    · obtain ⟨k, hk, rfl⟩ := List.mem_map.1 h
      exact .inr ⟨k, List.mem_range.1 hk, rfl⟩
  have hi : ∀ b ∈ (vfF l p).blocks, ∀ v ∈ b.ins, (∃ r : Nat, r < 9 + p ∧ v = firI p r) ∨ GoodI (∀ x ∈ l, I64 x) ⟨0, 9 + p, []⟩ v := fun b hb' v hv => by
    rcases hb b hb' with rfl | ⟨k, -, rfl⟩
    · obtain ⟨r, hr, rfl⟩ := List.mem_map.1 hv
      exact .inl ⟨r, List.mem_range.1 hr, rfl⟩
    · unfold blkF at hv
      rw [endF_ins] at hv
      exact .inr (hg k v hv)
  have hfop : ∀ r : Nat, (firI p r).i.op = 38 ∨ (firI p r).i.op = 13 := fun r => by unfold firI; dsimp only; split <;> simp
  refine ⟨?_, fun b hb' v hv ho => ?_, fun b hb' v hv ho => ?_, fun hw b hb' v hv => ?_⟩
  · have hm := manyN_pos l
    simp only [validF, Bool.and_eq_true, List.all_eq_true, blockOk]
    refine ⟨?_, fun b hb' => ⟨fun v hv => ?_, ?_⟩⟩
    · have hregs : (vfF l p).regs = 9 + p := rfl
      have hpar : (vfF l p).params = p := rfl
      have hlen : (vfF l p).blocks.length = manyN l + 1 := by simp [vfF]
      simp only [headOk, hregs, hpar, hlen]; simp; omega
    · rcases hi b hb' v hv with ⟨r, hr, rfl⟩ | h
      · exact firI_ok p hp l hr
      · exact validI_regs h.valid rfl h.op
    · rcases hb b hb' with rfl | ⟨k, -, rfl⟩
      · simp [endOk, firB, inBlk, vfF]; omega
      · exact endF_ok rfl _ _ _
  · rcases hi b hb' v hv with ⟨r, hr, rfl⟩ | h
    · rcases hfop r with h | h <;> omega
    · exact h.call ho
  · rcases hi b hb' v hv with ⟨r, hr, rfl⟩ | h
    · rcases hfop r with h | h <;> omega
    · exact h.mem ho
  · rcases hi b hb' v hv with ⟨r, hr, rfl⟩ | h
    · show I64 (firI p r).i.n
      unfold firI; constructor <;> (dsimp only; omega)
    · exact h.n hw

/-- The two functions that the generators give, over two arrays. -/
def vfs2 (l m : List Int) : List VF := [vfF (l.take 36) 2, vfF (m.take 18) 1]
theorem vfs2_ok (l m : List Int) : progOk (vfs2 l m) [3, 2] = true := by
  have g1 := vfF_good (l.take 36) 2 (by omega)
  have g2 := vfF_good (m.take 18) 1 (by omega)
  have p1 : (vfF (l.take 36) 2).params = 2 := rfl
  have p2 : (vfF (m.take 18) 1).params = 1 := rfl
  have key : ∀ (W : Prop) c, GoodF W c → funcOk (vfs2 l m) [3, 2] c = true := fun W c hc => by
    simp only [funcOk, Bool.and_eq_true, List.all_eq_true]
    refine ⟨hc.valid, fun b hb v hv => ?_⟩
    unfold callOk
    split
    · rename_i h6
      obtain ⟨h1, h2, h3⟩ := hc.call b hb v hv h6
      have h4 : v.i.n = 0 ∨ v.i.n = 1 := by omega
      rcases h4 with h4 | h4
      · rw [h4] at h3 ⊢; simp [vfs2, p1]; omega
      · rw [h4] at h3 ⊢; simp [vfs2, p2]; omega
    split
    · rename_i h34
      have := hc.mem b hb v hv h34
      simp; omega
    · rfl
  simp only [progOk, Bool.and_eq_true, List.all_eq_true]
  refine ⟨⟨rfl, by decide⟩, fun c hc => ?_⟩
  rcases List.mem_cons.1 hc with rfl | hc
  · exact key _ _ g1
  · have := List.mem_singleton.1 hc
    subst this
    exact key _ _ g2
end Go.Abs
