/- A part of the proof: F20, F21, F22, F30, F31, F32, F33, F34, G2, F23, F24, F35, F36, F37 -/
import Derived.Test.YtbjglnknddeflaaDoorX20
set_option linter.unusedSimpArgs false
set_option linter.unusedVariables false
set_option linter.unusedSimpArgs false
set_option linter.unusedVariables false
set_option maxRecDepth 100000
namespace Go.Abs
variable {E : Env}
section
variable {k : AV → Prop}
@[go_sem] theorem slice_ints (l : List Int) (q : IntKind) (h : Int) : pW (.slice 1 (.c (ints l)) none (some (.c (.int q h)))) k = ((0 ≤ h ∧ h ≤ l.length) ∧ k (ints (l.take h.toNat))) := by
  unfold ints; rw [p_slice1, List.length_map, List.map_take]
@[go_sem] theorem slice_vfs (l : List VF) (q : IntKind) (h : Int) : pW (.slice 3 (.c (vfs l)) none (some (.c (.int q h)))) k = ((0 ≤ h ∧ h ≤ l.length) ∧ k (vfs (l.take h.toNat))) := by
  unfold vfs; rw [p_slice1, List.length_map, List.map_take]
@[go_sem] theorem slice_vfs2 (l : List VF) (q : IntKind) (h : Int) : pW (.slice 3 (.c (vfs l)) (some (.c (.int q h))) none) k = ((0 ≤ h ∧ h ≤ l.length) ∧ k (vfs (l.drop h.toNat))) := by
  unfold vfs; rw [p_slice2, List.length_map, List.map_drop]
end
theorem take_min (l : List Int) (n : Nat) (m : Int) (hm : m = n) : (if m < (l.length : Int) then m else (l.length : Int)) = ((min n l.length : Nat) : Int) := by
  subst hm; split <;> omega
theorem take_min2 (l : List Int) (n : Nat) : l.take (min n l.length) = l.take n := by
  rcases Nat.le_total n l.length with h | h
  · rw [Nat.min_eq_left h]
  · rw [Nat.min_eq_right h, List.take_length, List.take_of_length_le h]

theorem vfuncs_spec (hE : E.Good) (hF : E.Fits tab) (l m : List Int) : PF E 22 [ints l, ints m] (.tup [vfs (vfs2 l m), ints [3, 2]]) := by
  have e36 := take_min l 36 36 rfl
  have e18 := take_min m 18 18 rfl
  have s1 := vfunc_spec hE hF (l.take 36) 2 (by omega)
  have s2 := vfunc_spec hE hF (m.take 18) 1 (by omega)
  intro H; refine ent22 hE hF _ _ _ _ ?_; unfold w22
  repeat' (first | ((with_reducible refine cond_mk (fun hb => ?_) (fun hb => ?_)) <;> ((try simp only [if_true, if_false, qq, reduceCtorEq] at hb); (try (exfalso; first | (exact hb) | contradiction | omega)))) | ((with_reducible refine call_pure (s1) ?_); intro _) | ((with_reducible refine pc_pure (s1) ?_)) | ((with_reducible refine dcall_pure0 (s1) ?_)) | ((with_reducible refine call_pure (s2) ?_); intro _) | ((with_reducible refine pc_pure (s2) ?_)) | ((with_reducible refine dcall_pure0 (s2) ?_)) | ((with_reducible refine And.intro ?_ ?_); (first | decide | omega)) | (simp (disch := omega) only [go_sem, Heap.get_ne, wrap64_id, Nat.reduceAdd, Nat.reduceLeDiff, Nat.reduceSub, Nat.reduceMul, Nat.reduceEqDiff, Nat.reduceBEq, Int.reduceLT, Int.reduceLE, Int.reduceEq, Int.reduceNeg, Int.reduceToNat, Int.reduceAdd, Int.reduceSub, e36, e18, Int.toNat_natCast, take_min2]) | (with_reducible rfl) | ((with_reducible refine And.intro ?_ ?_) <;> (with_reducible rfl)))
  refine mk_bsl rfl fun i hi => ?_
  refine mk_bsl rfl fun j hj => ?_
  have hij : i ≠ j := hj.ne (Heap.set_same _ _ _)
  refine .frz i _ (fun _ => .tup [vfs (vfs2 l m), .sl 1 j 0 2]) ((Heap.get_ne _ _ _ _ hij).trans (Heap.set_same _ _ _)) (fun _ => .inr ?_) ?_
  · simp only [frz, frz0, frz1, List.map_cons, List.map_nil, if_neg (fun e : j = i ∧ _ => hij e.1.symm)]
    rfl
  refine .frz j _ (fun _ => .tup [vfs (vfs2 l m), ints [3, 2]]) ((Heap.get_ne _ _ _ _ (Ne.symm hij)).trans (Heap.set_same _ _ _)) (fun _ => .inr ?_) ?_
  · simp only [frz, frz0, frz1, List.map_cons, List.map_nil]
    rfl
  refine .le (fun _ => .tup [vfs (vfs2 l m), ints [3, 2]]) H (fun _ => VLe.refl _) (fun k => ?_) (.here ⟨rfl, rfl⟩)
  cases e : H k with
  | none => exact .inl rfl
  | some b =>
    have h1 := hi.ne e
    have h2 : k ≠ j := hj.ne ((Heap.get_ne _ _ _ _ h1).trans e)
    exact .inr (by rw [Heap.get_ne _ _ _ _ h2, Heap.get_ne _ _ _ _ h1, Heap.get_ne _ _ _ _ h2, Heap.get_ne _ _ _ _ h1, e])
end Go.Abs
set_option linter.unusedSimpArgs false
set_option linter.unusedVariables false
set_option maxRecDepth 100000
namespace Go.Abs
variable {E : Env}

/-- The blocks' rows, of block p the instructions stand in a row of their own. -/
def full (c : VF) (p i k : Nat) (en reg tgt els : Int) : Blk := (c.blocks.map Bl.cells).set p (blr (.sl 6 i 0 k) en reg tgt els)
theorem frz_bl (w : Nat) (es : Blk) (b : Bl) : b.cells.map (frz1 w es) = b.cells := rfl
theorem frz_fulli {c : VF} {p i k : Nat} {en reg tgt els : Int} (es : Blk) (hk : k = es.length) : (full c p i k en reg tgt els).map (fun cs => cs.map (frz1 i es)) = (c.blocks.map Bl.cells).set p (blr (.ro 6 es) en reg tgt els) := by
  subst hk
  unfold full
  rw [List.map_set]
  congr 1
  · refine (List.map_congr_left fun row hrow => ?_).trans (List.map_id _)
    obtain ⟨b, -, rfl⟩ := List.mem_map.1 hrow
    exact frz_bl i es b
  · simp [blr, frz1]

/-- A function is given back, one block's instructions in a row of their own. -/
theorem ret_mut {G H : Heap} {Y : List (Nat × Blk)} {c f : VF} {p n i m : Nat} {en reg tgt els : Int} {irows : Blk} {ins : List VI} (hp : p < c.blocks.length) (hm : m ≤ c.blocks.length) (hins : VLe (.ro 6 irows) (vins ins))
    (hf : f.blocks = (c.blocks.set p ⟨ins, en, reg, tgt, els⟩).take m) (h : HoldsG G H ((n, full c p i irows.length en reg tgt els) :: (i, irows) :: Y)) : RetC (Ret (.agg f.cells) G) (.agg (vfc f (.sl 5 n 0 m))) H := by
  have hni : n ≠ i := by
    have := h.to.1
    simp only [List.map_cons, List.nodup_cons, List.mem_cons, not_or] at this
    exact this.1.1
  have e1 := frz_fulli (c := c) (p := p) (i := i) (en := en) (reg := reg) (tgt := tgt) (els := els) irows rfl
  refine .frz2 i irows n _ _ (h.get (by simp)) hni (h.get (k := n) (b := full c p i irows.length en reg tgt els) (by simp)) (fun _ => .inl rfl) ?_
  rw [e1]
  have h2 : HoldsG G ((H.set i none).set n (some ((c.blocks.map Bl.cells).set p (blr (.ro 6 irows) en reg tgt els)))) ((n, (c.blocks.map Bl.cells).set p (blr (.ro 6 irows) en reg tgt els)) :: Y) := by
    have h3 : HoldsG G H ([(i, irows)] ++ ((n, full c p i irows.length en reg tgt els) :: Y)) := h.perm (List.Perm.swap _ _ _)
    have h4 : HoldsG G (H.set i none) ((n, full c p i irows.length en reg tgt els) :: Y) := h3.frame (X' := []) ⟨by simp, by simp⟩ ((Kept.refl _ _).step _ (.inl (by simp))) (by simp)
    exact h4.set
  refine .frz n _ (fun _ => .agg (vfc f (.ro 5 (((c.blocks.map Bl.cells).set p (blr (.ro 6 irows) en reg tgt els)).take m)))) (h2.get List.mem_cons_self) (fun _ => .inr ?_) (.le (fun _ => .agg f.cells) G (fun _ => vle_vf ?_) (fun k => ?_) (.here ⟨rfl, rfl⟩))
  · simp [frz, frz0, frz1, vfc, hm]
  · rw [hf]
    refine vle_ro (by simp) fun j a b ha hb => ?_
    rw [List.getElem?_map, Option.map_eq_some_iff] at hb
    obtain ⟨b', hb', rfl⟩ := hb
    have hj := (List.getElem?_eq_some_iff.1 ha).1
    have hjm : j < m := by simp at hj; omega
    rw [List.getElem?_take_of_lt hjm] at ha hb'
    by_cases e : j = p
    · subst e
      rw [List.getElem?_set_self (by simpa using hp)] at ha
      rw [List.getElem?_set_self hp] at hb'
      cases ha; cases hb'
      exact ⟨rfl, vle_blr hins _ _ _ _⟩
    · rw [List.getElem?_set_ne (Ne.symm e), List.getElem?_map, Option.map_eq_some_iff] at ha
      rw [List.getElem?_set_ne (Ne.symm e)] at hb'
      obtain ⟨b2, hb2, rfl⟩ := ha
      rw [hb'] at hb2; cases hb2
      exact ⟨rfl, fun j x y hx hy => by rw [hx] at hy; cases hy; exact VLe.refl _⟩
  · cases e : G k with
    | none => exact .inl rfl
    | some b =>
      have := h2.kp k b e
      refine .inr ?_
      rw [Heap.get_ne _ _ _ _ (fun e2 => this.2 (by rw [e2]; simp))]
      exact this.1.symm

/-- What the copying has come to: b blocks. -/
def MS (G : Heap) (c : VF) (p o r d : Nat) (how : Int) (b : Nat) (H : Heap) : Prop :=
  ∃ ov i, OwnR 5 ov ((full c p i (c.blocks.getD p default).ins.length (c.blocks.getD p default).en (c.blocks.getD p default).reg (c.blocks.getD p default).tgt (c.blocks.getD p default).els).take b) ∧
    HoldsG G H ((o, [vfc ⟨c.params, c.regs, []⟩ ov]) :: (r, [z3]) :: (d, [[.int .i64 how]]) :: (ownR ov ((full c p i (c.blocks.getD p default).ins.length (c.blocks.getD p default).en (c.blocks.getD p default).reg (c.blocks.getD p default).tgt (c.blocks.getD p default).els).take b) ++
      if p < b then [(i, (c.blocks.getD p default).ins.map VI.cells)] else []))


/-- The copy stands whole; v is the instruction to change (or one of no account, if its block has none). -/
def MV (G : Heap) (c : VF) (p o r d n i vi vq q : Nat) (how : Int) (f0 : VF) (m : Nat) (en reg tgt els : Int) (irows : Blk) (vcells : List AV) (H : Heap) : Prop :=
  ∃ Z, HoldsG G H ((o, [vfc f0 (.sl 5 n 0 m)]) :: (r, [z3]) :: (d, [[.int .i64 how]]) :: (n, full c p i irows.length en reg tgt els) :: (i, irows) :: Z) ∧
    ((Z = [] ∧ vi = i ∧ vq = q ∧ irows[q]? = some vcells) ∨ (Z = [(vi, [vcells])] ∧ vq = 0 ∧ irows = []))
section
variable {G H : Heap} {c f0 : VF} {p o r d n i vi vq q m : Nat} {how en reg tgt els : Int} {irows : Blk} {vcells : List AV}
theorem MV.ho (h : MV G c p o r d n i vi vq q how f0 m en reg tgt els irows vcells H) : H o = some [vfc f0 (.sl 5 n 0 m)] := by
  obtain ⟨Z, h, -⟩ := h; exact h.get (by simp)
theorem MV.hr (h : MV G c p o r d n i vi vq q how f0 m en reg tgt els irows vcells H) : H r = some [z3] := by
  obtain ⟨Z, h, -⟩ := h; exact h.get (by simp)
theorem MV.hn (h : MV G c p o r d n i vi vq q how f0 m en reg tgt els irows vcells H) : H n = some (full c p i irows.length en reg tgt els) := by
  obtain ⟨Z, h, -⟩ := h; exact h.get (by simp)
theorem MV.ne (h : MV G c p o r d n i vi vq q how f0 m en reg tgt els irows vcells H) : o ≠ r ∧ o ≠ n ∧ r ≠ n ∧ o ≠ vi ∧ r ≠ vi ∧ n ≠ vi := by
  obtain ⟨Z, h, h2⟩ := h
  have := h.to.1
  simp only [List.map_cons, List.nodup_cons, List.mem_cons, not_or] at this
  obtain ⟨⟨a1, a2, a3, a4, a5⟩, ⟨b1, b2, b3, b4⟩, -, ⟨c1, c2⟩, -⟩ := this
  rcases h2 with ⟨rfl, rfl, -⟩ | ⟨rfl, -⟩
  · exact ⟨a1, a3, b2, a4, b3, c1⟩
  · simp at a5 b4 c2
    exact ⟨a1, a3, b2, a5, b4, c2⟩
theorem MV.hv (h : MV G c p o r d n i vi vq q how f0 m en reg tgt els irows vcells H) : ∃ vr : Blk, H vi = some vr ∧ vr[vq]? = some vcells ∧ ∀ cs', MV G c p o r d n i vi vq q how f0 m en reg tgt els (irows.set q cs') cs' (H.set vi (some (vr.set vq cs'))) := by
  obtain ⟨Z, h, h2⟩ := h
  rcases h2 with ⟨rfl, rfl, rfl, h3⟩ | ⟨rfl, rfl, rfl⟩
  · refine ⟨irows, h.get (by simp), h3, fun cs' => ⟨[], ?_, .inl ⟨rfl, rfl, rfl, ?_⟩⟩⟩
    · rw [List.length_set]
      exact h.put (i := 4) rfl
    · rw [List.getElem?_set_self (List.getElem?_eq_some_iff.1 h3).1]
  · refine ⟨[vcells], h.get (by simp), rfl, fun cs' => ⟨[(vi, [cs'])], ?_, .inr ⟨rfl, rfl, rfl⟩⟩⟩
    exact h.put (i := 5) rfl
theorem MV.next (hE : E.Good) (hF : E.Fits tab) (h : MV G c p o r d n i vi vq q how f0 m en reg tgt els irows vcells H) {k : Int} (hm : 0 < k) (hm2 : k < 1000000000) :
    ACall E 47 [.ptr d 0 0, .int .i64 k] H (fun v H' => v = .int .i64 (how % k) ∧ MV G c p o r d n i vi vq q (nxt how k) f0 m en reg tgt els irows vcells H') := by
  obtain ⟨Z, h, h2⟩ := h
  refine ACall.mono (next_spec hE hF (n := how) (h.get (by simp)) hm hm2) ?_
  rintro _ _ ⟨rfl, rfl⟩
  exact ⟨rfl, Z, h.put (i := 2) rfl, h2⟩
theorem MV.ret (h : MV G c p o r d n i vi vq q how f0 m en reg tgt els irows vcells H) {f : VF} {ins : List VI} (hp : p < c.blocks.length) (hm : m ≤ c.blocks.length) (hins : VLe (.ro 6 irows) (vins ins))
    (hf : f.blocks = (c.blocks.set p ⟨ins, en, reg, tgt, els⟩).take m) (h0 : f.params = f0.params ∧ f.regs = f0.regs) : RetC (Ret (.agg f.cells) G) (.agg (vfc f0 (.sl 5 n 0 m))) (H.set r (some [vfc f0 (.sl 5 n 0 m)])) := by
  obtain ⟨Z, h, h2⟩ := h
  have h3 := h.put (i := 1) (b' := [vfc f0 (.sl 5 n 0 m)]) rfl
  have e : vfc f0 (.sl 5 n 0 m) = vfc f (.sl 5 n 0 m) := by unfold vfc; rw [h0.1, h0.2]
  have h4 : HoldsG G (H.set r (some [vfc f0 (.sl 5 n 0 m)])) ((n, full c p i irows.length en reg tgt els) :: (i, irows) :: ((o, [vfc f0 (.sl 5 n 0 m)]) :: (r, [vfc f0 (.sl 5 n 0 m)]) :: (d, [[.int .i64 how]]) :: Z)) := h3.perm (perm_of_count fun i _ a => by simp only [List.set_cons_succ, List.set_cons_zero, List.count_append, List.count_cons, List.count_nil]; omega)
  rw [e] at h4 ⊢
  exact ret_mut hp hm hins hf h4
end

@[go_sem] theorem spl_z3' (c : VF) (X : AV) : spl z3 0 (vfc c X) = vfc c X := id rfl
@[go_sem] theorem set_vfc0 (c : VF) (X : AV) (n : Int) : (vfc c X).set 0 (.int .i64 n) = vfc { c with params := n } X := id rfl



end Go.Abs
set_option linter.unusedSimpArgs false
set_option linter.unusedVariables false
set_option maxRecDepth 100000
namespace Go.Abs
variable {E : Env}

@[go_sem] theorem drop_vf0 (c : VF) : c.cells.drop 0 = [.int .i64 c.params, .int .i64 c.regs, bls c.blocks] := id rfl
@[go_sem] theorem drop_vf1 (c : VF) : c.cells.drop 1 = [.int .i64 c.regs, bls c.blocks] := id rfl


end Go.Abs
set_option linter.unusedSimpArgs false
set_option linter.unusedVariables false
set_option maxRecDepth 100000
namespace Go.Abs
variable {E : Env}

/-- The state stands before the end of a function that gives v. -/
structure AtRet (s : St) (v : Int) : Prop where
  pc : s.top.pc = (s.top.f.blocks.getD s.top.bi.toNat default).ins.length
  en : (s.top.f.blocks.getD s.top.bi.toNat default).en = 3
  val : s.top.regs.getD (s.top.f.blocks.getD s.top.bi.toNat default).reg.toNat 0 = v
def CallPost (I : Ids) (B : List (Nat × Blk)) (s : St) (m : Int) : AV → Heap → Prop := fun x H' => ∃ k s' ov' v lg m', x = .int .i64 v ∧ Prog I.l k s s' ∧ RX I ov' B s' m' lg H' ∧
  ((lg = false ∧ s'.over = false ∧ (k : Int) + 1 ≤ m ∧ m' = m - k - 1 ∧ s'.rest = s.rest ∧ s'.top.to = s.top.to ∧ AtRet s' v)
   ∨ (lg = false ∧ s'.over = true ∧ (k : Int) ≤ m ∧ s'.val = 0)
   ∨ (lg = true ∧ s'.over = false ∧ k = m.toNat))
/-- What a run asks of the program and of a state, and how far it may go. -/
structure Okay (I : Ids) (lens : List Int) (n : Nat) (s : St) (m : Int) : Prop where
  inv : Inv I.l lens n s
  w : StW s
  few : (n : Int) + m ≤ 800000
  n0 : n ≤ 800000
/-- The contract of call, for at most N steps. -/
def CallOk (E : Env) (I : Ids) (lens : List Int) (N : Nat) : Prop := ∀ {ov av : AV} {B : List (Nat × Blk)} {s : St} {m : Int} {H : Heap} {n : Nat} {f : Int}, m.toNat ≤ N → Okay I lens n s m → s.over = false → s.top.regs = [] → s.top.bi = 0 → s.top.pc = 0 → ArgV av s.top.args → (∀ p ∈ ownL av s.top.args, p ∈ B) →
  (0 ≤ f ∧ f < I.l.length) → I.l.getD f.toNat default = s.top.f → RX I ov B s m false H → ACall E 51 [.ptr I.r 0 0, .int .i64 f, av] H (CallPost I B s m)
/-- How an instruction ends; m: the steps left behind its own. -/
def DoPost (I : Ids) (rb : Nat) (rs : List Int) (B : List (Nat × Blk)) (s : St) (m : Int) : AV → Heap → Prop := fun x H' => x = .tup [] ∧ ∃ k s' ov' rs' lg m', 1 ≤ k ∧ Prog I.l k s s' ∧ RX I ov' ((rb, rs'.map icell) :: B) s' m' lg H' ∧ rs'.length = rs.length ∧
  ((lg = false ∧ s'.over = false ∧ m' = m + 1 - k ∧ (k : Int) ≤ m + 1 ∧ s'.rest = s.rest ∧ (∃ regs', s'.top = { s.top with pc := s.top.pc + 1, regs := regs' } ∧ Agr s.top.f rs' regs'))
   ∨ (lg = false ∧ s'.over = true ∧ (k : Int) ≤ m + 1 ∧ s'.val = 0)
   ∨ (lg = true ∧ s'.over = false ∧ k = (m + 1).toNat))


section
variable {I : Ids} {lens : List Int} {ov : AV} {B : List (Nat × Blk)} {s : St} {m : Int} {H : Heap}
theorem RX.any {lg : Bool} (h : RX I ov B s m lg H) (t : Fr) (r : List Fr) : RX I ov B { s with top := t, rest := r } m lg H := ⟨h.holds, h.hov, h.hcv, h.hov2⟩



end
end Go.Abs
set_option linter.unusedSimpArgs false
set_option linter.unusedVariables false
set_option maxRecDepth 100000
namespace Go.Abs
variable {E : Env}

inductive Mode where
  | cur (k : Nat)
  | ovr
  | lng
/-- Where a call stands that began at s with m steps left: at block a, instruction p; or it is over; or the steps are used up. -/
def InM (I : Ids) (B : List (Nat × Blk)) (rb n : Nat) (s : St) (m a p : Int) : Mode → Heap → Prop
  | .cur k, H => ∃ (s' : St) (ov' : AV) (rs' : List Int), Prog I.l k s s' ∧ RX I ov' ((rb, rs'.map icell) :: B) s' (m - k) false H ∧ rs'.length = n ∧ k ≤ m.toNat ∧ s'.over = false ∧ s'.rest = s.rest ∧ (∃ regs', s'.top = ⟨s.top.f, regs', s.top.args, a, p, s.top.to⟩ ∧ Agr s.top.f rs' regs')
  | .ovr, H => ∃ (k : Nat) (s' : St) (ov' : AV) (rs' : List Int) (m' : Int), Prog I.l k s s' ∧ RX I ov' ((rb, rs'.map icell) :: B) s' m' false H ∧ rs'.length = n ∧ s'.over = true ∧ (k : Int) ≤ m ∧ s'.val = 0
  | .lng, H => ∃ (k : Nat) (s' : St) (ov' : AV) (rs' : List Int) (m' : Int), Prog I.l k s s' ∧ RX I ov' ((rb, rs'.map icell) :: B) s' m' true H ∧ rs'.length = n ∧ s'.over = false ∧ k = m.toNat

section
variable {I : Ids} {lens : List Int} {B : List (Nat × Blk)} {s : St} {m : Int} {H : Heap} {rb n : Nat} {R : AV → Heap → Prop} {K1 : Tm → Heap → Prop} {av : AV}


end
end Go.Abs
set_option linter.unusedSimpArgs false
set_option linter.unusedVariables false
set_option maxRecDepth 100000
namespace Go.Abs
variable {E : Env}

section
variable {I : Ids} {lens : List Int} {B : List (Nat × Blk)} {s : St} {m : Int} {H : Heap} {rb n : Nat} {R : AV → Heap → Prop} {K1 : Tm → Heap → Prop} {av : AV}

end
end Go.Abs
set_option linter.unusedSimpArgs false
set_option linter.unusedVariables false
set_option maxRecDepth 100000
namespace Go.Abs
variable {E : Env}

def Mode.mu (m : Int) : Mode → Nat
  | .cur k => m.toNat + 1 - k
  | _ => 0
end Go.Abs
set_option linter.unusedSimpArgs false
set_option linter.unusedVariables false
set_option maxRecDepth 100000
namespace Go.Abs
variable {E : Env}

@[go_sem] theorem inc_end {l : List VF} {cv ov : AV} {fu mo k c v : Int} {o lg : Bool} : ((inc l cv ov fu mo k c v o lg).drop 5).take 4 = [.int .i64 k, .int .i64 c, .nilsl, .int .i64 v] := id rfl
@[go_sem] theorem inc_end2 {l : List VF} {cv ov x : AV} {fu mo k c v : Int} {o lg : Bool} : (((inc l cv ov fu mo k c v o lg).set 7 x).drop 5).take 4 = [.int .i64 k, .int .i64 c, x, .int .i64 v] := id rfl
@[go_sem] theorem inc_st {l : List VF} {cv ov : AV} {fu mo k c v k' c' v' : Int} {o lg : Bool} : (inc l cv ov fu mo k c v o lg).take 5 ++ ([.int .i64 k', .int .i64 c', .nilsl, .int .i64 v'] ++ (inc l cv ov fu mo k c v o lg).drop 9) = inc l cv ov fu mo k' c' v' o lg := id rfl
@[go_sem] theorem inc_setl {l : List VF} {cv ov x : AV} {fu mo k c v : Int} {o lg : Bool} : ((inc l cv ov fu mo k c v o lg).set 7 x).length = 11 := id rfl


section
variable {G : Heap} {id : Nat} {I : Ids} {ov : AV} {B : List (Nat × Blk)} {s : St} {m : Int} {lg : Bool} {H : Heap} {R : AV → Heap → Prop}
end


end Go.Abs
/- How large the generators' functions are. -/
namespace Go.Abs

structure SzF (k : Nat) (c : VF) : Prop where
  bl : c.blocks.length ≤ k
  ins : ∀ b ∈ c.blocks, b.ins.length ≤ k
  args : ∀ b ∈ c.blocks, ∀ v ∈ b.ins, v.args.length ≤ k
theorem SzF.mono {k k' : Nat} {c : VF} (h : SzF k c) (hk : k ≤ k') : SzF k' c := ⟨Nat.le_trans h.bl hk, fun b hb => Nat.le_trans (h.ins b hb) hk, fun b hb v hv => Nat.le_trans (h.args b hb v hv) hk⟩
theorem vfF_sz (l : List Int) (p : Nat) (hp : p ≤ 6) : SzF 100 (vfF l p) := by
  have hm := manyN_pos l
  have hg := vfF_good l p hp
  refine ⟨by simp [vfF]; omega, fun b hb => ?_, fun b hb v hv => ?_⟩
  · rcases List.mem_cons.1 hb with h | h
    · subst h; simp [firB]; omega
    · obtain ⟨k, -, rfl⟩ := List.mem_map.1 h
      unfold blkF
      rw [endF_ins]
      unfold insF
      simp; omega
  · have h1 := validF_n hg.valid hb hv
    simp only [validI, Bool.and_eq_true, Bool.not_eq_true', Bool.or_eq_false_iff, decide_eq_false_iff_not] at h1
    have := h1.1.1.2
    omega
end Go.Abs
set_option linter.unusedSimpArgs false
set_option linter.unusedVariables false
set_option maxRecDepth 100000
namespace Go.Abs
variable {E : Env}


end Go.Abs
set_option linter.unusedSimpArgs false
set_option linter.unusedVariables false
set_option maxRecDepth 100000
namespace Go.Abs
variable {E : Env}


/-- Rows of one cell each. -/
def col {α : Type} (f : α → AV) (l : List α) : AV := .ro 1 (l.map fun x => [f x])
section
variable {k : AV → Prop}
end





end Go.Abs
set_option linter.unusedSimpArgs false
set_option linter.unusedVariables false
set_option maxRecDepth 100000
namespace Go.Abs
variable {E : Env}

theorem vfs2_par (l m : List Int) {j : Nat} (hj : j < 2) : ((vfs2 l m).getD j default).params = 2 - j := by
  match j with
  | 0 => rfl
  | 1 => rfl


end Go.Abs
set_option linter.unusedSimpArgs false
set_option linter.unusedVariables false
set_option maxRecDepth 100000
namespace Go.Abs
variable {E : Env}

/-- The blocks and one more, as they lie. -/
def extBs (c : VF) : Blk := c.blocks.map Bl.cells ++ [[.nilsl, .int .i64 4, .int .i64 0, .int .i64 77, .int .i64 0]]
def extC (k : Int) (c : VF) : List AV := [.int .i64 c.params, .int .i64 (c.regs + k), .ro 5 (extBs c)]
theorem extC_le (k : Int) (c : VF) : ∀ (j : Nat) (x y : AV), (extC k c)[j]? = some x → (extF k c).cells[j]? = some y → VLe x y := fun j x y hx hy => by
  match j with
  | 0 => cases hx; cases hy; exact VLe.refl _
  | 1 => cases hx; cases hy; exact VLe.refl _
  | 2 =>
    cases hx; cases hy
    refine vle_ro (by simp [extBs, extF]) fun i a b ha hb => ?_
    have hb' : (c.blocks.map Bl.cells ++ [Bl.cells ⟨[], 4, 0, 77, 0⟩])[i]? = some b := by rw [← hb]; simp [extF]
    unfold extBs at ha
    by_cases hi : i < c.blocks.length
    · rw [List.getElem?_append_left (by simpa using hi)] at ha hb'
      rw [ha] at hb'; cases hb'
      exact ⟨rfl, fun j x y hx hy => by rw [hx] at hy; cases hy; exact VLe.refl _⟩
    · rw [List.getElem?_append_right (by simp; omega)] at ha hb'
      match e : i - (c.blocks.map Bl.cells).length with
      | 0 =>
        rw [e] at ha hb'
        cases ha; cases hb'
        refine ⟨rfl, fun j x y hx hy => ?_⟩
        match j with
        | 0 => cases hx; cases hy; exact vle_nil _
        | 1 => cases hx; cases hy; exact VLe.refl _
        | 2 => cases hx; cases hy; exact VLe.refl _
        | 3 => cases hx; cases hy; exact VLe.refl _
        | 4 => cases hx; cases hy; exact VLe.refl _
        | n + 5 => cases hx
      | n + 1 => rw [e] at ha; cases ha
  | n + 3 => cases hx
theorem law9_1 (hE : E.Good) (hF : E.Fits tab) {R : AV → Heap → Prop} {K1 : Tm → Heap → Prop} {G H : Heap} {q i : Nat} {B : Blk} {c : VF} {n7 : Int} {t2 t6 t17 t18 t19 : AV} (h : HoldsG G H [(q, B)]) (hi : i < 2) (hlen : B.length = 2) (hget : B[i]? = some c.cells) (hc : 0 ≤ c.regs ∧ c.regs ≤ 2000) (hbl : c.blocks.length ≤ 1000)
    (hK : ∀ H' n2, HoldsG G H' [(q, B.set i [.int .i64 c.params, .int .i64 (c.regs + (1 + n7 % 9)), .sl 5 n2 0 (c.blocks.length + 1)]), (n2, extBs c)] → atW K1 [t2, t6, .int .i64 n7, t17, t18, t19, .sl 3 q 0 2, .int .i64 ((i : Int) + 1)] H') :
    atW (m9_1 E R K1) [t2, t6, .int .i64 n7, t17, t18, t19, .sl 3 q 0 2, .int .i64 i] H := by
  have q0 := Int.emod_nonneg n7 (show (9 : Int) ≠ 0 by decide)
  have q1 := Int.emod_lt_of_pos n7 (show (0 : Int) < 9 by decide)
  have hq := h.get (k := q) (b := B) (by simp)
  have hset : ∀ r : List AV, (B.set i r)[i]? = some r := fun r => by rw [List.getElem?_set_self (by omega)]
  have hss : ∀ r r' : List AV, (B.set i r).set i r' = B.set i r' := fun r r' => List.set_set ..
  have hs1 : ∀ x : AV, c.cells.set 1 x = [.int .i64 c.params, x, bls c.blocks] := fun _ => rfl
  skip
  refine at_here ?_; unfold m9_1 w9_1
  repeat' (first | ((with_reducible refine cond_mk (fun hb => ?_) (fun hb => ?_)) <;> ((try simp only [if_true, if_false, qq, reduceCtorEq] at hb); (try (exfalso; first | (exact hb) | contradiction | omega)))) | ((with_reducible refine grp_mk ?_ (fun hb => ?_) (fun _ => ?_)) <;> (try simp only [if_true, if_false, qq, reduceCtorEq] at hb)) | ((with_reducible refine call_pure (pick_spec hE hF _ _ (by decide) (by decide)) ?_); intro _) | ((with_reducible refine pc_pure (pick_spec hE hF _ _ (by decide) (by decide)) ?_)) | ((with_reducible refine dcall_pure0 (pick_spec hE hF _ _ (by decide) (by decide)) ?_)) | ((with_reducible refine And.intro ?_ ?_); (first | decide | omega)) | ((with_reducible refine at_here (P := m9_1 _ _ _) ?_); unfold m9_1 w9_1) | ((with_reducible refine at_here (P := m9_2 _ _) ?_); unfold m9_2 w9_2) | (simp (disch := omega) only [go_sem, Heap.get_ne, wrap64_id, Nat.reduceAdd, Nat.reduceLeDiff, Nat.reduceSub, Nat.reduceMul, Nat.reduceEqDiff, Nat.reduceBEq, Int.reduceLT, Int.reduceLE, Int.reduceEq, Int.reduceNeg, Int.reduceToNat, Int.reduceAdd, Int.reduceSub, hq, hget, hset, hss, hs1]) | (with_reducible rfl) | ((with_reducible refine And.intro ?_ ?_) <;> (with_reducible rfl)))
  refine mk_app_nil (xs := c.blocks.map Bl.cells) (by simp [appLim]; omega) fun n1 hn1 => ?_
  have g1 := (h.set (b' := B.set i [.int .i64 c.params, .int .i64 (c.regs + (1 + n7 % 9)), bls c.blocks])).new hn1 (b := c.blocks.map Bl.cells)
  repeat' (first | ((with_reducible refine cond_mk (fun hb => ?_) (fun hb => ?_)) <;> ((try simp only [if_true, if_false, qq, reduceCtorEq] at hb); (try (exfalso; first | (exact hb) | contradiction | omega)))) | ((with_reducible refine grp_mk ?_ (fun hb => ?_) (fun _ => ?_)) <;> (try simp only [if_true, if_false, qq, reduceCtorEq] at hb)) | ((with_reducible refine And.intro ?_ ?_); (first | decide | omega)) | ((with_reducible refine at_here (P := m9_1 _ _ _) ?_); unfold m9_1 w9_1) | ((with_reducible refine at_here (P := m9_2 _ _) ?_); unfold m9_2 w9_2) | (simp (disch := omega) only [go_sem, Heap.get_ne, wrap64_id, Nat.reduceAdd, Nat.reduceLeDiff, Nat.reduceSub, Nat.reduceMul, Nat.reduceEqDiff, Nat.reduceBEq, Int.reduceLT, Int.reduceLE, Int.reduceEq, Int.reduceNeg, Int.reduceToNat, Int.reduceAdd, Int.reduceSub]) | (with_reducible rfl) | ((with_reducible refine And.intro ?_ ?_) <;> (with_reducible rfl)))
  refine mk_app (xs := [[.nilsl, .int .i64 4, .int .i64 0, .int .i64 77, .int .i64 0]]) (len := c.blocks.length) (es := c.blocks.map Bl.cells) (Heap.set_same _ _ _) ⟨by simp, by simp [appLim]; omega⟩ fun n2 hn2 => ?_
  have e1 : (c.blocks.map Bl.cells).take c.blocks.length ++ [[.nilsl, .int .i64 4, .int .i64 0, .int .i64 77, .int .i64 0]] = extBs c := by
    rw [List.take_of_length_le (by simp)]; rfl
  rw [e1]
  have g3 := g1.move hn2 (b' := extBs c)
  generalize ((((H.set q (some (B.set i [.int .i64 c.params, .int .i64 (c.regs + (1 + n7 % 9)), bls c.blocks]))).set n1 (some (c.blocks.map Bl.cells))).set n1 none).set n2 (some (extBs c))) = H4 at g3
  have hq2 := g3.get (k := q) (b := B.set i [.int .i64 c.params, .int .i64 (c.regs + (1 + n7 % 9)), bls c.blocks]) (by simp)
  repeat' (first | ((with_reducible refine cond_mk (fun hb => ?_) (fun hb => ?_)) <;> ((try simp only [if_true, if_false, qq, reduceCtorEq] at hb); (try (exfalso; first | (exact hb) | contradiction | omega)))) | ((with_reducible refine grp_mk ?_ (fun hb => ?_) (fun _ => ?_)) <;> (try simp only [if_true, if_false, qq, reduceCtorEq] at hb)) | ((with_reducible refine And.intro ?_ ?_); (first | decide | omega)) | ((with_reducible refine at_here (P := m9_1 _ _ _) ?_); unfold m9_1 w9_1) | ((with_reducible refine at_here (P := m9_2 _ _) ?_); unfold m9_2 w9_2) | (simp (disch := omega) only [go_sem, Heap.get_ne, wrap64_id, Nat.reduceAdd, Nat.reduceLeDiff, Nat.reduceSub, Nat.reduceMul, Nat.reduceEqDiff, Nat.reduceBEq, Int.reduceLT, Int.reduceLE, Int.reduceEq, Int.reduceNeg, Int.reduceToNat, Int.reduceAdd, Int.reduceSub, hset, hss, hs1, hq2]) | (with_reducible rfl) | ((with_reducible refine And.intro ?_ ?_) <;> (with_reducible rfl)))
  have g4 := (g3.perm (List.Perm.swap _ _ _)).set (b' := B.set i [.int .i64 c.params, .int .i64 (c.regs + (1 + n7 % 9)), .sl 5 n2 0 (c.blocks.length + 1)])
  exact hK _ n2 g4

theorem HoldsG.free {G H : Heap} {k : Nat} {b : Blk} {B : List (Nat × Blk)} (h : HoldsG G H ((k, b) :: B)) : HoldsG G (H.set k none) B := by
  have h1 := h.to.1
  simp only [List.map_cons, List.nodup_cons] at h1
  refine ⟨⟨h1.2, fun p hp => ?_⟩, fun j x hj => ⟨?_, fun hm => (h.kp j x hj).2 (List.mem_cons_of_mem _ hm)⟩⟩
  · rw [Heap.get_ne _ _ _ _ (fun e => h1.1 (by rw [← e]; exact List.mem_map.2 ⟨p, hp, rfl⟩))]
    exact h.to.2 p (List.mem_cons_of_mem _ hp)
  · rw [Heap.get_ne _ _ _ _ (fun e => (h.kp j x hj).2 (by rw [e]; simp))]
    exact (h.kp j x hj).1
def mixB (k : Int) (a b : VF) : Nat → Blk
  | 0 => [a.cells, b.cells]
  | 1 => [extC k a, b.cells]
  | _ => [extC k a, extC k b]

set_option maxHeartbeats 4000000 in
theorem law9_0 (hE : E.Good) (hF : E.Fits tab) {G H : Heap} {a b : VF} {f fuel n7 : Int} {lens ag : List Int} {q : Nat} (h : HoldsG G H [(q, [a.cells, b.cells])])
    (ha : 0 ≤ a.regs ∧ a.regs ≤ 2000) (hb9 : 0 ≤ b.regs ∧ b.regs ≤ 2000) (hab : a.blocks.length ≤ 1000) (hbb : b.blocks.length ≤ 1000)
    (he : ∀ n fu, runV [extF (1 + n7 % 9) a, extF (1 + n7 % 9) b] lens f ag fu n = runV [a, b] lens f ag fu n) :
    loopW (l9_0 E (Ret (.bool true) G)) [.int .i64 f, .int .i64 fuel, .int .i64 n7, vfs [a, b], ints lens, ints ag, .sl 3 q 0 2, .int .i64 0] H := by
  refine loop_mk (σ := Nat) (fun i => [.int .i64 f, .int .i64 fuel, .int .i64 n7, vfs [a, b], ints lens, ints ag, .sl 3 q 0 2, .int .i64 i])
    (fun i H' => i ≤ 2 ∧ HoldsG G H' [(q, mixB (1 + n7 % 9) a b i)]) (fun i => 2 - i) 0 rfl ⟨by omega, h⟩ ?_
  rintro i H K ⟨hi, h⟩ hK
  skip
  unfold l9_0 w9_0; simp only [go_sem]
  repeat' (first | ((with_reducible refine cond_mk (fun hb => ?_) (fun hb => ?_)) <;> ((try simp only [if_true, if_false, qq, reduceCtorEq] at hb); (try (exfalso; first | (exact hb) | contradiction | omega)))) | ((with_reducible refine grp_mk ?_ (fun hb => ?_) (fun _ => ?_)) <;> (try simp only [if_true, if_false, qq, reduceCtorEq] at hb)) | ((with_reducible refine And.intro ?_ ?_); (first | decide | omega)) | (simp (disch := omega) only [go_sem, Heap.get_ne, wrap64_id, Nat.reduceAdd, Nat.reduceLeDiff, Nat.reduceSub, Nat.reduceMul, Nat.reduceEqDiff, Nat.reduceBEq, Int.reduceLT, Int.reduceLE, Int.reduceEq, Int.reduceNeg, Int.reduceToNat, Int.reduceAdd, Int.reduceSub]) | (with_reducible rfl) | ((with_reducible refine And.intro ?_ ?_) <;> (with_reducible rfl)))
  · match i with
    | 0 =>
      refine law9_1 hE hF h (by omega) rfl rfl ha hab fun H' n2 h' => ?_
      have h2 := h'.perm (List.Perm.swap _ _ _)
      refine .frz2 n2 (extBs a) q _ _ (h'.get (by simp)) (fun e => ?_) (h'.get (List.mem_cons_self)) (fun _ => .inl rfl) ?_
      · have := h'.to.1; simp [e] at this
      · have e : ((mixB (1 + n7 % 9) a b 0).set 0 [AV.int .i64 a.params, .int .i64 (a.regs + (1 + n7 % 9)), .sl 5 n2 0 (a.blocks.length + 1)]).map (fun cs => cs.map (frz1 n2 (extBs a))) = mixB (1 + n7 % 9) a b 1 := by
          simp [mixB, frz1, extC, VF.cells, bls, extBs]
          exact List.take_of_length_le (by simp)
        have h3 := h2.free.set (b' := mixB (1 + n7 % 9) a b 1)
        rw [e]
        exact at_eq (hK 1 _ ⟨by omega, h3⟩ (by omega)) rfl
    | 1 =>
      refine law9_1 hE hF h (by omega) rfl rfl hb9 hbb fun H' n2 h' => ?_
      have h2 := h'.perm (List.Perm.swap _ _ _)
      refine .frz2 n2 (extBs b) q _ _ (h'.get (by simp)) (fun e => ?_) (h'.get (List.mem_cons_self)) (fun _ => .inl rfl) ?_
      · have := h'.to.1; simp [e] at this
      · have e : ((mixB (1 + n7 % 9) a b 1).set 1 [AV.int .i64 b.params, .int .i64 (b.regs + (1 + n7 % 9)), .sl 5 n2 0 (b.blocks.length + 1)]).map (fun cs => cs.map (frz1 n2 (extBs b))) = mixB (1 + n7 % 9) a b 2 := by
          simp [mixB, frz1, extC, VF.cells, bls, extBs]
          exact List.take_of_length_le (by simp)
        have h3 := h2.free.set (b' := mixB (1 + n7 % 9) a b 2)
        rw [e]
        exact at_eq (hK 2 _ ⟨by omega, h3⟩ (by omega)) rfl
    | n + 2 => omega
  · have hi2 : i = 2 := by omega
    subst hi2
    refine .frz q (mixB (1 + n7 % 9) a b 2) (vl [.int .i64 f, .int .i64 fuel, vfs [a, b], ints lens, ints ag, .ro 3 (mixB (1 + n7 % 9) a b 2)]) (h.get (by simp)) (fun s => ?_) (.le (vl [.int .i64 f, .int .i64 fuel, vfs [a, b], ints lens, ints ag, vfs [extF (1 + n7 % 9) a, extF (1 + n7 % 9) b]]) G (fun s => ?_) (fun k => ?_) (.here ?_))
    · match s with
      | 0 => exact .inl rfl
      | 1 => exact .inl rfl
      | 2 => exact .inl rfl
      | 3 => exact .inl rfl
      | 4 => exact .inl rfl
      | 5 => exact .inr (by simp [vl, frz, frz0, frz1, mixB])
      | n + 6 => exact .inl rfl
    · match s with
      | 0 => exact VLe.refl _
      | 1 => exact VLe.refl _
      | 2 => exact VLe.refl _
      | 3 => exact VLe.refl _
      | 4 => exact VLe.refl _
      | 5 =>
        refine vle_ro rfl fun i x y hx hy => ?_
        match i with
        | 0 => cases hx; cases hy; exact ⟨rfl, extC_le _ _⟩
        | 1 => cases hx; cases hy; exact ⟨rfl, extC_le _ _⟩
        | n + 2 => cases hx
      | n + 6 => exact VLe.refl _
    · cases e : G k with
      | none => exact .inl rfl
      | some b =>
        have := h.kp k b e
        refine .inr ?_
        rw [Heap.get_ne _ _ _ _ (fun e2 => this.2 (by rw [e2]; simp))]
        exact this.1.symm
    · unfold m9_2 w9_2
      repeat' (first | ((with_reducible refine cond_mk (fun hb => ?_) (fun hb => ?_)) <;> ((try simp only [if_true, if_false, qq, reduceCtorEq] at hb); (try (exfalso; first | (exact hb) | contradiction | omega)))) | ((with_reducible refine grp_mk ?_ (fun hb => ?_) (fun _ => ?_)) <;> (try simp only [if_true, if_false, qq, reduceCtorEq] at hb)) | ((with_reducible refine call_pure (fuel_spec hE hF _) ?_); intro _) | ((with_reducible refine pc_pure (fuel_spec hE hF _) ?_)) | ((with_reducible refine dcall_pure0 (fuel_spec hE hF _) ?_)) | ((with_reducible refine call_pure (vrun_spec hE hF _ _ _ _ _ _ (by decide)) ?_); intro _) | ((with_reducible refine pc_pure (vrun_spec hE hF _ _ _ _ _ _ (by decide)) ?_)) | ((with_reducible refine dcall_pure0 (vrun_spec hE hF _ _ _ _ _ _ (by decide)) ?_)) | ((with_reducible refine call_pure (sameOc_spec hE hF _ _) ?_); intro _) | ((with_reducible refine pc_pure (sameOc_spec hE hF _ _) ?_)) | ((with_reducible refine dcall_pure0 (sameOc_spec hE hF _ _) ?_)) | ((with_reducible refine call_pure (examples_spec hE hF) ?_); intro _) | ((with_reducible refine pc_pure (examples_spec hE hF) ?_)) | ((with_reducible refine dcall_pure0 (examples_spec hE hF) ?_)) | ((with_reducible refine And.intro ?_ ?_); (first | decide | omega)) | ((with_reducible refine at_here (P := m9_1 _ _ _) ?_); unfold m9_1 w9_1) | ((with_reducible refine at_here (P := m9_2 _ _) ?_); unfold m9_2 w9_2) | (simp (disch := omega) only [go_sem, Heap.get_ne, wrap64_id, Nat.reduceAdd, Nat.reduceLeDiff, Nat.reduceSub, Nat.reduceMul, Nat.reduceEqDiff, Nat.reduceBEq, Int.reduceLT, Int.reduceLE, Int.reduceEq, Int.reduceNeg, Int.reduceToNat, Int.reduceAdd, Int.reduceSub, he]) | (with_reducible rfl) | ((with_reducible refine And.intro ?_ ?_) <;> (with_reducible rfl)))
      (with_reducible refine ret_q ?_)
      rfl

set_option maxHeartbeats 4000000 in
theorem law9_spec (hE : E.Good) (hF : E.Fits tab) (l m : List Int) (f a b w fuel n7 : Int) :
    PF E 9 [ints l, ints m, .int .i64 f, .int .i64 a, .int .i64 b, .int .i64 w, .int .i64 fuel, .int .i64 n7] (.bool true) := by
  intro G
  have q0 := Int.emod_nonneg f (show (2 : Int) ≠ 0 by decide)
  have q1 := Int.emod_lt_of_pos f (show (0 : Int) < 2 by decide)
  have q2 := Int.emod_nonneg n7 (show (9 : Int) ≠ 0 by decide)
  have q3 := Int.emod_lt_of_pos n7 (show (0 : Int) < 9 by decide)
  have hl2 : (vfs2 l m).length = 2 := rfl
  have hj : (f % 2).toNat < 2 := by omega
  have hp := vfs2_par l m hj
  have hal : (argsV a b w).length = 2 := rfl
  have e2 : vfs2 l m = [vfF (l.take 36) 2, vfF (m.take 18) 1] := rfl
  have z1 := (vfF_sz (l.take 36) 2 (by omega)).bl
  have z2 := (vfF_sz (m.take 18) 1 (by omega)).bl
  have z3 : (vfF (l.take 36) 2).regs = 11 := rfl
  have z4 : (vfF (m.take 18) 1).regs = 10 := rfl
  have he : ∀ ag n fu, runV ((vfs2 l m).map (extF (1 + n7 % 9))) [3, 2] (f % 2) ag fu n = runV (vfs2 l m) [3, 2] (f % 2) ag fu n := fun ag n fu => runV_ext (by omega) (vfs2_ok l m) fun c hc => by
    simp only [e2, List.mem_cons, List.not_mem_nil, or_false] at hc
    rcases hc with rfl | rfl <;> omega
  refine ent9 hE hF _ _ _ _ _ _ _ _ _ _ ?_; unfold w9
  repeat' (first | ((with_reducible refine cond_mk (fun hb => ?_) (fun hb => ?_)) <;> ((try simp only [if_true, if_false, qq, reduceCtorEq] at hb); (try (exfalso; first | (exact hb) | contradiction | omega)))) | ((with_reducible refine grp_mk ?_ (fun hb => ?_) (fun _ => ?_)) <;> (try simp only [if_true, if_false, qq, reduceCtorEq] at hb)) | ((with_reducible refine call_pure (vfuncs_spec hE hF l m) ?_); intro _) | ((with_reducible refine pc_pure (vfuncs_spec hE hF l m) ?_)) | ((with_reducible refine dcall_pure0 (vfuncs_spec hE hF l m) ?_)) | ((with_reducible refine call_pure (pick_spec hE hF _ _ (by decide) (by decide)) ?_); intro _) | ((with_reducible refine pc_pure (pick_spec hE hF _ _ (by decide) (by decide)) ?_)) | ((with_reducible refine dcall_pure0 (pick_spec hE hF _ _ (by decide) (by decide)) ?_)) | ((with_reducible refine call_pure (args_spec hE hF _ _ _) ?_); intro _) | ((with_reducible refine pc_pure (args_spec hE hF _ _ _) ?_)) | ((with_reducible refine dcall_pure0 (args_spec hE hF _ _ _) ?_)) | ((with_reducible refine And.intro ?_ ?_); (first | decide | omega)) | ((with_reducible refine at_here (P := m9_1 _ _ _) ?_); unfold m9_1 w9_1) | ((with_reducible refine at_here (P := m9_2 _ _) ?_); unfold m9_2 w9_2) | (simp (disch := omega) only [go_sem, Heap.get_ne, wrap64_id, Nat.reduceAdd, Nat.reduceLeDiff, Nat.reduceSub, Nat.reduceMul, Nat.reduceEqDiff, Nat.reduceBEq, Int.reduceLT, Int.reduceLE, Int.reduceEq, Int.reduceNeg, Int.reduceToNat, Int.reduceAdd, Int.reduceSub, hp, hl2]) | (with_reducible rfl) | ((with_reducible refine And.intro ?_ ?_) <;> (with_reducible rfl)))
  refine mk_app_nil (xs := (vfs2 l m).map VF.cells) (by simp [appLim, e2]) fun q hq => ?_
  have h0 : HoldsG G G [] := ⟨⟨by simp, by simp⟩, fun k b h => ⟨h, by simp⟩⟩
  have h1 := h0.new hq (b := (vfs2 l m).map VF.cells)
  rw [e2] at *
  exact law9_0 hE hF h1 (by omega) (by omega) (by omega) (by omega) (fun n fu => he _ n fu)
end Go.Abs
set_option linter.unusedSimpArgs false
set_option linter.unusedVariables false
set_option maxRecDepth 100000
namespace Go.Abs
variable {E : Env}

def FW (c : VF) : Prop := ∀ b ∈ c.blocks, ∀ v ∈ b.ins, I64 v.i.n


/-- What the loop over the two programs keeps: the second lies in a block until it is read. -/
def Two (G : Heap) (q : Nat) (B : Blk) (i : Nat) (H : Heap) : Prop := (i ≤ 1 ∧ HoldsG G H [(q, B)]) ∨ (i = 2 ∧ HoldsG G H [])
theorem Two.le {G : Heap} {q : Nat} {B : Blk} {i : Nat} {H : Heap} (h : Two G q B i H) : G.Le H := fun k => by
  cases e : G k with
  | none => exact .inl rfl
  | some b =>
    rcases h with ⟨-, h⟩ | ⟨-, h⟩
    · exact .inr (h.kp k b e).1.symm
    · exact .inr (h.kp k b e).1.symm

end Go.Abs
