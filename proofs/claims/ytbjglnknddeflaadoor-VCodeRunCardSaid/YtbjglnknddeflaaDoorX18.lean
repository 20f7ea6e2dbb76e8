/- A part of the proof: F7, F8, F9, F10, F11, F12, F13, P1, P2 -/
import Derived.Test.YtbjglnknddeflaaDoorX17
set_option linter.unusedSimpArgs false
set_option linter.unusedVariables false
set_option linter.unusedSimpArgs false
set_option linter.unusedVariables false
set_option maxRecDepth 100000
namespace Go.Abs
variable {E : Env}

/-- An activation. -/
structure Fr where
  f : VF
  regs : List Int
  args : List Int
  bi : Int
  pc : Int
  to : Int
/-- The interpreter's state: its activations are the top one and the rest, the next first. -/
structure St where
  cells : List (List Int)
  top : Fr
  rest : List Fr
  fuel : Int
  over : Bool
  kind : Int
  code : Int
  out : List Int
  val : Int

def St.stop (s : St) (k c v : Int) : St := { s with over := true, kind := k, code := c, val := v }
def St.setR (s : St) (rs : List Int) : St := { s with top := { s.top with regs := rs } }

def rnc (l : List VF) (cv ks : AV) (fu : Int) (o : Bool) (k c : Int) (ov : AV) (v : Int) : List AV := [vfs l, cv, ks, .int .i64 fu, .bool o, .int .i64 k, .int .i64 c, ov, .int .i64 v]
section
variable (l : List VF) (cv ks : AV) (fu : Int) (o : Bool) (k c : Int) (ov : AV) (v : Int)
@[go_sem] theorem e_rnc (i : Nat) : (rnc l cv ks fu o k c ov v)[i]? = ([vfs l, cv, ks, .int .i64 fu, .bool o, .int .i64 k, .int .i64 c, ov, .int .i64 v] : List AV)[i]? := id rfl
@[go_sem] theorem e_rncl : (rnc l cv ks fu o k c ov v).length = 9 := id rfl
@[go_sem] theorem set_rnc2 (x : AV) : (rnc l cv ks fu o k c ov v).set 2 (x) = rnc l cv x fu o k c ov v := id rfl
@[go_sem] theorem set_rnc1 (x : AV) : (rnc l cv ks fu o k c ov v).set 1 (x) = rnc l x ks fu o k c ov v := id rfl
@[go_sem] theorem set_rnc3 (x : Int) : (rnc l cv ks fu o k c ov v).set 3 (.int .i64 x) = rnc l cv ks x o k c ov v := id rfl
@[go_sem] theorem set_rnc4 (x : Bool) : (rnc l cv ks fu o k c ov v).set 4 (.bool x) = rnc l cv ks fu x k c ov v := id rfl
@[go_sem] theorem set_rnc5 (x : Int) : (rnc l cv ks fu o k c ov v).set 5 (.int .i64 x) = rnc l cv ks fu o x c ov v := id rfl
@[go_sem] theorem set_rnc6 (x : Int) : (rnc l cv ks fu o k c ov v).set 6 (.int .i64 x) = rnc l cv ks fu o k x ov v := id rfl
@[go_sem] theorem set_rnc7 (x : AV) : (rnc l cv ks fu o k c ov v).set 7 (x) = rnc l cv ks fu o k c x v := id rfl
@[go_sem] theorem set_rnc8 (x : Int) : (rnc l cv ks fu o k c ov v).set 8 (.int .i64 x) = rnc l cv ks fu o k c ov x := id rfl
end
@[go_sem] theorem drop_rnc5 (l : List VF) (cv ks : AV) (fu : Int) (o : Bool) (k c : Int) (ov : AV) (v : Int) : (rnc l cv ks fu o k c ov v).drop 5 = [.int .i64 k, .int .i64 c, ov, .int .i64 v] := id rfl

/-- The rows of arrays. -/
def rowsOf (rids : List Nat) (cs : List (List Int)) : Blk := List.zipWith (fun r x => [AV.sl 1 r 0 x.length]) rids cs
def cellsL (cid : Option Nat) (rids : List Nat) (cs : List (List Int)) : List (Nat × Blk) := match cid with
  | some c => (c, rowsOf rids cs) :: List.zipWith (fun r x => (r, x.map icell)) rids cs
  | none => []
def CellsV (cv : AV) (cid : Option Nat) (rids : List Nat) (cs : List (List Int)) : Prop := rids.length = cs.length ∧ ((cv = .nilsl ∧ cs = [] ∧ cid = none) ∨ ∃ c, cv = .sl 1 c 0 cs.length ∧ cid = some c)
def ArgV (av : AV) (xs : List Int) : Prop := av = ints xs ∨ OwnV av xs

/-- Where things lie. -/
structure Ids where
  G : Heap
  r : Nat
  l : List VF
  cv : AV
  cid : Option Nat
  rids : List Nat
structure RS (I : Ids) (c : Nat) (ks rv av ov : AV) (B : List (Nat × Blk)) (s : St) (H : Heap) : Prop where
  holds : HoldsG I.G H (((c, [frc s.top.f rv av s.top.bi s.top.pc s.top.to]) :: ownL rv s.top.regs) ++ ((I.r, [rnc I.l I.cv ks s.fuel s.over s.kind s.code ov s.val]) :: (ownL ov s.out ++ (cellsL I.cid I.rids s.cells ++ B))))
  hrv : OwnV rv s.top.regs
  hov : OwnV ov s.out
  hcv : CellsV I.cv I.cid I.rids s.cells
  hav : ArgV av s.top.args
  sub : ∀ p ∈ ownL av s.top.args, p ∈ B
  hov2 : s.out = [] → ov = .nilsl

theorem RS.hc {I : Ids} {c : Nat} {ks rv av ov : AV} {B : List (Nat × Blk)} {s : St} {H : Heap} (h : RS I c ks rv av ov B s H) : H c = some [frc s.top.f rv av s.top.bi s.top.pc s.top.to] := h.holds.get (by simp)
theorem RS.hr {I : Ids} {c : Nat} {ks rv av ov : AV} {B : List (Nat × Blk)} {s : St} {H : Heap} (h : RS I c ks rv av ov B s H) : H I.r = some [rnc I.l I.cv ks s.fuel s.over s.kind s.code ov s.val] := h.holds.get (by simp)
theorem RS.own {I : Ids} {c : Nat} {ks rv av ov : AV} {B : List (Nat × Blk)} {s : St} {H : Heap} (h : RS I c ks rv av ov B s H) : Own H rv s.top.regs ((ownL rv s.top.regs).map (·.1)) := Own.of h.hrv fun p hp => h.holds.to.2 p (by simp [hp])
theorem RS.cast {I : Ids} {c : Nat} {ks rv av ov : AV} {B : List (Nat × Blk)} {s s' : St} {H : Heap} (h : RS I c ks rv av ov B s H) (e : s = s') : RS I c ks rv av ov B s' H := e ▸ h
theorem stop_spec (hE : E.Good) (hF : E.Fits tab) {I : Ids} {c : Nat} {ks rv av ov : AV} {B : List (Nat × Blk)} {s : St} {H : Heap} (h : RS I c ks rv av ov B s H) (k cd v : Int) :
    ACall E 77 [.ptr I.r 0 0, .int .i64 k, .int .i64 cd, .int .i64 v] H (fun x H' => x = .tup [] ∧ RS I c ks rv av ov B (s.stop k cd v) H') := by
  have hr := h.hr
  refine ent77 hE hF _ _ _ _ _ _ ?_; unfold w77
  repeat' (first | ((with_reducible refine cond_mk (fun hb => ?_) (fun hb => ?_)) <;> ((try simp only [if_true, if_false, qq, reduceCtorEq] at hb); (try (exfalso; first | (exact hb) | contradiction | omega)))) | ((with_reducible refine And.intro ?_ ?_); (first | decide | omega)) | (simp (disch := omega) only [go_sem, Heap.get_ne, wrap64_id, Nat.reduceAdd, Nat.reduceLeDiff, Nat.reduceSub, Nat.reduceEqDiff, Int.reduceLT, Int.reduceLE, Int.reduceEq, hr, Nat.zero_add, List.set_cons_zero, Option.some.injEq]) | (with_reducible rfl) | ((with_reducible refine And.intro ?_ ?_) <;> (with_reducible rfl)))
  apply ret_here
  refine ⟨rfl, ?_, h.hrv, h.hov, h.hcv, h.hav, h.sub, h.hov2⟩
  exact (h.holds.comm.set).comm
theorem RS.get {I : Ids} {c : Nat} {ks rv av ov : AV} {B : List (Nat × Blk)} {s : St} {H : Heap} (hE : E.Good) (hF : E.Fits tab) (h : RS I c ks rv av ov B s H) {n : Int} (hn : 0 ≤ n) : ACall E 78 [.ptr c 0 0, .int .i64 n] H (Ret (.int .i64 (s.top.regs.getD n.toNat 0)) H) :=
  get_spec hE hF h.hc h.own hn
theorem RS.cact {I : Ids} {c : Nat} {ks rv av ov : AV} {B : List (Nat × Blk)} {s : St} {H : Heap} (hE : E.Good) (hF : E.Fits tab) (h : RS I c ks rv av ov B s H) {n : Int} (hn : 0 ≤ n) : CAct E 78 [.ptr c 0 0, .int .i64 n] (.int .i64 (s.top.regs.getD n.toNat 0)) ((c, [frc s.top.f rv av s.top.bi s.top.pc s.top.to]) :: ownL rv s.top.regs) [] :=
  fun H' hh => get_spec hE hF (hh (c, [frc s.top.f rv av s.top.bi s.top.pc s.top.to]) (by simp)) (Own.of h.hrv fun p hp => hh p (by simp [hp])) hn
theorem RS.dget {I : Ids} {c : Nat} {ks rv av ov : AV} {B : List (Nat × Blk)} {s : St} {H : Heap} {k : AV → List Nat → List Nat → Heap → Prop} (h : RS I c ks rv av ov B s H) (hE : E.Good) (hF : E.Fits tab) {n : Int} (hn : 0 ≤ n) (hk : k (.int .i64 (s.top.regs.getD n.toNat 0)) (((c, [frc s.top.f rv av s.top.bi s.top.pc s.top.to]) :: ownL rv s.top.regs).map (·.1)) [] H) : dcallW E (.fn 78 []) [.ptr c 0 0, .int .i64 n] H k :=
  dcall_act (caps := []) (h.cact hE hF hn) (fun p hp => h.holds.to.2 p (List.mem_append_left _ hp)) hk
theorem RS.set {I : Ids} {c : Nat} {ks rv av ov : AV} {B : List (Nat × Blk)} {s : St} {H : Heap} (h : RS I c ks rv av ov B s H) (hE : E.Good) (hF : E.Fits tab) {n x : Int} (hn : 0 ≤ n) (hn2 : n < 100000) :
    ACall E 105 [.ptr c 0 0, .int .i64 n, .int .i64 x] H (fun v H' => v = .tup [] ∧ ∃ rv', RS I c ks rv' av ov B (s.setR (lset s.top.regs n.toNat x)) H') := by
  refine ACall.mono (set_spec hE hF h.hc h.own ?_ hn hn2) ?_
  · have := h.holds.left.to.1
    simp only [List.map_cons, List.nodup_cons] at this
    exact this.1
  · rintro v H' ⟨rfl, rv', F', h1, h2, h3, h4, h5⟩
    obtain ⟨g1, rfl, g3⟩ := h2.to
    refine ⟨rfl, rv', ?_, g1, h.hov, h.hcv, h.hav, h.sub, h.hov2⟩
    refine h.holds.frame (X' := (c, [frc s.top.f rv' av s.top.bi s.top.pc s.top.to]) :: ownL rv' (lset s.top.regs n.toNat x)) ?_ h5 ?_
    · refine ⟨?_, fun p hp => ?_⟩
      · simp only [List.map_cons, List.nodup_cons]; exact ⟨h3, g3.1⟩
      · rcases List.mem_cons.1 hp with rfl | hp
        · exact h1
        · exact g3.2 p hp
    · intro k hk
      rcases List.mem_cons.1 hk with rfl | hk
      · exact .inl (by simp)
      · exact (h4 k hk).imp (fun h => List.mem_cons_of_mem _ h) (fun h => h)
end Go.Abs
set_option linter.unusedSimpArgs false
set_option linter.unusedVariables false
set_option maxRecDepth 100000
namespace Go.Abs
variable {E : Env}

theorem dargs {H : Heap} {new : Nat} {av : AV} {args : List Int} {n : Int} {k : AV → List Nat → List Nat → Heap → Prop} (hav : ArgV av args) (hown : ∀ p ∈ ownL av args, H p.1 = some p.2) (hn : 0 ≤ n ∧ n < args.length) (hk : ∀ ns, k (.int .i64 (args.getD n.toNat 0)) ns [] H) :
    pW (.iad 1 (.c av) (.c (.int .i64 n))) (fun t => dW (.ld (.c t)) new H k) := by
  rcases hav with rfl | ⟨rfl, rfl⟩ | ⟨id, rfl⟩
  · rw [iad_ints]; exact ⟨hn, by simp only [go_sem]; exact hk _⟩
  · simp at hn; omega
  · have h2 : H id = some (args.map icell) := hown (id, args.map icell) (by simp [ownL])
    rw [p_iad2]
    refine ⟨hn, ?_⟩
    simp (disch := omega) only [go_sem, h2, Nat.zero_add]
    exact ⟨by omega, hk _⟩

/-- What an instruction that only changes a register makes of the registers; none: a division by zero. -/
def exec1 (i : MI) (args regs : List Int) : Option (List Int) :=
  if i.op = 10 then some (lset regs i.a.toNat (regs.getD i.b.toNat 0))
  else if i.op = 11 then some (if regs.getD i.c.toNat 0 = 0 then lset regs i.a.toNat (regs.getD i.b.toNat 0) else regs)
  else if i.op = 12 then some (if regs.getD i.c.toNat 0 ≠ 0 then lset regs i.a.toNat (regs.getD i.b.toNat 0) else regs)
  else if i.op = 13 then some (lset regs i.a.toNat i.n)
  else if i.op = 38 then some (lset regs i.a.toNat (args.getD i.n.toNat 0))
  else if i.op = 15 ∨ i.op = 16 then some (lset regs i.a.toNat (wun i.op (regs.getD i.a.toNat 0)))
  else if i.op = 33 then some (lset regs i.a.toNat (W64 (regs.getD i.a.toNat 0 + i.n)))
  else if (i.op = 20 ∨ i.op = 21) ∧ regs.getD i.b.toNat 0 = 0 then none
  else some (lset regs i.a.toNat (wbin (i.op - 13) (regs.getD i.a.toNat 0) (regs.getD i.b.toNat 0)))
theorem setR_self (s : St) : s.setR s.top.regs = s := rfl
def St.comp (i : MI) (s : St) : St := match exec1 i s.top.args s.top.regs with
  | some rs => s.setR rs
  | none => s.stop 2 1 0
/-- Its operands are well. -/
structure Op1 (i : MI) (nargs : Nat) : Prop where
  a : 0 ≤ i.a ∧ i.a < 100000
  b : 0 ≤ i.b ∧ i.b < 100000
  c : 0 ≤ i.c ∧ i.c < 100000
  op : i.op ∈ [10, 11, 12, 13, 38, 15, 16, 33] ∨ (17 ≤ i.op ∧ i.op ≤ 32)
  arg : i.op = 38 → 0 ≤ i.n ∧ i.n < nargs

set_option maxHeartbeats 2000000 in
theorem compute_spec (hE : E.Good) (hF : E.Fits tab) {I : Ids} {c : Nat} {ks rv av ov : AV} {B : List (Nat × Blk)} {s : St} {H : Heap} (h : RS I c ks rv av ov B s H) {i : MI} (ho : Op1 i s.top.args.length) :
    ACall E 80 [.ptr I.r 0 0, .ptr c 0 0, .agg i.cells] H (fun x H' => x = .tup [] ∧ ∃ rv', RS I c ks rv' av ov B (s.comp i) H') := by
  obtain ⟨ha1, ha2⟩ := ho.a
  obtain ⟨hb1, hb2⟩ := ho.b
  obtain ⟨hc1, hc2⟩ := ho.c
  have hown : ∀ p ∈ ownL av s.top.args, H p.1 = some p.2 := fun p hp => h.holds.to.2 p (by simp [h.sub p hp])
  have hop := ho.op
  simp only [List.mem_cons, List.not_mem_nil, or_false] at hop
  have hcc := h.hc
  have hrr := h.hr
  refine ent80 hE hF _ _ _ _ _ ?_; unfold w80
  repeat' (first | ((with_reducible refine cond_mk (fun hb => ?_) (fun hb => ?_)) <;> ((try simp only [if_true, if_false, qq, reduceCtorEq] at hb); (try (exfalso; first | (exact hb) | contradiction | omega)))) | ((with_reducible refine grp_mk ?_ (fun hb => ?_) (fun _ => ?_)) <;> (try simp only [if_true, if_false, qq, reduceCtorEq] at hb)) | ((with_reducible refine h.dget hE hF (by omega) ?_)) | ((with_reducible refine call_any (h.get hE hF (by omega)) ?_); rintro _ _ hsm ⟨rfl, rfl⟩) | ((with_reducible refine call_any (h.set hE hF (by omega) (by omega)) ?_); rintro _ _ hsm ⟨rfl, rv', hR⟩) | ((with_reducible refine call_any (stop_spec hE hF h _ _ _) ?_); rintro _ _ hsm ⟨rfl, hR⟩) | ((with_reducible refine call_pure (un107_spec hE hF _ _ (by omega)) ?_); intro _) | ((with_reducible refine pc_pure (un107_spec hE hF _ _ (by omega)) ?_)) | ((with_reducible refine dcall_pure0 (un107_spec hE hF _ _ (by omega)) ?_)) | ((with_reducible refine call_pure (bin108_spec hE hF _ _ _ (by omega)) ?_); intro _) | ((with_reducible refine pc_pure (bin108_spec hE hF _ _ _ (by omega)) ?_)) | ((with_reducible refine dcall_pure0 (bin108_spec hE hF _ _ _ (by omega)) ?_)) | ((with_reducible refine dargs h.hav hown (ho.arg (by assumption)) (fun ns => ?_))) | (with_reducible refine fun (base : Nat) (hbase : Fresh _ base) => ?_) | ((with_reducible refine And.intro ?_ ?_); (first | decide | omega)) | ((with_reducible refine at_here ?_); unfold m80_0 w80_0) | (simp (disch := omega) only [go_sem, Heap.get_ne, wrap64_id, Nat.reduceAdd, Nat.reduceLeDiff, Nat.reduceSub, Nat.reduceEqDiff, Int.reduceLT, Int.reduceLE, Int.reduceEq, hcc, hrr]) | (with_reducible rfl) | ((with_reducible refine And.intro ?_ ?_) <;> (with_reducible rfl)))
  all_goals (apply ret_here)
  all_goals first
    | exact ⟨rfl, rv', hR.cast (by unfold St.comp exec1; grind)⟩
    | exact ⟨rfl, rv, hR.cast (by unfold St.comp exec1; grind)⟩
    | exact ⟨rfl, rv, h.cast ((setR_self s).symm.trans (by unfold St.comp exec1; grind))⟩
    | exact ⟨rfl, rv', hR.cast (by unfold St.comp exec1 W64; grind)⟩
end Go.Abs
set_option linter.unusedSimpArgs false
set_option linter.unusedVariables false
set_option maxRecDepth 100000
namespace Go.Abs
variable {E : Env}

theorem rows_get {rids : List Nat} {cs : List (List Int)} (hl : rids.length = cs.length) {i : Nat} (hi : i < cs.length) : (rowsOf rids cs)[i]? = some [AV.sl 1 (rids.getD i 0) 0 (cs.getD i []).length] := by
  unfold rowsOf
  rw [List.getElem?_zipWith, List.getElem?_eq_getElem hi, List.getElem?_eq_getElem (by omega)]
  simp [List.getD, List.getElem?_eq_getElem hi, List.getElem?_eq_getElem (show i < rids.length by omega)]
theorem zip_get {rids : List Nat} {cs : List (List Int)} (hl : rids.length = cs.length) {i : Nat} (hi : i < cs.length) : (List.zipWith (fun r (x : List Int) => (r, x.map icell)) rids cs)[i]? = some (rids.getD i 0, (cs.getD i []).map icell) := by
  rw [List.getElem?_zipWith, List.getElem?_eq_getElem hi, List.getElem?_eq_getElem (by omega)]
  simp [List.getD, List.getElem?_eq_getElem hi, List.getElem?_eq_getElem (show i < rids.length by omega)]

theorem Holds.put {H : Heap} {m : List (Nat × Blk)} (h : Holds H m) {i k : Nat} {b b' : Blk} (hi : m[i]? = some (k, b)) : Holds (H.set k (some b')) (m.set i (k, b')) := by
  have hil := (List.getElem?_eq_some_iff.1 hi).1
  have e : (m.set i (k, b')).map (·.1) = m.map (·.1) := by
    rw [List.map_set]
    apply List.ext_getElem? ; intro j
    rw [List.getElem?_set]
    split
    · rename_i hj; subst hj; simp [hi]; omega
    · rfl
  refine ⟨by rw [e]; exact h.1, fun p hp => ?_⟩
  obtain ⟨j, hj⟩ := List.mem_iff_getElem?.1 hp
  rw [List.getElem?_set] at hj
  split at hj
  · rename_i hj'
    subst hj'
    cases hj; rw [Heap.set_same]
  · rename_i hne
    have hk : p.1 ≠ k := by
      intro ek
      have hn := h.1
      have hj1 : (m.map (·.1))[j]? = some k := by rw [List.getElem?_map, hj]; simp [ek]
      have hi1 : (m.map (·.1))[i]? = some k := by rw [List.getElem?_map, hi]; rfl
      exact hne ((List.getElem?_inj (by simpa using hil) hn).1 (hi1.trans hj1.symm))
    rw [Heap.get_ne _ _ _ _ hk]
    exact h.2 p (List.mem_iff_getElem?.2 ⟨j, hj⟩)

theorem HoldsG.put {G H : Heap} {m : List (Nat × Blk)} (h : HoldsG G H m) {i k : Nat} {b b' : Blk} (hi : m[i]? = some (k, b)) : HoldsG G (H.set k (some b')) (m.set i (k, b')) := by
  have e : (m.set i (k, b')).map (·.1) = m.map (·.1) := by
    rw [List.map_set]
    apply List.ext_getElem?; intro j
    rw [List.getElem?_set]
    split
    · rename_i hj; subst hj; simp [hi]; have := (List.getElem?_eq_some_iff.1 hi).1; omega
    · rfl
  refine ⟨h.to.put hi, fun j c hc => ?_⟩
  obtain ⟨h1, h2⟩ := h.kp j c hc
  have hk : k ∈ m.map (·.1) := List.mem_map.2 ⟨(k, b), List.mem_iff_getElem?.2 ⟨i, hi⟩, rfl⟩
  refine ⟨?_, by rw [e]; exact h2⟩
  rw [Heap.get_ne _ _ _ _ (fun ej => by subst ej; exact h2 hk)]
  exact h1

section
variable {I : Ids} {c : Nat} {ks rv av ov : AV} {B : List (Nat × Blk)} {s : St} {H : Heap}

theorem RS.cell (h : RS I c ks rv av ov B s H) {n : Nat} (hn : n < s.cells.length) : H (I.rids.getD n 0) = some ((s.cells.getD n []).map icell) := by
  obtain ⟨h1, ⟨_, h2, _⟩ | ⟨cid, h2, h3⟩⟩ := h.hcv
  · rw [h2] at hn; simp at hn
  · apply h.holds.get
    refine List.mem_append_right _ (List.mem_cons_of_mem _ (List.mem_append_right _ (List.mem_append_left _ ?_)))
    rw [h3]
    exact List.mem_cons_of_mem _ (List.mem_iff_getElem?.2 ⟨n, zip_get h1 hn⟩)

theorem RS.dcell (h : RS I c ks rv av ov B s H) (hE : E.Good) (hF : E.Fits tab) {n at' : Int} {v : AV} {k : AV → List Nat → List Nat → Heap → Prop} (hn : 0 ≤ n ∧ n < s.cells.length) 
    (hv : v = if at' < 0 ∨ ((s.cells.getD n.toNat []).length : Int) ≤ at' then .nilp else .ptr (I.rids.getD n.toNat 0) at'.toNat 0) (hk : ∀ ns, k v ns [] H) : dcallW E (.fn 106 []) [.ptr I.r 0 0, .int .i64 n, .int .i64 at'] H k := by
  obtain ⟨h1, ⟨_, h2, _⟩ | ⟨cid, h2, h3⟩⟩ := h.hcv
  · rw [h2] at hn; simp at hn; omega
  have hr := h.hr
  have hm : (cid, rowsOf I.rids s.cells) ∈ cellsL I.cid I.rids s.cells := by rw [h3]; simp [cellsL]
  have hcid : H cid = some (rowsOf I.rids s.cells) := h.holds.get (List.mem_append_right _ (List.mem_cons_of_mem _ (List.mem_append_right _ (List.mem_append_left _ hm))))
  refine dcall_act (caps := []) (need := [(I.r, [rnc I.l I.cv ks s.fuel s.over s.kind s.code ov s.val]), (cid, rowsOf I.rids s.cells)]) (v := v) (fun H' hh => ?_) (by simp [hr, hcid]) (hk _)
  have hr' : H' I.r = some [rnc I.l I.cv ks s.fuel s.over s.kind s.code ov s.val] := hh (I.r, [rnc I.l I.cv ks s.fuel s.over s.kind s.code ov s.val]) (by simp)
  have hc' : H' cid = some (rowsOf I.rids s.cells) := hh (cid, rowsOf I.rids s.cells) (by simp)
  have hg := rows_get h1 (i := n.toNat) (by omega)
  rw [hv, h2] at *
  rw [List.append_nil]
  refine ent106 hE hF _ _ _ _ _ ?_; unfold w106
  repeat' (first | ((with_reducible refine cond_mk (fun hb => ?_) (fun hb => ?_)) <;> ((try simp only [if_true, if_false, qq, reduceCtorEq] at hb); (try (exfalso; first | (exact hb) | contradiction | omega)))) | ((with_reducible refine grp_mk ?_ (fun hb => ?_) (fun _ => ?_)) <;> (try simp only [if_true, if_false, qq, reduceCtorEq] at hb)) | ((with_reducible refine And.intro ?_ ?_); (first | decide | omega)) | (simp (disch := omega) only [go_sem, Heap.get_ne, wrap64_id, Nat.reduceAdd, Nat.reduceLeDiff, Nat.reduceSub, Nat.reduceEqDiff, Int.reduceLT, Int.reduceLE, Int.reduceEq, hr', hc', hg, h2, Nat.zero_add]) | (with_reducible rfl) | ((with_reducible refine And.intro ?_ ?_) <;> (with_reducible rfl)))
  all_goals (apply ret_here)
  · exact ⟨by rw [if_pos (by omega)], rfl⟩
  · exact ⟨by rw [if_neg (by omega)], rfl⟩

theorem rows_set {rids : List Nat} {cs : List (List Int)} {n : Nat} {y : List Int} (hl : y.length = (cs.getD n []).length) : rowsOf rids (cs.set n y) = rowsOf rids cs := by
  unfold rowsOf
  apply List.ext_getElem?; intro j
  rw [List.getElem?_zipWith, List.getElem?_zipWith, List.getElem?_set]
  by_cases e : n = j
  · subst e
    rw [if_pos rfl]
    by_cases hn : n < cs.length
    · rw [if_pos hn, List.getElem?_eq_getElem hn]
      simp only [List.getD, List.getElem?_eq_getElem hn, Option.getD_some] at hl
      cases rids[n]? <;> simp [hl]
    · rw [if_neg hn, List.getElem?_eq_none (l := cs) (by omega)]
  · rw [if_neg e]
theorem zip_set {rids : List Nat} {cs : List (List Int)} {n : Nat} {y : List Int} : List.zipWith (fun r (x : List Int) => (r, x.map icell)) rids (cs.set n y) = (List.zipWith (fun r (x : List Int) => (r, x.map icell)) rids cs).set n (rids.getD n 0, y.map icell) := by
  apply List.ext_getElem?; intro j
  rw [List.getElem?_zipWith, List.getElem?_set, List.getElem?_set, List.getElem?_zipWith]
  by_cases e : n = j
  · subst e
    rw [if_pos rfl, if_pos rfl]
    by_cases hn : n < cs.length
    · rw [if_pos hn]
      by_cases hr : n < rids.length
      · rw [if_pos (by simp; omega)]; simp [List.getD, List.getElem?_eq_getElem hr]
      · rw [if_neg (by simp; omega), List.getElem?_eq_none (by omega)]
    · rw [if_neg hn, if_neg (by simp; omega)]
      cases rids[n]? <;> rfl
  · rw [if_neg e, if_neg e]

/-- A place of an array written. -/
theorem RS.store (h : RS I c ks rv av ov B s H) {n : Nat} (hn : n < s.cells.length) {ys : List Int} (hy : ys.length = (s.cells.getD n []).length) :
    RS I c ks rv av ov B { s with cells := s.cells.set n ys } (H.set (I.rids.getD n 0) (some (ys.map icell))) := by
  refine ⟨?_, h.hrv, h.hov, ?_, h.hav, h.sub, h.hov2⟩
  · have hh := h.holds
    obtain ⟨h1, ⟨_, h2, _⟩ | ⟨cid, h2, h3⟩⟩ := h.hcv
    · rw [h2] at hn; simp at hn
    · simp only [h3, cellsL] at hh ⊢
      rw [rows_set hy, zip_set]
      generalize hX : ((c, [frc s.top.f rv av s.top.bi s.top.pc s.top.to]) :: ownL rv s.top.regs) = X at hh ⊢
      have hz := zip_get h1 hn
      generalize hZ : (List.zipWith (fun r (x : List Int) => (r, x.map icell)) I.rids s.cells) = Z at hh hz ⊢
      have hnz : n < Z.length := (List.getElem?_eq_some_iff.1 hz).1
      have e1 : ∀ Z' : List (Nat × Blk), X ++ ((I.r, [rnc I.l I.cv ks s.fuel s.over s.kind s.code ov s.val]) :: (ownL ov s.out ++ ((cid, rowsOf I.rids s.cells) :: Z' ++ B))) = (X ++ ((I.r, [rnc I.l I.cv ks s.fuel s.over s.kind s.code ov s.val]) :: (ownL ov s.out ++ [(cid, rowsOf I.rids s.cells)]))) ++ (Z' ++ B) := fun Z' => by simp
      rw [e1] at hh ⊢
      generalize hA : (X ++ ((I.r, [rnc I.l I.cv ks s.fuel s.over s.kind s.code ov s.val]) :: (ownL ov s.out ++ [(cid, rowsOf I.rids s.cells)]))) = A at hh ⊢
      have := hh.put (i := A.length + n) (b' := ys.map icell) (by rw [List.getElem?_append, if_neg (by omega), Nat.add_sub_cancel_left, List.getElem?_append, if_pos hnz]; exact hz)
      rw [List.set_append, if_neg (by omega), Nat.add_sub_cancel_left, List.set_append, if_pos hnz] at this
      exact this
  · obtain ⟨h1, h2⟩ := h.hcv
    refine ⟨by simpa using h1, ?_⟩
    rcases h2 with ⟨h2, h3, h4⟩ | ⟨cid, h2, h3⟩
    · rw [h3] at hn; simp at hn
    · exact .inr ⟨cid, by simpa using h2, h3⟩

/-- A load or a store. -/
def St.acc (i : MI) (s : St) : St :=
  let at' := s.top.regs.getD i.b.toNat 0
  let xs := s.cells.getD i.n.toNat []
  if at' < 0 ∨ (xs.length : Int) ≤ at' then s.stop 2 2 0
  else if i.op = 34 then s.setR (lset s.top.regs i.a.toNat (xs.getD at'.toNat 0))
  else { s with cells := s.cells.set i.n.toNat (xs.set at'.toNat (s.top.regs.getD i.a.toNat 0)) }
structure Op2 (i : MI) (narr : Nat) : Prop where
  a : 0 ≤ i.a ∧ i.a < 100000
  b : 0 ≤ i.b ∧ i.b < 100000
  n : 0 ≤ i.n ∧ i.n < narr

set_option maxHeartbeats 2000000 in
theorem access_spec (hE : E.Good) (hF : E.Fits tab) (h : RS I c ks rv av ov B s H) {i : MI} (ho : Op2 i s.cells.length) :
    ACall E 79 [.ptr I.r 0 0, .ptr c 0 0, .agg i.cells] H (fun x H' => x = .tup [] ∧ ∃ rv', RS I c ks rv' av ov B (s.acc i) H') := by
  obtain ⟨ha1, ha2⟩ := ho.a
  obtain ⟨hb1, hb2⟩ := ho.b
  obtain ⟨hn1, hn2⟩ := ho.n
  have hcc := h.hc
  have hrr := h.hr
  have hcell := h.cell (n := i.n.toNat) (by omega)
  by_cases hin : s.top.regs.getD i.b.toNat 0 < 0 ∨ ((s.cells.getD i.n.toNat []).length : Int) ≤ s.top.regs.getD i.b.toNat 0
  · refine ent79 hE hF _ _ _ _ _ ?_; unfold w79
    repeat' (first | ((with_reducible refine cond_mk (fun hb => ?_) (fun hb => ?_)) <;> ((try simp only [if_true, if_false, qq, reduceCtorEq] at hb); (try (exfalso; first | (exact hb) | contradiction | omega)))) | ((with_reducible refine h.dget hE hF (by omega) ?_)) | ((with_reducible refine h.dcell hE hF ho.n (if_pos hin).symm (fun _ => ?_))) | ((with_reducible refine call_any (stop_spec hE hF h _ _ _) ?_); rintro _ _ hsm ⟨rfl, hR⟩) | (with_reducible refine fun (base : Nat) (hbase : Fresh _ base) => ?_) | ((with_reducible refine And.intro ?_ ?_); (first | decide | omega)) | (simp (disch := omega) only [go_sem, Heap.get_ne, wrap64_id, Nat.reduceAdd, Nat.reduceLeDiff, Nat.reduceSub, Nat.reduceEqDiff, Int.reduceLT, Int.reduceLE, Int.reduceEq, hcc, hrr]) | (with_reducible rfl) | ((with_reducible refine And.intro ?_ ?_) <;> (with_reducible rfl)))
    apply ret_here
    exact ⟨rfl, rv, hR.cast (by unfold St.acc; rw [if_pos hin])⟩
  · refine ent79 hE hF _ _ _ _ _ ?_; unfold w79
    repeat' (first | ((with_reducible refine cond_mk (fun hb => ?_) (fun hb => ?_)) <;> ((try simp only [if_true, if_false, qq, reduceCtorEq] at hb); (try (exfalso; first | (exact hb) | contradiction | omega)))) | ((with_reducible refine h.dget hE hF (by omega) ?_)) | ((with_reducible refine h.dcell hE hF ho.n (if_neg hin).symm (fun _ => ?_))) | ((with_reducible refine call_any (h.get hE hF (by omega)) ?_); rintro _ _ hsm ⟨rfl, rfl⟩) | ((with_reducible refine call_any (h.set hE hF (by omega) (by omega)) ?_); rintro _ _ hsm ⟨rfl, rv', hR⟩) | (with_reducible refine fun (base : Nat) (hbase : Fresh _ base) => ?_) | ((with_reducible refine And.intro ?_ ?_); (first | decide | omega)) | (simp (disch := omega) only [go_sem, Heap.get_ne, wrap64_id, Nat.reduceAdd, Nat.reduceLeDiff, Nat.reduceSub, Nat.reduceEqDiff, Int.reduceLT, Int.reduceLE, Int.reduceEq, hcc, hrr, hcell]) | (with_reducible rfl) | ((with_reducible refine And.intro ?_ ?_) <;> (with_reducible rfl)))
    · apply ret_here
      exact ⟨rfl, rv', hR.cast (by unfold St.acc; rw [if_neg hin, if_pos (by assumption)])⟩
    · apply ret_here
      refine ⟨rfl, rv, ?_⟩
      rw [icell_set]
      exact (h.store (by omega) (List.length_set ..)).cast (by unfold St.acc; rw [if_neg hin, if_neg (by assumption)])
end
end Go.Abs
set_option linter.unusedSimpArgs false
set_option linter.unusedVariables false
set_option maxRecDepth 100000
namespace Go.Abs
variable {E : Env}

theorem frz_ptr2 {H : Heap} {id : Nat} {cs : List AV} {K : AV → Heap → Prop} (h : K (.rp cs) (H.set id none)) : frzW (.ptr id 0 0) (H.set id (some [cs])) K :=
  frz_ptr (Heap.set_same _ _ _) (by rw [Heap.set_set]; exact h)
section
variable {I : Ids} {c : Nat} {ks rv av ov : AV} {B : List (Nat × Blk)} {s : St} {H : Heap}
theorem RS.more (h : RS I c ks rv av ov B s H) {k : Nat} {b : Option Blk} (hk : H k = none) : RS I c ks rv av ov B s (H.set k b) :=
  ⟨h.holds.more hk, h.hrv, h.hov, h.hcv, h.hav, h.sub, h.hov2⟩
theorem RS.wtop (h : RS I c ks rv av ov B s H) (bi pc : Int) : RS I c ks rv av ov B { s with top := { s.top with bi := bi, pc := pc } } (H.set c (some [frc s.top.f rv av bi pc s.top.to])) :=
  ⟨h.holds.set, h.hrv, h.hov, h.hcv, h.hav, h.sub, h.hov2⟩
theorem RS.wfuel (h : RS I c ks rv av ov B s H) (fu : Int) : RS I c ks rv av ov B { s with fuel := fu } (H.set I.r (some [rnc I.l I.cv ks fu s.over s.kind s.code ov s.val])) :=
  ⟨(h.holds.comm.set).comm, h.hrv, h.hov, h.hcv, h.hav, h.sub, h.hov2⟩
theorem RS.wks (h : RS I c ks rv av ov B s H) (ks' : AV) : RS I c ks' rv av ov B s (H.set I.r (some [rnc I.l I.cv ks' s.fuel s.over s.kind s.code ov s.val])) :=
  ⟨(h.holds.comm.set).comm, h.hrv, h.hov, h.hcv, h.hav, h.sub, h.hov2⟩
end

/-- Where an activation lies. -/
structure FrI where
  id : Nat
  rv : AV
  av : AV
def frT (p : FrI × Fr) : List (Nat × Blk) := (p.1.id, [frc p.2.f p.1.rv p.1.av p.2.bi p.2.pc p.2.to]) :: ownL p.1.rv p.2.regs
def stkL : List (FrI × Fr) → List (Nat × Blk)
  | [] => []
  | p :: ps => frT p ++ (ownL p.1.av p.2.args ++ stkL ps)
def callRows (rs : List (FrI × Fr)) (c : Nat) (junk : Blk) : Blk := rs.reverse.map (fun p => [AV.ptr p.1.id 0 0]) ++ [AV.ptr c 0 0] :: junk
/-- The whole state, the top activation at c. -/
structure RT (I : Ids) (c cl : Nat) (junk : Blk) (rv av ov : AV) (rs : List (FrI × Fr)) (s : St) (H : Heap) : Prop where
  rest : rs.map (·.2) = s.rest
  ok : ∀ p ∈ rs, OwnV p.1.rv p.2.regs ∧ ArgV p.1.av p.2.args
  rs : RS I c (.sl 1 cl 0 (rs.length + 1)) rv av ov (ownL av s.top.args ++ ((cl, callRows rs c junk) :: stkL rs)) s H
def RP (I : Ids) (s : St) (H : Heap) : Prop := ∃ c cl junk rv av ov rs, RT I c cl junk rv av ov rs s H

theorem callRows_top (rs : List (FrI × Fr)) (c : Nat) (junk : Blk) : (callRows rs c junk)[rs.length]? = some [.ptr c 0 0] := by
  unfold callRows
  rw [List.getElem?_append, if_neg (by simp)]; simp
theorem callRows_cons (p : FrI × Fr) (rs : List (FrI × Fr)) (c : Nat) (junk : Blk) : callRows (p :: rs) c junk = callRows rs p.1.id ([AV.ptr c 0 0] :: junk) := by
  unfold callRows; simp

theorem perm_of_count {l1 l2 : List (Nat × Blk)} (h : ∀ (i : BEq (Nat × Blk)) (_ : LawfulBEq (Nat × Blk)) a, l1.count a = l2.count a) : l1.Perm l2 := by
  classical
  exact List.perm_iff_count.2 fun a => h _ inferInstance a

theorem RT.more {I : Ids} {c cl : Nat} {junk : Blk} {rv av ov : AV} {rs : List (FrI × Fr)} {s : St} {H : Heap} (h : RT I c cl junk rv av ov rs s H) {k : Nat} {b : Option Blk} (hk : H k = none) : RT I c cl junk rv av ov rs s (H.set k b) :=
  ⟨h.rest, h.ok, h.rs.more hk⟩
theorem RT.frz {I : Ids} {c cl : Nat} {junk : Blk} {rv av ov : AV} {rs : List (FrI × Fr)} {s : St} {H : Heap} (h : RT I c cl junk rv av ov rs s H) {k : Nat} {cs : List AV} {K : AV → Heap → Prop} (hk : H k = none) (hK : ∀ H', RT I c cl junk rv av ov rs s H' → K (.rp cs) H') : frzW (.ptr k 0 0) (H.set k (some [cs])) K :=
  frz_ptr2 (hK _ (h.more hk))
theorem RT.wtop {I : Ids} {c cl : Nat} {junk : Blk} {rv av ov : AV} {rs : List (FrI × Fr)} {s : St} {H : Heap} (h : RT I c cl junk rv av ov rs s H) (bi pc : Int) : RT I c cl junk rv av ov rs { s with top := { s.top with bi := bi, pc := pc } } (H.set c (some [frc s.top.f rv av bi pc s.top.to])) :=
  ⟨h.rest, h.ok, h.rs.wtop bi pc⟩
theorem RT.calls {I : Ids} {c cl : Nat} {junk : Blk} {rv av ov : AV} {rs : List (FrI × Fr)} {s : St} {H : Heap} (h : RT I c cl junk rv av ov rs s H) : H cl = some (callRows rs c junk) :=
  h.rs.holds.get (by simp)
/-- Back, when nothing but the top activation and the run's own cells changed. -/
theorem RT.back {I : Ids} {c cl : Nat} {junk : Blk} {rv av ov rv' ov' : AV} {rs : List (FrI × Fr)} {s s' : St} {H H' : Heap} (h : RT I c cl junk rv av ov rs s H) (hr : s'.rest = s.rest)
    (h2 : RS I c (.sl 1 cl 0 (rs.length + 1)) rv' av ov' (ownL av s.top.args ++ ((cl, callRows rs c junk) :: stkL rs)) s' H') (ha : s'.top.args = s.top.args) : RP I s' H' :=
  ⟨c, cl, junk, rv', av, ov', rs, h.rest.trans hr.symm, h.ok, ha ▸ h2⟩
theorem RT.pop {I : Ids} {c cl : Nat} {junk : Blk} {rv av ov : AV} {p : FrI × Fr} {rs : List (FrI × Fr)} {s : St} {H : Heap} (h : RT I c cl junk rv av ov (p :: rs) s H) :
    RT I p.1.id cl ([AV.ptr c 0 0] :: junk) p.1.rv p.1.av ov rs { s with top := p.2, rest := rs.map (·.2) } (H.set I.r (some [rnc I.l I.cv (.sl 1 cl 0 (rs.length + 1)) s.fuel s.over s.kind s.code ov s.val])) := by
  refine ⟨rfl, fun q hq => h.ok q (List.mem_cons_of_mem _ hq), ?_⟩
  have h1 := h.rs.wks (.sl 1 cl 0 (rs.length + 1))
  have h2 := h1.holds
  refine ⟨?_, (h.ok p (by simp)).1, h1.hov, h1.hcv, (h.ok p (by simp)).2, fun q hq => List.mem_append_left _ hq, h1.hov2⟩
  refine HoldsG.right (a := ((c, [frc s.top.f rv av s.top.bi s.top.pc s.top.to]) :: ownL rv s.top.regs) ++ ownL av s.top.args) (h2.perm ?_)
  refine perm_of_count fun i _ a => ?_
  simp only [stkL, frT, callRows_cons, List.count_append, List.count_cons]
  omega

/-- The end of a block. -/
def St.term (s : St) : St :=
  let b := s.top.f.blocks.getD s.top.bi.toNat default
  if b.en = 1 then { s with top := { s.top with bi := b.tgt, pc := 0 } }
  else if b.en = 2 then { s with top := { s.top with bi := if s.top.regs.getD b.reg.toNat 0 ≠ 0 then b.tgt else b.els, pc := 0 } }
  else if b.en = 3 then match s.rest with
    | [] => s.stop 1 0 (s.top.regs.getD b.reg.toNat 0)
    | p :: ps => { s with top := { p with regs := lset p.regs s.top.to.toNat (s.top.regs.getD b.reg.toNat 0) }, rest := ps }
  else s.stop 2 b.tgt 0
structure OpT (s : St) : Prop where
  bi : 0 ≤ s.top.bi ∧ s.top.bi < s.top.f.blocks.length
  reg : 0 ≤ (s.top.f.blocks.getD s.top.bi.toNat default).reg
  to : 0 ≤ s.top.to ∧ s.top.to < 100000
  few : s.rest.length < 1000000

set_option maxHeartbeats 2000000 in
theorem term_spec (hE : E.Good) (hF : E.Fits tab) {I : Ids} {c cl : Nat} {junk : Blk} {rv av ov : AV} {rs : List (FrI × Fr)} {s : St} {H : Heap} (h : RT I c cl junk rv av ov rs s H) (ho : OpT s) :
    ACall E 76 [.ptr I.r 0 0, .ptr c 0 0] H (fun x H' => x = .tup [] ∧ RP I s.term H') := by
  obtain ⟨hb1, hb2⟩ := ho.bi
  obtain ⟨ht1, ht2⟩ := ho.to
  have hreg := ho.reg
  have hcc := h.rs.hc
  have hrr := h.rs.hr
  refine ent76 hE hF _ _ _ _ ?_; unfold w76
  repeat' (first | ((with_reducible refine cond_mk (fun hb => ?_) (fun hb => ?_)) <;> ((try simp only [if_true, if_false, qq, reduceCtorEq] at hb); (try (exfalso; first | (exact hb) | contradiction | omega)))) | (with_reducible refine fun (base : Nat) (hbase : Fresh _ base) => ?_) | ((with_reducible refine mk_alloc (fun id hid => ?_)); have hid0 := hid.none; (try have hlt := hid.lt (Heap.set_same _ _ _))) | ((with_reducible refine And.intro ?_ ?_); (first | decide | omega)) | ((with_reducible refine at_here ?_); unfold m76_0 w76_0) | (simp (disch := omega) only [go_sem, Heap.get_ne, wrap64_id, Nat.reduceAdd, Nat.reduceLeDiff, Nat.reduceSub, Nat.reduceEqDiff, Int.reduceLT, Int.reduceLE, Int.reduceEq, hcc, hrr]) | (with_reducible rfl) | ((with_reducible refine And.intro ?_ ?_) <;> (with_reducible rfl)))
  with_reducible refine h.frz hid0 (fun H h => ?_)
  clear hcc hrr
  have hcc := h.rs.hc
  have hrr := h.rs.hr
  have hfew : rs.length < 1000000 := by have := ho.few; rw [← h.rest] at this; simpa using this
  repeat' (first | ((with_reducible refine cond_mk (fun hb => ?_) (fun hb => ?_)) <;> ((try simp only [if_true, if_false, qq, reduceCtorEq] at hb); (try (exfalso; first | (exact hb) | contradiction | omega)))) | ((with_reducible refine call_any (h.rs.get hE hF hreg) ?_); rintro _ _ hsm ⟨rfl, rfl⟩) | ((with_reducible refine call_any (stop_spec hE hF h.rs _ _ _) ?_); rintro _ _ hsm ⟨rfl, hR⟩) | (with_reducible refine fun (base : Nat) (hbase : Fresh _ base) => ?_) | ((with_reducible refine mk_alloc (fun id hid => ?_)); have hid0 := hid.none; (try have hlt := hid.lt (Heap.set_same _ _ _))) | ((with_reducible refine And.intro ?_ ?_); (first | decide | omega)) | (simp (disch := omega) only [go_sem, Heap.get_ne, wrap64_id, Nat.reduceAdd, Nat.reduceLeDiff, Nat.reduceSub, Nat.reduceEqDiff, Int.reduceLT, Int.reduceLE, Int.reduceEq, hcc, hrr]) | (with_reducible rfl) | ((with_reducible refine And.intro ?_ ?_) <;> (with_reducible rfl)))
  · apply ret_here
    exact ⟨rfl, h.back (by unfold St.term; grind) ((h.rs.wtop _ _).cast (by unfold St.term; grind)) (by unfold St.term; grind)⟩
  · apply ret_here
    exact ⟨rfl, h.back (by unfold St.term; grind) ((h.rs.wtop _ _).cast (by unfold St.term; grind)) (by unfold St.term; grind)⟩
  · apply ret_here
    exact ⟨rfl, h.back (by unfold St.term; grind) ((h.rs.wtop _ _).cast (by unfold St.term; grind)) (by unfold St.term; grind)⟩
  · apply ret_here
    have hrs : s.rest = [] := by
      rw [← h.rest]
      cases rs with
      | nil => rfl
      | cons p q => simp at hb; omega
    have e : s.stop 1 0 (s.top.regs.getD (s.top.f.blocks.getD s.top.bi.toNat default).reg.toNat 0) = s.term := by unfold St.term; grind
    rw [e] at hR
    exact ⟨rfl, h.back (by rw [← e]; rfl) hR (by rw [← e]; rfl)⟩
  · cases rs with
    | nil => exfalso; exact hb rfl
    | cons p rs =>
      have hl : rs.length < 1000000 := by simp at hfew; omega
      have e1 : (((rs.length + 1 + 1 : Nat) : Int) - 1).toNat = rs.length + 1 := by omega
      have e2 : (((rs.length + 1 : Nat) : Int) - 1).toNat = rs.length := by omega
      have h2 := h.pop
      have hcc2 := h2.rs.hc
      have hrr2 := h2.rs.hr
      have hk2 := h2.calls
      have hk3 := callRows_top rs p.1.id ([AV.ptr c 0 0] :: junk)
      have hne : c ≠ I.r := h.rs.holds.apart (p := (c, [frc s.top.f rv av s.top.bi s.top.pc s.top.to])) (q := (I.r, [rnc I.l I.cv (.sl 1 cl 0 ((p :: rs).length + 1)) s.fuel s.over s.kind s.code ov s.val])) (by simp) (by simp)
      have hold := fun b => (Heap.get_ne _ I.r c b hne).trans hcc
      refine at_here ?_; unfold m76_0 w76_0
      repeat' (first | ((with_reducible refine cond_mk (fun hb => ?_) (fun hb => ?_)) <;> ((try simp only [if_true, if_false, qq, reduceCtorEq] at hb); (try (exfalso; first | (exact hb) | contradiction | omega)))) | ((with_reducible refine call_any (h2.rs.set hE hF ht1 ht2) ?_); rintro _ _ hsm ⟨rfl, rv', hR⟩) | (with_reducible refine fun (base : Nat) (hbase : Fresh _ base) => ?_) | ((with_reducible refine mk_alloc (fun id hid => ?_)); have hid0 := hid.none; (try have hlt := hid.lt (Heap.set_same _ _ _))) | ((with_reducible refine And.intro ?_ ?_); (first | decide | omega)) | ((with_reducible refine at_here ?_); unfold m76_0 w76_0) | (simp (disch := omega) only [go_sem, Heap.get_ne, wrap64_id, Nat.reduceAdd, Nat.reduceLeDiff, Nat.reduceSub, Nat.reduceEqDiff, Int.reduceLT, Int.reduceLE, Int.reduceEq, hcc, hrr, e1, e2, hrr2, hk2, hk3, hold]) | (with_reducible rfl) | ((with_reducible refine And.intro ?_ ?_) <;> (with_reducible rfl)))
      apply ret_here
      refine ⟨rfl, h2.back (s' := s.term) ?_ (hR.cast ?_) ?_⟩
      all_goals (have hrest := h.rest; simp only [List.map_cons] at hrest; unfold St.term; grind [St.setR])
  · apply ret_here
    have e : s.stop 2 (s.top.f.blocks.getD s.top.bi.toNat default).tgt 0 = s.term := by unfold St.term; grind
    rw [e] at hR
    exact ⟨rfl, h.back (by rw [← e]; rfl) hR (by rw [← e]; rfl)⟩
end Go.Abs
set_option linter.unusedSimpArgs false
set_option linter.unusedVariables false
set_option maxRecDepth 100000
namespace Go.Abs
variable {E : Env}

/-- One step. -/
def St.step (l : List VF) (s : St) : St :=
  let b := s.top.f.blocks.getD s.top.bi.toNat default
  if s.top.pc = b.ins.length then s.term
  else
    let v := b.ins.getD s.top.pc.toNat default
    let s1 : St := { s with top := { s.top with pc := s.top.pc + 1 } }
    if v.i.op = 3 then (if s.fuel = 0 then s1.stop 3 0 0 else { s1 with fuel := s.fuel - 1 })
    else if v.i.op = 6 then { s1 with top := ⟨l.getD v.i.n.toNat default, [], v.args.map fun a => s.top.regs.getD a.toNat 0, 0, 0, v.i.a⟩, rest := s1.top :: s.rest }
    else if v.i.op = 9 then { s1 with out := s.out ++ [s.top.regs.getD v.i.a.toNat 0] }
    else if v.i.op = 34 ∨ v.i.op = 35 then s1.acc v.i
    else s1.comp v.i

/-- All is well for a step. -/
structure OpS (l : List VF) (s : St) : Prop where
  t : OpT s
  pc : 0 ≤ s.top.pc ∧ s.top.pc ≤ (s.top.f.blocks.getD s.top.bi.toNat default).ins.length
  a : ∀ v ∈ (s.top.f.blocks.getD s.top.bi.toNat default).ins, 0 ≤ v.i.a ∧ v.i.a < 100000
  call : ∀ v ∈ (s.top.f.blocks.getD s.top.bi.toNat default).ins, v.i.op = 6 → (0 ≤ v.i.n ∧ v.i.n < l.length) ∧ v.args.length ≤ 1000 ∧ ∀ a ∈ v.args, 0 ≤ a
  mem : ∀ v ∈ (s.top.f.blocks.getD s.top.bi.toNat default).ins, v.i.op = 34 ∨ v.i.op = 35 → Op2 v.i s.cells.length
  reg : ∀ v ∈ (s.top.f.blocks.getD s.top.bi.toNat default).ins, v.i.op ≠ 3 → v.i.op ≠ 6 → v.i.op ≠ 9 → v.i.op ≠ 34 → v.i.op ≠ 35 → Op1 v.i s.top.args.length
  fuel : 0 ≤ s.fuel ∧ s.fuel < 1000000
  out : s.out.length < 1000000
  len : (s.top.f.blocks.getD s.top.bi.toNat default).ins.length < 9223372036854775808

theorem RS.updO {I : Ids} {c : Nat} {ks rv av ov ov' : AV} {B : List (Nat × Blk)} {s : St} {H H' : Heap} {out' : List Int} (h : RS I c ks rv av ov B s H)
    (hX : Holds H' ((I.r, [rnc I.l I.cv ks s.fuel s.over s.kind s.code ov' s.val]) :: ownL ov' out')) (ho : OwnV ov' out') (hne : out' ≠ []) (hk : Kept H H' (I.r :: (ownL ov s.out).map (·.1)))
    (hf : ∀ k ∈ I.r :: (ownL ov' out').map (·.1), k ∈ I.r :: (ownL ov s.out).map (·.1) ∨ H k = none) : RS I c ks rv av ov' B { s with out := out' } H' := by
  refine ⟨?_, h.hrv, ho, h.hcv, h.hav, h.sub, fun e => absurd e hne⟩
  have h2 : HoldsG I.G H (((I.r, [rnc I.l I.cv ks s.fuel s.over s.kind s.code ov s.val]) :: ownL ov s.out) ++ (((c, [frc s.top.f rv av s.top.bi s.top.pc s.top.to]) :: ownL rv s.top.regs) ++ (cellsL I.cid I.rids s.cells ++ B))) := by
    refine h.holds.perm (perm_of_count fun i _ a => ?_)
    simp only [List.count_append, List.count_cons]; omega
  refine (h2.frame hX hk hf).perm (perm_of_count fun i _ a => ?_)
  simp only [List.count_append, List.count_cons]; omega
/-- A part of what is beside changes. -/
theorem RS.updX {I : Ids} {c : Nat} {ks rv av ov : AV} {B X X' : List (Nat × Blk)} {s : St} {H H' : Heap} (h : RS I c ks rv av ov (B ++ X) s H) (hX : Holds H' X') (hk : Kept H H' (X.map (·.1))) (hf : ∀ k ∈ X'.map (·.1), k ∈ X.map (·.1) ∨ H k = none)
    (hs : ∀ p ∈ ownL av s.top.args, p ∈ B) : RS I c ks rv av ov (B ++ X') s H' := by
  refine ⟨?_, h.hrv, h.hov, h.hcv, h.hav, fun p hp => List.mem_append_left _ (hs p hp), h.hov2⟩
  have h2 : HoldsG I.G H (X ++ (((c, [frc s.top.f rv av s.top.bi s.top.pc s.top.to]) :: ownL rv s.top.regs) ++ ((I.r, [rnc I.l I.cv ks s.fuel s.over s.kind s.code ov s.val]) :: (ownL ov s.out ++ (cellsL I.cid I.rids s.cells ++ B))))) := by
    refine h.holds.perm (perm_of_count fun i _ a => ?_)
    simp only [List.count_append, List.count_cons]; omega
  refine (h2.frame hX hk hf).perm (perm_of_count fun i _ a => ?_)
  simp only [List.count_append, List.count_cons]; omega
theorem ownL_nil (xs : List Int) : ownL .nilsl xs = [] := rfl
theorem kd_new {a : List Nat} {n : Nat} (h : n ∉ a) : keysDisj (a, []) ([], [n]) := by simp [keysDisj, h]

theorem out_end {I : Ids} {c : Nat} {ks rv av ov : AV} {B : List (Nat × Blk)} {s : St} {H : Heap} {base : Nat} {x : Int} {k : List Nat → List Nat → Heap → Prop} (h : RS I c ks rv av ov B s H) (hbase : Fresh H base) (hlen : s.out.length < 1000000)
    (hk : ∀ ov' H', I.r < base → RS I c ks rv av ov' B { s with out := s.out ++ [x] } H' → k [] [base + 11] H') :
    dW (.bsl 1 [.int .i64 0] 1 [(0, .c (.int .i64 x))]) (base + 11) H fun t140 n10 g10 H10 => dW (.app 1 (.c ov) (.c t140)) (base + 12) H10 fun t141 n11 g11 H11 => dW (.st 1 (.c (.ptr I.r 0 7)) (.c t141)) (base + 16) H11 fun _ n12 g12 H12 => k n10 g10 H12 := by
  have hr := h.hr
  have hlr := hbase.lt hr
  have hn11 : H (base + 11) = none := by cases e : H (base + 11) with | none => rfl | some b => exact absurd (hbase _ _ e) (by omega)
  have hn12 : H (base + 12) = none := by cases e : H (base + 12) with | none => rfl | some b => exact absurd (hbase _ _ e) (by omega)
  refine d_bsl rfl ?_
  have h11 : (H.set (base + 11) (some [[AV.int .i64 x]])) (base + 11) = some [[AV.int .i64 x]] := Heap.set_same _ _ _
  have hh := h.hov
  rcases hh with ⟨rfl, ho⟩ | ⟨id, rfl⟩
  · refine d_app_nil h11 ⟨by simp, by decide⟩ ?_
    simp (disch := omega) only [go_sem, Heap.get_ne, hr]
    refine ⟨by decide, hk _ _ hlr (h.updO (ov' := .sl 1 (base + 12) 0 1) ⟨?_, ?_⟩ ?_ (by simp) ?_ ?_)⟩
    · simp [ownL]; omega
    · simp [ownL, Heap.set_same]; rw [Heap.get_ne _ _ _ _ (by omega), Heap.set_same, ho]; rfl
    · rw [ho]; exact .inr ⟨base + 12, rfl⟩
    · exact (((Kept.refl _ _).step _ (.inr hn11)).step _ (.inr hn12)).step _ (.inl (by simp))
    · intro j hj; simp [ownL] at hj; rcases hj with rfl | rfl
      · exact .inl (by simp)
      · exact .inr hn12
  · have hid : H id = some (s.out.map icell) := h.holds.get (by simp [ownL])
    have hlid := hbase.lt hid
    have hne : I.r ≠ id := by
      have h2 := h.holds.right.to.1
      simp only [ownL, List.map_cons, List.map_append, List.map_nil, List.cons_append, List.nodup_cons, List.mem_cons, not_or] at h2
      exact h2.1.1
    refine d_app (by rw [Heap.get_ne _ _ _ _ (by omega)]; exact hid) h11 ⟨by simp, by simp [appLim]; omega⟩ (by simp) ?_
    simp (disch := omega) only [go_sem, Heap.get_ne, hr]
    refine ⟨by decide, hk _ _ hlr (h.updO (ov' := .sl 1 (base + 12) 0 (s.out.length + 1)) ⟨?_, ?_⟩ ?_ (by simp) ?_ ?_)⟩
    · simp [ownL]; omega
    · simp [ownL, Heap.set_same]; rw [Heap.get_ne _ _ _ _ (by omega), Heap.set_same, List.take_of_length_le (by simp)]; simp [icell]
    · exact .inr ⟨base + 12, by simp⟩
    · exact ((((Kept.refl _ _).step _ (.inr hn11)).step _ (.inl (by simp [ownL]))).step _ (.inr hn12)).step _ (.inl (by simp))
    · intro j hj; simp [ownL] at hj; rcases hj with rfl | rfl
      · exact .inl (by simp)
      · exact .inr hn12

@[go_sem] theorem new_frc (f : VF) (x : AV) : (spl [AV.int .i64 0, .int .i64 0, .nilsl, .nilsl, .nilsl, .int .i64 0, .int .i64 0, .int .i64 0] 0 f.cells).set 7 x = [.int .i64 f.params, .int .i64 f.regs, bls f.blocks, .nilsl, .nilsl, .int .i64 0, .int .i64 0, x] := id rfl

theorem args_end {I : Ids} {c new : Nat} {ks rv av ov av' : AV} {B : List (Nat × Blk)} {s : St} {H : Heap} {base : Nat} {x : Int} {xs : List Int} {f : VF} {to : Int} {k : List Nat → List Nat → Heap → Prop} (ha : OwnV av' xs)
    (h : RS I c ks rv av ov (B ++ ((new, [frc f .nilsl av' 0 0 to]) :: ownL av' xs)) s H) (hbase : Fresh H base) (hlen : xs.length < 1000000) (hs : ∀ p ∈ ownL av s.top.args, p ∈ B)
    (hk : ∀ av2 H', new < base → OwnV av2 (xs ++ [x]) → RS I c ks rv av ov (B ++ ((new, [frc f .nilsl av2 0 0 to]) :: ownL av2 (xs ++ [x]))) s H' → k [] [base + 8] H') :
    dW (.bsl 1 [.int .i64 0] 1 [(0, .c (.int .i64 x))]) (base + 8) H fun t112 n3 g3 H3 => dW (.app 1 (.c av') (.c t112)) (base + 9) H3 fun t113 n4 g4 H4 => dW (.st 1 (.c (.ptr new 0 4)) (.c t113)) (base + 12) H4 fun _ n5 g5 H5 => k n3 g3 H5 := by
  have hr : H new = some [frc f .nilsl av' 0 0 to] := h.holds.get (by simp)
  have hlr := hbase.lt hr
  have hn11 : H (base + 8) = none := by cases e : H (base + 8) with | none => rfl | some b => exact absurd (hbase _ _ e) (by omega)
  have hn12 : H (base + 9) = none := by cases e : H (base + 9) with | none => rfl | some b => exact absurd (hbase _ _ e) (by omega)
  refine d_bsl rfl ?_
  have h11 : (H.set (base + 8) (some [[AV.int .i64 x]])) (base + 8) = some [[AV.int .i64 x]] := Heap.set_same _ _ _
  have hh := ha
  rcases hh with ⟨rfl, ho⟩ | ⟨id, rfl⟩
  · refine d_app_nil h11 ⟨by simp, by decide⟩ ?_
    simp (disch := omega) only [go_sem, Heap.get_ne, hr]
    refine ⟨by decide, hk (.sl 1 (base + 9) 0 1) _ hlr ?_ (h.updX ⟨?_, ?_⟩ ?_ ?_ hs)⟩
    · rw [ho]; exact .inr ⟨base + 9, rfl⟩
    · simp [ownL]; omega
    · simp [ownL, Heap.set_same]; rw [Heap.get_ne _ _ _ _ (by omega), Heap.set_same, ho]; rfl
    · exact (((Kept.refl _ _).step _ (.inr hn11)).step _ (.inr hn12)).step _ (.inl (by simp))
    · intro j hj; simp [ownL] at hj; rcases hj with rfl | rfl
      · exact .inl (by simp)
      · exact .inr hn12
  · have hid : H id = some (xs.map icell) := h.holds.get (by simp [ownL])
    have hlid := hbase.lt hid
    have hne : new ≠ id := by
      have h2 := ((h.holds.right.right (a := [_])).right.right.right).to.1
      simp only [ownL, List.map_cons, List.map_nil, List.nodup_cons, List.mem_cons, not_or] at h2
      exact h2.1.1
    refine d_app (by rw [Heap.get_ne _ _ _ _ (by omega)]; exact hid) h11 ⟨by simp, by simp [appLim]; omega⟩ (by simp) ?_
    simp (disch := omega) only [go_sem, Heap.get_ne, hr]
    refine ⟨by decide, hk (.sl 1 (base + 9) 0 (xs.length + 1)) _ hlr ?_ (h.updX ⟨?_, ?_⟩ ?_ ?_ hs)⟩
    · exact .inr ⟨base + 9, by simp⟩
    · simp [ownL]; omega
    · simp [ownL, Heap.set_same]; rw [Heap.get_ne _ _ _ _ (by omega), Heap.set_same, List.take_of_length_le (by simp)]; simp [icell]
    · exact ((((Kept.refl _ _).step _ (.inr hn11)).step _ (.inl (by simp [ownL]))).step _ (.inr hn12)).step _ (.inl (by simp))
    · intro j hj; simp [ownL] at hj; rcases hj with rfl | rfl
      · exact .inl (by simp)
      · exact .inr hn12

/-- The state behind a call. -/
def St.push (s : St) (f : VF) (as : List Int) (to : Int) : St := { s with top := ⟨f, [], as.map fun a => s.top.regs.getD a.toNat 0, 0, 0, to⟩, rest := s.top :: s.rest }

set_option maxHeartbeats 4000000 in
theorem call_loop (hE : E.Good) (hF : E.Fits tab) {R : AV → Heap → Prop} {I : Ids} {c cl : Nat} {junk : Blk} {rv av ov : AV} {rs : List (FrI × Fr)} {s : St} {H : Heap} (h : RT I c cl junk rv av ov rs s H) {f : VF} {to : Int} {as : List Int} (has : ∀ a ∈ as, 0 ≤ a) (hlen : as.length ≤ 1000) (hfew : rs.length < 1000000)
    {new : Nat} (hnew : Fresh H new) (hR : ∀ H', RP I (s.push f as to) H' → R (.tup []) H') :
    loopW (l42_2 E R) [.ptr I.r 0 0, .ptr c 0 0, .ptr new 0 0, ints as, .int .i64 as.length, .int .i64 0] (H.set new (some [frc f .nilsl .nilsl 0 0 to])) := by
  have hB : ∀ p ∈ ownL av s.top.args, p ∈ ownL av s.top.args ++ ((cl, callRows rs c junk) :: stkL rs) := fun p hp => List.mem_append_left _ hp
  refine loop_mk (σ := Nat × AV) (fun p => [.ptr I.r 0 0, .ptr c 0 0, .ptr new 0 0, ints as, .int .i64 as.length, .int .i64 p.1])
    (fun p H' => p.1 ≤ as.length ∧ OwnV p.2 ((as.take p.1).map fun a => s.top.regs.getD a.toNat 0) ∧ RS I c (.sl 1 cl 0 (rs.length + 1)) rv av ov ((ownL av s.top.args ++ ((cl, callRows rs c junk) :: stkL rs)) ++ ((new, [frc f .nilsl p.2 0 0 to]) :: ownL p.2 ((as.take p.1).map fun a => s.top.regs.getD a.toNat 0))) s H')
    (fun p => as.length - p.1) (0, .nilsl) rfl ⟨Nat.zero_le _, .inl ⟨rfl, rfl⟩, ?_⟩ ?_
  · refine RS.updX (X := []) (H := H) (by simpa using h.rs) ⟨by simp [ownL], by simp [ownL, Heap.set_same]⟩ ((Kept.refl _ _).step _ (.inr hnew.none)) (fun k hk => ?_) hB
    simp [ownL] at hk; subst hk; exact .inr hnew.none
  rintro ⟨i, av'⟩ H K ⟨hi, ha, h2⟩ hK
  dsimp only at hi ha h2
  have hnc : H new = some [frc f .nilsl av' 0 0 to] := h2.holds.get (by simp)
  have hr := h2.hr
  have hcl : H cl = some (callRows rs c junk) := h2.holds.get (by simp)
  skip
  unfold l42_2 w42_2; simp only [go_sem]
  repeat' (first | ((with_reducible refine cond_mk (fun hb => ?_) (fun hb => ?_)) <;> ((try simp only [if_true, if_false, qq, reduceCtorEq] at hb); (try (exfalso; first | (exact hb) | contradiction | omega)))) | (with_reducible refine fun (base : Nat) (hbase : Fresh _ base) => ?_) | ((with_reducible refine mk_alloc (fun id hid => ?_)); have hid0 := hid.none; (try have hlt := hid.lt (Heap.set_same _ _ _))) | ((with_reducible refine mk_box ?_ (fun id hid => ?_)); (simp only [go_sem]; done); have hid0 := hid.none; (try have hlt := hid.lt (Heap.set_same _ _ _))) | ((with_reducible refine And.intro ?_ ?_); (first | decide | omega)) | ((with_reducible refine at_here ?_); first | unfold m42_1 w42_1 | unfold m42_5 w42_5 | unfold m42_0 w42_0) | (simp (disch := omega) only [go_sem, Heap.get_ne, wrap64_id, Nat.reduceAdd, Nat.reduceLeDiff, Nat.reduceSub, Nat.reduceEqDiff, Int.reduceLT, Int.reduceLE, Int.reduceEq, hnc, hr]) | (with_reducible rfl) | ((with_reducible refine And.intro ?_ ?_) <;> (with_reducible rfl)))
  · have hil : i < as.length := by omega
    have hg : 0 ≤ as.getD i 0 := has _ (getD_mem (α := Int) hil)
    have hl2 : ((as.take i).map fun a => s.top.regs.getD a.toNat 0).length < 1000000 := by simp; omega
    refine at_here ?_; unfold m42_3 w42_3
    repeat' (first | ((with_reducible refine cond_mk (fun hb => ?_) (fun hb => ?_)) <;> ((try simp only [if_true, if_false, qq, reduceCtorEq] at hb); (try (exfalso; first | (exact hb) | contradiction | omega)))) | ((with_reducible refine h2.dget hE hF hg ?_)) | ((with_reducible refine args_end ha h2 hbase hl2 hB (fun av2 H' hlr ha2 hR2 => ?_))) | ((with_reducible refine And.intro (kd_new (by simp; omega)) ?_)) | (with_reducible refine fun (base : Nat) (hbase : Fresh _ base) => ?_) | ((with_reducible refine mk_alloc (fun id hid => ?_)); have hid0 := hid.none; (try have hlt := hid.lt (Heap.set_same _ _ _))) | ((with_reducible refine mk_box ?_ (fun id hid => ?_)); (simp only [go_sem]; done); have hid0 := hid.none; (try have hlt := hid.lt (Heap.set_same _ _ _))) | ((with_reducible refine And.intro ?_ ?_); (first | decide | omega)) | ((with_reducible refine at_here ?_); first | unfold m42_1 w42_1 | unfold m42_3 w42_3 | unfold m42_4 w42_4 | unfold m42_5 w42_5 | unfold m42_0 w42_0) | (simp (disch := omega) only [go_sem, Heap.get_ne, wrap64_id, Nat.reduceAdd, Nat.reduceLeDiff, Nat.reduceSub, Nat.reduceEqDiff, Int.reduceLT, Int.reduceLE, Int.reduceEq, hnc, hr]) | (with_reducible rfl) | ((with_reducible refine And.intro ?_ ?_) <;> (with_reducible rfl)))
    have ex : (as.take (i + 1)).map (fun a => s.top.regs.getD a.toNat 0) = (as.take i).map (fun a => s.top.regs.getD a.toNat 0) ++ [s.top.regs.getD (as.getD i 0).toNat 0] := by
      rw [List.take_add_one, List.map_append, List.getElem?_eq_getElem hil]
      simp [List.getD, List.getElem?_eq_getElem hil]
    rw [← ex] at ha2 hR2
    exact at_eq (hK (i + 1, av2) _ ⟨hil, ha2, hR2⟩ (by simp; omega)) rfl
  · have hia : i = as.length := by omega
    subst hia
    rw [List.take_length] at ha h2
    refine at_here ?_; unfold m42_4 w42_4
    repeat' (first | ((with_reducible refine cond_mk (fun hb => ?_) (fun hb => ?_)) <;> ((try simp only [if_true, if_false, qq, reduceCtorEq] at hb); (try (exfalso; first | (exact hb) | contradiction | omega)))) | (with_reducible refine fun (base : Nat) (hbase : Fresh _ base) => ?_) | ((with_reducible refine mk_alloc (fun id hid => ?_)); have hid0 := hid.none; (try have hlt := hid.lt (Heap.set_same _ _ _))) | ((with_reducible refine mk_box ?_ (fun id hid => ?_)); (simp only [go_sem]; done); have hid0 := hid.none; (try have hlt := hid.lt (Heap.set_same _ _ _))) | ((with_reducible refine And.intro ?_ ?_); (first | decide | omega)) | ((with_reducible refine at_here ?_); first | unfold m42_1 w42_1 | unfold m42_3 w42_3 | unfold m42_4 w42_4 | unfold m42_5 w42_5 | unfold m42_0 w42_0) | (simp (disch := omega) only [go_sem, Heap.get_ne, wrap64_id, Nat.reduceAdd, Nat.reduceLeDiff, Nat.reduceSub, Nat.reduceEqDiff, Int.reduceLT, Int.reduceLE, Int.reduceEq, hr, hcl]) | (with_reducible rfl) | ((with_reducible refine And.intro ?_ ?_) <;> (with_reducible rfl)))
    have hne : I.r ≠ cl := by
      have h3 := h2.holds.right.to.1
      simp only [List.map_cons, List.map_append, List.nodup_cons, List.mem_append, List.mem_cons, not_or] at h3
      exact h3.1.2.2.1.2.1
    refine mk_app hcl ⟨by simp [callRows], by simp [appLim]; omega⟩ fun n2 hn2 => ?_
    have hlt := hn2.lt hr
    have hlt2 := hn2.lt hcl
    repeat' (first | ((with_reducible refine cond_mk (fun hb => ?_) (fun hb => ?_)) <;> ((try simp only [if_true, if_false, qq, reduceCtorEq] at hb); (try (exfalso; first | (exact hb) | contradiction | omega)))) | (with_reducible refine fun (base : Nat) (hbase : Fresh _ base) => ?_) | ((with_reducible refine mk_alloc (fun id hid => ?_)); have hid0 := hid.none; (try have hlt := hid.lt (Heap.set_same _ _ _))) | ((with_reducible refine mk_box ?_ (fun id hid => ?_)); (simp only [go_sem]; done); have hid0 := hid.none; (try have hlt := hid.lt (Heap.set_same _ _ _))) | ((with_reducible refine And.intro ?_ ?_); (first | decide | omega)) | ((with_reducible refine at_here ?_); first | unfold m42_1 w42_1 | unfold m42_3 w42_3 | unfold m42_4 w42_4 | unfold m42_5 w42_5 | unfold m42_0 w42_0) | (simp (disch := omega) only [go_sem, Heap.get_ne, wrap64_id, Nat.reduceAdd, Nat.reduceLeDiff, Nat.reduceSub, Nat.reduceEqDiff, Int.reduceLT, Int.reduceLE, Int.reduceEq, hr]) | (with_reducible rfl) | ((with_reducible refine And.intro ?_ ?_) <;> (with_reducible rfl)))
    refine ret_here (hR _ ⟨new, n2, [], .nilsl, av', ov, (⟨c, rv, av⟩, s.top) :: rs, ?_, ?_, ?_⟩)
    · simp [St.push, h.rest]
    · intro p hp
      rcases List.mem_cons.1 hp with rfl | hp
      · exact ⟨h.rs.hrv, h.rs.hav⟩
      · exact h.ok p hp
    · refine ⟨?_, .inl ⟨rfl, rfl⟩, h2.hov, h2.hcv, .inr ha, fun p hp => List.mem_append_left _ hp, h2.hov2⟩
      have h3 : HoldsG I.G H ([(I.r, [rnc I.l I.cv (.sl 1 cl 0 (rs.length + 1)) s.fuel s.over s.kind s.code ov s.val]), (cl, callRows rs c junk)] ++
          ((new, [frc f .nilsl av' 0 0 to]) :: (ownL ov s.out ++ (cellsL I.cid I.rids s.cells ++ (ownL av' (as.map fun a => s.top.regs.getD a.toNat 0) ++ (((c, [frc s.top.f rv av s.top.bi s.top.pc s.top.to]) :: ownL rv s.top.regs) ++ (ownL av s.top.args ++ stkL rs))))))) := by
        refine h2.holds.perm (perm_of_count fun i _ a => ?_)
        simp only [List.count_append, List.count_cons, List.count_nil]; omega
      have h4 := h3.frame (H' := (((H.set cl none).set n2 (some ((callRows rs c junk).take (rs.length + 1) ++ [[AV.ptr new 0 0]])))).set I.r (some [rnc I.l I.cv (.sl 1 n2 0 (rs.length + 1 + 1)) s.fuel s.over s.kind s.code ov s.val]))
        (X' := [(I.r, [rnc I.l I.cv (.sl 1 n2 0 (rs.length + 1 + 1)) s.fuel s.over s.kind s.code ov s.val]), (n2, (callRows rs c junk).take (rs.length + 1) ++ [[AV.ptr new 0 0]])]) ?_ ?_ ?_
      · have e2 : (callRows rs c junk).take (rs.length + 1) ++ [[AV.ptr new 0 0]] = callRows ((⟨c, rv, av⟩, s.top) :: rs) new [] := by
          unfold callRows
          rw [List.take_append, List.take_of_length_le (by simp)]
          simp
        rw [← e2]
        refine h4.perm (perm_of_count fun i _ a => ?_)
        simp only [St.push, stkL, frT, ownL_nil, List.length_cons, List.count_append, List.count_cons, List.count_nil]; omega
      · refine ⟨by simp; omega, fun p hp => ?_⟩
        simp at hp
        rcases hp with rfl | rfl
        · exact Heap.set_same _ _ _
        · rw [Heap.get_ne _ _ _ _ (by simp; omega), Heap.set_same]
      · exact (((Kept.refl _ _).step _ (.inl (by simp))).step _ (.inr hn2.none)).step _ (.inl (by simp))
      · intro k hk
        simp at hk
        rcases hk with rfl | rfl
        · exact .inl (by simp)
        · exact .inr hn2.none

set_option maxHeartbeats 4000000 in
theorem step_spec (hE : E.Good) (hF : E.Fits tab) {I : Ids} {c cl : Nat} {junk : Blk} {rv av ov : AV} {rs : List (FrI × Fr)} {s : St} {H : Heap} (h : RT I c cl junk rv av ov rs s H) (ho : OpS I.l s) :
    ACall E 42 [.ptr I.r 0 0] H (fun x H' => x = .tup [] ∧ RP I (s.step I.l) H') := by
  obtain ⟨hb1, hb2⟩ := ho.t.bi
  obtain ⟨hp1, hp2⟩ := ho.pc
  obtain ⟨hf1, hf2⟩ := ho.fuel
  have hlen := ho.len
  have hfew : rs.length < 1000000 := by have := ho.t.few; rw [← h.rest] at this; simpa using this
  have hcc := h.rs.hc
  have hrr := h.rs.hr
  have hkk := h.calls
  have hk2 := callRows_top rs c junk
  have e1 : (((rs.length + 1 : Nat) : Int) - 1).toNat = rs.length := by omega
  refine ent42 hE hF _ _ _ ?_; unfold w42
  repeat' (first | ((with_reducible refine cond_mk (fun hb => ?_) (fun hb => ?_)) <;> ((try simp only [if_true, if_false, qq, reduceCtorEq] at hb); (try (exfalso; first | (exact hb) | contradiction | omega)))) | (with_reducible refine fun (base : Nat) (hbase : Fresh _ base) => ?_) | ((with_reducible refine mk_alloc (fun id hid => ?_)); have hid0 := hid.none; (try have hlt := hid.lt (Heap.set_same _ _ _))) | ((with_reducible refine mk_box ?_ (fun id hid => ?_)); (simp only [go_sem]; done); have hid0 := hid.none; (try have hlt := hid.lt (Heap.set_same _ _ _))) | ((with_reducible refine And.intro ?_ ?_); (first | decide | omega)) | ((with_reducible refine at_here ?_); first | unfold m42_1 w42_1 | unfold m42_3 w42_3 | unfold m42_4 w42_4 | unfold m42_5 w42_5 | unfold m42_0 w42_0) | (simp (disch := omega) only [go_sem, Heap.get_ne, wrap64_id, Nat.reduceAdd, Nat.reduceLeDiff, Nat.reduceSub, Nat.reduceEqDiff, Int.reduceLT, Int.reduceLE, Int.reduceEq, hcc, hrr, hkk, hk2, e1, Nat.zero_add]) | (with_reducible rfl) | ((with_reducible refine And.intro ?_ ?_) <;> (with_reducible rfl)))
  with_reducible refine h.frz hid0 (fun H h => ?_)
  clear hcc hrr hkk
  have hcc := h.rs.hc
  repeat' (first | ((with_reducible refine cond_mk (fun hb => ?_) (fun hb => ?_)) <;> ((try simp only [if_true, if_false, qq, reduceCtorEq] at hb); (try (exfalso; first | (exact hb) | contradiction | omega)))) | ((with_reducible refine call_any (term_spec hE hF h ho.t) ?_); rintro _ _ hsm ⟨rfl, hR⟩) | (with_reducible refine fun (base : Nat) (hbase : Fresh _ base) => ?_) | ((with_reducible refine mk_alloc (fun id hid => ?_)); have hid0 := hid.none; (try have hlt := hid.lt (Heap.set_same _ _ _))) | ((with_reducible refine mk_box ?_ (fun id hid => ?_)); (simp only [go_sem]; done); have hid0 := hid.none; (try have hlt := hid.lt (Heap.set_same _ _ _))) | ((with_reducible refine And.intro ?_ ?_); (first | decide | omega)) | ((with_reducible refine at_here ?_); first | unfold m42_1 w42_1 | unfold m42_3 w42_3 | unfold m42_4 w42_4 | unfold m42_5 w42_5) | (simp (disch := omega) only [go_sem, Heap.get_ne, wrap64_id, Nat.reduceAdd, Nat.reduceLeDiff, Nat.reduceSub, Nat.reduceEqDiff, Int.reduceLT, Int.reduceLE, Int.reduceEq, hcc]) | (with_reducible rfl) | ((with_reducible refine And.intro ?_ ?_) <;> (with_reducible rfl)))
  · apply ret_here
    exact ⟨rfl, by rw [show s.step I.l = s.term from if_pos hb]; exact hR⟩
  have hpc : s.top.pc < (s.top.f.blocks.getD s.top.bi.toNat default).ins.length := by omega
  refine at_here ?_; unfold m42_0 w42_0
  repeat' (first | ((with_reducible refine cond_mk (fun hb => ?_) (fun hb => ?_)) <;> ((try simp only [if_true, if_false, qq, reduceCtorEq] at hb); (try (exfalso; first | (exact hb) | contradiction | omega)))) | (with_reducible refine fun (base : Nat) (hbase : Fresh _ base) => ?_) | ((with_reducible refine mk_alloc (fun id hid => ?_)); have hid0 := hid.none; (try have hlt := hid.lt (Heap.set_same _ _ _))) | ((with_reducible refine mk_box ?_ (fun id hid => ?_)); (simp only [go_sem]; done); have hid0 := hid.none; (try have hlt := hid.lt (Heap.set_same _ _ _))) | ((with_reducible refine And.intro ?_ ?_); (first | decide | omega)) | ((with_reducible refine at_here ?_); first | unfold m42_1 w42_1 | unfold m42_3 w42_3 | unfold m42_4 w42_4 | unfold m42_5 w42_5 | unfold m42_0 w42_0) | (simp (disch := omega) only [go_sem, Heap.get_ne, wrap64_id, Nat.reduceAdd, Nat.reduceLeDiff, Nat.reduceSub, Nat.reduceEqDiff, Int.reduceLT, Int.reduceLE, Int.reduceEq, hcc]) | (with_reducible rfl) | ((with_reducible refine And.intro ?_ ?_) <;> (with_reducible rfl)))
  with_reducible refine h.frz hid0 (fun H h => ?_)
  clear hcc
  have hcc := h.rs.hc
  have hv : (s.top.f.blocks.getD s.top.bi.toNat default).ins.getD s.top.pc.toNat default ∈ (s.top.f.blocks.getD s.top.bi.toNat default).ins := getD_mem (by omega)
  have hva := ho.a _ hv
  have hvc := ho.call _ hv
  have hvm := ho.mem _ hv
  have hvr := ho.reg _ hv
  have h1 := h.wtop s.top.bi (s.top.pc + 1)
  have hrr := h1.rs.hr
  repeat' (first | ((with_reducible refine cond_mk (fun hb => ?_) (fun hb => ?_)) <;> ((try simp only [if_true, if_false, qq, reduceCtorEq] at hb); (try (exfalso; first | (exact hb) | contradiction | omega)))) | ((with_reducible refine call_any (stop_spec hE hF h1.rs _ _ _) ?_); rintro _ _ hsm ⟨rfl, hR⟩) | ((with_reducible refine call_any (access_spec hE hF h1.rs (hvm (by omega))) ?_); rintro _ _ hsm ⟨rfl, rv', hR⟩) | ((with_reducible refine call_any (compute_spec hE hF h1.rs (hvr (by omega) (by omega) (by omega) (by omega) (by omega))) ?_); rintro _ _ hsm ⟨rfl, rv', hR⟩) | ((with_reducible refine h1.rs.dget hE hF (by omega) ?_)) | ((with_reducible refine out_end h1.rs (by simpa only [go_sem] using hbase) ho.out (fun ov' H' hlr hR => ?_))) | ((with_reducible refine And.intro (kd_new (by simp; omega)) ?_)) | (with_reducible refine fun (base : Nat) (hbase : Fresh _ base) => ?_) | ((with_reducible refine mk_alloc (fun id hid => ?_)); have hid0 := hid.none; (try have hlt := hid.lt (Heap.set_same _ _ _))) | ((with_reducible refine mk_box ?_ (fun id hid => ?_)); (simp only [go_sem]; done); have hid0 := hid.none; (try have hlt := hid.lt (Heap.set_same _ _ _))) | ((with_reducible refine And.intro ?_ ?_); (first | decide | omega)) | ((with_reducible refine at_here ?_); first | unfold m42_1 w42_1 | unfold m42_3 w42_3 | unfold m42_4 w42_4 | unfold m42_5 w42_5 | unfold m42_0 w42_0) | (simp (disch := omega) only [go_sem, Heap.get_ne, wrap64_id, Nat.reduceAdd, Nat.reduceLeDiff, Nat.reduceSub, Nat.reduceEqDiff, Int.reduceLT, Int.reduceLE, Int.reduceEq, hcc, hrr]) | (with_reducible rfl) | ((with_reducible refine And.intro ?_ ?_) <;> (with_reducible rfl)))
  · apply ret_here
    exact ⟨rfl, h1.back (by unfold St.step; grind [St.stop]) (hR.cast (by unfold St.step; grind)) (by unfold St.step; grind [St.stop])⟩
  · apply ret_here
    exact ⟨rfl, h1.back (by unfold St.step; grind [St.stop]) ((h1.rs.wfuel _).cast (by unfold St.step; grind)) (by unfold St.step; grind [St.stop])⟩
  · obtain ⟨⟨hv1, hv2⟩, hv3, hv4⟩ := hvc (by assumption)
    refine mk_box rfl fun new hnew => ?_
    repeat' (first | ((with_reducible refine cond_mk (fun hb => ?_) (fun hb => ?_)) <;> ((try simp only [if_true, if_false, qq, reduceCtorEq] at hb); (try (exfalso; first | (exact hb) | contradiction | omega)))) | (with_reducible refine fun (base : Nat) (hbase : Fresh _ base) => ?_) | ((with_reducible refine mk_alloc (fun id hid => ?_)); have hid0 := hid.none; (try have hlt := hid.lt (Heap.set_same _ _ _))) | ((with_reducible refine mk_box ?_ (fun id hid => ?_)); (simp only [go_sem]; done); have hid0 := hid.none; (try have hlt := hid.lt (Heap.set_same _ _ _))) | ((with_reducible refine And.intro ?_ ?_); (first | decide | omega)) | ((with_reducible refine at_here ?_); first | unfold m42_1 w42_1 | unfold m42_5 w42_5 | unfold m42_0 w42_0) | (simp (disch := omega) only [go_sem, Heap.get_ne, wrap64_id, Nat.reduceAdd, Nat.reduceLeDiff, Nat.reduceSub, Nat.reduceEqDiff, Int.reduceLT, Int.reduceLE, Int.reduceEq]) | (with_reducible rfl) | ((with_reducible refine And.intro ?_ ?_) <;> (with_reducible rfl)))
    refine call_loop hE hF h1 hv4 hv3 hfew hnew fun H' hR => ⟨rfl, ?_⟩
    have e : St.push { s with top := { s.top with bi := s.top.bi, pc := s.top.pc + 1 } } (I.l.getD ((s.top.f.blocks.getD s.top.bi.toNat default).ins.getD s.top.pc.toNat default).i.n.toNat default) ((s.top.f.blocks.getD s.top.bi.toNat default).ins.getD s.top.pc.toNat default).args ((s.top.f.blocks.getD s.top.bi.toNat default).ins.getD s.top.pc.toNat default).i.a = s.step I.l := by
      unfold St.step St.push; grind
    exact e ▸ hR
  · apply ret_here
    exact ⟨rfl, h1.back (by unfold St.step; grind) (hR.cast (by unfold St.step; grind)) (by unfold St.step; grind)⟩
  · apply ret_here
    exact ⟨rfl, h1.back (by unfold St.step St.acc; grind [St.stop, St.setR]) (hR.cast (by unfold St.step; grind)) (by unfold St.step St.acc; grind [St.stop, St.setR])⟩
  · apply ret_here
    exact ⟨rfl, h1.back (by unfold St.step St.acc; grind [St.stop, St.setR]) (hR.cast (by unfold St.step; grind)) (by unfold St.step St.acc; grind [St.stop, St.setR])⟩
  · apply ret_here
    exact ⟨rfl, h1.back (by unfold St.step St.comp; grind [St.stop, St.setR]) (hR.cast (by unfold St.step; grind)) (by unfold St.step St.comp; grind [St.stop, St.setR])⟩
end Go.Abs
/- What every state of a run keeps. -/
namespace Go.Abs

/-- An activation stands well. -/
structure InvF (l : List VF) (fr : Fr) : Prop where
  f : fr.f ∈ l
  bi : 0 ≤ fr.bi ∧ fr.bi < fr.f.blocks.length
  pc : 0 ≤ fr.pc ∧ fr.pc ≤ (fr.f.blocks.getD fr.bi.toNat default).ins.length
  args : (fr.args.length : Int) = fr.f.params
  to : 0 ≤ fr.to ∧ fr.to < 100000
structure Inv (l : List VF) (lens : List Int) (n : Nat) (s : St) : Prop where
  top : InvF l s.top
  rest : ∀ fr ∈ s.rest, InvF l fr
  cells : s.cells.length = lens.length
  few : s.rest.length ≤ n ∧ s.out.length ≤ n
  fuel : 0 ≤ s.fuel ∧ s.fuel < 1000000

structure InstrOk (l : List VF) (lens : List Int) (c : VF) (v : VI) : Prop where
  al : allowedF v.i.op = true
  nargs : v.args.length ≤ 6
  args : ∀ a ∈ v.args, 0 ≤ a ∧ a < c.regs
  ra : 0 ≤ v.i.a ∧ v.i.a < 100000
  rb : 0 ≤ v.i.b ∧ v.i.b < 100000
  rc : 0 ≤ v.i.c ∧ v.i.c < 100000
  call : v.i.op = 6 → 0 ≤ v.i.n ∧ v.i.n < l.length ∧ (v.args.length : Int) = (l.getD v.i.n.toNat default).params
  mem : v.i.op = 34 ∨ v.i.op = 35 → 0 ≤ v.i.n ∧ v.i.n < lens.length
  par : v.i.op = 38 → 0 ≤ v.i.n ∧ v.i.n < c.params

theorem instrOk_of {l : List VF} {lens : List Int} {c : VF} {v : VI} (hr : c.regs ≤ 3000) (h1 : validI c v = true) (h2 : callOk l lens v = true) : InstrOk l lens c v := by
  simp only [validI, restI, Bool.and_eq_true, Bool.not_eq_true', Bool.or_eq_false_iff, decide_eq_false_iff_not, List.all_eq_true, inReg, decide_eq_true_eq] at h1
  obtain ⟨⟨⟨h3, h4⟩, h5⟩, ⟨h6, h7⟩, h8⟩ := h1
  simp only [fieldsOk, inReg, Bool.not_eq_true', Bool.or_eq_false_iff, Bool.and_eq_false_iff, Bool.not_eq_false', bne_eq_false_iff_eq, Bool.and_eq_true, decide_eq_true_eq] at h7
  simp only [immOk] at h8
  simp only [callOk] at h2
  refine ⟨by simpa using h3, by omega, h6, ?_, ?_, ?_, fun e => ?_, fun e => ?_, fun e => ?_⟩
  · grind
  · grind
  · grind
  · simp [e] at h8 h2; exact ⟨h8.1, h2.1, h2.2⟩
  · have e6 : v.i.op ≠ 6 := by omega
    have e33 : v.i.op ≠ 33 := by omega
    simp [e, e6, e33] at h8 h2; exact ⟨h8.1, h2⟩
  · simp [e] at h8; exact h8

structure FuncOk (l : List VF) (lens : List Int) (c : VF) : Prop where
  regs : c.regs ≤ 3000
  ins : ∀ b ∈ c.blocks, ∀ v ∈ b.ins, InstrOk l lens c v
  en : ∀ b ∈ c.blocks, endOk c b = true
  ne : 0 < c.blocks.length
  par : 0 ≤ c.params ∧ c.params ≤ 6
theorem funcOk_of {l : List VF} {lens : List Int} (h : progOk l lens = true) {c : VF} (hc : c ∈ l) : FuncOk l lens c := by
  simp only [progOk, Bool.and_eq_true, List.all_eq_true, funcOk, validF, headOk, blockOk, Bool.not_eq_true', Bool.or_eq_false_iff, decide_eq_false_iff_not] at h
  obtain ⟨⟨h1, h2⟩, h3⟩ := h.2 c hc
  have hr : c.regs ≤ 3000 := by omega
  exact ⟨hr, fun b hb v hv => instrOk_of hr ((h2 b hb).1 v hv) (h3 b hb v hv), fun b hb => (h2 b hb).2, by omega, by omega⟩

theorem endOk_reg {c : VF} {b : Bl} (h : endOk c b = true) : 0 ≤ b.reg := by
  unfold endOk at h
  simp only [inBlk, inReg] at h
  grind
theorem endOk_tgt {c : VF} {b : Bl} (h : endOk c b = true) (e : b.en = 1 ∨ b.en = 2) : 0 ≤ b.tgt ∧ b.tgt < c.blocks.length := by
  unfold endOk at h
  simp only [inBlk, inReg] at h
  grind
theorem endOk_els {c : VF} {b : Bl} (h : endOk c b = true) (e : b.en = 2) : 0 ≤ b.els ∧ b.els < c.blocks.length := by
  unfold endOk at h
  simp only [inBlk, inReg] at h
  grind
/-- Nothing in a program is too long. -/
def PSm (l : List VF) : Prop := ∀ c ∈ l, c.Sm
theorem allowed_op {op : Int} (h : allowedF op = true) (h1 : op ≠ 3) (h2 : op ≠ 6) (h3 : op ≠ 9) (h4 : op ≠ 34) (h5 : op ≠ 35) : op ∈ [10, 11, 12, 13, 38, 15, 16, 33] ∨ (17 ≤ op ∧ op ≤ 32) := by
  simp only [allowedF, Bool.or_eq_true, Bool.and_eq_true, beq_iff_eq, decide_eq_true_eq] at h
  simp only [List.mem_cons, List.not_mem_nil, or_false]
  omega

theorem Inv.ops {l : List VF} {lens : List Int} {n : Nat} {s : St} (h : Inv l lens n s) (hp : progOk l lens = true) (hs : PSm l) (hn : n < 900000) : OpS l s := by
  have hf := funcOk_of hp h.top.f
  have hb : s.top.f.blocks.getD s.top.bi.toNat default ∈ s.top.f.blocks := getD_mem (by have := h.top.bi; omega)
  have hsm := (hs _ h.top.f).2 _ hb
  have hi := hf.ins _ hb
  refine ⟨⟨h.top.bi, endOk_reg (hf.en _ hb), h.top.to, by have := h.few; omega⟩, h.top.pc, fun v hv => (hi v hv).ra, fun v hv e => ?_, fun v hv e => ?_, fun v hv e1 e2 e3 e4 e5 => ?_, h.fuel, by have := h.few; omega, hsm.1⟩
  · obtain ⟨h1, h2, h3⟩ := (hi v hv).call e
    exact ⟨⟨h1, h2⟩, by have := (hi v hv).nargs; omega, fun a ha => ((hi v hv).args a ha).1⟩
  · exact ⟨(hi v hv).ra, (hi v hv).rb, by have := (hi v hv).mem e; rw [h.cells]; exact this⟩
  · exact ⟨(hi v hv).ra, (hi v hv).rb, (hi v hv).rc, allowed_op (hi v hv).al e1 e2 e3 e4 e5, fun e => by have := (hi v hv).par e; rw [h.top.args]; exact this⟩

theorem InvF.setR {l : List VF} {fr : Fr} (h : InvF l fr) (rs : List Int) : InvF l { fr with regs := rs } := ⟨h.f, h.bi, h.pc, h.args, h.to⟩
theorem Inv.mono {l : List VF} {lens : List Int} {n : Nat} {s : St} (h : Inv l lens n s) : Inv l lens (n + 1) s := ⟨h.top, h.rest, h.cells, by have := h.few; omega, h.fuel⟩
theorem Inv.stop {l : List VF} {lens : List Int} {n : Nat} {s : St} (h : Inv l lens n s) (k c v : Int) : Inv l lens n (s.stop k c v) := ⟨h.top, h.rest, h.cells, h.few, h.fuel⟩
theorem Inv.setR {l : List VF} {lens : List Int} {n : Nat} {s : St} (h : Inv l lens n s) (rs : List Int) : Inv l lens n (s.setR rs) := ⟨h.top.setR rs, h.rest, h.cells, h.few, h.fuel⟩
theorem Inv.term {l : List VF} {lens : List Int} {n : Nat} {s : St} (h : Inv l lens n s) (hp : progOk l lens = true) : Inv l lens n s.term := by
  have hf := funcOk_of hp h.top.f
  have hb : s.top.f.blocks.getD s.top.bi.toNat default ∈ s.top.f.blocks := getD_mem (by have := h.top.bi; omega)
  have he := hf.en _ hb
  unfold St.term
  dsimp only
  split
  · rename_i e
    exact ⟨⟨h.top.f, endOk_tgt he (.inl e), by simp, h.top.args, h.top.to⟩, h.rest, h.cells, h.few, h.fuel⟩
  split
  · rename_i e1 e
    refine ⟨⟨h.top.f, ?_, by simp, h.top.args, h.top.to⟩, h.rest, h.cells, h.few, h.fuel⟩
    show 0 ≤ ite _ _ _ ∧ ite _ _ _ < _
    split
    · exact endOk_tgt he (.inr e)
    · exact endOk_els he e
  split
  · split
    · exact h.stop _ _ _
    · rename_i p ps hr
      have hfew := h.few
      rw [hr] at hfew
      exact ⟨(h.rest p (by rw [hr]; simp)).setR _, fun fr hfr => h.rest fr (by rw [hr]; exact List.mem_cons_of_mem _ hfr), h.cells, by simp at hfew ⊢; omega, h.fuel⟩
  · exact h.stop _ _ _
theorem Inv.step {l : List VF} {lens : List Int} {n : Nat} {s : St} (h : Inv l lens n s) (hp : progOk l lens = true) : Inv l lens (n + 1) (s.step l) := by
  have hf := funcOk_of hp h.top.f
  have hb : s.top.f.blocks.getD s.top.bi.toNat default ∈ s.top.f.blocks := getD_mem (by have := h.top.bi; omega)
  have hpc := h.top.pc
  have hfew := h.few
  have hfu := h.fuel
  unfold St.step
  dsimp only
  split
  · exact (h.term hp).mono
  rename_i hne
  have hi := hf.ins _ hb _ (getD_mem (i := s.top.pc.toNat) (by omega))
  have h1 : Inv l lens n { s with top := { s.top with pc := s.top.pc + 1 } } := ⟨⟨h.top.f, h.top.bi, ⟨by show 0 ≤ s.top.pc + 1; omega, by show s.top.pc + 1 ≤ ((s.top.f.blocks.getD s.top.bi.toNat default).ins.length : Int); omega⟩, h.top.args, h.top.to⟩, h.rest, h.cells, h.few, h.fuel⟩
  split
  · split
    · exact (h1.stop _ _ _).mono
    · exact ⟨h1.top, h1.rest, h1.cells, by simp; omega, by simp; omega⟩
  split
  · rename_i e
    obtain ⟨g1, g2, g3⟩ := hi.call e
    have hm : l.getD ((s.top.f.blocks.getD s.top.bi.toNat default).ins.getD s.top.pc.toNat default).i.n.toNat default ∈ l := getD_mem (by omega)
    have hff := funcOk_of hp hm
    refine ⟨⟨hm, ⟨by simp, by simpa using hff.ne⟩, ⟨by simp, by simp⟩, by simp only [List.length_map]; exact g3, hi.ra⟩, fun fr hfr => ?_, h.cells, by simp; omega, h.fuel⟩
    rcases List.mem_cons.1 hfr with rfl | hfr
    · exact h1.top
    · exact h.rest fr hfr
  split
  · exact ⟨h1.top, h1.rest, h1.cells, by simp; omega, h.fuel⟩
  split
  · unfold St.acc
    dsimp only
    split
    · exact (h1.stop _ _ _).mono
    split
    · exact (h1.setR _).mono
    · exact ⟨h1.top, h1.rest, by simpa using h.cells, by simp; omega, h.fuel⟩
  · unfold St.comp
    split
    · exact (h1.setR _).mono
    · exact (h1.stop _ _ _).mono

/-- Some steps, at most n, till it is over. -/
def runN (l : List VF) : Nat → St → St
  | 0, s => s
  | n + 1, s => if s.over then s else runN l n (s.step l)
end Go.Abs
set_option linter.unusedSimpArgs false
set_option linter.unusedVariables false
set_option maxRecDepth 100000
namespace Go.Abs
variable {E : Env}

/-- A list of words that came by appending. -/
def outV (l : List Int) : AV := if l = [] then .nilsl else ints l
/-- The start. -/
def St.init (l : List VF) (lens : List Int) (f : Int) (args : List Int) (fuel : Int) : St := ⟨lens.map fun n => List.replicate n.toNat 0, ⟨l.getD f.toNat default, [], args, 0, 0, 0⟩, [], fuel, false, 0, 0, [], 0⟩
def runOk (l : List VF) (lens : List Int) (f : Int) (args : List Int) (fuel : Int) : Bool :=
  progOk l lens && decide (0 ≤ f) && decide (f < l.length) && decide ((args.length : Int) = (l.getD f.toNat default).params) && decide (0 ≤ fuel) && decide (fuel ≤ 1000)
/-- What a run gives. -/
structure Oc where
  kind : Int
  code : Int
  out : List Int
  val : Int
  deriving DecidableEq
def Oc.zero : Oc := ⟨0, 0, [], 0⟩
def Oc.cells (o : Oc) : List AV := [.int .i64 o.kind, .int .i64 o.code, outV o.out, .int .i64 o.val]
def runV (l : List VF) (lens : List Int) (f : Int) (args : List Int) (fuel most : Int) : Oc × Bool :=
  if runOk l lens f args fuel = true then
    let s := runN l most.toNat (St.init l lens f args fuel)
    if s.over = true then (⟨s.kind, s.code, s.out, s.val⟩, true) else (.zero, false)
  else (.zero, false)


section
variable {H : Heap} {K : AV → Heap → Prop}
theorem mk_app_sl {sz id len i2 n2 : Nat} {es es2 : Blk} (hid : H id = some es) (h2 : H i2 = some es2) (h0 : len ≤ es.length ∧ len + n2 ≤ appLim) (h1 : n2 ≤ es2.length)
    (h : ∀ new, Fresh H new → K (.sl sz new 0 (len + n2)) ((H.set id none).set new (some (es.take len ++ es2.take n2)))) : mkW (.app sz (.c (.sl sz id 0 len)) (.c (.sl sz i2 0 n2))) H K := fun new hn => by
  have e : ((es2.drop 0).take n2).length = n2 := by simp; omega
  have h3 : 0 + n2 ≤ es2.length := by omega
  simp only [aop, AOpd.ev, elems, h2, hid, h3, and_self, if_true, e]
  rw [if_pos ⟨trivial, trivial, h0⟩]
  exact h new hn
end

theorem rows_app {rids : List Nat} {cs : List (List Int)} (hl : rids.length = cs.length) (r : Nat) (x : List Int) : rowsOf (rids ++ [r]) (cs ++ [x]) = rowsOf rids cs ++ [[AV.sl 1 r 0 x.length]] := by
  unfold rowsOf; rw [List.zipWith_append hl]; rfl
theorem zip_app {rids : List Nat} {cs : List (List Int)} (hl : rids.length = cs.length) (r : Nat) (x : List Int) : List.zipWith (fun r (x : List Int) => (r, x.map icell)) (rids ++ [r]) (cs ++ [x]) = List.zipWith (fun r (x : List Int) => (r, x.map icell)) rids cs ++ [(r, x.map icell)] := by
  rw [List.zipWith_append hl]; rfl
theorem rows_len {rids : List Nat} {cs : List (List Int)} (hl : rids.length = cs.length) : (rowsOf rids cs).length = cs.length := by
  unfold rowsOf; simp [hl]

theorem cells_step {G : Heap} {r : Nat} {l : List VF} {cv : AV} {cid : Option Nat} {rids : List Nat} {c : Nat} {ks rv av ov : AV} {B : List (Nat × Blk)} {s : St} {H : Heap} {k : Heap → Prop} (h : RS ⟨G, r, l, cv, cid, rids⟩ c ks rv av ov B s H) {n : Int} (hn : 0 ≤ n ∧ n ≤ 16) (hlen : s.cells.length < 1000)
    (hk : ∀ H' cv' cid' rids', RS ⟨G, r, l, cv', cid', rids'⟩ c ks rv av ov B { s with cells := s.cells ++ [List.replicate n.toNat 0] } H' → k H') :
    mkW (.mksl 1 8 [.int .i64 0] (.c (.int .i64 n)) (.c (.int .i64 n))) H fun t75 H1 => mkW (.bsl 1 [.nilsl] 1 [(0, .c t75)]) H1 fun t76 H2 => mkW (.app 1 (.c cv) (.c t76)) H2 fun t77 H3 => mW (.st 1 (.c (.ptr r 0 1)) (.c t77)) H3 fun _ H4 => k H4 := by
  have hr : H r = some [rnc l cv ks s.fuel s.over s.kind s.code ov s.val] := h.hr
  refine mk_mksl ⟨rfl, hn.1, by simp [appLim]; omega⟩ fun n1 hn1 => ?_
  refine mk_bsl rfl fun n2 hn2 => ?_
  have hlt1 := hn1.lt hr
  have hlt2 := hn2.lt (Heap.set_same _ _ _)
  have hcv := h.hcv
  obtain ⟨hl, hcv⟩ := hcv
  have hz : (List.replicate n.toNat (0 : Int)).map icell = List.replicate n.toNat [AV.int .i64 0] := by simp [icell]
  have g1 := h.holds
  have hn20 : (H.set n1 (some (List.replicate n.toNat [AV.int .i64 0]))) n2 = none := hn2.none
  have hrow : ((H.set n1 (some (List.replicate n.toNat [AV.int .i64 0]))).set n2 (some [[AV.sl 1 n1 0 n.toNat]])) n2 = some [[AV.sl 1 n1 0 n.toNat]] := Heap.set_same _ _ _
  rcases hcv with ⟨h1, h2, h3⟩ | ⟨cd, h1, h3⟩
  · dsimp only at h1 h2 h3
    subst h1; subst h3
    rw [h2] at hl
    have hr0 : rids = [] := List.eq_nil_of_length_eq_zero hl
    refine mk_app_nil_sl hrow (by simp) (by decide) fun n3 hn3 => ?_
    have hlt3 := hn3.lt hrow
    simp (disch := omega) only [go_sem, Heap.get_ne, hr]
    refine ⟨by decide, hk _ (.sl 1 n3 0 1) (some n3) [n1] ⟨?_, h.hrv, h.hov, ⟨by simp [h2], .inr ⟨n3, by simp [h2], rfl⟩⟩, h.hav, h.sub, h.hov2⟩⟩
    have g2 := (((g1.new hn1 (b := List.replicate n.toNat [AV.int .i64 0])).more hn20 (b := some [[AV.sl 1 n1 0 n.toNat]])).new hn3 (b := [[AV.sl 1 n1 0 n.toNat]]))
    have g3 := g2.perm (b := (r, [rnc l .nilsl ks s.fuel s.over s.kind s.code ov s.val]) :: ((n3, [[AV.sl 1 n1 0 n.toNat]]) :: (n1, List.replicate n.toNat [AV.int .i64 0]) :: (((c, [frc s.top.f rv av s.top.bi s.top.pc s.top.to]) :: ownL rv s.top.regs) ++ (ownL ov s.out ++ B)))) (by
      refine perm_of_count fun i _ a => ?_
      simp only [cellsL, List.count_append, List.count_cons, List.count_nil]; omega)
    refine (g3.set (b' := [rnc l (.sl 1 n3 0 1) ks s.fuel s.over s.kind s.code ov s.val])).perm (perm_of_count fun i _ a => ?_)
    rw [h2]
    simp only [cellsL, rowsOf, List.nil_append, List.zipWith_cons_cons, List.zipWith_nil_left, hz, List.length_replicate, List.count_append, List.count_cons, List.count_nil]; omega
  · dsimp only at h1 h3
    subst h1; subst h3
    have hcd : H cd = some (rowsOf rids s.cells) := g1.get (by simp [cellsL])
    have hltc := hn1.lt hcd
    refine mk_app_sl (by rw [Heap.get_ne _ _ _ _ (by omega), Heap.get_ne _ _ _ _ (by omega)]; exact hcd) hrow ⟨by rw [rows_len hl]; exact Nat.le_refl _, by simp [appLim]; omega⟩ (by simp) fun n3 hn3 => ?_
    have hlt3 := hn3.lt hrow
    have hner : r ≠ cd := by
      have h3 := g1.right.to.1
      simp only [cellsL, List.map_cons, List.map_append, List.nodup_cons, List.mem_append, List.mem_cons, not_or] at h3
      exact h3.1.2.1.1
    simp (disch := omega) only [go_sem, Heap.get_ne, hr]
    refine ⟨by decide, hk _ (.sl 1 n3 0 (s.cells.length + 1)) (some n3) (rids ++ [n1]) ⟨?_, h.hrv, h.hov, ⟨by simp [hl], .inr ⟨n3, by simp, rfl⟩⟩, h.hav, h.sub, h.hov2⟩⟩
    have g2 := ((g1.new hn1 (b := List.replicate n.toNat [AV.int .i64 0])).more hn20 (b := some [[AV.sl 1 n1 0 n.toNat]]))
    have g3 := g2.perm (b := (cd, rowsOf rids s.cells) :: ((r, [rnc l (.sl 1 cd 0 s.cells.length) ks s.fuel s.over s.kind s.code ov s.val]) :: (n1, List.replicate n.toNat [AV.int .i64 0]) :: (List.zipWith (fun r (x : List Int) => (r, x.map icell)) rids s.cells ++ (((c, [frc s.top.f rv av s.top.bi s.top.pc s.top.to]) :: ownL rv s.top.regs) ++ (ownL ov s.out ++ B))))) (by
      refine perm_of_count fun i _ a => ?_
      simp only [cellsL, List.count_append, List.count_cons, List.count_nil]; omega)
    have g4 := g3.move hn3 (b' := rowsOf rids s.cells ++ [[AV.sl 1 n1 0 n.toNat]])
    have g5 := g4.perm (b := (r, [rnc l (.sl 1 cd 0 s.cells.length) ks s.fuel s.over s.kind s.code ov s.val]) :: ((n3, rowsOf rids s.cells ++ [[AV.sl 1 n1 0 n.toNat]]) :: (n1, List.replicate n.toNat [AV.int .i64 0]) :: (List.zipWith (fun r (x : List Int) => (r, x.map icell)) rids s.cells ++ (((c, [frc s.top.f rv av s.top.bi s.top.pc s.top.to]) :: ownL rv s.top.regs) ++ (ownL ov s.out ++ B))))) (by
      refine perm_of_count fun i _ a => ?_
      simp only [List.count_append, List.count_cons, List.count_nil]; omega)
    rw [List.take_of_length_le (by rw [rows_len hl]; exact Nat.le_refl _)]
    refine (g5.set (b' := [rnc l (.sl 1 n3 0 (s.cells.length + 1)) ks s.fuel s.over s.kind s.code ov s.val])).perm (perm_of_count fun i _ a => ?_)
    simp only [cellsL, rows_app hl, zip_app hl, hz, List.length_replicate, List.count_append, List.count_cons, List.count_nil]; omega


set_option maxHeartbeats 4000000 in
theorem run0 (hE : E.Good) (hF : E.Fits tab) {G : Heap} {id : Nat} (hid : G id = some [[.int .i64 0, .int .i64 0, .nilsl, .int .i64 0]]) {l : List VF} {lens args : List Int} {f fuel most : Int} (hok : runOk l lens f args fuel = true) (hsm : PSm l)
    (hmost : most < 900000) {R : AV → Heap → Prop} (hR : ∀ H', (∀ k b, G k = some b → k ≠ id → H' k = some b) → RetC R (.tup [.agg (runV l lens f args fuel most).1.cells, .bool (runV l lens f args fuel most).2]) H') :
    atW (m13_0 E R) [vfs l, ints lens, .int .i64 f, ints args, .int .i64 fuel, .int .i64 most, .ptr id 0 0] G := by
  have hok' := hok
  simp only [runOk, Bool.and_eq_true, decide_eq_true_eq] at hok'
  obtain ⟨⟨⟨⟨⟨hp, hf1⟩, hf2⟩, ha⟩, hfu1⟩, hfu2⟩ := hok'
  have hlens : lens.length ≤ 4 := by
    simp only [progOk, progHead, Bool.and_eq_true, Bool.not_eq_true', Bool.or_eq_false_iff, decide_eq_false_iff_not] at hp
    omega
  have hlen1 : ∀ n ∈ lens, 0 ≤ n ∧ n ≤ 16 := fun n hn => by
    simp only [progOk, Bool.and_eq_true, List.all_eq_true, lenOk, decide_eq_true_eq] at hp
    have := hp.1.2 n hn; omega
  skip
  refine at_here ?_; unfold m13_0 w13_0
  repeat' (first | ((with_reducible refine cond_mk (fun hb => ?_) (fun hb => ?_)) <;> ((try simp only [if_true, if_false, qq, reduceCtorEq] at hb); (try (exfalso; first | (exact hb) | contradiction | omega)))) | ((with_reducible refine grp_mk ?_ (fun hb => ?_) (fun _ => ?_)) <;> (try simp only [if_true, if_false, qq, reduceCtorEq] at hb)) | ((with_reducible refine mk_alloc (fun id hid => ?_)); have hid0 := hid.none; (try have hlt := hid.lt (Heap.set_same _ _ _))) | ((with_reducible refine mk_box ?_ (fun id hid => ?_)); (simp only [go_sem]; done); have hid0 := hid.none; (try have hlt := hid.lt (Heap.set_same _ _ _))) | ((with_reducible refine And.intro ?_ ?_); (first | decide | omega)) | ((with_reducible refine at_here ?_); first | unfold m13_2 w13_2 | unfold m13_6 w13_6 | unfold m13_5 w13_5 | unfold m13_3 w13_3 | unfold m13_0 w13_0) | (simp (disch := omega) only [go_sem, Heap.get_ne, wrap64_id, Nat.reduceAdd, Nat.reduceLeDiff, Nat.reduceSub, Nat.reduceEqDiff, Int.reduceLT, Int.reduceLE, Int.reduceEq]) | (with_reducible rfl) | ((with_reducible refine And.intro ?_ ?_) <;> (with_reducible rfl)))
  refine ⟨rfl, ?_⟩
  refine mk_box rfl fun c hc => ?_
  refine mk_bsl rfl fun cl hcl => ?_
  repeat' (first | ((with_reducible refine cond_mk (fun hb => ?_) (fun hb => ?_)) <;> ((try simp only [if_true, if_false, qq, reduceCtorEq] at hb); (try (exfalso; first | (exact hb) | contradiction | omega)))) | ((with_reducible refine grp_mk ?_ (fun hb => ?_) (fun _ => ?_)) <;> (try simp only [if_true, if_false, qq, reduceCtorEq] at hb)) | ((with_reducible refine mk_alloc (fun id hid => ?_)); have hid0 := hid.none; (try have hlt := hid.lt (Heap.set_same _ _ _))) | ((with_reducible refine mk_box ?_ (fun id hid => ?_)); (simp only [go_sem]; done); have hid0 := hid.none; (try have hlt := hid.lt (Heap.set_same _ _ _))) | ((with_reducible refine And.intro ?_ ?_); (first | decide | omega)) | ((with_reducible refine at_here ?_); first | unfold m13_6 w13_6 | unfold m13_5 w13_5 | unfold m13_0 w13_0) | (simp (disch := omega) only [go_sem, Heap.get_ne, wrap64_id, Nat.reduceAdd, Nat.reduceLeDiff, Nat.reduceSub, Nat.reduceEqDiff, Int.reduceLT, Int.reduceLE, Int.reduceEq]) | (with_reducible rfl) | ((with_reducible refine And.intro ?_ ?_) <;> (with_reducible rfl)))
  refine ⟨rfl, ?_⟩
  refine mk_box rfl fun r hr => ?_
  repeat' (first | ((with_reducible refine cond_mk (fun hb => ?_) (fun hb => ?_)) <;> ((try simp only [if_true, if_false, qq, reduceCtorEq] at hb); (try (exfalso; first | (exact hb) | contradiction | omega)))) | ((with_reducible refine grp_mk ?_ (fun hb => ?_) (fun _ => ?_)) <;> (try simp only [if_true, if_false, qq, reduceCtorEq] at hb)) | ((with_reducible refine mk_alloc (fun id hid => ?_)); have hid0 := hid.none; (try have hlt := hid.lt (Heap.set_same _ _ _))) | ((with_reducible refine mk_box ?_ (fun id hid => ?_)); (simp only [go_sem]; done); have hid0 := hid.none; (try have hlt := hid.lt (Heap.set_same _ _ _))) | ((with_reducible refine And.intro ?_ ?_); (first | decide | omega)) | ((with_reducible refine at_here ?_); first | unfold m13_6 w13_6 | unfold m13_5 w13_5 | unfold m13_0 w13_0) | (simp (disch := omega) only [go_sem, Heap.get_ne, wrap64_id, Nat.reduceAdd, Nat.reduceLeDiff, Nat.reduceSub, Nat.reduceEqDiff, Int.reduceLT, Int.reduceLE, Int.reduceEq]) | (with_reducible rfl) | ((with_reducible refine And.intro ?_ ?_) <;> (with_reducible rfl)))
  let s0 : Nat → St := fun i => ⟨(lens.take i).map fun n => List.replicate n.toNat 0, ⟨l.getD f.toNat default, [], args, 0, 0, 0⟩, [], fuel, false, 0, 0, [], 0⟩
  have g0 : HoldsG G G [] := ⟨⟨by simp, by simp⟩, fun k b h => ⟨h, by simp⟩⟩
  have g1 := ((g0.new hc (b := [frc (l.getD f.toNat default) .nilsl (ints args) 0 0 0])).new hcl (b := [[AV.ptr c 0 0]])).new hr (b := [rnc l .nilsl (.sl 1 cl 0 1) fuel false 0 0 .nilsl 0])
  refine loop_mk (σ := Nat) (fun i => [.int .i64 most, .ptr id 0 0, .ptr r 0 0, ints lens, .int .i64 lens.length, .int .i64 i])
    (fun i H' => i ≤ lens.length ∧ ∃ cv cid rids, RS ⟨G, r, l, cv, cid, rids⟩ c (.sl 1 cl 0 1) .nilsl (ints args) .nilsl (ownL (ints args) args ++ ((cl, callRows [] c []) :: stkL [])) (s0 i) H') (fun i => lens.length - i) 0 rfl ⟨Nat.zero_le _, .nilsl, none, [], ?_⟩ ?_
  · refine ⟨?_, .inl ⟨rfl, rfl⟩, .inl ⟨rfl, rfl⟩, ⟨rfl, .inl ⟨rfl, rfl, rfl⟩⟩, .inl rfl, fun p hp => by simp [ownL, ints] at hp, fun _ => rfl⟩
    refine g1.perm (perm_of_count fun i _ a => ?_)
    simp only [ownL_nil, cellsL, stkL, callRows, ownL, ints, List.count_append, List.count_cons, List.count_nil]
    simp only [s0, List.reverse_nil, List.map_nil, List.nil_append]
    omega
  · rintro i H K ⟨hi, cv, cid, rids, h⟩ hK
    have hr := h.hr
    unfold l13_1 w13_1; simp only [go_sem]
    repeat' (first | ((with_reducible refine cond_mk (fun hb => ?_) (fun hb => ?_)) <;> ((try simp only [if_true, if_false, qq, reduceCtorEq] at hb); (try (exfalso; first | (exact hb) | contradiction | omega)))) | ((with_reducible refine grp_mk ?_ (fun hb => ?_) (fun _ => ?_)) <;> (try simp only [if_true, if_false, qq, reduceCtorEq] at hb)) | ((with_reducible refine mk_alloc (fun id hid => ?_)); have hid0 := hid.none; (try have hlt := hid.lt (Heap.set_same _ _ _))) | ((with_reducible refine mk_box ?_ (fun id hid => ?_)); (simp only [go_sem]; done); have hid0 := hid.none; (try have hlt := hid.lt (Heap.set_same _ _ _))) | ((with_reducible refine And.intro ?_ ?_); (first | decide | omega)) | ((with_reducible refine at_here ?_); first | unfold m13_2 w13_2 | unfold m13_6 w13_6 | unfold m13_5 w13_5 | unfold m13_3 w13_3 | unfold m13_0 w13_0) | (simp (disch := omega) only [go_sem, Heap.get_ne, wrap64_id, Nat.reduceAdd, Nat.reduceLeDiff, Nat.reduceSub, Nat.reduceEqDiff, Int.reduceLT, Int.reduceLE, Int.reduceEq, hr]) | (with_reducible rfl) | ((with_reducible refine And.intro ?_ ?_) <;> (with_reducible rfl)))
    · have hil : i < lens.length := by omega
      have hn := hlen1 _ (getD_mem (α := Int) hil)
      refine cells_step h hn (by simp [s0]; omega) fun H' cv' cid' rids' h' => ?_
      repeat' (first | ((with_reducible refine cond_mk (fun hb => ?_) (fun hb => ?_)) <;> ((try simp only [if_true, if_false, qq, reduceCtorEq] at hb); (try (exfalso; first | (exact hb) | contradiction | omega)))) | ((with_reducible refine grp_mk ?_ (fun hb => ?_) (fun _ => ?_)) <;> (try simp only [if_true, if_false, qq, reduceCtorEq] at hb)) | ((with_reducible refine mk_alloc (fun id hid => ?_)); have hid0 := hid.none; (try have hlt := hid.lt (Heap.set_same _ _ _))) | ((with_reducible refine mk_box ?_ (fun id hid => ?_)); (simp only [go_sem]; done); have hid0 := hid.none; (try have hlt := hid.lt (Heap.set_same _ _ _))) | ((with_reducible refine And.intro ?_ ?_); (first | decide | omega)) | ((with_reducible refine at_here ?_); first | unfold m13_2 w13_2 | unfold m13_6 w13_6 | unfold m13_5 w13_5 | unfold m13_3 w13_3 | unfold m13_0 w13_0) | (simp (disch := omega) only [go_sem, Heap.get_ne, wrap64_id, Nat.reduceAdd, Nat.reduceLeDiff, Nat.reduceSub, Nat.reduceEqDiff, Int.reduceLT, Int.reduceLE, Int.reduceEq]) | (with_reducible rfl) | ((with_reducible refine And.intro ?_ ?_) <;> (with_reducible rfl)))
      refine at_eq (hK (i + 1) _ ⟨hil, cv', cid', rids', h'.cast ?_⟩ (by omega)) rfl
      have ex : (lens.take (i + 1)).map (fun n => List.replicate n.toNat (0 : Int)) = (lens.take i).map (fun n => List.replicate n.toNat (0 : Int)) ++ [List.replicate (lens.getD i 0).toNat 0] := by
        rw [List.take_add_one, List.map_append, List.getElem?_eq_getElem hil]
        simp [List.getD, List.getElem?_eq_getElem hil]
      simp only [s0, ex]
    · have hia : i = lens.length := by omega
      subst hia
      have hs0 : s0 lens.length = St.init l lens f args fuel := by simp only [s0, St.init, List.take_length]
      have hI : Inv l lens 0 (St.init l lens f args fuel) := by
        have hm : l.getD f.toNat default ∈ l := getD_mem (by omega)
        have hff := funcOk_of hp hm
        exact ⟨⟨hm, ⟨by simp [St.init], by simpa [St.init] using hff.ne⟩, ⟨by simp [St.init], by simp [St.init]⟩, ha, by simp [St.init]⟩, fun fr hfr => by simp [St.init] at hfr, by simp [St.init], by simp [St.init], by simp [St.init]; omega⟩
      rw [hs0] at h
      have hP : RP ⟨G, r, l, cv, cid, rids⟩ (St.init l lens f args fuel) H := ⟨c, cl, [], .nilsl, ints args, .nilsl, [], rfl, fun p hp => by simp at hp, h⟩
      clear hK
      refine loop_mk (σ := Nat) (fun k => [.int .i64 most, .ptr id 0 0, .ptr r 0 0, .int .i64 k])
        (fun k H' => k ≤ most.toNat ∧ ∃ s, RP ⟨G, r, l, cv, cid, rids⟩ s H' ∧ Inv l lens k s ∧ runN l (most.toNat - k) s = runN l most.toNat (St.init l lens f args fuel)) (fun k => most.toNat - k) 0 rfl ⟨Nat.zero_le _, _, hP, hI, rfl⟩ ?_
      rintro k H K ⟨hk, s, ⟨c, cl, junk, rv, av, ov, rs, hs⟩, hI, hrun⟩ hK
      have hr := hs.rs.hr
      unfold l13_4 w13_4; simp only [go_sem]
      have hk9 : k < 900000 := by omega
      repeat' (first | ((with_reducible refine cond_mk (fun hb => ?_) (fun hb => ?_)) <;> ((try simp only [if_true, if_false, qq, reduceCtorEq] at hb); (try (exfalso; first | (exact hb) | contradiction | omega)))) | ((with_reducible refine grp_mk ?_ (fun hb => ?_) (fun _ => ?_)) <;> (try simp only [if_true, if_false, qq, reduceCtorEq] at hb)) | ((with_reducible refine call_any (step_spec hE hF hs (hI.ops hp hsm hk9)) ?_); rintro _ _ hsm ⟨rfl, hR2⟩) | ((with_reducible refine mk_alloc (fun id hid => ?_)); have hid0 := hid.none; (try have hlt := hid.lt (Heap.set_same _ _ _))) | ((with_reducible refine mk_box ?_ (fun id hid => ?_)); (simp only [go_sem]; done); have hid0 := hid.none; (try have hlt := hid.lt (Heap.set_same _ _ _))) | ((with_reducible refine And.intro ?_ ?_); (first | decide | omega)) | ((with_reducible refine at_here ?_); first | unfold m13_2 w13_2 | unfold m13_3 w13_3 | unfold m13_0 w13_0) | (simp (disch := omega) only [go_sem, Heap.get_ne, wrap64_id, Nat.reduceAdd, Nat.reduceLeDiff, Nat.reduceSub, Nat.reduceEqDiff, Int.reduceLT, Int.reduceLE, Int.reduceEq, hr]) | (with_reducible rfl) | ((with_reducible refine And.intro ?_ ?_) <;> (with_reducible rfl)))
      · obtain ⟨hb1, hb2⟩ := hb
        refine at_eq (hK (k + 1) _ ⟨by omega, s.step l, hR2, hI.step hp, ?_⟩ (by omega)) rfl
        rw [← hrun]
        have e : most.toNat - k = (most.toNat - (k + 1)) + 1 := by omega
        rw [e, runN, hb2]; rfl
      · have hfin : runN l most.toNat (St.init l lens f args fuel) = s := by
          rw [← hrun]
          rcases hb with hb | hb
          · have : most.toNat - k = 0 := by omega
            rw [this]; rfl
          · cases most.toNat - k with
            | zero => rfl
            | succ n => rw [runN, hb]; rfl
        have hv : runV l lens f args fuel most = if s.over = true then (⟨s.kind, s.code, s.out, s.val⟩, true) else (.zero, false) := by
          unfold runV; rw [if_pos hok, hfin]
        have hid' := (hs.rs.holds.kp id _ hid).1
        have hidr : id ≠ r := fun e => (hs.rs.holds.kp id _ hid).2 (by rw [e]; simp)
        clear hK
        refine at_here ?_; unfold m13_5 w13_5
        repeat' (first | ((with_reducible refine cond_mk (fun hb => ?_) (fun hb => ?_)) <;> ((try simp only [if_true, if_false, qq, reduceCtorEq] at hb); (try (exfalso; first | (exact hb) | contradiction | omega)))) | ((with_reducible refine grp_mk ?_ (fun hb => ?_) (fun _ => ?_)) <;> (try simp only [if_true, if_false, qq, reduceCtorEq] at hb)) | ((with_reducible refine mk_alloc (fun id hid => ?_)); have hid0 := hid.none; (try have hlt := hid.lt (Heap.set_same _ _ _))) | ((with_reducible refine mk_box ?_ (fun id hid => ?_)); (simp only [go_sem]; done); have hid0 := hid.none; (try have hlt := hid.lt (Heap.set_same _ _ _))) | ((with_reducible refine And.intro ?_ ?_); (first | decide | omega)) | ((with_reducible refine at_here ?_); first | unfold m13_2 w13_2 | unfold m13_6 w13_6 | unfold m13_5 w13_5 | unfold m13_3 w13_3 | unfold m13_0 w13_0) | (simp (disch := omega) only [go_sem, Heap.get_ne, wrap64_id, Nat.reduceAdd, Nat.reduceLeDiff, Nat.reduceSub, Nat.reduceEqDiff, Int.reduceLT, Int.reduceLE, Int.reduceEq, hr, hid', Nat.zero_add]) | (with_reducible rfl) | ((with_reducible refine And.intro ?_ ?_) <;> (with_reducible rfl)))
        · have h9 := hR (H.set id (some [[.int .i64 0, .int .i64 0, .nilsl, .int .i64 0]])) (fun k b hk hne => by rw [Heap.get_ne _ _ _ _ hne]; exact (hs.rs.holds.kp k b hk).1)
          rw [hv, if_neg (by simp [hb])] at h9
          exact h9
        · rcases hs.rs.hov with ⟨rfl, ho⟩ | ⟨i2, rfl⟩
          · have h9 := hR (H.set id (some [[.int .i64 s.kind, .int .i64 s.code, .nilsl, .int .i64 s.val]])) (fun k b hk hne => by rw [Heap.get_ne _ _ _ _ hne]; exact (hs.rs.holds.kp k b hk).1)
            rw [hv, if_pos hb, ho] at h9
            exact h9
          · have hne : s.out ≠ [] := fun e => by have := hs.rs.hov2 e; simp at this
            have hm2 : (i2, s.out.map icell) ∈ ((c, [frc s.top.f rv av s.top.bi s.top.pc s.top.to]) :: ownL rv s.top.regs) ++ ((r, [rnc l cv (.sl 1 cl 0 (rs.length + 1)) s.fuel s.over s.kind s.code (.sl 1 i2 0 s.out.length) s.val]) :: (ownL (.sl 1 i2 0 s.out.length) s.out ++ (cellsL cid rids s.cells ++ (ownL av s.top.args ++ ((cl, callRows rs c junk) :: stkL rs))))) := by simp [ownL]
            have hg2 := hs.rs.holds.get hm2
            have hn2 : ∀ k b, G k = some b → k ≠ i2 := fun k b hk e => (hs.rs.holds.kp k b hk).2 (by subst e; exact List.mem_map.2 ⟨_, hm2, rfl⟩)
            have hi2 : i2 ≠ id := fun e => hn2 id _ hid e.symm
            have h9 := hR ((H.set id (some [[.int .i64 s.kind, .int .i64 s.code, .sl 1 i2 0 s.out.length, .int .i64 s.val]])).set i2 none) (fun k b hk hne => by rw [Heap.get_ne _ _ _ _ (hn2 k b hk), Heap.get_ne _ _ _ _ hne]; exact (hs.rs.holds.kp k b hk).1)
            rw [hv, if_pos hb] at h9
            refine .frz i2 (s.out.map icell) _ (by rw [Heap.get_ne _ _ _ _ hi2]; exact hg2) (fun _ => .inr ?_) h9
            simp [frz, frz0, frz1, Oc.cells, outV, hne, ints]
            rw [List.take_of_length_le (by simp)]

set_option maxHeartbeats 4000000 in
theorem run_spec (hE : E.Good) (hF : E.Fits tab) (l : List VF) (lens : List Int) (f : Int) (args : List Int) (fuel most : Int) (hmost : most < 900000) :
    PF E 13 [vfs l, ints lens, .int .i64 f, ints args, .int .i64 fuel, .int .i64 most] (.tup [.agg (runV l lens f args fuel most).1.cells, .bool (runV l lens f args fuel most).2]) := by
  intro H
  refine acall_small fun hs => ?_
  have hsm : PSm l := (small_vfs (hs _ (by simp))).2
  have hlenl := (small_vfs (hs (vfs l) (by simp))).1
  have hlens := small_ints (hs (ints lens) (by simp))
  have hargs := small_ints (hs (ints args) (by simp))
  clear hs
  refine ent13 hE hF _ _ _ _ _ _ _ _ ?_; unfold w13
  repeat' (first | ((with_reducible refine cond_mk (fun hb => ?_) (fun hb => ?_)) <;> ((try simp only [if_true, if_false, qq, reduceCtorEq] at hb); (try (exfalso; first | (exact hb) | contradiction | omega)))) | ((with_reducible refine grp_mk ?_ (fun hb => ?_) (fun _ => ?_)) <;> (try simp only [if_true, if_false, qq, reduceCtorEq] at hb)) | ((with_reducible refine call_pure (prog_spec hE hF _ _) ?_); intro _) | ((with_reducible refine pc_pure (prog_spec hE hF _ _) ?_)) | ((with_reducible refine dcall_pure0 (prog_spec hE hF _ _) ?_)) | ((with_reducible refine mk_alloc (fun id hid => ?_)); have hid0 := hid.none; (try have hlt := hid.lt (Heap.set_same _ _ _))) | ((with_reducible refine mk_box ?_ (fun id hid => ?_)); (simp only [go_sem]; done); have hid0 := hid.none; (try have hlt := hid.lt (Heap.set_same _ _ _))) | ((with_reducible refine And.intro ?_ ?_); (first | decide | omega)) | ((with_reducible refine at_here ?_); unfold m13_2 w13_2) | (simp (disch := omega) only [go_sem, Heap.get_ne, wrap64_id, Nat.reduceAdd, Nat.reduceLeDiff, Nat.reduceSub, Nat.reduceEqDiff, Int.reduceLT, Int.reduceLE, Int.reduceEq]) | (with_reducible rfl) | ((with_reducible refine And.intro ?_ ?_) <;> (with_reducible rfl)))
  · have e : runV l lens f args fuel most = (.zero, false) := by
      unfold runV
      rw [if_neg]
      simp only [runOk, Bool.and_eq_true, decide_eq_true_eq]
      rcases hb with ((((hb | hb) | hb) | hb) | hb) | hb
      · simp [hb]
      all_goals omega
    (with_reducible refine ret_q ?_)
    rw [e]; rfl
  · refine run0 hE hF (Heap.set_same _ _ _) ?_ hsm hmost fun H' hH' => ret_le (VLe.refl _) (fun k => ?_) ⟨rfl, rfl⟩
    · simp only [runOk, Bool.and_eq_true, decide_eq_true_eq]
      exact hb
    · cases e : H k with
      | none => exact .inl rfl
      | some b =>
        have hk := hid.ne e
        refine .inr ?_
        exact (hH' k b (by rw [Heap.get_ne _ _ _ _ hk]; exact e) hk).symm
end Go.Abs
/- Plain laws of a run: more steps, more registers, blocks that nothing reaches. -/
namespace Go.Abs

theorem runN_over {l : List VF} : ∀ (n : Nat) {s : St}, s.over = true → runN l n s = s
  | 0, _, _ => rfl
  | n + 1, s, h => by unfold runN; rw [if_pos h]

/-- A function with k registers more and a block more that nothing reaches. -/
def extF (k : Int) (c : VF) : VF := { c with regs := c.regs + k, blocks := c.blocks ++ [⟨[], 4, 0, 77, 0⟩] }
def extFr (k : Int) (fr : Fr) : Fr := { fr with f := extF k fr.f }
def extS (k : Int) (s : St) : St := { s with top := extFr k s.top, rest := s.rest.map (extFr k) }



end Go.Abs
/- Steps of a run, counted. -/
namespace Go.Abs

def iter (l : List VF) : Nat → St → St
  | 0, s => s
  | k + 1, s => iter l k (s.step l)
theorem iter_add {l : List VF} : ∀ (a b : Nat) (s : St), iter l (a + b) s = iter l b (iter l a s)
  | 0, b, s => by rw [Nat.zero_add]; rfl
  | a + 1, b, s => by rw [Nat.add_right_comm]; exact iter_add a b _
/-- k steps lead from s to s'; none of them starts where it is over. -/
structure Prog (l : List VF) (k : Nat) (s s' : St) : Prop where
  eq : iter l k s = s'
  on : ∀ j < k, (iter l j s).over = false
theorem Prog.refl (l : List VF) (s : St) : Prog l 0 s s := ⟨rfl, by omega⟩
theorem Prog.one {l : List VF} {s : St} (h : s.over = false) : Prog l 1 s (s.step l) := ⟨rfl, fun j hj => by
  have : j = 0 := by omega
  subst this; exact h⟩
theorem Prog.trans {l : List VF} {a b : Nat} {s t u : St} (h : Prog l a s t) (k : Prog l b t u) : Prog l (a + b) s u := by
  refine ⟨by rw [iter_add, h.eq, k.eq], fun j hj => ?_⟩
  by_cases e : j < a
  · exact h.on j e
  · have := k.on (j - a) (by omega)
    rw [← h.eq, ← iter_add] at this
    rwa [show a + (j - a) = j by omega] at this
theorem Prog.run {l : List VF} : ∀ {k : Nat} {s s' : St} (m : Nat), Prog l k s s' → runN l (k + m) s = runN l m s'
  | 0, s, s', m, h => by have := h.eq; rw [Nat.zero_add]; unfold iter at this; rw [this]
  | k + 1, s, s', m, h => by
    have h0 : s.over = false := h.on 0 (by omega)
    have h1 : Prog l k (s.step l) s' := ⟨h.eq, fun j hj => h.on (j + 1) (by omega)⟩
    rw [Nat.add_right_comm]
    conv => lhs; unfold runN
    rw [h0]
    exact Prog.run m h1

/-- All words are in range. -/
structure FrW (fr : Fr) : Prop where
  regs : ∀ x ∈ fr.regs, I64 x
  args : ∀ x ∈ fr.args, I64 x
structure StW (s : St) : Prop where
  cells : ∀ row ∈ s.cells, ∀ x ∈ row, I64 x
  top : FrW s.top
  rest : ∀ fr ∈ s.rest, FrW fr
def ProgW (l : List VF) : Prop := ∀ c ∈ l, ∀ b ∈ c.blocks, ∀ v ∈ b.ins, I64 v.i.n

theorem getD_in {l : List Int} (h : ∀ x ∈ l, I64 x) (n : Nat) : I64 (l.getD n 0) := by
  by_cases hn : n < l.length
  · have e : l.getD n 0 = l[n] := by simp [List.getD, hn]
    rw [e]; exact h _ (List.getElem_mem hn)
  · rw [List.getD, List.getElem?_eq_none (by omega)]; exact I64_0
theorem lset_in {l : List Int} (h : ∀ x ∈ l, I64 x) (n : Nat) {y : Int} (hy : I64 y) : ∀ x ∈ lset l n y, I64 x := fun x hx => by
  unfold lset at hx
  rcases List.mem_or_eq_of_mem_set hx with hx | rfl
  · rcases List.mem_append.1 hx with hx | hx
    · exact h x hx
    · have := (List.mem_replicate.1 hx).2; subst this; exact I64_0
  · exact hy
theorem wun_in (o a : Int) : I64 (wun o a) := by unfold wun; split <;> exact W64_in _
theorem exec1_in {i : MI} {args regs rs : List Int} (hn : I64 i.n) (ha : ∀ x ∈ args, I64 x) (hr : ∀ x ∈ regs, I64 x) (h : exec1 i args regs = some rs) : ∀ x ∈ rs, I64 x := by
  unfold exec1 at h
  split at h
  · cases h; exact lset_in hr _ (getD_in hr _)
  split at h
  · cases h; split
    · exact lset_in hr _ (getD_in hr _)
    · exact hr
  split at h
  · cases h; split
    · exact lset_in hr _ (getD_in hr _)
    · exact hr
  split at h
  · cases h; exact lset_in hr _ hn
  split at h
  · cases h; exact lset_in hr _ (getD_in ha _)
  split at h
  · cases h; exact lset_in hr _ (wun_in _ _)
  split at h
  · cases h; exact lset_in hr _ (W64_in _)
  split at h
  · cases h
  · cases h; exact lset_in hr _ (wbin_in _ _ (getD_in hr _))
theorem row_in {c : List (List Int)} (h : ∀ row ∈ c, ∀ x ∈ row, I64 x) (n : Nat) : ∀ x ∈ c.getD n [], I64 x := by
  by_cases hn : n < c.length
  · have e : c.getD n [] = c[n] := by simp [List.getD, hn]
    rw [e]; exact h _ (List.getElem_mem hn)
  · rw [List.getD, List.getElem?_eq_none (by omega)]; intro x hx; cases hx
theorem StW.term {s : St} (h : StW s) : StW s.term := by
  unfold St.term
  dsimp only
  split
  · exact ⟨h.cells, ⟨h.top.regs, h.top.args⟩, h.rest⟩
  split
  · exact ⟨h.cells, ⟨h.top.regs, h.top.args⟩, h.rest⟩
  split
  · split
    · exact ⟨h.cells, h.top, h.rest⟩
    · rename_i p ps e
      have hp := h.rest p (by rw [e]; exact List.mem_cons_self)
      exact ⟨h.cells, ⟨lset_in hp.regs _ (getD_in h.top.regs _), hp.args⟩, fun fr hf => h.rest fr (by rw [e]; exact List.mem_cons_of_mem _ hf)⟩
  · exact ⟨h.cells, h.top, h.rest⟩
theorem StW.step {l : List VF} {lens : List Int} {n : Nat} {s : St} (hi : Inv l lens n s) (hw : ProgW l) (h : StW s) : StW (s.step l) := by
  have hb : s.top.bi.toNat < s.top.f.blocks.length := by have := hi.top.bi; omega
  have hpc := hi.top.pc
  unfold St.step
  dsimp only
  split
  · exact h.term
  rename_i hne
  have hN : I64 ((s.top.f.blocks.getD s.top.bi.toNat default).ins.getD s.top.pc.toNat default).i.n := hw _ hi.top.f _ (getD_mem hb) _ (getD_mem (by omega))
  have h1 : StW { s with top := { s.top with pc := s.top.pc + 1 } } := ⟨h.cells, ⟨h.top.regs, h.top.args⟩, h.rest⟩
  split
  · split
    · exact ⟨h1.cells, h1.top, h1.rest⟩
    · exact ⟨h1.cells, h1.top, h1.rest⟩
  split
  · refine ⟨h.cells, ⟨fun x hx => (by cases hx), fun x hx => ?_⟩, fun fr hf => ?_⟩
    · obtain ⟨a, -, rfl⟩ := List.mem_map.1 hx; exact getD_in h.top.regs _
    · rcases List.mem_cons.1 hf with rfl | hf
      · exact h1.top
      · exact h.rest fr hf
  split
  · exact ⟨h1.cells, h1.top, h1.rest⟩
  split
  · unfold St.acc
    dsimp only
    split
    · exact ⟨h1.cells, h1.top, h1.rest⟩
    split
    · exact ⟨h1.cells, ⟨lset_in h.top.regs _ (getD_in (row_in h.cells _) _), h1.top.args⟩, h1.rest⟩
    · refine ⟨fun row hr x hx => ?_, h1.top, h1.rest⟩
      rcases List.mem_or_eq_of_mem_set hr with hr | rfl
      · exact h.cells row hr x hx
      · rcases List.mem_or_eq_of_mem_set hx with hx | rfl
        · exact row_in h.cells _ x hx
        · exact getD_in h.top.regs _
  · unfold St.comp
    split
    · rename_i rs e
      exact ⟨h1.cells, ⟨exec1_in hN h.top.args h.top.regs e, h1.top.args⟩, h1.rest⟩
    · exact ⟨h1.cells, h1.top, h1.rest⟩
theorem Prog.inv {l : List VF} {lens : List Int} (hp : progOk l lens = true) : ∀ {k n : Nat} {s s' : St}, Prog l k s s' → Inv l lens n s → Inv l lens (n + k) s'
  | 0, n, s, s', h, hi => by have := h.eq; unfold iter at this; rw [← this]; exact hi
  | k + 1, n, s, s', h, hi => by
    have h1 : Prog l k (s.step l) s' := ⟨h.eq, fun j hj => h.on (j + 1) (by omega)⟩
    have := h1.inv hp (hi.step hp)
    rwa [show n + (k + 1) = n + 1 + k by omega]
theorem Prog.stw {l : List VF} {lens : List Int} (hp : progOk l lens = true) (hw : ProgW l) : ∀ {k n : Nat} {s s' : St}, Prog l k s s' → Inv l lens n s → StW s → StW s'
  | 0, n, s, s', h, hi, hs => by have := h.eq; unfold iter at this; rw [← this]; exact hs
  | k + 1, n, s, s', h, hi, hs => by
    have h1 : Prog l k (s.step l) s' := ⟨h.eq, fun j hj => h.on (j + 1) (by omega)⟩
    exact h1.stw hp hw (hi.step hp) (hs.step hi hw)
end Go.Abs
