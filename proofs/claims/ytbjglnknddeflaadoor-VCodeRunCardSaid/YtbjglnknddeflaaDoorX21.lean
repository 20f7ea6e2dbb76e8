/- A part of the proof: F19, F20, F21, F22, F30, F31, F32, F33, F34, G2, F23, F24, F35, F36, F37 -/
import Derived.Test.YtbjglnknddeflaaDoorX20
set_option linter.unusedSimpArgs false
set_option linter.unusedVariables false
set_option linter.unusedSimpArgs false
set_option linter.unusedVariables false
set_option maxRecDepth 100000
namespace Go.Abs
variable {E : Env}

/-- A block's row, its instructions in any telling. -/
def blr (X : AV) (en reg tgt els : Int) : List AV := [X, .int .i64 en, .int .i64 reg, .int .i64 tgt, .int .i64 els]
section
variable (X : AV) (en reg tgt els : Int)
@[go_sem] theorem e_blr (i : Nat) : (blr X en reg tgt els)[i]? = ([X, .int .i64 en, .int .i64 reg, .int .i64 tgt, .int .i64 els] : List AV)[i]? := id rfl
@[go_sem] theorem e_blrl : (blr X en reg tgt els).length = 5 := id rfl
@[go_sem] theorem e_blrt : (blr X en reg tgt els).take 5 = blr X en reg tgt els := id rfl
@[go_sem] theorem set_blr0 (x : AV) : (blr X en reg tgt els).set 0 x = blr x en reg tgt els := id rfl
@[go_sem] theorem set_blr1 (x : Int) : (blr X en reg tgt els).set 1 (.int .i64 x) = blr X x reg tgt els := id rfl
@[go_sem] theorem set_blr2 (x : Int) : (blr X en reg tgt els).set 2 (.int .i64 x) = blr X en x tgt els := id rfl
@[go_sem] theorem set_blr3 (x : Int) : (blr X en reg tgt els).set 3 (.int .i64 x) = blr X en reg x els := id rfl
@[go_sem] theorem set_blr4 (x : Int) : (blr X en reg tgt els).set 4 (.int .i64 x) = blr X en reg tgt x := id rfl
end
theorem vle_blr {X : AV} {l : List VI} (h : VLe X (vins l)) (en reg tgt els : Int) : ∀ (j : Nat) (x y : AV), (blr X en reg tgt els)[j]? = some x → (Bl.cells ⟨l, en, reg, tgt, els⟩)[j]? = some y → VLe x y := fun j x y hx hy => by
  match j with
  | 0 => cases hx; cases hy; exact h
  | 1 => cases hx; cases hy; exact VLe.refl _
  | 2 => cases hx; cases hy; exact VLe.refl _
  | 3 => cases hx; cases hy; exact VLe.refl _
  | 4 => cases hx; cases hy; exact VLe.refl _
  | n + 5 => cases hx
/-- A row that tells a block. -/
def BRow (row : List AV) (b : Bl) : Prop := ∃ X, row = blr X b.en b.reg b.tgt b.els ∧ VLe X (vins b.ins)
structure BRows (rows : Blk) (bs : List Bl) : Prop where
  len : rows.length = bs.length
  row : ∀ (i : Nat) (r : List AV) (b : Bl), rows[i]? = some r → bs[i]? = some b → BRow r b
theorem BRows.nil : BRows [] [] := ⟨rfl, fun i r b h => by simp at h⟩
theorem BRows.snoc {rows : Blk} {bs : List Bl} (h : BRows rows bs) {r : List AV} {b : Bl} (hb : BRow r b) : BRows (rows ++ [r]) (bs ++ [b]) := by
  refine ⟨by simp [h.len], fun i r' b' h1 h2 => ?_⟩
  rw [List.getElem?_append] at h1 h2
  rw [← h.len] at h2
  split at h1
  · rename_i hi; rw [if_pos hi] at h2; exact h.row i r' b' h1 h2
  · rename_i hi; rw [if_neg hi] at h2
    have : i - rows.length = 0 := by
      have := (List.getElem?_eq_some_iff.1 h1).1; simp at this; omega
    rw [this] at h1 h2
    simp at h1 h2; subst h1; subst h2; exact hb
theorem BRows.le {rows : Blk} {bs : List Bl} (h : BRows rows bs) : VLe (.ro 5 rows) (bls bs) := by
  refine vle_ro (by simp [h.len]) fun i a b ha hb => ?_
  rw [List.getElem?_map, Option.map_eq_some_iff] at hb
  obtain ⟨b', hb', rfl⟩ := hb
  obtain ⟨X, rfl, hX⟩ := h.row i a b' ha hb'
  exact ⟨rfl, vle_blr hX _ _ _ _⟩
theorem vle_vf {X : AV} {c : VF} (h : VLe X (bls c.blocks)) : VLe (.agg (vfc c X)) (.agg c.cells) := vle_agg rfl fun j x y hx hy => by
  match j with
  | 0 => cases hx; cases hy; exact VLe.refl _
  | 1 => cases hx; cases hy; exact VLe.refl _
  | 2 => cases hx; cases hy; exact h
  | n + 3 => cases hx

/-- A function whose blocks are rows of one's own is given back. -/
theorem ret_vf {G H : Heap} {B : List (Nat × Blk)} {c : VF} {bv : AV} {rows : Blk} (ho : OwnR 5 bv rows) (hr : BRows rows c.blocks) (h : HoldsG G H (ownR bv rows ++ B)) : RetC (Ret (.agg c.cells) G) (.agg (vfc c bv)) H := by
  rcases ho with ⟨rfl, rfl⟩ | ⟨id, rfl⟩
  · exact ret_le (vle_vf ((vle_nil 5).trans hr.le)) (Kept0.of h) ⟨rfl, rfl⟩
  · have hid : H id = some rows := h.get (by simp [ownR])
    refine .frz id rows (fun _ => .agg (vfc c (.ro 5 rows))) hid (fun _ => .inr ?_) (.le (fun _ => .agg c.cells) G (fun _ => vle_vf hr.le) (fun k => ?_) (.here ⟨rfl, rfl⟩))
    · simp [frz, frz0, frz1, vfc]
    · cases e : G k with
      | none => exact .inl rfl
      | some b =>
        have := h.kp k b e
        refine .inr ?_
        rw [Heap.get_ne _ _ _ _ (fun e2 => this.2 (by rw [e2]; simp [ownR]))]
        exact this.1.symm

def z3 : List AV := [.int .i64 0, .int .i64 0, .nilsl]
/-- A block under way at x, the function at c, the result's place at r. -/
def VB (G : Heap) (x c r : Nat) (f : VF) (bv : AV) (rows : Blk) (xr : List AV) (Y : List (Nat × Blk)) (H : Heap) : Prop := HoldsG G H ((x, [xr]) :: (c, [vfc f bv]) :: (r, [z3]) :: (ownR bv rows ++ Y))
section
variable {G H : Heap} {x c r : Nat} {f : VF} {bv : AV} {rows : Blk} {xr : List AV} {Y : List (Nat × Blk)}
theorem VB.hx (h : VB G x c r f bv rows xr Y H) : H x = some [xr] := HoldsG.get h (by simp)
theorem VB.hc (h : VB G x c r f bv rows xr Y H) : H c = some [vfc f bv] := HoldsG.get h (by simp)
theorem VB.hr (h : VB G x c r f bv rows xr Y H) : H r = some [z3] := HoldsG.get h (by simp)
theorem VB.ne (h : VB G x c r f bv rows xr Y H) : x ≠ c ∧ x ≠ r ∧ c ≠ r := by
  have := (HoldsG.to h).1
  simp only [List.map_cons, List.nodup_cons, List.mem_cons, not_or] at this
  exact ⟨this.1.1, this.1.2.1, this.2.1.1⟩
theorem VB.px (h : VB G x c r f bv rows xr Y H) (xr' : List AV) : VB G x c r f bv rows xr' Y (H.set x (some [xr'])) := HoldsG.put (i := 0) (show HoldsG _ _ _ from h) rfl
theorem VB.drop (h : VB G x c r f bv rows xr Y H) : HoldsG G H ((c, [vfc f bv]) :: (r, [z3]) :: (ownR bv rows ++ Y)) := HoldsG.right (a := [(x, [xr])]) (show HoldsG _ _ _ from h)
/-- The block under way is put behind the function's blocks. -/
theorem VB.app {K : AV → Heap → Prop} (h : VB G x c r f bv rows xr Y H) (ho : OwnR 5 bv rows) (hl : rows.length + 1 ≤ 1000)
    (hk : ∀ n H', H' c = some [vfc f bv] → VB G x c r f (.sl 5 n 0 (rows ++ [xr]).length) (rows ++ [xr]) xr Y (H'.set c (some [vfc f (.sl 5 n 0 (rows ++ [xr]).length)])) → K (.sl 5 n 0 (rows ++ [xr]).length) H') : mkW (.app 5 (.c bv) (.c (.ro 5 [xr]))) H K := by
  have h1 : HoldsG G H (ownR bv rows ++ ((x, [xr]) :: (c, [vfc f bv]) :: (r, [z3]) :: Y)) := HoldsG.perm h (perm_of_count fun i _ a => by
    simp only [List.count_append, List.count_cons]; omega)
  refine app_own ho h1 (by simp only [appLim, List.length_singleton]; omega) fun n H' h' => hk n H' (h'.get (by simp)) ?_
  have h2 : HoldsG G H' ((x, [xr]) :: (c, [vfc f bv]) :: (r, [z3]) :: (ownR (.sl 5 n 0 (rows ++ [xr]).length) (rows ++ [xr]) ++ Y)) := h'.perm (perm_of_count fun i _ a => by
    simp only [ownR, List.count_append, List.count_cons, List.count_nil]; omega)
  exact h2.put (i := 1) rfl
end
@[go_sem] theorem spl_z3 (c : VF) (X : AV) : spl z3 0 (vfc c X) = vfc c X := id rfl
@[go_sem] theorem set_vfc1 (c : VF) (X : AV) (n : Int) : (vfc c X).set 1 (.int .i64 n) = vfc { c with regs := n } X := id rfl
@[go_sem] theorem set_vfc2 (c : VF) (X Y : AV) : (vfc c X).set 2 Y = vfc c Y := id rfl

section
variable {G H : Heap} {x c r : Nat} {f : VF} {bv : AV} {rows : Blk} {Y : List (Nat × Blk)} {K1 : Tm → Heap → Prop} {R : AV → Heap → Prop} {l : List Int} {X : AV} {en reg tgt els many : Int} {b : Nat}
theorem vf14 (hE : E.Good) (hF : E.Fits tab) {xr : List AV} (hxr : xr = blr X en reg tgt els) (h : VB G x c r f bv rows xr Y H) (ho : OwnR 5 bv rows) (hl : rows.length + 1 ≤ 1000) (hb0 : b < 10)
    (hk : ∀ n H', HoldsG G H' ((c, [vfc f (.sl 5 n 0 (rows ++ [xr]).length)]) :: (r, [z3]) :: (n, rows ++ [xr]) :: Y) → atW K1 [ints l, .ptr r 0 0, .ptr c 0 0, .int .i64 many, .int .i64 (b + 1)] H') :
    atW (m18_14 E R K1) [ints l, .ptr r 0 0, .ptr c 0 0, .int .i64 many, .int .i64 b, .ptr x 0 0] H := by
  subst hxr
  skip
  refine at_here ?_; unfold m18_14 w18_14
  repeat' (first | ((with_reducible refine cond_mk (fun hb => ?_) (fun hb => ?_)) <;> ((try simp only [if_true, if_false, qq, reduceCtorEq] at hb); (try (exfalso; first | (exact hb) | contradiction | omega)))) | ((with_reducible refine grp_mk ?_ (fun hb => ?_) (fun _ => ?_)) <;> (try simp only [if_true, if_false, qq, reduceCtorEq] at hb)) | ((with_reducible refine mk_alloc (fun id hid => ?_)); have hid0 := hid.none; (try have hlt := hid.lt (Heap.set_same _ _ _))) | ((with_reducible refine mk_box ?_ (fun id hid => ?_)); (simp only [go_sem]; done); have hid0 := hid.none; (try have hlt := hid.lt (Heap.set_same _ _ _))) | ((with_reducible refine And.intro ?_ ?_); (first | decide | omega)) | ((with_reducible refine at_here ?_); first | unfold m18_1 w18_1 | unfold m18_5 w18_5 | unfold m18_4 w18_4 | unfold m18_10 w18_10 | unfold m18_14 w18_14 | unfold m18_13 w18_13 | unfold m18_12 w18_12 | unfold m18_11 w18_11 | unfold m18_8 w18_8 | unfold m18_6 w18_6 | unfold m18_2 w18_2) | (simp (disch := omega) only [go_sem, Heap.get_ne, wrap64_id, Nat.reduceAdd, Nat.reduceLeDiff, Nat.reduceSub, Nat.reduceEqDiff, Int.reduceLT, Int.reduceLE, Int.reduceEq, h.hx, h.hc, h.hr]) | (with_reducible rfl) | ((with_reducible refine And.intro ?_ ?_) <;> (with_reducible rfl)))
  refine h.app ho hl (fun n H' hc' h' => ?_)
  repeat' (first | ((with_reducible refine cond_mk (fun hb => ?_) (fun hb => ?_)) <;> ((try simp only [if_true, if_false, qq, reduceCtorEq] at hb); (try (exfalso; first | (exact hb) | contradiction | omega)))) | ((with_reducible refine grp_mk ?_ (fun hb => ?_) (fun _ => ?_)) <;> (try simp only [if_true, if_false, qq, reduceCtorEq] at hb)) | ((with_reducible refine mk_alloc (fun id hid => ?_)); have hid0 := hid.none; (try have hlt := hid.lt (Heap.set_same _ _ _))) | ((with_reducible refine mk_box ?_ (fun id hid => ?_)); (simp only [go_sem]; done); have hid0 := hid.none; (try have hlt := hid.lt (Heap.set_same _ _ _))) | ((with_reducible refine And.intro ?_ ?_); (first | decide | omega)) | ((with_reducible refine at_here ?_); first | unfold m18_1 w18_1 | unfold m18_5 w18_5 | unfold m18_4 w18_4 | unfold m18_10 w18_10 | unfold m18_14 w18_14 | unfold m18_13 w18_13 | unfold m18_12 w18_12 | unfold m18_11 w18_11 | unfold m18_8 w18_8 | unfold m18_6 w18_6 | unfold m18_2 w18_2) | (simp (disch := omega) only [go_sem, Heap.get_ne, wrap64_id, Nat.reduceAdd, Nat.reduceLeDiff, Nat.reduceSub, Nat.reduceEqDiff, Int.reduceLT, Int.reduceLE, Int.reduceEq, hc']) | (with_reducible rfl) | ((with_reducible refine And.intro ?_ ?_) <;> (with_reducible rfl)))
  exact hk n _ h'.drop
/-- The last block does not jump. -/
def fixB (last : Bool) (X : AV) (en reg tgt els : Int) : List AV := if last = true ∧ en = 1 then blr X 3 0 0 els else blr X en reg tgt els
theorem vf13 (hE : E.Good) (hF : E.Fits tab) (h : VB G x c r f bv rows (blr X en reg tgt els) Y H) (ho : OwnR 5 bv rows) (hl : rows.length + 1 ≤ 1000) (hb0 : b < 10) (hmany : 1 ≤ many ∧ many ≤ 6)
    (hk : ∀ n H', HoldsG G H' ((c, [vfc f (.sl 5 n 0 (rows ++ [fixB (decide ((b : Int) + 1 = many)) X en reg tgt els]).length)]) :: (r, [z3]) :: (n, rows ++ [fixB (decide ((b : Int) + 1 = many)) X en reg tgt els]) :: Y) → atW K1 [ints l, .ptr r 0 0, .ptr c 0 0, .int .i64 many, .int .i64 (b + 1)] H') :
    atW (m18_13 E R K1) [ints l, .ptr r 0 0, .ptr c 0 0, .int .i64 many, .int .i64 b, .ptr x 0 0] H := by
  skip
  refine at_here ?_; unfold m18_13 w18_13
  repeat' (first | ((with_reducible refine cond_mk (fun hb => ?_) (fun hb => ?_)) <;> ((try simp only [if_true, if_false, qq, reduceCtorEq] at hb); (try (exfalso; first | (exact hb) | contradiction | omega)))) | ((with_reducible refine grp_mk ?_ (fun hb => ?_) (fun _ => ?_)) <;> (try simp only [if_true, if_false, qq, reduceCtorEq] at hb)) | ((with_reducible refine mk_alloc (fun id hid => ?_)); have hid0 := hid.none; (try have hlt := hid.lt (Heap.set_same _ _ _))) | ((with_reducible refine mk_box ?_ (fun id hid => ?_)); (simp only [go_sem]; done); have hid0 := hid.none; (try have hlt := hid.lt (Heap.set_same _ _ _))) | ((with_reducible refine And.intro ?_ ?_); (first | decide | omega)) | ((with_reducible refine at_here ?_); first | unfold m18_1 w18_1 | unfold m18_5 w18_5 | unfold m18_4 w18_4 | unfold m18_10 w18_10 | unfold m18_13 w18_13 | unfold m18_12 w18_12 | unfold m18_11 w18_11 | unfold m18_8 w18_8 | unfold m18_6 w18_6 | unfold m18_2 w18_2) | (simp (disch := omega) only [go_sem, Heap.get_ne, wrap64_id, Nat.reduceAdd, Nat.reduceLeDiff, Nat.reduceSub, Nat.reduceEqDiff, Int.reduceLT, Int.reduceLE, Int.reduceEq, h.hx, h.hc, h.hr]) | (with_reducible rfl) | ((with_reducible refine And.intro ?_ ?_) <;> (with_reducible rfl)))
  · have e : fixB (decide ((b : Int) + 1 = many)) X en reg tgt els = blr X 3 0 0 els := by
      unfold fixB; rw [if_pos ⟨by simp; omega, by simpa using hb.2⟩]
    rw [e] at hk
    exact vf14 hE hF rfl (h.px _) ho hl hb0 hk
  · have e : fixB (decide ((b : Int) + 1 = many)) X en reg tgt els = blr X en reg tgt els := by
      unfold fixB; rw [if_neg]
      rintro ⟨h1, h2⟩
      simp only [decide_eq_true_eq] at h1
      subst h2
      rcases hb with hb | hb
      · omega
      · simp at hb
    rw [e] at hk
    exact vf14 hE hF rfl h ho hl hb0 hk

theorem VB.next {d : Nat} {N : Int} {xr : List AV} (hE : E.Good) (hF : E.Fits tab) (h : VB G x c r f bv rows xr ((d, [[.int .i64 N]]) :: Y) H) {m : Int} (hm : 0 < m) (hm2 : m < 1000000000) :
    ACall E 47 [.ptr d 0 0, .int .i64 m] H (fun v H' => v = .int .i64 (N % m) ∧ VB G x c r f bv rows xr ((d, [[.int .i64 (nxt N m)]]) :: Y) H') := by
  have h1 : HoldsG G H ((d, [[.int .i64 N]]) :: (x, [xr]) :: (c, [vfc f bv]) :: (r, [z3]) :: (ownR bv rows ++ Y)) := HoldsG.perm h (perm_of_count fun i _ a => by
    simp only [List.count_append, List.count_cons]; omega)
  refine ACall.mono (next_spec hE hF (n := N) (h1.get (by simp)) hm hm2) ?_
  rintro _ _ ⟨rfl, rfl⟩
  exact ⟨rfl, h1.set.perm (perm_of_count fun i _ a => by simp only [List.count_append, List.count_cons]; omega)⟩
theorem VB.new {d : Nat} {bb : Blk} {xr : List AV} (h : VB G x c r f bv rows xr Y H) (hd : Fresh H d) : VB G x c r f bv rows xr ((d, bb) :: Y) (H.set d (some bb)) :=
  (HoldsG.new h hd).perm (perm_of_count fun i _ a => by simp only [List.count_append, List.count_cons]; omega)

set_option maxHeartbeats 4000000 in
theorem vf12 (hE : E.Good) (hF : E.Fits tab) {N : Int} (h : VB G x c r f bv rows (blr X 0 0 0 0) Y H) (ho : OwnR 5 bv rows) (hl : rows.length + 1 ≤ 1000) (hb0 : b < 10) (hmany : 1 ≤ many ∧ many ≤ 6) (hreg : 1 ≤ f.regs ∧ f.regs ≤ 3000) {ins : List VI} (hX : VLe X (vins ins))
    (hk : ∀ n H' row d, BRow row (endF f.regs many N (decide ((b : Int) + 1 = many)) ins) → HoldsG G H' ((c, [vfc f (.sl 5 n 0 (rows ++ [row]).length)]) :: (r, [z3]) :: (n, rows ++ [row]) :: d :: Y) → atW K1 [ints l, .ptr r 0 0, .ptr c 0 0, .int .i64 many, .int .i64 (b + 1)] H') :
    atW (m18_12 E R K1) [ints l, .ptr r 0 0, .ptr c 0 0, .int .i64 many, .int .i64 b, .ptr x 0 0, .int .i64 N] H := by
  have hn : ∀ M m : Int, 0 < m → 0 ≤ M % m ∧ M % m < m := fun M m hm => ⟨Int.emod_nonneg _ (by omega), Int.emod_lt_of_pos _ hm⟩
  have g1 := hn (nxt N 6) many (by omega)
  have g2 := hn (nxt N 6) 9 (by omega)
  have g3 := hn (nxt (nxt N 6) f.regs) many (by omega)
  have g4 := hn (nxt (nxt (nxt N 6) f.regs) many) many (by omega)
  skip
  refine at_here ?_; unfold m18_12 w18_12; (repeat' (first | ((with_reducible refine cond_mk (fun hb => ?_) (fun hb => ?_)) <;> ((try simp only [if_true, if_false, qq, reduceCtorEq] at hb); (try (exfalso; first | (exact hb) | contradiction | omega)))) | ((with_reducible refine grp_mk ?_ (fun hb => ?_) (fun _ => ?_)) <;> (try simp only [if_true, if_false, qq, reduceCtorEq] at hb)) | ((with_reducible refine mk_alloc (fun id hid => ?_)); have hid0 := hid.none; (try have hlt := hid.lt (Heap.set_same _ _ _))) | ((with_reducible refine mk_box ?_ (fun id hid => ?_)); (simp only [go_sem]; done); have hid0 := hid.none; (try have hlt := hid.lt (Heap.set_same _ _ _))) | ((with_reducible refine And.intro ?_ ?_); (first | decide | omega)) | (simp (disch := omega) only [go_sem, Heap.get_ne, wrap64_id, Nat.reduceAdd, Nat.reduceLeDiff, Nat.reduceSub, Nat.reduceEqDiff, Int.reduceLT, Int.reduceLE, Int.reduceEq]) | (with_reducible rfl) | ((with_reducible refine And.intro ?_ ?_) <;> (with_reducible rfl))))
  refine mk_box rfl fun d hd => ?_
  have h1 := h.new (bb := [[.int .i64 N]]) hd
  repeat' (first | ((with_reducible refine cond_mk (fun hb => ?_) (fun hb => ?_)) <;> ((try simp only [if_true, if_false, qq, reduceCtorEq] at hb); (try (exfalso; first | (exact hb) | contradiction | omega)))) | ((with_reducible refine grp_mk ?_ (fun hb => ?_) (fun _ => ?_)) <;> (try simp only [if_true, if_false, qq, reduceCtorEq] at hb)) | ((with_reducible refine call_any (h1.next hE hF (by omega) (by omega)) ?_); rintro _ _ hsm ⟨rfl, h1⟩) | ((with_reducible refine mk_alloc (fun id hid => ?_)); have hid0 := hid.none; (try have hlt := hid.lt (Heap.set_same _ _ _))) | ((with_reducible refine mk_box ?_ (fun id hid => ?_)); (simp only [go_sem]; done); have hid0 := hid.none; (try have hlt := hid.lt (Heap.set_same _ _ _))) | ((with_reducible refine And.intro ?_ ?_); (first | decide | omega)) | ((with_reducible refine at_here ?_); first | unfold m18_1 w18_1 | unfold m18_5 w18_5 | unfold m18_4 w18_4 | unfold m18_10 w18_10 | unfold m18_14 w18_14 | unfold m18_12 w18_12 | unfold m18_11 w18_11 | unfold m18_8 w18_8 | unfold m18_6 w18_6 | unfold m18_2 w18_2) | (simp (disch := omega) only [go_sem, Heap.get_ne, wrap64_id, Nat.reduceAdd, Nat.reduceLeDiff, Nat.reduceSub, Nat.reduceEqDiff, Int.reduceLT, Int.reduceLE, Int.reduceEq, h1.hx, h1.hc, h1.hr]) | (with_reducible rfl) | ((with_reducible refine And.intro ?_ ?_) <;> (with_reducible rfl)))
  all_goals
    refine vf13 hE hF (h1.px _) ho hl hb0 hmany fun n H' h' => hk n H' _ _ ⟨X, ?_, ?_⟩ h'
  all_goals (unfold endF; try unfold fixB)
  · rw [if_pos hb]
    split
    · rename_i h; rw [if_pos h.1]
    · rename_i h; rw [if_neg (fun e => h ⟨e, rfl⟩)]
  · rw [if_pos hb]
    split <;> exact hX
  · rw [if_neg (fun e => absurd e.2 (by decide)), if_neg (by assumption), if_pos hb]
  · rw [if_neg (by assumption), if_pos hb]; exact hX
  · rw [if_neg (fun e => absurd e.2 (by decide)), if_neg (by assumption), if_neg (by assumption), if_pos hb]
  · rw [if_neg (by assumption), if_neg (by assumption), if_pos hb]; exact hX
  · rw [if_neg (fun e => absurd e.2 (by decide)), if_neg (by assumption), if_neg (by assumption), if_neg (by assumption)]
  · rw [if_neg (by assumption), if_neg (by assumption), if_neg (by assumption)]; exact hX

/-- The instructions so far. -/
def irows (regs : Int) (l : List Int) (b k : Nat) : Blk := ((l.drop (6 * b)).take k).map fun n => (viF n ⟨0, regs, []⟩).cells
theorem irows_succ (regs : Int) (l : List Int) (b k : Nat) (h : 6 * b + k < l.length) : irows regs l b (k + 1) = irows regs l b k ++ [(viF (l.getD (6 * b + k) 0) ⟨0, regs, []⟩).cells] := by
  unfold irows
  rw [List.take_add_one, List.map_append, List.getElem?_drop, List.getElem?_eq_getElem h]
  simp [List.getD, List.getElem?_eq_getElem h]
theorem irows_len (regs : Int) (l : List Int) (b k : Nat) : (irows regs l b k).length ≤ k := by unfold irows; simp; omega

set_option maxHeartbeats 4000000 in
theorem vf8 (hE : E.Good) (hF : E.Fits tab) (h : HoldsG G H ((c, [vfc f bv]) :: (r, [z3]) :: (ownR bv rows ++ Y))) (ho : OwnR 5 bv rows) (hl : rows.length + 1 ≤ 1000) (hll : l.length < 9223372036854775808) (hb0 : b < 10) (hmany : 1 ≤ many ∧ many ≤ 6) (hreg : 1 ≤ f.regs ∧ f.regs ≤ 3000)
    (hk : ∀ n H' row Y', BRow row (endF f.regs many (l.getD (6 * b + 5) 0) (decide ((b : Int) + 1 = many)) (insF f.regs l b)) → HoldsG G H' ((c, [vfc f (.sl 5 n 0 (rows ++ [row]).length)]) :: (r, [z3]) :: (n, rows ++ [row]) :: Y') → atW K1 [ints l, .ptr r 0 0, .ptr c 0 0, .int .i64 many, .int .i64 (b + 1)] H') :
    atW (m18_8 E R K1) [ints l, .ptr r 0 0, .ptr c 0 0, .int .i64 many, .int .i64 b] H := by
  skip
  refine at_here ?_; unfold m18_8 w18_8; (repeat' (first | ((with_reducible refine cond_mk (fun hb => ?_) (fun hb => ?_)) <;> ((try simp only [if_true, if_false, qq, reduceCtorEq] at hb); (try (exfalso; first | (exact hb) | contradiction | omega)))) | ((with_reducible refine grp_mk ?_ (fun hb => ?_) (fun _ => ?_)) <;> (try simp only [if_true, if_false, qq, reduceCtorEq] at hb)) | ((with_reducible refine mk_alloc (fun id hid => ?_)); have hid0 := hid.none; (try have hlt := hid.lt (Heap.set_same _ _ _))) | ((with_reducible refine mk_box ?_ (fun id hid => ?_)); (simp only [go_sem]; done); have hid0 := hid.none; (try have hlt := hid.lt (Heap.set_same _ _ _))) | ((with_reducible refine And.intro ?_ ?_); (first | decide | omega)) | (simp (disch := omega) only [go_sem, Heap.get_ne, wrap64_id, Nat.reduceAdd, Nat.reduceLeDiff, Nat.reduceSub, Nat.reduceEqDiff, Int.reduceLT, Int.reduceLE, Int.reduceEq]) | (with_reducible rfl) | ((with_reducible refine And.intro ?_ ?_) <;> (with_reducible rfl))))
  have h0 : VB G id c r f bv rows (blr .nilsl 0 0 0 0) (Y ++ []) (H.set id (some [blr .nilsl 0 0 0 0])) := by
    rw [List.append_nil]; exact HoldsG.new h hid
  clear hid0 hid
  refine loop_mk (σ := Nat) (fun k => [ints l, .ptr r 0 0, .ptr c 0 0, .int .i64 many, .int .i64 b, .ptr id 0 0, .int .i64 k])
    (fun k H' => k ≤ 5 ∧ (k = 0 ∨ 6 * b + k ≤ l.length) ∧ ∃ iv, OwnR 6 iv (irows f.regs l b k) ∧ VB G id c r f bv rows (blr iv 0 0 0 0) (Y ++ ownR iv (irows f.regs l b k)) H') (fun k => 5 - k)
    0 rfl ⟨by omega, .inl rfl, .nilsl, .inl ⟨rfl, rfl⟩, h0⟩ ?_
  rintro k H K ⟨hk5, hk6, iv, hiv, hv⟩ hK
  unfold l18_9 w18_9; simp only [go_sem]
  repeat' (first | ((with_reducible refine cond_mk (fun hb => ?_) (fun hb => ?_)) <;> ((try simp only [if_true, if_false, qq, reduceCtorEq] at hb); (try (exfalso; first | (exact hb) | contradiction | omega)))) | ((with_reducible refine grp_mk ?_ (fun hb => ?_) (fun _ => ?_)) <;> (try simp only [if_true, if_false, qq, reduceCtorEq] at hb)) | ((with_reducible refine mk_alloc (fun id hid => ?_)); have hid0 := hid.none; (try have hlt := hid.lt (Heap.set_same _ _ _))) | ((with_reducible refine mk_box ?_ (fun id hid => ?_)); (simp only [go_sem]; done); have hid0 := hid.none; (try have hlt := hid.lt (Heap.set_same _ _ _))) | ((with_reducible refine And.intro ?_ ?_); (first | decide | omega)) | ((with_reducible refine at_here ?_); first | unfold m18_1 w18_1 | unfold m18_5 w18_5 | unfold m18_4 w18_4 | unfold m18_14 w18_14 | unfold m18_13 w18_13 | unfold m18_12 w18_12 | unfold m18_8 w18_8 | unfold m18_6 w18_6 | unfold m18_2 w18_2) | (simp (disch := omega) only [go_sem, Heap.get_ne, wrap64_id, Nat.reduceAdd, Nat.reduceLeDiff, Nat.reduceSub, Nat.reduceEqDiff, Int.reduceLT, Int.reduceLE, Int.reduceEq, hv.hx, hv.hc, hv.hr]) | (with_reducible rfl) | ((with_reducible refine And.intro ?_ ?_) <;> (with_reducible rfl)))
  · refine at_here ?_
    unfold m18_10 w18_10
    have hkl : 6 * b + k < l.length := by omega
    have hn5 : ((6 * (b : Int) + k).toNat) = 6 * b + k := by omega
    repeat' (first | ((with_reducible refine cond_mk (fun hb => ?_) (fun hb => ?_)) <;> ((try simp only [if_true, if_false, qq, reduceCtorEq] at hb); (try (exfalso; first | (exact hb) | contradiction | omega)))) | ((with_reducible refine grp_mk ?_ (fun hb => ?_) (fun _ => ?_)) <;> (try simp only [if_true, if_false, qq, reduceCtorEq] at hb)) | ((with_reducible refine call_pure (vinstr_spec hE hF _ f bv hreg) ?_); intro _) | ((with_reducible refine pc_pure (vinstr_spec hE hF _ f bv hreg) ?_)) | ((with_reducible refine dcall_pure0 (vinstr_spec hE hF _ f bv hreg) ?_)) | ((with_reducible refine mk_alloc (fun id hid => ?_)); have hid0 := hid.none; (try have hlt := hid.lt (Heap.set_same _ _ _))) | ((with_reducible refine mk_box ?_ (fun id hid => ?_)); (simp only [go_sem]; done); have hid0 := hid.none; (try have hlt := hid.lt (Heap.set_same _ _ _))) | ((with_reducible refine And.intro ?_ ?_); (first | decide | omega)) | ((with_reducible refine at_here ?_); first | unfold m18_1 w18_1 | unfold m18_5 w18_5 | unfold m18_4 w18_4 | unfold m18_10 w18_10 | unfold m18_14 w18_14 | unfold m18_13 w18_13 | unfold m18_12 w18_12 | unfold m18_11 w18_11 | unfold m18_8 w18_8 | unfold m18_6 w18_6 | unfold m18_2 w18_2) | (simp (disch := omega) only [go_sem, Heap.get_ne, wrap64_id, Nat.reduceAdd, Nat.reduceLeDiff, Nat.reduceSub, Nat.reduceEqDiff, Int.reduceLT, Int.reduceLE, Int.reduceEq, hv.hx, hv.hc, hv.hr, hn5]) | (with_reducible rfl) | ((with_reducible refine And.intro ?_ ?_) <;> (with_reducible rfl)))
    have hv2 : HoldsG G H (ownR iv (irows f.regs l b k) ++ ((id, [blr iv 0 0 0 0]) :: (c, [vfc f bv]) :: (r, [z3]) :: (ownR bv rows ++ Y))) := HoldsG.perm hv (perm_of_count fun i _ a => by simp only [List.count_append, List.count_cons]; omega)
    refine bsl_app_own ⟨rfl, rfl⟩ hiv hv2 (by have := irows_len f.regs l b k; simp only [appLim]; omega) fun n H' h' => ?_
    have hx' : H' id = some [blr iv 0 0 0 0] := h'.get (by simp)
    repeat' (first | ((with_reducible refine cond_mk (fun hb => ?_) (fun hb => ?_)) <;> ((try simp only [if_true, if_false, qq, reduceCtorEq] at hb); (try (exfalso; first | (exact hb) | contradiction | omega)))) | ((with_reducible refine grp_mk ?_ (fun hb => ?_) (fun _ => ?_)) <;> (try simp only [if_true, if_false, qq, reduceCtorEq] at hb)) | ((with_reducible refine mk_alloc (fun id hid => ?_)); have hid0 := hid.none; (try have hlt := hid.lt (Heap.set_same _ _ _))) | ((with_reducible refine mk_box ?_ (fun id hid => ?_)); (simp only [go_sem]; done); have hid0 := hid.none; (try have hlt := hid.lt (Heap.set_same _ _ _))) | ((with_reducible refine And.intro ?_ ?_); (first | decide | omega)) | ((with_reducible refine at_here ?_); first | unfold m18_1 w18_1 | unfold m18_5 w18_5 | unfold m18_4 w18_4 | unfold m18_10 w18_10 | unfold m18_14 w18_14 | unfold m18_13 w18_13 | unfold m18_12 w18_12 | unfold m18_11 w18_11 | unfold m18_8 w18_8 | unfold m18_6 w18_6 | unfold m18_2 w18_2) | (simp (disch := omega) only [go_sem, Heap.get_ne, wrap64_id, Nat.reduceAdd, Nat.reduceLeDiff, Nat.reduceSub, Nat.reduceEqDiff, Int.reduceLT, Int.reduceLE, Int.reduceEq, hx']) | (with_reducible rfl) | ((with_reducible refine And.intro ?_ ?_) <;> (with_reducible rfl)))
    have h' : HoldsG G H' ((n, irows f.regs l b k ++ [(viF (l.getD (6 * b + k) 0) f).cells]) :: ((id, [blr iv 0 0 0 0]) :: (c, [vfc f bv]) :: (r, [z3]) :: (ownR bv rows ++ Y))) := h'
    have h3 : HoldsG G H' ((id, [blr iv 0 0 0 0]) :: ((n, irows f.regs l b k ++ [(viF (l.getD (6 * b + k) 0) f).cells]) :: (c, [vfc f bv]) :: (r, [z3]) :: (ownR bv rows ++ Y))) := h'.perm (perm_of_count fun i _ a => by simp only [List.count_append, List.count_cons]; omega)
    have h4 := h3.set (b' := [blr (.sl 6 n 0 (irows f.regs l b k ++ [(viF (l.getD (6 * b + k) 0) f).cells]).length) 0 0 0 0])
    have e5 : irows f.regs l b (k + 1) = irows f.regs l b k ++ [(viF (l.getD (6 * b + k) 0) f).cells] := irows_succ _ _ _ _ hkl
    refine at_eq (hK (k + 1) _ ⟨by omega, .inr (by omega), _, .inr ⟨n, rfl⟩, ?_⟩ (by omega)) rfl
    rw [e5]
    show HoldsG G _ ((id, [blr (.sl 6 n 0 (irows f.regs l b k ++ [(viF (l.getD (6 * b + k) 0) f).cells]).length) 0 0 0 0]) :: (c, [vfc f bv]) :: (r, [z3]) :: (ownR bv rows ++ (Y ++ [(n, irows f.regs l b k ++ [(viF (l.getD (6 * b + k) 0) f).cells])])))
    exact h4.perm (perm_of_count fun i _ a => by simp only [List.count_append, List.count_cons, List.count_nil]; omega)
  · have hv1 : HoldsG G H ((id, [[iv, .int .i64 0, .int .i64 0, .int .i64 0, .int .i64 0]]) :: (c, [vfc f bv]) :: (r, [z3]) :: (ownR bv rows ++ (Y ++ ownR iv (irows f.regs l b k)))) := hv
    have hv2 : HoldsG G H (ownR iv (irows f.regs l b k) ++ ((id, [[iv, .int .i64 0, .int .i64 0, .int .i64 0, .int .i64 0]]) :: (c, [vfc f bv]) :: (r, [z3]) :: (ownR bv rows ++ Y))) := HoldsG.perm hv1 (perm_of_count fun i _ a => by simp only [List.count_append, List.count_cons]; omega)
    refine cl_own hiv hv2 (fun id q hq => ?_) fun H' h' => at_here ?_
    · simp at hq; subst hq; rfl
    · unfold m18_11 w18_11
      have h2 : VB G id c r f bv rows (blr (ownC iv (irows f.regs l b k)) 0 0 0 0) Y H' := h'
      have hX : VLe (ownC iv (irows f.regs l b k)) (vins (insF f.regs l b)) := by
        refine (ownC_le hiv).trans (VLe.of_eq ?_)
        unfold irows insF vins
        rw [List.map_map]
        have : ((l.drop (6 * b)).take k) = ((l.drop (6 * b)).take 5) := by
          by_cases hk : k = 5
          · rw [hk]
          · rw [List.take_of_length_le (by simp; omega), List.take_of_length_le (by simp; omega)]
        rw [this]
        rfl
      repeat' (first | ((with_reducible refine cond_mk (fun hb => ?_) (fun hb => ?_)) <;> ((try simp only [if_true, if_false, qq, reduceCtorEq] at hb); (try (exfalso; first | (exact hb) | contradiction | omega)))) | ((with_reducible refine grp_mk ?_ (fun hb => ?_) (fun _ => ?_)) <;> (try simp only [if_true, if_false, qq, reduceCtorEq] at hb)) | ((with_reducible refine mk_alloc (fun id hid => ?_)); have hid0 := hid.none; (try have hlt := hid.lt (Heap.set_same _ _ _))) | ((with_reducible refine mk_box ?_ (fun id hid => ?_)); (simp only [go_sem]; done); have hid0 := hid.none; (try have hlt := hid.lt (Heap.set_same _ _ _))) | ((with_reducible refine And.intro ?_ ?_); (first | decide | omega)) | ((with_reducible refine at_here ?_); first | unfold m18_1 w18_1 | unfold m18_5 w18_5 | unfold m18_4 w18_4 | unfold m18_10 w18_10 | unfold m18_14 w18_14 | unfold m18_13 w18_13 | unfold m18_11 w18_11 | unfold m18_8 w18_8 | unfold m18_6 w18_6 | unfold m18_2 w18_2) | (simp (disch := omega) only [go_sem, Heap.get_ne, wrap64_id, Nat.reduceAdd, Nat.reduceLeDiff, Nat.reduceSub, Nat.reduceEqDiff, Int.reduceLT, Int.reduceLE, Int.reduceEq]) | (with_reducible rfl) | ((with_reducible refine And.intro ?_ ?_) <;> (with_reducible rfl)))
      · have e5 : (6 * (b : Int) + 5).toNat = 6 * b + 5 := by omega
        rw [e5]
        exact vf12 hE hF h2 ho hl hb0 hmany hreg hX fun n H' row d h1 h2 => hk n H' row _ h1 h2
      · have e5 : l.getD (6 * b + 5) 0 = 0 := by rw [List.getD, List.getElem?_eq_none (by omega)]; rfl
        rw [e5] at hk
        exact vf12 hE hF h2 ho hl hb0 hmany hreg hX fun n H' row d h1 h2 => hk n H' row _ h1 h2
end

/-- The blocks so far. -/
def gblk (p : Nat) (l : List Int) (b : Nat) : List Bl := firB p :: (List.range b).map (blkF p l)
theorem gblk_succ (p : Nat) (l : List Int) (b : Nat) : gblk p l (b + 1) = gblk p l b ++ [blkF p l b] := by
  unfold gblk; rw [List.range_succ, List.map_append]; rfl
theorem gblk_len (p : Nat) (l : List Int) (b : Nat) : (gblk p l b).length = b + 1 := by simp [gblk]

set_option maxHeartbeats 4000000 in
/-- All blocks behind the first. -/
theorem vf7 (hE : E.Good) (hF : E.Fits tab) {G H : Heap} {c r : Nat} {bv : AV} {rows : Blk} {Y : List (Nat × Blk)} {l : List Int} {p : Nat} (hp : p ≤ 6) (hll : l.length < 9223372036854775808)
    (h : HoldsG G H ((c, [vfc ⟨p, 9 + p, []⟩ bv]) :: (r, [z3]) :: (ownR bv rows ++ Y))) (ho : OwnR 5 bv rows) (hr : BRows rows [firB p]) :
    loopW (l18_7 E (Ret (.agg (vfF l p).cells) G)) [ints l, .ptr r 0 0, .ptr c 0 0, .int .i64 (manyN l), .int .i64 0] H := by
  have hmany := manyN_pos l
  skip
  refine loop_mk (σ := Nat) (fun b => [ints l, .ptr r 0 0, .ptr c 0 0, .int .i64 (manyN l), .int .i64 b])
    (fun b H' => b ≤ manyN l ∧ ∃ bv rows Y, OwnR 5 bv rows ∧ BRows rows (gblk p l b) ∧ HoldsG G H' ((c, [vfc ⟨p, 9 + p, []⟩ bv]) :: (r, [z3]) :: (ownR bv rows ++ Y))) (fun b => manyN l - b)
    0 rfl ⟨by omega, bv, rows, Y, ho, hr, h⟩ ?_
  rintro b H K ⟨hb0, bv, rows, Y, ho, hr, h⟩ hK
  have hlen := hr.len
  rw [gblk_len] at hlen
  unfold l18_7 w18_7; simp only [go_sem]
  repeat' (first | ((with_reducible refine cond_mk (fun hb => ?_) (fun hb => ?_)) <;> ((try simp only [if_true, if_false, qq, reduceCtorEq] at hb); (try (exfalso; first | (exact hb) | contradiction | omega)))) | ((with_reducible refine grp_mk ?_ (fun hb => ?_) (fun _ => ?_)) <;> (try simp only [if_true, if_false, qq, reduceCtorEq] at hb)) | ((with_reducible refine mk_alloc (fun id hid => ?_)); have hid0 := hid.none; (try have hlt := hid.lt (Heap.set_same _ _ _))) | ((with_reducible refine mk_box ?_ (fun id hid => ?_)); (simp only [go_sem]; done); have hid0 := hid.none; (try have hlt := hid.lt (Heap.set_same _ _ _))) | ((with_reducible refine And.intro ?_ ?_); (first | decide | omega)) | ((with_reducible refine at_here ?_); first | unfold m18_1 w18_1 | unfold m18_5 w18_5 | unfold m18_4 w18_4 | unfold m18_10 w18_10 | unfold m18_14 w18_14 | unfold m18_13 w18_13 | unfold m18_12 w18_12 | unfold m18_11 w18_11 | unfold m18_6 w18_6 | unfold m18_2 w18_2) | (simp (disch := omega) only [go_sem, Heap.get_ne, wrap64_id, Nat.reduceAdd, Nat.reduceLeDiff, Nat.reduceSub, Nat.reduceEqDiff, Int.reduceLT, Int.reduceLE, Int.reduceEq]) | (with_reducible rfl) | ((with_reducible refine And.intro ?_ ?_) <;> (with_reducible rfl)))
  · refine vf8 hE hF h ho (by omega) hll (by omega) (by omega) ⟨by show (1 : Int) ≤ 9 + p; omega, by show (9 + p : Int) ≤ 3000; omega⟩ fun n H' row Y' h1 h2 => ?_
    refine at_eq (hK (b + 1) _ ⟨by omega, _, rows ++ [row], Y', .inr ⟨n, rfl⟩, ?_, h2⟩ (by omega)) rfl
    rw [gblk_succ]
    refine hr.snoc ?_
    have e : decide ((b : Int) + 1 = manyN l) = (b + 1 == manyN l) := by
      by_cases hq : b + 1 = manyN l
      · simp [hq]; omega
      · have : ¬ ((b : Int) + 1 = manyN l) := by omega
        simp [hq, this]
    rw [e] at h1
    exact h1
  · have hc' : H c = some [vfc ⟨p, 9 + p, []⟩ bv] := h.get (by simp)
    have hr' : H r = some [z3] := h.get (by simp)
    have hne : c ≠ r := by
      have := h.to.1
      simp only [List.map_cons, List.nodup_cons, List.mem_cons, not_or] at this
      exact this.1.1
    have hbm : b = manyN l := by omega
    subst hbm
    repeat' (first | ((with_reducible refine cond_mk (fun hb => ?_) (fun hb => ?_)) <;> ((try simp only [if_true, if_false, qq, reduceCtorEq] at hb); (try (exfalso; first | (exact hb) | contradiction | omega)))) | ((with_reducible refine grp_mk ?_ (fun hb => ?_) (fun _ => ?_)) <;> (try simp only [if_true, if_false, qq, reduceCtorEq] at hb)) | ((with_reducible refine mk_alloc (fun id hid => ?_)); have hid0 := hid.none; (try have hlt := hid.lt (Heap.set_same _ _ _))) | ((with_reducible refine mk_box ?_ (fun id hid => ?_)); (simp only [go_sem]; done); have hid0 := hid.none; (try have hlt := hid.lt (Heap.set_same _ _ _))) | ((with_reducible refine And.intro ?_ ?_); (first | decide | omega)) | ((with_reducible refine at_here ?_); first | unfold m18_1 w18_1 | unfold m18_5 w18_5 | unfold m18_4 w18_4 | unfold m18_10 w18_10 | unfold m18_14 w18_14 | unfold m18_13 w18_13 | unfold m18_12 w18_12 | unfold m18_11 w18_11 | unfold m18_8 w18_8 | unfold m18_6 w18_6 | unfold m18_2 w18_2) | (simp (disch := omega) only [go_sem, Heap.get_ne, wrap64_id, Nat.reduceAdd, Nat.reduceLeDiff, Nat.reduceSub, Nat.reduceEqDiff, Int.reduceLT, Int.reduceLE, Int.reduceEq, hc', hr']) | (with_reducible rfl) | ((with_reducible refine And.intro ?_ ?_) <;> (with_reducible rfl)))
    have h2 : HoldsG G (H.set r (some [vfc ⟨p, 9 + p, []⟩ bv])) ((c, [vfc ⟨p, 9 + p, []⟩ bv]) :: (r, [vfc ⟨p, 9 + p, []⟩ bv]) :: (ownR bv rows ++ Y)) := h.put (i := 1) rfl
    have h3 : HoldsG G (H.set r (some [vfc ⟨p, 9 + p, []⟩ bv])) (ownR bv rows ++ ((c, [vfc ⟨p, 9 + p, []⟩ bv]) :: (r, [vfc ⟨p, 9 + p, []⟩ bv]) :: Y)) := h2.perm (perm_of_count fun i _ a => by simp only [List.count_append, List.count_cons]; omega)
    exact ret_vf (c := vfF l p) ho hr h3

@[go_sem] theorem spl_mi6 (r : MI) (a b c d e X : AV) : spl [a, b, c, d, e, X] 0 r.cells = vc r.op r.a r.b r.c r.n X := id rfl
/-- The first block's instructions so far. -/
def frows (p i : Nat) : Blk := (List.range i).map fun r : Nat => vc (firI p r).i.op r 0 0 r .nilsl
theorem frows_succ (p i : Nat) : frows p (i + 1) = frows p i ++ [vc (firI p i).i.op (firI p i).i.a (firI p i).i.b (firI p i).i.c (firI p i).i.n .nilsl] := by
  unfold frows; rw [List.range_succ, List.map_append]; rfl
theorem frows_len (p i : Nat) : (frows p i).length = i := by simp [frows]
theorem frows_le (p : Nat) : VLe (.ro 6 (frows p (9 + p))) (vins (firB p).ins) := by
  unfold frows vins firB
  rw [List.map_map]
  refine vle_ro (by simp) fun i a b ha hb => ?_
  rw [List.getElem?_map, Option.map_eq_some_iff] at ha hb
  obtain ⟨r, hr, rfl⟩ := ha
  obtain ⟨r', hr', rfl⟩ := hb
  rw [hr] at hr'; cases hr'
  refine ⟨rfl, fun j x y hx hy => ?_⟩
  match j with
  | 0 => cases hx; cases hy; exact VLe.refl _
  | 1 => cases hx; cases hy; exact VLe.refl _
  | 2 => cases hx; cases hy; exact VLe.refl _
  | 3 => cases hx; cases hy; exact VLe.refl _
  | 4 => cases hx; cases hy; exact VLe.refl _
  | 5 => cases hx; cases hy; exact vle_nil 1
  | n + 6 => cases hx

set_option maxHeartbeats 4000000 in
theorem vf5 (hE : E.Good) (hF : E.Fits tab) {G H : Heap} {x c r t : Nat} {f : VF} {iv : AV} {rows : Blk} {K1 : Tm → Heap → Prop} {R : AV → Heap → Prop} {l : List Int} {p many : Int} {i : Nat} {v : VI} (hv : v.args = [])
    (h : VB G x c r f .nilsl [] (blr iv 0 0 0 0) (ownR iv rows) H) (ht : H t = some [v.i.cells]) (ho : OwnR 6 iv rows) (hl : rows.length ≤ 1000) (hi : i < 1000)
    (hk : ∀ n H', VB G x c r f .nilsl [] (blr (.sl 6 n 0 (rows ++ [vc v.i.op v.i.a v.i.b v.i.c v.i.n .nilsl]).length) 0 0 0 0) [(n, rows ++ [vc v.i.op v.i.a v.i.b v.i.c v.i.n .nilsl])] H' → atW K1 [ints l, .int .i64 p, .ptr r 0 0, .ptr c 0 0, .int .i64 many, .ptr x 0 0, .int .i64 (i + 1)] H') :
    atW (m18_5 E R K1) [ints l, .int .i64 p, .ptr r 0 0, .ptr c 0 0, .int .i64 many, .ptr x 0 0, .int .i64 i, .ptr t 0 0] H := by
  skip
  refine at_here ?_; unfold m18_5 w18_5
  repeat' (first | ((with_reducible refine cond_mk (fun hb => ?_) (fun hb => ?_)) <;> ((try simp only [if_true, if_false, qq, reduceCtorEq] at hb); (try (exfalso; first | (exact hb) | contradiction | omega)))) | ((with_reducible refine grp_mk ?_ (fun hb => ?_) (fun _ => ?_)) <;> (try simp only [if_true, if_false, qq, reduceCtorEq] at hb)) | ((with_reducible refine mk_alloc (fun id hid => ?_)); have hid0 := hid.none; (try have hlt := hid.lt (Heap.set_same _ _ _))) | ((with_reducible refine mk_box ?_ (fun id hid => ?_)); (simp only [go_sem]; done); have hid0 := hid.none; (try have hlt := hid.lt (Heap.set_same _ _ _))) | ((with_reducible refine And.intro ?_ ?_); (first | decide | omega)) | ((with_reducible refine at_here ?_); first | unfold m18_1 w18_1 | unfold m18_5 w18_5 | unfold m18_4 w18_4 | unfold m18_10 w18_10 | unfold m18_14 w18_14 | unfold m18_13 w18_13 | unfold m18_12 w18_12 | unfold m18_11 w18_11 | unfold m18_8 w18_8 | unfold m18_6 w18_6 | unfold m18_2 w18_2) | (simp (disch := omega) only [go_sem, Heap.get_ne, wrap64_id, Nat.reduceAdd, Nat.reduceLeDiff, Nat.reduceSub, Nat.reduceEqDiff, Int.reduceLT, Int.reduceLE, Int.reduceEq, h.hx, h.hc, h.hr, ht]) | (with_reducible rfl) | ((with_reducible refine And.intro ?_ ?_) <;> (with_reducible rfl)))
  have h2 : HoldsG G H (ownR iv rows ++ ((x, [blr iv 0 0 0 0]) :: (c, [vfc f .nilsl]) :: [(r, [z3])])) := HoldsG.perm h (perm_of_count fun i _ a => by simp only [ownR, List.count_append, List.count_cons, List.count_nil]; omega)
  refine app_own ho h2 (by simp only [appLim, List.length_singleton]; omega) fun n H' h' => ?_
  have hx' : H' x = some [blr iv 0 0 0 0] := h'.get (by simp)
  repeat' (first | ((with_reducible refine cond_mk (fun hb => ?_) (fun hb => ?_)) <;> ((try simp only [if_true, if_false, qq, reduceCtorEq] at hb); (try (exfalso; first | (exact hb) | contradiction | omega)))) | ((with_reducible refine grp_mk ?_ (fun hb => ?_) (fun _ => ?_)) <;> (try simp only [if_true, if_false, qq, reduceCtorEq] at hb)) | ((with_reducible refine mk_alloc (fun id hid => ?_)); have hid0 := hid.none; (try have hlt := hid.lt (Heap.set_same _ _ _))) | ((with_reducible refine mk_box ?_ (fun id hid => ?_)); (simp only [go_sem]; done); have hid0 := hid.none; (try have hlt := hid.lt (Heap.set_same _ _ _))) | ((with_reducible refine And.intro ?_ ?_); (first | decide | omega)) | ((with_reducible refine at_here ?_); first | unfold m18_1 w18_1 | unfold m18_5 w18_5 | unfold m18_4 w18_4 | unfold m18_10 w18_10 | unfold m18_14 w18_14 | unfold m18_13 w18_13 | unfold m18_12 w18_12 | unfold m18_11 w18_11 | unfold m18_8 w18_8 | unfold m18_6 w18_6 | unfold m18_2 w18_2) | (simp (disch := omega) only [go_sem, Heap.get_ne, wrap64_id, Nat.reduceAdd, Nat.reduceLeDiff, Nat.reduceSub, Nat.reduceEqDiff, Int.reduceLT, Int.reduceLE, Int.reduceEq, hx']) | (with_reducible rfl) | ((with_reducible refine And.intro ?_ ?_) <;> (with_reducible rfl)))
  refine hk n _ ?_
  have h3 : HoldsG G H' ((x, [blr iv 0 0 0 0]) :: ((n, rows ++ [vc v.i.op v.i.a v.i.b v.i.c v.i.n .nilsl]) :: (c, [vfc f .nilsl]) :: [(r, [z3])])) := h'.perm (perm_of_count fun i _ a => by simp only [List.count_append, List.count_cons, List.count_nil]; omega)
  have h4 := h3.set (b' := [blr (.sl 6 n 0 (rows ++ [vc v.i.op v.i.a v.i.b v.i.c v.i.n .nilsl]).length) 0 0 0 0])
  show HoldsG G _ ((x, [blr (.sl 6 n 0 (rows ++ [vc v.i.op v.i.a v.i.b v.i.c v.i.n .nilsl]).length) 0 0 0 0]) :: (c, [vfc f .nilsl]) :: (r, [z3]) :: ([] ++ [(n, rows ++ [vc v.i.op v.i.a v.i.b v.i.c v.i.n .nilsl])]))
  exact h4.perm (perm_of_count fun i _ a => by simp only [List.count_append, List.count_cons, List.count_nil]; omega)
set_option maxHeartbeats 4000000 in
theorem vfunc_spec (hE : E.Good) (hF : E.Fits tab) (l : List Int) (p : Nat) (hp : p ≤ 6) : PF E 18 [ints l, .int .i64 p] (.agg (vfF l p).cells) := by
  intro G
  refine acall_small fun hs => ?_
  have hlen := small_ints (hs (ints l) (by simp))
  clear hs
  have hmany := manyN_pos l
  have h6 : (l.length : Int).tdiv 6 = ((l.length / 6 : Nat) : Int) := by simp
  have hm : (1 + if (5 : Int) < ((l.length / 6 : Nat) : Int) then (5 : Int) else ((l.length / 6 : Nat) : Int)) = manyN l := by
    unfold manyN; split <;> omega
  refine ent18 hE hF _ _ _ _ ?_; unfold w18
  refine mk_alloc fun r hr => ?_
  repeat' (first | ((with_reducible refine cond_mk (fun hb => ?_) (fun hb => ?_)) <;> ((try simp only [if_true, if_false, qq, reduceCtorEq] at hb); (try (exfalso; first | (exact hb) | contradiction | omega)))) | ((with_reducible refine grp_mk ?_ (fun hb => ?_) (fun _ => ?_)) <;> (try simp only [if_true, if_false, qq, reduceCtorEq] at hb)) | ((with_reducible refine mk_alloc (fun id hid => ?_)); have hid0 := hid.none; (try have hlt := hid.lt (Heap.set_same _ _ _))) | ((with_reducible refine mk_box ?_ (fun id hid => ?_)); (simp only [go_sem]; done); have hid0 := hid.none; (try have hlt := hid.lt (Heap.set_same _ _ _))) | ((with_reducible refine And.intro ?_ ?_); (first | decide | omega)) | ((with_reducible refine at_here ?_); first | unfold m18_1 w18_1 | unfold m18_5 w18_5 | unfold m18_4 w18_4 | unfold m18_10 w18_10 | unfold m18_14 w18_14 | unfold m18_13 w18_13 | unfold m18_12 w18_12 | unfold m18_11 w18_11 | unfold m18_8 w18_8 | unfold m18_6 w18_6 | unfold m18_2 w18_2) | (simp (disch := omega) only [go_sem, Heap.get_ne, wrap64_id, Nat.reduceAdd, Nat.reduceLeDiff, Nat.reduceSub, Nat.reduceEqDiff, Int.reduceLT, Int.reduceLE, Int.reduceEq, h6]) | (with_reducible rfl) | ((with_reducible refine And.intro ?_ ?_) <;> (with_reducible rfl)))
  have h0 : HoldsG G G [] := ⟨⟨by simp, by simp⟩, fun k b h => ⟨h, by simp⟩⟩
  have h : HoldsG G ((G.set r (some [z3])).set id (some [vfc ⟨p, 9 + (0 : Nat), []⟩ .nilsl])) [(id, [vfc ⟨p, 9 + (0 : Nat), []⟩ .nilsl]), (r, [z3])] := (h0.new hr).new hid
  rw [hm]
  clear hid hid0 hr hlt h0 hm h6
  refine loop_mk (σ := Nat) (fun i => [ints l, .int .i64 p, .ptr r 0 0, .ptr id 0 0, .int .i64 (manyN l), .int .i64 i])
    (fun i H' => i ≤ p ∧ HoldsG G H' [(id, [vfc ⟨p, 9 + i, []⟩ .nilsl]), (r, [z3])]) (fun i => p - i)
    0 rfl ⟨by omega, h⟩ ?_
  rintro i H K ⟨hi, h⟩ hK
  have hc' : H id = some [vfc ⟨p, 9 + i, []⟩ .nilsl] := h.get (by simp)
  unfold l18_0 w18_0; simp only [go_sem]
  repeat' (first | ((with_reducible refine cond_mk (fun hb => ?_) (fun hb => ?_)) <;> ((try simp only [if_true, if_false, qq, reduceCtorEq] at hb); (try (exfalso; first | (exact hb) | contradiction | omega)))) | ((with_reducible refine grp_mk ?_ (fun hb => ?_) (fun _ => ?_)) <;> (try simp only [if_true, if_false, qq, reduceCtorEq] at hb)) | ((with_reducible refine mk_alloc (fun id hid => ?_)); have hid0 := hid.none; (try have hlt := hid.lt (Heap.set_same _ _ _))) | ((with_reducible refine mk_box ?_ (fun id hid => ?_)); (simp only [go_sem]; done); have hid0 := hid.none; (try have hlt := hid.lt (Heap.set_same _ _ _))) | ((with_reducible refine And.intro ?_ ?_); (first | decide | omega)) | ((with_reducible refine at_here ?_); first | unfold m18_5 w18_5 | unfold m18_4 w18_4 | unfold m18_10 w18_10 | unfold m18_14 w18_14 | unfold m18_13 w18_13 | unfold m18_12 w18_12 | unfold m18_11 w18_11 | unfold m18_8 w18_8 | unfold m18_6 w18_6) | (simp (disch := omega) only [go_sem, Heap.get_ne, wrap64_id, Nat.reduceAdd, Nat.reduceLeDiff, Nat.reduceSub, Nat.reduceEqDiff, Int.reduceLT, Int.reduceLE, Int.reduceEq, hc']) | (with_reducible rfl) | ((with_reducible refine And.intro ?_ ?_) <;> (with_reducible rfl)))
  · refine at_here ?_; unfold m18_1 w18_1
    repeat' (first | ((with_reducible refine cond_mk (fun hb => ?_) (fun hb => ?_)) <;> ((try simp only [if_true, if_false, qq, reduceCtorEq] at hb); (try (exfalso; first | (exact hb) | contradiction | omega)))) | ((with_reducible refine grp_mk ?_ (fun hb => ?_) (fun _ => ?_)) <;> (try simp only [if_true, if_false, qq, reduceCtorEq] at hb)) | ((with_reducible refine mk_alloc (fun id hid => ?_)); have hid0 := hid.none; (try have hlt := hid.lt (Heap.set_same _ _ _))) | ((with_reducible refine mk_box ?_ (fun id hid => ?_)); (simp only [go_sem]; done); have hid0 := hid.none; (try have hlt := hid.lt (Heap.set_same _ _ _))) | ((with_reducible refine And.intro ?_ ?_); (first | decide | omega)) | ((with_reducible refine at_here ?_); first | unfold m18_1 w18_1 | unfold m18_5 w18_5 | unfold m18_4 w18_4 | unfold m18_10 w18_10 | unfold m18_14 w18_14 | unfold m18_13 w18_13 | unfold m18_12 w18_12 | unfold m18_11 w18_11 | unfold m18_8 w18_8 | unfold m18_6 w18_6 | unfold m18_2 w18_2) | (simp (disch := omega) only [go_sem, Heap.get_ne, wrap64_id, Nat.reduceAdd, Nat.reduceLeDiff, Nat.reduceSub, Nat.reduceEqDiff, Int.reduceLT, Int.reduceLE, Int.reduceEq, hc']) | (with_reducible rfl) | ((with_reducible refine And.intro ?_ ?_) <;> (with_reducible rfl)))
    have e : (⟨p, 9 + (i : Int) + 1, []⟩ : VF) = ⟨p, 9 + (i + 1 : Nat), []⟩ := by rw [show (9 + (i : Int) + 1) = 9 + ((i + 1 : Nat) : Int) by omega]
    rw [e]
    exact at_eq (hK (i + 1) _ ⟨by omega, h.set⟩ (by omega)) rfl
  · have hip : i = p := by omega
    subst hip
    clear hK
    refine at_here ?_
    unfold m18_2 w18_2
    simp only [go_sem]
    refine mk_alloc fun x hx => ?_
    have h0 : VB G x id r ⟨i, 9 + i, []⟩ .nilsl [] (blr .nilsl 0 0 0 0) (ownR .nilsl []) (H.set x (some [blr .nilsl 0 0 0 0])) := HoldsG.new h hx
    refine loop_mk (σ := Nat) (fun k => [ints l, .int .i64 i, .ptr r 0 0, .ptr id 0 0, .int .i64 (manyN l), .ptr x 0 0, .int .i64 k])
      (fun k H' => k ≤ 9 + i ∧ ∃ iv, OwnR 6 iv (frows i k) ∧ VB G x id r ⟨i, 9 + i, []⟩ .nilsl [] (blr iv 0 0 0 0) (ownR iv (frows i k)) H') (fun k => 9 + i - k)
      0 rfl ⟨by omega, .nilsl, .inl ⟨rfl, rfl⟩, h0⟩ ?_
    rintro k H K ⟨hk, iv, ho, hv⟩ hK
    unfold l18_3 w18_3; simp only [go_sem]
    repeat' (first | ((with_reducible refine cond_mk (fun hb => ?_) (fun hb => ?_)) <;> ((try simp only [if_true, if_false, qq, reduceCtorEq] at hb); (try (exfalso; first | (exact hb) | contradiction | omega)))) | ((with_reducible refine grp_mk ?_ (fun hb => ?_) (fun _ => ?_)) <;> (try simp only [if_true, if_false, qq, reduceCtorEq] at hb)) | ((with_reducible refine mk_alloc (fun id hid => ?_)); have hid0 := hid.none; (try have hlt := hid.lt (Heap.set_same _ _ _))) | ((with_reducible refine mk_box ?_ (fun id hid => ?_)); (simp only [go_sem]; done); have hid0 := hid.none; (try have hlt := hid.lt (Heap.set_same _ _ _))) | ((with_reducible refine And.intro ?_ ?_); (first | decide | omega)) | ((with_reducible refine at_here ?_); first | unfold m18_1 w18_1 | unfold m18_5 w18_5 | unfold m18_10 w18_10 | unfold m18_14 w18_14 | unfold m18_13 w18_13 | unfold m18_12 w18_12 | unfold m18_11 w18_11 | unfold m18_8 w18_8 | unfold m18_2 w18_2) | (simp (disch := omega) only [go_sem, Heap.get_ne, wrap64_id, Nat.reduceAdd, Nat.reduceLeDiff, Nat.reduceSub, Nat.reduceEqDiff, Int.reduceLT, Int.reduceLE, Int.reduceEq, hv.hx, hv.hc, hv.hr]) | (with_reducible rfl) | ((with_reducible refine And.intro ?_ ?_) <;> (with_reducible rfl)))
    · refine at_here ?_
      unfold m18_4 w18_4
      simp only [go_sem]
      refine ⟨rfl, ?_⟩
      refine mk_alloc fun y hy => ?_
      have key : ∀ v : VI, v = firI i k → ∀ H', VB G x id r ⟨i, 9 + i, []⟩ .nilsl [] (blr iv 0 0 0 0) (ownR iv (frows i k)) H' → H' y = some [v.i.cells] → atW (m18_5 E (Ret (.agg (vfF l i).cells) G) K) [ints l, .int .i64 i, .ptr r 0 0, .ptr id 0 0, .int .i64 (manyN l), .ptr x 0 0, .int .i64 k, .ptr y 0 0] H' := by
        intro v hv' H' h9 hy'
        subst hv'
        refine vf5 hE hF rfl h9 hy' ho (by rw [frows_len]; omega) (by omega) fun n H'' h' => ?_
        rw [← frows_succ] at h'
        exact at_eq (hK (k + 1) _ ⟨by omega, _, .inr ⟨n, rfl⟩, h'⟩ (by omega)) rfl
      have hm := HoldsG.more (b := some [MI.cells ⟨13, k, 0, 0, k⟩]) hv hy.none
      have hm2 := HoldsG.more (b := some [MI.cells ⟨38, k, 0, 0, k⟩]) hv hy.none
      repeat' (first | ((with_reducible refine cond_mk (fun hb => ?_) (fun hb => ?_)) <;> ((try simp only [if_true, if_false, qq, reduceCtorEq] at hb); (try (exfalso; first | (exact hb) | contradiction | omega)))) | ((with_reducible refine grp_mk ?_ (fun hb => ?_) (fun _ => ?_)) <;> (try simp only [if_true, if_false, qq, reduceCtorEq] at hb)) | ((with_reducible refine mk_alloc (fun id hid => ?_)); have hid0 := hid.none; (try have hlt := hid.lt (Heap.set_same _ _ _))) | ((with_reducible refine mk_box ?_ (fun id hid => ?_)); (simp only [go_sem]; done); have hid0 := hid.none; (try have hlt := hid.lt (Heap.set_same _ _ _))) | ((with_reducible refine And.intro ?_ ?_); (first | decide | omega)) | ((with_reducible refine at_here ?_); first | unfold m18_1 w18_1 | unfold m18_4 w18_4 | unfold m18_10 w18_10 | unfold m18_14 w18_14 | unfold m18_13 w18_13 | unfold m18_12 w18_12 | unfold m18_11 w18_11 | unfold m18_8 w18_8 | unfold m18_6 w18_6 | unfold m18_2 w18_2) | (simp (disch := omega) only [go_sem, Heap.get_ne, wrap64_id, Nat.reduceAdd, Nat.reduceLeDiff, Nat.reduceSub, Nat.reduceEqDiff, Int.reduceLT, Int.reduceLE, Int.reduceEq]) | (with_reducible rfl) | ((with_reducible refine And.intro ?_ ?_) <;> (with_reducible rfl)))
      · refine key ⟨⟨38, k, 0, 0, k⟩, []⟩ (by unfold firI; rw [if_pos (by omega)]) _ hm2 (Heap.set_same _ _ _)
      · refine key ⟨⟨13, k, 0, 0, k⟩, []⟩ (by unfold firI; rw [if_neg (by omega)]) _ hm (Heap.set_same _ _ _)
    · have hkk : k = 9 + i := by omega
      subst hkk
      clear hK
      have hv1 : HoldsG G H ((x, [[iv, .int .i64 0, .int .i64 0, .int .i64 0, .int .i64 0]]) :: (id, [vfc ⟨i, 9 + i, []⟩ .nilsl]) :: (r, [z3]) :: ([] ++ ownR iv (frows i (9 + i)))) := hv
      have hv2 : HoldsG G H (ownR iv (frows i (9 + i)) ++ ((x, [[iv, .int .i64 0, .int .i64 0, .int .i64 0, .int .i64 0]]) :: (id, [vfc ⟨i, 9 + i, []⟩ .nilsl]) :: [(r, [z3])])) := HoldsG.perm hv1 (perm_of_count fun i _ a => by simp only [List.count_append, List.count_cons, List.count_nil]; omega)
      refine cl_own ho hv2 (fun id q hq => ?_) fun H' h' => at_here ?_
      · simp at hq; subst hq; rfl
      · unfold m18_6 w18_6
        have h2 : VB G x id r ⟨i, 9 + i, []⟩ .nilsl [] (blr (ownC iv (frows i (9 + i))) 0 0 0 0) [] H' := h'
        have hX : VLe (ownC iv (frows i (9 + i))) (vins (firB i).ins) := (ownC_le ho).trans (frows_le i)
        obtain ⟨n1, n2, n3⟩ := h2.ne
        repeat' (first | ((with_reducible refine cond_mk (fun hb => ?_) (fun hb => ?_)) <;> ((try simp only [if_true, if_false, qq, reduceCtorEq] at hb); (try (exfalso; first | (exact hb) | contradiction | omega)))) | ((with_reducible refine grp_mk ?_ (fun hb => ?_) (fun _ => ?_)) <;> (try simp only [if_true, if_false, qq, reduceCtorEq] at hb)) | ((with_reducible refine mk_alloc (fun id hid => ?_)); have hid0 := hid.none; (try have hlt := hid.lt (Heap.set_same _ _ _))) | ((with_reducible refine mk_box ?_ (fun id hid => ?_)); (simp only [go_sem]; done); have hid0 := hid.none; (try have hlt := hid.lt (Heap.set_same _ _ _))) | ((with_reducible refine And.intro ?_ ?_); (first | decide | omega)) | ((with_reducible refine at_here ?_); first | unfold m18_1 w18_1 | unfold m18_5 w18_5 | unfold m18_4 w18_4 | unfold m18_10 w18_10 | unfold m18_14 w18_14 | unfold m18_13 w18_13 | unfold m18_12 w18_12 | unfold m18_11 w18_11 | unfold m18_8 w18_8 | unfold m18_6 w18_6 | unfold m18_2 w18_2) | (simp (disch := omega) only [go_sem, Heap.get_ne, wrap64_id, Nat.reduceAdd, Nat.reduceLeDiff, Nat.reduceSub, Nat.reduceEqDiff, Int.reduceLT, Int.reduceLE, Int.reduceEq, h2.hx, h2.hc, h2.hr]) | (with_reducible rfl) | ((with_reducible refine And.intro ?_ ?_) <;> (with_reducible rfl)))
        refine (h2.px _).app (.inl ⟨rfl, rfl⟩) (by simp) fun n H' hc' h' => ?_
        repeat' (first | ((with_reducible refine cond_mk (fun hb => ?_) (fun hb => ?_)) <;> ((try simp only [if_true, if_false, qq, reduceCtorEq] at hb); (try (exfalso; first | (exact hb) | contradiction | omega)))) | ((with_reducible refine grp_mk ?_ (fun hb => ?_) (fun _ => ?_)) <;> (try simp only [if_true, if_false, qq, reduceCtorEq] at hb)) | ((with_reducible refine mk_alloc (fun id hid => ?_)); have hid0 := hid.none; (try have hlt := hid.lt (Heap.set_same _ _ _))) | ((with_reducible refine mk_box ?_ (fun id hid => ?_)); (simp only [go_sem]; done); have hid0 := hid.none; (try have hlt := hid.lt (Heap.set_same _ _ _))) | ((with_reducible refine And.intro ?_ ?_); (first | decide | omega)) | ((with_reducible refine at_here ?_); first | unfold m18_1 w18_1 | unfold m18_5 w18_5 | unfold m18_4 w18_4 | unfold m18_10 w18_10 | unfold m18_14 w18_14 | unfold m18_13 w18_13 | unfold m18_12 w18_12 | unfold m18_11 w18_11 | unfold m18_8 w18_8 | unfold m18_6 w18_6 | unfold m18_2 w18_2) | (simp (disch := omega) only [go_sem, Heap.get_ne, wrap64_id, Nat.reduceAdd, Nat.reduceLeDiff, Nat.reduceSub, Nat.reduceEqDiff, Int.reduceLT, Int.reduceLE, Int.reduceEq, hc']) | (with_reducible rfl) | ((with_reducible refine And.intro ?_ ?_) <;> (with_reducible rfl)))
        exact vf7 hE hF hp hlen h'.drop (.inr ⟨n, rfl⟩) (BRows.nil.snoc ⟨_, rfl, hX⟩)
end Go.Abs
set_option linter.unusedSimpArgs false
set_option linter.unusedVariables false
set_option maxRecDepth 100000
namespace Go.Abs
variable {E : Env}
section
variable {k : AV → Prop}
@[go_sem] theorem slice_ints (l : List Int) (q : IntKind) (h : Int) : pW (.slice 1 (.c (ints l)) none (some (.c (.int q h)))) k = ((0 ≤ h ∧ h ≤ l.length) ∧ k (ints (l.take h.toNat))) := by
  unfold ints; rw [p_slice1, List.length_map, List.map_take]
@[go_sem] theorem slice_vfs (l : List VF) (q : IntKind) (h : Int) : pW (.slice 3 (.c (vfs l)) none (some (.c (.int q h)))) k = ((0 ≤ h ∧ h ≤ l.length) ∧ k (vfs (l.take h.toNat))) := by
  unfold vfs; rw [p_slice1, List.length_map, List.map_take]
@[go_sem] theorem slice_vfs2 (l : List VF) (q : IntKind) (h : Int) : pW (.slice 3 (.c (vfs l)) (some (.c (.int q h))) none) k = ((0 ≤ h ∧ h ≤ l.length) ∧ k (vfs (l.drop h.toNat))) := by
  unfold vfs; rw [p_slice2, List.length_map, List.map_drop]
end
theorem take_min (l : List Int) (n : Nat) (m : Int) (hm : m = n) : (if m < (l.length : Int) then m else (l.length : Int)) = ((min n l.length : Nat) : Int) := by
  subst hm; split <;> omega
theorem take_min2 (l : List Int) (n : Nat) : l.take (min n l.length) = l.take n := by
  rcases Nat.le_total n l.length with h | h
  · rw [Nat.min_eq_left h]
  · rw [Nat.min_eq_right h, List.take_length, List.take_of_length_le h]

theorem vfuncs_spec (hE : E.Good) (hF : E.Fits tab) (l m : List Int) : PF E 22 [ints l, ints m] (.tup [vfs (vfs2 l m), ints [3, 2]]) := by
  have e36 := take_min l 36 36 rfl
  have e18 := take_min m 18 18 rfl
  have s1 := vfunc_spec hE hF (l.take 36) 2 (by omega)
  have s2 := vfunc_spec hE hF (m.take 18) 1 (by omega)
  intro H; refine ent22 hE hF _ _ _ _ ?_; unfold w22
  repeat' (first | ((with_reducible refine cond_mk (fun hb => ?_) (fun hb => ?_)) <;> ((try simp only [if_true, if_false, qq, reduceCtorEq] at hb); (try (exfalso; first | (exact hb) | contradiction | omega)))) | ((with_reducible refine call_pure (s1) ?_); intro _) | ((with_reducible refine pc_pure (s1) ?_)) | ((with_reducible refine dcall_pure0 (s1) ?_)) | ((with_reducible refine call_pure (s2) ?_); intro _) | ((with_reducible refine pc_pure (s2) ?_)) | ((with_reducible refine dcall_pure0 (s2) ?_)) | ((with_reducible refine And.intro ?_ ?_); (first | decide | omega)) | (simp (disch := omega) only [go_sem, Heap.get_ne, wrap64_id, Nat.reduceAdd, Nat.reduceLeDiff, Nat.reduceSub, Nat.reduceEqDiff, Int.reduceLT, Int.reduceLE, Int.reduceEq, e36, e18, Int.toNat_natCast, take_min2]) | (with_reducible rfl) | ((with_reducible refine And.intro ?_ ?_) <;> (with_reducible rfl)))
  refine mk_bsl rfl fun i hi => ?_
  refine mk_bsl rfl fun j hj => ?_
  have hij : i ≠ j := hj.ne (Heap.set_same _ _ _)
  refine .frz i _ (fun _ => .tup [vfs (vfs2 l m), .sl 1 j 0 2]) ((Heap.get_ne _ _ _ _ hij).trans (Heap.set_same _ _ _)) (fun _ => .inr ?_) ?_
  · simp only [frz, frz0, frz1, List.map_cons, List.map_nil, if_neg (fun e : j = i ∧ _ => hij e.1.symm)]
    rfl
  refine .frz j _ (fun _ => .tup [vfs (vfs2 l m), ints [3, 2]]) ((Heap.get_ne _ _ _ _ (Ne.symm hij)).trans (Heap.set_same _ _ _)) (fun _ => .inr ?_) ?_
  · simp only [frz, frz0, frz1, List.map_cons, List.map_nil]
    rfl
  refine .le (fun _ => .tup [vfs (vfs2 l m), ints [3, 2]]) H (fun _ => VLe.refl _) (fun k => ?_) (.here ⟨rfl, rfl⟩)
  cases e : H k with
  | none => exact .inl rfl
  | some b =>
    have h1 := hi.ne e
    have h2 : k ≠ j := hj.ne ((Heap.get_ne _ _ _ _ h1).trans e)
    exact .inr (by rw [Heap.get_ne _ _ _ _ h2, Heap.get_ne _ _ _ _ h1, Heap.get_ne _ _ _ _ h2, Heap.get_ne _ _ _ _ h1, e])
end Go.Abs
set_option linter.unusedSimpArgs false
set_option linter.unusedVariables false
set_option maxRecDepth 100000
namespace Go.Abs
variable {E : Env}

/-- The blocks' rows, of block p the instructions stand in a row of their own. -/
def full (c : VF) (p i k : Nat) (en reg tgt els : Int) : Blk := (c.blocks.map Bl.cells).set p (blr (.sl 6 i 0 k) en reg tgt els)
theorem frz_bl (w : Nat) (es : Blk) (b : Bl) : b.cells.map (frz1 w es) = b.cells := rfl
theorem frz_fulli {c : VF} {p i k : Nat} {en reg tgt els : Int} (es : Blk) (hk : k = es.length) : (full c p i k en reg tgt els).map (fun cs => cs.map (frz1 i es)) = (c.blocks.map Bl.cells).set p (blr (.ro 6 es) en reg tgt els) := by
  subst hk
  unfold full
  rw [List.map_set]
  congr 1
  · refine (List.map_congr_left fun row hrow => ?_).trans (List.map_id _)
    obtain ⟨b, -, rfl⟩ := List.mem_map.1 hrow
    exact frz_bl i es b
  · simp [blr, frz1]

/-- A function is given back, one block's instructions in a row of their own. -/
theorem ret_mut {G H : Heap} {Y : List (Nat × Blk)} {c f : VF} {p n i m : Nat} {en reg tgt els : Int} {irows : Blk} {ins : List VI} (hp : p < c.blocks.length) (hm : m ≤ c.blocks.length) (hins : VLe (.ro 6 irows) (vins ins))
    (hf : f.blocks = (c.blocks.set p ⟨ins, en, reg, tgt, els⟩).take m) (h : HoldsG G H ((n, full c p i irows.length en reg tgt els) :: (i, irows) :: Y)) : RetC (Ret (.agg f.cells) G) (.agg (vfc f (.sl 5 n 0 m))) H := by
  have hni : n ≠ i := by
    have := h.to.1
    simp only [List.map_cons, List.nodup_cons, List.mem_cons, not_or] at this
    exact this.1.1
  have e1 := frz_fulli (c := c) (p := p) (i := i) (en := en) (reg := reg) (tgt := tgt) (els := els) irows rfl
  refine .frz2 i irows n _ _ (h.get (by simp)) hni (h.get (k := n) (b := full c p i irows.length en reg tgt els) (by simp)) (fun _ => .inl rfl) ?_
  rw [e1]
  have h2 : HoldsG G ((H.set i none).set n (some ((c.blocks.map Bl.cells).set p (blr (.ro 6 irows) en reg tgt els)))) ((n, (c.blocks.map Bl.cells).set p (blr (.ro 6 irows) en reg tgt els)) :: Y) := by
    have h3 : HoldsG G H ([(i, irows)] ++ ((n, full c p i irows.length en reg tgt els) :: Y)) := h.perm (List.Perm.swap _ _ _)
    have h4 : HoldsG G (H.set i none) ((n, full c p i irows.length en reg tgt els) :: Y) := h3.frame (X' := []) ⟨by simp, by simp⟩ ((Kept.refl _ _).step _ (.inl (by simp))) (by simp)
    exact h4.set
  refine .frz n _ (fun _ => .agg (vfc f (.ro 5 (((c.blocks.map Bl.cells).set p (blr (.ro 6 irows) en reg tgt els)).take m)))) (h2.get List.mem_cons_self) (fun _ => .inr ?_) (.le (fun _ => .agg f.cells) G (fun _ => vle_vf ?_) (fun k => ?_) (.here ⟨rfl, rfl⟩))
  · simp [frz, frz0, frz1, vfc, hm]
  · rw [hf]
    refine vle_ro (by simp) fun j a b ha hb => ?_
    rw [List.getElem?_map, Option.map_eq_some_iff] at hb
    obtain ⟨b', hb', rfl⟩ := hb
    have hj := (List.getElem?_eq_some_iff.1 ha).1
    have hjm : j < m := by simp at hj; omega
    rw [List.getElem?_take_of_lt hjm] at ha hb'
    by_cases e : j = p
    · subst e
      rw [List.getElem?_set_self (by simpa using hp)] at ha
      rw [List.getElem?_set_self hp] at hb'
      cases ha; cases hb'
      exact ⟨rfl, vle_blr hins _ _ _ _⟩
    · rw [List.getElem?_set_ne (Ne.symm e), List.getElem?_map, Option.map_eq_some_iff] at ha
      rw [List.getElem?_set_ne (Ne.symm e)] at hb'
      obtain ⟨b2, hb2, rfl⟩ := ha
      rw [hb'] at hb2; cases hb2
      exact ⟨rfl, fun j x y hx hy => by rw [hx] at hy; cases hy; exact VLe.refl _⟩
  · cases e : G k with
    | none => exact .inl rfl
    | some b =>
      have := h2.kp k b e
      refine .inr ?_
      rw [Heap.get_ne _ _ _ _ (fun e2 => this.2 (by rw [e2]; simp))]
      exact this.1.symm

/-- What the copying has come to: b blocks. -/
def MS (G : Heap) (c : VF) (p o r d : Nat) (how : Int) (b : Nat) (H : Heap) : Prop :=
  ∃ ov i, OwnR 5 ov ((full c p i (c.blocks.getD p default).ins.length (c.blocks.getD p default).en (c.blocks.getD p default).reg (c.blocks.getD p default).tgt (c.blocks.getD p default).els).take b) ∧
    HoldsG G H ((o, [vfc ⟨c.params, c.regs, []⟩ ov]) :: (r, [z3]) :: (d, [[.int .i64 how]]) :: (ownR ov ((full c p i (c.blocks.getD p default).ins.length (c.blocks.getD p default).en (c.blocks.getD p default).reg (c.blocks.getD p default).tgt (c.blocks.getD p default).els).take b) ++
      if p < b then [(i, (c.blocks.getD p default).ins.map VI.cells)] else []))


/-- The copy stands whole; v is the instruction to change (or one of no account, if its block has none). -/
def MV (G : Heap) (c : VF) (p o r d n i vi vq q : Nat) (how : Int) (f0 : VF) (m : Nat) (en reg tgt els : Int) (irows : Blk) (vcells : List AV) (H : Heap) : Prop :=
  ∃ Z, HoldsG G H ((o, [vfc f0 (.sl 5 n 0 m)]) :: (r, [z3]) :: (d, [[.int .i64 how]]) :: (n, full c p i irows.length en reg tgt els) :: (i, irows) :: Z) ∧
    ((Z = [] ∧ vi = i ∧ vq = q ∧ irows[q]? = some vcells) ∨ (Z = [(vi, [vcells])] ∧ vq = 0 ∧ irows = []))
section
variable {G H : Heap} {c f0 : VF} {p o r d n i vi vq q m : Nat} {how en reg tgt els : Int} {irows : Blk} {vcells : List AV}
theorem MV.ho (h : MV G c p o r d n i vi vq q how f0 m en reg tgt els irows vcells H) : H o = some [vfc f0 (.sl 5 n 0 m)] := by
  obtain ⟨Z, h, -⟩ := h; exact h.get (by simp)
theorem MV.hr (h : MV G c p o r d n i vi vq q how f0 m en reg tgt els irows vcells H) : H r = some [z3] := by
  obtain ⟨Z, h, -⟩ := h; exact h.get (by simp)
theorem MV.hn (h : MV G c p o r d n i vi vq q how f0 m en reg tgt els irows vcells H) : H n = some (full c p i irows.length en reg tgt els) := by
  obtain ⟨Z, h, -⟩ := h; exact h.get (by simp)
theorem MV.ne (h : MV G c p o r d n i vi vq q how f0 m en reg tgt els irows vcells H) : o ≠ r ∧ o ≠ n ∧ r ≠ n ∧ o ≠ vi ∧ r ≠ vi ∧ n ≠ vi := by
  obtain ⟨Z, h, h2⟩ := h
  have := h.to.1
  simp only [List.map_cons, List.nodup_cons, List.mem_cons, not_or] at this
  obtain ⟨⟨a1, a2, a3, a4, a5⟩, ⟨b1, b2, b3, b4⟩, -, ⟨c1, c2⟩, -⟩ := this
  rcases h2 with ⟨rfl, rfl, -⟩ | ⟨rfl, -⟩
  · exact ⟨a1, a3, b2, a4, b3, c1⟩
  · simp at a5 b4 c2
    exact ⟨a1, a3, b2, a5, b4, c2⟩
theorem MV.hv (h : MV G c p o r d n i vi vq q how f0 m en reg tgt els irows vcells H) : ∃ vr : Blk, H vi = some vr ∧ vr[vq]? = some vcells ∧ ∀ cs', MV G c p o r d n i vi vq q how f0 m en reg tgt els (irows.set q cs') cs' (H.set vi (some (vr.set vq cs'))) := by
  obtain ⟨Z, h, h2⟩ := h
  rcases h2 with ⟨rfl, rfl, rfl, h3⟩ | ⟨rfl, rfl, rfl⟩
  · refine ⟨irows, h.get (by simp), h3, fun cs' => ⟨[], ?_, .inl ⟨rfl, rfl, rfl, ?_⟩⟩⟩
    · rw [List.length_set]
      exact h.put (i := 4) rfl
    · rw [List.getElem?_set_self (List.getElem?_eq_some_iff.1 h3).1]
  · refine ⟨[vcells], h.get (by simp), rfl, fun cs' => ⟨[(vi, [cs'])], ?_, .inr ⟨rfl, rfl, rfl⟩⟩⟩
    exact h.put (i := 5) rfl
theorem MV.next (hE : E.Good) (hF : E.Fits tab) (h : MV G c p o r d n i vi vq q how f0 m en reg tgt els irows vcells H) {k : Int} (hm : 0 < k) (hm2 : k < 1000000000) :
    ACall E 47 [.ptr d 0 0, .int .i64 k] H (fun v H' => v = .int .i64 (how % k) ∧ MV G c p o r d n i vi vq q (nxt how k) f0 m en reg tgt els irows vcells H') := by
  obtain ⟨Z, h, h2⟩ := h
  refine ACall.mono (next_spec hE hF (n := how) (h.get (by simp)) hm hm2) ?_
  rintro _ _ ⟨rfl, rfl⟩
  exact ⟨rfl, Z, h.put (i := 2) rfl, h2⟩
theorem MV.ret (h : MV G c p o r d n i vi vq q how f0 m en reg tgt els irows vcells H) {f : VF} {ins : List VI} (hp : p < c.blocks.length) (hm : m ≤ c.blocks.length) (hins : VLe (.ro 6 irows) (vins ins))
    (hf : f.blocks = (c.blocks.set p ⟨ins, en, reg, tgt, els⟩).take m) (h0 : f.params = f0.params ∧ f.regs = f0.regs) : RetC (Ret (.agg f.cells) G) (.agg (vfc f0 (.sl 5 n 0 m))) (H.set r (some [vfc f0 (.sl 5 n 0 m)])) := by
  obtain ⟨Z, h, h2⟩ := h
  have h3 := h.put (i := 1) (b' := [vfc f0 (.sl 5 n 0 m)]) rfl
  have e : vfc f0 (.sl 5 n 0 m) = vfc f (.sl 5 n 0 m) := by unfold vfc; rw [h0.1, h0.2]
  have h4 : HoldsG G (H.set r (some [vfc f0 (.sl 5 n 0 m)])) ((n, full c p i irows.length en reg tgt els) :: (i, irows) :: ((o, [vfc f0 (.sl 5 n 0 m)]) :: (r, [vfc f0 (.sl 5 n 0 m)]) :: (d, [[.int .i64 how]]) :: Z)) := h3.perm (perm_of_count fun i _ a => by simp only [List.set_cons_succ, List.set_cons_zero, List.count_append, List.count_cons, List.count_nil]; omega)
  rw [e] at h4 ⊢
  exact ret_mut hp hm hins hf h4
end

@[go_sem] theorem spl_z3' (c : VF) (X : AV) : spl z3 0 (vfc c X) = vfc c X := id rfl
@[go_sem] theorem set_vfc0 (c : VF) (X : AV) (n : Int) : (vfc c X).set 0 (.int .i64 n) = vfc { c with params := n } X := id rfl



end Go.Abs
set_option linter.unusedSimpArgs false
set_option linter.unusedVariables false
set_option maxRecDepth 100000
namespace Go.Abs
variable {E : Env}

@[go_sem] theorem drop_vf0 (c : VF) : c.cells.drop 0 = [.int .i64 c.params, .int .i64 c.regs, bls c.blocks] := id rfl
@[go_sem] theorem drop_vf1 (c : VF) : c.cells.drop 1 = [.int .i64 c.regs, bls c.blocks] := id rfl


end Go.Abs
set_option linter.unusedSimpArgs false
set_option linter.unusedVariables false
set_option maxRecDepth 100000
namespace Go.Abs
variable {E : Env}

/-- The state stands before the end of a function that gives v. -/
structure AtRet (s : St) (v : Int) : Prop where
  pc : s.top.pc = (s.top.f.blocks.getD s.top.bi.toNat default).ins.length
  en : (s.top.f.blocks.getD s.top.bi.toNat default).en = 3
  val : s.top.regs.getD (s.top.f.blocks.getD s.top.bi.toNat default).reg.toNat 0 = v
def CallPost (I : Ids) (B : List (Nat × Blk)) (s : St) (m : Int) : AV → Heap → Prop := fun x H' => ∃ k s' ov' v lg m', x = .int .i64 v ∧ Prog I.l k s s' ∧ RX I ov' B s' m' lg H' ∧
  ((lg = false ∧ s'.over = false ∧ (k : Int) + 1 ≤ m ∧ m' = m - k - 1 ∧ s'.rest = s.rest ∧ s'.top.to = s.top.to ∧ AtRet s' v)
   ∨ (lg = false ∧ s'.over = true ∧ (k : Int) ≤ m ∧ s'.val = 0)
   ∨ (lg = true ∧ s'.over = false ∧ k = m.toNat))
/-- What a run asks of the program and of a state, and how far it may go. -/
structure Okay (I : Ids) (lens : List Int) (n : Nat) (s : St) (m : Int) : Prop where
  inv : Inv I.l lens n s
  w : StW s
  few : (n : Int) + m ≤ 800000
  n0 : n ≤ 800000
/-- The contract of call, for at most N steps. -/
def CallOk (E : Env) (I : Ids) (lens : List Int) (N : Nat) : Prop := ∀ {ov av : AV} {B : List (Nat × Blk)} {s : St} {m : Int} {H : Heap} {n : Nat} {f : Int}, m.toNat ≤ N → Okay I lens n s m → s.over = false → s.top.regs = [] → s.top.bi = 0 → s.top.pc = 0 → ArgV av s.top.args → (∀ p ∈ ownL av s.top.args, p ∈ B) →
  (0 ≤ f ∧ f < I.l.length) → I.l.getD f.toNat default = s.top.f → RX I ov B s m false H → ACall E 51 [.ptr I.r 0 0, .int .i64 f, av] H (CallPost I B s m)
/-- How an instruction ends; m: the steps left behind its own. -/
def DoPost (I : Ids) (rb : Nat) (rs : List Int) (B : List (Nat × Blk)) (s : St) (m : Int) : AV → Heap → Prop := fun x H' => x = .tup [] ∧ ∃ k s' ov' rs' lg m', 1 ≤ k ∧ Prog I.l k s s' ∧ RX I ov' ((rb, rs'.map icell) :: B) s' m' lg H' ∧ rs'.length = rs.length ∧
  ((lg = false ∧ s'.over = false ∧ m' = m + 1 - k ∧ (k : Int) ≤ m + 1 ∧ s'.rest = s.rest ∧ (∃ regs', s'.top = { s.top with pc := s.top.pc + 1, regs := regs' } ∧ Agr s.top.f rs' regs'))
   ∨ (lg = false ∧ s'.over = true ∧ (k : Int) ≤ m + 1 ∧ s'.val = 0)
   ∨ (lg = true ∧ s'.over = false ∧ k = (m + 1).toNat))

theorem exI_top (v : VI) (s : St) : (s.exI v).rest = s.rest ∧ (∃ regs', (s.exI v).top = { s.top with regs := regs' }) ∧ ((s.exI v).over = true → s.over = true ∨ (s.exI v).val = 0) := by
  unfold St.exI
  split
  · split
    · exact ⟨rfl, ⟨_, rfl⟩, fun _ => .inr rfl⟩
    · exact ⟨rfl, ⟨_, rfl⟩, fun h => .inl h⟩
  split
  · exact ⟨rfl, ⟨_, rfl⟩, fun h => .inl h⟩
  split
  · unfold St.acc
    dsimp only
    split
    · exact ⟨rfl, ⟨_, rfl⟩, fun _ => .inr rfl⟩
    split
    · exact ⟨rfl, ⟨_, rfl⟩, fun h => .inl h⟩
    · exact ⟨rfl, ⟨_, rfl⟩, fun h => .inl h⟩
  · unfold St.comp
    split
    · exact ⟨rfl, ⟨_, rfl⟩, fun h => .inl h⟩
    · exact ⟨rfl, ⟨_, rfl⟩, fun _ => .inr rfl⟩

section
variable {I : Ids} {lens : List Int} {ov : AV} {B : List (Nat × Blk)} {s : St} {m : Int} {H : Heap}
theorem RX.any {lg : Bool} (h : RX I ov B s m lg H) (t : Fr) (r : List Fr) : RX I ov B { s with top := t, rest := r } m lg H := ⟨h.holds, h.hov, h.hcv, h.hov2⟩

theorem RX.app1 {lg : Bool} {v : AV} {xs : List Int} {x : Int} {K : AV → Heap → Prop} (h : RX I ov (ownR v (xs.map icell) ++ B) s m lg H) (ho : OwnR 1 v (xs.map icell)) (hl : xs.length ≤ 1000)
    (hk : ∀ n H', RX I ov ((n, (xs ++ [x]).map icell) :: B) s m lg H' → K (.sl 1 n 0 (xs ++ [x]).length) H') : mkW (.app 1 (.c v) (.c (.ro 1 [[.int .i64 x]]))) H K := by
  have h1 : HoldsG I.G H (ownR v (xs.map icell) ++ ((I.r, [inc I.l I.cv ov s.fuel m s.kind s.code s.val s.over lg]) :: (ownL ov s.out ++ (cellsL I.cid I.rids s.cells ++ B)))) := h.holds.perm (perm_of_count fun i _ a => by simp only [List.count_append, List.count_cons]; omega)
  refine app_own ho h1 (by simp [appLim]; omega) fun n H' h2 => ?_
  have e1 : xs.map icell ++ [[AV.int .i64 x]] = (xs ++ [x]).map icell := by simp [icell]
  rw [e1] at h2 ⊢
  rw [List.length_map]
  exact hk n H' ⟨h2.perm (perm_of_count fun i _ a => by simp only [List.count_append, List.count_cons]; omega), h.hov, h.hcv, h.hov2⟩
/-- Any instruction but a call. -/
theorem do_other (hE : E.Good) (hF : E.Fits tab) (hp : progOk I.l lens = true) {n : Nat} {rb : Nat} {rs : List Int} {av : AV} (hok : Okay I lens n s (m + 1)) (hm : 0 ≤ m) (hov : s.over = false) (hpc : s.top.pc ≠ (s.top.f.blocks.getD s.top.bi.toNat default).ins.length) (h6 : s.ins.i.op ≠ 6)
    (h : RX I ov ((rb, rs.map icell) :: B) s m false H) (hg : Agr s.top.f rs s.top.regs) (hav : ArgV av s.top.args) (hsub : ∀ p ∈ ownL av s.top.args, p ∈ B) :
    ACall E 85 [.ptr I.r 0 0, .agg s.ins.cells, .sl 1 rb 0 rs.length, av] H (DoPost I rb rs B s m) := by
  have hi := hok.inv
  have hf := funcOk_of hp hi.top.f
  have hbm : s.top.f.blocks.getD s.top.bi.toNat default ∈ s.top.f.blocks := getD_mem (by have := hi.top.bi; omega)
  have hpcr := hi.top.pc
  have hvm : s.ins ∈ (s.top.f.blocks.getD s.top.bi.toNat default).ins := getD_mem (by omega)
  have hio := hf.ins _ hbm _ hvm
  have hval : validF s.top.f = true := by
    simp only [progOk, Bool.and_eq_true, List.all_eq_true, funcOk] at hp
    exact (hp.2 _ hi.top.f).1
  have hro := regOk_of (validF_n hval hbm hvm)
  have hst : s.step I.l = s.inc.exI s.ins := step_exI hpc h6
  have h' : RB I ov rb rs B s.inc m false H := RX.any h _ _
  have hargs := hi.top.args
  obtain ⟨t1, ⟨regs', t2⟩, t3⟩ := exI_top s.ins s.inc
  refine ACall.mono (do1_spec hE hF (s := s.inc) (f := s.top.f) (v := s.ins) h' hg hro h6 hok.w.top.regs (fun e => by have := hio.mem e; show _ ∧ _ < (s.cells.length : Int); rw [hi.cells]; exact this) (fun e => by have := hio.par e; show _ ∧ _ < (s.top.args.length : Int); rw [hargs]; exact this) hav (fun p hpp => RX.hB h (List.mem_cons_of_mem _ (hsub p hpp)))
    (by show s.out.length < _; have := hi.few; have := hok.n0; omega) hi.fuel hov) ?_
  rintro x H' ⟨rfl, ov', rs', g1, g2, g3⟩
  refine ⟨rfl, 1, s.step I.l, ov', rs', false, m, Nat.le_refl _, Prog.one hov, by rw [hst]; exact g1, g2, ?_⟩
  rw [hst]
  cases ho : (s.inc.exI s.ins).over with
  | false =>
    have hA := g3 ho
    rw [t2] at hA
    refine .inl ⟨rfl, rfl, by omega, by omega, t1, regs', t2, hA⟩
  | true =>
    refine .inr (.inl ⟨rfl, rfl, by omega, ?_⟩)
    rcases t3 ho with h9 | h9
    · rw [show s.inc.over = s.over from rfl, hov] at h9; cases h9
    · exact h9

set_option maxHeartbeats 4000000 in
/-- A call. -/
theorem do_call (hE : E.Good) (hF : E.Fits tab) (hp : progOk I.l lens = true) {n : Nat} {rb : Nat} {rs : List Int} {av : AV} (hcall : CallOk E I lens m.toNat) (hok : Okay I lens n s (m + 1)) (hm : 0 ≤ m) (hov : s.over = false) (hpc : s.top.pc ≠ (s.top.f.blocks.getD s.top.bi.toNat default).ins.length) (h6 : s.ins.i.op = 6)
    (hw : ProgW I.l) (h : RX I ov ((rb, rs.map icell) :: B) s m false H) (hg : Agr s.top.f rs s.top.regs) :
    ACall E 85 [.ptr I.r 0 0, .agg s.ins.cells, .sl 1 rb 0 rs.length, av] H (DoPost I rb rs B s m) := by
  have hi := hok.inv
  have hf := funcOk_of hp hi.top.f
  have hbm : s.top.f.blocks.getD s.top.bi.toNat default ∈ s.top.f.blocks := getD_mem (by have := hi.top.bi; omega)
  have hpcr := hi.top.pc
  have hvm : s.ins ∈ (s.top.f.blocks.getD s.top.bi.toNat default).ins := getD_mem (by omega)
  have hio := hf.ins _ hbm _ hvm
  have hval : validF s.top.f = true := by
    simp only [progOk, Bool.and_eq_true, List.all_eq_true, funcOk] at hp
    exact (hp.2 _ hi.top.f).1
  have hro := regOk_of (validF_n hval hbm hvm)
  have hst := step_call (l := I.l) hpc h6
  obtain ⟨g1, g2, g3⟩ := hio.call h6
  have hna := hio.nargs
  have hl := hg.len
  have har := hro.args
  have hra := hro.a (by omega)
  have hrb : H rb = some (rs.map icell) := RX.hB h (p := (rb, rs.map icell)) List.mem_cons_self
  generalize hv : s.ins = v at *
  have hargm : ∀ k, k < v.args.length → 0 ≤ v.args.getD k 0 ∧ v.args.getD k 0 < rs.length := fun k hk => by
    have e : v.args.getD k 0 = v.args[k] := by simp [List.getD, hk]
    rw [e, hl]; exact har _ (List.getElem_mem hk)
  refine ent85 hE hF _ _ _ _ _ _ ?_; unfold w85
  repeat' (first | ((with_reducible refine cond_mk (fun hb => ?_) (fun hb => ?_)) <;> ((try simp only [if_true, if_false, qq, reduceCtorEq] at hb); (try (exfalso; first | (exact hb) | contradiction | omega)))) | ((with_reducible refine grp_mk ?_ (fun hb => ?_) (fun _ => ?_)) <;> (try simp only [if_true, if_false, qq, reduceCtorEq] at hb)) | (with_reducible refine fun (base : Nat) (hbase : Fresh _ base) => ?_) | ((with_reducible refine And.intro ?_ ?_); (first | decide | omega)) | ((with_reducible refine at_here ?_); first | unfold m85_1 w85_1 | unfold m85_2 w85_2 | unfold m85_4 w85_4 | unfold m85_3 w85_3) | (simp (disch := omega) only [go_sem, Heap.get_ne, wrap64_id, Nat.reduceAdd, Nat.reduceLeDiff, Nat.reduceSub, Nat.reduceEqDiff, Int.reduceLT, Int.reduceLE, Int.reduceEq]) | (with_reducible rfl) | ((with_reducible refine And.intro ?_ ?_) <;> (with_reducible rfl)))
  all_goals first | (exfalso; omega) | skip
  refine loop_mk (σ := Nat × AV) (fun t => [.ptr I.r 0 0, .sl 1 rb 0 rs.length, .rp v.cells, .rp v.i.cells, t.2, .int .i64 t.1])
    (fun t H' => t.1 ≤ v.args.length ∧ OwnR 1 t.2 (((v.args.take t.1).map fun a => rs.getD a.toNat 0).map icell) ∧ RX I ov (ownR t.2 (((v.args.take t.1).map fun a => rs.getD a.toNat 0).map icell) ++ ((rb, rs.map icell) :: B)) s m false H')
    (fun t => v.args.length - t.1) (0, .nilsl) rfl ⟨Nat.zero_le _, .inl ⟨rfl, rfl⟩, h⟩ ?_
  rintro ⟨k, tv⟩ H K ⟨hk, ho, h⟩ hK
  dsimp only at hk ho h
  have hrb : H rb = some (rs.map icell) := RX.hB h (p := (rb, rs.map icell)) (by simp)
  have hxl : ((v.args.take k).map fun a => rs.getD a.toNat 0).length ≤ 6 := by simp; omega
  unfold l85_0 w85_0; simp only [go_sem]
  repeat' (first | ((with_reducible refine cond_mk (fun hb => ?_) (fun hb => ?_)) <;> ((try simp only [if_true, if_false, qq, reduceCtorEq] at hb); (try (exfalso; first | (exact hb) | contradiction | omega)))) | ((with_reducible refine grp_mk ?_ (fun hb => ?_) (fun _ => ?_)) <;> (try simp only [if_true, if_false, qq, reduceCtorEq] at hb)) | (with_reducible refine fun (base : Nat) (hbase : Fresh _ base) => ?_) | ((with_reducible refine And.intro ?_ ?_); (first | decide | omega)) | ((with_reducible refine at_here ?_); first | unfold m85_4 w85_4 | unfold m85_3 w85_3) | (simp (disch := omega) only [go_sem, Heap.get_ne, wrap64_id, Nat.reduceAdd, Nat.reduceLeDiff, Nat.reduceSub, Nat.reduceEqDiff, Int.reduceLT, Int.reduceLE, Int.reduceEq]) | (with_reducible rfl) | ((with_reducible refine And.intro ?_ ?_) <;> (with_reducible rfl)))
  · have hak := hargm k (by omega)
    refine at_here ?_; unfold m85_1 w85_1
    repeat' (first | ((with_reducible refine cond_mk (fun hb => ?_) (fun hb => ?_)) <;> ((try simp only [if_true, if_false, qq, reduceCtorEq] at hb); (try (exfalso; first | (exact hb) | contradiction | omega)))) | ((with_reducible refine grp_mk ?_ (fun hb => ?_) (fun _ => ?_)) <;> (try simp only [if_true, if_false, qq, reduceCtorEq] at hb)) | (with_reducible refine fun (base : Nat) (hbase : Fresh _ base) => ?_) | ((with_reducible refine And.intro ?_ ?_); (first | decide | omega)) | ((with_reducible refine at_here ?_); first | unfold m85_1 w85_1 | unfold m85_2 w85_2 | unfold m85_4 w85_4 | unfold m85_3 w85_3) | (simp (disch := omega) only [go_sem, Heap.get_ne, wrap64_id, Nat.reduceAdd, Nat.reduceLeDiff, Nat.reduceSub, Nat.reduceEqDiff, Int.reduceLT, Int.reduceLE, Int.reduceEq, hrb, Nat.zero_add]) | (with_reducible rfl) | ((with_reducible refine And.intro ?_ ?_) <;> (with_reducible rfl)))
    refine RX.app1 h ho (by omega) fun w H' h' => ?_
    repeat' (first | ((with_reducible refine cond_mk (fun hb => ?_) (fun hb => ?_)) <;> ((try simp only [if_true, if_false, qq, reduceCtorEq] at hb); (try (exfalso; first | (exact hb) | contradiction | omega)))) | ((with_reducible refine grp_mk ?_ (fun hb => ?_) (fun _ => ?_)) <;> (try simp only [if_true, if_false, qq, reduceCtorEq] at hb)) | (with_reducible refine fun (base : Nat) (hbase : Fresh _ base) => ?_) | ((with_reducible refine And.intro ?_ ?_); (first | decide | omega)) | ((with_reducible refine at_here ?_); first | unfold m85_1 w85_1 | unfold m85_2 w85_2 | unfold m85_4 w85_4 | unfold m85_3 w85_3) | (simp (disch := omega) only [go_sem, Heap.get_ne, wrap64_id, Nat.reduceAdd, Nat.reduceLeDiff, Nat.reduceSub, Nat.reduceEqDiff, Int.reduceLT, Int.reduceLE, Int.reduceEq]) | (with_reducible rfl) | ((with_reducible refine And.intro ?_ ?_) <;> (with_reducible rfl)))
    have e : (v.args.take (k + 1)).map (fun a => rs.getD a.toNat 0) = (v.args.take k).map (fun a => rs.getD a.toNat 0) ++ [rs.getD (v.args.getD k 0).toNat 0] := by
      have e1 : v.args.take (k + 1) = v.args.take k ++ [v.args.getD k 0] := by
        rw [List.take_add_one, List.getElem?_eq_getElem (by omega)]; simp [List.getD, show k < v.args.length by omega]
      rw [e1, List.map_append]; rfl
    refine at_eq (hK (k + 1, .sl 1 w 0 ((v.args.take k).map (fun a => rs.getD a.toNat 0) ++ [rs.getD (v.args.getD k 0).toNat 0]).length) H' ⟨by omega, ?_, ?_⟩ (by simp; omega)) rfl
    · dsimp only
      rw [e]; exact .inr ⟨w, by simp⟩
    · dsimp only
      rw [e]; exact h'
  · have hkl : k = v.args.length := by omega
    subst hkl
    clear hK
    rw [List.take_length] at ho h hxl
    have exs : (v.args.map fun a => rs.getD a.toNat 0) = v.args.map fun a => s.top.regs.getD a.toNat 0 := List.map_congr_left fun a ha => by
      have := har a ha
      exact hg.at_ a.toNat (by omega)
    rw [exs] at ho h
    have hok' : Okay I lens (n + 1) (s.step I.l) m := ⟨hok.inv.step hp, hok.w.step hok.inv hw, by have := hok.few; omega, by have := hok.few; omega⟩
    have hrx : RX I ov (ownR tv ((v.args.map fun a => s.top.regs.getD a.toNat 0).map icell) ++ ((rb, rs.map icell) :: B)) (s.step I.l) m false H := by
      rw [hst]; exact RX.any h _ _
    have hargv : ArgV tv (s.step I.l).top.args := by
      rw [hst]
      refine .inr ?_
      rcases ho with ⟨rfl, e0⟩ | ⟨w, rfl⟩
      · exact .inl ⟨rfl, by simpa using e0⟩
      · exact .inr ⟨w, by simp⟩
    have hsub : ∀ p ∈ ownL tv (s.step I.l).top.args, p ∈ ownR tv ((v.args.map fun a => s.top.regs.getD a.toNat 0).map icell) ++ ((rb, rs.map icell) :: B) := by
      rw [hst]
      intro p hpp
      refine List.mem_append_left _ ?_
      rcases ho with ⟨rfl, e0⟩ | ⟨w, rfl⟩
      · simp [ownL] at hpp
      · exact hpp
    have hc := hcall (n := n + 1) (f := v.i.n) (s := s.step I.l) (Nat.le_refl _) hok' (by rw [hst]; exact hov) (by rw [hst]) (by rw [hst]) (by rw [hst]) hargv hsub ⟨g1, g2⟩ (by rw [hst]) hrx
    refine at_here ?_
    unfold m85_2 w85_2
    intro base hbase
    repeat' (first | ((with_reducible refine cond_mk (fun hb => ?_) (fun hb => ?_)) <;> ((try simp only [if_true, if_false, qq, reduceCtorEq] at hb); (try (exfalso; first | (exact hb) | contradiction | omega)))) | ((with_reducible refine grp_mk ?_ (fun hb => ?_) (fun _ => ?_)) <;> (try simp only [if_true, if_false, qq, reduceCtorEq] at hb)) | (with_reducible refine fun (base : Nat) (hbase : Fresh _ base) => ?_) | ((with_reducible refine And.intro ?_ ?_); (first | decide | omega)) | ((with_reducible refine at_here ?_); first | unfold m85_1 w85_1 | unfold m85_2 w85_2 | unfold m85_4 w85_4 | unfold m85_3 w85_3) | (simp (disch := omega) only [go_sem, Heap.get_ne, wrap64_id, Nat.reduceAdd, Nat.reduceLeDiff, Nat.reduceSub, Nat.reduceEqDiff, Int.reduceLT, Int.reduceLE, Int.reduceEq]) | (with_reducible rfl) | ((with_reducible refine And.intro ?_ ?_) <;> (with_reducible rfl)))
    refine call_any hc ?_
    rintro x H' - ⟨k, s', ov', w, lg, m', rfl, hpr, hrx', hcs⟩
    have hd : RX I ov' ((rb, rs.map icell) :: B) s' m' lg H' := hrx'.drop
    have hrb' : H' rb = some (rs.map icell) := RX.hB hd (p := (rb, rs.map icell)) List.mem_cons_self
    repeat' (first | ((with_reducible refine cond_mk (fun hb => ?_) (fun hb => ?_)) <;> ((try simp only [if_true, if_false, qq, reduceCtorEq] at hb); (try (exfalso; first | (exact hb) | contradiction | omega)))) | ((with_reducible refine grp_mk ?_ (fun hb => ?_) (fun _ => ?_)) <;> (try simp only [if_true, if_false, qq, reduceCtorEq] at hb)) | (with_reducible refine fun (base : Nat) (hbase : Fresh _ base) => ?_) | ((with_reducible refine And.intro ?_ ?_); (first | decide | omega)) | ((with_reducible refine at_here ?_); first | unfold m85_1 w85_1 | unfold m85_2 w85_2 | unfold m85_4 w85_4 | unfold m85_3 w85_3) | (simp (disch := omega) only [go_sem, Heap.get_ne, wrap64_id, Nat.reduceAdd, Nat.reduceLeDiff, Nat.reduceSub, Nat.reduceEqDiff, Int.reduceLT, Int.reduceLE, Int.reduceEq, hrb', Nat.zero_add]) | (with_reducible rfl) | ((with_reducible refine And.intro ?_ ?_) <;> (with_reducible rfl)))
    apply ret_here
    have hset := RX.setB (b' := (rs.set v.i.a.toNat w).map icell) hd
    have hp1 : Prog I.l (1 + k) s s' := (Prog.one hov).trans hpr
    rcases hcs with ⟨hlg, hov', hk1, hm', hrest, hto, hret⟩ | ⟨hlg, hov', hk1, hval0⟩ | ⟨hlg, hov', hk1⟩
    · subst hlg
      have hter : s'.step I.l = { s' with top := { s.inc.top with regs := lset s.top.regs v.i.a.toNat w }, rest := s.rest } := by
        rw [step_term hret.pc]
        unfold St.term
        dsimp only
        rw [if_neg (by rw [hret.en]; decide), if_neg (by rw [hret.en]; decide), if_pos hret.en, hret.val]
        rw [hrest, hst]
        dsimp only
        rw [hto, hst]
        rfl
      refine ⟨rfl, 1 + k + 1, s'.step I.l, ov', rs.set v.i.a.toNat w, false, m', by omega, hp1.trans (Prog.one hov'), ?_, List.length_set, .inl ⟨rfl, ?_, by omega, by omega, ?_, ?_⟩⟩
      · rw [hter]; exact RX.any hset _ _
      · rw [hter]; exact hov'
      · rw [hter]
      · rw [hter]; exact ⟨_, rfl, hg.set (by omega) w⟩
    · exact ⟨rfl, 1 + k, s', ov', rs.set v.i.a.toNat w, lg, m', by omega, hp1, hset, List.length_set, .inr (.inl ⟨hlg, hov', by omega, hval0⟩)⟩
    · exact ⟨rfl, 1 + k, s', ov', rs.set v.i.a.toNat w, lg, m', by omega, hp1, hset, List.length_set, .inr (.inr ⟨hlg, hov', by omega⟩)⟩

/-- An instruction. -/
theorem do_spec (hE : E.Good) (hF : E.Fits tab) (hp : progOk I.l lens = true) {n : Nat} {rb : Nat} {rs : List Int} {av : AV} (hcall : CallOk E I lens m.toNat) (hok : Okay I lens n s (m + 1)) (hm : 0 ≤ m) (hov : s.over = false) (hpc : s.top.pc ≠ (s.top.f.blocks.getD s.top.bi.toNat default).ins.length)
    (hw : ProgW I.l) (h : RX I ov ((rb, rs.map icell) :: B) s m false H) (hg : Agr s.top.f rs s.top.regs) (hav : ArgV av s.top.args) (hsub : ∀ p ∈ ownL av s.top.args, p ∈ B) :
    ACall E 85 [.ptr I.r 0 0, .agg s.ins.cells, .sl 1 rb 0 rs.length, av] H (DoPost I rb rs B s m) := by
  by_cases h6 : s.ins.i.op = 6
  · exact do_call hE hF hp hcall hok hm hov hpc h6 hw h hg
  · exact do_other hE hF hp hok hm hov hpc h6 h hg hav hsub
end
end Go.Abs
set_option linter.unusedSimpArgs false
set_option linter.unusedVariables false
set_option maxRecDepth 100000
namespace Go.Abs
variable {E : Env}

inductive Mode where
  | cur (k : Nat)
  | ovr
  | lng
/-- Where a call stands that began at s with m steps left: at block a, instruction p; or it is over; or the steps are used up. -/
def InM (I : Ids) (B : List (Nat × Blk)) (rb n : Nat) (s : St) (m a p : Int) : Mode → Heap → Prop
  | .cur k, H => ∃ (s' : St) (ov' : AV) (rs' : List Int), Prog I.l k s s' ∧ RX I ov' ((rb, rs'.map icell) :: B) s' (m - k) false H ∧ rs'.length = n ∧ k ≤ m.toNat ∧ s'.over = false ∧ s'.rest = s.rest ∧ (∃ regs', s'.top = ⟨s.top.f, regs', s.top.args, a, p, s.top.to⟩ ∧ Agr s.top.f rs' regs')
  | .ovr, H => ∃ (k : Nat) (s' : St) (ov' : AV) (rs' : List Int) (m' : Int), Prog I.l k s s' ∧ RX I ov' ((rb, rs'.map icell) :: B) s' m' false H ∧ rs'.length = n ∧ s'.over = true ∧ (k : Int) ≤ m ∧ s'.val = 0
  | .lng, H => ∃ (k : Nat) (s' : St) (ov' : AV) (rs' : List Int) (m' : Int), Prog I.l k s s' ∧ RX I ov' ((rb, rs'.map icell) :: B) s' m' true H ∧ rs'.length = n ∧ s'.over = false ∧ k = m.toNat

section
variable {I : Ids} {lens : List Int} {B : List (Nat × Blk)} {s : St} {m : Int} {H : Heap} {rb n : Nat} {R : AV → Heap → Prop} {K1 : Tm → Heap → Prop} {av : AV}

/-- The end of a block, its step counted already. -/
theorem call5 (hE : E.Good) (hF : E.Fits tab) (hp : progOk I.l lens = true) {n0 : Nat} (hok : Okay I lens n0 s m) {a : Int} {k : Nat} {s' : St} {ov' : AV} {rs' regs' : List Int} (h1 : Prog I.l k s s') (h2 : RX I ov' ((rb, rs'.map icell) :: B) s' (m - k - 1) false H) (h3 : rs'.length = n) (h4 : (k : Int) + 1 ≤ m) (h5 : s'.over = false) (h6 : s'.rest = s.rest)
    (h7 : s'.top = ⟨s.top.f, regs', s.top.args, a, (s.top.f.blocks.getD a.toNat default).ins.length, s.top.to⟩) (h8 : Agr s.top.f rs' regs')
    (hK : ∀ a' md H', (md = .ovr ∨ md = .cur (k + 1)) → InM I B rb n s m a' 0 md H' → atW K1 [.ptr I.r 0 0, av, .rp s.top.f.cells, .sl 1 rb 0 n, .int .i64 a'] H')
    (hR : ∀ v H', CallPost I B s m (.int .i64 v) H' → R (.int .i64 v) H') :
    atW (m51_5 E R K1) [.ptr I.r 0 0, av, .rp s.top.f.cells, .sl 1 rb 0 n, .int .i64 a, .rp (s.top.f.blocks.getD a.toNat default).cells] H := by
  have hi := h1.inv hp hok.inv
  have hf := funcOk_of hp hi.top.f
  have hbi := hi.top.bi
  rw [h7] at hf hbi
  dsimp only at hf hbi
  have hbm : s.top.f.blocks.getD a.toNat default ∈ s.top.f.blocks := getD_mem (by omega)
  have hen := hf.en _ hbm
  have hval : validF s.top.f = true := by
    have := hi.top.f
    rw [h7] at this
    simp only [progOk, Bool.and_eq_true, List.all_eq_true, funcOk] at hp
    exact (hp.2 _ this).1
  have hl := h8.len
  have hreg : (s.top.f.blocks.getD a.toNat default).en = 2 ∨ (s.top.f.blocks.getD a.toNat default).en = 3 → 0 ≤ (s.top.f.blocks.getD a.toNat default).reg ∧ (s.top.f.blocks.getD a.toNat default).reg < s.top.f.regs := fun e => by
    unfold endOk at hen
    rcases e with e | e
    · rw [if_neg (by omega), if_pos e] at hen
      simp only [Bool.and_eq_true, inReg, decide_eq_true_eq] at hen; exact hen.2
    · rw [if_neg (by omega), if_neg (by omega), if_pos e] at hen
      simp only [Bool.and_eq_true, inReg, decide_eq_true_eq] at hen; exact hen.1.1
  have hrb : H rb = some (rs'.map icell) := RX.hB h2 (p := (rb, rs'.map icell)) List.mem_cons_self
  have hstep : s'.step I.l = s'.term := step_term (by rw [h7])
  have hb0 : s'.top.f.blocks.getD s'.top.bi.toNat default = s.top.f.blocks.getD a.toNat default := by rw [h7]
  generalize hb9 : s.top.f.blocks.getD a.toNat default = b at *
  have hpr : Prog I.l (k + 1) s (s'.step I.l) := h1.trans (Prog.one h5)
  have em : m - k - 1 = m - ((k + 1 : Nat) : Int) := by omega
  rw [em] at h2
  subst h3
  have hcur : ∀ a', s'.term = { s' with top := { s'.top with bi := a', pc := 0 } } → InM I B rb rs'.length s m a' 0 (.cur (k + 1)) H := fun a' e => by
    refine ⟨s'.step I.l, ov', rs', hpr, ?_, rfl, by omega, ?_, ?_, regs', ?_, h8⟩
    · rw [hstep, e]; exact RX.any h2 _ _
    · rw [hstep, e]; exact h5
    · rw [hstep, e]; exact h6
    · rw [hstep, e, h7]
  skip
  refine at_here ?_
  unfold m51_5 w51_5
  repeat' (first | ((with_reducible refine cond_mk (fun hb => ?_) (fun hb => ?_)) <;> ((try simp only [if_true, if_false, qq, reduceCtorEq] at hb); (try (exfalso; first | (exact hb) | contradiction | omega)))) | ((with_reducible refine grp_mk ?_ (fun hb => ?_) (fun _ => ?_)) <;> (try simp only [if_true, if_false, qq, reduceCtorEq] at hb)) | ((with_reducible refine call_any (istop_spec hE hF h2 _ _) ?_); rintro _ _ hsm ⟨rfl, h⟩) | ((with_reducible refine And.intro ?_ ?_); (first | decide | omega)) | ((with_reducible refine at_here ?_); first | unfold m51_3 w51_3 | unfold m51_5 w51_5 | unfold m51_4 w51_4 | unfold m51_1 w51_1) | (simp (disch := omega) only [go_sem, Heap.get_ne, wrap64_id, Nat.reduceAdd, Nat.reduceLeDiff, Nat.reduceSub, Nat.reduceEqDiff, Int.reduceLT, Int.reduceLE, Int.reduceEq, hrb, Nat.zero_add]) | (with_reducible rfl) | ((with_reducible refine And.intro ?_ ?_) <;> (with_reducible rfl)))
  · have e : s'.term = { s' with top := { s'.top with bi := b.tgt, pc := 0 } } := by
      unfold St.term; dsimp only; rw [hb0, if_pos hb]
    exact hK _ _ _ (.inr rfl) (hcur _ e)
  · have h2' : b.en = 2 := by assumption
    have hr2 := hreg (.inl h2')
    rw [h8.at_ _ (by omega)] at hb
    have e : s'.term = { s' with top := { s'.top with bi := b.tgt, pc := 0 } } := by
      unfold St.term; dsimp only; rw [hb0, if_neg (by omega), if_pos h2', h7, if_pos hb]
    exact hK _ _ _ (.inr rfl) (hcur _ e)
  · have h2' : b.en = 2 := by assumption
    have hr2 := hreg (.inl h2')
    rw [h8.at_ _ (by omega)] at hb
    have e : s'.term = { s' with top := { s'.top with bi := b.els, pc := 0 } } := by
      unfold St.term; dsimp only; rw [hb0, if_neg (by omega), if_pos h2', h7, if_neg (fun h => h hb)]
    exact hK _ _ _ (.inr rfl) (hcur _ e)
  · have hr2 := hreg (.inr hb)
    refine .here (hR _ _ ⟨k, s', ov', _, false, _, rfl, h1, RX.drop (Z := [(rb, rs'.map icell)]) h2, .inl ⟨rfl, h5, h4, by omega, h6, by rw [h7], ⟨?_, ?_, ?_⟩⟩⟩)
    · rw [hb0, h7]
    · rw [hb0]; exact hb
    · rw [hb0, h7]; exact (h8.at_ _ (by omega)).symm
  · have e : s'.term = s'.stop 2 b.tgt 0 := by
      unfold St.term; dsimp only; rw [hb0, if_neg (by assumption), if_neg (by assumption), if_neg (by assumption)]
    refine hK _ .ovr _ (.inl rfl) ⟨k + 1, s'.step I.l, ov', rs', m - ((k + 1 : Nat) : Int), hpr, ?_, rfl, ?_, by omega, ?_⟩
    · rw [hstep, e]; exact h
    · rw [hstep, e]; rfl
    · rw [hstep, e]; rfl

/-- Behind a block's instructions. -/
theorem call4 (hE : E.Good) (hF : E.Fits tab) (hp : progOk I.l lens = true) {n0 : Nat} (hok : Okay I lens n0 s m) {a : Int} {md : Mode} (hm : InM I B rb n s m a (s.top.f.blocks.getD a.toNat default).ins.length md H)
    (hK : ∀ a' md' H', (md' = .ovr ∨ ∃ k, md = .cur k ∧ md' = .cur (k + 1)) → InM I B rb n s m a' 0 md' H' → atW K1 [.ptr I.r 0 0, av, .rp s.top.f.cells, .sl 1 rb 0 n, .int .i64 a'] H')
    (hR : ∀ v H', CallPost I B s m (.int .i64 v) H' → R (.int .i64 v) H') :
    atW (m51_4 E R K1) [.ptr I.r 0 0, av, .rp s.top.f.cells, .sl 1 rb 0 n, .int .i64 a, .rp (s.top.f.blocks.getD a.toNat default).cells] H := by
  have hm1 : m < 1000000 := by have := hok.few; omega
  skip
  refine at_here ?_
  unfold m51_4 w51_4
  cases md with
  | cur k =>
    obtain ⟨s', ov', rs', h1, h2, h3, h4, h5, h6, regs', h7, h8⟩ := hm
    have hx := RX.hx h2
    rw [h5] at hx
    repeat' (first | ((with_reducible refine cond_mk (fun hb => ?_) (fun hb => ?_)) <;> ((try simp only [if_true, if_false, qq, reduceCtorEq] at hb); (try (exfalso; first | (exact hb) | contradiction | omega)))) | ((with_reducible refine grp_mk ?_ (fun hb => ?_) (fun _ => ?_)) <;> (try simp only [if_true, if_false, qq, reduceCtorEq] at hb)) | ((with_reducible refine And.intro ?_ ?_); (first | decide | omega)) | ((with_reducible refine at_here ?_); first | unfold m51_3 w51_3 | unfold m51_5 w51_5 | unfold m51_4 w51_4 | unfold m51_1 w51_1) | (simp (disch := omega) only [go_sem, Heap.get_ne, wrap64_id, Nat.reduceAdd, Nat.reduceLeDiff, Nat.reduceSub, Nat.reduceEqDiff, Int.reduceLT, Int.reduceLE, Int.reduceEq, hx]) | (with_reducible rfl) | ((with_reducible refine And.intro ?_ ?_) <;> (with_reducible rfl)))
    refine gd_mk (fun _ => ?_) (fun e => by cases e)
    repeat' (first | ((with_reducible refine cond_mk (fun hb => ?_) (fun hb => ?_)) <;> ((try simp only [if_true, if_false, qq, reduceCtorEq] at hb); (try (exfalso; first | (exact hb) | contradiction | omega)))) | ((with_reducible refine grp_mk ?_ (fun hb => ?_) (fun _ => ?_)) <;> (try simp only [if_true, if_false, qq, reduceCtorEq] at hb)) | ((with_reducible refine And.intro ?_ ?_); (first | decide | omega)) | ((with_reducible refine at_here ?_); first | unfold m51_3 w51_3 | unfold m51_5 w51_5 | unfold m51_4 w51_4 | unfold m51_1 w51_1) | (simp (disch := omega) only [go_sem, Heap.get_ne, wrap64_id, Nat.reduceAdd, Nat.reduceLeDiff, Nat.reduceSub, Nat.reduceEqDiff, Int.reduceLT, Int.reduceLE, Int.reduceEq]) | (with_reducible rfl) | ((with_reducible refine And.intro ?_ ?_) <;> (with_reducible rfl)))
    refine gd_mk (fun _ => ?_) (fun e => by cases e)
    refine call_any (istep_spec hE hF h2 (by omega)) ?_
    rintro x H' - (⟨g1, rfl, g2⟩ | ⟨g1, rfl, g2⟩)
    · repeat' (first | ((with_reducible refine cond_mk (fun hb => ?_) (fun hb => ?_)) <;> ((try simp only [if_true, if_false, qq, reduceCtorEq] at hb); (try (exfalso; first | (exact hb) | contradiction | omega)))) | ((with_reducible refine grp_mk ?_ (fun hb => ?_) (fun _ => ?_)) <;> (try simp only [if_true, if_false, qq, reduceCtorEq] at hb)) | ((with_reducible refine And.intro ?_ ?_); (first | decide | omega)) | ((with_reducible refine at_here ?_); first | unfold m51_3 w51_3 | unfold m51_4 w51_4 | unfold m51_1 w51_1) | (simp (disch := omega) only [go_sem, Heap.get_ne, wrap64_id, Nat.reduceAdd, Nat.reduceLeDiff, Nat.reduceSub, Nat.reduceEqDiff, Int.reduceLT, Int.reduceLE, Int.reduceEq]) | (with_reducible rfl) | ((with_reducible refine And.intro ?_ ?_) <;> (with_reducible rfl)))
      exact call5 hE hF hp hok h1 g2 h3 (by omega) h5 h6 h7 h8 (fun a' md' H'' e h' => hK a' md' H'' (e.imp id fun e => ⟨k, rfl, e⟩) h') hR
    · repeat' (first | ((with_reducible refine cond_mk (fun hb => ?_) (fun hb => ?_)) <;> ((try simp only [if_true, if_false, qq, reduceCtorEq] at hb); (try (exfalso; first | (exact hb) | contradiction | omega)))) | ((with_reducible refine grp_mk ?_ (fun hb => ?_) (fun _ => ?_)) <;> (try simp only [if_true, if_false, qq, reduceCtorEq] at hb)) | ((with_reducible refine And.intro ?_ ?_); (first | decide | omega)) | ((with_reducible refine at_here ?_); first | unfold m51_3 w51_3 | unfold m51_4 w51_4 | unfold m51_1 w51_1) | (simp (disch := omega) only [go_sem, Heap.get_ne, wrap64_id, Nat.reduceAdd, Nat.reduceLeDiff, Nat.reduceSub, Nat.reduceEqDiff, Int.reduceLT, Int.reduceLE, Int.reduceEq]) | (with_reducible rfl) | ((with_reducible refine And.intro ?_ ?_) <;> (with_reducible rfl)))
      exact .here (hR _ _ ⟨k, s', ov', 0, true, _, rfl, h1, RX.drop (Z := [(rb, rs'.map icell)]) g2, .inr (.inr ⟨rfl, h5, by omega⟩)⟩)
  | ovr =>
    obtain ⟨k, s', ov', rs', m', h1, h2, h3, h4, h5, h6⟩ := hm
    have hx := RX.hx h2
    rw [h4] at hx
    repeat' (first | ((with_reducible refine cond_mk (fun hb => ?_) (fun hb => ?_)) <;> ((try simp only [if_true, if_false, qq, reduceCtorEq] at hb); (try (exfalso; first | (exact hb) | contradiction | omega)))) | ((with_reducible refine grp_mk ?_ (fun hb => ?_) (fun _ => ?_)) <;> (try simp only [if_true, if_false, qq, reduceCtorEq] at hb)) | ((with_reducible refine And.intro ?_ ?_); (first | decide | omega)) | ((with_reducible refine at_here ?_); first | unfold m51_3 w51_3 | unfold m51_5 w51_5 | unfold m51_4 w51_4 | unfold m51_1 w51_1) | (simp (disch := omega) only [go_sem, Heap.get_ne, wrap64_id, Nat.reduceAdd, Nat.reduceLeDiff, Nat.reduceSub, Nat.reduceEqDiff, Int.reduceLT, Int.reduceLE, Int.reduceEq, hx, Bool.true_or]) | (with_reducible rfl) | ((with_reducible refine And.intro ?_ ?_) <;> (with_reducible rfl)))
    · exact true
    refine gd_mk (fun e => by cases e) (fun _ => ?_)
    refine gd_mk (fun e => by simp at e) (fun _ => ?_)
    simp only [go_sem, Bool.true_or]
    refine grp_mk true (fun e => by cases e) (fun _ => ?_)
    simp only [go_sem, Bool.true_or]
    exact .here (hR _ _ ⟨k, s', ov', 0, false, m', rfl, h1, RX.drop (Z := [(rb, rs'.map icell)]) h2, .inr (.inl ⟨rfl, h4, h5, h6⟩)⟩)
  | lng =>
    obtain ⟨k, s', ov', rs', m', h1, h2, h3, h4, h5⟩ := hm
    have hx := RX.hx h2
    rw [h4] at hx
    repeat' (first | ((with_reducible refine cond_mk (fun hb => ?_) (fun hb => ?_)) <;> ((try simp only [if_true, if_false, qq, reduceCtorEq] at hb); (try (exfalso; first | (exact hb) | contradiction | omega)))) | ((with_reducible refine grp_mk ?_ (fun hb => ?_) (fun _ => ?_)) <;> (try simp only [if_true, if_false, qq, reduceCtorEq] at hb)) | ((with_reducible refine And.intro ?_ ?_); (first | decide | omega)) | ((with_reducible refine at_here ?_); first | unfold m51_3 w51_3 | unfold m51_5 w51_5 | unfold m51_4 w51_4 | unfold m51_1 w51_1) | (simp (disch := omega) only [go_sem, Heap.get_ne, wrap64_id, Nat.reduceAdd, Nat.reduceLeDiff, Nat.reduceSub, Nat.reduceEqDiff, Int.reduceLT, Int.reduceLE, Int.reduceEq, hx]) | (with_reducible rfl) | ((with_reducible refine And.intro ?_ ?_) <;> (with_reducible rfl)))
    refine gd_mk (fun e => by cases e) (fun _ => ?_)
    refine gd_mk (fun e => by simp at e) (fun _ => ?_)
    simp only [go_sem, Bool.or_true]
    refine grp_mk true (fun e => by cases e) (fun _ => ?_)
    simp only [go_sem, Bool.true_or]
    exact .here (hR _ _ ⟨k, s', ov', 0, true, m', rfl, h1, RX.drop (Z := [(rb, rs'.map icell)]) h2, .inr (.inr ⟨rfl, h4, h5⟩)⟩)
end
end Go.Abs
set_option linter.unusedSimpArgs false
set_option linter.unusedVariables false
set_option maxRecDepth 100000
namespace Go.Abs
variable {E : Env}

section
variable {I : Ids} {lens : List Int} {B : List (Nat × Blk)} {s : St} {m : Int} {H : Heap} {rb n : Nat} {R : AV → Heap → Prop} {K1 : Tm → Heap → Prop} {av : AV}

/-- A block: its instructions, then its end. -/
theorem call1 (hE : E.Good) (hF : E.Fits tab) (hp : progOk I.l lens = true) (hw : ProgW I.l) {n0 k0 : Nat} (hok : Okay I lens n0 s m) (hcall : ∀ j, j < m.toNat → CallOk E I lens j) (hav : ArgV av s.top.args) (hsub : ∀ p ∈ ownL av s.top.args, p ∈ B)
    {a : Int} (hsm : PSm I.l) (hm : InM I B rb n s m a 0 (.cur k0) H)
    (hK : ∀ a' md' H', (md' = .ovr ∨ ∃ k, k0 < k ∧ k ≤ m.toNat ∧ md' = .cur k) → InM I B rb n s m a' 0 md' H' → atW K1 [.ptr I.r 0 0, av, .rp s.top.f.cells, .sl 1 rb 0 n, .int .i64 a'] H')
    (hR : ∀ v H', CallPost I B s m (.int .i64 v) H' → R (.int .i64 v) H') :
    atW (m51_1 E R K1) [.ptr I.r 0 0, av, .rp s.top.f.cells, .sl 1 rb 0 n, .int .i64 a] H := by
  have hm1 : m < 1000000 := by have := hok.few; omega
  have hbi : 0 ≤ a ∧ a < s.top.f.blocks.length := by
    obtain ⟨s', ov', rs', h1, h2, h3, h4, h5, h6, regs', h7, h8⟩ := hm
    have := (h1.inv hp hok.inv).top.bi
    rw [h7] at this
    exact this
  have hlen : (s.top.f.blocks.getD a.toNat default).ins.length < 9223372036854775808 := ((hsm _ hok.inv.top.f).2 _ (getD_mem (by omega))).1
  skip
  refine at_here ?_
  unfold m51_1 w51_1
  repeat' (first | ((with_reducible refine cond_mk (fun hb => ?_) (fun hb => ?_)) <;> ((try simp only [if_true, if_false, qq, reduceCtorEq] at hb); (try (exfalso; first | (exact hb) | contradiction | omega)))) | ((with_reducible refine grp_mk ?_ (fun hb => ?_) (fun _ => ?_)) <;> (try simp only [if_true, if_false, qq, reduceCtorEq] at hb)) | ((with_reducible refine And.intro ?_ ?_); (first | decide | omega)) | ((with_reducible refine at_here ?_); first | unfold m51_3 w51_3 | unfold m51_5 w51_5 | unfold m51_4 w51_4 | unfold m51_1 w51_1) | (simp (disch := omega) only [go_sem, Heap.get_ne, wrap64_id, Nat.reduceAdd, Nat.reduceLeDiff, Nat.reduceSub, Nat.reduceEqDiff, Int.reduceLT, Int.reduceLE, Int.reduceEq]) | (with_reducible rfl) | ((with_reducible refine And.intro ?_ ?_) <;> (with_reducible rfl)))
  generalize hblk : s.top.f.blocks.getD a.toNat default = b at hlen
  have hbr : (s.top.f.blocks.getD a.toNat default).cells = b.cells := by rw [hblk]
  refine loop_mk (σ := Nat × Mode) (fun t => [.ptr I.r 0 0, av, .rp s.top.f.cells, .sl 1 rb 0 n, .int .i64 a, .rp b.cells, .int .i64 t.1])
    (fun t H' => t.1 ≤ b.ins.length ∧ InM I B rb n s m a t.1 t.2 H' ∧ (∀ k, t.2 = .cur k → k0 ≤ k)) (fun t => b.ins.length - t.1) (0, .cur k0) rfl ⟨Nat.zero_le _, hm, fun k e => by cases e; exact Nat.le_refl _⟩ ?_
  rintro ⟨j, md⟩ H K ⟨hj, hm, hk0⟩ hK2
  dsimp only at hj hm hk0
  have h4 : (∀ k, md = .cur k → j = b.ins.length) → atW (m51_4 E R K1) [.ptr I.r 0 0, av, .rp s.top.f.cells, .sl 1 rb 0 n, .int .i64 a, .rp b.cells] H := fun e => by
    have hm' : InM I B rb n s m a b.ins.length md H := by
      cases md with
      | cur k => have := e k rfl; subst this; exact hm
      | ovr => exact hm
      | lng => exact hm
    subst hblk
    refine call4 hE hF hp hok hm' (fun a' md' H' e h' => hK a' md' H' (e.imp id fun ⟨k, e1, e2⟩ => ⟨k + 1, by have := hk0 k e1; omega, ?_, e2⟩) h') hR
    subst e2
    obtain ⟨_, _, _, _, _, _, g, _⟩ := h'
    exact g
  unfold l51_2 w51_2; simp only [go_sem]
  cases md with
  | cur k =>
    obtain ⟨s', ov', rs', h1, h2, h3, h4', h5, h6, regs', h7, h8⟩ := hm
    have hx := RX.hx h2
    rw [h5] at hx
    have hk00 := hk0 k rfl
    repeat' (first | ((with_reducible refine cond_mk (fun hb => ?_) (fun hb => ?_)) <;> ((try simp only [if_true, if_false, qq, reduceCtorEq] at hb); (try (exfalso; first | (exact hb) | contradiction | omega)))) | ((with_reducible refine grp_mk ?_ (fun hb => ?_) (fun _ => ?_)) <;> (try simp only [if_true, if_false, qq, reduceCtorEq] at hb)) | ((with_reducible refine And.intro ?_ ?_); (first | decide | omega)) | ((with_reducible refine at_here ?_); first | unfold m51_5 w51_5 | unfold m51_1 w51_1) | (simp (disch := omega) only [go_sem, Heap.get_ne, wrap64_id, Nat.reduceAdd, Nat.reduceLeDiff, Nat.reduceSub, Nat.reduceEqDiff, Int.reduceLT, Int.reduceLE, Int.reduceEq, hx]) | (with_reducible rfl) | ((with_reducible refine And.intro ?_ ?_) <;> (with_reducible rfl)))
    · refine at_here ?_; unfold m51_3 w51_3; (repeat' (first | ((with_reducible refine cond_mk (fun hb => ?_) (fun hb => ?_)) <;> ((try simp only [if_true, if_false, qq, reduceCtorEq] at hb); (try (exfalso; first | (exact hb) | contradiction | omega)))) | ((with_reducible refine grp_mk ?_ (fun hb => ?_) (fun _ => ?_)) <;> (try simp only [if_true, if_false, qq, reduceCtorEq] at hb)) | ((with_reducible refine And.intro ?_ ?_); (first | decide | omega)) | (simp (disch := omega) only [go_sem, Heap.get_ne, wrap64_id, Nat.reduceAdd, Nat.reduceLeDiff, Nat.reduceSub, Nat.reduceEqDiff, Int.reduceLT, Int.reduceLE, Int.reduceEq]) | (with_reducible rfl) | ((with_reducible refine And.intro ?_ ?_) <;> (with_reducible rfl))))
      refine call_any (istep_spec hE hF h2 (by omega)) ?_
      rintro x H1 - (⟨g1, rfl, g2⟩ | ⟨g1, rfl, g2⟩)
      · repeat' (first | ((with_reducible refine cond_mk (fun hb => ?_) (fun hb => ?_)) <;> ((try simp only [if_true, if_false, qq, reduceCtorEq] at hb); (try (exfalso; first | (exact hb) | contradiction | omega)))) | ((with_reducible refine grp_mk ?_ (fun hb => ?_) (fun _ => ?_)) <;> (try simp only [if_true, if_false, qq, reduceCtorEq] at hb)) | ((with_reducible refine And.intro ?_ ?_); (first | decide | omega)) | ((with_reducible refine at_here ?_); first | unfold m51_3 w51_3 | unfold m51_5 w51_5 | unfold m51_4 w51_4 | unfold m51_1 w51_1) | (simp (disch := omega) only [go_sem, Heap.get_ne, wrap64_id, Nat.reduceAdd, Nat.reduceLeDiff, Nat.reduceSub, Nat.reduceEqDiff, Int.reduceLT, Int.reduceLE, Int.reduceEq]) | (with_reducible rfl) | ((with_reducible refine And.intro ?_ ?_) <;> (with_reducible rfl)))
        have hins : s'.ins = b.ins.getD j default := by unfold St.ins; rw [h7]; dsimp only; rw [hblk]; simp
        have htop : s'.top.f = s.top.f ∧ s'.top.args = s.top.args ∧ s'.top.regs = regs' := by rw [h7]; exact ⟨rfl, rfl, rfl⟩
        have hd := do_spec hE hF hp (s := s') (m := m - k - 1) (n := n0 + k) (rb := rb) (rs := rs') (B := B) (av := av) (ov := ov') (H := H1) (hcall _ (by omega)) ⟨h1.inv hp hok.inv, h1.stw hp hw hok.inv hok.w, by have := hok.few; omega, by have := hok.few; omega⟩ (by omega) h5
          (by rw [h7]; dsimp only; rw [hblk]; omega) hw g2 (by rw [htop.1, htop.2.2]; exact h8) (by rw [htop.2.1]; exact hav) (by rw [htop.2.1]; exact hsub)
        rw [hins, h3] at hd
        refine call_any hd ?_
        rintro x H2 - ⟨rfl, k1, s'', ov'', rs'', lg, m'', c1, c2, c3, c4, c5⟩
        repeat' (first | ((with_reducible refine cond_mk (fun hb => ?_) (fun hb => ?_)) <;> ((try simp only [if_true, if_false, qq, reduceCtorEq] at hb); (try (exfalso; first | (exact hb) | contradiction | omega)))) | ((with_reducible refine grp_mk ?_ (fun hb => ?_) (fun _ => ?_)) <;> (try simp only [if_true, if_false, qq, reduceCtorEq] at hb)) | ((with_reducible refine And.intro ?_ ?_); (first | decide | omega)) | ((with_reducible refine at_here ?_); first | unfold m51_3 w51_3 | unfold m51_5 w51_5 | unfold m51_4 w51_4 | unfold m51_1 w51_1) | (simp (disch := omega) only [go_sem, Heap.get_ne, wrap64_id, Nat.reduceAdd, Nat.reduceLeDiff, Nat.reduceSub, Nat.reduceEqDiff, Int.reduceLT, Int.reduceLE, Int.reduceEq]) | (with_reducible rfl) | ((with_reducible refine And.intro ?_ ?_) <;> (with_reducible rfl)))
        have hpr : Prog I.l (k + k1) s s'' := h1.trans c2
        rcases c5 with ⟨e1, e2, e3, e4, e5, regs'', e6, e7⟩ | ⟨e1, e2, e3, e4⟩ | ⟨e1, e2, e3⟩
        · subst e1; subst e3
          refine at_eq (hK2 (j + 1, .cur (k + k1)) _ ⟨by omega, ⟨s'', ov'', rs'', hpr, ?_, c4.trans h3, by omega, e2, e5.trans h6, regs'', ?_, ?_⟩, fun k' e => by cases e; omega⟩ (by simp; omega)) rfl
          · have : m - ((k + k1 : Nat) : Int) = m - k - 1 + 1 - k1 := by omega
            rw [this]; exact c3
          · rw [e6, h7]; simp
          · rw [htop.1] at e7; exact e7
        · subst e1
          exact at_eq (hK2 (j + 1, .ovr) _ ⟨by omega, ⟨k + k1, s'', ov'', rs'', m'', hpr, c3, c4.trans h3, e2, by omega, e4⟩, fun k' e => by cases e⟩ (by simp; omega)) rfl
        · subst e1
          exact at_eq (hK2 (j + 1, .lng) _ ⟨by omega, ⟨k + k1, s'', ov'', rs'', m'', hpr, c3, c4.trans h3, e2, by omega⟩, fun k' e => by cases e⟩ (by simp; omega)) rfl
      · repeat' (first | ((with_reducible refine cond_mk (fun hb => ?_) (fun hb => ?_)) <;> ((try simp only [if_true, if_false, qq, reduceCtorEq] at hb); (try (exfalso; first | (exact hb) | contradiction | omega)))) | ((with_reducible refine grp_mk ?_ (fun hb => ?_) (fun _ => ?_)) <;> (try simp only [if_true, if_false, qq, reduceCtorEq] at hb)) | ((with_reducible refine And.intro ?_ ?_); (first | decide | omega)) | ((with_reducible refine at_here ?_); first | unfold m51_3 w51_3 | unfold m51_5 w51_5 | unfold m51_4 w51_4 | unfold m51_1 w51_1) | (simp (disch := omega) only [go_sem, Heap.get_ne, wrap64_id, Nat.reduceAdd, Nat.reduceLeDiff, Nat.reduceSub, Nat.reduceEqDiff, Int.reduceLT, Int.reduceLE, Int.reduceEq]) | (with_reducible rfl) | ((with_reducible refine And.intro ?_ ?_) <;> (with_reducible rfl)))
        exact at_eq (hK2 (j + 1, .lng) _ ⟨by omega, ⟨k, s', ov', rs', _, h1, g2, h3, h5, by omega⟩, fun k' e => by cases e⟩ (by simp; omega)) rfl
    · exact h4 fun k' e => by
        rcases hb with (hb | hb) | hb
        · omega
        · exact hb.elim
        · exact hb.elim
  | ovr =>
    have hm9 := hm
    obtain ⟨k, s', ov', rs', m', h1, h2, h3, h4', h5, h6⟩ := hm
    have hx := RX.hx h2
    rw [h4'] at hx
    repeat' (first | ((with_reducible refine cond_mk (fun hb => ?_) (fun hb => ?_)) <;> ((try simp only [if_true, if_false, qq, reduceCtorEq] at hb); (try (exfalso; first | (exact hb) | contradiction | omega)))) | ((with_reducible refine grp_mk ?_ (fun hb => ?_) (fun _ => ?_)) <;> (try simp only [if_true, if_false, qq, reduceCtorEq] at hb)) | ((with_reducible refine And.intro ?_ ?_); (first | decide | omega)) | ((with_reducible refine at_here ?_); first | unfold m51_5 w51_5 | unfold m51_1 w51_1) | (simp (disch := omega) only [go_sem, Heap.get_ne, wrap64_id, Nat.reduceAdd, Nat.reduceLeDiff, Nat.reduceSub, Nat.reduceEqDiff, Int.reduceLT, Int.reduceLE, Int.reduceEq, hx]) | (with_reducible rfl) | ((with_reducible refine And.intro ?_ ?_) <;> (with_reducible rfl)))
    · exact absurd hb (by simp)
    · exact h4 fun k' e => by cases e
  | lng =>
    have hm9 := hm
    obtain ⟨k, s', ov', rs', m', h1, h2, h3, h4', h5⟩ := hm
    have hx := RX.hx h2
    rw [h4'] at hx
    repeat' (first | ((with_reducible refine cond_mk (fun hb => ?_) (fun hb => ?_)) <;> ((try simp only [if_true, if_false, qq, reduceCtorEq] at hb); (try (exfalso; first | (exact hb) | contradiction | omega)))) | ((with_reducible refine grp_mk ?_ (fun hb => ?_) (fun _ => ?_)) <;> (try simp only [if_true, if_false, qq, reduceCtorEq] at hb)) | ((with_reducible refine And.intro ?_ ?_); (first | decide | omega)) | ((with_reducible refine at_here ?_); first | unfold m51_5 w51_5 | unfold m51_1 w51_1) | (simp (disch := omega) only [go_sem, Heap.get_ne, wrap64_id, Nat.reduceAdd, Nat.reduceLeDiff, Nat.reduceSub, Nat.reduceEqDiff, Int.reduceLT, Int.reduceLE, Int.reduceEq, hx]) | (with_reducible rfl) | ((with_reducible refine And.intro ?_ ?_) <;> (with_reducible rfl)))
    · exact absurd hb (by simp)
    · exact h4 fun k' e => by cases e
end
end Go.Abs
set_option linter.unusedSimpArgs false
set_option linter.unusedVariables false
set_option maxRecDepth 100000
namespace Go.Abs
variable {E : Env}

def Mode.mu (m : Int) : Mode → Nat
  | .cur k => m.toNat + 1 - k
  | _ => 0
set_option maxHeartbeats 4000000 in
theorem icall (hE : E.Good) (hF : E.Fits tab) {I : Ids} {lens : List Int} (hp : progOk I.l lens = true) (hw : ProgW I.l) (hsm : PSm I.l) : ∀ N, CallOk E I lens N := by
  intro N
  induction N using Nat.strongRecOn with
  | _ N ih =>
  intro ov av B s m H n0 f hN hok hov hregs hbi hpc hav hsub hf hff hrx
  have hfo := funcOk_of hp hok.inv.top.f
  have hval : validF s.top.f = true := by
    have := hok.inv.top.f
    simp only [progOk, Bool.and_eq_true, List.all_eq_true, funcOk] at hp
    exact (hp.2 _ this).1
  have hr0 : 0 ≤ s.top.f.regs ∧ s.top.f.regs ≤ 3000 := by
    simp only [validF, headOk, Bool.and_eq_true, Bool.not_eq_true', Bool.or_eq_false_iff, decide_eq_false_iff_not] at hval
    omega
  have hx := RX.hx hrx
  refine ent51 hE hF _ _ _ _ _ ?_; unfold w51
  repeat' (first | ((with_reducible refine cond_mk (fun hb => ?_) (fun hb => ?_)) <;> ((try simp only [if_true, if_false, qq, reduceCtorEq] at hb); (try (exfalso; first | (exact hb) | contradiction | omega)))) | ((with_reducible refine grp_mk ?_ (fun hb => ?_) (fun _ => ?_)) <;> (try simp only [if_true, if_false, qq, reduceCtorEq] at hb)) | ((with_reducible refine And.intro ?_ ?_); (first | decide | omega)) | ((with_reducible refine at_here ?_); first | unfold m51_3 w51_3 | unfold m51_5 w51_5 | unfold m51_4 w51_4 | unfold m51_1 w51_1) | (simp (disch := omega) only [go_sem, Heap.get_ne, wrap64_id, Nat.reduceAdd, Nat.reduceLeDiff, Nat.reduceSub, Nat.reduceEqDiff, Int.reduceLT, Int.reduceLE, Int.reduceEq, hx, hff]) | (with_reducible rfl) | ((with_reducible refine And.intro ?_ ?_) <;> (with_reducible rfl)))
  refine mk_mksl ⟨rfl, hr0.1, by simp [appLim]; omega⟩ fun rb hrb => ?_
  have h1 := hrx.new hrb (b := (List.replicate s.top.f.regs.toNat (0 : Int)).map icell)
  rw [rep_ic]
  refine loop_mk (σ := Int × Mode) (fun t => [.ptr I.r 0 0, av, .rp s.top.f.cells, .sl 1 rb 0 s.top.f.regs.toNat, .int .i64 t.1])
    (fun t H' => InM I B rb s.top.f.regs.toNat s m t.1 0 t.2 H' ∧ t.2 ≠ .lng) (fun t => t.2.mu m) (0, .cur 0) rfl ⟨⟨s, ov, _, Prog.refl _ _, by simpa using h1, by simp, Nat.zero_le _, hov, rfl, [], ?_, Agr.init hr0.1⟩, fun e => by cases e⟩ ?_
  · have e : s.top = ⟨s.top.f, s.top.regs, s.top.args, s.top.bi, s.top.pc, s.top.to⟩ := rfl
    rw [hregs, hbi, hpc] at e
    exact e
  rintro ⟨a, md⟩ H K ⟨hm, hne⟩ hK
  dsimp only at hm hne
  unfold l51_0 w51_0; simp only [go_sem]
  cases md with
  | lng => exact absurd rfl hne
  | ovr =>
    obtain ⟨k, s', ov', rs', m', g1, g2, g3, g4, g5, g6⟩ := hm
    have hx := RX.hx g2
    rw [g4] at hx
    repeat' (first | ((with_reducible refine cond_mk (fun hb => ?_) (fun hb => ?_)) <;> ((try simp only [if_true, if_false, qq, reduceCtorEq] at hb); (try (exfalso; first | (exact hb) | contradiction | omega)))) | ((with_reducible refine grp_mk ?_ (fun hb => ?_) (fun _ => ?_)) <;> (try simp only [if_true, if_false, qq, reduceCtorEq] at hb)) | ((with_reducible refine And.intro ?_ ?_); (first | decide | omega)) | ((with_reducible refine at_here ?_); first | unfold m51_3 w51_3 | unfold m51_5 w51_5 | unfold m51_4 w51_4) | (simp (disch := omega) only [go_sem, Heap.get_ne, wrap64_id, Nat.reduceAdd, Nat.reduceLeDiff, Nat.reduceSub, Nat.reduceEqDiff, Int.reduceLT, Int.reduceLE, Int.reduceEq, hx, Bool.false_and]) | (with_reducible rfl) | ((with_reducible refine And.intro ?_ ?_) <;> (with_reducible rfl)))
    all_goals first
    | exact true
    | exact .here ⟨k, s', ov', 0, false, m', rfl, g1, RX.drop (Z := [(rb, rs'.map icell)]) g2, .inr (.inl ⟨rfl, g4, g5, g6⟩)⟩
    | exact absurd hb (by simp)
  | cur k =>
    have hm9 := hm
    obtain ⟨s', ov', rs', g1, g2, g3, g4, g5, g6, regs', g7, g8⟩ := hm
    have hx := RX.hx g2
    rw [g5] at hx
    repeat' (first | ((with_reducible refine cond_mk (fun hb => ?_) (fun hb => ?_)) <;> ((try simp only [if_true, if_false, qq, reduceCtorEq] at hb); (try (exfalso; first | (exact hb) | contradiction | omega)))) | ((with_reducible refine grp_mk ?_ (fun hb => ?_) (fun _ => ?_)) <;> (try simp only [if_true, if_false, qq, reduceCtorEq] at hb)) | ((with_reducible refine And.intro ?_ ?_); (first | decide | omega)) | ((with_reducible refine at_here ?_); first | unfold m51_3 w51_3 | unfold m51_5 w51_5 | unfold m51_4 w51_4) | (simp (disch := omega) only [go_sem, Heap.get_ne, wrap64_id, Nat.reduceAdd, Nat.reduceLeDiff, Nat.reduceSub, Nat.reduceEqDiff, Int.reduceLT, Int.reduceLE, Int.reduceEq, hx]) | (with_reducible rfl) | ((with_reducible refine And.intro ?_ ?_) <;> (with_reducible rfl)))
    · refine call1 hE hF hp hw hok (fun j hj => ih j (by omega)) hav hsub hsm hm9 (fun a' md' H' e h' => ?_) (fun v H' h' => h')
      refine at_eq (hK (a', md') H' ⟨h', ?_⟩ ?_) rfl
      · rcases e with rfl | ⟨k', -, -, rfl⟩ <;> (intro e; cases e)
      · rcases e with rfl | ⟨k', e1, e2, rfl⟩
        · simp [Mode.mu]; omega
        · simp [Mode.mu]; omega
end Go.Abs
set_option linter.unusedSimpArgs false
set_option linter.unusedVariables false
set_option maxRecDepth 100000
namespace Go.Abs
variable {E : Env}

@[go_sem] theorem inc_end {l : List VF} {cv ov : AV} {fu mo k c v : Int} {o lg : Bool} : ((inc l cv ov fu mo k c v o lg).drop 5).take 4 = [.int .i64 k, .int .i64 c, .nilsl, .int .i64 v] := id rfl
@[go_sem] theorem inc_end2 {l : List VF} {cv ov x : AV} {fu mo k c v : Int} {o lg : Bool} : (((inc l cv ov fu mo k c v o lg).set 7 x).drop 5).take 4 = [.int .i64 k, .int .i64 c, x, .int .i64 v] := id rfl
@[go_sem] theorem inc_st {l : List VF} {cv ov : AV} {fu mo k c v k' c' v' : Int} {o lg : Bool} : (inc l cv ov fu mo k c v o lg).take 5 ++ ([.int .i64 k', .int .i64 c', .nilsl, .int .i64 v'] ++ (inc l cv ov fu mo k c v o lg).drop 9) = inc l cv ov fu mo k' c' v' o lg := id rfl
@[go_sem] theorem inc_setl {l : List VF} {cv ov x : AV} {fu mo k c v : Int} {o lg : Bool} : ((inc l cv ov fu mo k c v o lg).set 7 x).length = 11 := id rfl

theorem cellsX {G : Heap} {r : Nat} {l : List VF} {cv : AV} {cid : Option Nat} {rids : List Nat} {ov : AV} {B : List (Nat × Blk)} {s : St} {m : Int} {lg : Bool} {H : Heap} {k : Heap → Prop} (h : RX ⟨G, r, l, cv, cid, rids⟩ ov B s m lg H) {n : Int} (hn : 0 ≤ n ∧ n ≤ 16) (hlen : s.cells.length < 1000)
    (hk : ∀ H' cv' cid' rids', RX ⟨G, r, l, cv', cid', rids'⟩ ov B { s with cells := s.cells ++ [List.replicate n.toNat 0] } m lg H' → k H') :
    mkW (.mksl 1 8 [.int .i64 0] (.c (.int .i64 n)) (.c (.int .i64 n))) H fun t75 H1 => mkW (.bsl 1 [.nilsl] 1 [(0, .c t75)]) H1 fun t76 H2 => mkW (.app 1 (.c cv) (.c t76)) H2 fun t77 H3 => mW (.st 1 (.c (.ptr r 0 1)) (.c t77)) H3 fun _ H4 => k H4 := by
  have hr : H r = some [inc l cv ov s.fuel m s.kind s.code s.val s.over lg] := h.hx
  refine mk_mksl ⟨rfl, hn.1, by simp [appLim]; omega⟩ fun n1 hn1 => ?_
  refine mk_bsl rfl fun n2 hn2 => ?_
  have hlt1 := hn1.lt hr
  have hlt2 := hn2.lt (Heap.set_same _ _ _)
  have hcv := h.hcv
  obtain ⟨hl, hcv⟩ := hcv
  have hz : (List.replicate n.toNat (0 : Int)).map icell = List.replicate n.toNat [AV.int .i64 0] := by simp [icell]
  have g1 := h.holds
  have hn20 : (H.set n1 (some (List.replicate n.toNat [AV.int .i64 0]))) n2 = none := hn2.none
  have hrow : ((H.set n1 (some (List.replicate n.toNat [AV.int .i64 0]))).set n2 (some [[AV.sl 1 n1 0 n.toNat]])) n2 = some [[AV.sl 1 n1 0 n.toNat]] := Heap.set_same _ _ _
  rcases hcv with ⟨h1, h2, h3⟩ | ⟨cd, h1, h3⟩
  · dsimp only at h1 h2 h3
    subst h1; subst h3
    rw [h2] at hl
    have hr0 : rids = [] := List.eq_nil_of_length_eq_zero hl
    refine mk_app_nil_sl hrow (by simp) (by decide) fun n3 hn3 => ?_
    have hlt3 := hn3.lt hrow
    simp (disch := omega) only [go_sem, Heap.get_ne, hr]
    refine ⟨by decide, hk _ (.sl 1 n3 0 1) (some n3) [n1] ⟨?_, h.hov, ⟨by simp [h2], .inr ⟨n3, by simp [h2], rfl⟩⟩, h.hov2⟩⟩
    have g2 := (((g1.new hn1 (b := List.replicate n.toNat [AV.int .i64 0])).more hn20 (b := some [[AV.sl 1 n1 0 n.toNat]])).new hn3 (b := [[AV.sl 1 n1 0 n.toNat]]))
    have g3 := g2.perm (b := (r, [inc l .nilsl ov s.fuel m s.kind s.code s.val s.over lg]) :: ((n3, [[AV.sl 1 n1 0 n.toNat]]) :: (n1, List.replicate n.toNat [AV.int .i64 0]) :: (ownL ov s.out ++ B))) (by
      refine perm_of_count fun i _ a => ?_
      simp only [cellsL, List.count_append, List.count_cons, List.count_nil]; omega)
    refine (g3.set (b' := [inc l (.sl 1 n3 0 1) ov s.fuel m s.kind s.code s.val s.over lg])).perm (perm_of_count fun i _ a => ?_)
    rw [h2]
    simp only [cellsL, rowsOf, List.nil_append, List.zipWith_cons_cons, List.zipWith_nil_left, hz, List.length_replicate, List.count_append, List.count_cons, List.count_nil]; omega
  · dsimp only at h1 h3
    subst h1; subst h3
    have hcd : H cd = some (rowsOf rids s.cells) := g1.get (by simp [cellsL])
    have hltc := hn1.lt hcd
    refine mk_app_sl (by rw [Heap.get_ne _ _ _ _ (by omega), Heap.get_ne _ _ _ _ (by omega)]; exact hcd) hrow ⟨by rw [rows_len hl]; exact Nat.le_refl _, by simp [appLim]; omega⟩ (by simp) fun n3 hn3 => ?_
    have hlt3 := hn3.lt hrow
    have hner : r ≠ cd := by
      have h3 := g1.to.1
      simp only [cellsL, List.map_cons, List.map_append, List.nodup_cons, List.mem_append, List.mem_cons, not_or] at h3
      exact h3.1.2.1.1
    simp (disch := omega) only [go_sem, Heap.get_ne, hr]
    refine ⟨by decide, hk _ (.sl 1 n3 0 (s.cells.length + 1)) (some n3) (rids ++ [n1]) ⟨?_, h.hov, ⟨by simp [hl], .inr ⟨n3, by simp, rfl⟩⟩, h.hov2⟩⟩
    have g2 := ((g1.new hn1 (b := List.replicate n.toNat [AV.int .i64 0])).more hn20 (b := some [[AV.sl 1 n1 0 n.toNat]]))
    have g3 := g2.perm (b := (cd, rowsOf rids s.cells) :: ((r, [inc l (.sl 1 cd 0 s.cells.length) ov s.fuel m s.kind s.code s.val s.over lg]) :: (n1, List.replicate n.toNat [AV.int .i64 0]) :: (List.zipWith (fun r (x : List Int) => (r, x.map icell)) rids s.cells ++ (ownL ov s.out ++ B)))) (by
      refine perm_of_count fun i _ a => ?_
      simp only [cellsL, List.count_append, List.count_cons, List.count_nil]; omega)
    have g4 := g3.move hn3 (b' := rowsOf rids s.cells ++ [[AV.sl 1 n1 0 n.toNat]])
    have g5 := g4.perm (b := (r, [inc l (.sl 1 cd 0 s.cells.length) ov s.fuel m s.kind s.code s.val s.over lg]) :: ((n3, rowsOf rids s.cells ++ [[AV.sl 1 n1 0 n.toNat]]) :: (n1, List.replicate n.toNat [AV.int .i64 0]) :: (List.zipWith (fun r (x : List Int) => (r, x.map icell)) rids s.cells ++ (ownL ov s.out ++ B)))) (by
      refine perm_of_count fun i _ a => ?_
      simp only [List.count_append, List.count_cons, List.count_nil]; omega)
    rw [List.take_of_length_le (by rw [rows_len hl]; exact Nat.le_refl _)]
    refine (g5.set (b' := [inc l (.sl 1 n3 0 (s.cells.length + 1)) ov s.fuel m s.kind s.code s.val s.over lg])).perm (perm_of_count fun i _ a => ?_)
    simp only [cellsL, rows_app hl, zip_app hl, hz, List.length_replicate, List.count_append, List.count_cons, List.count_nil]; omega

section
variable {G : Heap} {id : Nat} {I : Ids} {ov : AV} {B : List (Nat × Blk)} {s : St} {m : Int} {lg : Bool} {H : Heap} {R : AV → Heap → Prop}
/-- The last piece: the output joins the end, which is given. -/
theorem end27 (hid : I.G id = some [[.int .i64 0, .int .i64 0, .nilsl, .int .i64 0]]) (h : RX I ov [] s m lg H)
    (hR : ∀ H', (∀ k b, I.G k = some b → k ≠ id → H' k = some b) → RetC R (.tup [.agg (Oc.mk s.kind s.code s.out s.val).cells, .bool true]) H') :
    atW (m27_5 E R) [.ptr id 0 0, .ptr I.r 0 0] H := by
  have hx := h.hx
  have hid' := (h.holds.kp id _ hid).1
  have hidr : id ≠ I.r := fun e => (h.holds.kp id _ hid).2 (by rw [e]; simp)
  have hnr : ∀ k b, I.G k = some b → k ≠ I.r := fun k b hk e => (h.holds.kp k b hk).2 (by rw [e]; simp)
  skip
  rcases h.hov with ⟨e1, ho⟩ | ⟨i2, e1⟩
  · subst e1
    refine at_here ?_; unfold m27_5 w27_5
    repeat' (first | ((with_reducible refine cond_mk (fun hb => ?_) (fun hb => ?_)) <;> ((try simp only [if_true, if_false, qq, reduceCtorEq] at hb); (try (exfalso; first | (exact hb) | contradiction | omega)))) | ((with_reducible refine grp_mk ?_ (fun hb => ?_) (fun _ => ?_)) <;> (try simp only [if_true, if_false, qq, reduceCtorEq] at hb)) | ((with_reducible refine mk_alloc (fun id hid => ?_)); have hid0 := hid.none; (try have hlt := hid.lt (Heap.set_same _ _ _))) | ((with_reducible refine mk_box ?_ (fun id hid => ?_)); (simp only [go_sem]; done); have hid0 := hid.none; (try have hlt := hid.lt (Heap.set_same _ _ _))) | ((with_reducible refine And.intro ?_ ?_); (first | decide | omega)) | ((with_reducible refine at_here ?_); first | unfold m27_2 w27_2 | unfold m27_5 w27_5 | unfold m27_4 w27_4 | unfold m27_3 w27_3 | unfold m27_0 w27_0) | (simp (disch := omega) only [go_sem, Heap.get_ne, wrap64_id, Nat.reduceAdd, Nat.reduceLeDiff, Nat.reduceSub, Nat.reduceEqDiff, Int.reduceLT, Int.reduceLE, Int.reduceEq, hx, hid']) | (with_reducible rfl) | ((with_reducible refine And.intro ?_ ?_) <;> (with_reducible rfl)))
    have h9 := hR ((H.set I.r (some [inc I.l I.cv AV.nilsl s.fuel m s.kind s.code s.val s.over lg])).set id (some [[AV.int IntKind.i64 s.kind, AV.int IntKind.i64 s.code, AV.nilsl, AV.int IntKind.i64 s.val]])) (fun k b hk hne => by rw [Heap.get_ne _ _ _ _ hne, Heap.get_ne _ _ _ _ (hnr k b hk)]; exact (h.holds.kp k b hk).1)
    rw [ho] at h9
    exact h9
  · have e2 := e1
    subst e1
    have hne : s.out ≠ [] := fun e => by have := h.hov2 e; simp at this
    have hm2 : (i2, s.out.map icell) ∈ (I.r, [inc I.l I.cv (.sl 1 i2 0 s.out.length) s.fuel m s.kind s.code s.val s.over lg]) :: (ownL (.sl 1 i2 0 s.out.length) s.out ++ (cellsL I.cid I.rids s.cells ++ [])) := by simp [ownL]
    have hg2 := h.holds.get hm2
    have hn2 : ∀ k b, I.G k = some b → k ≠ i2 := fun k b hk e => (h.holds.kp k b hk).2 (by subst e; exact List.mem_map.2 ⟨_, hm2, rfl⟩)
    have hi2 : i2 ≠ id := fun e => hn2 id _ hid e.symm
    have hir : i2 ≠ I.r := fun e => by
      have h3 := h.holds.to.1
      simp [ownL, e] at h3
    refine at_here ?_; unfold m27_5 w27_5
    repeat' (first | ((with_reducible refine cond_mk (fun hb => ?_) (fun hb => ?_)) <;> ((try simp only [if_true, if_false, qq, reduceCtorEq] at hb); (try (exfalso; first | (exact hb) | contradiction | omega)))) | ((with_reducible refine grp_mk ?_ (fun hb => ?_) (fun _ => ?_)) <;> (try simp only [if_true, if_false, qq, reduceCtorEq] at hb)) | ((with_reducible refine mk_alloc (fun id hid => ?_)); have hid0 := hid.none; (try have hlt := hid.lt (Heap.set_same _ _ _))) | ((with_reducible refine mk_box ?_ (fun id hid => ?_)); (simp only [go_sem]; done); have hid0 := hid.none; (try have hlt := hid.lt (Heap.set_same _ _ _))) | ((with_reducible refine And.intro ?_ ?_); (first | decide | omega)) | ((with_reducible refine at_here ?_); first | unfold m27_2 w27_2 | unfold m27_5 w27_5 | unfold m27_4 w27_4 | unfold m27_3 w27_3 | unfold m27_0 w27_0) | (simp (disch := omega) only [go_sem, Heap.get_ne, wrap64_id, Nat.reduceAdd, Nat.reduceLeDiff, Nat.reduceSub, Nat.reduceEqDiff, Int.reduceLT, Int.reduceLE, Int.reduceEq, hx, hid']) | (with_reducible rfl) | ((with_reducible refine And.intro ?_ ?_) <;> (with_reducible rfl)))
    have h9 := hR ((((H.set I.r (some [(inc I.l I.cv (AV.sl 1 i2 0 s.out.length) s.fuel m s.kind s.code s.val s.over lg).set 7 (AV.sl 1 i2 0 s.out.length)])).set id (some [[AV.int IntKind.i64 s.kind, AV.int IntKind.i64 s.code, AV.sl 1 i2 0 s.out.length, AV.int IntKind.i64 s.val]])).set i2 none)) (fun k b hk hne => by rw [Heap.get_ne _ _ _ _ (hn2 k b hk), Heap.get_ne _ _ _ _ hne, Heap.get_ne _ _ _ _ (hnr k b hk)]; exact (h.holds.kp k b hk).1)
    refine .frz i2 (s.out.map icell) _ (by rw [Heap.get_ne _ _ _ _ hi2, Heap.get_ne _ _ _ _ hir]; exact hg2) (fun _ => .inr ?_) h9
    simp [frz, frz0, frz1, Oc.cells, outV, hne, ints]
    rw [List.take_of_length_le (by simp)]
/-- After the call: what the run tells. -/
theorem post27 (hid : I.G id = some [[.int .i64 0, .int .i64 0, .nilsl, .int .i64 0]]) (h : RX I ov [] s m false H) (v : Int)
    (hR : ∀ H', (∀ k b, I.G k = some b → k ≠ id → H' k = some b) → RetC R (.tup [.agg (if s.over = true then Oc.mk s.kind s.code s.out s.val else Oc.mk 1 0 s.out v).cells, .bool true]) H') :
    atW (m27_4 E R) [.ptr id 0 0, .ptr I.r 0 0, .int .i64 v] H := by
  have hx := h.hx
  skip
  refine at_here ?_; unfold m27_4 w27_4
  repeat' (first | ((with_reducible refine cond_mk (fun hb => ?_) (fun hb => ?_)) <;> ((try simp only [if_true, if_false, qq, reduceCtorEq] at hb); (try (exfalso; first | (exact hb) | contradiction | omega)))) | ((with_reducible refine grp_mk ?_ (fun hb => ?_) (fun _ => ?_)) <;> (try simp only [if_true, if_false, qq, reduceCtorEq] at hb)) | ((with_reducible refine mk_alloc (fun id hid => ?_)); have hid0 := hid.none; (try have hlt := hid.lt (Heap.set_same _ _ _))) | ((with_reducible refine mk_box ?_ (fun id hid => ?_)); (simp only [go_sem]; done); have hid0 := hid.none; (try have hlt := hid.lt (Heap.set_same _ _ _))) | ((with_reducible refine And.intro ?_ ?_); (first | decide | omega)) | ((with_reducible refine at_here ?_); first | unfold m27_2 w27_2 | unfold m27_4 w27_4 | unfold m27_3 w27_3 | unfold m27_0 w27_0) | (simp (disch := omega) only [go_sem, Heap.get_ne, wrap64_id, Nat.reduceAdd, Nat.reduceLeDiff, Nat.reduceSub, Nat.reduceEqDiff, Int.reduceLT, Int.reduceLE, Int.reduceEq, hx]) | (with_reducible rfl) | ((with_reducible refine And.intro ?_ ?_) <;> (with_reducible rfl)))
  · refine end27 hid (s := { s with kind := 1, code := 0, val := v }) (h.w { s with kind := 1, code := 0, val := v } m false rfl rfl) fun H' hH' => ?_
    have := hR H' hH'
    rw [if_neg (by simp [hb])] at this
    exact this
  · refine end27 hid h fun H' hH' => ?_
    have := hR H' hH'
    rw [if_pos (by simpa using hb)] at this
    exact this
end

theorem run27 (hE : E.Good) (hF : E.Fits tab) {G : Heap} {id : Nat} (hid : G id = some [[.int .i64 0, .int .i64 0, .nilsl, .int .i64 0]]) {l : List VF} {lens args : List Int} {f fuel most : Int} (hok : runOk l lens f args fuel = true) (hw : ProgW l) (hargs : ∀ x ∈ args, I64 x) (hsm : PSm l)
    (hmost : most ≤ 800000) {R : AV → Heap → Prop} (hR : ∀ H', (∀ k b, G k = some b → k ≠ id → H' k = some b) → RetC R (.tup [.agg (runV l lens f args fuel most).1.cells, .bool (runV l lens f args fuel most).2]) H') :
    atW (m27_0 E R) [vfs l, ints lens, .int .i64 f, ints args, .int .i64 fuel, .int .i64 most, .ptr id 0 0] G := by
  have hok' := hok
  simp only [runOk, Bool.and_eq_true, decide_eq_true_eq] at hok'
  obtain ⟨⟨⟨⟨⟨hp, hf1⟩, hf2⟩, ha⟩, hfu1⟩, hfu2⟩ := hok'
  have hlens : lens.length ≤ 4 := by
    simp only [progOk, progHead, Bool.and_eq_true, Bool.not_eq_true', Bool.or_eq_false_iff, decide_eq_false_iff_not] at hp
    omega
  have hlen1 : ∀ n ∈ lens, 0 ≤ n ∧ n ≤ 16 := fun n hn => by
    simp only [progOk, Bool.and_eq_true, List.all_eq_true, lenOk, decide_eq_true_eq] at hp
    have := hp.1.2 n hn; omega
  skip
  refine at_here ?_; unfold m27_0 w27_0
  repeat' (first | ((with_reducible refine cond_mk (fun hb => ?_) (fun hb => ?_)) <;> ((try simp only [if_true, if_false, qq, reduceCtorEq] at hb); (try (exfalso; first | (exact hb) | contradiction | omega)))) | ((with_reducible refine grp_mk ?_ (fun hb => ?_) (fun _ => ?_)) <;> (try simp only [if_true, if_false, qq, reduceCtorEq] at hb)) | ((with_reducible refine mk_alloc (fun id hid => ?_)); have hid0 := hid.none; (try have hlt := hid.lt (Heap.set_same _ _ _))) | ((with_reducible refine mk_box ?_ (fun id hid => ?_)); (simp only [go_sem]; done); have hid0 := hid.none; (try have hlt := hid.lt (Heap.set_same _ _ _))) | ((with_reducible refine And.intro ?_ ?_); (first | decide | omega)) | ((with_reducible refine at_here ?_); first | unfold m27_2 w27_2 | unfold m27_5 w27_5 | unfold m27_4 w27_4 | unfold m27_3 w27_3 | unfold m27_0 w27_0) | (simp (disch := omega) only [go_sem, Heap.get_ne, wrap64_id, Nat.reduceAdd, Nat.reduceLeDiff, Nat.reduceSub, Nat.reduceEqDiff, Int.reduceLT, Int.reduceLE, Int.reduceEq]) | (with_reducible rfl) | ((with_reducible refine And.intro ?_ ?_) <;> (with_reducible rfl)))
  refine ⟨rfl, ?_⟩
  refine mk_box rfl fun r hr => ?_
  repeat' (first | ((with_reducible refine cond_mk (fun hb => ?_) (fun hb => ?_)) <;> ((try simp only [if_true, if_false, qq, reduceCtorEq] at hb); (try (exfalso; first | (exact hb) | contradiction | omega)))) | ((with_reducible refine grp_mk ?_ (fun hb => ?_) (fun _ => ?_)) <;> (try simp only [if_true, if_false, qq, reduceCtorEq] at hb)) | ((with_reducible refine mk_alloc (fun id hid => ?_)); have hid0 := hid.none; (try have hlt := hid.lt (Heap.set_same _ _ _))) | ((with_reducible refine mk_box ?_ (fun id hid => ?_)); (simp only [go_sem]; done); have hid0 := hid.none; (try have hlt := hid.lt (Heap.set_same _ _ _))) | ((with_reducible refine And.intro ?_ ?_); (first | decide | omega)) | ((with_reducible refine at_here ?_); first | unfold m27_5 w27_5 | unfold m27_0 w27_0) | (simp (disch := omega) only [go_sem, Heap.get_ne, wrap64_id, Nat.reduceAdd, Nat.reduceLeDiff, Nat.reduceSub, Nat.reduceEqDiff, Int.reduceLT, Int.reduceLE, Int.reduceEq]) | (with_reducible rfl) | ((with_reducible refine And.intro ?_ ?_) <;> (with_reducible rfl)))
  let s0 : Nat → St := fun i => ⟨(lens.take i).map fun n => List.replicate n.toNat 0, ⟨l.getD f.toNat default, [], args, 0, 0, 0⟩, [], fuel, false, 0, 0, [], 0⟩
  have g0 : HoldsG G G [] := ⟨⟨by simp, by simp⟩, fun k b h => ⟨h, by simp⟩⟩
  have g1 := g0.new hr (b := [inc l .nilsl .nilsl fuel most 0 0 0 false false])
  refine loop_mk (σ := Nat) (fun i => [ints lens, .int .i64 f, ints args, .ptr id 0 0, .ptr r 0 0, .int .i64 i])
    (fun i H' => i ≤ lens.length ∧ ∃ cv cid rids, RX ⟨G, r, l, cv, cid, rids⟩ .nilsl [] (s0 i) most false H') (fun i => lens.length - i) 0 rfl ⟨Nat.zero_le _, .nilsl, none, [], ?_⟩ ?_
  · refine ⟨?_, .inl ⟨rfl, rfl⟩, ⟨rfl, .inl ⟨rfl, rfl, rfl⟩⟩, fun _ => rfl⟩
    exact (by simpa [ownL, cellsL, s0] using g1 : HoldsG G (G.set r (some [inc l AV.nilsl AV.nilsl fuel most 0 0 0 false false])) _)
  · rintro i H K ⟨hi, cv, cid, rids, h⟩ hK
    have hr := h.hx
    unfold l27_1 w27_1; simp only [go_sem]
    repeat' (first | ((with_reducible refine cond_mk (fun hb => ?_) (fun hb => ?_)) <;> ((try simp only [if_true, if_false, qq, reduceCtorEq] at hb); (try (exfalso; first | (exact hb) | contradiction | omega)))) | ((with_reducible refine grp_mk ?_ (fun hb => ?_) (fun _ => ?_)) <;> (try simp only [if_true, if_false, qq, reduceCtorEq] at hb)) | ((with_reducible refine mk_alloc (fun id hid => ?_)); have hid0 := hid.none; (try have hlt := hid.lt (Heap.set_same _ _ _))) | ((with_reducible refine mk_box ?_ (fun id hid => ?_)); (simp only [go_sem]; done); have hid0 := hid.none; (try have hlt := hid.lt (Heap.set_same _ _ _))) | ((with_reducible refine And.intro ?_ ?_); (first | decide | omega)) | ((with_reducible refine at_here ?_); first | unfold m27_2 w27_2 | unfold m27_5 w27_5 | unfold m27_4 w27_4 | unfold m27_3 w27_3 | unfold m27_0 w27_0) | (simp (disch := omega) only [go_sem, Heap.get_ne, wrap64_id, Nat.reduceAdd, Nat.reduceLeDiff, Nat.reduceSub, Nat.reduceEqDiff, Int.reduceLT, Int.reduceLE, Int.reduceEq, hr]) | (with_reducible rfl) | ((with_reducible refine And.intro ?_ ?_) <;> (with_reducible rfl)))
    · have hil : i < lens.length := by omega
      have hn := hlen1 _ (getD_mem (α := Int) hil)
      refine cellsX h hn (by simp [s0]; omega) fun H' cv' cid' rids' h' => ?_
      repeat' (first | ((with_reducible refine cond_mk (fun hb => ?_) (fun hb => ?_)) <;> ((try simp only [if_true, if_false, qq, reduceCtorEq] at hb); (try (exfalso; first | (exact hb) | contradiction | omega)))) | ((with_reducible refine grp_mk ?_ (fun hb => ?_) (fun _ => ?_)) <;> (try simp only [if_true, if_false, qq, reduceCtorEq] at hb)) | ((with_reducible refine mk_alloc (fun id hid => ?_)); have hid0 := hid.none; (try have hlt := hid.lt (Heap.set_same _ _ _))) | ((with_reducible refine mk_box ?_ (fun id hid => ?_)); (simp only [go_sem]; done); have hid0 := hid.none; (try have hlt := hid.lt (Heap.set_same _ _ _))) | ((with_reducible refine And.intro ?_ ?_); (first | decide | omega)) | ((with_reducible refine at_here ?_); first | unfold m27_2 w27_2 | unfold m27_5 w27_5 | unfold m27_4 w27_4 | unfold m27_3 w27_3 | unfold m27_0 w27_0) | (simp (disch := omega) only [go_sem, Heap.get_ne, wrap64_id, Nat.reduceAdd, Nat.reduceLeDiff, Nat.reduceSub, Nat.reduceEqDiff, Int.reduceLT, Int.reduceLE, Int.reduceEq]) | (with_reducible rfl) | ((with_reducible refine And.intro ?_ ?_) <;> (with_reducible rfl)))
      refine at_eq (hK (i + 1) _ ⟨hil, cv', cid', rids', h'.cast ?_⟩ (by omega)) rfl
      have ex : (lens.take (i + 1)).map (fun n => List.replicate n.toNat (0 : Int)) = (lens.take i).map (fun n => List.replicate n.toNat (0 : Int)) ++ [List.replicate (lens.getD i 0).toNat 0] := by
        rw [List.take_add_one, List.map_append, List.getElem?_eq_getElem hil]
        simp [List.getD, List.getElem?_eq_getElem hil]
      simp only [s0, ex]
    · have hia : i = lens.length := by omega
      subst hia
      have hs0 : s0 lens.length = St.init l lens f args fuel := by simp only [s0, St.init, List.take_length]
      have hI : Inv l lens 0 (St.init l lens f args fuel) := by
        have hm : l.getD f.toNat default ∈ l := getD_mem (by omega)
        have hff := funcOk_of hp hm
        exact ⟨⟨hm, ⟨by simp [St.init], by simpa [St.init] using hff.ne⟩, ⟨by simp [St.init], by simp [St.init]⟩, ha, by simp [St.init]⟩, fun fr hfr => by simp [St.init] at hfr, by simp [St.init], by simp [St.init], by simp [St.init]; omega⟩
      have hW : StW (St.init l lens f args fuel) := by
        refine ⟨fun row hrow x hx => ?_, ⟨fun x hx => (by simp [St.init] at hx), hargs⟩, fun fr hfr => by simp [St.init] at hfr⟩
        obtain ⟨n, -, rfl⟩ := List.mem_map.1 hrow
        rw [(List.mem_replicate.1 hx).2]; exact I64_0
      rw [hs0] at h
      have hcall := icall hE hF (I := ⟨G, r, l, cv, cid, rids⟩) (lens := lens) hp hw hsm most.toNat (av := ints args) (Nat.le_refl _) (n := 0) ⟨hI, hW, by omega, by omega⟩ rfl rfl rfl rfl (.inl rfl) (fun p hp => by simp [ownL, ints] at hp) (f := f) ⟨hf1, hf2⟩ rfl h
      clear hK
      repeat' (first | ((with_reducible refine cond_mk (fun hb => ?_) (fun hb => ?_)) <;> ((try simp only [if_true, if_false, qq, reduceCtorEq] at hb); (try (exfalso; first | (exact hb) | contradiction | omega)))) | ((with_reducible refine grp_mk ?_ (fun hb => ?_) (fun _ => ?_)) <;> (try simp only [if_true, if_false, qq, reduceCtorEq] at hb)) | ((with_reducible refine call_any (hcall) ?_); rintro _ _ hsm ⟨k, s', ov', v, lg, m', rfl, g1, g2, g3⟩) | ((with_reducible refine mk_alloc (fun id hid => ?_)); have hid0 := hid.none; (try have hlt := hid.lt (Heap.set_same _ _ _))) | ((with_reducible refine mk_box ?_ (fun id hid => ?_)); (simp only [go_sem]; done); have hid0 := hid.none; (try have hlt := hid.lt (Heap.set_same _ _ _))) | ((with_reducible refine And.intro ?_ ?_); (first | decide | omega)) | ((with_reducible refine at_here ?_); first | unfold m27_2 w27_2 | unfold m27_5 w27_5 | unfold m27_0 w27_0) | (simp (disch := omega) only [go_sem, Heap.get_ne, wrap64_id, Nat.reduceAdd, Nat.reduceLeDiff, Nat.reduceSub, Nat.reduceEqDiff, Int.reduceLT, Int.reduceLE, Int.reduceEq]) | (with_reducible rfl) | ((with_reducible refine And.intro ?_ ?_) <;> (with_reducible rfl)))
      rename_i H'
      have hx : H' r = some [inc l cv ov' s'.fuel m' s'.kind s'.code s'.val s'.over lg] := g2.hx
      have hid' : H' id = some [[.int .i64 0, .int .i64 0, .nilsl, .int .i64 0]] := (g2.holds.kp id _ hid).1
      have hidr : id ≠ r := fun e => (g2.holds.kp id _ hid).2 (by rw [e]; simp)
      have hv : runV l lens f args fuel most = if (runN l most.toNat (St.init l lens f args fuel)).over = true then (⟨(runN l most.toNat (St.init l lens f args fuel)).kind, (runN l most.toNat (St.init l lens f args fuel)).code, (runN l most.toNat (St.init l lens f args fuel)).out, (runN l most.toNat (St.init l lens f args fuel)).val⟩, true) else (.zero, false) := by
        unfold runV; rw [if_pos hok]
      have g1 : Prog l k (St.init l lens f args fuel) s' := g1
      rcases g3 with ⟨e1, e2, e3, e4, e5, e6, e7⟩ | ⟨e1, e2, e3, e4⟩ | ⟨e1, e2, e3⟩
      · subst e1
        repeat' (first | ((with_reducible refine cond_mk (fun hb => ?_) (fun hb => ?_)) <;> ((try simp only [if_true, if_false, qq, reduceCtorEq] at hb); (try (exfalso; first | (exact hb) | contradiction | omega)))) | ((with_reducible refine grp_mk ?_ (fun hb => ?_) (fun _ => ?_)) <;> (try simp only [if_true, if_false, qq, reduceCtorEq] at hb)) | ((with_reducible refine mk_alloc (fun id hid => ?_)); have hid0 := hid.none; (try have hlt := hid.lt (Heap.set_same _ _ _))) | ((with_reducible refine mk_box ?_ (fun id hid => ?_)); (simp only [go_sem]; done); have hid0 := hid.none; (try have hlt := hid.lt (Heap.set_same _ _ _))) | ((with_reducible refine And.intro ?_ ?_); (first | decide | omega)) | ((with_reducible refine at_here ?_); first | unfold m27_2 w27_2 | unfold m27_5 w27_5 | unfold m27_3 w27_3 | unfold m27_0 w27_0) | (simp (disch := omega) only [go_sem, Heap.get_ne, wrap64_id, Nat.reduceAdd, Nat.reduceLeDiff, Nat.reduceSub, Nat.reduceEqDiff, Int.reduceLT, Int.reduceLE, Int.reduceEq, hx, hid']) | (with_reducible rfl) | ((with_reducible refine And.intro ?_ ?_) <;> (with_reducible rfl)))
        refine post27 (I := ⟨G, r, l, cv, cid, rids⟩) hid g2 v fun H' hH' => ?_
        have h9 := hR H' hH'
        have e8 : s'.step l = s'.stop 1 0 v := by
          unfold St.step
          dsimp only
          rw [if_pos e7.pc]
          unfold St.term
          dsimp only
          rw [if_neg (by rw [e7.en]; decide), if_neg (by rw [e7.en]; decide), if_pos e7.en, e5, ← e7.val]
          rfl
        have e9 : runN l most.toNat (St.init l lens f args fuel) = s'.stop 1 0 v := by
          rw [show most.toNat = k + ((most.toNat - k - 1) + 1) by omega, g1.run, runN, e2, e8]
          exact runN_over _ rfl
        rw [hv, e9] at h9
        rw [if_neg (by simp [e2])]
        exact h9
      · subst e1
        repeat' (first | ((with_reducible refine cond_mk (fun hb => ?_) (fun hb => ?_)) <;> ((try simp only [if_true, if_false, qq, reduceCtorEq] at hb); (try (exfalso; first | (exact hb) | contradiction | omega)))) | ((with_reducible refine grp_mk ?_ (fun hb => ?_) (fun _ => ?_)) <;> (try simp only [if_true, if_false, qq, reduceCtorEq] at hb)) | ((with_reducible refine mk_alloc (fun id hid => ?_)); have hid0 := hid.none; (try have hlt := hid.lt (Heap.set_same _ _ _))) | ((with_reducible refine mk_box ?_ (fun id hid => ?_)); (simp only [go_sem]; done); have hid0 := hid.none; (try have hlt := hid.lt (Heap.set_same _ _ _))) | ((with_reducible refine And.intro ?_ ?_); (first | decide | omega)) | ((with_reducible refine at_here ?_); first | unfold m27_2 w27_2 | unfold m27_5 w27_5 | unfold m27_3 w27_3 | unfold m27_0 w27_0) | (simp (disch := omega) only [go_sem, Heap.get_ne, wrap64_id, Nat.reduceAdd, Nat.reduceLeDiff, Nat.reduceSub, Nat.reduceEqDiff, Int.reduceLT, Int.reduceLE, Int.reduceEq, hx, hid']) | (with_reducible rfl) | ((with_reducible refine And.intro ?_ ?_) <;> (with_reducible rfl)))
        refine post27 (I := ⟨G, r, l, cv, cid, rids⟩) hid g2 v fun H' hH' => ?_
        have h9 := hR H' hH'
        have e9 : runN l most.toNat (St.init l lens f args fuel) = s' := by
          rw [show most.toNat = k + (most.toNat - k) by omega, g1.run]
          exact runN_over _ e2
        rw [hv, e9] at h9
        rw [if_pos e2] at h9
        rw [if_pos e2]
        exact h9
      · subst e1
        repeat' (first | ((with_reducible refine cond_mk (fun hb => ?_) (fun hb => ?_)) <;> ((try simp only [if_true, if_false, qq, reduceCtorEq] at hb); (try (exfalso; first | (exact hb) | contradiction | omega)))) | ((with_reducible refine grp_mk ?_ (fun hb => ?_) (fun _ => ?_)) <;> (try simp only [if_true, if_false, qq, reduceCtorEq] at hb)) | ((with_reducible refine mk_alloc (fun id hid => ?_)); have hid0 := hid.none; (try have hlt := hid.lt (Heap.set_same _ _ _))) | ((with_reducible refine mk_box ?_ (fun id hid => ?_)); (simp only [go_sem]; done); have hid0 := hid.none; (try have hlt := hid.lt (Heap.set_same _ _ _))) | ((with_reducible refine And.intro ?_ ?_); (first | decide | omega)) | ((with_reducible refine at_here ?_); first | unfold m27_2 w27_2 | unfold m27_5 w27_5 | unfold m27_4 w27_4 | unfold m27_3 w27_3 | unfold m27_0 w27_0) | (simp (disch := omega) only [go_sem, Heap.get_ne, wrap64_id, Nat.reduceAdd, Nat.reduceLeDiff, Nat.reduceSub, Nat.reduceEqDiff, Int.reduceLT, Int.reduceLE, Int.reduceEq, hx, hid']) | (with_reducible rfl) | ((with_reducible refine And.intro ?_ ?_) <;> (with_reducible rfl)))
        have e9 : runN l most.toNat (St.init l lens f args fuel) = s' := by
          rw [← e3]; have := g1.run 0; rw [Nat.add_zero] at this; rw [this]; rfl
        have h9 := hR (H'.set id (some [[.int .i64 0, .int .i64 0, .nilsl, .int .i64 0]])) (fun k b hk hne => by rw [Heap.get_ne _ _ _ _ hne]; exact (g2.holds.kp k b hk).1)
        rw [hv, e9, if_neg (by simp [e2])] at h9
        exact h9

/-- The reference runs as the machine. -/
theorem runR_spec (hE : E.Good) (hF : E.Fits tab) (l : List VF) (lens : List Int) (f : Int) (args : List Int) (fuel most : Int) (hw : ProgW l) (hargs : ∀ x ∈ args, I64 x) (hmost : most ≤ 800000) :
    PF E 27 [vfs l, ints lens, .int .i64 f, ints args, .int .i64 fuel, .int .i64 most] (.tup [.agg (runV l lens f args fuel most).1.ic, .bool (runV l lens f args fuel most).2]) := by
  have h27 : PF E 27 [vfs l, ints lens, .int .i64 f, ints args, .int .i64 fuel, .int .i64 most] (.tup [.agg (runV l lens f args fuel most).1.cells, .bool (runV l lens f args fuel most).2]) := by
    intro H
    refine acall_small fun hs => ?_
    have hsm : PSm l := (small_vfs (hs _ (by simp))).2
    have hlenl := (small_vfs (hs (vfs l) (by simp))).1
    have hlens := small_ints (hs (ints lens) (by simp))
    have hargs := small_ints (hs (ints args) (by simp))
    clear hs
    refine ent27 hE hF _ _ _ _ _ _ _ _ ?_; unfold w27
    repeat' (first | ((with_reducible refine cond_mk (fun hb => ?_) (fun hb => ?_)) <;> ((try simp only [if_true, if_false, qq, reduceCtorEq] at hb); (try (exfalso; first | (exact hb) | contradiction | omega)))) | ((with_reducible refine grp_mk ?_ (fun hb => ?_) (fun _ => ?_)) <;> (try simp only [if_true, if_false, qq, reduceCtorEq] at hb)) | ((with_reducible refine call_pure (progR_spec hE hF _ _) ?_); intro _) | ((with_reducible refine pc_pure (progR_spec hE hF _ _) ?_)) | ((with_reducible refine dcall_pure0 (progR_spec hE hF _ _) ?_)) | ((with_reducible refine mk_alloc (fun id hid => ?_)); have hid0 := hid.none; (try have hlt := hid.lt (Heap.set_same _ _ _))) | ((with_reducible refine mk_box ?_ (fun id hid => ?_)); (simp only [go_sem]; done); have hid0 := hid.none; (try have hlt := hid.lt (Heap.set_same _ _ _))) | ((with_reducible refine And.intro ?_ ?_); (first | decide | omega)) | (simp (disch := omega) only [go_sem, Heap.get_ne, wrap64_id, Nat.reduceAdd, Nat.reduceLeDiff, Nat.reduceSub, Nat.reduceEqDiff, Int.reduceLT, Int.reduceLE, Int.reduceEq]) | (with_reducible rfl) | ((with_reducible refine And.intro ?_ ?_) <;> (with_reducible rfl)))
    · have e : runV l lens f args fuel most = (.zero, false) := by
        unfold runV
        rw [if_neg]
        simp only [runOk, Bool.and_eq_true, decide_eq_true_eq]
        rcases hb with ((((hb | hb) | hb) | hb) | hb) | hb
        · simp [hb]
        all_goals omega
      (with_reducible refine ret_q ?_)
      rw [e]; rfl
    · refine run27 hE hF (Heap.set_same _ _ _) ?_ hw (by assumption) hsm hmost fun H' hH' => ret_le (VLe.refl _) (fun k => ?_) ⟨rfl, rfl⟩
      · simp only [runOk, Bool.and_eq_true, decide_eq_true_eq]
        exact hb
      · cases e : H k with
        | none => exact .inl rfl
        | some b =>
          have hk := hid.ne e
          refine .inr ?_
          exact (hH' k b (by rw [Heap.get_ne _ _ _ _ hk]; exact e) hk).symm
  exact h27.ret (vle_tup rfl fun j x y hx hy => by
    match j with
    | 0 => cases hx; cases hy; exact vle_oc _
    | 1 => cases hx; cases hy; exact VLe.refl _
    | n + 2 => cases hx)
end Go.Abs
/- How large the generators' functions are. -/
namespace Go.Abs

structure SzF (k : Nat) (c : VF) : Prop where
  bl : c.blocks.length ≤ k
  ins : ∀ b ∈ c.blocks, b.ins.length ≤ k
  args : ∀ b ∈ c.blocks, ∀ v ∈ b.ins, v.args.length ≤ k
theorem SzF.mono {k k' : Nat} {c : VF} (h : SzF k c) (hk : k ≤ k') : SzF k' c := ⟨Nat.le_trans h.bl hk, fun b hb => Nat.le_trans (h.ins b hb) hk, fun b hb v hv => Nat.le_trans (h.args b hb v hv) hk⟩
end Go.Abs
set_option linter.unusedSimpArgs false
set_option linter.unusedVariables false
set_option maxRecDepth 100000
namespace Go.Abs
variable {E : Env}


end Go.Abs
set_option linter.unusedSimpArgs false
set_option linter.unusedVariables false
set_option maxRecDepth 100000
namespace Go.Abs
variable {E : Env}


/-- Rows of one cell each. -/
def col {α : Type} (f : α → AV) (l : List α) : AV := .ro 1 (l.map fun x => [f x])
section
variable {k : AV → Prop}
end





end Go.Abs
set_option linter.unusedSimpArgs false
set_option linter.unusedVariables false
set_option maxRecDepth 100000
namespace Go.Abs
variable {E : Env}

theorem argsV_in {a b w : Int} (hw : I64 w) : ∀ x ∈ argsV a b w, I64 x := fun x hx => by
  simp only [argsV, List.mem_cons, List.not_mem_nil, or_false] at hx
  rcases hx with rfl | rfl
  · exact wordV_in hw
  · exact wordV_in hw
theorem vfs2_w {l m : List Int} (hl : ∀ x ∈ l, I64 x) (hm : ∀ x ∈ m, I64 x) : ProgW (vfs2 l m) := fun c hc => by
  simp only [vfs2, List.mem_cons, List.not_mem_nil, or_false] at hc
  rcases hc with rfl | rfl
  · exact (vfF_good _ _ (by omega)).n fun x hx => hl x (List.mem_of_mem_take hx)
  · exact (vfF_good _ _ (by omega)).n fun x hx => hm x (List.mem_of_mem_take hx)
theorem vfs2_par (l m : List Int) {j : Nat} (hj : j < 2) : ((vfs2 l m).getD j default).params = 2 - j := by
  match j with
  | 0 => rfl
  | 1 => rfl
theorem getD_all {P : Int → Prop} {l : List Int} {j : Nat} (h : ∀ x ∈ l, P x) (hj : j < l.length) : P (l.getD j 0) := by
  rw [show l.getD j 0 = l[j] by simp [List.getD, hj]]; exact h _ (List.getElem_mem hj)

set_option maxHeartbeats 4000000 in
theorem law6_spec (hE : E.Good) (hF : E.Fits tab) (l m : List Int) (f a b w fuel most : Int) (hl : ∀ x ∈ l, I64 x) (hm : ∀ x ∈ m, I64 x) (hw : I64 w) :
    PF E 6 [ints l, ints m, .int .i64 f, .int .i64 a, .int .i64 b, .int .i64 w, .int .i64 fuel, .int .i64 most] (.bool true) := by
  have hgood := vfs2_ok l m
  have q0 := Int.emod_nonneg f (show (2 : Int) ≠ 0 by decide)
  have q1 := Int.emod_lt_of_pos f (show (0 : Int) < 2 by decide)
  have q2 := Int.emod_nonneg most (show (60 : Int) ≠ 0 by decide)
  have q3 := Int.emod_lt_of_pos most (show (0 : Int) < 60 by decide)
  have hl2 : (vfs2 l m).length = 2 := rfl
  have hj : (f % 2).toNat < 2 := by omega
  have hp := vfs2_par l m hj
  intro H; refine ent6 hE hF _ _ _ _ _ _ _ _ _ _ ?_; unfold w6
  repeat' (first | ((with_reducible refine cond_mk (fun hb => ?_) (fun hb => ?_)) <;> ((try simp only [if_true, if_false, qq, reduceCtorEq] at hb); (try (exfalso; first | (exact hb) | contradiction | omega)))) | ((with_reducible refine grp_mk ?_ (fun hb => ?_) (fun _ => ?_)) <;> (try simp only [if_true, if_false, qq, reduceCtorEq] at hb)) | ((with_reducible refine call_pure (vfuncs_spec hE hF l m) ?_); intro _) | ((with_reducible refine pc_pure (vfuncs_spec hE hF l m) ?_)) | ((with_reducible refine dcall_pure0 (vfuncs_spec hE hF l m) ?_)) | ((with_reducible refine call_pure (pick_spec hE hF _ _ (by decide) (by decide)) ?_); intro _) | ((with_reducible refine pc_pure (pick_spec hE hF _ _ (by decide) (by decide)) ?_)) | ((with_reducible refine dcall_pure0 (pick_spec hE hF _ _ (by decide) (by decide)) ?_)) | ((with_reducible refine call_pure (args_spec hE hF _ _ _) ?_); intro _) | ((with_reducible refine pc_pure (args_spec hE hF _ _ _) ?_)) | ((with_reducible refine dcall_pure0 (args_spec hE hF _ _ _) ?_)) | ((with_reducible refine And.intro ?_ ?_); (first | decide | omega)) | ((with_reducible refine at_here ?_); unfold m6_1 w6_1) | (simp (disch := omega) only [go_sem, Heap.get_ne, wrap64_id, Nat.reduceAdd, Nat.reduceLeDiff, Nat.reduceSub, Nat.reduceEqDiff, Int.reduceLT, Int.reduceLE, Int.reduceEq, hp, hl2]) | (with_reducible rfl) | ((with_reducible refine And.intro ?_ ?_) <;> (with_reducible rfl)))
  have hal : (argsV a b w).length = 2 := rfl
  refine ⟨⟨by omega, by omega⟩, ?_⟩
  repeat' (first | ((with_reducible refine cond_mk (fun hb => ?_) (fun hb => ?_)) <;> ((try simp only [if_true, if_false, qq, reduceCtorEq] at hb); (try (exfalso; first | (exact hb) | contradiction | omega)))) | ((with_reducible refine grp_mk ?_ (fun hb => ?_) (fun _ => ?_)) <;> (try simp only [if_true, if_false, qq, reduceCtorEq] at hb)) | ((with_reducible refine call_pure (pick_spec hE hF _ _ (by decide) (by decide)) ?_); intro _) | ((with_reducible refine pc_pure (pick_spec hE hF _ _ (by decide) (by decide)) ?_)) | ((with_reducible refine dcall_pure0 (pick_spec hE hF _ _ (by decide) (by decide)) ?_)) | ((with_reducible refine And.intro ?_ ?_); (first | decide | omega)) | ((with_reducible refine at_here ?_); unfold m6_1 w6_1) | (simp (disch := omega) only [go_sem, Heap.get_ne, wrap64_id, Nat.reduceAdd, Nat.reduceLeDiff, Nat.reduceSub, Nat.reduceEqDiff, Int.reduceLT, Int.reduceLE, Int.reduceEq]) | (with_reducible rfl) | ((with_reducible refine And.intro ?_ ?_) <;> (with_reducible rfl)))
  have hms : ∀ x ∈ [200, most % 60, if 300 < most then 300 else most], x ≤ 800000 := fun x hx => by
    simp only [List.mem_cons, List.not_mem_nil, or_false] at hx
    rcases hx with rfl | rfl | rfl
    · omega
    · omega
    · split <;> omega
  have ems : (AV.ro 1 [[.int .i64 200], [.int .i64 (most % 60)], [.int .i64 (if 300 < most then 300 else most)]]) = ints [200, most % 60, if 300 < most then 300 else most] := rfl
  rw [ems]
  have hlen : [200, most % 60, if 300 < most then 300 else most].length = 3 := rfl
  generalize hmsq : [200, most % 60, if 300 < most then 300 else most] = ms at hms hlen
  have hai : ∀ x ∈ (argsV a b w).take (2 - ((f % 2).toNat : Int)).toNat, I64 x := fun x hx => argsV_in hw x (List.mem_of_mem_take hx)
  generalize hag : (argsV a b w).take (2 - ((f % 2).toNat : Int)).toNat = ag at hai
  refine loop_mk (σ := Nat) (fun j => [.int .i64 (f % 2), .int .i64 fuel, vfs (vfs2 l m), ints [3, 2], ints ag, ints ms, .int .i64 3, .int .i64 j])
    (fun j H' => j ≤ 3 ∧ H' = H) (fun j => 3 - j) 0 rfl ⟨by omega, rfl⟩ ?_
  rintro j H K ⟨hj, rfl⟩ hK
  unfold l6_0 w6_0; simp only [go_sem]
  repeat' (first | ((with_reducible refine cond_mk (fun hb => ?_) (fun hb => ?_)) <;> ((try simp only [if_true, if_false, qq, reduceCtorEq] at hb); (try (exfalso; first | (exact hb) | contradiction | omega)))) | ((with_reducible refine grp_mk ?_ (fun hb => ?_) (fun _ => ?_)) <;> (try simp only [if_true, if_false, qq, reduceCtorEq] at hb)) | ((with_reducible refine And.intro ?_ ?_); (first | decide | omega)) | (simp (disch := omega) only [go_sem, Heap.get_ne, wrap64_id, Nat.reduceAdd, Nat.reduceLeDiff, Nat.reduceSub, Nat.reduceEqDiff, Int.reduceLT, Int.reduceLE, Int.reduceEq]) | (with_reducible rfl) | ((with_reducible refine And.intro ?_ ?_) <;> (with_reducible rfl)))
  · have hmo : ms.getD j 0 ≤ 800000 := getD_all (P := fun x => x ≤ 800000) hms (by omega)
    have s13 := vrun_spec hE hF (vfs2 l m) [3, 2] (f % 2) ag (fuel % 12) (ms.getD j 0) (by omega)
    have s27 := runR_spec hE hF (vfs2 l m) [3, 2] (f % 2) ag (fuel % 12) (ms.getD j 0) (vfs2_w hl hm) hai hmo
    refine at_here ?_; unfold m6_1 w6_1
    repeat' (first | ((with_reducible refine cond_mk (fun hb => ?_) (fun hb => ?_)) <;> ((try simp only [if_true, if_false, qq, reduceCtorEq] at hb); (try (exfalso; first | (exact hb) | contradiction | omega)))) | ((with_reducible refine grp_mk ?_ (fun hb => ?_) (fun _ => ?_)) <;> (try simp only [if_true, if_false, qq, reduceCtorEq] at hb)) | ((with_reducible refine call_pure (fuel_spec hE hF _) ?_); intro _) | ((with_reducible refine pc_pure (fuel_spec hE hF _) ?_)) | ((with_reducible refine dcall_pure0 (fuel_spec hE hF _) ?_)) | ((with_reducible refine call_pure (s13) ?_); intro _) | ((with_reducible refine pc_pure (s13) ?_)) | ((with_reducible refine dcall_pure0 (s13) ?_)) | ((with_reducible refine call_pure (s27) ?_); intro _) | ((with_reducible refine pc_pure (s27) ?_)) | ((with_reducible refine dcall_pure0 (s27) ?_)) | ((with_reducible refine call_pure (sameOc_spec hE hF _ _) ?_); intro _) | ((with_reducible refine pc_pure (sameOc_spec hE hF _ _) ?_)) | ((with_reducible refine dcall_pure0 (sameOc_spec hE hF _ _) ?_)) | ((with_reducible refine And.intro ?_ ?_); (first | decide | omega)) | ((with_reducible refine at_here ?_); unfold m6_1 w6_1) | (simp (disch := omega) only [go_sem, Heap.get_ne, wrap64_id, Nat.reduceAdd, Nat.reduceLeDiff, Nat.reduceSub, Nat.reduceEqDiff, Int.reduceLT, Int.reduceLE, Int.reduceEq, hlen]) | (with_reducible rfl) | ((with_reducible refine And.intro ?_ ?_) <;> (with_reducible rfl)))
    exact at_eq (hK (j + 1) _ ⟨by omega, rfl⟩ (by omega)) rfl
  · repeat' (first | ((with_reducible refine cond_mk (fun hb => ?_) (fun hb => ?_)) <;> ((try simp only [if_true, if_false, qq, reduceCtorEq] at hb); (try (exfalso; first | (exact hb) | contradiction | omega)))) | ((with_reducible refine grp_mk ?_ (fun hb => ?_) (fun _ => ?_)) <;> (try simp only [if_true, if_false, qq, reduceCtorEq] at hb)) | ((with_reducible refine call_pure (examples_spec hE hF) ?_); intro _) | ((with_reducible refine pc_pure (examples_spec hE hF) ?_)) | ((with_reducible refine dcall_pure0 (examples_spec hE hF) ?_)) | ((with_reducible refine And.intro ?_ ?_); (first | decide | omega)) | ((with_reducible refine at_here ?_); unfold m6_1 w6_1) | (simp (disch := omega) only [go_sem, Heap.get_ne, wrap64_id, Nat.reduceAdd, Nat.reduceLeDiff, Nat.reduceSub, Nat.reduceEqDiff, Int.reduceLT, Int.reduceLE, Int.reduceEq]) | (with_reducible rfl) | ((with_reducible refine And.intro ?_ ?_) <;> (with_reducible rfl)))
    (with_reducible refine ret_q ?_)
    rfl

end Go.Abs
set_option linter.unusedSimpArgs false
set_option linter.unusedVariables false
set_option maxRecDepth 100000
namespace Go.Abs
variable {E : Env}

/-- The blocks and one more, as they lie. -/
def extBs (c : VF) : Blk := c.blocks.map Bl.cells ++ [[.nilsl, .int .i64 4, .int .i64 0, .int .i64 77, .int .i64 0]]
def extC (k : Int) (c : VF) : List AV := [.int .i64 c.params, .int .i64 (c.regs + k), .ro 5 (extBs c)]

def mixB (k : Int) (a b : VF) : Nat → Blk
  | 0 => [a.cells, b.cells]
  | 1 => [extC k a, b.cells]
  | _ => [extC k a, extC k b]


end Go.Abs
set_option linter.unusedSimpArgs false
set_option linter.unusedVariables false
set_option maxRecDepth 100000
namespace Go.Abs
variable {E : Env}

def FW (c : VF) : Prop := ∀ b ∈ c.blocks, ∀ v ∈ b.ins, I64 v.i.n


/-- What the loop over the two programs keeps: the second lies in a block until it is read. -/
def Two (G : Heap) (q : Nat) (B : Blk) (i : Nat) (H : Heap) : Prop := (i ≤ 1 ∧ HoldsG G H [(q, B)]) ∨ (i = 2 ∧ HoldsG G H [])
theorem Two.le {G : Heap} {q : Nat} {B : Blk} {i : Nat} {H : Heap} (h : Two G q B i H) : G.Le H := fun k => by
  cases e : G k with
  | none => exact .inl rfl
  | some b =>
    rcases h with ⟨-, h⟩ | ⟨-, h⟩
    · exact .inr (h.kp k b e).1.symm
    · exact .inr (h.kp k b e).1.symm

end Go.Abs
