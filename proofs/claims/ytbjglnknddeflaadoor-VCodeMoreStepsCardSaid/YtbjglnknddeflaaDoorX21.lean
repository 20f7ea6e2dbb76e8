/- A part of the proof: F19, F20, F21, F22, F30, F31, F32, F33, F34, G2, F23, F24, F35, F36, F37 -/
import Derived.Test.YtbjglnknddeflaaDoorX20
set_option linter.unusedSimpArgs false
set_option linter.unusedVariables false
set_option linter.unusedSimpArgs false
set_option linter.unusedVariables false
set_option maxRecDepth 100000
namespace Go.Abs
variable {E : Env}

/-- A block's row, its instructions in any telling. -/
def blr (X : AV) (en reg tgt els : Int) : List AV := [X, .int .i64 en, .int .i64 reg, .int .i64 tgt, .int .i64 els]
section
variable (X : AV) (en reg tgt els : Int)
@[go_sem] theorem e_blr (i : Nat) : (blr X en reg tgt els)[i]? = ([X, .int .i64 en, .int .i64 reg, .int .i64 tgt, .int .i64 els] : List AV)[i]? := id rfl
@[go_sem] theorem e_blrl : (blr X en reg tgt els).length = 5 := id rfl
@[go_sem] theorem e_blrt : (blr X en reg tgt els).take 5 = blr X en reg tgt els := id rfl
@[go_sem] theorem set_blr0 (x : AV) : (blr X en reg tgt els).set 0 x = blr x en reg tgt els := id rfl
@[go_sem] theorem set_blr1 (x : Int) : (blr X en reg tgt els).set 1 (.int .i64 x) = blr X x reg tgt els := id rfl
@[go_sem] theorem set_blr2 (x : Int) : (blr X en reg tgt els).set 2 (.int .i64 x) = blr X en x tgt els := id rfl
@[go_sem] theorem set_blr3 (x : Int) : (blr X en reg tgt els).set 3 (.int .i64 x) = blr X en reg x els := id rfl
@[go_sem] theorem set_blr4 (x : Int) : (blr X en reg tgt els).set 4 (.int .i64 x) = blr X en reg tgt x := id rfl
end
theorem vle_blr {X : AV} {l : List VI} (h : VLe X (vins l)) (en reg tgt els : Int) : ∀ (j : Nat) (x y : AV), (blr X en reg tgt els)[j]? = some x → (Bl.cells ⟨l, en, reg, tgt, els⟩)[j]? = some y → VLe x y := fun j x y hx hy => by
  match j with
  | 0 => cases hx; cases hy; exact h
  | 1 => cases hx; cases hy; exact VLe.refl _
  | 2 => cases hx; cases hy; exact VLe.refl _
  | 3 => cases hx; cases hy; exact VLe.refl _
  | 4 => cases hx; cases hy; exact VLe.refl _
  | n + 5 => cases hx
/-- A row that tells a block. -/
def BRow (row : List AV) (b : Bl) : Prop := ∃ X, row = blr X b.en b.reg b.tgt b.els ∧ VLe X (vins b.ins)
structure BRows (rows : Blk) (bs : List Bl) : Prop where
  len : rows.length = bs.length
  row : ∀ (i : Nat) (r : List AV) (b : Bl), rows[i]? = some r → bs[i]? = some b → BRow r b
theorem BRows.nil : BRows [] [] := ⟨rfl, fun i r b h => by simp at h⟩
theorem BRows.snoc {rows : Blk} {bs : List Bl} (h : BRows rows bs) {r : List AV} {b : Bl} (hb : BRow r b) : BRows (rows ++ [r]) (bs ++ [b]) := by
  refine ⟨by simp [h.len], fun i r' b' h1 h2 => ?_⟩
  rw [List.getElem?_append] at h1 h2
  rw [← h.len] at h2
  split at h1
  · rename_i hi; rw [if_pos hi] at h2; exact h.row i r' b' h1 h2
  · rename_i hi; rw [if_neg hi] at h2
    have : i - rows.length = 0 := by
      have := (List.getElem?_eq_some_iff.1 h1).1; simp at this; omega
    rw [this] at h1 h2
    simp at h1 h2; subst h1; subst h2; exact hb
theorem BRows.le {rows : Blk} {bs : List Bl} (h : BRows rows bs) : VLe (.ro 5 rows) (bls bs) := by
  refine vle_ro (by simp [h.len]) fun i a b ha hb => ?_
  rw [List.getElem?_map, Option.map_eq_some_iff] at hb
  obtain ⟨b', hb', rfl⟩ := hb
  obtain ⟨X, rfl, hX⟩ := h.row i a b' ha hb'
  exact ⟨rfl, vle_blr hX _ _ _ _⟩
theorem vle_vf {X : AV} {c : VF} (h : VLe X (bls c.blocks)) : VLe (.agg (vfc c X)) (.agg c.cells) := vle_agg rfl fun j x y hx hy => by
  match j with
  | 0 => cases hx; cases hy; exact VLe.refl _
  | 1 => cases hx; cases hy; exact VLe.refl _
  | 2 => cases hx; cases hy; exact h
  | n + 3 => cases hx

/-- A function whose blocks are rows of one's own is given back. -/
theorem ret_vf {G H : Heap} {B : List (Nat × Blk)} {c : VF} {bv : AV} {rows : Blk} (ho : OwnR 5 bv rows) (hr : BRows rows c.blocks) (h : HoldsG G H (ownR bv rows ++ B)) : RetC (Ret (.agg c.cells) G) (.agg (vfc c bv)) H := by
  rcases ho with ⟨rfl, rfl⟩ | ⟨id, rfl⟩
  · exact ret_le (vle_vf ((vle_nil 5).trans hr.le)) (Kept0.of h) ⟨rfl, rfl⟩
  · have hid : H id = some rows := h.get (by simp [ownR])
    refine .frz id rows (fun _ => .agg (vfc c (.ro 5 rows))) hid (fun _ => .inr ?_) (.le (fun _ => .agg c.cells) G (fun _ => vle_vf hr.le) (fun k => ?_) (.here ⟨rfl, rfl⟩))
    · simp [frz, frz0, frz1, vfc]
    · cases e : G k with
      | none => exact .inl rfl
      | some b =>
        have := h.kp k b e
        refine .inr ?_
        rw [Heap.get_ne _ _ _ _ (fun e2 => this.2 (by rw [e2]; simp [ownR]))]
        exact this.1.symm

def z3 : List AV := [.int .i64 0, .int .i64 0, .nilsl]
/-- A block under way at x, the function at c, the result's place at r. -/
def VB (G : Heap) (x c r : Nat) (f : VF) (bv : AV) (rows : Blk) (xr : List AV) (Y : List (Nat × Blk)) (H : Heap) : Prop := HoldsG G H ((x, [xr]) :: (c, [vfc f bv]) :: (r, [z3]) :: (ownR bv rows ++ Y))
section
variable {G H : Heap} {x c r : Nat} {f : VF} {bv : AV} {rows : Blk} {xr : List AV} {Y : List (Nat × Blk)}
theorem VB.hx (h : VB G x c r f bv rows xr Y H) : H x = some [xr] := HoldsG.get h (by simp)
theorem VB.hc (h : VB G x c r f bv rows xr Y H) : H c = some [vfc f bv] := HoldsG.get h (by simp)
theorem VB.hr (h : VB G x c r f bv rows xr Y H) : H r = some [z3] := HoldsG.get h (by simp)
theorem VB.ne (h : VB G x c r f bv rows xr Y H) : x ≠ c ∧ x ≠ r ∧ c ≠ r := by
  have := (HoldsG.to h).1
  simp only [List.map_cons, List.nodup_cons, List.mem_cons, not_or] at this
  exact ⟨this.1.1, this.1.2.1, this.2.1.1⟩
theorem VB.px (h : VB G x c r f bv rows xr Y H) (xr' : List AV) : VB G x c r f bv rows xr' Y (H.set x (some [xr'])) := HoldsG.put (i := 0) (show HoldsG _ _ _ from h) rfl
theorem VB.drop (h : VB G x c r f bv rows xr Y H) : HoldsG G H ((c, [vfc f bv]) :: (r, [z3]) :: (ownR bv rows ++ Y)) := HoldsG.right (a := [(x, [xr])]) (show HoldsG _ _ _ from h)
/-- The block under way is put behind the function's blocks. -/
theorem VB.app {K : AV → Heap → Prop} (h : VB G x c r f bv rows xr Y H) (ho : OwnR 5 bv rows) (hl : rows.length + 1 ≤ 1000)
    (hk : ∀ n H', H' c = some [vfc f bv] → VB G x c r f (.sl 5 n 0 (rows ++ [xr]).length) (rows ++ [xr]) xr Y (H'.set c (some [vfc f (.sl 5 n 0 (rows ++ [xr]).length)])) → K (.sl 5 n 0 (rows ++ [xr]).length) H') : mkW (.app 5 (.c bv) (.c (.ro 5 [xr]))) H K := by
  have h1 : HoldsG G H (ownR bv rows ++ ((x, [xr]) :: (c, [vfc f bv]) :: (r, [z3]) :: Y)) := HoldsG.perm h (perm_of_count fun i _ a => by
    simp only [List.count_append, List.count_cons]; omega)
  refine app_own ho h1 (by simp only [appLim, List.length_singleton]; omega) fun n H' h' => hk n H' (h'.get (by simp)) ?_
  have h2 : HoldsG G H' ((x, [xr]) :: (c, [vfc f bv]) :: (r, [z3]) :: (ownR (.sl 5 n 0 (rows ++ [xr]).length) (rows ++ [xr]) ++ Y)) := h'.perm (perm_of_count fun i _ a => by
    simp only [ownR, List.count_append, List.count_cons, List.count_nil]; omega)
  exact h2.put (i := 1) rfl
end
@[go_sem] theorem spl_z3 (c : VF) (X : AV) : spl z3 0 (vfc c X) = vfc c X := id rfl
@[go_sem] theorem set_vfc1 (c : VF) (X : AV) (n : Int) : (vfc c X).set 1 (.int .i64 n) = vfc { c with regs := n } X := id rfl
@[go_sem] theorem set_vfc2 (c : VF) (X Y : AV) : (vfc c X).set 2 Y = vfc c Y := id rfl

section
variable {G H : Heap} {x c r : Nat} {f : VF} {bv : AV} {rows : Blk} {Y : List (Nat × Blk)} {K1 : Tm → Heap → Prop} {R : AV → Heap → Prop} {l : List Int} {X : AV} {en reg tgt els many : Int} {b : Nat}
theorem vf14 (hE : E.Good) (hF : E.Fits tab) {xr : List AV} (hxr : xr = blr X en reg tgt els) (h : VB G x c r f bv rows xr Y H) (ho : OwnR 5 bv rows) (hl : rows.length + 1 ≤ 1000) (hb0 : b < 10)
    (hk : ∀ n H', HoldsG G H' ((c, [vfc f (.sl 5 n 0 (rows ++ [xr]).length)]) :: (r, [z3]) :: (n, rows ++ [xr]) :: Y) → atW K1 [ints l, .ptr r 0 0, .ptr c 0 0, .int .i64 many, .int .i64 (b + 1)] H') :
    atW (m18_14 E R K1) [ints l, .ptr r 0 0, .ptr c 0 0, .int .i64 many, .int .i64 b, .ptr x 0 0] H := by
  subst hxr
  skip
  refine at_here ?_; unfold m18_14 w18_14; (repeat' (first | ((with_reducible refine cond_mk (fun hb => ?_) (fun hb => ?_)) <;> ((try simp only [if_true, if_false, q_a, q_b, q_c, q_d, q_e, q_f, q_g, q_h, q_i, q_j, q_k, q_l, q_m, q_n, q_o, q_p, q_q, q_r, q_s, reduceCtorEq] at hb); (try (exfalso; first | (exact hb) | contradiction | omega)))) | ((with_reducible refine grp_mk ?_ (fun hb => ?_) (fun _ => ?_)) <;> (try simp only [if_true, if_false, q_a, q_b, q_c, q_d, q_e, q_f, q_g, q_h, q_i, q_j, q_k, q_l, q_m, q_n, q_o, q_p, q_q, q_r, q_s, reduceCtorEq] at hb)) | (with_reducible refine fun (base : Nat) (hbase : Fresh _ base) => ?_) | ((with_reducible refine mk_alloc (fun id hid => ?_)); have hid0 := hid.none; (try have hlt := hid.lt (Heap.set_same _ _ _))) | ((with_reducible refine mk_box ?_ (fun id hid => ?_)); (simp only [go_sem]; done); have hid0 := hid.none; (try have hlt := hid.lt (Heap.set_same _ _ _))) | ((with_reducible refine And.intro ?_ ?_); (first | decide | omega)) | (simp (disch := omega) only [go_sem, Heap.get_ne, wrap64_id, Nat.reduceAdd, Nat.reduceLeDiff, Nat.reduceSub, Nat.reduceMul, Nat.reduceEqDiff, Nat.reduceBEq, Int.reduceLT, Int.reduceLE, Int.reduceEq, Int.reduceNeg, Int.reduceToNat, Int.reduceAdd, Int.reduceSub]) | (with_reducible rfl) | ((with_reducible refine And.intro ?_ ?_) <;> (with_reducible rfl))))
  repeat' (first | ((with_reducible refine cond_mk (fun hb => ?_) (fun hb => ?_)) <;> ((try simp only [if_true, if_false, q_a, q_b, q_c, q_d, q_e, q_f, q_g, q_h, q_i, q_j, q_k, q_l, q_m, q_n, q_o, q_p, q_q, q_r, q_s, reduceCtorEq] at hb); (try (exfalso; first | (exact hb) | contradiction | omega)))) | ((with_reducible refine grp_mk ?_ (fun hb => ?_) (fun _ => ?_)) <;> (try simp only [if_true, if_false, q_a, q_b, q_c, q_d, q_e, q_f, q_g, q_h, q_i, q_j, q_k, q_l, q_m, q_n, q_o, q_p, q_q, q_r, q_s, reduceCtorEq] at hb)) | (with_reducible refine fun (base : Nat) (hbase : Fresh _ base) => ?_) | ((with_reducible refine mk_alloc (fun id hid => ?_)); have hid0 := hid.none; (try have hlt := hid.lt (Heap.set_same _ _ _))) | ((with_reducible refine mk_box ?_ (fun id hid => ?_)); (simp only [go_sem]; done); have hid0 := hid.none; (try have hlt := hid.lt (Heap.set_same _ _ _))) | ((with_reducible refine And.intro ?_ ?_); (first | decide | omega)) | ((with_reducible refine at_here (P := m18_1 _ _ _) ?_); unfold m18_1 w18_1) | ((with_reducible refine at_here (P := m18_5 _ _ _) ?_); unfold m18_5 w18_5) | ((with_reducible refine at_here (P := m18_4 _ _ _) ?_); unfold m18_4 w18_4) | ((with_reducible refine at_here (P := m18_10 _ _ _ _) ?_); unfold m18_10 w18_10) | ((with_reducible refine at_here (P := m18_14 _ _ _) ?_); unfold m18_14 w18_14) | ((with_reducible refine at_here (P := m18_13 _ _ _) ?_); unfold m18_13 w18_13) | ((with_reducible refine at_here (P := m18_12 _ _ _) ?_); unfold m18_12 w18_12) | ((with_reducible refine at_here (P := m18_11 _ _ _) ?_); unfold m18_11 w18_11) | ((with_reducible refine at_here (P := m18_8 _ _ _) ?_); unfold m18_8 w18_8) | ((with_reducible refine at_here (P := m18_6 _ _) ?_); unfold m18_6 w18_6) | ((with_reducible refine at_here (P := m18_2 _ _) ?_); unfold m18_2 w18_2) | (simp (disch := omega) only [go_sem, Heap.get_ne, wrap64_id, Nat.reduceAdd, Nat.reduceLeDiff, Nat.reduceSub, Nat.reduceMul, Nat.reduceEqDiff, Nat.reduceBEq, Int.reduceLT, Int.reduceLE, Int.reduceEq, Int.reduceNeg, Int.reduceToNat, Int.reduceAdd, Int.reduceSub, h.hx, h.hc, h.hr]) | (with_reducible rfl) | ((with_reducible refine And.intro ?_ ?_) <;> (with_reducible rfl)))
  refine h.app ho hl (fun n H' hc' h' => ?_)
  repeat' (first | ((with_reducible refine cond_mk (fun hb => ?_) (fun hb => ?_)) <;> ((try simp only [if_true, if_false, q_a, q_b, q_c, q_d, q_e, q_f, q_g, q_h, q_i, q_j, q_k, q_l, q_m, q_n, q_o, q_p, q_q, q_r, q_s, reduceCtorEq] at hb); (try (exfalso; first | (exact hb) | contradiction | omega)))) | ((with_reducible refine grp_mk ?_ (fun hb => ?_) (fun _ => ?_)) <;> (try simp only [if_true, if_false, q_a, q_b, q_c, q_d, q_e, q_f, q_g, q_h, q_i, q_j, q_k, q_l, q_m, q_n, q_o, q_p, q_q, q_r, q_s, reduceCtorEq] at hb)) | (with_reducible refine fun (base : Nat) (hbase : Fresh _ base) => ?_) | ((with_reducible refine mk_alloc (fun id hid => ?_)); have hid0 := hid.none; (try have hlt := hid.lt (Heap.set_same _ _ _))) | ((with_reducible refine mk_box ?_ (fun id hid => ?_)); (simp only [go_sem]; done); have hid0 := hid.none; (try have hlt := hid.lt (Heap.set_same _ _ _))) | ((with_reducible refine And.intro ?_ ?_); (first | decide | omega)) | ((with_reducible refine at_here (P := m18_1 _ _ _) ?_); unfold m18_1 w18_1) | ((with_reducible refine at_here (P := m18_5 _ _ _) ?_); unfold m18_5 w18_5) | ((with_reducible refine at_here (P := m18_4 _ _ _) ?_); unfold m18_4 w18_4) | ((with_reducible refine at_here (P := m18_10 _ _ _ _) ?_); unfold m18_10 w18_10) | ((with_reducible refine at_here (P := m18_14 _ _ _) ?_); unfold m18_14 w18_14) | ((with_reducible refine at_here (P := m18_13 _ _ _) ?_); unfold m18_13 w18_13) | ((with_reducible refine at_here (P := m18_12 _ _ _) ?_); unfold m18_12 w18_12) | ((with_reducible refine at_here (P := m18_11 _ _ _) ?_); unfold m18_11 w18_11) | ((with_reducible refine at_here (P := m18_8 _ _ _) ?_); unfold m18_8 w18_8) | ((with_reducible refine at_here (P := m18_6 _ _) ?_); unfold m18_6 w18_6) | ((with_reducible refine at_here (P := m18_2 _ _) ?_); unfold m18_2 w18_2) | (simp (disch := omega) only [go_sem, Heap.get_ne, wrap64_id, Nat.reduceAdd, Nat.reduceLeDiff, Nat.reduceSub, Nat.reduceMul, Nat.reduceEqDiff, Nat.reduceBEq, Int.reduceLT, Int.reduceLE, Int.reduceEq, Int.reduceNeg, Int.reduceToNat, Int.reduceAdd, Int.reduceSub, hc']) | (with_reducible rfl) | ((with_reducible refine And.intro ?_ ?_) <;> (with_reducible rfl)))
  exact hk n _ h'.drop
/-- The last block does not jump. -/
def fixB (last : Bool) (X : AV) (en reg tgt els : Int) : List AV := if last = true ∧ en = 1 then blr X 3 0 0 els else blr X en reg tgt els
theorem vf13 (hE : E.Good) (hF : E.Fits tab) (h : VB G x c r f bv rows (blr X en reg tgt els) Y H) (ho : OwnR 5 bv rows) (hl : rows.length + 1 ≤ 1000) (hb0 : b < 10) (hmany : 1 ≤ many ∧ many ≤ 6)
    (hk : ∀ n H', HoldsG G H' ((c, [vfc f (.sl 5 n 0 (rows ++ [fixB (decide ((b : Int) + 1 = many)) X en reg tgt els]).length)]) :: (r, [z3]) :: (n, rows ++ [fixB (decide ((b : Int) + 1 = many)) X en reg tgt els]) :: Y) → atW K1 [ints l, .ptr r 0 0, .ptr c 0 0, .int .i64 many, .int .i64 (b + 1)] H') :
    atW (m18_13 E R K1) [ints l, .ptr r 0 0, .ptr c 0 0, .int .i64 many, .int .i64 b, .ptr x 0 0] H := by
  skip
  refine at_here ?_; unfold m18_13 w18_13; (repeat' (first | ((with_reducible refine cond_mk (fun hb => ?_) (fun hb => ?_)) <;> ((try simp only [if_true, if_false, q_a, q_b, q_c, q_d, q_e, q_f, q_g, q_h, q_i, q_j, q_k, q_l, q_m, q_n, q_o, q_p, q_q, q_r, q_s, reduceCtorEq] at hb); (try (exfalso; first | (exact hb) | contradiction | omega)))) | ((with_reducible refine grp_mk ?_ (fun hb => ?_) (fun _ => ?_)) <;> (try simp only [if_true, if_false, q_a, q_b, q_c, q_d, q_e, q_f, q_g, q_h, q_i, q_j, q_k, q_l, q_m, q_n, q_o, q_p, q_q, q_r, q_s, reduceCtorEq] at hb)) | (with_reducible refine fun (base : Nat) (hbase : Fresh _ base) => ?_) | ((with_reducible refine mk_alloc (fun id hid => ?_)); have hid0 := hid.none; (try have hlt := hid.lt (Heap.set_same _ _ _))) | ((with_reducible refine mk_box ?_ (fun id hid => ?_)); (simp only [go_sem]; done); have hid0 := hid.none; (try have hlt := hid.lt (Heap.set_same _ _ _))) | ((with_reducible refine And.intro ?_ ?_); (first | decide | omega)) | (simp (disch := omega) only [go_sem, Heap.get_ne, wrap64_id, Nat.reduceAdd, Nat.reduceLeDiff, Nat.reduceSub, Nat.reduceMul, Nat.reduceEqDiff, Nat.reduceBEq, Int.reduceLT, Int.reduceLE, Int.reduceEq, Int.reduceNeg, Int.reduceToNat, Int.reduceAdd, Int.reduceSub]) | (with_reducible rfl) | ((with_reducible refine And.intro ?_ ?_) <;> (with_reducible rfl))))
  repeat' (first | ((with_reducible refine cond_mk (fun hb => ?_) (fun hb => ?_)) <;> ((try simp only [if_true, if_false, q_a, q_b, q_c, q_d, q_e, q_f, q_g, q_h, q_i, q_j, q_k, q_l, q_m, q_n, q_o, q_p, q_q, q_r, q_s, reduceCtorEq] at hb); (try (exfalso; first | (exact hb) | contradiction | omega)))) | ((with_reducible refine grp_mk ?_ (fun hb => ?_) (fun _ => ?_)) <;> (try simp only [if_true, if_false, q_a, q_b, q_c, q_d, q_e, q_f, q_g, q_h, q_i, q_j, q_k, q_l, q_m, q_n, q_o, q_p, q_q, q_r, q_s, reduceCtorEq] at hb)) | (with_reducible refine fun (base : Nat) (hbase : Fresh _ base) => ?_) | ((with_reducible refine mk_alloc (fun id hid => ?_)); have hid0 := hid.none; (try have hlt := hid.lt (Heap.set_same _ _ _))) | ((with_reducible refine mk_box ?_ (fun id hid => ?_)); (simp only [go_sem]; done); have hid0 := hid.none; (try have hlt := hid.lt (Heap.set_same _ _ _))) | ((with_reducible refine And.intro ?_ ?_); (first | decide | omega)) | ((with_reducible refine at_here (P := m18_1 _ _ _) ?_); unfold m18_1 w18_1) | ((with_reducible refine at_here (P := m18_5 _ _ _) ?_); unfold m18_5 w18_5) | ((with_reducible refine at_here (P := m18_4 _ _ _) ?_); unfold m18_4 w18_4) | ((with_reducible refine at_here (P := m18_10 _ _ _ _) ?_); unfold m18_10 w18_10) | ((with_reducible refine at_here (P := m18_13 _ _ _) ?_); unfold m18_13 w18_13) | ((with_reducible refine at_here (P := m18_12 _ _ _) ?_); unfold m18_12 w18_12) | ((with_reducible refine at_here (P := m18_11 _ _ _) ?_); unfold m18_11 w18_11) | ((with_reducible refine at_here (P := m18_8 _ _ _) ?_); unfold m18_8 w18_8) | ((with_reducible refine at_here (P := m18_6 _ _) ?_); unfold m18_6 w18_6) | ((with_reducible refine at_here (P := m18_2 _ _) ?_); unfold m18_2 w18_2) | (simp (disch := omega) only [go_sem, Heap.get_ne, wrap64_id, Nat.reduceAdd, Nat.reduceLeDiff, Nat.reduceSub, Nat.reduceMul, Nat.reduceEqDiff, Nat.reduceBEq, Int.reduceLT, Int.reduceLE, Int.reduceEq, Int.reduceNeg, Int.reduceToNat, Int.reduceAdd, Int.reduceSub, h.hx, h.hc, h.hr]) | (with_reducible rfl) | ((with_reducible refine And.intro ?_ ?_) <;> (with_reducible rfl)))
  · have e : fixB (decide ((b : Int) + 1 = many)) X en reg tgt els = blr X 3 0 0 els := by
      unfold fixB; rw [if_pos ⟨by simp; omega, by simpa using hb.2⟩]
    rw [e] at hk
    exact vf14 hE hF rfl (h.px _) ho hl hb0 hk
  · have e : fixB (decide ((b : Int) + 1 = many)) X en reg tgt els = blr X en reg tgt els := by
      unfold fixB; rw [if_neg]
      rintro ⟨h1, h2⟩
      simp only [decide_eq_true_eq] at h1
      subst h2
      rcases hb with hb | hb
      · omega
      · simp at hb
    rw [e] at hk
    exact vf14 hE hF rfl h ho hl hb0 hk

theorem VB.next {d : Nat} {N : Int} {xr : List AV} (hE : E.Good) (hF : E.Fits tab) (h : VB G x c r f bv rows xr ((d, [[.int .i64 N]]) :: Y) H) {m : Int} (hm : 0 < m) (hm2 : m < 1000000000) :
    ACall E 47 [.ptr d 0 0, .int .i64 m] H (fun v H' => v = .int .i64 (N % m) ∧ VB G x c r f bv rows xr ((d, [[.int .i64 (nxt N m)]]) :: Y) H') := by
  have h1 : HoldsG G H ((d, [[.int .i64 N]]) :: (x, [xr]) :: (c, [vfc f bv]) :: (r, [z3]) :: (ownR bv rows ++ Y)) := HoldsG.perm h (perm_of_count fun i _ a => by
    simp only [List.count_append, List.count_cons]; omega)
  refine ACall.mono (next_spec hE hF (n := N) (h1.get (by simp)) hm hm2) ?_
  rintro _ _ ⟨rfl, rfl⟩
  exact ⟨rfl, h1.set.perm (perm_of_count fun i _ a => by simp only [List.count_append, List.count_cons]; omega)⟩
theorem VB.new {d : Nat} {bb : Blk} {xr : List AV} (h : VB G x c r f bv rows xr Y H) (hd : Fresh H d) : VB G x c r f bv rows xr ((d, bb) :: Y) (H.set d (some bb)) :=
  (HoldsG.new h hd).perm (perm_of_count fun i _ a => by simp only [List.count_append, List.count_cons]; omega)

set_option maxHeartbeats 4000000 in
theorem vf12 (hE : E.Good) (hF : E.Fits tab) {N : Int} (h : VB G x c r f bv rows (blr X 0 0 0 0) Y H) (ho : OwnR 5 bv rows) (hl : rows.length + 1 ≤ 1000) (hb0 : b < 10) (hmany : 1 ≤ many ∧ many ≤ 6) (hreg : 1 ≤ f.regs ∧ f.regs ≤ 3000) {ins : List VI} (hX : VLe X (vins ins))
    (hk : ∀ n H' row d, BRow row (endF f.regs many N (decide ((b : Int) + 1 = many)) ins) → HoldsG G H' ((c, [vfc f (.sl 5 n 0 (rows ++ [row]).length)]) :: (r, [z3]) :: (n, rows ++ [row]) :: d :: Y) → atW K1 [ints l, .ptr r 0 0, .ptr c 0 0, .int .i64 many, .int .i64 (b + 1)] H') :
    atW (m18_12 E R K1) [ints l, .ptr r 0 0, .ptr c 0 0, .int .i64 many, .int .i64 b, .ptr x 0 0, .int .i64 N] H := by
  have hn : ∀ M m : Int, 0 < m → 0 ≤ M % m ∧ M % m < m := fun M m hm => ⟨Int.emod_nonneg _ (by omega), Int.emod_lt_of_pos _ hm⟩
  have g1 := hn (nxt N 6) many (by omega)
  have g2 := hn (nxt N 6) 9 (by omega)
  have g3 := hn (nxt (nxt N 6) f.regs) many (by omega)
  have g4 := hn (nxt (nxt (nxt N 6) f.regs) many) many (by omega)
  skip
  refine at_here ?_; unfold m18_12 w18_12; (repeat' (first | ((with_reducible refine cond_mk (fun hb => ?_) (fun hb => ?_)) <;> ((try simp only [if_true, if_false, q_a, q_b, q_c, q_d, q_e, q_f, q_g, q_h, q_i, q_j, q_k, q_l, q_m, q_n, q_o, q_p, q_q, q_r, q_s, reduceCtorEq] at hb); (try (exfalso; first | (exact hb) | contradiction | omega)))) | ((with_reducible refine grp_mk ?_ (fun hb => ?_) (fun _ => ?_)) <;> (try simp only [if_true, if_false, q_a, q_b, q_c, q_d, q_e, q_f, q_g, q_h, q_i, q_j, q_k, q_l, q_m, q_n, q_o, q_p, q_q, q_r, q_s, reduceCtorEq] at hb)) | (with_reducible refine fun (base : Nat) (hbase : Fresh _ base) => ?_) | ((with_reducible refine mk_alloc (fun id hid => ?_)); have hid0 := hid.none; (try have hlt := hid.lt (Heap.set_same _ _ _))) | ((with_reducible refine mk_box ?_ (fun id hid => ?_)); (simp only [go_sem]; done); have hid0 := hid.none; (try have hlt := hid.lt (Heap.set_same _ _ _))) | ((with_reducible refine And.intro ?_ ?_); (first | decide | omega)) | (simp (disch := omega) only [go_sem, Heap.get_ne, wrap64_id, Nat.reduceAdd, Nat.reduceLeDiff, Nat.reduceSub, Nat.reduceMul, Nat.reduceEqDiff, Nat.reduceBEq, Int.reduceLT, Int.reduceLE, Int.reduceEq, Int.reduceNeg, Int.reduceToNat, Int.reduceAdd, Int.reduceSub]) | (with_reducible rfl) | ((with_reducible refine And.intro ?_ ?_) <;> (with_reducible rfl))))
  refine mk_box rfl fun d hd => ?_
  have h1 := h.new (bb := [[.int .i64 N]]) hd
  repeat' (first | ((with_reducible refine cond_mk (fun hb => ?_) (fun hb => ?_)) <;> ((try simp only [if_true, if_false, q_a, q_b, q_c, q_d, q_e, q_f, q_g, q_h, q_i, q_j, q_k, q_l, q_m, q_n, q_o, q_p, q_q, q_r, q_s, reduceCtorEq] at hb); (try (exfalso; first | (exact hb) | contradiction | omega)))) | ((with_reducible refine grp_mk ?_ (fun hb => ?_) (fun _ => ?_)) <;> (try simp only [if_true, if_false, q_a, q_b, q_c, q_d, q_e, q_f, q_g, q_h, q_i, q_j, q_k, q_l, q_m, q_n, q_o, q_p, q_q, q_r, q_s, reduceCtorEq] at hb)) | ((with_reducible refine call_any (h1.next hE hF (by omega) (by omega)) ?_); rintro _ _ hsm ⟨rfl, h1⟩) | (with_reducible refine fun (base : Nat) (hbase : Fresh _ base) => ?_) | ((with_reducible refine mk_alloc (fun id hid => ?_)); have hid0 := hid.none; (try have hlt := hid.lt (Heap.set_same _ _ _))) | ((with_reducible refine mk_box ?_ (fun id hid => ?_)); (simp only [go_sem]; done); have hid0 := hid.none; (try have hlt := hid.lt (Heap.set_same _ _ _))) | ((with_reducible refine And.intro ?_ ?_); (first | decide | omega)) | ((with_reducible refine at_here (P := m18_1 _ _ _) ?_); unfold m18_1 w18_1) | ((with_reducible refine at_here (P := m18_5 _ _ _) ?_); unfold m18_5 w18_5) | ((with_reducible refine at_here (P := m18_4 _ _ _) ?_); unfold m18_4 w18_4) | ((with_reducible refine at_here (P := m18_10 _ _ _ _) ?_); unfold m18_10 w18_10) | ((with_reducible refine at_here (P := m18_14 _ _ _) ?_); unfold m18_14 w18_14) | ((with_reducible refine at_here (P := m18_12 _ _ _) ?_); unfold m18_12 w18_12) | ((with_reducible refine at_here (P := m18_11 _ _ _) ?_); unfold m18_11 w18_11) | ((with_reducible refine at_here (P := m18_8 _ _ _) ?_); unfold m18_8 w18_8) | ((with_reducible refine at_here (P := m18_6 _ _) ?_); unfold m18_6 w18_6) | ((with_reducible refine at_here (P := m18_2 _ _) ?_); unfold m18_2 w18_2) | (simp (disch := omega) only [go_sem, Heap.get_ne, wrap64_id, Nat.reduceAdd, Nat.reduceLeDiff, Nat.reduceSub, Nat.reduceMul, Nat.reduceEqDiff, Nat.reduceBEq, Int.reduceLT, Int.reduceLE, Int.reduceEq, Int.reduceNeg, Int.reduceToNat, Int.reduceAdd, Int.reduceSub, h1.hx, h1.hc, h1.hr]) | (with_reducible rfl) | ((with_reducible refine And.intro ?_ ?_) <;> (with_reducible rfl)))
  all_goals
    refine vf13 hE hF (h1.px _) ho hl hb0 hmany fun n H' h' => hk n H' _ _ ⟨X, ?_, ?_⟩ h'
  all_goals (unfold endF; try unfold fixB)
  · rw [if_pos hb]
    split
    · rename_i h; rw [if_pos h.1]
    · rename_i h; rw [if_neg (fun e => h ⟨e, rfl⟩)]
  · rw [if_pos hb]
    split <;> exact hX
  · rw [if_neg (fun e => absurd e.2 (by decide)), if_neg (by assumption), if_pos hb]
  · rw [if_neg (by assumption), if_pos hb]; exact hX
  · rw [if_neg (fun e => absurd e.2 (by decide)), if_neg (by assumption), if_neg (by assumption), if_pos hb]
  · rw [if_neg (by assumption), if_neg (by assumption), if_pos hb]; exact hX
  · rw [if_neg (fun e => absurd e.2 (by decide)), if_neg (by assumption), if_neg (by assumption), if_neg (by assumption)]
  · rw [if_neg (by assumption), if_neg (by assumption), if_neg (by assumption)]; exact hX

/-- The instructions so far. -/
def irows (regs : Int) (l : List Int) (b k : Nat) : Blk := ((l.drop (6 * b)).take k).map fun n => (viF n ⟨0, regs, []⟩).cells
theorem irows_succ (regs : Int) (l : List Int) (b k : Nat) (h : 6 * b + k < l.length) : irows regs l b (k + 1) = irows regs l b k ++ [(viF (l.getD (6 * b + k) 0) ⟨0, regs, []⟩).cells] := by
  unfold irows
  rw [List.take_add_one, List.map_append, List.getElem?_drop, List.getElem?_eq_getElem h]
  simp [List.getD, List.getElem?_eq_getElem h]
theorem irows_len (regs : Int) (l : List Int) (b k : Nat) : (irows regs l b k).length ≤ k := by unfold irows; simp; omega

set_option maxHeartbeats 4000000 in
theorem vf8 (hE : E.Good) (hF : E.Fits tab) (h : HoldsG G H ((c, [vfc f bv]) :: (r, [z3]) :: (ownR bv rows ++ Y))) (ho : OwnR 5 bv rows) (hl : rows.length + 1 ≤ 1000) (hll : l.length < 9223372036854775808) (hb0 : b < 10) (hmany : 1 ≤ many ∧ many ≤ 6) (hreg : 1 ≤ f.regs ∧ f.regs ≤ 3000)
    (hk : ∀ n H' row Y', BRow row (endF f.regs many (l.getD (6 * b + 5) 0) (decide ((b : Int) + 1 = many)) (insF f.regs l b)) → HoldsG G H' ((c, [vfc f (.sl 5 n 0 (rows ++ [row]).length)]) :: (r, [z3]) :: (n, rows ++ [row]) :: Y') → atW K1 [ints l, .ptr r 0 0, .ptr c 0 0, .int .i64 many, .int .i64 (b + 1)] H') :
    atW (m18_8 E R K1) [ints l, .ptr r 0 0, .ptr c 0 0, .int .i64 many, .int .i64 b] H := by
  skip
  refine at_here ?_; unfold m18_8 w18_8; (repeat' (first | ((with_reducible refine cond_mk (fun hb => ?_) (fun hb => ?_)) <;> ((try simp only [if_true, if_false, q_a, q_b, q_c, q_d, q_e, q_f, q_g, q_h, q_i, q_j, q_k, q_l, q_m, q_n, q_o, q_p, q_q, q_r, q_s, reduceCtorEq] at hb); (try (exfalso; first | (exact hb) | contradiction | omega)))) | ((with_reducible refine grp_mk ?_ (fun hb => ?_) (fun _ => ?_)) <;> (try simp only [if_true, if_false, q_a, q_b, q_c, q_d, q_e, q_f, q_g, q_h, q_i, q_j, q_k, q_l, q_m, q_n, q_o, q_p, q_q, q_r, q_s, reduceCtorEq] at hb)) | (with_reducible refine fun (base : Nat) (hbase : Fresh _ base) => ?_) | ((with_reducible refine mk_alloc (fun id hid => ?_)); have hid0 := hid.none; (try have hlt := hid.lt (Heap.set_same _ _ _))) | ((with_reducible refine mk_box ?_ (fun id hid => ?_)); (simp only [go_sem]; done); have hid0 := hid.none; (try have hlt := hid.lt (Heap.set_same _ _ _))) | ((with_reducible refine And.intro ?_ ?_); (first | decide | omega)) | (simp (disch := omega) only [go_sem, Heap.get_ne, wrap64_id, Nat.reduceAdd, Nat.reduceLeDiff, Nat.reduceSub, Nat.reduceMul, Nat.reduceEqDiff, Nat.reduceBEq, Int.reduceLT, Int.reduceLE, Int.reduceEq, Int.reduceNeg, Int.reduceToNat, Int.reduceAdd, Int.reduceSub]) | (with_reducible rfl) | ((with_reducible refine And.intro ?_ ?_) <;> (with_reducible rfl))))
  have h0 : VB G id c r f bv rows (blr .nilsl 0 0 0 0) (Y ++ []) (H.set id (some [blr .nilsl 0 0 0 0])) := by
    rw [List.append_nil]; exact HoldsG.new h hid
  clear hid0 hid
  refine loop_mk (σ := Nat) (fun k => [ints l, .ptr r 0 0, .ptr c 0 0, .int .i64 many, .int .i64 b, .ptr id 0 0, .int .i64 k])
    (fun k H' => k ≤ 5 ∧ (k = 0 ∨ 6 * b + k ≤ l.length) ∧ ∃ iv, OwnR 6 iv (irows f.regs l b k) ∧ VB G id c r f bv rows (blr iv 0 0 0 0) (Y ++ ownR iv (irows f.regs l b k)) H') (fun k => 5 - k)
    0 rfl ⟨by omega, .inl rfl, .nilsl, .inl ⟨rfl, rfl⟩, h0⟩ ?_
  rintro k H K ⟨hk5, hk6, iv, hiv, hv⟩ hK
  unfold l18_9 w18_9; simp only [go_sem]
  repeat' (first | ((with_reducible refine cond_mk (fun hb => ?_) (fun hb => ?_)) <;> ((try simp only [if_true, if_false, q_a, q_b, q_c, q_d, q_e, q_f, q_g, q_h, q_i, q_j, q_k, q_l, q_m, q_n, q_o, q_p, q_q, q_r, q_s, reduceCtorEq] at hb); (try (exfalso; first | (exact hb) | contradiction | omega)))) | ((with_reducible refine grp_mk ?_ (fun hb => ?_) (fun _ => ?_)) <;> (try simp only [if_true, if_false, q_a, q_b, q_c, q_d, q_e, q_f, q_g, q_h, q_i, q_j, q_k, q_l, q_m, q_n, q_o, q_p, q_q, q_r, q_s, reduceCtorEq] at hb)) | (with_reducible refine fun (base : Nat) (hbase : Fresh _ base) => ?_) | ((with_reducible refine mk_alloc (fun id hid => ?_)); have hid0 := hid.none; (try have hlt := hid.lt (Heap.set_same _ _ _))) | ((with_reducible refine mk_box ?_ (fun id hid => ?_)); (simp only [go_sem]; done); have hid0 := hid.none; (try have hlt := hid.lt (Heap.set_same _ _ _))) | ((with_reducible refine And.intro ?_ ?_); (first | decide | omega)) | ((with_reducible refine at_here (P := m18_1 _ _ _) ?_); unfold m18_1 w18_1) | ((with_reducible refine at_here (P := m18_5 _ _ _) ?_); unfold m18_5 w18_5) | ((with_reducible refine at_here (P := m18_4 _ _ _) ?_); unfold m18_4 w18_4) | ((with_reducible refine at_here (P := m18_14 _ _ _) ?_); unfold m18_14 w18_14) | ((with_reducible refine at_here (P := m18_13 _ _ _) ?_); unfold m18_13 w18_13) | ((with_reducible refine at_here (P := m18_12 _ _ _) ?_); unfold m18_12 w18_12) | ((with_reducible refine at_here (P := m18_8 _ _ _) ?_); unfold m18_8 w18_8) | ((with_reducible refine at_here (P := m18_6 _ _) ?_); unfold m18_6 w18_6) | ((with_reducible refine at_here (P := m18_2 _ _) ?_); unfold m18_2 w18_2) | (simp (disch := omega) only [go_sem, Heap.get_ne, wrap64_id, Nat.reduceAdd, Nat.reduceLeDiff, Nat.reduceSub, Nat.reduceMul, Nat.reduceEqDiff, Nat.reduceBEq, Int.reduceLT, Int.reduceLE, Int.reduceEq, Int.reduceNeg, Int.reduceToNat, Int.reduceAdd, Int.reduceSub, hv.hx, hv.hc, hv.hr]) | (with_reducible rfl) | ((with_reducible refine And.intro ?_ ?_) <;> (with_reducible rfl)))
  · refine at_here ?_
    unfold m18_10 w18_10
    have hkl : 6 * b + k < l.length := by omega
    have hn5 : ((6 * (b : Int) + k).toNat) = 6 * b + k := by omega
    repeat' (first | ((with_reducible refine cond_mk (fun hb => ?_) (fun hb => ?_)) <;> ((try simp only [if_true, if_false, q_a, q_b, q_c, q_d, q_e, q_f, q_g, q_h, q_i, q_j, q_k, q_l, q_m, q_n, q_o, q_p, q_q, q_r, q_s, reduceCtorEq] at hb); (try (exfalso; first | (exact hb) | contradiction | omega)))) | ((with_reducible refine grp_mk ?_ (fun hb => ?_) (fun _ => ?_)) <;> (try simp only [if_true, if_false, q_a, q_b, q_c, q_d, q_e, q_f, q_g, q_h, q_i, q_j, q_k, q_l, q_m, q_n, q_o, q_p, q_q, q_r, q_s, reduceCtorEq] at hb)) | ((with_reducible refine call_pure (vinstr_spec hE hF _ f bv hreg) ?_); intro _) | ((with_reducible refine pc_pure (vinstr_spec hE hF _ f bv hreg) ?_)) | ((with_reducible refine dcall_pure0 (vinstr_spec hE hF _ f bv hreg) ?_)) | (with_reducible refine fun (base : Nat) (hbase : Fresh _ base) => ?_) | ((with_reducible refine mk_alloc (fun id hid => ?_)); have hid0 := hid.none; (try have hlt := hid.lt (Heap.set_same _ _ _))) | ((with_reducible refine mk_box ?_ (fun id hid => ?_)); (simp only [go_sem]; done); have hid0 := hid.none; (try have hlt := hid.lt (Heap.set_same _ _ _))) | ((with_reducible refine And.intro ?_ ?_); (first | decide | omega)) | ((with_reducible refine at_here (P := m18_1 _ _ _) ?_); unfold m18_1 w18_1) | ((with_reducible refine at_here (P := m18_5 _ _ _) ?_); unfold m18_5 w18_5) | ((with_reducible refine at_here (P := m18_4 _ _ _) ?_); unfold m18_4 w18_4) | ((with_reducible refine at_here (P := m18_10 _ _ _ _) ?_); unfold m18_10 w18_10) | ((with_reducible refine at_here (P := m18_14 _ _ _) ?_); unfold m18_14 w18_14) | ((with_reducible refine at_here (P := m18_13 _ _ _) ?_); unfold m18_13 w18_13) | ((with_reducible refine at_here (P := m18_12 _ _ _) ?_); unfold m18_12 w18_12) | ((with_reducible refine at_here (P := m18_11 _ _ _) ?_); unfold m18_11 w18_11) | ((with_reducible refine at_here (P := m18_8 _ _ _) ?_); unfold m18_8 w18_8) | ((with_reducible refine at_here (P := m18_6 _ _) ?_); unfold m18_6 w18_6) | ((with_reducible refine at_here (P := m18_2 _ _) ?_); unfold m18_2 w18_2) | (simp (disch := omega) only [go_sem, Heap.get_ne, wrap64_id, Nat.reduceAdd, Nat.reduceLeDiff, Nat.reduceSub, Nat.reduceMul, Nat.reduceEqDiff, Nat.reduceBEq, Int.reduceLT, Int.reduceLE, Int.reduceEq, Int.reduceNeg, Int.reduceToNat, Int.reduceAdd, Int.reduceSub, hv.hx, hv.hc, hv.hr, hn5]) | (with_reducible rfl) | ((with_reducible refine And.intro ?_ ?_) <;> (with_reducible rfl)))
    have hv2 : HoldsG G H (ownR iv (irows f.regs l b k) ++ ((id, [blr iv 0 0 0 0]) :: (c, [vfc f bv]) :: (r, [z3]) :: (ownR bv rows ++ Y))) := HoldsG.perm hv (perm_of_count fun i _ a => by simp only [List.count_append, List.count_cons]; omega)
    refine bsl_app_own ⟨rfl, rfl⟩ hiv hv2 (by have := irows_len f.regs l b k; simp only [appLim]; omega) fun n H' h' => ?_
    have hx' : H' id = some [blr iv 0 0 0 0] := h'.get (by simp)
    repeat' (first | ((with_reducible refine cond_mk (fun hb => ?_) (fun hb => ?_)) <;> ((try simp only [if_true, if_false, q_a, q_b, q_c, q_d, q_e, q_f, q_g, q_h, q_i, q_j, q_k, q_l, q_m, q_n, q_o, q_p, q_q, q_r, q_s, reduceCtorEq] at hb); (try (exfalso; first | (exact hb) | contradiction | omega)))) | ((with_reducible refine grp_mk ?_ (fun hb => ?_) (fun _ => ?_)) <;> (try simp only [if_true, if_false, q_a, q_b, q_c, q_d, q_e, q_f, q_g, q_h, q_i, q_j, q_k, q_l, q_m, q_n, q_o, q_p, q_q, q_r, q_s, reduceCtorEq] at hb)) | (with_reducible refine fun (base : Nat) (hbase : Fresh _ base) => ?_) | ((with_reducible refine mk_alloc (fun id hid => ?_)); have hid0 := hid.none; (try have hlt := hid.lt (Heap.set_same _ _ _))) | ((with_reducible refine mk_box ?_ (fun id hid => ?_)); (simp only [go_sem]; done); have hid0 := hid.none; (try have hlt := hid.lt (Heap.set_same _ _ _))) | ((with_reducible refine And.intro ?_ ?_); (first | decide | omega)) | ((with_reducible refine at_here (P := m18_1 _ _ _) ?_); unfold m18_1 w18_1) | ((with_reducible refine at_here (P := m18_5 _ _ _) ?_); unfold m18_5 w18_5) | ((with_reducible refine at_here (P := m18_4 _ _ _) ?_); unfold m18_4 w18_4) | ((with_reducible refine at_here (P := m18_10 _ _ _ _) ?_); unfold m18_10 w18_10) | ((with_reducible refine at_here (P := m18_14 _ _ _) ?_); unfold m18_14 w18_14) | ((with_reducible refine at_here (P := m18_13 _ _ _) ?_); unfold m18_13 w18_13) | ((with_reducible refine at_here (P := m18_12 _ _ _) ?_); unfold m18_12 w18_12) | ((with_reducible refine at_here (P := m18_11 _ _ _) ?_); unfold m18_11 w18_11) | ((with_reducible refine at_here (P := m18_8 _ _ _) ?_); unfold m18_8 w18_8) | ((with_reducible refine at_here (P := m18_6 _ _) ?_); unfold m18_6 w18_6) | ((with_reducible refine at_here (P := m18_2 _ _) ?_); unfold m18_2 w18_2) | (simp (disch := omega) only [go_sem, Heap.get_ne, wrap64_id, Nat.reduceAdd, Nat.reduceLeDiff, Nat.reduceSub, Nat.reduceMul, Nat.reduceEqDiff, Nat.reduceBEq, Int.reduceLT, Int.reduceLE, Int.reduceEq, Int.reduceNeg, Int.reduceToNat, Int.reduceAdd, Int.reduceSub, hx']) | (with_reducible rfl) | ((with_reducible refine And.intro ?_ ?_) <;> (with_reducible rfl)))
    have h' : HoldsG G H' ((n, irows f.regs l b k ++ [(viF (l.getD (6 * b + k) 0) f).cells]) :: ((id, [blr iv 0 0 0 0]) :: (c, [vfc f bv]) :: (r, [z3]) :: (ownR bv rows ++ Y))) := h'
    have h3 : HoldsG G H' ((id, [blr iv 0 0 0 0]) :: ((n, irows f.regs l b k ++ [(viF (l.getD (6 * b + k) 0) f).cells]) :: (c, [vfc f bv]) :: (r, [z3]) :: (ownR bv rows ++ Y))) := h'.perm (perm_of_count fun i _ a => by simp only [List.count_append, List.count_cons]; omega)
    have h4 := h3.set (b' := [blr (.sl 6 n 0 (irows f.regs l b k ++ [(viF (l.getD (6 * b + k) 0) f).cells]).length) 0 0 0 0])
    have e5 : irows f.regs l b (k + 1) = irows f.regs l b k ++ [(viF (l.getD (6 * b + k) 0) f).cells] := irows_succ _ _ _ _ hkl
    refine at_eq (hK (k + 1) _ ⟨by omega, .inr (by omega), _, .inr ⟨n, rfl⟩, ?_⟩ (by omega)) rfl
    rw [e5]
    show HoldsG G _ ((id, [blr (.sl 6 n 0 (irows f.regs l b k ++ [(viF (l.getD (6 * b + k) 0) f).cells]).length) 0 0 0 0]) :: (c, [vfc f bv]) :: (r, [z3]) :: (ownR bv rows ++ (Y ++ [(n, irows f.regs l b k ++ [(viF (l.getD (6 * b + k) 0) f).cells])])))
    exact h4.perm (perm_of_count fun i _ a => by simp only [List.count_append, List.count_cons, List.count_nil]; omega)
  · have hv1 : HoldsG G H ((id, [[iv, .int .i64 0, .int .i64 0, .int .i64 0, .int .i64 0]]) :: (c, [vfc f bv]) :: (r, [z3]) :: (ownR bv rows ++ (Y ++ ownR iv (irows f.regs l b k)))) := hv
    have hv2 : HoldsG G H (ownR iv (irows f.regs l b k) ++ ((id, [[iv, .int .i64 0, .int .i64 0, .int .i64 0, .int .i64 0]]) :: (c, [vfc f bv]) :: (r, [z3]) :: (ownR bv rows ++ Y))) := HoldsG.perm hv1 (perm_of_count fun i _ a => by simp only [List.count_append, List.count_cons]; omega)
    refine cl_own hiv hv2 (fun id q hq => ?_) fun H' h' => at_here ?_
    · simp at hq; subst hq; rfl
    · unfold m18_11 w18_11
      have h2 : VB G id c r f bv rows (blr (ownC iv (irows f.regs l b k)) 0 0 0 0) Y H' := h'
      have hX : VLe (ownC iv (irows f.regs l b k)) (vins (insF f.regs l b)) := by
        refine (ownC_le hiv).trans (VLe.of_eq ?_)
        unfold irows insF vins
        rw [List.map_map]
        have : ((l.drop (6 * b)).take k) = ((l.drop (6 * b)).take 5) := by
          by_cases hk : k = 5
          · rw [hk]
          · rw [List.take_of_length_le (by simp; omega), List.take_of_length_le (by simp; omega)]
        rw [this]
        rfl
      repeat' (first | ((with_reducible refine cond_mk (fun hb => ?_) (fun hb => ?_)) <;> ((try simp only [if_true, if_false, q_a, q_b, q_c, q_d, q_e, q_f, q_g, q_h, q_i, q_j, q_k, q_l, q_m, q_n, q_o, q_p, q_q, q_r, q_s, reduceCtorEq] at hb); (try (exfalso; first | (exact hb) | contradiction | omega)))) | ((with_reducible refine grp_mk ?_ (fun hb => ?_) (fun _ => ?_)) <;> (try simp only [if_true, if_false, q_a, q_b, q_c, q_d, q_e, q_f, q_g, q_h, q_i, q_j, q_k, q_l, q_m, q_n, q_o, q_p, q_q, q_r, q_s, reduceCtorEq] at hb)) | (with_reducible refine fun (base : Nat) (hbase : Fresh _ base) => ?_) | ((with_reducible refine mk_alloc (fun id hid => ?_)); have hid0 := hid.none; (try have hlt := hid.lt (Heap.set_same _ _ _))) | ((with_reducible refine mk_box ?_ (fun id hid => ?_)); (simp only [go_sem]; done); have hid0 := hid.none; (try have hlt := hid.lt (Heap.set_same _ _ _))) | ((with_reducible refine And.intro ?_ ?_); (first | decide | omega)) | ((with_reducible refine at_here (P := m18_1 _ _ _) ?_); unfold m18_1 w18_1) | ((with_reducible refine at_here (P := m18_5 _ _ _) ?_); unfold m18_5 w18_5) | ((with_reducible refine at_here (P := m18_4 _ _ _) ?_); unfold m18_4 w18_4) | ((with_reducible refine at_here (P := m18_10 _ _ _ _) ?_); unfold m18_10 w18_10) | ((with_reducible refine at_here (P := m18_14 _ _ _) ?_); unfold m18_14 w18_14) | ((with_reducible refine at_here (P := m18_13 _ _ _) ?_); unfold m18_13 w18_13) | ((with_reducible refine at_here (P := m18_11 _ _ _) ?_); unfold m18_11 w18_11) | ((with_reducible refine at_here (P := m18_8 _ _ _) ?_); unfold m18_8 w18_8) | ((with_reducible refine at_here (P := m18_6 _ _) ?_); unfold m18_6 w18_6) | ((with_reducible refine at_here (P := m18_2 _ _) ?_); unfold m18_2 w18_2) | (simp (disch := omega) only [go_sem, Heap.get_ne, wrap64_id, Nat.reduceAdd, Nat.reduceLeDiff, Nat.reduceSub, Nat.reduceMul, Nat.reduceEqDiff, Nat.reduceBEq, Int.reduceLT, Int.reduceLE, Int.reduceEq, Int.reduceNeg, Int.reduceToNat, Int.reduceAdd, Int.reduceSub]) | (with_reducible rfl) | ((with_reducible refine And.intro ?_ ?_) <;> (with_reducible rfl)))
      · have e5 : (6 * (b : Int) + 5).toNat = 6 * b + 5 := by omega
        rw [e5]
        exact vf12 hE hF h2 ho hl hb0 hmany hreg hX fun n H' row d h1 h2 => hk n H' row _ h1 h2
      · have e5 : l.getD (6 * b + 5) 0 = 0 := by rw [List.getD, List.getElem?_eq_none (by omega)]; rfl
        rw [e5] at hk
        exact vf12 hE hF h2 ho hl hb0 hmany hreg hX fun n H' row d h1 h2 => hk n H' row _ h1 h2
end

/-- The blocks so far. -/
def gblk (p : Nat) (l : List Int) (b : Nat) : List Bl := firB p :: (List.range b).map (blkF p l)
theorem gblk_succ (p : Nat) (l : List Int) (b : Nat) : gblk p l (b + 1) = gblk p l b ++ [blkF p l b] := by
  unfold gblk; rw [List.range_succ, List.map_append]; rfl
theorem gblk_len (p : Nat) (l : List Int) (b : Nat) : (gblk p l b).length = b + 1 := by simp [gblk]

set_option maxHeartbeats 4000000 in
/-- All blocks behind the first. -/
theorem vf7 (hE : E.Good) (hF : E.Fits tab) {G H : Heap} {c r : Nat} {bv : AV} {rows : Blk} {Y : List (Nat × Blk)} {l : List Int} {p : Nat} (hp : p ≤ 6) (hll : l.length < 9223372036854775808)
    (h : HoldsG G H ((c, [vfc ⟨p, 9 + p, []⟩ bv]) :: (r, [z3]) :: (ownR bv rows ++ Y))) (ho : OwnR 5 bv rows) (hr : BRows rows [firB p]) :
    loopW (l18_7 E (Ret (.agg (vfF l p).cells) G)) [ints l, .ptr r 0 0, .ptr c 0 0, .int .i64 (manyN l), .int .i64 0] H := by
  have hmany := manyN_pos l
  skip
  refine loop_mk (σ := Nat) (fun b => [ints l, .ptr r 0 0, .ptr c 0 0, .int .i64 (manyN l), .int .i64 b])
    (fun b H' => b ≤ manyN l ∧ ∃ bv rows Y, OwnR 5 bv rows ∧ BRows rows (gblk p l b) ∧ HoldsG G H' ((c, [vfc ⟨p, 9 + p, []⟩ bv]) :: (r, [z3]) :: (ownR bv rows ++ Y))) (fun b => manyN l - b)
    0 rfl ⟨by omega, bv, rows, Y, ho, hr, h⟩ ?_
  rintro b H K ⟨hb0, bv, rows, Y, ho, hr, h⟩ hK
  have hlen := hr.len
  rw [gblk_len] at hlen
  unfold l18_7 w18_7; simp only [go_sem]
  repeat' (first | ((with_reducible refine cond_mk (fun hb => ?_) (fun hb => ?_)) <;> ((try simp only [if_true, if_false, q_a, q_b, q_c, q_d, q_e, q_f, q_g, q_h, q_i, q_j, q_k, q_l, q_m, q_n, q_o, q_p, q_q, q_r, q_s, reduceCtorEq] at hb); (try (exfalso; first | (exact hb) | contradiction | omega)))) | ((with_reducible refine grp_mk ?_ (fun hb => ?_) (fun _ => ?_)) <;> (try simp only [if_true, if_false, q_a, q_b, q_c, q_d, q_e, q_f, q_g, q_h, q_i, q_j, q_k, q_l, q_m, q_n, q_o, q_p, q_q, q_r, q_s, reduceCtorEq] at hb)) | (with_reducible refine fun (base : Nat) (hbase : Fresh _ base) => ?_) | ((with_reducible refine mk_alloc (fun id hid => ?_)); have hid0 := hid.none; (try have hlt := hid.lt (Heap.set_same _ _ _))) | ((with_reducible refine mk_box ?_ (fun id hid => ?_)); (simp only [go_sem]; done); have hid0 := hid.none; (try have hlt := hid.lt (Heap.set_same _ _ _))) | ((with_reducible refine And.intro ?_ ?_); (first | decide | omega)) | ((with_reducible refine at_here (P := m18_1 _ _ _) ?_); unfold m18_1 w18_1) | ((with_reducible refine at_here (P := m18_5 _ _ _) ?_); unfold m18_5 w18_5) | ((with_reducible refine at_here (P := m18_4 _ _ _) ?_); unfold m18_4 w18_4) | ((with_reducible refine at_here (P := m18_10 _ _ _ _) ?_); unfold m18_10 w18_10) | ((with_reducible refine at_here (P := m18_14 _ _ _) ?_); unfold m18_14 w18_14) | ((with_reducible refine at_here (P := m18_13 _ _ _) ?_); unfold m18_13 w18_13) | ((with_reducible refine at_here (P := m18_12 _ _ _) ?_); unfold m18_12 w18_12) | ((with_reducible refine at_here (P := m18_11 _ _ _) ?_); unfold m18_11 w18_11) | ((with_reducible refine at_here (P := m18_6 _ _) ?_); unfold m18_6 w18_6) | ((with_reducible refine at_here (P := m18_2 _ _) ?_); unfold m18_2 w18_2) | (simp (disch := omega) only [go_sem, Heap.get_ne, wrap64_id, Nat.reduceAdd, Nat.reduceLeDiff, Nat.reduceSub, Nat.reduceMul, Nat.reduceEqDiff, Nat.reduceBEq, Int.reduceLT, Int.reduceLE, Int.reduceEq, Int.reduceNeg, Int.reduceToNat, Int.reduceAdd, Int.reduceSub]) | (with_reducible rfl) | ((with_reducible refine And.intro ?_ ?_) <;> (with_reducible rfl)))
  · refine vf8 hE hF h ho (by omega) hll (by omega) (by omega) ⟨by show (1 : Int) ≤ 9 + p; omega, by show (9 + p : Int) ≤ 3000; omega⟩ fun n H' row Y' h1 h2 => ?_
    refine at_eq (hK (b + 1) _ ⟨by omega, _, rows ++ [row], Y', .inr ⟨n, rfl⟩, ?_, h2⟩ (by omega)) rfl
    rw [gblk_succ]
    refine hr.snoc ?_
    have e : decide ((b : Int) + 1 = manyN l) = (b + 1 == manyN l) := by
      by_cases hq : b + 1 = manyN l
      · simp [hq]; omega
      · have : ¬ ((b : Int) + 1 = manyN l) := by omega
        simp [hq, this]
    rw [e] at h1
    exact h1
  · have hc' : H c = some [vfc ⟨p, 9 + p, []⟩ bv] := h.get (by simp)
    have hr' : H r = some [z3] := h.get (by simp)
    have hne : c ≠ r := by
      have := h.to.1
      simp only [List.map_cons, List.nodup_cons, List.mem_cons, not_or] at this
      exact this.1.1
    have hbm : b = manyN l := by omega
    subst hbm
    repeat' (first | ((with_reducible refine cond_mk (fun hb => ?_) (fun hb => ?_)) <;> ((try simp only [if_true, if_false, q_a, q_b, q_c, q_d, q_e, q_f, q_g, q_h, q_i, q_j, q_k, q_l, q_m, q_n, q_o, q_p, q_q, q_r, q_s, reduceCtorEq] at hb); (try (exfalso; first | (exact hb) | contradiction | omega)))) | ((with_reducible refine grp_mk ?_ (fun hb => ?_) (fun _ => ?_)) <;> (try simp only [if_true, if_false, q_a, q_b, q_c, q_d, q_e, q_f, q_g, q_h, q_i, q_j, q_k, q_l, q_m, q_n, q_o, q_p, q_q, q_r, q_s, reduceCtorEq] at hb)) | (with_reducible refine fun (base : Nat) (hbase : Fresh _ base) => ?_) | ((with_reducible refine mk_alloc (fun id hid => ?_)); have hid0 := hid.none; (try have hlt := hid.lt (Heap.set_same _ _ _))) | ((with_reducible refine mk_box ?_ (fun id hid => ?_)); (simp only [go_sem]; done); have hid0 := hid.none; (try have hlt := hid.lt (Heap.set_same _ _ _))) | ((with_reducible refine And.intro ?_ ?_); (first | decide | omega)) | ((with_reducible refine at_here (P := m18_1 _ _ _) ?_); unfold m18_1 w18_1) | ((with_reducible refine at_here (P := m18_5 _ _ _) ?_); unfold m18_5 w18_5) | ((with_reducible refine at_here (P := m18_4 _ _ _) ?_); unfold m18_4 w18_4) | ((with_reducible refine at_here (P := m18_10 _ _ _ _) ?_); unfold m18_10 w18_10) | ((with_reducible refine at_here (P := m18_14 _ _ _) ?_); unfold m18_14 w18_14) | ((with_reducible refine at_here (P := m18_13 _ _ _) ?_); unfold m18_13 w18_13) | ((with_reducible refine at_here (P := m18_12 _ _ _) ?_); unfold m18_12 w18_12) | ((with_reducible refine at_here (P := m18_11 _ _ _) ?_); unfold m18_11 w18_11) | ((with_reducible refine at_here (P := m18_8 _ _ _) ?_); unfold m18_8 w18_8) | ((with_reducible refine at_here (P := m18_6 _ _) ?_); unfold m18_6 w18_6) | ((with_reducible refine at_here (P := m18_2 _ _) ?_); unfold m18_2 w18_2) | (simp (disch := omega) only [go_sem, Heap.get_ne, wrap64_id, Nat.reduceAdd, Nat.reduceLeDiff, Nat.reduceSub, Nat.reduceMul, Nat.reduceEqDiff, Nat.reduceBEq, Int.reduceLT, Int.reduceLE, Int.reduceEq, Int.reduceNeg, Int.reduceToNat, Int.reduceAdd, Int.reduceSub, hc', hr']) | (with_reducible rfl) | ((with_reducible refine And.intro ?_ ?_) <;> (with_reducible rfl)))
    have h2 : HoldsG G (H.set r (some [vfc ⟨p, 9 + p, []⟩ bv])) ((c, [vfc ⟨p, 9 + p, []⟩ bv]) :: (r, [vfc ⟨p, 9 + p, []⟩ bv]) :: (ownR bv rows ++ Y)) := h.put (i := 1) rfl
    have h3 : HoldsG G (H.set r (some [vfc ⟨p, 9 + p, []⟩ bv])) (ownR bv rows ++ ((c, [vfc ⟨p, 9 + p, []⟩ bv]) :: (r, [vfc ⟨p, 9 + p, []⟩ bv]) :: Y)) := h2.perm (perm_of_count fun i _ a => by simp only [List.count_append, List.count_cons]; omega)
    exact ret_vf (c := vfF l p) ho hr h3

@[go_sem] theorem spl_mi6 (r : MI) (a b c d e X : AV) : spl [a, b, c, d, e, X] 0 r.cells = vc r.op r.a r.b r.c r.n X := id rfl
/-- The first block's instructions so far. -/
def frows (p i : Nat) : Blk := (List.range i).map fun r : Nat => vc (firI p r).i.op r 0 0 r .nilsl
theorem frows_succ (p i : Nat) : frows p (i + 1) = frows p i ++ [vc (firI p i).i.op (firI p i).i.a (firI p i).i.b (firI p i).i.c (firI p i).i.n .nilsl] := by
  unfold frows; rw [List.range_succ, List.map_append]; rfl
theorem frows_len (p i : Nat) : (frows p i).length = i := by simp [frows]
theorem frows_le (p : Nat) : VLe (.ro 6 (frows p (9 + p))) (vins (firB p).ins) := by
  unfold frows vins firB
  rw [List.map_map]
  refine vle_ro (by simp) fun i a b ha hb => ?_
  rw [List.getElem?_map, Option.map_eq_some_iff] at ha hb
  obtain ⟨r, hr, rfl⟩ := ha
  obtain ⟨r', hr', rfl⟩ := hb
  rw [hr] at hr'; cases hr'
  refine ⟨rfl, fun j x y hx hy => ?_⟩
  match j with
  | 0 => cases hx; cases hy; exact VLe.refl _
  | 1 => cases hx; cases hy; exact VLe.refl _
  | 2 => cases hx; cases hy; exact VLe.refl _
  | 3 => cases hx; cases hy; exact VLe.refl _
  | 4 => cases hx; cases hy; exact VLe.refl _
  | 5 => cases hx; cases hy; exact vle_nil 1
  | n + 6 => cases hx

set_option maxHeartbeats 4000000 in
theorem vf5 (hE : E.Good) (hF : E.Fits tab) {G H : Heap} {x c r t : Nat} {f : VF} {iv : AV} {rows : Blk} {K1 : Tm → Heap → Prop} {R : AV → Heap → Prop} {l : List Int} {p many : Int} {i : Nat} {v : VI} (hv : v.args = [])
    (h : VB G x c r f .nilsl [] (blr iv 0 0 0 0) (ownR iv rows) H) (ht : H t = some [v.i.cells]) (ho : OwnR 6 iv rows) (hl : rows.length ≤ 1000) (hi : i < 1000)
    (hk : ∀ n H', VB G x c r f .nilsl [] (blr (.sl 6 n 0 (rows ++ [vc v.i.op v.i.a v.i.b v.i.c v.i.n .nilsl]).length) 0 0 0 0) [(n, rows ++ [vc v.i.op v.i.a v.i.b v.i.c v.i.n .nilsl])] H' → atW K1 [ints l, .int .i64 p, .ptr r 0 0, .ptr c 0 0, .int .i64 many, .ptr x 0 0, .int .i64 (i + 1)] H') :
    atW (m18_5 E R K1) [ints l, .int .i64 p, .ptr r 0 0, .ptr c 0 0, .int .i64 many, .ptr x 0 0, .int .i64 i, .ptr t 0 0] H := by
  skip
  refine at_here ?_; unfold m18_5 w18_5; (repeat' (first | ((with_reducible refine cond_mk (fun hb => ?_) (fun hb => ?_)) <;> ((try simp only [if_true, if_false, q_a, q_b, q_c, q_d, q_e, q_f, q_g, q_h, q_i, q_j, q_k, q_l, q_m, q_n, q_o, q_p, q_q, q_r, q_s, reduceCtorEq] at hb); (try (exfalso; first | (exact hb) | contradiction | omega)))) | ((with_reducible refine grp_mk ?_ (fun hb => ?_) (fun _ => ?_)) <;> (try simp only [if_true, if_false, q_a, q_b, q_c, q_d, q_e, q_f, q_g, q_h, q_i, q_j, q_k, q_l, q_m, q_n, q_o, q_p, q_q, q_r, q_s, reduceCtorEq] at hb)) | (with_reducible refine fun (base : Nat) (hbase : Fresh _ base) => ?_) | ((with_reducible refine mk_alloc (fun id hid => ?_)); have hid0 := hid.none; (try have hlt := hid.lt (Heap.set_same _ _ _))) | ((with_reducible refine mk_box ?_ (fun id hid => ?_)); (simp only [go_sem]; done); have hid0 := hid.none; (try have hlt := hid.lt (Heap.set_same _ _ _))) | ((with_reducible refine And.intro ?_ ?_); (first | decide | omega)) | (simp (disch := omega) only [go_sem, Heap.get_ne, wrap64_id, Nat.reduceAdd, Nat.reduceLeDiff, Nat.reduceSub, Nat.reduceMul, Nat.reduceEqDiff, Nat.reduceBEq, Int.reduceLT, Int.reduceLE, Int.reduceEq, Int.reduceNeg, Int.reduceToNat, Int.reduceAdd, Int.reduceSub]) | (with_reducible rfl) | ((with_reducible refine And.intro ?_ ?_) <;> (with_reducible rfl))))
  repeat' (first | ((with_reducible refine cond_mk (fun hb => ?_) (fun hb => ?_)) <;> ((try simp only [if_true, if_false, q_a, q_b, q_c, q_d, q_e, q_f, q_g, q_h, q_i, q_j, q_k, q_l, q_m, q_n, q_o, q_p, q_q, q_r, q_s, reduceCtorEq] at hb); (try (exfalso; first | (exact hb) | contradiction | omega)))) | ((with_reducible refine grp_mk ?_ (fun hb => ?_) (fun _ => ?_)) <;> (try simp only [if_true, if_false, q_a, q_b, q_c, q_d, q_e, q_f, q_g, q_h, q_i, q_j, q_k, q_l, q_m, q_n, q_o, q_p, q_q, q_r, q_s, reduceCtorEq] at hb)) | (with_reducible refine fun (base : Nat) (hbase : Fresh _ base) => ?_) | ((with_reducible refine mk_alloc (fun id hid => ?_)); have hid0 := hid.none; (try have hlt := hid.lt (Heap.set_same _ _ _))) | ((with_reducible refine mk_box ?_ (fun id hid => ?_)); (simp only [go_sem]; done); have hid0 := hid.none; (try have hlt := hid.lt (Heap.set_same _ _ _))) | ((with_reducible refine And.intro ?_ ?_); (first | decide | omega)) | ((with_reducible refine at_here (P := m18_1 _ _ _) ?_); unfold m18_1 w18_1) | ((with_reducible refine at_here (P := m18_5 _ _ _) ?_); unfold m18_5 w18_5) | ((with_reducible refine at_here (P := m18_4 _ _ _) ?_); unfold m18_4 w18_4) | ((with_reducible refine at_here (P := m18_10 _ _ _ _) ?_); unfold m18_10 w18_10) | ((with_reducible refine at_here (P := m18_14 _ _ _) ?_); unfold m18_14 w18_14) | ((with_reducible refine at_here (P := m18_13 _ _ _) ?_); unfold m18_13 w18_13) | ((with_reducible refine at_here (P := m18_12 _ _ _) ?_); unfold m18_12 w18_12) | ((with_reducible refine at_here (P := m18_11 _ _ _) ?_); unfold m18_11 w18_11) | ((with_reducible refine at_here (P := m18_8 _ _ _) ?_); unfold m18_8 w18_8) | ((with_reducible refine at_here (P := m18_6 _ _) ?_); unfold m18_6 w18_6) | ((with_reducible refine at_here (P := m18_2 _ _) ?_); unfold m18_2 w18_2) | (simp (disch := omega) only [go_sem, Heap.get_ne, wrap64_id, Nat.reduceAdd, Nat.reduceLeDiff, Nat.reduceSub, Nat.reduceMul, Nat.reduceEqDiff, Nat.reduceBEq, Int.reduceLT, Int.reduceLE, Int.reduceEq, Int.reduceNeg, Int.reduceToNat, Int.reduceAdd, Int.reduceSub, h.hx, h.hc, h.hr, ht]) | (with_reducible rfl) | ((with_reducible refine And.intro ?_ ?_) <;> (with_reducible rfl)))
  have h2 : HoldsG G H (ownR iv rows ++ ((x, [blr iv 0 0 0 0]) :: (c, [vfc f .nilsl]) :: [(r, [z3])])) := HoldsG.perm h (perm_of_count fun i _ a => by simp only [ownR, List.count_append, List.count_cons, List.count_nil]; omega)
  refine app_own ho h2 (by simp only [appLim, List.length_singleton]; omega) fun n H' h' => ?_
  have hx' : H' x = some [blr iv 0 0 0 0] := h'.get (by simp)
  repeat' (first | ((with_reducible refine cond_mk (fun hb => ?_) (fun hb => ?_)) <;> ((try simp only [if_true, if_false, q_a, q_b, q_c, q_d, q_e, q_f, q_g, q_h, q_i, q_j, q_k, q_l, q_m, q_n, q_o, q_p, q_q, q_r, q_s, reduceCtorEq] at hb); (try (exfalso; first | (exact hb) | contradiction | omega)))) | ((with_reducible refine grp_mk ?_ (fun hb => ?_) (fun _ => ?_)) <;> (try simp only [if_true, if_false, q_a, q_b, q_c, q_d, q_e, q_f, q_g, q_h, q_i, q_j, q_k, q_l, q_m, q_n, q_o, q_p, q_q, q_r, q_s, reduceCtorEq] at hb)) | (with_reducible refine fun (base : Nat) (hbase : Fresh _ base) => ?_) | ((with_reducible refine mk_alloc (fun id hid => ?_)); have hid0 := hid.none; (try have hlt := hid.lt (Heap.set_same _ _ _))) | ((with_reducible refine mk_box ?_ (fun id hid => ?_)); (simp only [go_sem]; done); have hid0 := hid.none; (try have hlt := hid.lt (Heap.set_same _ _ _))) | ((with_reducible refine And.intro ?_ ?_); (first | decide | omega)) | ((with_reducible refine at_here (P := m18_1 _ _ _) ?_); unfold m18_1 w18_1) | ((with_reducible refine at_here (P := m18_5 _ _ _) ?_); unfold m18_5 w18_5) | ((with_reducible refine at_here (P := m18_4 _ _ _) ?_); unfold m18_4 w18_4) | ((with_reducible refine at_here (P := m18_10 _ _ _ _) ?_); unfold m18_10 w18_10) | ((with_reducible refine at_here (P := m18_14 _ _ _) ?_); unfold m18_14 w18_14) | ((with_reducible refine at_here (P := m18_13 _ _ _) ?_); unfold m18_13 w18_13) | ((with_reducible refine at_here (P := m18_12 _ _ _) ?_); unfold m18_12 w18_12) | ((with_reducible refine at_here (P := m18_11 _ _ _) ?_); unfold m18_11 w18_11) | ((with_reducible refine at_here (P := m18_8 _ _ _) ?_); unfold m18_8 w18_8) | ((with_reducible refine at_here (P := m18_6 _ _) ?_); unfold m18_6 w18_6) | ((with_reducible refine at_here (P := m18_2 _ _) ?_); unfold m18_2 w18_2) | (simp (disch := omega) only [go_sem, Heap.get_ne, wrap64_id, Nat.reduceAdd, Nat.reduceLeDiff, Nat.reduceSub, Nat.reduceMul, Nat.reduceEqDiff, Nat.reduceBEq, Int.reduceLT, Int.reduceLE, Int.reduceEq, Int.reduceNeg, Int.reduceToNat, Int.reduceAdd, Int.reduceSub, hx']) | (with_reducible rfl) | ((with_reducible refine And.intro ?_ ?_) <;> (with_reducible rfl)))
  refine hk n _ ?_
  have h3 : HoldsG G H' ((x, [blr iv 0 0 0 0]) :: ((n, rows ++ [vc v.i.op v.i.a v.i.b v.i.c v.i.n .nilsl]) :: (c, [vfc f .nilsl]) :: [(r, [z3])])) := h'.perm (perm_of_count fun i _ a => by simp only [List.count_append, List.count_cons, List.count_nil]; omega)
  have h4 := h3.set (b' := [blr (.sl 6 n 0 (rows ++ [vc v.i.op v.i.a v.i.b v.i.c v.i.n .nilsl]).length) 0 0 0 0])
  show HoldsG G _ ((x, [blr (.sl 6 n 0 (rows ++ [vc v.i.op v.i.a v.i.b v.i.c v.i.n .nilsl]).length) 0 0 0 0]) :: (c, [vfc f .nilsl]) :: (r, [z3]) :: ([] ++ [(n, rows ++ [vc v.i.op v.i.a v.i.b v.i.c v.i.n .nilsl])]))
  exact h4.perm (perm_of_count fun i _ a => by simp only [List.count_append, List.count_cons, List.count_nil]; omega)
set_option maxHeartbeats 4000000 in
theorem vfunc_spec (hE : E.Good) (hF : E.Fits tab) (l : List Int) (p : Nat) (hp : p ≤ 6) : PF E 18 [ints l, .int .i64 p] (.agg (vfF l p).cells) := by
  intro G
  refine acall_small fun hs => ?_
  have hlen := small_ints (hs (ints l) (by simp))
  clear hs
  have hmany := manyN_pos l
  have h6 : (l.length : Int).tdiv 6 = ((l.length / 6 : Nat) : Int) := by simp
  have hm : (1 + if (5 : Int) < ((l.length / 6 : Nat) : Int) then (5 : Int) else ((l.length / 6 : Nat) : Int)) = manyN l := by
    unfold manyN; split <;> omega
  refine ent18 hE hF _ _ _ _ ?_; unfold w18
  refine mk_alloc fun r hr => ?_
  repeat' (first | ((with_reducible refine cond_mk (fun hb => ?_) (fun hb => ?_)) <;> ((try simp only [if_true, if_false, q_a, q_b, q_c, q_d, q_e, q_f, q_g, q_h, q_i, q_j, q_k, q_l, q_m, q_n, q_o, q_p, q_q, q_r, q_s, reduceCtorEq] at hb); (try (exfalso; first | (exact hb) | contradiction | omega)))) | ((with_reducible refine grp_mk ?_ (fun hb => ?_) (fun _ => ?_)) <;> (try simp only [if_true, if_false, q_a, q_b, q_c, q_d, q_e, q_f, q_g, q_h, q_i, q_j, q_k, q_l, q_m, q_n, q_o, q_p, q_q, q_r, q_s, reduceCtorEq] at hb)) | (with_reducible refine fun (base : Nat) (hbase : Fresh _ base) => ?_) | ((with_reducible refine mk_alloc (fun id hid => ?_)); have hid0 := hid.none; (try have hlt := hid.lt (Heap.set_same _ _ _))) | ((with_reducible refine mk_box ?_ (fun id hid => ?_)); (simp only [go_sem]; done); have hid0 := hid.none; (try have hlt := hid.lt (Heap.set_same _ _ _))) | ((with_reducible refine And.intro ?_ ?_); (first | decide | omega)) | ((with_reducible refine at_here (P := m18_1 _ _ _) ?_); unfold m18_1 w18_1) | ((with_reducible refine at_here (P := m18_5 _ _ _) ?_); unfold m18_5 w18_5) | ((with_reducible refine at_here (P := m18_4 _ _ _) ?_); unfold m18_4 w18_4) | ((with_reducible refine at_here (P := m18_10 _ _ _ _) ?_); unfold m18_10 w18_10) | ((with_reducible refine at_here (P := m18_14 _ _ _) ?_); unfold m18_14 w18_14) | ((with_reducible refine at_here (P := m18_13 _ _ _) ?_); unfold m18_13 w18_13) | ((with_reducible refine at_here (P := m18_12 _ _ _) ?_); unfold m18_12 w18_12) | ((with_reducible refine at_here (P := m18_11 _ _ _) ?_); unfold m18_11 w18_11) | ((with_reducible refine at_here (P := m18_8 _ _ _) ?_); unfold m18_8 w18_8) | ((with_reducible refine at_here (P := m18_6 _ _) ?_); unfold m18_6 w18_6) | ((with_reducible refine at_here (P := m18_2 _ _) ?_); unfold m18_2 w18_2) | (simp (disch := omega) only [go_sem, Heap.get_ne, wrap64_id, Nat.reduceAdd, Nat.reduceLeDiff, Nat.reduceSub, Nat.reduceMul, Nat.reduceEqDiff, Nat.reduceBEq, Int.reduceLT, Int.reduceLE, Int.reduceEq, Int.reduceNeg, Int.reduceToNat, Int.reduceAdd, Int.reduceSub, h6]) | (with_reducible rfl) | ((with_reducible refine And.intro ?_ ?_) <;> (with_reducible rfl)))
  have h0 : HoldsG G G [] := ⟨⟨by simp, by simp⟩, fun k b h => ⟨h, by simp⟩⟩
  have h : HoldsG G ((G.set r (some [z3])).set id (some [vfc ⟨p, 9 + (0 : Nat), []⟩ .nilsl])) [(id, [vfc ⟨p, 9 + (0 : Nat), []⟩ .nilsl]), (r, [z3])] := (h0.new hr).new hid
  rw [hm]
  clear hid hid0 hr hlt h0 hm h6
  refine loop_mk (σ := Nat) (fun i => [ints l, .int .i64 p, .ptr r 0 0, .ptr id 0 0, .int .i64 (manyN l), .int .i64 i])
    (fun i H' => i ≤ p ∧ HoldsG G H' [(id, [vfc ⟨p, 9 + i, []⟩ .nilsl]), (r, [z3])]) (fun i => p - i)
    0 rfl ⟨by omega, h⟩ ?_
  rintro i H K ⟨hi, h⟩ hK
  have hc' : H id = some [vfc ⟨p, 9 + i, []⟩ .nilsl] := h.get (by simp)
  unfold l18_0 w18_0; simp only [go_sem]
  repeat' (first | ((with_reducible refine cond_mk (fun hb => ?_) (fun hb => ?_)) <;> ((try simp only [if_true, if_false, q_a, q_b, q_c, q_d, q_e, q_f, q_g, q_h, q_i, q_j, q_k, q_l, q_m, q_n, q_o, q_p, q_q, q_r, q_s, reduceCtorEq] at hb); (try (exfalso; first | (exact hb) | contradiction | omega)))) | ((with_reducible refine grp_mk ?_ (fun hb => ?_) (fun _ => ?_)) <;> (try simp only [if_true, if_false, q_a, q_b, q_c, q_d, q_e, q_f, q_g, q_h, q_i, q_j, q_k, q_l, q_m, q_n, q_o, q_p, q_q, q_r, q_s, reduceCtorEq] at hb)) | (with_reducible refine fun (base : Nat) (hbase : Fresh _ base) => ?_) | ((with_reducible refine mk_alloc (fun id hid => ?_)); have hid0 := hid.none; (try have hlt := hid.lt (Heap.set_same _ _ _))) | ((with_reducible refine mk_box ?_ (fun id hid => ?_)); (simp only [go_sem]; done); have hid0 := hid.none; (try have hlt := hid.lt (Heap.set_same _ _ _))) | ((with_reducible refine And.intro ?_ ?_); (first | decide | omega)) | ((with_reducible refine at_here (P := m18_5 _ _ _) ?_); unfold m18_5 w18_5) | ((with_reducible refine at_here (P := m18_4 _ _ _) ?_); unfold m18_4 w18_4) | ((with_reducible refine at_here (P := m18_10 _ _ _ _) ?_); unfold m18_10 w18_10) | ((with_reducible refine at_here (P := m18_14 _ _ _) ?_); unfold m18_14 w18_14) | ((with_reducible refine at_here (P := m18_13 _ _ _) ?_); unfold m18_13 w18_13) | ((with_reducible refine at_here (P := m18_12 _ _ _) ?_); unfold m18_12 w18_12) | ((with_reducible refine at_here (P := m18_11 _ _ _) ?_); unfold m18_11 w18_11) | ((with_reducible refine at_here (P := m18_8 _ _ _) ?_); unfold m18_8 w18_8) | ((with_reducible refine at_here (P := m18_6 _ _) ?_); unfold m18_6 w18_6) | (simp (disch := omega) only [go_sem, Heap.get_ne, wrap64_id, Nat.reduceAdd, Nat.reduceLeDiff, Nat.reduceSub, Nat.reduceMul, Nat.reduceEqDiff, Nat.reduceBEq, Int.reduceLT, Int.reduceLE, Int.reduceEq, Int.reduceNeg, Int.reduceToNat, Int.reduceAdd, Int.reduceSub, hc']) | (with_reducible rfl) | ((with_reducible refine And.intro ?_ ?_) <;> (with_reducible rfl)))
  · refine at_here ?_; unfold m18_1 w18_1; (repeat' (first | ((with_reducible refine cond_mk (fun hb => ?_) (fun hb => ?_)) <;> ((try simp only [if_true, if_false, q_a, q_b, q_c, q_d, q_e, q_f, q_g, q_h, q_i, q_j, q_k, q_l, q_m, q_n, q_o, q_p, q_q, q_r, q_s, reduceCtorEq] at hb); (try (exfalso; first | (exact hb) | contradiction | omega)))) | ((with_reducible refine grp_mk ?_ (fun hb => ?_) (fun _ => ?_)) <;> (try simp only [if_true, if_false, q_a, q_b, q_c, q_d, q_e, q_f, q_g, q_h, q_i, q_j, q_k, q_l, q_m, q_n, q_o, q_p, q_q, q_r, q_s, reduceCtorEq] at hb)) | (with_reducible refine fun (base : Nat) (hbase : Fresh _ base) => ?_) | ((with_reducible refine mk_alloc (fun id hid => ?_)); have hid0 := hid.none; (try have hlt := hid.lt (Heap.set_same _ _ _))) | ((with_reducible refine mk_box ?_ (fun id hid => ?_)); (simp only [go_sem]; done); have hid0 := hid.none; (try have hlt := hid.lt (Heap.set_same _ _ _))) | ((with_reducible refine And.intro ?_ ?_); (first | decide | omega)) | (simp (disch := omega) only [go_sem, Heap.get_ne, wrap64_id, Nat.reduceAdd, Nat.reduceLeDiff, Nat.reduceSub, Nat.reduceMul, Nat.reduceEqDiff, Nat.reduceBEq, Int.reduceLT, Int.reduceLE, Int.reduceEq, Int.reduceNeg, Int.reduceToNat, Int.reduceAdd, Int.reduceSub]) | (with_reducible rfl) | ((with_reducible refine And.intro ?_ ?_) <;> (with_reducible rfl))))
    repeat' (first | ((with_reducible refine cond_mk (fun hb => ?_) (fun hb => ?_)) <;> ((try simp only [if_true, if_false, q_a, q_b, q_c, q_d, q_e, q_f, q_g, q_h, q_i, q_j, q_k, q_l, q_m, q_n, q_o, q_p, q_q, q_r, q_s, reduceCtorEq] at hb); (try (exfalso; first | (exact hb) | contradiction | omega)))) | ((with_reducible refine grp_mk ?_ (fun hb => ?_) (fun _ => ?_)) <;> (try simp only [if_true, if_false, q_a, q_b, q_c, q_d, q_e, q_f, q_g, q_h, q_i, q_j, q_k, q_l, q_m, q_n, q_o, q_p, q_q, q_r, q_s, reduceCtorEq] at hb)) | (with_reducible refine fun (base : Nat) (hbase : Fresh _ base) => ?_) | ((with_reducible refine mk_alloc (fun id hid => ?_)); have hid0 := hid.none; (try have hlt := hid.lt (Heap.set_same _ _ _))) | ((with_reducible refine mk_box ?_ (fun id hid => ?_)); (simp only [go_sem]; done); have hid0 := hid.none; (try have hlt := hid.lt (Heap.set_same _ _ _))) | ((with_reducible refine And.intro ?_ ?_); (first | decide | omega)) | ((with_reducible refine at_here (P := m18_1 _ _ _) ?_); unfold m18_1 w18_1) | ((with_reducible refine at_here (P := m18_5 _ _ _) ?_); unfold m18_5 w18_5) | ((with_reducible refine at_here (P := m18_4 _ _ _) ?_); unfold m18_4 w18_4) | ((with_reducible refine at_here (P := m18_10 _ _ _ _) ?_); unfold m18_10 w18_10) | ((with_reducible refine at_here (P := m18_14 _ _ _) ?_); unfold m18_14 w18_14) | ((with_reducible refine at_here (P := m18_13 _ _ _) ?_); unfold m18_13 w18_13) | ((with_reducible refine at_here (P := m18_12 _ _ _) ?_); unfold m18_12 w18_12) | ((with_reducible refine at_here (P := m18_11 _ _ _) ?_); unfold m18_11 w18_11) | ((with_reducible refine at_here (P := m18_8 _ _ _) ?_); unfold m18_8 w18_8) | ((with_reducible refine at_here (P := m18_6 _ _) ?_); unfold m18_6 w18_6) | ((with_reducible refine at_here (P := m18_2 _ _) ?_); unfold m18_2 w18_2) | (simp (disch := omega) only [go_sem, Heap.get_ne, wrap64_id, Nat.reduceAdd, Nat.reduceLeDiff, Nat.reduceSub, Nat.reduceMul, Nat.reduceEqDiff, Nat.reduceBEq, Int.reduceLT, Int.reduceLE, Int.reduceEq, Int.reduceNeg, Int.reduceToNat, Int.reduceAdd, Int.reduceSub, hc']) | (with_reducible rfl) | ((with_reducible refine And.intro ?_ ?_) <;> (with_reducible rfl)))
    have e : (⟨p, 9 + (i : Int) + 1, []⟩ : VF) = ⟨p, 9 + (i + 1 : Nat), []⟩ := by rw [show (9 + (i : Int) + 1) = 9 + ((i + 1 : Nat) : Int) by omega]
    rw [e]
    exact at_eq (hK (i + 1) _ ⟨by omega, h.set⟩ (by omega)) rfl
  · have hip : i = p := by omega
    subst hip
    clear hK
    refine at_here ?_
    unfold m18_2 w18_2
    simp only [go_sem]
    refine mk_alloc fun x hx => ?_
    have h0 : VB G x id r ⟨i, 9 + i, []⟩ .nilsl [] (blr .nilsl 0 0 0 0) (ownR .nilsl []) (H.set x (some [blr .nilsl 0 0 0 0])) := HoldsG.new h hx
    refine loop_mk (σ := Nat) (fun k => [ints l, .int .i64 i, .ptr r 0 0, .ptr id 0 0, .int .i64 (manyN l), .ptr x 0 0, .int .i64 k])
      (fun k H' => k ≤ 9 + i ∧ ∃ iv, OwnR 6 iv (frows i k) ∧ VB G x id r ⟨i, 9 + i, []⟩ .nilsl [] (blr iv 0 0 0 0) (ownR iv (frows i k)) H') (fun k => 9 + i - k)
      0 rfl ⟨by omega, .nilsl, .inl ⟨rfl, rfl⟩, h0⟩ ?_
    rintro k H K ⟨hk, iv, ho, hv⟩ hK
    unfold l18_3 w18_3; simp only [go_sem]
    repeat' (first | ((with_reducible refine cond_mk (fun hb => ?_) (fun hb => ?_)) <;> ((try simp only [if_true, if_false, q_a, q_b, q_c, q_d, q_e, q_f, q_g, q_h, q_i, q_j, q_k, q_l, q_m, q_n, q_o, q_p, q_q, q_r, q_s, reduceCtorEq] at hb); (try (exfalso; first | (exact hb) | contradiction | omega)))) | ((with_reducible refine grp_mk ?_ (fun hb => ?_) (fun _ => ?_)) <;> (try simp only [if_true, if_false, q_a, q_b, q_c, q_d, q_e, q_f, q_g, q_h, q_i, q_j, q_k, q_l, q_m, q_n, q_o, q_p, q_q, q_r, q_s, reduceCtorEq] at hb)) | (with_reducible refine fun (base : Nat) (hbase : Fresh _ base) => ?_) | ((with_reducible refine mk_alloc (fun id hid => ?_)); have hid0 := hid.none; (try have hlt := hid.lt (Heap.set_same _ _ _))) | ((with_reducible refine mk_box ?_ (fun id hid => ?_)); (simp only [go_sem]; done); have hid0 := hid.none; (try have hlt := hid.lt (Heap.set_same _ _ _))) | ((with_reducible refine And.intro ?_ ?_); (first | decide | omega)) | ((with_reducible refine at_here (P := m18_1 _ _ _) ?_); unfold m18_1 w18_1) | ((with_reducible refine at_here (P := m18_5 _ _ _) ?_); unfold m18_5 w18_5) | ((with_reducible refine at_here (P := m18_10 _ _ _ _) ?_); unfold m18_10 w18_10) | ((with_reducible refine at_here (P := m18_14 _ _ _) ?_); unfold m18_14 w18_14) | ((with_reducible refine at_here (P := m18_13 _ _ _) ?_); unfold m18_13 w18_13) | ((with_reducible refine at_here (P := m18_12 _ _ _) ?_); unfold m18_12 w18_12) | ((with_reducible refine at_here (P := m18_11 _ _ _) ?_); unfold m18_11 w18_11) | ((with_reducible refine at_here (P := m18_8 _ _ _) ?_); unfold m18_8 w18_8) | ((with_reducible refine at_here (P := m18_2 _ _) ?_); unfold m18_2 w18_2) | (simp (disch := omega) only [go_sem, Heap.get_ne, wrap64_id, Nat.reduceAdd, Nat.reduceLeDiff, Nat.reduceSub, Nat.reduceMul, Nat.reduceEqDiff, Nat.reduceBEq, Int.reduceLT, Int.reduceLE, Int.reduceEq, Int.reduceNeg, Int.reduceToNat, Int.reduceAdd, Int.reduceSub, hv.hx, hv.hc, hv.hr]) | (with_reducible rfl) | ((with_reducible refine And.intro ?_ ?_) <;> (with_reducible rfl)))
    · refine at_here ?_
      unfold m18_4 w18_4
      simp only [go_sem]
      refine ⟨rfl, ?_⟩
      refine mk_alloc fun y hy => ?_
      have key : ∀ v : VI, v = firI i k → ∀ H', VB G x id r ⟨i, 9 + i, []⟩ .nilsl [] (blr iv 0 0 0 0) (ownR iv (frows i k)) H' → H' y = some [v.i.cells] → atW (m18_5 E (Ret (.agg (vfF l i).cells) G) K) [ints l, .int .i64 i, .ptr r 0 0, .ptr id 0 0, .int .i64 (manyN l), .ptr x 0 0, .int .i64 k, .ptr y 0 0] H' := by
        intro v hv' H' h9 hy'
        subst hv'
        refine vf5 hE hF rfl h9 hy' ho (by rw [frows_len]; omega) (by omega) fun n H'' h' => ?_
        rw [← frows_succ] at h'
        exact at_eq (hK (k + 1) _ ⟨by omega, _, .inr ⟨n, rfl⟩, h'⟩ (by omega)) rfl
      have hm := HoldsG.more (b := some [MI.cells ⟨13, k, 0, 0, k⟩]) hv hy.none
      have hm2 := HoldsG.more (b := some [MI.cells ⟨38, k, 0, 0, k⟩]) hv hy.none
      repeat' (first | ((with_reducible refine cond_mk (fun hb => ?_) (fun hb => ?_)) <;> ((try simp only [if_true, if_false, q_a, q_b, q_c, q_d, q_e, q_f, q_g, q_h, q_i, q_j, q_k, q_l, q_m, q_n, q_o, q_p, q_q, q_r, q_s, reduceCtorEq] at hb); (try (exfalso; first | (exact hb) | contradiction | omega)))) | ((with_reducible refine grp_mk ?_ (fun hb => ?_) (fun _ => ?_)) <;> (try simp only [if_true, if_false, q_a, q_b, q_c, q_d, q_e, q_f, q_g, q_h, q_i, q_j, q_k, q_l, q_m, q_n, q_o, q_p, q_q, q_r, q_s, reduceCtorEq] at hb)) | (with_reducible refine fun (base : Nat) (hbase : Fresh _ base) => ?_) | ((with_reducible refine mk_alloc (fun id hid => ?_)); have hid0 := hid.none; (try have hlt := hid.lt (Heap.set_same _ _ _))) | ((with_reducible refine mk_box ?_ (fun id hid => ?_)); (simp only [go_sem]; done); have hid0 := hid.none; (try have hlt := hid.lt (Heap.set_same _ _ _))) | ((with_reducible refine And.intro ?_ ?_); (first | decide | omega)) | ((with_reducible refine at_here (P := m18_1 _ _ _) ?_); unfold m18_1 w18_1) | ((with_reducible refine at_here (P := m18_4 _ _ _) ?_); unfold m18_4 w18_4) | ((with_reducible refine at_here (P := m18_10 _ _ _ _) ?_); unfold m18_10 w18_10) | ((with_reducible refine at_here (P := m18_14 _ _ _) ?_); unfold m18_14 w18_14) | ((with_reducible refine at_here (P := m18_13 _ _ _) ?_); unfold m18_13 w18_13) | ((with_reducible refine at_here (P := m18_12 _ _ _) ?_); unfold m18_12 w18_12) | ((with_reducible refine at_here (P := m18_11 _ _ _) ?_); unfold m18_11 w18_11) | ((with_reducible refine at_here (P := m18_8 _ _ _) ?_); unfold m18_8 w18_8) | ((with_reducible refine at_here (P := m18_6 _ _) ?_); unfold m18_6 w18_6) | ((with_reducible refine at_here (P := m18_2 _ _) ?_); unfold m18_2 w18_2) | (simp (disch := omega) only [go_sem, Heap.get_ne, wrap64_id, Nat.reduceAdd, Nat.reduceLeDiff, Nat.reduceSub, Nat.reduceMul, Nat.reduceEqDiff, Nat.reduceBEq, Int.reduceLT, Int.reduceLE, Int.reduceEq, Int.reduceNeg, Int.reduceToNat, Int.reduceAdd, Int.reduceSub]) | (with_reducible rfl) | ((with_reducible refine And.intro ?_ ?_) <;> (with_reducible rfl)))
      · refine key ⟨⟨38, k, 0, 0, k⟩, []⟩ (by unfold firI; rw [if_pos (by omega)]) _ hm2 (Heap.set_same _ _ _)
      · refine key ⟨⟨13, k, 0, 0, k⟩, []⟩ (by unfold firI; rw [if_neg (by omega)]) _ hm (Heap.set_same _ _ _)
    · have hkk : k = 9 + i := by omega
      subst hkk
      clear hK
      have hv1 : HoldsG G H ((x, [[iv, .int .i64 0, .int .i64 0, .int .i64 0, .int .i64 0]]) :: (id, [vfc ⟨i, 9 + i, []⟩ .nilsl]) :: (r, [z3]) :: ([] ++ ownR iv (frows i (9 + i)))) := hv
      have hv2 : HoldsG G H (ownR iv (frows i (9 + i)) ++ ((x, [[iv, .int .i64 0, .int .i64 0, .int .i64 0, .int .i64 0]]) :: (id, [vfc ⟨i, 9 + i, []⟩ .nilsl]) :: [(r, [z3])])) := HoldsG.perm hv1 (perm_of_count fun i _ a => by simp only [List.count_append, List.count_cons, List.count_nil]; omega)
      refine cl_own ho hv2 (fun id q hq => ?_) fun H' h' => at_here ?_
      · simp at hq; subst hq; rfl
      · unfold m18_6 w18_6
        have h2 : VB G x id r ⟨i, 9 + i, []⟩ .nilsl [] (blr (ownC iv (frows i (9 + i))) 0 0 0 0) [] H' := h'
        have hX : VLe (ownC iv (frows i (9 + i))) (vins (firB i).ins) := (ownC_le ho).trans (frows_le i)
        obtain ⟨n1, n2, n3⟩ := h2.ne
        repeat' (first | ((with_reducible refine cond_mk (fun hb => ?_) (fun hb => ?_)) <;> ((try simp only [if_true, if_false, q_a, q_b, q_c, q_d, q_e, q_f, q_g, q_h, q_i, q_j, q_k, q_l, q_m, q_n, q_o, q_p, q_q, q_r, q_s, reduceCtorEq] at hb); (try (exfalso; first | (exact hb) | contradiction | omega)))) | ((with_reducible refine grp_mk ?_ (fun hb => ?_) (fun _ => ?_)) <;> (try simp only [if_true, if_false, q_a, q_b, q_c, q_d, q_e, q_f, q_g, q_h, q_i, q_j, q_k, q_l, q_m, q_n, q_o, q_p, q_q, q_r, q_s, reduceCtorEq] at hb)) | (with_reducible refine fun (base : Nat) (hbase : Fresh _ base) => ?_) | ((with_reducible refine mk_alloc (fun id hid => ?_)); have hid0 := hid.none; (try have hlt := hid.lt (Heap.set_same _ _ _))) | ((with_reducible refine mk_box ?_ (fun id hid => ?_)); (simp only [go_sem]; done); have hid0 := hid.none; (try have hlt := hid.lt (Heap.set_same _ _ _))) | ((with_reducible refine And.intro ?_ ?_); (first | decide | omega)) | ((with_reducible refine at_here (P := m18_1 _ _ _) ?_); unfold m18_1 w18_1) | ((with_reducible refine at_here (P := m18_5 _ _ _) ?_); unfold m18_5 w18_5) | ((with_reducible refine at_here (P := m18_4 _ _ _) ?_); unfold m18_4 w18_4) | ((with_reducible refine at_here (P := m18_10 _ _ _ _) ?_); unfold m18_10 w18_10) | ((with_reducible refine at_here (P := m18_14 _ _ _) ?_); unfold m18_14 w18_14) | ((with_reducible refine at_here (P := m18_13 _ _ _) ?_); unfold m18_13 w18_13) | ((with_reducible refine at_here (P := m18_12 _ _ _) ?_); unfold m18_12 w18_12) | ((with_reducible refine at_here (P := m18_11 _ _ _) ?_); unfold m18_11 w18_11) | ((with_reducible refine at_here (P := m18_8 _ _ _) ?_); unfold m18_8 w18_8) | ((with_reducible refine at_here (P := m18_6 _ _) ?_); unfold m18_6 w18_6) | ((with_reducible refine at_here (P := m18_2 _ _) ?_); unfold m18_2 w18_2) | (simp (disch := omega) only [go_sem, Heap.get_ne, wrap64_id, Nat.reduceAdd, Nat.reduceLeDiff, Nat.reduceSub, Nat.reduceMul, Nat.reduceEqDiff, Nat.reduceBEq, Int.reduceLT, Int.reduceLE, Int.reduceEq, Int.reduceNeg, Int.reduceToNat, Int.reduceAdd, Int.reduceSub, h2.hx, h2.hc, h2.hr]) | (with_reducible rfl) | ((with_reducible refine And.intro ?_ ?_) <;> (with_reducible rfl)))
        refine (h2.px _).app (.inl ⟨rfl, rfl⟩) (by simp) fun n H' hc' h' => ?_
        repeat' (first | ((with_reducible refine cond_mk (fun hb => ?_) (fun hb => ?_)) <;> ((try simp only [if_true, if_false, q_a, q_b, q_c, q_d, q_e, q_f, q_g, q_h, q_i, q_j, q_k, q_l, q_m, q_n, q_o, q_p, q_q, q_r, q_s, reduceCtorEq] at hb); (try (exfalso; first | (exact hb) | contradiction | omega)))) | ((with_reducible refine grp_mk ?_ (fun hb => ?_) (fun _ => ?_)) <;> (try simp only [if_true, if_false, q_a, q_b, q_c, q_d, q_e, q_f, q_g, q_h, q_i, q_j, q_k, q_l, q_m, q_n, q_o, q_p, q_q, q_r, q_s, reduceCtorEq] at hb)) | (with_reducible refine fun (base : Nat) (hbase : Fresh _ base) => ?_) | ((with_reducible refine mk_alloc (fun id hid => ?_)); have hid0 := hid.none; (try have hlt := hid.lt (Heap.set_same _ _ _))) | ((with_reducible refine mk_box ?_ (fun id hid => ?_)); (simp only [go_sem]; done); have hid0 := hid.none; (try have hlt := hid.lt (Heap.set_same _ _ _))) | ((with_reducible refine And.intro ?_ ?_); (first | decide | omega)) | ((with_reducible refine at_here (P := m18_1 _ _ _) ?_); unfold m18_1 w18_1) | ((with_reducible refine at_here (P := m18_5 _ _ _) ?_); unfold m18_5 w18_5) | ((with_reducible refine at_here (P := m18_4 _ _ _) ?_); unfold m18_4 w18_4) | ((with_reducible refine at_here (P := m18_10 _ _ _ _) ?_); unfold m18_10 w18_10) | ((with_reducible refine at_here (P := m18_14 _ _ _) ?_); unfold m18_14 w18_14) | ((with_reducible refine at_here (P := m18_13 _ _ _) ?_); unfold m18_13 w18_13) | ((with_reducible refine at_here (P := m18_12 _ _ _) ?_); unfold m18_12 w18_12) | ((with_reducible refine at_here (P := m18_11 _ _ _) ?_); unfold m18_11 w18_11) | ((with_reducible refine at_here (P := m18_8 _ _ _) ?_); unfold m18_8 w18_8) | ((with_reducible refine at_here (P := m18_6 _ _) ?_); unfold m18_6 w18_6) | ((with_reducible refine at_here (P := m18_2 _ _) ?_); unfold m18_2 w18_2) | (simp (disch := omega) only [go_sem, Heap.get_ne, wrap64_id, Nat.reduceAdd, Nat.reduceLeDiff, Nat.reduceSub, Nat.reduceMul, Nat.reduceEqDiff, Nat.reduceBEq, Int.reduceLT, Int.reduceLE, Int.reduceEq, Int.reduceNeg, Int.reduceToNat, Int.reduceAdd, Int.reduceSub, hc']) | (with_reducible rfl) | ((with_reducible refine And.intro ?_ ?_) <;> (with_reducible rfl)))
        exact vf7 hE hF hp hlen h'.drop (.inr ⟨n, rfl⟩) (BRows.nil.snoc ⟨_, rfl, hX⟩)
end Go.Abs
set_option linter.unusedSimpArgs false
set_option linter.unusedVariables false
set_option maxRecDepth 100000
namespace Go.Abs
variable {E : Env}
section
variable {k : AV → Prop}
@[go_sem] theorem slice_ints (l : List Int) (q : IntKind) (h : Int) : pW (.slice 1 (.c (ints l)) none (some (.c (.int q h)))) k = ((0 ≤ h ∧ h ≤ l.length) ∧ k (ints (l.take h.toNat))) := by
  unfold ints; rw [p_slice1, List.length_map, List.map_take]
@[go_sem] theorem slice_vfs (l : List VF) (q : IntKind) (h : Int) : pW (.slice 3 (.c (vfs l)) none (some (.c (.int q h)))) k = ((0 ≤ h ∧ h ≤ l.length) ∧ k (vfs (l.take h.toNat))) := by
  unfold vfs; rw [p_slice1, List.length_map, List.map_take]
@[go_sem] theorem slice_vfs2 (l : List VF) (q : IntKind) (h : Int) : pW (.slice 3 (.c (vfs l)) (some (.c (.int q h))) none) k = ((0 ≤ h ∧ h ≤ l.length) ∧ k (vfs (l.drop h.toNat))) := by
  unfold vfs; rw [p_slice2, List.length_map, List.map_drop]
end
theorem take_min (l : List Int) (n : Nat) (m : Int) (hm : m = n) : (if m < (l.length : Int) then m else (l.length : Int)) = ((min n l.length : Nat) : Int) := by
  subst hm; split <;> omega
theorem take_min2 (l : List Int) (n : Nat) : l.take (min n l.length) = l.take n := by
  rcases Nat.le_total n l.length with h | h
  · rw [Nat.min_eq_left h]
  · rw [Nat.min_eq_right h, List.take_length, List.take_of_length_le h]

theorem vfuncs_spec (hE : E.Good) (hF : E.Fits tab) (l m : List Int) : PF E 22 [ints l, ints m] (.tup [vfs (vfs2 l m), ints [3, 2]]) := by
  have e36 := take_min l 36 36 rfl
  have e18 := take_min m 18 18 rfl
  have s1 := vfunc_spec hE hF (l.take 36) 2 (by omega)
  have s2 := vfunc_spec hE hF (m.take 18) 1 (by omega)
  intro H; refine ent22 hE hF _ _ _ _ ?_; unfold w22
  repeat' (first | ((with_reducible refine cond_mk (fun hb => ?_) (fun hb => ?_)) <;> ((try simp only [if_true, if_false, q_a, q_b, q_c, q_d, q_e, q_f, q_g, q_h, q_i, q_j, q_k, q_l, q_m, q_n, q_o, q_p, q_q, q_r, q_s, reduceCtorEq] at hb); (try (exfalso; first | (exact hb) | contradiction | omega)))) | ((with_reducible refine grp_mk ?_ (fun hb => ?_) (fun _ => ?_)) <;> (try simp only [if_true, if_false, q_a, q_b, q_c, q_d, q_e, q_f, q_g, q_h, q_i, q_j, q_k, q_l, q_m, q_n, q_o, q_p, q_q, q_r, q_s, reduceCtorEq] at hb)) | ((with_reducible refine call_pure (s1) ?_); intro _) | ((with_reducible refine pc_pure (s1) ?_)) | ((with_reducible refine dcall_pure0 (s1) ?_)) | ((with_reducible refine call_pure (s2) ?_); intro _) | ((with_reducible refine pc_pure (s2) ?_)) | ((with_reducible refine dcall_pure0 (s2) ?_)) | (with_reducible refine fun (base : Nat) (hbase : Fresh _ base) => ?_) | ((with_reducible refine mk_alloc (fun id hid => ?_)); have hid0 := hid.none; (try have hlt := hid.lt (Heap.set_same _ _ _))) | ((with_reducible refine mk_box ?_ (fun id hid => ?_)); (simp only [go_sem]; done); have hid0 := hid.none; (try have hlt := hid.lt (Heap.set_same _ _ _))) | ((with_reducible refine And.intro ?_ ?_); (first | decide | omega)) | (simp (disch := omega) only [go_sem, Heap.get_ne, wrap64_id, Nat.reduceAdd, Nat.reduceLeDiff, Nat.reduceSub, Nat.reduceMul, Nat.reduceEqDiff, Nat.reduceBEq, Int.reduceLT, Int.reduceLE, Int.reduceEq, Int.reduceNeg, Int.reduceToNat, Int.reduceAdd, Int.reduceSub, e36, e18, Int.toNat_natCast, take_min2]) | (with_reducible rfl) | ((with_reducible refine And.intro ?_ ?_) <;> (with_reducible rfl)))
  refine mk_bsl rfl fun i hi => ?_
  refine mk_bsl rfl fun j hj => ?_
  have hij : i ≠ j := hj.ne (Heap.set_same _ _ _)
  refine .frz i _ (fun _ => .tup [vfs (vfs2 l m), .sl 1 j 0 2]) ((Heap.get_ne _ _ _ _ hij).trans (Heap.set_same _ _ _)) (fun _ => .inr ?_) ?_
  · simp only [frz, frz0, frz1, List.map_cons, List.map_nil, if_neg (fun e : j = i ∧ _ => hij e.1.symm)]
    rfl
  refine .frz j _ (fun _ => .tup [vfs (vfs2 l m), ints [3, 2]]) ((Heap.get_ne _ _ _ _ (Ne.symm hij)).trans (Heap.set_same _ _ _)) (fun _ => .inr ?_) ?_
  · simp only [frz, frz0, frz1, List.map_cons, List.map_nil]
    rfl
  refine .le (fun _ => .tup [vfs (vfs2 l m), ints [3, 2]]) H (fun _ => VLe.refl _) (fun k => ?_) (.here ⟨rfl, rfl⟩)
  cases e : H k with
  | none => exact .inl rfl
  | some b =>
    have h1 := hi.ne e
    have h2 : k ≠ j := hj.ne ((Heap.get_ne _ _ _ _ h1).trans e)
    exact .inr (by rw [Heap.get_ne _ _ _ _ h2, Heap.get_ne _ _ _ _ h1, Heap.get_ne _ _ _ _ h2, Heap.get_ne _ _ _ _ h1, e])
end Go.Abs
set_option linter.unusedSimpArgs false
set_option linter.unusedVariables false
set_option maxRecDepth 100000
namespace Go.Abs
variable {E : Env}

/-- The blocks' rows, of block p the instructions stand in a row of their own. -/
def full (c : VF) (p i k : Nat) (en reg tgt els : Int) : Blk := (c.blocks.map Bl.cells).set p (blr (.sl 6 i 0 k) en reg tgt els)
theorem frz_bl (w : Nat) (es : Blk) (b : Bl) : b.cells.map (frz1 w es) = b.cells := rfl
theorem frz_fulli {c : VF} {p i k : Nat} {en reg tgt els : Int} (es : Blk) (hk : k = es.length) : (full c p i k en reg tgt els).map (fun cs => cs.map (frz1 i es)) = (c.blocks.map Bl.cells).set p (blr (.ro 6 es) en reg tgt els) := by
  subst hk
  unfold full
  rw [List.map_set]
  congr 1
  · refine (List.map_congr_left fun row hrow => ?_).trans (List.map_id _)
    obtain ⟨b, -, rfl⟩ := List.mem_map.1 hrow
    exact frz_bl i es b
  · simp [blr, frz1]

/-- A function is given back, one block's instructions in a row of their own. -/
theorem ret_mut {G H : Heap} {Y : List (Nat × Blk)} {c f : VF} {p n i m : Nat} {en reg tgt els : Int} {irows : Blk} {ins : List VI} (hp : p < c.blocks.length) (hm : m ≤ c.blocks.length) (hins : VLe (.ro 6 irows) (vins ins))
    (hf : f.blocks = (c.blocks.set p ⟨ins, en, reg, tgt, els⟩).take m) (h : HoldsG G H ((n, full c p i irows.length en reg tgt els) :: (i, irows) :: Y)) : RetC (Ret (.agg f.cells) G) (.agg (vfc f (.sl 5 n 0 m))) H := by
  have hni : n ≠ i := by
    have := h.to.1
    simp only [List.map_cons, List.nodup_cons, List.mem_cons, not_or] at this
    exact this.1.1
  have e1 := frz_fulli (c := c) (p := p) (i := i) (en := en) (reg := reg) (tgt := tgt) (els := els) irows rfl
  refine .frz2 i irows n _ _ (h.get (by simp)) hni (h.get (k := n) (b := full c p i irows.length en reg tgt els) (by simp)) (fun _ => .inl rfl) ?_
  rw [e1]
  have h2 : HoldsG G ((H.set i none).set n (some ((c.blocks.map Bl.cells).set p (blr (.ro 6 irows) en reg tgt els)))) ((n, (c.blocks.map Bl.cells).set p (blr (.ro 6 irows) en reg tgt els)) :: Y) := by
    have h3 : HoldsG G H ([(i, irows)] ++ ((n, full c p i irows.length en reg tgt els) :: Y)) := h.perm (List.Perm.swap _ _ _)
    have h4 : HoldsG G (H.set i none) ((n, full c p i irows.length en reg tgt els) :: Y) := h3.frame (X' := []) ⟨by simp, by simp⟩ ((Kept.refl _ _).step _ (.inl (by simp))) (by simp)
    exact h4.set
  refine .frz n _ (fun _ => .agg (vfc f (.ro 5 (((c.blocks.map Bl.cells).set p (blr (.ro 6 irows) en reg tgt els)).take m)))) (h2.get List.mem_cons_self) (fun _ => .inr ?_) (.le (fun _ => .agg f.cells) G (fun _ => vle_vf ?_) (fun k => ?_) (.here ⟨rfl, rfl⟩))
  · simp [frz, frz0, frz1, vfc, hm]
  · rw [hf]
    refine vle_ro (by simp) fun j a b ha hb => ?_
    rw [List.getElem?_map, Option.map_eq_some_iff] at hb
    obtain ⟨b', hb', rfl⟩ := hb
    have hj := (List.getElem?_eq_some_iff.1 ha).1
    have hjm : j < m := by simp at hj; omega
    rw [List.getElem?_take_of_lt hjm] at ha hb'
    by_cases e : j = p
    · subst e
      rw [List.getElem?_set_self (by simpa using hp)] at ha
      rw [List.getElem?_set_self hp] at hb'
      cases ha; cases hb'
      exact ⟨rfl, vle_blr hins _ _ _ _⟩
    · rw [List.getElem?_set_ne (Ne.symm e), List.getElem?_map, Option.map_eq_some_iff] at ha
      rw [List.getElem?_set_ne (Ne.symm e)] at hb'
      obtain ⟨b2, hb2, rfl⟩ := ha
      rw [hb'] at hb2; cases hb2
      exact ⟨rfl, fun j x y hx hy => by rw [hx] at hy; cases hy; exact VLe.refl _⟩
  · cases e : G k with
    | none => exact .inl rfl
    | some b =>
      have := h2.kp k b e
      refine .inr ?_
      rw [Heap.get_ne _ _ _ _ (fun e2 => this.2 (by rw [e2]; simp))]
      exact this.1.symm

/-- What the copying has come to: b blocks. -/
def MS (G : Heap) (c : VF) (p o r d : Nat) (how : Int) (b : Nat) (H : Heap) : Prop :=
  ∃ ov i, OwnR 5 ov ((full c p i (c.blocks.getD p default).ins.length (c.blocks.getD p default).en (c.blocks.getD p default).reg (c.blocks.getD p default).tgt (c.blocks.getD p default).els).take b) ∧
    HoldsG G H ((o, [vfc ⟨c.params, c.regs, []⟩ ov]) :: (r, [z3]) :: (d, [[.int .i64 how]]) :: (ownR ov ((full c p i (c.blocks.getD p default).ins.length (c.blocks.getD p default).en (c.blocks.getD p default).reg (c.blocks.getD p default).tgt (c.blocks.getD p default).els).take b) ++
      if p < b then [(i, (c.blocks.getD p default).ins.map VI.cells)] else []))


/-- The copy stands whole; v is the instruction to change (or one of no account, if its block has none). -/
def MV (G : Heap) (c : VF) (p o r d n i vi vq q : Nat) (how : Int) (f0 : VF) (m : Nat) (en reg tgt els : Int) (irows : Blk) (vcells : List AV) (H : Heap) : Prop :=
  ∃ Z, HoldsG G H ((o, [vfc f0 (.sl 5 n 0 m)]) :: (r, [z3]) :: (d, [[.int .i64 how]]) :: (n, full c p i irows.length en reg tgt els) :: (i, irows) :: Z) ∧
    ((Z = [] ∧ vi = i ∧ vq = q ∧ irows[q]? = some vcells) ∨ (Z = [(vi, [vcells])] ∧ vq = 0 ∧ irows = []))
section
variable {G H : Heap} {c f0 : VF} {p o r d n i vi vq q m : Nat} {how en reg tgt els : Int} {irows : Blk} {vcells : List AV}
theorem MV.ho (h : MV G c p o r d n i vi vq q how f0 m en reg tgt els irows vcells H) : H o = some [vfc f0 (.sl 5 n 0 m)] := by
  obtain ⟨Z, h, -⟩ := h; exact h.get (by simp)
theorem MV.hr (h : MV G c p o r d n i vi vq q how f0 m en reg tgt els irows vcells H) : H r = some [z3] := by
  obtain ⟨Z, h, -⟩ := h; exact h.get (by simp)
theorem MV.hn (h : MV G c p o r d n i vi vq q how f0 m en reg tgt els irows vcells H) : H n = some (full c p i irows.length en reg tgt els) := by
  obtain ⟨Z, h, -⟩ := h; exact h.get (by simp)
theorem MV.ne (h : MV G c p o r d n i vi vq q how f0 m en reg tgt els irows vcells H) : o ≠ r ∧ o ≠ n ∧ r ≠ n ∧ o ≠ vi ∧ r ≠ vi ∧ n ≠ vi := by
  obtain ⟨Z, h, h2⟩ := h
  have := h.to.1
  simp only [List.map_cons, List.nodup_cons, List.mem_cons, not_or] at this
  obtain ⟨⟨a1, a2, a3, a4, a5⟩, ⟨b1, b2, b3, b4⟩, -, ⟨c1, c2⟩, -⟩ := this
  rcases h2 with ⟨rfl, rfl, -⟩ | ⟨rfl, -⟩
  · exact ⟨a1, a3, b2, a4, b3, c1⟩
  · simp at a5 b4 c2
    exact ⟨a1, a3, b2, a5, b4, c2⟩
theorem MV.hv (h : MV G c p o r d n i vi vq q how f0 m en reg tgt els irows vcells H) : ∃ vr : Blk, H vi = some vr ∧ vr[vq]? = some vcells ∧ ∀ cs', MV G c p o r d n i vi vq q how f0 m en reg tgt els (irows.set q cs') cs' (H.set vi (some (vr.set vq cs'))) := by
  obtain ⟨Z, h, h2⟩ := h
  rcases h2 with ⟨rfl, rfl, rfl, h3⟩ | ⟨rfl, rfl, rfl⟩
  · refine ⟨irows, h.get (by simp), h3, fun cs' => ⟨[], ?_, .inl ⟨rfl, rfl, rfl, ?_⟩⟩⟩
    · rw [List.length_set]
      exact h.put (i := 4) rfl
    · rw [List.getElem?_set_self (List.getElem?_eq_some_iff.1 h3).1]
  · refine ⟨[vcells], h.get (by simp), rfl, fun cs' => ⟨[(vi, [cs'])], ?_, .inr ⟨rfl, rfl, rfl⟩⟩⟩
    exact h.put (i := 5) rfl
theorem MV.next (hE : E.Good) (hF : E.Fits tab) (h : MV G c p o r d n i vi vq q how f0 m en reg tgt els irows vcells H) {k : Int} (hm : 0 < k) (hm2 : k < 1000000000) :
    ACall E 47 [.ptr d 0 0, .int .i64 k] H (fun v H' => v = .int .i64 (how % k) ∧ MV G c p o r d n i vi vq q (nxt how k) f0 m en reg tgt els irows vcells H') := by
  obtain ⟨Z, h, h2⟩ := h
  refine ACall.mono (next_spec hE hF (n := how) (h.get (by simp)) hm hm2) ?_
  rintro _ _ ⟨rfl, rfl⟩
  exact ⟨rfl, Z, h.put (i := 2) rfl, h2⟩
theorem MV.ret (h : MV G c p o r d n i vi vq q how f0 m en reg tgt els irows vcells H) {f : VF} {ins : List VI} (hp : p < c.blocks.length) (hm : m ≤ c.blocks.length) (hins : VLe (.ro 6 irows) (vins ins))
    (hf : f.blocks = (c.blocks.set p ⟨ins, en, reg, tgt, els⟩).take m) (h0 : f.params = f0.params ∧ f.regs = f0.regs) : RetC (Ret (.agg f.cells) G) (.agg (vfc f0 (.sl 5 n 0 m))) (H.set r (some [vfc f0 (.sl 5 n 0 m)])) := by
  obtain ⟨Z, h, h2⟩ := h
  have h3 := h.put (i := 1) (b' := [vfc f0 (.sl 5 n 0 m)]) rfl
  have e : vfc f0 (.sl 5 n 0 m) = vfc f (.sl 5 n 0 m) := by unfold vfc; rw [h0.1, h0.2]
  have h4 : HoldsG G (H.set r (some [vfc f0 (.sl 5 n 0 m)])) ((n, full c p i irows.length en reg tgt els) :: (i, irows) :: ((o, [vfc f0 (.sl 5 n 0 m)]) :: (r, [vfc f0 (.sl 5 n 0 m)]) :: (d, [[.int .i64 how]]) :: Z)) := h3.perm (perm_of_count fun i _ a => by simp only [List.set_cons_succ, List.set_cons_zero, List.count_append, List.count_cons, List.count_nil]; omega)
  rw [e] at h4 ⊢
  exact ret_mut hp hm hins hf h4
end

@[go_sem] theorem spl_z3' (c : VF) (X : AV) : spl z3 0 (vfc c X) = vfc c X := id rfl
@[go_sem] theorem set_vfc0 (c : VF) (X : AV) (n : Int) : (vfc c X).set 0 (.int .i64 n) = vfc { c with params := n } X := id rfl



end Go.Abs
set_option linter.unusedSimpArgs false
set_option linter.unusedVariables false
set_option maxRecDepth 100000
namespace Go.Abs
variable {E : Env}

@[go_sem] theorem drop_vf0 (c : VF) : c.cells.drop 0 = [.int .i64 c.params, .int .i64 c.regs, bls c.blocks] := id rfl
@[go_sem] theorem drop_vf1 (c : VF) : c.cells.drop 1 = [.int .i64 c.regs, bls c.blocks] := id rfl


end Go.Abs
set_option linter.unusedSimpArgs false
set_option linter.unusedVariables false
set_option maxRecDepth 100000
namespace Go.Abs
variable {E : Env}

/-- The state stands before the end of a function that gives v. -/
structure AtRet (s : St) (v : Int) : Prop where
  pc : s.top.pc = (s.top.f.blocks.getD s.top.bi.toNat default).ins.length
  en : (s.top.f.blocks.getD s.top.bi.toNat default).en = 3
  val : s.top.regs.getD (s.top.f.blocks.getD s.top.bi.toNat default).reg.toNat 0 = v
def CallPost (I : Ids) (B : List (Nat × Blk)) (s : St) (m : Int) : AV → Heap → Prop := fun x H' => ∃ k s' ov' v lg m', x = .int .i64 v ∧ Prog I.l k s s' ∧ RX I ov' B s' m' lg H' ∧
  ((lg = false ∧ s'.over = false ∧ (k : Int) + 1 ≤ m ∧ m' = m - k - 1 ∧ s'.rest = s.rest ∧ s'.top.to = s.top.to ∧ AtRet s' v)
   ∨ (lg = false ∧ s'.over = true ∧ (k : Int) ≤ m ∧ s'.val = 0)
   ∨ (lg = true ∧ s'.over = false ∧ k = m.toNat))
/-- What a run asks of the program and of a state, and how far it may go. -/
structure Okay (I : Ids) (lens : List Int) (n : Nat) (s : St) (m : Int) : Prop where
  inv : Inv I.l lens n s
  w : StW s
  few : (n : Int) + m ≤ 800000
  n0 : n ≤ 800000
/-- The contract of call, for at most N steps. -/
def CallOk (E : Env) (I : Ids) (lens : List Int) (N : Nat) : Prop := ∀ {ov av : AV} {B : List (Nat × Blk)} {s : St} {m : Int} {H : Heap} {n : Nat} {f : Int}, m.toNat ≤ N → Okay I lens n s m → s.over = false → s.top.regs = [] → s.top.bi = 0 → s.top.pc = 0 → ArgV av s.top.args → (∀ p ∈ ownL av s.top.args, p ∈ B) →
  (0 ≤ f ∧ f < I.l.length) → I.l.getD f.toNat default = s.top.f → RX I ov B s m false H → ACall E 51 [.ptr I.r 0 0, .int .i64 f, av] H (CallPost I B s m)
/-- How an instruction ends; m: the steps left behind its own. -/
def DoPost (I : Ids) (rb : Nat) (rs : List Int) (B : List (Nat × Blk)) (s : St) (m : Int) : AV → Heap → Prop := fun x H' => x = .tup [] ∧ ∃ k s' ov' rs' lg m', 1 ≤ k ∧ Prog I.l k s s' ∧ RX I ov' ((rb, rs'.map icell) :: B) s' m' lg H' ∧ rs'.length = rs.length ∧
  ((lg = false ∧ s'.over = false ∧ m' = m + 1 - k ∧ (k : Int) ≤ m + 1 ∧ s'.rest = s.rest ∧ (∃ regs', s'.top = { s.top with pc := s.top.pc + 1, regs := regs' } ∧ Agr s.top.f rs' regs'))
   ∨ (lg = false ∧ s'.over = true ∧ (k : Int) ≤ m + 1 ∧ s'.val = 0)
   ∨ (lg = true ∧ s'.over = false ∧ k = (m + 1).toNat))


section
variable {I : Ids} {lens : List Int} {ov : AV} {B : List (Nat × Blk)} {s : St} {m : Int} {H : Heap}
theorem RX.any {lg : Bool} (h : RX I ov B s m lg H) (t : Fr) (r : List Fr) : RX I ov B { s with top := t, rest := r } m lg H := ⟨h.holds, h.hov, h.hcv, h.hov2⟩



end
end Go.Abs
set_option linter.unusedSimpArgs false
set_option linter.unusedVariables false
set_option maxRecDepth 100000
namespace Go.Abs
variable {E : Env}

inductive Mode where
  | cur (k : Nat)
  | ovr
  | lng
/-- Where a call stands that began at s with m steps left: at block a, instruction p; or it is over; or the steps are used up. -/
def InM (I : Ids) (B : List (Nat × Blk)) (rb n : Nat) (s : St) (m a p : Int) : Mode → Heap → Prop
  | .cur k, H => ∃ (s' : St) (ov' : AV) (rs' : List Int), Prog I.l k s s' ∧ RX I ov' ((rb, rs'.map icell) :: B) s' (m - k) false H ∧ rs'.length = n ∧ k ≤ m.toNat ∧ s'.over = false ∧ s'.rest = s.rest ∧ (∃ regs', s'.top = ⟨s.top.f, regs', s.top.args, a, p, s.top.to⟩ ∧ Agr s.top.f rs' regs')
  | .ovr, H => ∃ (k : Nat) (s' : St) (ov' : AV) (rs' : List Int) (m' : Int), Prog I.l k s s' ∧ RX I ov' ((rb, rs'.map icell) :: B) s' m' false H ∧ rs'.length = n ∧ s'.over = true ∧ (k : Int) ≤ m ∧ s'.val = 0
  | .lng, H => ∃ (k : Nat) (s' : St) (ov' : AV) (rs' : List Int) (m' : Int), Prog I.l k s s' ∧ RX I ov' ((rb, rs'.map icell) :: B) s' m' true H ∧ rs'.length = n ∧ s'.over = false ∧ k = m.toNat

section
variable {I : Ids} {lens : List Int} {B : List (Nat × Blk)} {s : St} {m : Int} {H : Heap} {rb n : Nat} {R : AV → Heap → Prop} {K1 : Tm → Heap → Prop} {av : AV}


end
end Go.Abs
set_option linter.unusedSimpArgs false
set_option linter.unusedVariables false
set_option maxRecDepth 100000
namespace Go.Abs
variable {E : Env}

section
variable {I : Ids} {lens : List Int} {B : List (Nat × Blk)} {s : St} {m : Int} {H : Heap} {rb n : Nat} {R : AV → Heap → Prop} {K1 : Tm → Heap → Prop} {av : AV}

end
end Go.Abs
set_option linter.unusedSimpArgs false
set_option linter.unusedVariables false
set_option maxRecDepth 100000
namespace Go.Abs
variable {E : Env}

def Mode.mu (m : Int) : Mode → Nat
  | .cur k => m.toNat + 1 - k
  | _ => 0
end Go.Abs
set_option linter.unusedSimpArgs false
set_option linter.unusedVariables false
set_option maxRecDepth 100000
namespace Go.Abs
variable {E : Env}

@[go_sem] theorem inc_end {l : List VF} {cv ov : AV} {fu mo k c v : Int} {o lg : Bool} : ((inc l cv ov fu mo k c v o lg).drop 5).take 4 = [.int .i64 k, .int .i64 c, .nilsl, .int .i64 v] := id rfl
@[go_sem] theorem inc_end2 {l : List VF} {cv ov x : AV} {fu mo k c v : Int} {o lg : Bool} : (((inc l cv ov fu mo k c v o lg).set 7 x).drop 5).take 4 = [.int .i64 k, .int .i64 c, x, .int .i64 v] := id rfl
@[go_sem] theorem inc_st {l : List VF} {cv ov : AV} {fu mo k c v k' c' v' : Int} {o lg : Bool} : (inc l cv ov fu mo k c v o lg).take 5 ++ ([.int .i64 k', .int .i64 c', .nilsl, .int .i64 v'] ++ (inc l cv ov fu mo k c v o lg).drop 9) = inc l cv ov fu mo k' c' v' o lg := id rfl
@[go_sem] theorem inc_setl {l : List VF} {cv ov x : AV} {fu mo k c v : Int} {o lg : Bool} : ((inc l cv ov fu mo k c v o lg).set 7 x).length = 11 := id rfl


section
variable {G : Heap} {id : Nat} {I : Ids} {ov : AV} {B : List (Nat × Blk)} {s : St} {m : Int} {lg : Bool} {H : Heap} {R : AV → Heap → Prop}
end


end Go.Abs
/- How large the generators' functions are. -/
namespace Go.Abs

structure SzF (k : Nat) (c : VF) : Prop where
  bl : c.blocks.length ≤ k
  ins : ∀ b ∈ c.blocks, b.ins.length ≤ k
  args : ∀ b ∈ c.blocks, ∀ v ∈ b.ins, v.args.length ≤ k
theorem SzF.mono {k k' : Nat} {c : VF} (h : SzF k c) (hk : k ≤ k') : SzF k' c := ⟨Nat.le_trans h.bl hk, fun b hb => Nat.le_trans (h.ins b hb) hk, fun b hb v hv => Nat.le_trans (h.args b hb v hv) hk⟩
end Go.Abs
set_option linter.unusedSimpArgs false
set_option linter.unusedVariables false
set_option maxRecDepth 100000
namespace Go.Abs
variable {E : Env}


end Go.Abs
set_option linter.unusedSimpArgs false
set_option linter.unusedVariables false
set_option maxRecDepth 100000
namespace Go.Abs
variable {E : Env}


/-- Rows of one cell each. -/
def col {α : Type} (f : α → AV) (l : List α) : AV := .ro 1 (l.map fun x => [f x])
section
variable {k : AV → Prop}
end





end Go.Abs
set_option linter.unusedSimpArgs false
set_option linter.unusedVariables false
set_option maxRecDepth 100000
namespace Go.Abs
variable {E : Env}

theorem vfs2_par (l m : List Int) {j : Nat} (hj : j < 2) : ((vfs2 l m).getD j default).params = 2 - j := by
  match j with
  | 0 => rfl
  | 1 => rfl


set_option maxHeartbeats 4000000 in
theorem law8_spec (hE : E.Good) (hF : E.Fits tab) (l m : List Int) (f a b w fuel n k : Int) :
    PF E 8 [ints l, ints m, .int .i64 f, .int .i64 a, .int .i64 b, .int .i64 w, .int .i64 fuel, .int .i64 n, .int .i64 k] (.bool true) := by
  have q0 := Int.emod_nonneg f (show (2 : Int) ≠ 0 by decide)
  have q1 := Int.emod_lt_of_pos f (show (0 : Int) < 2 by decide)
  have q2 := Int.emod_nonneg n (show (150 : Int) ≠ 0 by decide)
  have q3 := Int.emod_lt_of_pos n (show (0 : Int) < 150 by decide)
  have q4 := Int.emod_nonneg k (show (100 : Int) ≠ 0 by decide)
  have q5 := Int.emod_lt_of_pos k (show (0 : Int) < 100 by decide)
  have hl2 : (vfs2 l m).length = 2 := rfl
  have hj : (f % 2).toNat < 2 := by omega
  have hp := vfs2_par l m hj
  have hal : (argsV a b w).length = 2 := rfl
  have hmore := @runV_more (vfs2 l m) [3, 2] (f % 2) ((argsV a b w).take (2 - ((f % 2).toNat : Int)).toNat) (fuel % 12) (n % 150) (n % 150 + k % 100) (by omega)
  have s1 := vrun_spec hE hF (vfs2 l m) [3, 2] (f % 2) ((argsV a b w).take (2 - ((f % 2).toNat : Int)).toNat) (fuel % 12) (n % 150) (by omega)
  have s2 := vrun_spec hE hF (vfs2 l m) [3, 2] (f % 2) ((argsV a b w).take (2 - ((f % 2).toNat : Int)).toNat) (fuel % 12) (n % 150 + k % 100) (by omega)
  intro H; refine ent8 hE hF _ _ _ _ _ _ _ _ _ _ _ ?_; unfold w8
  repeat' (first | ((with_reducible refine cond_mk (fun hb => ?_) (fun hb => ?_)) <;> ((try simp only [if_true, if_false, q_a, q_b, q_c, q_d, q_e, q_f, q_g, q_h, q_i, q_j, q_k, q_l, q_m, q_n, q_o, q_p, q_q, q_r, q_s, reduceCtorEq] at hb); (try (exfalso; first | (exact hb) | contradiction | omega)))) | ((with_reducible refine grp_mk ?_ (fun hb => ?_) (fun _ => ?_)) <;> (try simp only [if_true, if_false, q_a, q_b, q_c, q_d, q_e, q_f, q_g, q_h, q_i, q_j, q_k, q_l, q_m, q_n, q_o, q_p, q_q, q_r, q_s, reduceCtorEq] at hb)) | ((with_reducible refine call_pure (vfuncs_spec hE hF l m) ?_); intro _) | ((with_reducible refine pc_pure (vfuncs_spec hE hF l m) ?_)) | ((with_reducible refine dcall_pure0 (vfuncs_spec hE hF l m) ?_)) | ((with_reducible refine call_pure (pick_spec hE hF _ _ (by decide) (by decide)) ?_); intro _) | ((with_reducible refine pc_pure (pick_spec hE hF _ _ (by decide) (by decide)) ?_)) | ((with_reducible refine dcall_pure0 (pick_spec hE hF _ _ (by decide) (by decide)) ?_)) | ((with_reducible refine call_pure (args_spec hE hF _ _ _) ?_); intro _) | ((with_reducible refine pc_pure (args_spec hE hF _ _ _) ?_)) | ((with_reducible refine dcall_pure0 (args_spec hE hF _ _ _) ?_)) | (with_reducible refine fun (base : Nat) (hbase : Fresh _ base) => ?_) | ((with_reducible refine mk_alloc (fun id hid => ?_)); have hid0 := hid.none; (try have hlt := hid.lt (Heap.set_same _ _ _))) | ((with_reducible refine mk_box ?_ (fun id hid => ?_)); (simp only [go_sem]; done); have hid0 := hid.none; (try have hlt := hid.lt (Heap.set_same _ _ _))) | ((with_reducible refine And.intro ?_ ?_); (first | decide | omega)) | (simp (disch := omega) only [go_sem, Heap.get_ne, wrap64_id, Nat.reduceAdd, Nat.reduceLeDiff, Nat.reduceSub, Nat.reduceMul, Nat.reduceEqDiff, Nat.reduceBEq, Int.reduceLT, Int.reduceLE, Int.reduceEq, Int.reduceNeg, Int.reduceToNat, Int.reduceAdd, Int.reduceSub, hp, hl2]) | (with_reducible rfl) | ((with_reducible refine And.intro ?_ ?_) <;> (with_reducible rfl)))
  generalize (argsV a b w).take (2 - ((f % 2).toNat : Int)).toNat = ag at hmore s1 s2
  repeat' (first | ((with_reducible refine cond_mk (fun hb => ?_) (fun hb => ?_)) <;> ((try simp only [if_true, if_false, q_a, q_b, q_c, q_d, q_e, q_f, q_g, q_h, q_i, q_j, q_k, q_l, q_m, q_n, q_o, q_p, q_q, q_r, q_s, reduceCtorEq] at hb); (try (exfalso; first | (exact hb) | contradiction | omega)))) | ((with_reducible refine grp_mk ?_ (fun hb => ?_) (fun _ => ?_)) <;> (try simp only [if_true, if_false, q_a, q_b, q_c, q_d, q_e, q_f, q_g, q_h, q_i, q_j, q_k, q_l, q_m, q_n, q_o, q_p, q_q, q_r, q_s, reduceCtorEq] at hb)) | ((with_reducible refine call_pure (pick_spec hE hF _ _ (by decide) (by decide)) ?_); intro _) | ((with_reducible refine pc_pure (pick_spec hE hF _ _ (by decide) (by decide)) ?_)) | ((with_reducible refine dcall_pure0 (pick_spec hE hF _ _ (by decide) (by decide)) ?_)) | ((with_reducible refine call_pure (fuel_spec hE hF _) ?_); intro _) | ((with_reducible refine pc_pure (fuel_spec hE hF _) ?_)) | ((with_reducible refine dcall_pure0 (fuel_spec hE hF _) ?_)) | ((with_reducible refine call_pure (s1) ?_); intro _) | ((with_reducible refine pc_pure (s1) ?_)) | ((with_reducible refine dcall_pure0 (s1) ?_)) | ((with_reducible refine call_pure (s2) ?_); intro _) | ((with_reducible refine pc_pure (s2) ?_)) | ((with_reducible refine dcall_pure0 (s2) ?_)) | ((with_reducible refine call_pure (sameOc_spec hE hF _ _) ?_); intro _) | ((with_reducible refine pc_pure (sameOc_spec hE hF _ _) ?_)) | ((with_reducible refine dcall_pure0 (sameOc_spec hE hF _ _) ?_)) | ((with_reducible refine call_pure (examples_spec hE hF) ?_); intro _) | ((with_reducible refine pc_pure (examples_spec hE hF) ?_)) | ((with_reducible refine dcall_pure0 (examples_spec hE hF) ?_)) | (with_reducible refine fun (base : Nat) (hbase : Fresh _ base) => ?_) | ((with_reducible refine mk_alloc (fun id hid => ?_)); have hid0 := hid.none; (try have hlt := hid.lt (Heap.set_same _ _ _))) | ((with_reducible refine mk_box ?_ (fun id hid => ?_)); (simp only [go_sem]; done); have hid0 := hid.none; (try have hlt := hid.lt (Heap.set_same _ _ _))) | ((with_reducible refine And.intro ?_ ?_); (first | decide | omega)) | (simp (disch := omega) only [go_sem, Heap.get_ne, wrap64_id, Nat.reduceAdd, Nat.reduceLeDiff, Nat.reduceSub, Nat.reduceMul, Nat.reduceEqDiff, Nat.reduceBEq, Int.reduceLT, Int.reduceLE, Int.reduceEq, Int.reduceNeg, Int.reduceToNat, Int.reduceAdd, Int.reduceSub, hl2]) | (with_reducible rfl) | ((with_reducible refine And.intro ?_ ?_) <;> (with_reducible rfl)))
  (with_reducible refine ret_eq ?_ ?_; (repeat' (first | exact Heap.Le.refl _ | refine Heap.set_le _ ?_ (by first | assumption | exact Fresh.none (by assumption) | exact Fresh.none (Fresh.of_set (by assumption) (by assumption))))))
  cases e : (runV (vfs2 l m) [3, 2] (f % 2) ag (fuel % 12) (n % 150)).2 with
  | false => rfl
  | true => rw [hmore e, e]; simp
end Go.Abs
set_option linter.unusedSimpArgs false
set_option linter.unusedVariables false
set_option maxRecDepth 100000
namespace Go.Abs
variable {E : Env}

/-- The blocks and one more, as they lie. -/
def extBs (c : VF) : Blk := c.blocks.map Bl.cells ++ [[.nilsl, .int .i64 4, .int .i64 0, .int .i64 77, .int .i64 0]]
def extC (k : Int) (c : VF) : List AV := [.int .i64 c.params, .int .i64 (c.regs + k), .ro 5 (extBs c)]

def mixB (k : Int) (a b : VF) : Nat → Blk
  | 0 => [a.cells, b.cells]
  | 1 => [extC k a, b.cells]
  | _ => [extC k a, extC k b]


end Go.Abs
set_option linter.unusedSimpArgs false
set_option linter.unusedVariables false
set_option maxRecDepth 100000
namespace Go.Abs
variable {E : Env}

def FW (c : VF) : Prop := ∀ b ∈ c.blocks, ∀ v ∈ b.ins, I64 v.i.n


/-- What the loop over the two programs keeps: the second lies in a block until it is read. -/
def Two (G : Heap) (q : Nat) (B : Blk) (i : Nat) (H : Heap) : Prop := (i ≤ 1 ∧ HoldsG G H [(q, B)]) ∨ (i = 2 ∧ HoldsG G H [])
theorem Two.le {G : Heap} {q : Nat} {B : Blk} {i : Nat} {H : Heap} (h : Two G q B i H) : G.Le H := fun k => by
  cases e : G k with
  | none => exact .inl rfl
  | some b =>
    rcases h with ⟨-, h⟩ | ⟨-, h⟩
    · exact .inr (h.kp k b e).1.symm
    · exact .inr (h.kp k b e).1.symm

end Go.Abs
