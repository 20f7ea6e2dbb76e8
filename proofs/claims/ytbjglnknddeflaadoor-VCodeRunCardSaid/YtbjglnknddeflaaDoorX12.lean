/- A part of the proof: W4 -/
import Derived.KernelRfl
import Derived.Test.YtbjglnknddeflaaDoorX11
set_option linter.unusedSimpArgs false
set_option linter.unusedVariables false
/- What each operation comes to, as rewritings. -/
namespace Go.Abs

/-- What a pure call ends in. -/
abbrev Ret (v : AV) (H : Heap) : AV → Heap → Prop := fun r H' => r = v ∧ H' = H
/-- A pure function's contract. -/
abbrev PF (E : Env) (f : Nat) (args : List AV) (v : AV) : Prop := ∀ H, ACall E f args H (Ret v H)

section
variable {E : Env} {H : Heap} {k : AV → Prop} {K : AV → Heap → Prop}

/-! ### simp goes no deeper than the words of the next operation -/

def optP (k : AV → Prop) (x : Option AV) (_ : Ky k := .mk) : Prop := match x with
  | some v => k v
  | none => False
def atC (k : List AV → Prop) (x : Option (List AV)) (_ : Ky k := .mk) : Prop := match x with
  | some cs => k cs
  | none => False
def atH (k : Blk → Prop) (x : Option Blk) (_ : Ky k := .mk) : Prop := match x with
  | some es => k es
  | none => False
def eqvP (neg : Bool) (k : AV → Prop) (x : Option Bool) (_ : Ky k := .mk) : Prop := match x with
  | some r => k (.bool (if neg = true then !r else r))
  | none => False

/-! ### Operations without memory -/
theorem pW_if {op : AOp} {c : Prop} [Decidable c] {v : AV} (h : aop 0 Tm.none (fun _ => none) op = if c then pure1 v else none) : pW op k = (c ∧ k v) := by
  by_cases e : c <;> simp [pW, h, e, pure1]

@[go_sem] theorem p_mov (x : AV) : pW (.mov (.c x)) k = k x := rfl
@[go_sem] theorem p_pick (t : Bool) (a b : AV) : pW (.pick (.c (.bool t)) (.c a) (.c b)) k = k (if t = true then a else b) := rfl
@[go_sem] theorem p_build (z : List AV) (ps : List (Nat × Nat × AOpd)) : pW (.build z ps) k = (ps.all (fun p => (p.2.2.ev Tm.none).ok && (p.2.2.ev Tm.none).cells.length == p.2.1 && decide (p.1 + p.2.1 ≤ z.length)) = true ∧ k (.agg (fillA z (ps.map fun p => (p.1, p.2.2.ev Tm.none))))) := pW_if rfl
@[go_sem] theorem p_nilck1 (i j o : Nat) : pW (.nilck (.c (.ptr i j o))) k = k (.ptr i j o) := rfl
@[go_sem] theorem p_nilck2 (c : List AV) : pW (.nilck (.c (.rp c))) k = k (.rp c) := rfl
@[go_sem] theorem p_nilck3 (f : Nat) (c : List AV) : pW (.nilck (.c (.fn f c))) k = k (.fn f c) := rfl
@[go_sem] theorem p_add (q : IntKind) (a b : Int) : pW (.bin .add (.c (.int q a)) (.c (.int q b))) k = k (.int q (q.wrap (a + b))) := by simp [pW, aop, AOpd.ev, abin, pure1]
@[go_sem] theorem p_sub (q : IntKind) (a b : Int) : pW (.bin .sub (.c (.int q a)) (.c (.int q b))) k = k (.int q (q.wrap (a - b))) := by simp [pW, aop, AOpd.ev, abin, pure1]
@[go_sem] theorem p_mul (q : IntKind) (a b : Int) : pW (.bin .mul (.c (.int q a)) (.c (.int q b))) k = k (.int q (q.wrap (a * b))) := by simp [pW, aop, AOpd.ev, abin, pure1]
@[go_sem] theorem p_quo (q : IntKind) (a b : Int) : pW (.bin .quo (.c (.int q a)) (.c (.int q b))) k = (b ≠ 0 ∧ k (.int q (q.wrap (a.tdiv b)))) := by
  by_cases h : b = 0 <;> simp [pW, aop, AOpd.ev, abin, h, pure1]
@[go_sem] theorem p_rem (q : IntKind) (a b : Int) : pW (.bin .rem (.c (.int q a)) (.c (.int q b))) k = (b ≠ 0 ∧ k (.int q (a.tmod b))) := by
  by_cases h : b = 0 <;> simp [pW, aop, AOpd.ev, abin, h, pure1]
@[go_sem] theorem p_and (q : IntKind) (a b : Int) : pW (.bin .and (.c (.int q a)) (.c (.int q b))) k = k (.int q (bitsOf .and q a b)) := by simp [pW, aop, AOpd.ev, abin, pure1]
@[go_sem] theorem p_or (q : IntKind) (a b : Int) : pW (.bin .or (.c (.int q a)) (.c (.int q b))) k = k (.int q (bitsOf .or q a b)) := by simp [pW, aop, AOpd.ev, abin, pure1]
@[go_sem] theorem p_xor (q : IntKind) (a b : Int) : pW (.bin .xor (.c (.int q a)) (.c (.int q b))) k = k (.int q (bitsOf .xor q a b)) := by simp [pW, aop, AOpd.ev, abin, pure1]
@[go_sem] theorem p_andNot (q : IntKind) (a b : Int) : pW (.bin .andNot (.c (.int q a)) (.c (.int q b))) k = k (.int q (bitsOf .andNot q a b)) := by simp [pW, aop, AOpd.ev, abin, pure1]
@[go_sem] theorem p_eql (q : IntKind) (a b : Int) : pW (.bin .eql (.c (.int q a)) (.c (.int q b))) k = k (.bool (a == b)) := by simp [pW, aop, AOpd.ev, abin, pure1]
@[go_sem] theorem p_neq (q : IntKind) (a b : Int) : pW (.bin .neq (.c (.int q a)) (.c (.int q b))) k = k (.bool (a != b)) := by simp [pW, aop, AOpd.ev, abin, pure1]
@[go_sem] theorem p_lss (q : IntKind) (a b : Int) : pW (.bin .lss (.c (.int q a)) (.c (.int q b))) k = k (.bool (decide (a < b))) := by simp [pW, aop, AOpd.ev, abin, pure1]
@[go_sem] theorem p_leq (q : IntKind) (a b : Int) : pW (.bin .leq (.c (.int q a)) (.c (.int q b))) k = k (.bool (decide (a ≤ b))) := by simp [pW, aop, AOpd.ev, abin, pure1]
@[go_sem] theorem p_gtr (q : IntKind) (a b : Int) : pW (.bin .gtr (.c (.int q a)) (.c (.int q b))) k = k (.bool (decide (b < a))) := by simp [pW, aop, AOpd.ev, abin, pure1]
@[go_sem] theorem p_geq (q : IntKind) (a b : Int) : pW (.bin .geq (.c (.int q a)) (.c (.int q b))) k = k (.bool (decide (b ≤ a))) := by simp [pW, aop, AOpd.ev, abin, pure1]
@[go_sem] theorem p_shl (q q' : IntKind) (a b : Int) : pW (.bin .shl (.c (.int q a)) (.c (.int q' b))) k = (0 ≤ b ∧ k (.int q (q.wrap (a * 2 ^ (min b.toNat q.bits))))) := by
  by_cases h : b < 0
  · have : ¬ 0 ≤ b := by omega
    simp [pW, aop, AOpd.ev, ashift, h, this]
  · have : 0 ≤ b := by omega
    simp [pW, aop, AOpd.ev, ashift, h, this, pure1]
@[go_sem] theorem p_shr (q q' : IntKind) (a b : Int) : pW (.bin .shr (.c (.int q a)) (.c (.int q' b))) k = (0 ≤ b ∧ k (.int q (a.fdiv (2 ^ (min b.toNat q.bits))))) := by
  by_cases h : b < 0
  · have : ¬ 0 ≤ b := by omega
    simp [pW, aop, AOpd.ev, ashift, h, this]
  · have : 0 ≤ b := by omega
    simp [pW, aop, AOpd.ev, ashift, h, this, pure1]
@[go_sem] theorem p_eqb (a b : Bool) : pW (.eqb false (.c (.bool a)) (.c (.bool b))) k = k (.bool (a == b)) := rfl
@[go_sem] theorem p_neb (a b : Bool) : pW (.eqb true (.c (.bool a)) (.c (.bool b))) k = k (.bool !(a == b)) := rfl
@[go_sem] theorem p_eqp1 (n : Bool) (i j o : Nat) : pW (.eqp n (.c (.ptr i j o)) (.c .nilp)) k = k (.bool n) := rfl
@[go_sem] theorem p_eqp2 (n : Bool) (c : List AV) : pW (.eqp n (.c (.rp c)) (.c .nilp)) k = k (.bool n) := rfl
@[go_sem] theorem p_eqp3 (n : Bool) : pW (.eqp n (.c .nilp) (.c .nilp)) k = k (.bool !n) := rfl
@[go_sem] theorem p_not (b : Bool) : pW (.un .not (.c (.bool b))) k = k (.bool !b) := rfl
@[go_sem] theorem p_neg (q : IntKind) (n : Int) : pW (.un .neg (.c (.int q n))) k = k (.int q (q.wrap (0 - n))) := rfl
@[go_sem] theorem p_com (q : IntKind) (n : Int) : pW (.un .xor (.c (.int q n))) k = k (.int q (bitsOf .xor q (if q.signed then -1 else q.max) n)) := rfl
@[go_sem] theorem p_conv (q q' : IntKind) (n : Int) : pW (.conv q (.c (.int q' n))) k = k (.int q (q.wrap n)) := rfl
@[go_sem] theorem p_mkfn (f : Nat) (cs : List AOpd) : pW (.mkfn f cs) k = k (.fn f (cs.map (AOpd.ev Tm.none))) := rfl
@[go_sem] theorem p_fad1 (o id i off : Nat) : pW (.fad o (.c (.ptr id i off))) k = k (.ptr id i (off + o)) := rfl
@[go_sem] theorem p_fad2 (o : Nat) (cs : List AV) : pW (.fad o (.c (.rp cs))) k = k (.rp (cs.drop o)) := rfl
@[go_sem] theorem optP_some (v : AV) : optP k (some v) = k v := rfl
@[go_sem] theorem p_fld (o : Nat) (cs : List AV) : pW (.fld o (.c (.agg cs))) k = optP k cs[o]? := by
  simp only [pW, aop, AOpd.ev]; cases cs[o]? <;> rfl
@[go_sem] theorem p_flda (o n : Nat) (cs : List AV) : pW (.flda o n (.c (.agg cs))) k = (o + n ≤ cs.length ∧ k (.agg ((cs.drop o).take n))) := pW_if rfl
@[go_sem] theorem p_ext (i : Nat) (vs : List AV) : pW (.ext (.c (.tup vs)) i) k = optP k vs[i]? := by
  simp only [pW, aop, AOpd.ev]; cases vs[i]? <;> rfl
@[go_sem] theorem p_len1 (s : Nat) (es : List (List AV)) : pW (.len (.c (.ro s es))) k = k (.int .i64 es.length) := rfl
@[go_sem] theorem p_len2 (s i o n : Nat) : pW (.len (.c (.sl s i o n))) k = k (.int .i64 n) := rfl
@[go_sem] theorem p_len3 : pW (.len (.c .nilsl)) k = k (.int .i64 0) := rfl
@[go_sem] theorem p_lenc (n : Nat) : pW (.lenc n) k = k (.int .i64 n) := rfl
@[go_sem] theorem p_mn (q q' : IntKind) (a b : Int) : pW (.mn (.c (.int q a)) (.c (.int q' b))) k = k (.int q (if b < a then b else a)) := rfl
@[go_sem] theorem p_mx (q q' : IntKind) (a b : Int) : pW (.mx (.c (.int q a)) (.c (.int q' b))) k = k (.int q (if a < b then b else a)) := rfl
@[go_sem] theorem p_iad1 (sz : Nat) (es : List (List AV)) (q : IntKind) (n : Int) : pW (.iad sz (.c (.ro sz es)) (.c (.int q n))) k = ((0 ≤ n ∧ n < es.length) ∧ k (.rp (es.getD n.toNat []))) := by
  rw [pW_if (c := (sz = sz ∧ 0 ≤ n ∧ n < es.length)) rfl]; simp
@[go_sem] theorem p_iad2 (sz id off len : Nat) (q : IntKind) (n : Int) : pW (.iad sz (.c (.sl sz id off len)) (.c (.int q n))) k = ((0 ≤ n ∧ n < len) ∧ k (.ptr id (off + n.toNat) 0)) := by
  rw [pW_if (c := (sz = sz ∧ 0 ≤ n ∧ n < len)) rfl]; simp
@[go_sem] theorem p_iadA1 (m sz id j off : Nat) (q : IntKind) (n : Int) : pW (.iadA m sz (.c (.ptr id j off)) (.c (.int q n))) k = ((0 ≤ n ∧ n < m) ∧ k (.ptr id j (off + n.toNat * sz))) := pW_if rfl
@[go_sem] theorem p_iadA2 (m sz : Nat) (cs : List AV) (q : IntKind) (n : Int) : pW (.iadA m sz (.c (.rp cs)) (.c (.int q n))) k = ((0 ≤ n ∧ n < m) ∧ k (.rp (cs.drop (n.toNat * sz)))) := pW_if rfl
@[go_sem] theorem eqvP_some (neg r : Bool) : eqvP neg k (some r) = k (.bool (if neg = true then !r else r)) := rfl
@[go_sem] theorem p_eqv (neg : Bool) (ks : List Bool) (a b : List AV) : pW (.eqv neg ks (.c (.agg a)) (.c (.agg b))) k = eqvP neg k (eqCells ks a b) := by
  simp only [pW, aop, AOpd.ev]; cases eqCells ks a b <;> rfl
@[go_sem] theorem eqc_nil : eqCells [] [] [] = some true := rfl
@[go_sem] theorem eqc_int (ks : List Bool) (q : IntKind) (a b : Int) (xs ys : List AV) : eqCells (true :: ks) (.int q a :: xs) (.int q b :: ys) = (eqCells ks xs ys).map fun r => (a == b) && r := by
  simp only [eqCells, AV.eqc, and_self, if_true]; cases eqCells ks xs ys <;> rfl
@[go_sem] theorem eqc_bool (ks : List Bool) (a b : Bool) (xs ys : List AV) : eqCells (false :: ks) (.bool a :: xs) (.bool b :: ys) = (eqCells ks xs ys).map fun r => (a == b) && r := by
  simp only [eqCells, AV.eqc, Bool.false_eq_true, if_false]; cases eqCells ks xs ys <;> rfl
/-! slices -/
@[go_sem] theorem p_slice1 (sz : Nat) (es : List (List AV)) (q : IntKind) (h : Int) : pW (.slice sz (.c (.ro sz es)) none (some (.c (.int q h)))) k = ((0 ≤ h ∧ h ≤ es.length) ∧ k (.ro sz (es.take h.toNat))) := by
  simp only [pW, aop, AOpd.ev, aslice, bnd, Option.map_none, Option.map_some]
  by_cases e : 0 ≤ h ∧ h ≤ es.length <;> simp [e, pure1]
@[go_sem] theorem p_slice2 (sz : Nat) (es : List (List AV)) (q : IntKind) (l : Int) : pW (.slice sz (.c (.ro sz es)) (some (.c (.int q l))) none) k = ((0 ≤ l ∧ l ≤ es.length) ∧ k (.ro sz (es.drop l.toNat))) := by
  simp only [pW, aop, AOpd.ev, aslice, bnd, Option.map_none, Option.map_some]
  by_cases e : 0 ≤ l ∧ l ≤ es.length
  · have : ((es.length : Int) - l).toNat = es.length - l.toNat := by omega
    simp [e, pure1, this, List.take_of_length_le]
  · simp [e]
@[go_sem] theorem p_slice3 (sz : Nat) (es : List (List AV)) (q q' : IntKind) (l h : Int) : pW (.slice sz (.c (.ro sz es)) (some (.c (.int q l))) (some (.c (.int q' h)))) k = ((0 ≤ l ∧ l ≤ h ∧ h ≤ es.length) ∧ k (.ro sz ((es.drop l.toNat).take (h - l).toNat))) := by
  simp only [pW, aop, AOpd.ev, aslice, bnd, Option.map_some]
  by_cases e : 0 ≤ l ∧ l ≤ h ∧ h ≤ es.length <;> simp [e, pure1]
@[go_sem] theorem p_slice4 (sz id off len : Nat) (q : IntKind) (h : Int) : pW (.slice sz (.c (.sl sz id off len)) none (some (.c (.int q h)))) k = ((0 ≤ h ∧ h ≤ len) ∧ k (.sl sz id off h.toNat)) := by
  simp only [pW, aop, AOpd.ev, aslice, bnd, Option.map_none, Option.map_some]
  by_cases e : 0 ≤ h ∧ h ≤ len <;> simp [e, pure1]
@[go_sem] theorem p_slice5 (sz id off len : Nat) (q : IntKind) (l : Int) : pW (.slice sz (.c (.sl sz id off len)) (some (.c (.int q l))) none) k = ((0 ≤ l ∧ l ≤ len) ∧ k (.sl sz id (off + l.toNat) (len - l.toNat))) := by
  simp only [pW, aop, AOpd.ev, aslice, bnd, Option.map_none, Option.map_some]
  by_cases e : 0 ≤ l ∧ l ≤ len
  · have : ((len : Int) - l).toNat = len - l.toNat := by omega
    simp [e, pure1, this]
  · simp [e]
@[go_sem] theorem p_slice7 (sz id off len : Nat) : pW (.slice sz (.c (.sl sz id off len)) none none) k = k (.sl sz id off len) := by
  simp [pW, aop, AOpd.ev, aslice, bnd, pure1]
@[go_sem] theorem p_slice6 (sz : Nat) (q : IntKind) (h : Int) : pW (.slice sz (.c .nilsl) none (some (.c (.int q h)))) k = (h = 0 ∧ k .nilsl) := by
  simp only [pW, aop, AOpd.ev, aslice, bnd, Option.map_none, Option.map_some]
  by_cases e : h = 0 <;> simp [e, pure1]

/-! ### Reading -/
@[go_sem] theorem r_ldr (cs : List AV) : rdW (.ld (.c (.rp cs))) H k = optP k cs[0]? := by
  simp only [rdW, aop, AOpd.ev]; cases cs[0]? <;> rfl
@[go_sem] theorem r_ldar (n : Nat) (cs : List AV) : rdW (.lda n (.c (.rp cs))) H k = (n ≤ cs.length ∧ k (.agg (cs.take n))) := by
  simp only [rdW, aop, AOpd.ev]; by_cases e : n ≤ cs.length <;> simp [e, pure1]
@[go_sem] theorem atC_some (k : List AV → Prop) (cs : List AV) : atC k (some cs) = k cs := rfl
@[go_sem] theorem atH_some (k : Blk → Prop) (es : Blk) : atH k (some es) = k es := rfl
@[go_sem] theorem r_ld (id i off : Nat) : rdW (.ld (.c (.ptr id i off))) H k = atH (fun es => atC (fun cs => optP k cs[off]?) es[i]?) (H id) := by
  simp only [rdW, aop, AOpd.ev]
  cases H id with
  | none => rfl
  | some es => simp only [atH]; cases es[i]? with
    | none => rfl
    | some cs => simp only [atC]; cases cs[off]? <;> rfl
@[go_sem] theorem r_lda (n id i off : Nat) : rdW (.lda n (.c (.ptr id i off))) H k = atH (fun es => atC (fun cs => off + n ≤ cs.length ∧ k (.agg ((cs.drop off).take n))) es[i]?) (H id) := by
  simp only [rdW, aop, AOpd.ev]
  cases H id with
  | none => rfl
  | some es => simp only [atH]; cases es[i]? with
    | none => rfl
    | some cs => simp only [atC]; by_cases e : off + n ≤ cs.length <;> simp [e]

/-! ### Writing and making -/
@[go_sem] theorem m_st (n id i off : Nat) (v : AV) : mW (.st n (.c (.ptr id i off)) (.c v)) H K = atH (fun es => atC (fun cs => (v.ok = true ∧ v.cells.length = n ∧ off + n ≤ cs.length) ∧ K .undef (H.set id (some (es.set i (spl cs off v.cells))))) es[i]?) (H id) := by
  simp only [mW, aop, AOpd.ev]
  cases H id with
  | none => rfl
  | some es => simp only [atH]; cases es[i]? with
    | none => rfl
    | some cs =>
      simp only [atC]
      by_cases e : v.ok = true ∧ v.cells.length = n ∧ off + n ≤ cs.length
      · simp only [e.1, e.2.1, e.2.2, true_and, if_true, Heap.app]
      · simp only [e, false_and]
        split
        · rename_i h; split at h
          · rename_i h2; exact h2.elim
          · cases h
        · rfl
@[go_sem] theorem b_box (x : AV) : bxW x k = (x.ok = true ∧ k (.rp x.cells)) := rfl
@[go_sem] theorem b_al (n : Nat) (x : AV) : alW n x k = ((x.ok = true ∧ x.cells.length = n) ∧ k (.rp x.cells)) := rfl
@[go_sem] theorem b_bs (sz ln : Nat) (z : List AV) (ps : List (Nat × AV)) : bsW sz z ln ps k = (ps.all (fun p => p.2.ok && p.2.cells.length == sz) = true ∧ k (.ro sz (ps.foldl (fun es p => es.set p.1 p.2.cells) (List.replicate ln z)))) := rfl
theorem mk_alloc {z : List AV} (h : ∀ new, Fresh H new → K (.ptr new 0 0) (H.set new (some [z]))) : mkW (.alloc z) H K := fun new hn => h new hn
theorem mk_box {x : AV} (hx : x.ok = true) (h : ∀ new, Fresh H new → K (.ptr new 0 0) (H.set new (some [x.cells]))) : mkW (.box (.c x)) H K := fun new hn => by
  simp only [aop, AOpd.ev, hx, if_true, mkR]; exact h new hn
theorem mk_mksl {sz bytes : Nat} {z : List AV} {n m : Int} (h0 : n = m ∧ 0 ≤ n ∧ n ≤ appLim) (h : ∀ new, Fresh H new → K (.sl sz new 0 n.toNat) (H.set new (some (List.replicate n.toNat z)))) : mkW (.mksl sz bytes z (.c (.int .i64 n)) (.c (.int .i64 m))) H K := fun new hn => by
  simp only [aop, AOpd.ev]; rw [if_pos h0]; exact h new hn
theorem mk_app_nil {sz : Nat} {xs : List (List AV)} (h0 : xs.length ≤ appLim) (h : ∀ new, Fresh H new → K (.sl sz new 0 xs.length) (H.set new (some xs))) : mkW (.app sz (.c .nilsl) (.c (.ro sz xs))) H K := fun new hn => by
  simp only [aop, AOpd.ev, elems, if_true]; rw [if_pos h0]; exact h new hn
theorem mk_app {sz id len : Nat} {es xs : List (List AV)} (hid : H id = some es) (h0 : len ≤ es.length ∧ len + xs.length ≤ appLim) (h : ∀ new, Fresh H new → K (.sl sz new 0 (len + xs.length)) ((H.set id none).set new (some (es.take len ++ xs)))) : mkW (.app sz (.c (.sl sz id 0 len)) (.c (.ro sz xs))) H K := fun new hn => by
  simp only [aop, AOpd.ev, elems, if_true, hid]; rw [if_pos ⟨trivial, trivial, h0⟩]; exact h new hn
theorem mk_app_nil_sl {sz id off len : Nat} {es : Blk} (hid : H id = some es) (h1 : off + len ≤ es.length) (h0 : len ≤ appLim) (h : ∀ new, Fresh H new → K (.sl sz new 0 len) (H.set new (some ((es.drop off).take len)))) : mkW (.app sz (.c .nilsl) (.c (.sl sz id off len))) H K := fun new hn => by
  have e : ((es.drop off).take len).length = len := by simp; omega
  simp only [aop, AOpd.ev, elems, hid, h1, and_self, if_true, e, h0]; exact h new hn
theorem mk_bsl {sz ln : Nat} {z : List AV} {ps : List (Nat × AOpd)} (h0 : ps.all (fun p => (p.2.ev Tm.none).ok && (p.2.ev Tm.none).cells.length == sz) = true) (h : ∀ new, Fresh H new → K (.sl sz new 0 ln) (H.set new (some (ps.foldl (fun es p => es.set p.1 (p.2.ev Tm.none).cells) (List.replicate ln z))))) : mkW (.bsl sz z ln ps) H K := fun new hn => by
  simp only [aop]; rw [if_pos h0]; exact h new hn

/-! ### Calls, conditions -/
@[go_sem] theorem c_fn (g : Nat) (caps args : List AV) : callW E (.fn g caps) args H K = cW E g (args ++ caps) H K := rfl
def pcW (E : Env) (g : Nat) (as : List AV) (H : Heap) (k : AV → Heap → Prop) (_ : Ky k := .mk) : Prop := ∃ v, (∀ H', ACall E g as H' fun v' H'' => v' = v ∧ H'' = H') ∧ k v H
@[go_sem] theorem pc_fn (g : Nat) (caps args : List AV) : pcallW E (.fn g caps) args H K = pcW E g (args ++ caps) H K := rfl
theorem pc_pure {g : Nat} {as : List AV} {v : AV} (h : PF E g as v) (hk : K v H) : pcW E g as H K := ⟨v, h, hk⟩
theorem cond_mk {b : Bool} {A B : Prop} (ha : b = true → A) (hb : b = false → B) : condW (.bool b) A B := ⟨ha, hb⟩
@[go_sem] theorem cond_t {A B : Prop} : condW (.bool true) A B = A := by simp [condW]
@[go_sem] theorem cond_f {A B : Prop} : condW (.bool false) A B = B := by simp [condW]
theorem grp_mk {w bg : Bool} (rv : Bool) {body : (AV → Heap → Prop) → Prop} {kk : (Nat → AV) → AV → Prop} (hb : bg = w → body fun v H' => v = .bool rv ∧ H' = H) (h : ∀ vs, kk vs (.bool (if w = true then bg && rv else bg || rv))) : grpW w (.bool bg) body H kk := ⟨bg, rv, rfl, hb, h⟩
theorem gd_mk {w b : Bool} {run : (AV → Heap → Prop) → Prop} (h1 : b = w → run K) (h2 : b = !w → K (.tup []) H) : gdW w (.bool b) run H K := ⟨h1, h2⟩
theorem frz_ptr {id : Nat} {cs : List AV} (hid : H id = some [cs]) (h : K (.rp cs) (H.set id none)) : frzW (.ptr id 0 0) H K := by simp only [frzW, hid]; exact h

theorem at_here {P : Tm → Heap → Prop} {l : List AV} (h : P (vl l) H) : atW P l H := .here h
theorem ret_here {R : AV → Heap → Prop} {v : AV} (h : R v H) : RetC R v H := .here h
theorem ret_le {R : AV → Heap → Prop} {v v' : AV} {H' : Heap} (hv : VLe v v') (hh : H'.Le H) (h : R v' H') : RetC R v H := .le (fun _ => v') H' (fun _ => hv) hh (.here h)

theorem Heap.get_ne (H : Heap) (id k : Nat) (b : Option Blk) (h : k ≠ id) : (H.set id b) k = H k := Heap.set_ne _ _ _ _ h
theorem Heap.set_le {H H0 : Heap} {id : Nat} (b : Option Blk) (h : H0.Le H) (hn : H0 id = none) : H0.Le (H.set id b) := fun k => by
  by_cases e : k = id
  · subst e; exact .inl hn
  · rw [Heap.set_ne _ _ _ _ e]; exact h k

theorem at_eq {P : Tm → Heap → Prop} {l l' : List AV} {H : Heap} (h : P (vl l') H) (e : l = l') : atW P l H := by rw [e]; exact .here h
theorem ret_eq {v v' : AV} {H0 : Heap} (hh : H0.Le H) (h : v = v') : RetC (Ret v' H0) v H := ret_le (VLe.refl _) hh ⟨h, rfl⟩
theorem Fresh.of_set {H : Heap} {i id : Nat} {b : Option Blk} (h : Fresh (H.set i b) id) (hi : H i = Option.none) : Fresh H id := fun k bb hk => by
  by_cases e : k = i
  · subst e; rw [hi] at hk; cases hk
  · exact h k bb (by rw [Heap.set_ne _ _ _ _ e]; exact hk)
theorem Fresh.lt {H : Heap} {i id : Nat} {b : Blk} (h : Fresh H id) (hi : H i = some b) : i < id := h i b hi
theorem Fresh.ne {H : Heap} {i id : Nat} {b : Blk} (h : Fresh H id) (hi : H i = some b) : i ≠ id := Nat.ne_of_lt (h i b hi)

/-- A loop: states of one's own. -/
theorem loop_mk {σ : Type} {body : (Tm → Heap → Prop) → Tm → Heap → Prop} (f : σ → List AV) (J : σ → Heap → Prop) (μ : σ → Nat) {l : List AV} (s0 : σ) (hl : l = f s0) (h0 : J s0 H)
    (h : ∀ s H (K : Tm → Heap → Prop), J s H → (∀ s' H', J s' H' → μ s' < μ s → K (vl (f s')) H') → body K (vl (f s)) H) : loopW body l H := by
  refine ⟨fun n V H => ∃ s, μ s = n ∧ V = vl (f s) ∧ J s H, μ s0, .here ⟨s0, rfl, by rw [hl], h0⟩, ?_⟩
  rintro n V H ⟨s, rfl, rfl, hj⟩
  exact h s H _ hj fun s' H' hj' hl' => ⟨μ s', hl', s', rfl, rfl, hj'⟩

/-! ### Words -/
attribute [go_sem] vl0 vl_cons AOpd.ev AV.ok AV.cells spl fillA if_true if_false Bool.false_eq_true Bool.true_eq_false Bool.not_true Bool.not_false Heap.set_same Heap.set_set List.map_cons List.map_nil List.append_nil List.cons_append List.nil_append List.all_cons List.all_nil Bool.and_true Bool.true_and Bool.and_self
  List.length_cons List.length_nil List.getElem?_cons_zero List.getElem?_cons_succ List.set_cons_zero List.set_cons_succ List.take_succ_cons List.take_zero List.drop_succ_cons List.drop_zero List.take_nil List.length_map Option.map_some Option.map_none true_and and_true and_self Int.toNat_natCast eq_self beq_self_eq_true decide_true List.foldl_cons List.foldl_nil Nat.zero_add Nat.add_zero Nat.le_refl
@[go_sem] theorem rep_zero (z : List AV) : List.replicate 0 z = [] := rfl
@[go_sem] theorem rep_succ (n : Nat) (z : List AV) : List.replicate (n + 1) z = z :: List.replicate n z := rfl
@[go_sem] theorem drop_get (l : List AV) (i j : Nat) : (l.drop i)[j]? = l[i + j]? := List.getElem?_drop
@[go_sem] theorem iget0 {α : Type} (a : α) (l : List α) (d : α) : (a :: l).getD 0 d = a := rfl
@[go_sem] theorem iget1 {α : Type} (a : α) (l : List α) (n : Nat) (d : α) : (a :: l).getD (n + 1) d = l.getD n d := rfl
@[go_sem] theorem ix1 {α : Type} (a0 a : α) (l : List α) : (a0 :: a :: l)[1]? = some a := rfl
@[go_sem] theorem ix2 {α : Type} (a0 a1 a : α) (l : List α) : (a0 :: a1 :: a :: l)[2]? = some a := rfl
@[go_sem] theorem ix3 {α : Type} (a0 a1 a2 a : α) (l : List α) : (a0 :: a1 :: a2 :: a :: l)[3]? = some a := rfl
@[go_sem] theorem ix4 {α : Type} (a0 a1 a2 a3 a : α) (l : List α) : (a0 :: a1 :: a2 :: a3 :: a :: l)[4]? = some a := rfl
@[go_sem] theorem ix5 {α : Type} (a0 a1 a2 a3 a4 a : α) (l : List α) : (a0 :: a1 :: a2 :: a3 :: a4 :: a :: l)[5]? = some a := rfl
@[go_sem] theorem ix6 {α : Type} (a0 a1 a2 a3 a4 a5 a : α) (l : List α) : (a0 :: a1 :: a2 :: a3 :: a4 :: a5 :: a :: l)[6]? = some a := rfl
@[go_sem] theorem vl1 (a0 a : AV) (l : List AV) : vl (a0 :: a :: l) 1 = a := rfl
@[go_sem] theorem vl2 (a0 a1 a : AV) (l : List AV) : vl (a0 :: a1 :: a :: l) 2 = a := rfl
@[go_sem] theorem vl3 (a0 a1 a2 a : AV) (l : List AV) : vl (a0 :: a1 :: a2 :: a :: l) 3 = a := rfl
@[go_sem] theorem vl4 (a0 a1 a2 a3 a : AV) (l : List AV) : vl (a0 :: a1 :: a2 :: a3 :: a :: l) 4 = a := rfl
@[go_sem] theorem vl5 (a0 a1 a2 a3 a4 a : AV) (l : List AV) : vl (a0 :: a1 :: a2 :: a3 :: a4 :: a :: l) 5 = a := rfl
@[go_sem] theorem vl6 (a0 a1 a2 a3 a4 a5 a : AV) (l : List AV) : vl (a0 :: a1 :: a2 :: a3 :: a4 :: a5 :: a :: l) 6 = a := rfl
@[go_sem] theorem vl7 (a0 a1 a2 a3 a4 a5 a6 a : AV) (l : List AV) : vl (a0 :: a1 :: a2 :: a3 :: a4 :: a5 :: a6 :: a :: l) 7 = a := rfl
@[go_sem] theorem vl8 (a0 a1 a2 a3 a4 a5 a6 a7 a : AV) (l : List AV) : vl (a0 :: a1 :: a2 :: a3 :: a4 :: a5 :: a6 :: a7 :: a :: l) 8 = a := rfl
@[go_sem] theorem vl9 (a0 a1 a2 a3 a4 a5 a6 a7 a8 a : AV) (l : List AV) : vl (a0 :: a1 :: a2 :: a3 :: a4 :: a5 :: a6 :: a7 :: a8 :: a :: l) 9 = a := rfl

@[go_sem] theorem vl10 (a0 a1 a2 a3 a4 a5 a6 a7 a8 a9 a : AV) (l : List AV) : vl (a0 :: a1 :: a2 :: a3 :: a4 :: a5 :: a6 :: a7 :: a8 :: a9 :: a :: l) 10 = a := rfl
@[go_sem] theorem vl11 (a0 a1 a2 a3 a4 a5 a6 a7 a8 a9 a10 a : AV) (l : List AV) : vl (a0 :: a1 :: a2 :: a3 :: a4 :: a5 :: a6 :: a7 :: a8 :: a9 :: a10 :: a :: l) 11 = a := rfl
@[go_sem] theorem vl12 (a0 a1 a2 a3 a4 a5 a6 a7 a8 a9 a10 a11 a : AV) (l : List AV) : vl (a0 :: a1 :: a2 :: a3 :: a4 :: a5 :: a6 :: a7 :: a8 :: a9 :: a10 :: a11 :: a :: l) 12 = a := rfl
@[go_sem] theorem vl13 (a0 a1 a2 a3 a4 a5 a6 a7 a8 a9 a10 a11 a12 a : AV) (l : List AV) : vl (a0 :: a1 :: a2 :: a3 :: a4 :: a5 :: a6 :: a7 :: a8 :: a9 :: a10 :: a11 :: a12 :: a :: l) 13 = a := rfl
@[go_sem] theorem vl14 (a0 a1 a2 a3 a4 a5 a6 a7 a8 a9 a10 a11 a12 a13 a : AV) (l : List AV) : vl (a0 :: a1 :: a2 :: a3 :: a4 :: a5 :: a6 :: a7 :: a8 :: a9 :: a10 :: a11 :: a12 :: a13 :: a :: l) 14 = a := rfl
@[go_sem] theorem vl15 (a0 a1 a2 a3 a4 a5 a6 a7 a8 a9 a10 a11 a12 a13 a14 a : AV) (l : List AV) : vl (a0 :: a1 :: a2 :: a3 :: a4 :: a5 :: a6 :: a7 :: a8 :: a9 :: a10 :: a11 :: a12 :: a13 :: a14 :: a :: l) 15 = a := rfl
@[go_sem] theorem vl16 (a0 a1 a2 a3 a4 a5 a6 a7 a8 a9 a10 a11 a12 a13 a14 a15 a : AV) (l : List AV) : vl (a0 :: a1 :: a2 :: a3 :: a4 :: a5 :: a6 :: a7 :: a8 :: a9 :: a10 :: a11 :: a12 :: a13 :: a14 :: a15 :: a :: l) 16 = a := rfl
@[go_sem] theorem vl17 (a0 a1 a2 a3 a4 a5 a6 a7 a8 a9 a10 a11 a12 a13 a14 a15 a16 a : AV) (l : List AV) : vl (a0 :: a1 :: a2 :: a3 :: a4 :: a5 :: a6 :: a7 :: a8 :: a9 :: a10 :: a11 :: a12 :: a13 :: a14 :: a15 :: a16 :: a :: l) 17 = a := rfl
@[go_sem] theorem vl18 (a0 a1 a2 a3 a4 a5 a6 a7 a8 a9 a10 a11 a12 a13 a14 a15 a16 a17 a : AV) (l : List AV) : vl (a0 :: a1 :: a2 :: a3 :: a4 :: a5 :: a6 :: a7 :: a8 :: a9 :: a10 :: a11 :: a12 :: a13 :: a14 :: a15 :: a16 :: a17 :: a :: l) 18 = a := rfl
@[go_sem] theorem vl19 (a0 a1 a2 a3 a4 a5 a6 a7 a8 a9 a10 a11 a12 a13 a14 a15 a16 a17 a18 a : AV) (l : List AV) : vl (a0 :: a1 :: a2 :: a3 :: a4 :: a5 :: a6 :: a7 :: a8 :: a9 :: a10 :: a11 :: a12 :: a13 :: a14 :: a15 :: a16 :: a17 :: a18 :: a :: l) 19 = a := rfl
@[go_sem] theorem vl20 (a0 a1 a2 a3 a4 a5 a6 a7 a8 a9 a10 a11 a12 a13 a14 a15 a16 a17 a18 a19 a : AV) (l : List AV) : vl (a0 :: a1 :: a2 :: a3 :: a4 :: a5 :: a6 :: a7 :: a8 :: a9 :: a10 :: a11 :: a12 :: a13 :: a14 :: a15 :: a16 :: a17 :: a18 :: a19 :: a :: l) 20 = a := rfl
@[go_sem] theorem vl21 (a0 a1 a2 a3 a4 a5 a6 a7 a8 a9 a10 a11 a12 a13 a14 a15 a16 a17 a18 a19 a20 a : AV) (l : List AV) : vl (a0 :: a1 :: a2 :: a3 :: a4 :: a5 :: a6 :: a7 :: a8 :: a9 :: a10 :: a11 :: a12 :: a13 :: a14 :: a15 :: a16 :: a17 :: a18 :: a19 :: a20 :: a :: l) 21 = a := rfl
@[go_sem] theorem vl22 (a0 a1 a2 a3 a4 a5 a6 a7 a8 a9 a10 a11 a12 a13 a14 a15 a16 a17 a18 a19 a20 a21 a : AV) (l : List AV) : vl (a0 :: a1 :: a2 :: a3 :: a4 :: a5 :: a6 :: a7 :: a8 :: a9 :: a10 :: a11 :: a12 :: a13 :: a14 :: a15 :: a16 :: a17 :: a18 :: a19 :: a20 :: a21 :: a :: l) 22 = a := rfl
@[go_sem] theorem vl23 (a0 a1 a2 a3 a4 a5 a6 a7 a8 a9 a10 a11 a12 a13 a14 a15 a16 a17 a18 a19 a20 a21 a22 a : AV) (l : List AV) : vl (a0 :: a1 :: a2 :: a3 :: a4 :: a5 :: a6 :: a7 :: a8 :: a9 :: a10 :: a11 :: a12 :: a13 :: a14 :: a15 :: a16 :: a17 :: a18 :: a19 :: a20 :: a21 :: a22 :: a :: l) 23 = a := rfl
@[go_sem] theorem vl24 (a0 a1 a2 a3 a4 a5 a6 a7 a8 a9 a10 a11 a12 a13 a14 a15 a16 a17 a18 a19 a20 a21 a22 a23 a : AV) (l : List AV) : vl (a0 :: a1 :: a2 :: a3 :: a4 :: a5 :: a6 :: a7 :: a8 :: a9 :: a10 :: a11 :: a12 :: a13 :: a14 :: a15 :: a16 :: a17 :: a18 :: a19 :: a20 :: a21 :: a22 :: a23 :: a :: l) 24 = a := rfl
@[go_sem] theorem vl25 (a0 a1 a2 a3 a4 a5 a6 a7 a8 a9 a10 a11 a12 a13 a14 a15 a16 a17 a18 a19 a20 a21 a22 a23 a24 a : AV) (l : List AV) : vl (a0 :: a1 :: a2 :: a3 :: a4 :: a5 :: a6 :: a7 :: a8 :: a9 :: a10 :: a11 :: a12 :: a13 :: a14 :: a15 :: a16 :: a17 :: a18 :: a19 :: a20 :: a21 :: a22 :: a23 :: a24 :: a :: l) 25 = a := rfl

theorem wrap64_id {n : Int} (h : -9223372036854775808 ≤ n) (h2 : n < 9223372036854775808) : IntKind.i64.wrap n = n := by
  simp [IntKind.wrap, IntKind.bits, IntKind.signed]; omega



/-! ### No slice is longer than a word tells -/
inductive AV.Small : AV → Prop
  | int (k : IntKind) (n : Int) : (AV.int k n).Small
  | bool (b : Bool) : (AV.bool b).Small
  | str (s : ByteArray) : (AV.str s).Small
  | ptr (i j o : Nat) : (AV.ptr i j o).Small
  | nilp : AV.nilp.Small
  | nilsl : AV.nilsl.Small
  | nilfn : AV.nilfn.Small
  | undef : AV.undef.Small
  | sl (s i o n : Nat) : n < 9223372036854775808 → (AV.sl s i o n).Small
  | fn (f : Nat) (cs : List AV) : (AV.fn f cs).Small
  | rp (cs : List AV) : (∀ x ∈ cs, x.Small) → (AV.rp cs).Small
  | agg (cs : List AV) : (∀ x ∈ cs, x.Small) → (AV.agg cs).Small
  | tup (cs : List AV) : (∀ x ∈ cs, x.Small) → (AV.tup cs).Small
  | ro (s : Nat) (es : List (List AV)) : es.length < 9223372036854775808 → (∀ cs ∈ es, ∀ x ∈ cs, x.Small) → (AV.ro s es).Small

theorem VR.small {c : Corr} {x : AV} {v : Value} (h : VR E c x v) : x.Small := by
  have get : ∀ {cs : List AV} {x : AV}, x ∈ cs → ∃ j : Nat, cs[j]? = some x := fun h => List.mem_iff_getElem?.1 h
  induction h with
  | int k n => exact .int k n
  | bool b => exact .bool b
  | str s => exact .str s
  | ptr h => exact .ptr _ _ _
  | rp vs h1 _ ih => exact .rp _ fun x hx => by obtain ⟨j, hj⟩ := get hx; exact ih j x hj
  | nilp => exact .nilp
  | sl h h1 h2 => exact .sl _ _ _ _ (by omega)
  | slz h h1 => exact .sl _ _ _ _ (by omega)
  | slv h => exact .sl _ _ _ _ (by omega)
  | ro vs h1 h2 h3 _ ih => exact .ro _ _ (by omega) (fun cs hcs x hx => (List.mem_iff_getElem?.1 hcs).elim fun i hi => (get hx).elim fun j hj => ih i cs j x hi hj)
  | ro0 sz => exact .ro _ _ (by simp) (by simp)
  | roz sz a => exact .ro _ _ (by simp) (by simp)
  | nilsl => exact .nilsl
  | fn h1 h2 _ ih => exact .fn _ _
  | nilfn => exact .nilfn
  | agg h1 h2 _ ih =>
    rename_i cs vs _
    exact .agg _ fun x hx => by
      obtain ⟨j, hj⟩ := get hx
      have hl : j < vs.size := by rw [h1]; exact (List.getElem?_eq_some_iff.1 hj).1
      exact ih j x vs[j] hj (by simp [hl])
  | tup h1 _ ih =>
    rename_i cs vs _
    exact .tup _ fun x hx => by
      obtain ⟨j, hj⟩ := get hx
      have hl : j < vs.size := by rw [h1]; exact (List.getElem?_eq_some_iff.1 hj).1
      exact ih j x vs[j] hj (by simp [hl])
  | undef v => exact .undef

theorem acall_small {f : Nat} {args : List AV} {R : AV → Heap → Prop} (h : (∀ x ∈ args, x.Small) → ACall E f args H R) : ACall E f args H R := by
  intro g hg c cargs w hs hargs
  refine h (fun x hx => ?_) g hg c cargs w hs hargs
  obtain ⟨j, hj⟩ := List.mem_iff_getElem?.1 hx
  have hl : j < cargs.toList.length := by rw [← hargs.1]; exact (List.getElem?_eq_some_iff.1 hj).1
  exact (hargs.2 j x _ hj (List.getElem?_eq_getElem hl)).small

theorem ACall.mono_small {f : Nat} {args : List AV} {R R' : AV → Heap → Prop} (h : ACall E f args H R) (hr : ∀ v H', v.Small → R v H' → R' v H') : ACall E f args H R' := by
  intro g hg c cargs w hs hargs
  refine (h g hg c cargs w hs hargs).mono (fun e w' hp => ?_)
  cases e with
  | returned v =>
    obtain ⟨x, H', c', h1, h2, h3, h4⟩ := hp
    exact ⟨x, H', c', hr _ _ h4.small h1, h2, h3, h4⟩
  | panicked ch => exact hp
  | outgrown => exact hp
theorem call_any {f : Nat} {args : List AV} {R R' : AV → Heap → Prop} (h : ACall E f args H R) (hr : ∀ v H', v.Small → R v H' → R' v H') : cW E f args H R' := h.mono_small hr
/-- A call of a pure function. -/
theorem call_pure {f : Nat} {args : List AV} {K : AV → Heap → Prop} {v : AV} (h : PF E f args v) (hk : v.Small → K v H) : cW E f args H K :=
  (h H).mono_small fun _ _ hs ⟨h1, h2⟩ => by subst h1; subst h2; exact hk hs

theorem dcall_pure0 {f : Nat} {args : List AV} {K : AV → List Nat → List Nat → Heap → Prop} {v : AV} (h : PF E f args v) (hk : K v [] [] H) : dcallW E (.fn f []) args H K :=
  ⟨v, [], [], fun H' _ => by rw [List.append_nil]; exact h H', by simp, hk⟩

end
end Go.Abs
