/- A part of the proof: V0, V1, V2, V3 -/
import Derived.Test.YtbjglnknddeflaaDoorX10
set_option linter.unusedSimpArgs false
set_option linter.unusedVariables false
/- What each function asks, printed by the same program; the kernel finds it equal to the code's own. -/
set_option linter.unusedVariables false
namespace Go.Abs

/-- fulling/fullinglaw32.VCodeExamples -/
def w3 (E : Env) (R : AHP) (H : Heap) : Prop :=
 pW (.build [.int .i64 0, .int .i64 0, .int .i64 0, .int .i64 0, .int .i64 0] [(0, 1, .c (.int .i64 38))]) fun t9 =>
 pW (.build [.int .i64 0, .int .i64 0, .int .i64 0, .int .i64 0, .int .i64 0, .nilsl] [(0, 5, .c t9)]) fun t10 =>
 bsW 6 [.int .i64 0, .int .i64 0, .int .i64 0, .int .i64 0, .int .i64 0, .nilsl] 1 [(0, t10)] fun t11 =>
 pW (.build [.nilsl, .int .i64 0, .int .i64 0, .int .i64 0, .int .i64 0] [(0, 1, .c t11), (1, 1, .c (.int .i64 3))]) fun t12 =>
 bsW 5 [.nilsl, .int .i64 0, .int .i64 0, .int .i64 0, .int .i64 0] 1 [(0, t12)] fun t13 =>
 pW (.build [.int .i64 0, .int .i64 0, .nilsl] [(0, 1, .c (.int .i64 1)), (1, 1, .c (.int .i64 1)), (2, 1, .c t13)]) fun t14 =>
 alW 3 t14 fun t1 =>
 pW (.build [.int .i64 0, .int .i64 0, .int .i64 0, .int .i64 0, .int .i64 0] [(0, 1, .c (.int .i64 38))]) fun t15 =>
 pW (.build [.int .i64 0, .int .i64 0, .int .i64 0, .int .i64 0, .int .i64 0, .nilsl] [(0, 5, .c t15)]) fun t16 =>
 pW (.build [.int .i64 0, .int .i64 0, .int .i64 0, .int .i64 0, .int .i64 0] [(0, 1, .c (.int .i64 6)), (1, 1, .c (.int .i64 1))]) fun t17 =>
 bsW 1 [.int .i64 0] 1 [(0, .int .i64 0)] fun t18 =>
 pW (.build [.int .i64 0, .int .i64 0, .int .i64 0, .int .i64 0, .int .i64 0, .nilsl] [(0, 5, .c t17), (5, 1, .c t18)]) fun t19 =>
 bsW 6 [.int .i64 0, .int .i64 0, .int .i64 0, .int .i64 0, .int .i64 0, .nilsl] 2 [(0, t16), (1, t19)] fun t20 =>
 pW (.build [.nilsl, .int .i64 0, .int .i64 0, .int .i64 0, .int .i64 0] [(0, 1, .c t20), (1, 1, .c (.int .i64 2)), (3, 1, .c (.int .i64 2)), (4, 1, .c (.int .i64 1))]) fun t21 =>
 pW (.build [.nilsl, .int .i64 0, .int .i64 0, .int .i64 0, .int .i64 0] [(1, 1, .c (.int .i64 4)), (3, 1, .c (.int .i64 9))]) fun t22 =>
 pW (.build [.nilsl, .int .i64 0, .int .i64 0, .int .i64 0, .int .i64 0] [(1, 1, .c (.int .i64 3)), (2, 1, .c (.int .i64 1))]) fun t23 =>
 bsW 5 [.nilsl, .int .i64 0, .int .i64 0, .int .i64 0, .int .i64 0] 3 [(0, t21), (1, t22), (2, t23)] fun t24 =>
 pW (.build [.int .i64 0, .int .i64 0, .nilsl] [(0, 1, .c (.int .i64 1)), (1, 1, .c (.int .i64 2)), (2, 1, .c t24)]) fun t25 =>
 alW 3 t25 fun t2 =>
 rdW (.lda 3 (.c t1)) H fun t27 =>
 rdW (.lda 3 (.c t2)) H fun t28 =>
 bsW 3 [.int .i64 0, .int .i64 0, .nilsl] 2 [(0, t27), (1, t28)] fun t29 =>
 bsW 1 [.int .i64 0] 1 [(0, .int .i64 5)] fun t30 =>
 cW E 13 [t29, .nilsl, .int .i64 1, t30, .int .i64 0, .int .i64 9] H fun t31 H1 =>
 pW (.ext (.c t31) 0) fun t32 =>
 pW (.ext (.c t31) 1) fun t33 =>
 alW 4 t32 fun t3 =>
 rdW (.lda 3 (.c t1)) H1 fun t35 =>
 rdW (.lda 3 (.c t2)) H1 fun t36 =>
 bsW 3 [.int .i64 0, .int .i64 0, .nilsl] 2 [(0, t35), (1, t36)] fun t37 =>
 bsW 1 [.int .i64 0] 1 [(0, .int .i64 0)] fun t38 =>
 cW E 13 [t37, .nilsl, .int .i64 1, t38, .int .i64 0, .int .i64 9] H1 fun t39 H2 =>
 pW (.ext (.c t39) 0) fun t40 =>
 pW (.ext (.c t39) 1) fun t41 =>
 alW 4 t40 fun t5 =>
 rdW (.lda 3 (.c t1)) H2 fun t43 =>
 rdW (.lda 3 (.c t2)) H2 fun t44 =>
 bsW 3 [.int .i64 0, .int .i64 0, .nilsl] 2 [(0, t43), (1, t44)] fun t45 =>
 bsW 1 [.int .i64 0] 1 [(0, .int .i64 5)] fun t46 =>
 cW E 13 [t45, .nilsl, .int .i64 1, t46, .int .i64 0, .int .i64 5] H2 fun t47 H3 =>
 pW (.ext (.c t47) 0) fun t48 =>
 pW (.ext (.c t47) 1) fun t49 =>
 alW 4 t48 fun t7 =>
 rdW (.lda 3 (.c t2)) H3 fun t50 =>
 cW E 14 [t50] H3 fun t51 H4 =>
 grpW true t51 (fun k1 => k1 t33 H4) H4 fun _ t54 =>
 grpW true t54 (fun k2 => rdW (.lda 4 (.c t3)) H4 fun t56 =>
 pW (.build [.int .i64 0, .int .i64 0, .nilsl, .int .i64 0] [(0, 1, .c (.int .i64 1)), (3, 1, .c (.int .i64 5))]) fun t57 =>
 cW E 15 [t56, t57] H4 fun t58 H5 =>
 k2 t58 H5) H4 fun _ t59 =>
 grpW true t59 (fun k3 => k3 t41 H4) H4 fun _ t62 =>
 grpW true t62 (fun k4 => rdW (.lda 4 (.c t5)) H4 fun t64 =>
 pW (.build [.int .i64 0, .int .i64 0, .nilsl, .int .i64 0] [(0, 1, .c (.int .i64 2)), (1, 1, .c (.int .i64 9))]) fun t65 =>
 cW E 15 [t64, t65] H4 fun t66 H6 =>
 k4 t66 H6) H4 fun _ t67 =>
 grpW true t67 (fun k5 => pW (.un .not (.c t49)) fun t70 =>
 k5 t70 H4) H4 fun _ t71 =>
 gdW true t71 (fun k6 => pW (.fad 2 (.c t2)) fun v => k6 v H4) H4 fun t73 H7 =>
 gdW true t71 (fun k7 => rdW (.ld (.c t73)) H7 fun v => k7 v H7) H7 fun t74 H8 =>
 gdW true t71 (fun k8 => pW (.iad 5 (.c t74) (.c (.int .i64 0))) fun v => k8 v H8) H8 fun t75 H9 =>
 gdW true t71 (fun k9 => rdW (.lda 5 (.c t75)) H9 fun v => k9 v H9) H9 fun t76 H10 =>
 gdW true t71 (fun k10 => cW E 17 [t76] H10 k10) H10 fun t77 H11 =>
 gdW true t71 (fun k11 => mkW (.bsl 1 [.int .i64 0] 2 [(0, .c (.int .i64 1)), (1, .c (.int .i64 2))]) H11 k11) H11 fun t78 H12 =>
 grpW true t71 (fun k12 => cW E 16 [t77, t78] H12 fun t79 H13 =>
 k12 t79 H13) H12 fun _ t80 =>
 RetC R t80 H12

theorem ent3 {E : Env} (hE : E.Good) (hF : E.Fits tab) (H : Heap) (R : AHP) (h : w3 E R  H) : ACall E 3 [] H R :=
 acallW (b := d3) hE hF rfl (Nat.le_of_ble_eq_true rfl) (Eq.mp (by kernel_rfl : w3 E R  H = DW E d3 (QF [.tmp 0] R) (vl []) H) h)


def w4_2 (E : Env) (R : AHP) (t4 t5 t14 : AV) (H : Heap) : Prop :=
 rdW (.lda 3 (.c t14)) H fun t55 =>
 pW (.bin .quo (.c t4) (.c (.int .i64 3))) fun t58 =>
 cW E 20 [t55, t5, t58] H fun t59 H1 =>
 alW 3 t59 fun t15 =>
 rdW (.lda 3 (.c t15)) H1 fun t60 =>
 pcallW E (.fn 14 []) [t60] H1 fun t61 H2 =>
 rdW (.lda 3 (.c t15)) H2 fun t62 =>
 pcallW E (.fn 21 []) [t62] H2 fun t63 H3 =>
 pW (.eqb false (.c t61) (.c t63)) fun t64 =>
 grpW true t64 (fun k1 => pcallW E (.fn 3 []) [] H3 fun t66 H4 =>
 k1 t66 H4) H3 fun _ t67 =>
 RetC R t67 H3
def m4_2 (E : Env) (R : AHP) : THP := fun V H => w4_2 E R (V 0) (V 1) (V 2) H

def w4_1 (E : Env) (R : AHP) (t4 t5 t14 : AV) (H : Heap) : Prop :=
 pW (.fad 2 (.c t14)) fun t50 =>
 rdW (.ld (.c t50)) H fun t51 =>
 pW (.len (.c t51)) fun t52 =>
 pW (.bin .eql (.c t52) (.c (.int .i64 0))) fun t53 =>
 condW t53
 (cW E 3 [] H fun t54 H1 =>
 RetC R t54 H1)
 (atW (m4_2 E R) [t4, t5, t14] H)
def m4_1 (E : Env) (R : AHP) : THP := fun V H => w4_1 E R (V 0) (V 1) (V 2) H

def w4_0 (E : Env) (R : AHP) (t1 t2 t3 t4 t5 t6 : AV) (H : Heap) : Prop :=
 pW (.len (.c t1)) fun t23 =>
 pW (.mn (.c t23) (.c (.int .i64 30))) fun t24 =>
 pW (.slice 1 (.c t1) none (some (.c t24))) fun t25 =>
 pcallW E (.fn 19 []) [t2, .int .i64 3] H fun t27 H1 =>
 pcallW E (.fn 18 []) [t25, t27] H1 fun t28 H2 =>
 mkW (.alloc [.int .i64 0, .int .i64 0, .nilsl]) H2 fun t13 H3 =>
 mW (.st 3 (.c t13) (.c t28)) H3 fun _ H4 =>
 frzW t13 H4 fun t13'1 H5 =>
 rdW (.lda 3 (.c t13'1)) H5 fun t29 =>
 cW E 20 [t29, t3, t4] H5 fun t32 H6 =>
 alW 3 t32 fun t14 =>
 rdW (.lda 3 (.c t13'1)) H6 fun t33 =>
 pcallW E (.fn 14 []) [t33] H6 fun t34 H7 =>
 pW (.un .not (.c t34)) fun t35 =>
 grpW false t35 (fun k1 => rdW (.lda 3 (.c t6)) H7 fun t37 =>
 pcallW E (.fn 14 []) [t37] H7 fun t38 H8 =>
 rdW (.lda 3 (.c t6)) H8 fun t39 =>
 pcallW E (.fn 21 []) [t39] H8 fun t40 H9 =>
 pW (.eqb true (.c t38) (.c t40)) fun t41 =>
 k1 t41 H9) H7 fun _ t42 =>
 grpW false t42 (fun k2 => rdW (.lda 3 (.c t14)) H7 fun t44 =>
 pcallW E (.fn 14 []) [t44] H7 fun t45 H10 =>
 rdW (.lda 3 (.c t14)) H10 fun t46 =>
 pcallW E (.fn 21 []) [t46] H10 fun t47 H11 =>
 pW (.eqb true (.c t45) (.c t47)) fun t48 =>
 k2 t48 H11) H7 fun _ t49 =>
 condW t49
 (RetC R (.bool false) H7)
 (atW (m4_1 E R) [t4, t5, t14] H7)
def m4_0 (E : Env) (R : AHP) : THP := fun V H => w4_0 E R (V 0) (V 1) (V 2) (V 3) (V 4) (V 5) H

/-- fulling/fullinglaw32.VCodeValid -/
def w4 (E : Env) (R : AHP) (t0 t1 t2 t3 t4 t5 : AV) (H : Heap) : Prop :=
 bxW t0 fun t6 =>
 pW (.fad 2 (.c t6)) fun t16 =>
 rdW (.ld (.c t16)) H fun t17 =>
 pW (.len (.c t17)) fun t18 =>
 pW (.bin .gtr (.c t18) (.c (.int .i64 30))) fun t19 =>
 condW t19
 (cW E 3 [] H fun t20 H1 =>
 RetC R t20 H1)
 (atW (m4_0 E R) [t1, t2, t3, t4, t5, t6] H)

theorem ent4 {E : Env} (hE : E.Good) (hF : E.Fits tab) (t0 t1 t2 t3 t4 t5 : AV) (H : Heap) (R : AHP) (h : w4 E R t0 t1 t2 t3 t4 t5 H) : ACall E 4 [t0, t1, t2, t3, t4, t5] H R :=
 acallW (b := d4) hE hF rfl (Nat.le_of_ble_eq_true rfl) (Eq.mp (by kernel_rfl : w4 E R t0 t1 t2 t3 t4 t5 H = DW E d4 (QF [.tmp 12] R) (vl [t0, t1, t2, t3, t4, t5]) H) h)


def w5_4 (E : Env) (R : AHP) (K1 : THP) (K2 : THP) (t4 t5 t13 t14 t17 t87 t88 t89 t99 t100 t101 : AV) (H : Heap) : Prop :=
 pW (.iad 1 (.c t99) (.c t101)) fun t103 =>
 rdW (.ld (.c t103)) H fun t104 =>
 cW E 23 [t17, t104] H fun t107 H1 =>
 cW E 24 [t17, t104] H1 fun t110 H2 =>
 pW (.eqb true (.c t107) (.c t110)) fun t111 =>
 condW t111
 (RetC R (.bool false) H2)
 (pW (.bin .add (.c t101) (.c (.int .i64 1))) fun t112 =>
 atW K2 [t4, t5, t13, t14, t17, t87, t88, t89, t99, t100, t112] H2)
def m5_4 (E : Env) (R : AHP) (K1 : THP) (K2 : THP) : THP := fun V H => w5_4 E R K1 K2 (V 0) (V 1) (V 2) (V 3) (V 4) (V 5) (V 6) (V 7) (V 8) (V 9) (V 10) H

def w5_3 (E : Env) (R : AHP) (K1 : THP) (K2 : THP) (t4 t5 t13 t14 t17 t87 t88 t89 t99 t100 t101 : AV) (H : Heap) : Prop :=
 pW (.bin .lss (.c t101) (.c t100)) fun t102 =>
 condW t102
 (atW (m5_4 E R K1 K2) [t4, t5, t13, t14, t17, t87, t88, t89, t99, t100, t101] H)
 (pW (.bin .add (.c t89) (.c (.int .i64 1))) fun t113 =>
 atW K1 [t4, t5, t13, t14, t87, t88, t113] H)
def l5_3 (E : Env) (R : AHP) (K1 : THP) : THP → THP := fun K2 V H => w5_3 E R K1 K2 (V 0) (V 1) (V 2) (V 3) (V 4) (V 5) (V 6) (V 7) (V 8) (V 9) (V 10) H

def w5_2 (E : Env) (R : AHP) (K1 : THP) (t4 t5 t13 t14 t87 t88 t89 : AV) (H : Heap) : Prop :=
 pW (.iad 1 (.c t87) (.c t89)) fun t91 =>
 rdW (.ld (.c t91)) H fun t92 =>
 cW E 19 [t5, .int .i64 20] H fun t96 H1 =>
 pW (.bin .sub (.c t96) (.c (.int .i64 1))) fun t97 =>
 bsW 1 [.int .i64 0] 2 [(0, .int .i64 3), (1, t97)] fun t98 =>
 bsW 1 [.nilsl] 4 [(0, t14), (1, t4), (2, .nilsl), (3, t98)] fun t99 =>
 pW (.len (.c t99)) fun t100 =>
 loopW (l5_3 E R K1) [t4, t5, t13, t14, t92, t87, t88, t89, t99, t100, .int .i64 0] H1
def m5_2 (E : Env) (R : AHP) (K1 : THP) : THP := fun V H => w5_2 E R K1 (V 0) (V 1) (V 2) (V 3) (V 4) (V 5) (V 6) H

def w5_5 (E : Env) (R : AHP) (t13 t14 : AV) (H : Heap) : Prop :=
 cW E 23 [t13, t14] H fun t116 H1 =>
 grpW true t116 (fun k1 => cW E 3 [] H1 fun t118 H2 =>
 k1 t118 H2) H1 fun _ t119 =>
 RetC R t119 H1
def m5_5 (E : Env) (R : AHP) : THP := fun V H => w5_5 E R (V 0) (V 1) H

def w5_1 (E : Env) (R : AHP) (K1 : THP) (t4 t5 t13 t14 t87 t88 t89 : AV) (H : Heap) : Prop :=
 pW (.bin .lss (.c t89) (.c t88)) fun t90 =>
 condW t90
 (atW (m5_2 E R K1) [t4, t5, t13, t14, t87, t88, t89] H)
 (atW (m5_5 E R) [t13, t14] H)
def l5_1 (E : Env) (R : AHP) : THP → THP := fun K1 V H => w5_1 E R K1 (V 0) (V 1) (V 2) (V 3) (V 4) (V 5) (V 6) H

def w5_0 (E : Env) (R : AHP) (t4 t5 t13 t14 t15 : AV) (H : Heap) : Prop :=
 ∀ base, Fresh H base →
 pW (.slice 3 (.c t13) none (some (.c (.int .i64 1)))) fun t49 =>
 pW (.slice 3 (.c t13) (some (.c (.int .i64 1))) none) fun t51 =>
 pW (.iad 3 (.c t13) (.c (.int .i64 1))) fun t53 =>
 dW (.lda 3 (.c t53)) (base + 8) H fun t54 n1 g1 H1 =>
 pW (.iad 3 (.c t13) (.c (.int .i64 0))) fun t56 =>
 dW (.lda 3 (.c t56)) (base + 11) H1 fun t57 n2 g2 H2 =>
 dW (.bsl 3 [.int .i64 0, .int .i64 0, .nilsl] 2 [(0, .c t54), (1, .c t57)]) (base + 12) H2 fun t58 n3 g3 H3 =>
 pW (.iad 3 (.c t13) (.c (.int .i64 0))) fun t60 =>
 dW (.lda 3 (.c t60)) (base + 15) H3 fun t61 n4 g4 H4 =>
 pW (.iad 3 (.c t13) (.c (.int .i64 0))) fun t63 =>
 dW (.lda 3 (.c t63)) (base + 18) H4 fun t64 n5 g5 H5 =>
 pW (.iad 3 (.c t13) (.c (.int .i64 1))) fun t66 =>
 dW (.lda 3 (.c t66)) (base + 21) H5 fun t67 n6 g6 H6 =>
 pW (.iad 3 (.c t13) (.c (.int .i64 0))) fun t69 =>
 dW (.lda 3 (.c t69)) (base + 24) H6 fun t70 n7 g7 H7 =>
 pW (.iad 3 (.c t13) (.c (.int .i64 1))) fun t72 =>
 dW (.lda 3 (.c t72)) (base + 27) H7 fun t73 n8 g8 H8 =>
 pW (.iad 3 (.c t13) (.c (.int .i64 0))) fun t75 =>
 dW (.lda 3 (.c t75)) (base + 30) H8 fun t76 n9 g9 H9 =>
 pW (.iad 3 (.c t13) (.c (.int .i64 1))) fun t78 =>
 dW (.lda 3 (.c t78)) (base + 33) H9 fun t79 n10 g10 H10 =>
 pW (.iad 3 (.c t13) (.c (.int .i64 0))) fun t81 =>
 dW (.lda 3 (.c t81)) (base + 36) H10 fun t82 n11 g11 H11 =>
 pW (.iad 3 (.c t13) (.c (.int .i64 1))) fun t84 =>
 dW (.lda 3 (.c t84)) (base + 39) H11 fun t85 n12 g12 H12 =>
 dW (.bsl 3 [.int .i64 0, .int .i64 0, .nilsl] 9 [(0, .c t61), (1, .c t64), (2, .c t67), (3, .c t70), (4, .c t73), (5, .c t76), (6, .c t79), (7, .c t82), (8, .c t85)]) (base + 40) H12 fun t86 n13 g13 H13 =>
 dW (.bsl 1 [.nilsl] 7 [(0, .c t13), (1, .c t15), (2, .c t49), (3, .c t51), (4, .c .nilsl), (5, .c t58), (6, .c t86)]) (base + 41) H13 fun t87 n14 g14 H14 =>
 pW (.len (.c t87)) fun t88 =>
 (keysDisj (n3, g3) (n4, g4) ∧ (keysDisj (n3, g3) (n5, g5) ∧ (keysDisj (n3, g3) (n6, g6) ∧ (keysDisj (n3, g3) (n7, g7) ∧ (keysDisj (n3, g3) (n8, g8) ∧ (keysDisj (n3, g3) (n9, g9) ∧ (keysDisj (n3, g3) (n10, g10) ∧ (keysDisj (n3, g3) (n11, g11) ∧ (keysDisj (n3, g3) (n12, g12) ∧ (keysDisj (n1, g1) (n13, g13) ∧ (keysDisj (n2, g2) (n13, g13) ∧ (keysDisj (n3, g3) (n13, g13) ∧ True)))))))))))) ∧
 loopW (l5_1 E R) [t4, t5, t13, t14, t87, t88, .int .i64 0] H14
def m5_0 (E : Env) (R : AHP) : THP := fun V H => w5_0 E R (V 0) (V 1) (V 2) (V 3) (V 4) H

/-- fulling/fullinglaw32.VCodeProgram -/
def w5 (E : Env) (R : AHP) (t0 t1 t2 t3 t4 t5 : AV) (H : Heap) : Prop :=
 cW E 22 [t0, t1] H fun t23 H1 =>
 pW (.ext (.c t23) 0) fun t24 =>
 pW (.ext (.c t23) 1) fun t25 =>
 mkW (.app 3 (.c .nilsl) (.c t24)) H1 fun t27 H2 =>
 cW E 19 [t3, .int .i64 2] H2 fun t30 H3 =>
 cW E 19 [t3, .int .i64 2] H3 fun t33 H4 =>
 pW (.iad 3 (.c t27) (.c t33)) fun t34 =>
 rdW (.lda 3 (.c t34)) H4 fun t35 =>
 pW (.bin .quo (.c t3) (.c (.int .i64 2))) fun t38 =>
 cW E 20 [t35, t2, t38] H4 fun t39 H5 =>
 pW (.iad 3 (.c t27) (.c t30)) fun t40 =>
 mW (.st 3 (.c t40) (.c t39)) H5 fun _ H6 =>
 pW (.len (.c t4)) fun t42 =>
 pW (.bin .gtr (.c t42) (.c (.int .i64 8))) fun t43 =>
 condW t43
 (pW (.slice 1 (.c t4) none (some (.c (.int .i64 8)))) fun t45 =>
 atW (m5_0 E R) [t45, t5, t24, t25, t27] H6)
 (atW (m5_0 E R) [t4, t5, t24, t25, t27] H6)

theorem ent5 {E : Env} (hE : E.Good) (hF : E.Fits tab) (t0 t1 t2 t3 t4 t5 : AV) (H : Heap) (R : AHP) (h : w5 E R t0 t1 t2 t3 t4 t5 H) : ACall E 5 [t0, t1, t2, t3, t4, t5] H R :=
 acallW (b := d5) hE hF rfl (Nat.le_of_ble_eq_true rfl) (Eq.mp (by kernel_rfl : w5 E R t0 t1 t2 t3 t4 t5 H = DW E d5 (QF [.tmp 12] R) (vl [t0, t1, t2, t3, t4, t5]) H) h)


def w6_1 (E : Env) (R : AHP) (K1 : THP) (t2 t6 t17 t18 t19 t48 t49 t50 : AV) (H : Heap) : Prop :=
 pW (.iad 1 (.c t48) (.c t50)) fun t52 =>
 rdW (.ld (.c t52)) H fun t53 =>
 cW E 26 [t6] H fun t60 H1 =>
 cW E 13 [t17, t18, t2, t19, t60, t53] H1 fun t62 H2 =>
 pW (.ext (.c t62) 0) fun t63 =>
 pW (.ext (.c t62) 1) fun t64 =>
 alW 4 t63 fun t22 =>
 cW E 26 [t6] H2 fun t71 H3 =>
 cW E 27 [t17, t18, t2, t19, t71, t53] H3 fun t73 H4 =>
 pW (.ext (.c t73) 0) fun t74 =>
 pW (.ext (.c t73) 1) fun t75 =>
 alW 4 t74 fun t24 =>
 pW (.eqb true (.c t64) (.c t75)) fun t78 =>
 grpW false t78 (fun k1 => rdW (.lda 4 (.c t22)) H4 fun t80 =>
 rdW (.lda 4 (.c t24)) H4 fun t81 =>
 cW E 15 [t80, t81] H4 fun t82 H5 =>
 pW (.un .not (.c t82)) fun t83 =>
 k1 t83 H5) H4 fun _ t84 =>
 condW t84
 (RetC R (.bool false) H4)
 (pW (.bin .add (.c t50) (.c (.int .i64 1))) fun t85 =>
 atW K1 [t2, t6, t17, t18, t19, t48, t49, t85] H4)
def m6_1 (E : Env) (R : AHP) (K1 : THP) : THP := fun V H => w6_1 E R K1 (V 0) (V 1) (V 2) (V 3) (V 4) (V 5) (V 6) (V 7) H

def w6_0 (E : Env) (R : AHP) (K1 : THP) (t2 t6 t17 t18 t19 t48 t49 t50 : AV) (H : Heap) : Prop :=
 pW (.bin .lss (.c t50) (.c t49)) fun t51 =>
 condW t51
 (atW (m6_1 E R K1) [t2, t6, t17, t18, t19, t48, t49, t50] H)
 (cW E 3 [] H fun t86 H1 =>
 RetC R t86 H1)
def l6_0 (E : Env) (R : AHP) : THP → THP := fun K1 V H => w6_0 E R K1 (V 0) (V 1) (V 2) (V 3) (V 4) (V 5) (V 6) (V 7) H

/-- fulling/fullinglaw32.VCodeRun -/
def w6 (E : Env) (R : AHP) (t0 t1 t2 t3 t4 t5 t6 t7 : AV) (H : Heap) : Prop :=
 cW E 22 [t0, t1] H fun t29 H1 =>
 pW (.ext (.c t29) 0) fun t30 =>
 pW (.ext (.c t29) 1) fun t31 =>
 cW E 19 [t2, .int .i64 2] H1 fun t33 H2 =>
 pcallW E (.fn 25 []) [t3, t4, t5] H2 fun t37 H3 =>
 pW (.iad 3 (.c t30) (.c t33)) fun t40 =>
 pW (.fad 0 (.c t40)) fun t41 =>
 rdW (.ld (.c t41)) H3 fun t42 =>
 pW (.slice 1 (.c t37) none (some (.c t42))) fun t43 =>
 cW E 19 [t7, .int .i64 60] H3 fun t45 H4 =>
 pW (.mn (.c t7) (.c (.int .i64 300))) fun t47 =>
 bsW 1 [.int .i64 0] 3 [(0, .int .i64 200), (1, t45), (2, t47)] fun t48 =>
 pW (.len (.c t48)) fun t49 =>
 loopW (l6_0 E R) [t33, t6, t30, t31, t43, t48, t49, .int .i64 0] H4

theorem ent6 {E : Env} (hE : E.Good) (hF : E.Fits tab) (t0 t1 t2 t3 t4 t5 t6 t7 : AV) (H : Heap) (R : AHP) (h : w6 E R t0 t1 t2 t3 t4 t5 t6 t7 H) : ACall E 6 [t0, t1, t2, t3, t4, t5, t6, t7] H R :=
 acallW (b := d6) hE hF rfl (Nat.le_of_ble_eq_true rfl) (Eq.mp (by kernel_rfl : w6 E R t0 t1 t2 t3 t4 t5 t6 t7 H = DW E d6 (QF [.tmp 16] R) (vl [t0, t1, t2, t3, t4, t5, t6, t7]) H) h)


def w7_3 (E : Env) (R : AHP) (K1 : THP) (K2 : THP) (t4 t5 t6 t16 t19 t48 t49 t50 t58 t59 t60 : AV) (H : Heap) : Prop :=
 pW (.iad 1 (.c t58) (.c t60)) fun t62 =>
 rdW (.ld (.c t62)) H fun t63 =>
 cW E 13 [t19, t16, t63, t5, t6, .int .i64 60] H fun t70 H1 =>
 pW (.ext (.c t70) 0) fun t71 =>
 pW (.ext (.c t70) 1) fun t72 =>
 alW 4 t71 fun t22 =>
 cW E 27 [t19, t16, t63, t5, t6, .int .i64 60] H1 fun t79 H2 =>
 pW (.ext (.c t79) 0) fun t80 =>
 pW (.ext (.c t79) 1) fun t81 =>
 alW 4 t80 fun t24 =>
 bsW 1 [.int .i64 0] 2 [(0, .int .i64 1), (1, .int .i64 2)] fun t86 =>
 cW E 19 [t6, .int .i64 1004] H2 fun t88 H3 =>
 pW (.bin .sub (.c t88) (.c (.int .i64 2))) fun t89 =>
 cW E 13 [t19, t16, t63, t86, t89, .int .i64 60] H3 fun t90 H4 =>
 pW (.ext (.c t90) 0) fun t91 =>
 pW (.ext (.c t90) 1) fun t92 =>
 alW 4 t91 fun t26 =>
 bsW 1 [.int .i64 0] 2 [(0, .int .i64 1), (1, .int .i64 2)] fun t97 =>
 cW E 19 [t6, .int .i64 1004] H4 fun t99 H5 =>
 pW (.bin .sub (.c t99) (.c (.int .i64 2))) fun t100 =>
 cW E 27 [t19, t16, t63, t97, t100, .int .i64 60] H5 fun t101 H6 =>
 pW (.ext (.c t101) 0) fun t102 =>
 pW (.ext (.c t101) 1) fun t103 =>
 alW 4 t102 fun t28 =>
 pW (.eqb true (.c t72) (.c t81)) fun t106 =>
 grpW false t106 (fun k1 => pW (.eqb true (.c t92) (.c t103)) fun t110 =>
 k1 t110 H6) H6 fun _ t111 =>
 grpW false t111 (fun k2 => rdW (.lda 4 (.c t22)) H6 fun t113 =>
 rdW (.lda 4 (.c t24)) H6 fun t114 =>
 cW E 15 [t113, t114] H6 fun t115 H7 =>
 pW (.un .not (.c t115)) fun t116 =>
 k2 t116 H7) H6 fun _ t117 =>
 grpW false t117 (fun k3 => rdW (.lda 4 (.c t26)) H6 fun t119 =>
 rdW (.lda 4 (.c t28)) H6 fun t120 =>
 cW E 15 [t119, t120] H6 fun t121 H8 =>
 pW (.un .not (.c t121)) fun t122 =>
 k3 t122 H8) H6 fun _ t123 =>
 condW t123
 (RetC R (.bool false) H6)
 (pW (.bin .add (.c t60) (.c (.int .i64 1))) fun t124 =>
 atW K2 [t4, t5, t6, t16, t19, t48, t49, t50, t58, t59, t124] H6)
def m7_3 (E : Env) (R : AHP) (K1 : THP) (K2 : THP) : THP := fun V H => w7_3 E R K1 K2 (V 0) (V 1) (V 2) (V 3) (V 4) (V 5) (V 6) (V 7) (V 8) (V 9) (V 10) H

def w7_2 (E : Env) (R : AHP) (K1 : THP) (K2 : THP) (t4 t5 t6 t16 t19 t48 t49 t50 t58 t59 t60 : AV) (H : Heap) : Prop :=
 pW (.bin .lss (.c t60) (.c t59)) fun t61 =>
 condW t61
 (atW (m7_3 E R K1 K2) [t4, t5, t6, t16, t19, t48, t49, t50, t58, t59, t60] H)
 (pW (.bin .add (.c t50) (.c (.int .i64 1))) fun t125 =>
 atW K1 [t4, t5, t6, t16, t48, t49, t125] H)
def l7_2 (E : Env) (R : AHP) (K1 : THP) : THP → THP := fun K2 V H => w7_2 E R K1 K2 (V 0) (V 1) (V 2) (V 3) (V 4) (V 5) (V 6) (V 7) (V 8) (V 9) (V 10) H

def w7_1 (E : Env) (R : AHP) (K1 : THP) (t4 t5 t6 t16 t48 t49 t50 : AV) (H : Heap) : Prop :=
 pW (.iad 1 (.c t48) (.c t50)) fun t52 =>
 rdW (.ld (.c t52)) H fun t53 =>
 cW E 19 [t4, .int .i64 4] H fun t56 H1 =>
 pW (.bin .sub (.c t56) (.c (.int .i64 1))) fun t57 =>
 bsW 1 [.int .i64 0] 2 [(0, t4), (1, t57)] fun t58 =>
 pW (.len (.c t58)) fun t59 =>
 loopW (l7_2 E R K1) [t4, t5, t6, t16, t53, t48, t49, t50, t58, t59, .int .i64 0] H1
def m7_1 (E : Env) (R : AHP) (K1 : THP) : THP := fun V H => w7_1 E R K1 (V 0) (V 1) (V 2) (V 3) (V 4) (V 5) (V 6) H

def w7_0 (E : Env) (R : AHP) (K1 : THP) (t4 t5 t6 t16 t48 t49 t50 : AV) (H : Heap) : Prop :=
 pW (.bin .lss (.c t50) (.c t49)) fun t51 =>
 condW t51
 (atW (m7_1 E R K1) [t4, t5, t6, t16, t48, t49, t50] H)
 (cW E 3 [] H fun t126 H1 =>
 RetC R t126 H1)
def l7_0 (E : Env) (R : AHP) : THP → THP := fun K1 V H => w7_0 E R K1 (V 0) (V 1) (V 2) (V 3) (V 4) (V 5) (V 6) H

/-- fulling/fullinglaw32.VCodeInvalid -/
def w7 (E : Env) (R : AHP) (t0 t1 t2 t3 t4 t5 t6 : AV) (H : Heap) : Prop :=
 cW E 22 [t0, t1] H fun t33 H1 =>
 pW (.ext (.c t33) 0) fun t34 =>
 pW (.ext (.c t33) 1) fun t35 =>
 mkW (.app 3 (.c .nilsl) (.c t34)) H1 fun t37 H2 =>
 pW (.iad 3 (.c t37) (.c (.int .i64 0))) fun t40 =>
 rdW (.lda 3 (.c t40)) H2 fun t41 =>
 cW E 20 [t41, t2, t3] H2 fun t44 H3 =>
 pW (.iad 3 (.c t37) (.c (.int .i64 0))) fun t45 =>
 mW (.st 3 (.c t45) (.c t44)) H3 fun _ H4 =>
 bsW 1 [.nilsl] 2 [(0, t34), (1, t37)] fun t48 =>
 pW (.len (.c t48)) fun t49 =>
 loopW (l7_0 E R) [t4, t5, t6, t35, t48, t49, .int .i64 0] H4

theorem ent7 {E : Env} (hE : E.Good) (hF : E.Fits tab) (t0 t1 t2 t3 t4 t5 t6 : AV) (H : Heap) (R : AHP) (h : w7 E R t0 t1 t2 t3 t4 t5 t6 H) : ACall E 7 [t0, t1, t2, t3, t4, t5, t6] H R :=
 acallW (b := d7) hE hF rfl (Nat.le_of_ble_eq_true rfl) (Eq.mp (by kernel_rfl : w7 E R t0 t1 t2 t3 t4 t5 t6 H = DW E d7 (QF [.tmp 14] R) (vl [t0, t1, t2, t3, t4, t5, t6]) H) h)


/-- fulling/fullinglaw32.VCodeMoreSteps -/
def w8 (E : Env) (R : AHP) (t0 t1 t2 t3 t4 t5 t6 t7 t8 : AV) (H : Heap) : Prop :=
 cW E 22 [t0, t1] H fun t30 H1 =>
 pW (.ext (.c t30) 0) fun t31 =>
 pW (.ext (.c t30) 1) fun t32 =>
 cW E 19 [t2, .int .i64 2] H1 fun t34 H2 =>
 pcallW E (.fn 25 []) [t3, t4, t5] H2 fun t38 H3 =>
 pW (.iad 3 (.c t31) (.c t34)) fun t41 =>
 pW (.fad 0 (.c t41)) fun t42 =>
 rdW (.ld (.c t42)) H3 fun t43 =>
 pW (.slice 1 (.c t38) none (some (.c t43))) fun t44 =>
 cW E 19 [t7, .int .i64 150] H3 fun t46 H4 =>
 cW E 26 [t6] H4 fun t53 H5 =>
 cW E 13 [t31, t32, t34, t44, t53, t46] H5 fun t55 H6 =>
 pW (.ext (.c t55) 0) fun t56 =>
 pW (.ext (.c t55) 1) fun t57 =>
 alW 4 t56 fun t23 =>
 cW E 26 [t6] H6 fun t64 H7 =>
 cW E 19 [t8, .int .i64 100] H7 fun t67 H8 =>
 pW (.bin .add (.c t46) (.c t67)) fun t68 =>
 cW E 13 [t31, t32, t34, t44, t64, t68] H8 fun t69 H9 =>
 pW (.ext (.c t69) 0) fun t70 =>
 pW (.ext (.c t69) 1) fun t71 =>
 alW 4 t70 fun t25 =>
 pW (.un .not (.c t57)) fun t73 =>
 grpW false t73 (fun k1 => grpW true t71 (fun k2 => rdW (.lda 4 (.c t23)) H9 fun t77 =>
 rdW (.lda 4 (.c t25)) H9 fun t78 =>
 cW E 15 [t77, t78] H9 fun t79 H10 =>
 k2 t79 H10) H9 fun _ t80 =>
 k1 t80 H9) H9 fun _ t81 =>
 grpW true t81 (fun k3 => cW E 3 [] H9 fun t83 H11 =>
 k3 t83 H11) H9 fun _ t84 =>
 RetC R t84 H9

theorem ent8 {E : Env} (hE : E.Good) (hF : E.Fits tab) (t0 t1 t2 t3 t4 t5 t6 t7 t8 : AV) (H : Heap) (R : AHP) (h : w8 E R t0 t1 t2 t3 t4 t5 t6 t7 t8 H) : ACall E 8 [t0, t1, t2, t3, t4, t5, t6, t7, t8] H R :=
 acallW (b := d8) hE hF rfl (Nat.le_of_ble_eq_true rfl) (Eq.mp (by kernel_rfl : w8 E R t0 t1 t2 t3 t4 t5 t6 t7 t8 H = DW E d8 (QF [.tmp 18] R) (vl [t0, t1, t2, t3, t4, t5, t6, t7, t8]) H) h)


def w9_1 (E : Env) (R : AHP) (K1 : THP) (t2 t6 t7 t17 t18 t19 t20 t21 : AV) (H : Heap) : Prop :=
 pW (.iad 3 (.c t20) (.c t21)) fun t52 =>
 pW (.fad 1 (.c t52)) fun t53 =>
 rdW (.ld (.c t53)) H fun t54 =>
 pcallW E (.fn 19 []) [t7, .int .i64 9] H fun t56 H1 =>
 pW (.bin .add (.c (.int .i64 1)) (.c t56)) fun t57 =>
 pW (.bin .add (.c t54) (.c t57)) fun t58 =>
 pW (.iad 3 (.c t20) (.c t21)) fun t59 =>
 pW (.fad 1 (.c t59)) fun t60 =>
 mW (.st 1 (.c t60) (.c t58)) H1 fun _ H2 =>
 pW (.iad 3 (.c t20) (.c t21)) fun t65 =>
 pW (.fad 2 (.c t65)) fun t66 =>
 rdW (.ld (.c t66)) H2 fun t67 =>
 mkW (.app 5 (.c .nilsl) (.c t67)) H2 fun t68 H3 =>
 pW (.build [.nilsl, .int .i64 0, .int .i64 0, .int .i64 0, .int .i64 0] [(1, 1, .c (.int .i64 4)), (3, 1, .c (.int .i64 77))]) fun t69 =>
 bsW 5 [.nilsl, .int .i64 0, .int .i64 0, .int .i64 0, .int .i64 0] 1 [(0, t69)] fun t70 =>
 mkW (.app 5 (.c t68) (.c t70)) H3 fun t71 H4 =>
 pW (.iad 3 (.c t20) (.c t21)) fun t72 =>
 pW (.fad 2 (.c t72)) fun t73 =>
 mW (.st 1 (.c t73) (.c t71)) H4 fun _ H5 =>
 pW (.bin .add (.c t21) (.c (.int .i64 1))) fun t49 =>
 atW K1 [t2, t6, t7, t17, t18, t19, t20, t49] H5
def m9_1 (E : Env) (R : AHP) (K1 : THP) : THP := fun V H => w9_1 E R K1 (V 0) (V 1) (V 2) (V 3) (V 4) (V 5) (V 6) (V 7) H

def w9_2 (E : Env) (R : AHP) (t2 t6 t17 t18 t19 t20 : AV) (H : Heap) : Prop :=
 cW E 26 [t6] H fun t80 H1 =>
 cW E 13 [t17, t18, t2, t19, t80, .int .i64 200] H1 fun t81 H2 =>
 pW (.ext (.c t81) 0) fun t82 =>
 pW (.ext (.c t81) 1) fun t83 =>
 alW 4 t82 fun t22 =>
 cW E 26 [t6] H2 fun t90 H3 =>
 cW E 13 [t20, t18, t2, t19, t90, .int .i64 200] H3 fun t91 H4 =>
 pW (.ext (.c t91) 0) fun t92 =>
 pW (.ext (.c t91) 1) fun t93 =>
 alW 4 t92 fun t24 =>
 pW (.eqb false (.c t83) (.c t93)) fun t96 =>
 grpW true t96 (fun k1 => rdW (.lda 4 (.c t22)) H4 fun t98 =>
 rdW (.lda 4 (.c t24)) H4 fun t99 =>
 cW E 15 [t98, t99] H4 fun t100 H5 =>
 k1 t100 H5) H4 fun _ t101 =>
 grpW true t101 (fun k2 => cW E 3 [] H4 fun t103 H6 =>
 k2 t103 H6) H4 fun _ t104 =>
 RetC R t104 H4
def m9_2 (E : Env) (R : AHP) : THP := fun V H => w9_2 E R (V 0) (V 1) (V 2) (V 3) (V 4) (V 5) H

def w9_0 (E : Env) (R : AHP) (K1 : THP) (t2 t6 t7 t17 t18 t19 t20 t21 : AV) (H : Heap) : Prop :=
 pW (.bin .lss (.c t21) (.c (.int .i64 2))) fun t47 =>
 condW t47
 (atW (m9_1 E R K1) [t2, t6, t7, t17, t18, t19, t20, t21] H)
 (atW (m9_2 E R) [t2, t6, t17, t18, t19, t20] H)
def l9_0 (E : Env) (R : AHP) : THP → THP := fun K1 V H => w9_0 E R K1 (V 0) (V 1) (V 2) (V 3) (V 4) (V 5) (V 6) (V 7) H

/-- fulling/fullinglaw32.VCodeUnusedRegisters -/
def w9 (E : Env) (R : AHP) (t0 t1 t2 t3 t4 t5 t6 t7 : AV) (H : Heap) : Prop :=
 cW E 22 [t0, t1] H fun t29 H1 =>
 pW (.ext (.c t29) 0) fun t30 =>
 pW (.ext (.c t29) 1) fun t31 =>
 cW E 19 [t2, .int .i64 2] H1 fun t33 H2 =>
 pcallW E (.fn 25 []) [t3, t4, t5] H2 fun t37 H3 =>
 pW (.iad 3 (.c t30) (.c t33)) fun t40 =>
 pW (.fad 0 (.c t40)) fun t41 =>
 rdW (.ld (.c t41)) H3 fun t42 =>
 pW (.slice 1 (.c t37) none (some (.c t42))) fun t43 =>
 mkW (.app 3 (.c .nilsl) (.c t30)) H3 fun t45 H4 =>
 loopW (l9_0 E R) [t33, t6, t7, t30, t31, t43, t45, .int .i64 0] H4

theorem ent9 {E : Env} (hE : E.Good) (hF : E.Fits tab) (t0 t1 t2 t3 t4 t5 t6 t7 : AV) (H : Heap) (R : AHP) (h : w9 E R t0 t1 t2 t3 t4 t5 t6 t7 H) : ACall E 9 [t0, t1, t2, t3, t4, t5, t6, t7] H R :=
 acallW (b := d9) hE hF rfl (Nat.le_of_ble_eq_true rfl) (Eq.mp (by kernel_rfl : w9 E R t0 t1 t2 t3 t4 t5 t6 t7 H = DW E d9 (QF [.tmp 16] R) (vl [t0, t1, t2, t3, t4, t5, t6, t7]) H) h)


def w13_2 (E : Env) (R : AHP) (K1 : THP) (t5 t12 t14 t63 t64 t65 : AV) (H : Heap) : Prop :=
 pW (.iad 1 (.c t63) (.c t65)) fun t67 =>
 rdW (.ld (.c t67)) H fun t68 =>
 pW (.nilck (.c t14)) fun t71 =>
 pW (.fad 1 (.c t71)) fun t72 =>
 rdW (.ld (.c t72)) H fun t73 =>
 mkW (.mksl 1 8 [.int .i64 0] (.c t68) (.c t68)) H fun t75 H1 =>
 mkW (.bsl 1 [.nilsl] 1 [(0, .c t75)]) H1 fun t76 H2 =>
 mkW (.app 1 (.c t73) (.c t76)) H2 fun t77 H3 =>
 pW (.nilck (.c t14)) fun t78 =>
 pW (.fad 1 (.c t78)) fun t79 =>
 mW (.st 1 (.c t79) (.c t77)) H3 fun _ H4 =>
 pW (.bin .add (.c t65) (.c (.int .i64 1))) fun t80 =>
 atW K1 [t5, t12, t14, t63, t64, t80] H4
def m13_2 (E : Env) (R : AHP) (K1 : THP) : THP := fun V H => w13_2 E R K1 (V 0) (V 1) (V 2) (V 3) (V 4) (V 5) H

def w13_6 (E : Env) (R : AHP) (t12 t14 : AV) (H : Heap) : Prop :=
 pW (.nilck (.c t14)) fun t102 =>
 pW (.fad 5 (.c t102)) fun t103 =>
 rdW (.lda 4 (.c t103)) H fun t104 =>
 mW (.st 4 (.c t12) (.c t104)) H fun _ H1 =>
 rdW (.lda 4 (.c t12)) H1 fun r3 =>
 RetC R (.tup [r3, .bool true]) H1
def m13_6 (E : Env) (R : AHP) : THP := fun V H => w13_6 E R (V 0) (V 1) H

def w13_5 (E : Env) (R : AHP) (t12 t14 : AV) (H : Heap) : Prop :=
 pW (.nilck (.c t14)) fun t96 =>
 pW (.fad 4 (.c t96)) fun t97 =>
 rdW (.ld (.c t97)) H fun t98 =>
 pW (.un .not (.c t98)) fun t99 =>
 condW t99
 (pW (.build [.int .i64 0, .int .i64 0, .nilsl, .int .i64 0] []) fun t100 =>
 mW (.st 4 (.c t12) (.c t100)) H fun _ H1 =>
 rdW (.lda 4 (.c t12)) H1 fun r2 =>
 RetC R (.tup [r2, .bool false]) H1)
 (atW (m13_6 E R) [t12, t14] H)
def m13_5 (E : Env) (R : AHP) : THP := fun V H => w13_5 E R (V 0) (V 1) H

def w13_4 (E : Env) (R : AHP) (K1 : THP) (t5 t12 t14 t17 : AV) (H : Heap) : Prop :=
 pW (.bin .lss (.c t17) (.c t5)) fun t83 =>
 grpW true t83 (fun k1 => pW (.nilck (.c t14)) fun t86 =>
 pW (.fad 4 (.c t86)) fun t87 =>
 rdW (.ld (.c t87)) H fun t88 =>
 pW (.un .not (.c t88)) fun t89 =>
 k1 t89 H) H fun _ t90 =>
 condW t90
 (cW E 42 [t14] H fun t94 H1 =>
 pW (.bin .add (.c t17) (.c (.int .i64 1))) fun t92 =>
 atW K1 [t5, t12, t14, t92] H1)
 (atW (m13_5 E R) [t12, t14] H)
def l13_4 (E : Env) (R : AHP) : THP → THP := fun K1 V H => w13_4 E R K1 (V 0) (V 1) (V 2) (V 3) H

def w13_3 (E : Env) (R : AHP) (t5 t12 t14 : AV) (H : Heap) : Prop :=
 loopW (l13_4 E R) [t5, t12, t14, .int .i64 0] H
def m13_3 (E : Env) (R : AHP) : THP := fun V H => w13_3 E R (V 0) (V 1) (V 2) H

def w13_1 (E : Env) (R : AHP) (K1 : THP) (t5 t12 t14 t63 t64 t65 : AV) (H : Heap) : Prop :=
 pW (.bin .lss (.c t65) (.c t64)) fun t66 =>
 condW t66
 (atW (m13_2 E R K1) [t5, t12, t14, t63, t64, t65] H)
 (atW (m13_3 E R) [t5, t12, t14] H)
def l13_1 (E : Env) (R : AHP) : THP → THP := fun K1 V H => w13_1 E R K1 (V 0) (V 1) (V 2) (V 3) (V 4) (V 5) H

def w13_0 (E : Env) (R : AHP) (t0 t1 t2 t3 t4 t5 t12 : AV) (H : Heap) : Prop :=
 pW (.iad 3 (.c t0) (.c t2)) fun t55 =>
 rdW (.lda 3 (.c t55)) H fun t56 =>
 pW (.build [.int .i64 0, .int .i64 0, .nilsl, .nilsl, .nilsl, .int .i64 0, .int .i64 0, .int .i64 0] [(0, 3, .c t56), (4, 1, .c t3)]) fun t58 =>
 mkW (.box (.c t58)) H fun t59 H1 =>
 mkW (.bsl 1 [.nilp] 1 [(0, .c t59)]) H1 fun t60 H2 =>
 pW (.build [.nilsl, .nilsl, .nilsl, .int .i64 0, .bool false, .int .i64 0, .int .i64 0, .nilsl, .int .i64 0] [(0, 1, .c t0), (3, 1, .c t4), (2, 1, .c t60)]) fun t61 =>
 mkW (.box (.c t61)) H2 fun t62 H3 =>
 pW (.len (.c t1)) fun t64 =>
 loopW (l13_1 E R) [t5, t12, t62, t1, t64, .int .i64 0] H3
def m13_0 (E : Env) (R : AHP) : THP := fun V H => w13_0 E R (V 0) (V 1) (V 2) (V 3) (V 4) (V 5) (V 6) H

/-- fulling/vcode.Run -/
def w13 (E : Env) (R : AHP) (t0 t1 t2 t3 t4 t5 : AV) (H : Heap) : Prop :=
 mkW (.alloc [.int .i64 0, .int .i64 0, .nilsl, .int .i64 0]) H fun t12 H1 =>
 cW E 23 [t0, t1] H1 fun t20 H2 =>
 pW (.un .not (.c t20)) fun t21 =>
 grpW false t21 (fun k1 => pW (.bin .lss (.c t2) (.c (.int .i64 0))) fun t24 =>
 k1 t24 H2) H2 fun _ t25 =>
 grpW false t25 (fun k2 => pW (.len (.c t0)) fun t29 =>
 pW (.bin .geq (.c t2) (.c t29)) fun t30 =>
 k2 t30 H2) H2 fun _ t31 =>
 grpW false t31 (fun k3 => pW (.len (.c t3)) fun t34 =>
 pW (.iad 3 (.c t0) (.c t2)) fun t37 =>
 pW (.fad 0 (.c t37)) fun t38 =>
 rdW (.ld (.c t38)) H2 fun t39 =>
 pW (.bin .neq (.c t34) (.c t39)) fun t40 =>
 k3 t40 H2) H2 fun _ t41 =>
 grpW false t41 (fun k4 => pW (.bin .lss (.c t4) (.c (.int .i64 0))) fun t44 =>
 k4 t44 H2) H2 fun _ t45 =>
 grpW false t45 (fun k5 => pW (.bin .gtr (.c t4) (.c (.int .i64 1000))) fun t48 =>
 k5 t48 H2) H2 fun _ t49 =>
 condW t49
 (pW (.build [.int .i64 0, .int .i64 0, .nilsl, .int .i64 0] []) fun t50 =>
 mW (.st 4 (.c t12) (.c t50)) H2 fun _ H3 =>
 rdW (.lda 4 (.c t12)) H3 fun r1 =>
 RetC R (.tup [r1, .bool false]) H3)
 (atW (m13_0 E R) [t0, t1, t2, t3, t4, t5, t12] H2)

theorem ent13 {E : Env} (hE : E.Good) (hF : E.Fits tab) (t0 t1 t2 t3 t4 t5 : AV) (H : Heap) (R : AHP) (h : w13 E R t0 t1 t2 t3 t4 t5 H) : ACall E 13 [t0, t1, t2, t3, t4, t5] H R :=
 acallW (b := d13) hE hF rfl (Nat.le_of_ble_eq_true rfl) (Eq.mp (by kernel_rfl : w13 E R t0 t1 t2 t3 t4 t5 H = DW E d13 (QF [.lda 4 12, .tmp 13] R) (vl [t0, t1, t2, t3, t4, t5]) H) h)


def w14_4 (E : Env) (R : AHP) (K1 : THP) (K2 : THP) (t1 t3 t4 t6 t43 t44 t45 t50 t51 t52 : AV) (H : Heap) : Prop :=
 pW (.iad 6 (.c t50) (.c t52)) fun t54 =>
 rdW (.lda 6 (.c t54)) H fun t55 =>
 alW 6 t55 fun t8 =>
 rdW (.lda 3 (.c t1)) H fun t56 =>
 rdW (.lda 6 (.c t8)) H fun t57 =>
 cW E 45 [t56, t57] H fun t58 H1 =>
 pW (.un .not (.c t58)) fun t59 =>
 condW t59
 (RetC R (.bool false) H1)
 (pW (.bin .add (.c t52) (.c (.int .i64 1))) fun t60 =>
 atW K2 [t1, t3, t4, t6, t43, t44, t45, t50, t51, t60] H1)
def m14_4 (E : Env) (R : AHP) (K1 : THP) (K2 : THP) : THP := fun V H => w14_4 E R K1 K2 (V 0) (V 1) (V 2) (V 3) (V 4) (V 5) (V 6) (V 7) (V 8) (V 9) H

def w14_5 (E : Env) (R : AHP) (K1 : THP) (t1 t3 t4 t6 t43 t44 t45 : AV) (H : Heap) : Prop :=
 pW (.fad 1 (.c t6)) fun t61 =>
 rdW (.ld (.c t61)) H fun t62 =>
 pW (.bin .eql (.c t62) (.c (.int .i64 1))) fun t64 =>
 condW t64
 (pW (.fad 3 (.c t6)) fun t66 =>
 rdW (.ld (.c t66)) H fun t67 =>
 callW E t3 [t67] H fun t68 H1 =>
 grpW true t68 (fun k1 => pW (.fad 2 (.c t6)) fun t70 =>
 rdW (.ld (.c t70)) H1 fun t71 =>
 pW (.bin .eql (.c t71) (.c (.int .i64 0))) fun t72 =>
 k1 t72 H1) H1 fun _ t73 =>
 grpW true t73 (fun k2 => pW (.fad 4 (.c t6)) fun t75 =>
 rdW (.ld (.c t75)) H1 fun t76 =>
 pW (.bin .eql (.c t76) (.c (.int .i64 0))) fun t77 =>
 k2 t77 H1) H1 fun _ t78 =>
 pW (.un .not (.c t78)) fun t134 =>
 condW t134
 (RetC R (.bool false) H1)
 (pW (.bin .add (.c t45) (.c (.int .i64 1))) fun t135 =>
 atW K1 [t1, t3, t4, t43, t44, t135] H1))
 (pW (.bin .eql (.c t62) (.c (.int .i64 2))) fun t80 =>
 condW t80
 (pW (.fad 3 (.c t6)) fun t82 =>
 rdW (.ld (.c t82)) H fun t83 =>
 callW E t3 [t83] H fun t84 H2 =>
 grpW true t84 (fun k3 => pW (.fad 4 (.c t6)) fun t87 =>
 rdW (.ld (.c t87)) H2 fun t88 =>
 callW E t3 [t88] H2 fun t89 H3 =>
 k3 t89 H3) H2 fun _ t90 =>
 grpW true t90 (fun k4 => pW (.fad 2 (.c t6)) fun t93 =>
 rdW (.ld (.c t93)) H2 fun t94 =>
 callW E t4 [t94] H2 fun t95 H4 =>
 k4 t95 H4) H2 fun _ t96 =>
 pW (.un .not (.c t96)) fun t134'1 =>
 condW t134'1
 (RetC R (.bool false) H2)
 (pW (.bin .add (.c t45) (.c (.int .i64 1))) fun t135'1 =>
 atW K1 [t1, t3, t4, t43, t44, t135'1] H2))
 (pW (.bin .eql (.c t62) (.c (.int .i64 3))) fun t98 =>
 condW t98
 (pW (.fad 2 (.c t6)) fun t100 =>
 rdW (.ld (.c t100)) H fun t101 =>
 callW E t4 [t101] H fun t102 H5 =>
 grpW true t102 (fun k5 => pW (.fad 3 (.c t6)) fun t104 =>
 rdW (.ld (.c t104)) H5 fun t105 =>
 pW (.bin .eql (.c t105) (.c (.int .i64 0))) fun t106 =>
 k5 t106 H5) H5 fun _ t107 =>
 grpW true t107 (fun k6 => pW (.fad 4 (.c t6)) fun t109 =>
 rdW (.ld (.c t109)) H5 fun t110 =>
 pW (.bin .eql (.c t110) (.c (.int .i64 0))) fun t111 =>
 k6 t111 H5) H5 fun _ t112 =>
 pW (.un .not (.c t112)) fun t134'2 =>
 condW t134'2
 (RetC R (.bool false) H5)
 (pW (.bin .add (.c t45) (.c (.int .i64 1))) fun t135'2 =>
 atW K1 [t1, t3, t4, t43, t44, t135'2] H5))
 (pW (.bin .eql (.c t62) (.c (.int .i64 4))) fun t114 =>
 condW t114
 (pW (.fad 3 (.c t6)) fun t115 =>
 rdW (.ld (.c t115)) H fun t116 =>
 pW (.bin .geq (.c t116) (.c (.int .i64 1))) fun t117 =>
 grpW true t117 (fun k7 => pW (.fad 3 (.c t6)) fun t119 =>
 rdW (.ld (.c t119)) H fun t120 =>
 pW (.bin .lss (.c t120) (.c (.int .i64 33554432))) fun t121 =>
 k7 t121 H) H fun _ t122 =>
 grpW true t122 (fun k8 => pW (.fad 2 (.c t6)) fun t124 =>
 rdW (.ld (.c t124)) H fun t125 =>
 pW (.bin .eql (.c t125) (.c (.int .i64 0))) fun t126 =>
 k8 t126 H) H fun _ t127 =>
 grpW true t127 (fun k9 => pW (.fad 4 (.c t6)) fun t129 =>
 rdW (.ld (.c t129)) H fun t130 =>
 pW (.bin .eql (.c t130) (.c (.int .i64 0))) fun t131 =>
 k9 t131 H) H fun _ t132 =>
 pW (.un .not (.c t132)) fun t134'3 =>
 condW t134'3
 (RetC R (.bool false) H)
 (pW (.bin .add (.c t45) (.c (.int .i64 1))) fun t135'3 =>
 atW K1 [t1, t3, t4, t43, t44, t135'3] H))
 (pW (.un .not (.c (.bool false))) fun t134'4 =>
 condW t134'4
 (RetC R (.bool false) H)
 (pW (.bin .add (.c t45) (.c (.int .i64 1))) fun t135'4 =>
 atW K1 [t1, t3, t4, t43, t44, t135'4] H)))))
def m14_5 (E : Env) (R : AHP) (K1 : THP) : THP := fun V H => w14_5 E R K1 (V 0) (V 1) (V 2) (V 3) (V 4) (V 5) (V 6) H

def w14_3 (E : Env) (R : AHP) (K1 : THP) (K2 : THP) (t1 t3 t4 t6 t43 t44 t45 t50 t51 t52 : AV) (H : Heap) : Prop :=
 pW (.bin .lss (.c t52) (.c t51)) fun t53 =>
 condW t53
 (atW (m14_4 E R K1 K2) [t1, t3, t4, t6, t43, t44, t45, t50, t51, t52] H)
 (atW (m14_5 E R K1) [t1, t3, t4, t6, t43, t44, t45] H)
def l14_3 (E : Env) (R : AHP) (K1 : THP) : THP → THP := fun K2 V H => w14_3 E R K1 K2 (V 0) (V 1) (V 2) (V 3) (V 4) (V 5) (V 6) (V 7) (V 8) (V 9) H

def w14_2 (E : Env) (R : AHP) (K1 : THP) (t1 t3 t4 t43 t44 t45 : AV) (H : Heap) : Prop :=
 pW (.iad 5 (.c t43) (.c t45)) fun t47 =>
 rdW (.lda 5 (.c t47)) H fun t48 =>
 alW 5 t48 fun t6 =>
 pW (.fad 0 (.c t6)) fun t49 =>
 rdW (.ld (.c t49)) H fun t50 =>
 pW (.len (.c t50)) fun t51 =>
 loopW (l14_3 E R K1) [t1, t3, t4, t6, t43, t44, t45, t50, t51, .int .i64 0] H
def m14_2 (E : Env) (R : AHP) (K1 : THP) : THP := fun V H => w14_2 E R K1 (V 0) (V 1) (V 2) (V 3) (V 4) (V 5) H

def w14_1 (E : Env) (R : AHP) (K1 : THP) (t1 t3 t4 t43 t44 t45 : AV) (H : Heap) : Prop :=
 pW (.bin .lss (.c t45) (.c t44)) fun t46 =>
 condW t46
 (atW (m14_2 E R K1) [t1, t3, t4, t43, t44, t45] H)
 (RetC R (.bool true) H)
def l14_1 (E : Env) (R : AHP) : THP → THP := fun K1 V H => w14_1 E R K1 (V 0) (V 1) (V 2) (V 3) (V 4) (V 5) H

def w14_0 (E : Env) (R : AHP) (t1 : AV) (H : Heap) : Prop :=
 pW (.fad 2 (.c t1)) fun t42 =>
 rdW (.ld (.c t42)) H fun t43 =>
 pW (.len (.c t43)) fun t44 =>
 loopW (l14_1 E R) [t1, .fn 43 [t1], .fn 44 [t1], t43, t44, .int .i64 0] H
def m14_0 (E : Env) (R : AHP) : THP := fun V H => w14_0 E R (V 0) H

/-- fulling/vcode.Valid -/
def w14 (E : Env) (R : AHP) (t0 : AV) (H : Heap) : Prop :=
 bxW t0 fun t1 =>
 pW (.fad 0 (.c t1)) fun t10 =>
 rdW (.ld (.c t10)) H fun t11 =>
 pW (.bin .lss (.c t11) (.c (.int .i64 0))) fun t12 =>
 grpW false t12 (fun k1 => pW (.fad 0 (.c t1)) fun t14 =>
 rdW (.ld (.c t14)) H fun t15 =>
 pW (.bin .gtr (.c t15) (.c (.int .i64 6))) fun t16 =>
 k1 t16 H) H fun _ t17 =>
 grpW false t17 (fun k2 => pW (.fad 1 (.c t1)) fun t19 =>
 rdW (.ld (.c t19)) H fun t20 =>
 pW (.bin .lss (.c t20) (.c (.int .i64 0))) fun t21 =>
 k2 t21 H) H fun _ t22 =>
 grpW false t22 (fun k3 => pW (.fad 1 (.c t1)) fun t24 =>
 rdW (.ld (.c t24)) H fun t25 =>
 pW (.bin .gtr (.c t25) (.c (.int .i64 3000))) fun t26 =>
 k3 t26 H) H fun _ t27 =>
 grpW false t27 (fun k4 => pW (.fad 2 (.c t1)) fun t29 =>
 rdW (.ld (.c t29)) H fun t30 =>
 pW (.len (.c t30)) fun t31 =>
 pW (.bin .lss (.c t31) (.c (.int .i64 1))) fun t32 =>
 k4 t32 H) H fun _ t33 =>
 grpW false t33 (fun k5 => pW (.fad 2 (.c t1)) fun t35 =>
 rdW (.ld (.c t35)) H fun t36 =>
 pW (.len (.c t36)) fun t37 =>
 pW (.bin .gtr (.c t37) (.c (.int .i64 1000))) fun t38 =>
 k5 t38 H) H fun _ t39 =>
 condW t39
 (RetC R (.bool false) H)
 (atW (m14_0 E R) [t1] H)

theorem ent14 {E : Env} (hE : E.Good) (hF : E.Fits tab) (t0 : AV) (H : Heap) (R : AHP) (h : w14 E R t0 H) : ACall E 14 [t0] H R :=
 acallW (b := d14) hE hF rfl (Nat.le_of_ble_eq_true rfl) (Eq.mp (by kernel_rfl : w14 E R t0 H = DW E d14 (QF [.tmp 2] R) (vl [t0]) H) h)


def w15_2 (E : Env) (R : AHP) (K1 : THP) (t2 t3 t5 : AV) (H : Heap) : Prop :=
 pW (.fad 2 (.c t2)) fun t41 =>
 rdW (.ld (.c t41)) H fun t42 =>
 pW (.iad 1 (.c t42) (.c t5)) fun t44 =>
 rdW (.ld (.c t44)) H fun t45 =>
 pW (.fad 2 (.c t3)) fun t46 =>
 rdW (.ld (.c t46)) H fun t47 =>
 pW (.iad 1 (.c t47) (.c t5)) fun t49 =>
 rdW (.ld (.c t49)) H fun t50 =>
 pW (.bin .neq (.c t45) (.c t50)) fun t51 =>
 condW t51
 (RetC R (.bool false) H)
 (pW (.bin .add (.c t5) (.c (.int .i64 1))) fun t40 =>
 atW K1 [t2, t3, t40] H)
def m15_2 (E : Env) (R : AHP) (K1 : THP) : THP := fun V H => w15_2 E R K1 (V 0) (V 1) (V 2) H

def w15_1 (E : Env) (R : AHP) (K1 : THP) (t2 t3 t5 : AV) (H : Heap) : Prop :=
 pW (.fad 2 (.c t2)) fun t35 =>
 rdW (.ld (.c t35)) H fun t36 =>
 pW (.len (.c t36)) fun t37 =>
 pW (.bin .lss (.c t5) (.c t37)) fun t38 =>
 condW t38
 (atW (m15_2 E R K1) [t2, t3, t5] H)
 (RetC R (.bool true) H)
def l15_1 (E : Env) (R : AHP) : THP → THP := fun K1 V H => w15_1 E R K1 (V 0) (V 1) (V 2) H

def w15_0 (E : Env) (R : AHP) (t2 t3 : AV) (H : Heap) : Prop :=
 loopW (l15_1 E R) [t2, t3, .int .i64 0] H
def m15_0 (E : Env) (R : AHP) : THP := fun V H => w15_0 E R (V 0) (V 1) H

/-- fulling/fullingref29.SameOutcome -/
def w15 (E : Env) (R : AHP) (t0 t1 : AV) (H : Heap) : Prop :=
 bxW t0 fun t2 =>
 bxW t1 fun t3 =>
 pW (.fad 0 (.c t2)) fun t6 =>
 rdW (.ld (.c t6)) H fun t7 =>
 pW (.fad 0 (.c t3)) fun t8 =>
 rdW (.ld (.c t8)) H fun t9 =>
 pW (.bin .neq (.c t7) (.c t9)) fun t10 =>
 grpW false t10 (fun k1 => pW (.fad 1 (.c t2)) fun t12 =>
 rdW (.ld (.c t12)) H fun t13 =>
 pW (.fad 1 (.c t3)) fun t14 =>
 rdW (.ld (.c t14)) H fun t15 =>
 pW (.bin .neq (.c t13) (.c t15)) fun t16 =>
 k1 t16 H) H fun _ t17 =>
 grpW false t17 (fun k2 => pW (.fad 3 (.c t2)) fun t19 =>
 rdW (.ld (.c t19)) H fun t20 =>
 pW (.fad 3 (.c t3)) fun t21 =>
 rdW (.ld (.c t21)) H fun t22 =>
 pW (.bin .neq (.c t20) (.c t22)) fun t23 =>
 k2 t23 H) H fun _ t24 =>
 grpW false t24 (fun k3 => pW (.fad 2 (.c t2)) fun t26 =>
 rdW (.ld (.c t26)) H fun t27 =>
 pW (.len (.c t27)) fun t28 =>
 pW (.fad 2 (.c t3)) fun t29 =>
 rdW (.ld (.c t29)) H fun t30 =>
 pW (.len (.c t30)) fun t31 =>
 pW (.bin .neq (.c t28) (.c t31)) fun t32 =>
 k3 t32 H) H fun _ t33 =>
 condW t33
 (RetC R (.bool false) H)
 (atW (m15_0 E R) [t2, t3] H)

theorem ent15 {E : Env} (hE : E.Good) (hF : E.Fits tab) (t0 t1 : AV) (H : Heap) (R : AHP) (h : w15 E R t0 t1 H) : ACall E 15 [t0, t1] H R :=
 acallW (b := d15) hE hF rfl (Nat.le_of_ble_eq_true rfl) (Eq.mp (by kernel_rfl : w15 E R t0 t1 H = DW E d15 (QF [.tmp 4] R) (vl [t0, t1]) H) h)


def w16_2 (E : Env) (R : AHP) (K1 : THP) (t0 t1 t5 : AV) (H : Heap) : Prop :=
 pW (.iad 1 (.c t0) (.c t5)) fun t19 =>
 rdW (.ld (.c t19)) H fun t20 =>
 pW (.iad 1 (.c t1) (.c t5)) fun t23 =>
 rdW (.ld (.c t23)) H fun t24 =>
 pW (.bin .neq (.c t20) (.c t24)) fun t25 =>
 condW t25
 (RetC R (.bool false) H)
 (pW (.bin .add (.c t5) (.c (.int .i64 1))) fun t16 =>
 atW K1 [t0, t1, t16] H)
def m16_2 (E : Env) (R : AHP) (K1 : THP) : THP := fun V H => w16_2 E R K1 (V 0) (V 1) (V 2) H

def w16_1 (E : Env) (R : AHP) (K1 : THP) (t0 t1 t5 : AV) (H : Heap) : Prop :=
 pW (.len (.c t0)) fun t13 =>
 pW (.bin .lss (.c t5) (.c t13)) fun t14 =>
 condW t14
 (atW (m16_2 E R K1) [t0, t1, t5] H)
 (RetC R (.bool true) H)
def l16_1 (E : Env) (R : AHP) : THP → THP := fun K1 V H => w16_1 E R K1 (V 0) (V 1) (V 2) H

def w16_0 (E : Env) (R : AHP) (t0 t1 : AV) (H : Heap) : Prop :=
 loopW (l16_1 E R) [t0, t1, .int .i64 0] H
def m16_0 (E : Env) (R : AHP) : THP := fun V H => w16_0 E R (V 0) (V 1) H

/-- fulling/fullingref22.SameInts -/
def w16 (E : Env) (R : AHP) (t0 t1 : AV) (H : Heap) : Prop :=
 pW (.len (.c t0)) fun t7 =>
 pW (.len (.c t1)) fun t9 =>
 pW (.bin .neq (.c t7) (.c t9)) fun t10 =>
 condW t10
 (RetC R (.bool false) H)
 (atW (m16_0 E R) [t0, t1] H)

theorem ent16 {E : Env} (hE : E.Good) (hF : E.Fits tab) (t0 t1 : AV) (H : Heap) (R : AHP) (h : w16 E R t0 t1 H) : ACall E 16 [t0, t1] H R :=
 acallW (b := d16) hE hF rfl (Nat.le_of_ble_eq_true rfl) (Eq.mp (by kernel_rfl : w16 E R t0 t1 H = DW E d16 (QF [.tmp 4] R) (vl [t0, t1]) H) h)


/-- fulling/vcode.Successors -/
def w17 (E : Env) (R : AHP) (t0 : AV) (H : Heap) : Prop :=
 bxW t0 fun t1 =>
 pW (.fad 1 (.c t1)) fun t3 =>
 rdW (.ld (.c t3)) H fun t4 =>
 pW (.bin .eql (.c t4) (.c (.int .i64 1))) fun t6 =>
 condW t6
 (pW (.fad 3 (.c t1)) fun t7 =>
 rdW (.ld (.c t7)) H fun t8 =>
 bsW 1 [.int .i64 0] 1 [(0, t8)] fun t9 =>
 RetC R t9 H)
 (pW (.bin .eql (.c t4) (.c (.int .i64 2))) fun t11 =>
 condW t11
 (pW (.fad 3 (.c t1)) fun t12 =>
 rdW (.ld (.c t12)) H fun t13 =>
 pW (.fad 4 (.c t1)) fun t14 =>
 rdW (.ld (.c t14)) H fun t15 =>
 bsW 1 [.int .i64 0] 2 [(0, t13), (1, t15)] fun t16 =>
 cW E 46 [t16] H fun t17 H1 =>
 RetC R t17 H1)
 (RetC R .nilsl H))

theorem ent17 {E : Env} (hE : E.Good) (hF : E.Fits tab) (t0 : AV) (H : Heap) (R : AHP) (h : w17 E R t0 H) : ACall E 17 [t0] H R :=
 acallW (b := d17) hE hF rfl (Nat.le_of_ble_eq_true rfl) (Eq.mp (by kernel_rfl : w17 E R t0 H = DW E d17 (QF [.tmp 2] R) (vl [t0]) H) h)


def w18_1 (E : Env) (R : AHP) (K1 : THP) (t0 t1 t4 t5 t6 t7 : AV) (H : Heap) : Prop :=
 pW (.fad 1 (.c t5)) fun t28 =>
 rdW (.ld (.c t28)) H fun t29 =>
 pW (.bin .add (.c t29) (.c (.int .i64 1))) fun t30 =>
 pW (.fad 1 (.c t5)) fun t31 =>
 mW (.st 1 (.c t31) (.c t30)) H fun _ H1 =>
 pW (.bin .add (.c t7) (.c (.int .i64 1))) fun t27 =>
 atW K1 [t0, t1, t4, t5, t6, t27] H1
def m18_1 (E : Env) (R : AHP) (K1 : THP) : THP := fun V H => w18_1 E R K1 (V 0) (V 1) (V 2) (V 3) (V 4) (V 5) H

def w18_5 (E : Env) (R : AHP) (K1 : THP) (t0 t1 t4 t5 t6 t8 t9 t10 : AV) (H : Heap) : Prop :=
 pW (.fad 0 (.c t8)) fun t47 =>
 rdW (.ld (.c t47)) H fun t48 =>
 rdW (.lda 5 (.c t10)) H fun t49 =>
 pW (.build [.int .i64 0, .int .i64 0, .int .i64 0, .int .i64 0, .int .i64 0, .nilsl] [(0, 5, .c t49)]) fun t50 =>
 bsW 6 [.int .i64 0, .int .i64 0, .int .i64 0, .int .i64 0, .int .i64 0, .nilsl] 1 [(0, t50)] fun t51 =>
 mkW (.app 6 (.c t48) (.c t51)) H fun t52 H1 =>
 pW (.fad 0 (.c t8)) fun t53 =>
 mW (.st 1 (.c t53) (.c t52)) H1 fun _ H2 =>
 pW (.bin .add (.c t9) (.c (.int .i64 1))) fun t37 =>
 atW K1 [t0, t1, t4, t5, t6, t8, t37] H2
def m18_5 (E : Env) (R : AHP) (K1 : THP) : THP := fun V H => w18_5 E R K1 (V 0) (V 1) (V 2) (V 3) (V 4) (V 5) (V 6) (V 7) H

def w18_4 (E : Env) (R : AHP) (K1 : THP) (t0 t1 t4 t5 t6 t8 t9 : AV) (H : Heap) : Prop :=
 pW (.build [.int .i64 0, .int .i64 0, .int .i64 0, .int .i64 0, .int .i64 0] [(0, 1, .c (.int .i64 13)), (1, 1, .c t9), (4, 1, .c t9)]) fun t40 =>
 mkW (.alloc [.int .i64 0, .int .i64 0, .int .i64 0, .int .i64 0, .int .i64 0]) H fun t10 H1 =>
 mW (.st 5 (.c t10) (.c t40)) H1 fun _ H2 =>
 pW (.bin .lss (.c t9) (.c t1)) fun t43 =>
 condW t43
 (pW (.build [.int .i64 0, .int .i64 0, .int .i64 0, .int .i64 0, .int .i64 0] [(0, 1, .c (.int .i64 38)), (1, 1, .c t9), (4, 1, .c t9)]) fun t46 =>
 mW (.st 5 (.c t10) (.c t46)) H2 fun _ H3 =>
 atW (m18_5 E R K1) [t0, t1, t4, t5, t6, t8, t9, t10] H3)
 (atW (m18_5 E R K1) [t0, t1, t4, t5, t6, t8, t9, t10] H2)
def m18_4 (E : Env) (R : AHP) (K1 : THP) : THP := fun V H => w18_4 E R K1 (V 0) (V 1) (V 2) (V 3) (V 4) (V 5) (V 6) H

def w18_10 (E : Env) (R : AHP) (K1 : THP) (K2 : THP) (t0 t4 t5 t6 t11 t12 t13 : AV) (H : Heap) : Prop :=
 pW (.fad 0 (.c t12)) fun t80 =>
 rdW (.ld (.c t80)) H fun t81 =>
 pW (.bin .mul (.c (.int .i64 6)) (.c t11)) fun t84 =>
 pW (.bin .add (.c t84) (.c t13)) fun t86 =>
 pW (.iad 1 (.c t0) (.c t86)) fun t87 =>
 rdW (.ld (.c t87)) H fun t88 =>
 rdW (.lda 3 (.c t5)) H fun t89 =>
 pcallW E (.fn 28 []) [t88, t89] H fun t90 H1 =>
 mkW (.bsl 6 [.int .i64 0, .int .i64 0, .int .i64 0, .int .i64 0, .int .i64 0, .nilsl] 1 [(0, .c t90)]) H1 fun t91 H2 =>
 mkW (.app 6 (.c t81) (.c t91)) H2 fun t92 H3 =>
 pW (.fad 0 (.c t12)) fun t93 =>
 mW (.st 1 (.c t93) (.c t92)) H3 fun _ H4 =>
 pW (.bin .add (.c t13) (.c (.int .i64 1))) fun t79 =>
 atW K2 [t0, t4, t5, t6, t11, t12, t79] H4
def m18_10 (E : Env) (R : AHP) (K1 : THP) (K2 : THP) : THP := fun V H => w18_10 E R K1 K2 (V 0) (V 1) (V 2) (V 3) (V 4) (V 5) (V 6) H

def w18_14 (E : Env) (R : AHP) (K1 : THP) (t0 t4 t5 t6 t11 t12 : AV) (H : Heap) : Prop :=
 pW (.fad 2 (.c t5)) fun t162 =>
 rdW (.ld (.c t162)) H fun t163 =>
 rdW (.lda 5 (.c t12)) H fun t164 =>
 bsW 5 [.nilsl, .int .i64 0, .int .i64 0, .int .i64 0, .int .i64 0] 1 [(0, t164)] fun t165 =>
 mkW (.app 5 (.c t163) (.c t165)) H fun t166 H1 =>
 pW (.fad 2 (.c t5)) fun t167 =>
 mW (.st 1 (.c t167) (.c t166)) H1 fun _ H2 =>
 pW (.bin .add (.c t11) (.c (.int .i64 1))) fun t66 =>
 atW K1 [t0, t4, t5, t6, t66] H2
def m18_14 (E : Env) (R : AHP) (K1 : THP) : THP := fun V H => w18_14 E R K1 (V 0) (V 1) (V 2) (V 3) (V 4) (V 5) H

def w18_13 (E : Env) (R : AHP) (K1 : THP) (t0 t4 t5 t6 t11 t12 : AV) (H : Heap) : Prop :=
 pW (.bin .sub (.c t6) (.c (.int .i64 1))) fun t152 =>
 pW (.bin .eql (.c t11) (.c t152)) fun t153 =>
 grpW true t153 (fun k1 => pW (.fad 1 (.c t12)) fun t155 =>
 rdW (.ld (.c t155)) H fun t156 =>
 pW (.bin .eql (.c t156) (.c (.int .i64 1))) fun t157 =>
 k1 t157 H) H fun _ t158 =>
 condW t158
 (pW (.fad 1 (.c t12)) fun t159 =>
 mW (.st 1 (.c t159) (.c (.int .i64 3))) H fun _ H1 =>
 pW (.fad 3 (.c t12)) fun t160 =>
 mW (.st 1 (.c t160) (.c (.int .i64 0))) H1 fun _ H2 =>
 pW (.fad 2 (.c t12)) fun t161 =>
 mW (.st 1 (.c t161) (.c (.int .i64 0))) H2 fun _ H3 =>
 atW (m18_14 E R K1) [t0, t4, t5, t6, t11, t12] H3)
 (atW (m18_14 E R K1) [t0, t4, t5, t6, t11, t12] H)
def m18_13 (E : Env) (R : AHP) (K1 : THP) : THP := fun V H => w18_13 E R K1 (V 0) (V 1) (V 2) (V 3) (V 4) (V 5) H

def w18_12 (E : Env) (R : AHP) (K1 : THP) (t0 t4 t5 t6 t11 t12 t14 : AV) (H : Heap) : Prop :=
 pW (.build [.int .i64 0] [(0, 1, .c t14)]) fun t107 =>
 mkW (.box (.c t107)) H fun t108 H1 =>
 cW E 47 [t108, .int .i64 6] H1 fun t110 H2 =>
 pW (.bin .eql (.c t110) (.c (.int .i64 0))) fun t128 =>
 condW t128
 (cW E 47 [t108, t6] H2 fun t131 H3 =>
 pW (.bin .add (.c (.int .i64 1)) (.c t131)) fun t132 =>
 pW (.fad 1 (.c t12)) fun t133 =>
 mW (.st 1 (.c t133) (.c (.int .i64 1))) H3 fun _ H4 =>
 pW (.fad 3 (.c t12)) fun t134 =>
 mW (.st 1 (.c t134) (.c t132)) H4 fun _ H5 =>
 atW (m18_13 E R K1) [t0, t4, t5, t6, t11, t12] H5)
 (pW (.bin .eql (.c t110) (.c (.int .i64 1))) fun t136 =>
 condW t136
 (cW E 47 [t108, .int .i64 9] H2 fun t138 H6 =>
 pW (.bin .add (.c (.int .i64 1)) (.c t138)) fun t139 =>
 pW (.fad 1 (.c t12)) fun t140 =>
 mW (.st 1 (.c t140) (.c (.int .i64 4))) H6 fun _ H7 =>
 pW (.fad 3 (.c t12)) fun t141 =>
 mW (.st 1 (.c t141) (.c t139)) H7 fun _ H8 =>
 atW (m18_13 E R K1) [t0, t4, t5, t6, t11, t12] H8)
 (pW (.bin .eql (.c t110) (.c (.int .i64 2))) fun t143 =>
 condW t143
 (pW (.fad 1 (.c t5)) fun t145 =>
 rdW (.ld (.c t145)) H2 fun t146 =>
 cW E 47 [t108, t146] H2 fun t147 H9 =>
 pW (.fad 1 (.c t12)) fun t148 =>
 mW (.st 1 (.c t148) (.c (.int .i64 3))) H9 fun _ H10 =>
 pW (.fad 2 (.c t12)) fun t149 =>
 mW (.st 1 (.c t149) (.c t147)) H10 fun _ H11 =>
 atW (m18_13 E R K1) [t0, t4, t5, t6, t11, t12] H11)
 (pW (.fad 1 (.c t5)) fun t112 =>
 rdW (.ld (.c t112)) H2 fun t113 =>
 cW E 47 [t108, t113] H2 fun t114 H12 =>
 cW E 47 [t108, t6] H12 fun t117 H13 =>
 pW (.bin .add (.c (.int .i64 1)) (.c t117)) fun t118 =>
 cW E 47 [t108, t6] H13 fun t121 H14 =>
 pW (.bin .add (.c (.int .i64 1)) (.c t121)) fun t122 =>
 pW (.fad 1 (.c t12)) fun t123 =>
 mW (.st 1 (.c t123) (.c (.int .i64 2))) H14 fun _ H15 =>
 pW (.fad 2 (.c t12)) fun t124 =>
 mW (.st 1 (.c t124) (.c t114)) H15 fun _ H16 =>
 pW (.fad 3 (.c t12)) fun t125 =>
 mW (.st 1 (.c t125) (.c t118)) H16 fun _ H17 =>
 pW (.fad 4 (.c t12)) fun t126 =>
 mW (.st 1 (.c t126) (.c t122)) H17 fun _ H18 =>
 atW (m18_13 E R K1) [t0, t4, t5, t6, t11, t12] H18)))
def m18_12 (E : Env) (R : AHP) (K1 : THP) : THP := fun V H => w18_12 E R K1 (V 0) (V 1) (V 2) (V 3) (V 4) (V 5) (V 6) H

def w18_11 (E : Env) (R : AHP) (K1 : THP) (t0 t4 t5 t6 t11 t12 : AV) (H : Heap) : Prop :=
 pW (.bin .mul (.c (.int .i64 6)) (.c t11)) fun t95 =>
 pW (.bin .add (.c t95) (.c (.int .i64 5))) fun t96 =>
 pW (.len (.c t0)) fun t98 =>
 pW (.bin .lss (.c t96) (.c t98)) fun t99 =>
 condW t99
 (pW (.bin .mul (.c (.int .i64 6)) (.c t11)) fun t102 =>
 pW (.bin .add (.c t102) (.c (.int .i64 5))) fun t103 =>
 pW (.iad 1 (.c t0) (.c t103)) fun t104 =>
 rdW (.ld (.c t104)) H fun t105 =>
 atW (m18_12 E R K1) [t0, t4, t5, t6, t11, t12, t105] H)
 (atW (m18_12 E R K1) [t0, t4, t5, t6, t11, t12, .int .i64 0] H)
def m18_11 (E : Env) (R : AHP) (K1 : THP) : THP := fun V H => w18_11 E R K1 (V 0) (V 1) (V 2) (V 3) (V 4) (V 5) H

def w18_9 (E : Env) (R : AHP) (K1 : THP) (K2 : THP) (t0 t4 t5 t6 t11 t12 t13 : AV) (H : Heap) : Prop :=
 pW (.bin .lss (.c t13) (.c (.int .i64 5))) fun t68 =>
 grpW true t68 (fun k1 => pW (.bin .mul (.c (.int .i64 6)) (.c t11)) fun t71 =>
 pW (.bin .add (.c t71) (.c t13)) fun t73 =>
 pW (.len (.c t0)) fun t75 =>
 pW (.bin .lss (.c t73) (.c t75)) fun t76 =>
 k1 t76 H) H fun _ t77 =>
 condW t77
 (atW (m18_10 E R K1 K2) [t0, t4, t5, t6, t11, t12, t13] H)
 (atW (m18_11 E R K1) [t0, t4, t5, t6, t11, t12] H)
def l18_9 (E : Env) (R : AHP) (K1 : THP) : THP → THP := fun K2 V H => w18_9 E R K1 K2 (V 0) (V 1) (V 2) (V 3) (V 4) (V 5) (V 6) H

def w18_8 (E : Env) (R : AHP) (K1 : THP) (t0 t4 t5 t6 t11 : AV) (H : Heap) : Prop :=
 mkW (.alloc [.nilsl, .int .i64 0, .int .i64 0, .int .i64 0, .int .i64 0]) H fun t12 H1 =>
 loopW (l18_9 E R K1) [t0, t4, t5, t6, t11, t12, .int .i64 0] H1
def m18_8 (E : Env) (R : AHP) (K1 : THP) : THP := fun V H => w18_8 E R K1 (V 0) (V 1) (V 2) (V 3) (V 4) H

def w18_7 (E : Env) (R : AHP) (K1 : THP) (t0 t4 t5 t6 t11 : AV) (H : Heap) : Prop :=
 pW (.bin .lss (.c t11) (.c t6)) fun t64 =>
 condW t64
 (atW (m18_8 E R K1) [t0, t4, t5, t6, t11] H)
 (rdW (.lda 3 (.c t5)) H fun t168 =>
 mW (.st 3 (.c t4) (.c t168)) H fun _ H1 =>
 rdW (.lda 3 (.c t4)) H1 fun r1 =>
 RetC R r1 H1)
def l18_7 (E : Env) (R : AHP) : THP → THP := fun K1 V H => w18_7 E R K1 (V 0) (V 1) (V 2) (V 3) (V 4) H

def w18_6 (E : Env) (R : AHP) (t0 t4 t5 t6 t8 : AV) (H : Heap) : Prop :=
 pW (.fad 1 (.c t8)) fun t54 =>
 mW (.st 1 (.c t54) (.c (.int .i64 1))) H fun _ H1 =>
 pW (.fad 3 (.c t8)) fun t55 =>
 mW (.st 1 (.c t55) (.c (.int .i64 1))) H1 fun _ H2 =>
 pW (.fad 2 (.c t5)) fun t56 =>
 rdW (.ld (.c t56)) H2 fun t57 =>
 rdW (.lda 5 (.c t8)) H2 fun t58 =>
 bsW 5 [.nilsl, .int .i64 0, .int .i64 0, .int .i64 0, .int .i64 0] 1 [(0, t58)] fun t59 =>
 mkW (.app 5 (.c t57) (.c t59)) H2 fun t60 H3 =>
 pW (.fad 2 (.c t5)) fun t61 =>
 mW (.st 1 (.c t61) (.c t60)) H3 fun _ H4 =>
 loopW (l18_7 E R) [t0, t4, t5, t6, .int .i64 0] H4
def m18_6 (E : Env) (R : AHP) : THP := fun V H => w18_6 E R (V 0) (V 1) (V 2) (V 3) (V 4) H

def w18_3 (E : Env) (R : AHP) (K1 : THP) (t0 t1 t4 t5 t6 t8 t9 : AV) (H : Heap) : Prop :=
 pW (.fad 1 (.c t5)) fun t33 =>
 rdW (.ld (.c t33)) H fun t34 =>
 pW (.bin .lss (.c t9) (.c t34)) fun t35 =>
 condW t35
 (atW (m18_4 E R K1) [t0, t1, t4, t5, t6, t8, t9] H)
 (atW (m18_6 E R) [t0, t4, t5, t6, t8] H)
def l18_3 (E : Env) (R : AHP) : THP → THP := fun K1 V H => w18_3 E R K1 (V 0) (V 1) (V 2) (V 3) (V 4) (V 5) (V 6) H

def w18_2 (E : Env) (R : AHP) (t0 t1 t4 t5 t6 : AV) (H : Heap) : Prop :=
 mkW (.alloc [.nilsl, .int .i64 0, .int .i64 0, .int .i64 0, .int .i64 0]) H fun t8 H1 =>
 loopW (l18_3 E R) [t0, t1, t4, t5, t6, t8, .int .i64 0] H1
def m18_2 (E : Env) (R : AHP) : THP := fun V H => w18_2 E R (V 0) (V 1) (V 2) (V 3) (V 4) H

def w18_0 (E : Env) (R : AHP) (K1 : THP) (t0 t1 t4 t5 t6 t7 : AV) (H : Heap) : Prop :=
 pW (.bin .lss (.c t7) (.c t1)) fun t25 =>
 condW t25
 (atW (m18_1 E R K1) [t0, t1, t4, t5, t6, t7] H)
 (atW (m18_2 E R) [t0, t1, t4, t5, t6] H)
def l18_0 (E : Env) (R : AHP) : THP → THP := fun K1 V H => w18_0 E R K1 (V 0) (V 1) (V 2) (V 3) (V 4) (V 5) H

/-- fulling/fullingkeep2.VFunc -/
def w18 (E : Env) (R : AHP) (t0 t1 : AV) (H : Heap) : Prop :=
 mkW (.alloc [.int .i64 0, .int .i64 0, .nilsl]) H fun t4 H1 =>
 pW (.build [.int .i64 0, .int .i64 0, .nilsl] [(0, 1, .c t1), (1, 1, .c (.int .i64 9))]) fun t17 =>
 mkW (.alloc [.int .i64 0, .int .i64 0, .nilsl]) H1 fun t5 H2 =>
 mW (.st 3 (.c t5) (.c t17)) H2 fun _ H3 =>
 pW (.len (.c t0)) fun t19 =>
 pW (.bin .quo (.c t19) (.c (.int .i64 6))) fun t20 =>
 pW (.mn (.c t20) (.c (.int .i64 5))) fun t21 =>
 pW (.bin .add (.c (.int .i64 1)) (.c t21)) fun t22 =>
 loopW (l18_0 E R) [t0, t1, t4, t5, t22, .int .i64 0] H3

theorem ent18 {E : Env} (hE : E.Good) (hF : E.Fits tab) (t0 t1 : AV) (H : Heap) (R : AHP) (h : w18 E R t0 t1 H) : ACall E 18 [t0, t1] H R :=
 acallW (b := d18) hE hF rfl (Nat.le_of_ble_eq_true rfl) (Eq.mp (by kernel_rfl : w18 E R t0 t1 H = DW E d18 (QF [.lda 3 4] R) (vl [t0, t1]) H) h)


end Go.Abs
/- What each function asks, printed by the same program; the kernel finds it equal to the code's own. -/
set_option linter.unusedVariables false
namespace Go.Abs

/-- fulling/fullingkeep.Pick -/
def w19 (E : Env) (R : AHP) (t0 t1 : AV) (H : Heap) : Prop :=
 pW (.bin .rem (.c t0) (.c t1)) fun t7 =>
 pW (.bin .lss (.c t7) (.c (.int .i64 0))) fun t9 =>
 condW t9
 (pW (.bin .add (.c t7) (.c t1)) fun t12 =>
 RetC R t12 H)
 (RetC R t7 H)

theorem ent19 {E : Env} (hE : E.Good) (hF : E.Fits tab) (t0 t1 : AV) (H : Heap) (R : AHP) (h : w19 E R t0 t1 H) : ACall E 19 [t0, t1] H R :=
 acallW (b := d19) hE hF rfl (Nat.le_of_ble_eq_true rfl) (Eq.mp (by kernel_rfl : w19 E R t0 t1 H = DW E d19 (QF [.tmp 4] R) (vl [t0, t1]) H) h)


def w20_1 (E : Env) (R : AHP) (K1 : THP) (t2 t3 t6 t7 t8 t9 : AV) (H : Heap) : Prop :=
 pW (.fad 2 (.c t3)) fun t30 =>
 rdW (.ld (.c t30)) H fun t31 =>
 pW (.iad 5 (.c t31) (.c t9)) fun t33 =>
 rdW (.lda 5 (.c t33)) H fun t34 =>
 mkW (.alloc [.nilsl, .int .i64 0, .int .i64 0, .int .i64 0, .int .i64 0]) H fun t10 H1 =>
 mW (.st 5 (.c t10) (.c t34)) H1 fun _ H2 =>
 pW (.fad 0 (.c t10)) fun t35 =>
 rdW (.ld (.c t35)) H2 fun t36 =>
 mkW (.app 6 (.c .nilsl) (.c t36)) H2 fun t37 H3 =>
 pW (.fad 0 (.c t10)) fun t38 =>
 mW (.st 1 (.c t38) (.c t37)) H3 fun _ H4 =>
 pW (.fad 2 (.c t8)) fun t39 =>
 rdW (.ld (.c t39)) H4 fun t40 =>
 rdW (.lda 5 (.c t10)) H4 fun t41 =>
 bsW 5 [.nilsl, .int .i64 0, .int .i64 0, .int .i64 0, .int .i64 0] 1 [(0, t41)] fun t42 =>
 mkW (.app 5 (.c t40) (.c t42)) H4 fun t43 H5 =>
 pW (.fad 2 (.c t8)) fun t44 =>
 mW (.st 1 (.c t44) (.c t43)) H5 fun _ H6 =>
 pW (.bin .add (.c t9) (.c (.int .i64 1))) fun t29 =>
 atW K1 [t2, t3, t6, t7, t8, t29] H6
def m20_1 (E : Env) (R : AHP) (K1 : THP) : THP := fun V H => w20_1 E R K1 (V 0) (V 1) (V 2) (V 3) (V 4) (V 5) H

def w20_3 (E : Env) (R : AHP) (t6 t7 t8 t11 t12 : AV) (H : Heap) : Prop :=
 cW E 47 [t7, .int .i64 40] H fun t75 H1 =>
 pW (.bin .sub (.c t75) (.c (.int .i64 2))) fun t76 =>
 cW E 47 [t7, .int .i64 14] H1 fun t78 H2 =>
 pW (.bin .eql (.c t78) (.c (.int .i64 0))) fun t81 =>
 condW t81
 (pW (.fad 0 (.c t8)) fun t83 =>
 mW (.st 1 (.c t83) (.c t76)) H2 fun _ H3 =>
 rdW (.lda 3 (.c t8)) H3 fun t185 =>
 mW (.st 3 (.c t6) (.c t185)) H3 fun _ H4 =>
 rdW (.lda 3 (.c t6)) H4 fun r1 =>
 RetC R r1 H4)
 (pW (.bin .eql (.c t78) (.c (.int .i64 1))) fun t86 =>
 condW t86
 (pW (.fad 1 (.c t8)) fun t88 =>
 mW (.st 1 (.c t88) (.c t76)) H2 fun _ H5 =>
 rdW (.lda 3 (.c t8)) H5 fun t185'1 =>
 mW (.st 3 (.c t6) (.c t185'1)) H5 fun _ H6 =>
 rdW (.lda 3 (.c t6)) H6 fun r2 =>
 RetC R r2 H6)
 (pW (.bin .eql (.c t78) (.c (.int .i64 2))) fun t91 =>
 condW t91
 (pW (.nilck (.c t11)) fun t94 =>
 pW (.fad 1 (.c t94)) fun t95 =>
 mW (.st 1 (.c t95) (.c t76)) H2 fun _ H7 =>
 rdW (.lda 3 (.c t8)) H7 fun t185'2 =>
 mW (.st 3 (.c t6) (.c t185'2)) H7 fun _ H8 =>
 rdW (.lda 3 (.c t6)) H8 fun r3 =>
 RetC R r3 H8)
 (pW (.bin .eql (.c t78) (.c (.int .i64 3))) fun t98 =>
 condW t98
 (pW (.nilck (.c t11)) fun t101 =>
 pW (.fad 2 (.c t101)) fun t102 =>
 mW (.st 1 (.c t102) (.c t76)) H2 fun _ H9 =>
 rdW (.lda 3 (.c t8)) H9 fun t185'3 =>
 mW (.st 3 (.c t6) (.c t185'3)) H9 fun _ H10 =>
 rdW (.lda 3 (.c t6)) H10 fun r4 =>
 RetC R r4 H10)
 (pW (.bin .eql (.c t78) (.c (.int .i64 4))) fun t105 =>
 condW t105
 (pW (.nilck (.c t11)) fun t108 =>
 pW (.fad 3 (.c t108)) fun t109 =>
 mW (.st 1 (.c t109) (.c t76)) H2 fun _ H11 =>
 rdW (.lda 3 (.c t8)) H11 fun t185'4 =>
 mW (.st 3 (.c t6) (.c t185'4)) H11 fun _ H12 =>
 rdW (.lda 3 (.c t6)) H12 fun r5 =>
 RetC R r5 H12)
 (pW (.bin .eql (.c t78) (.c (.int .i64 5))) fun t112 =>
 condW t112
 (pW (.nilck (.c t11)) fun t115 =>
 pW (.fad 4 (.c t115)) fun t116 =>
 mW (.st 1 (.c t116) (.c t76)) H2 fun _ H13 =>
 rdW (.lda 3 (.c t8)) H13 fun t185'5 =>
 mW (.st 3 (.c t6) (.c t185'5)) H13 fun _ H14 =>
 rdW (.lda 3 (.c t6)) H14 fun r6 =>
 RetC R r6 H14)
 (pW (.bin .eql (.c t78) (.c (.int .i64 6))) fun t119 =>
 condW t119
 (pW (.nilck (.c t12)) fun t122 =>
 pW (.fad 0 (.c t122)) fun t123 =>
 pW (.fad 0 (.c t123)) fun t124 =>
 mW (.st 1 (.c t124) (.c t76)) H2 fun _ H15 =>
 rdW (.lda 3 (.c t8)) H15 fun t185'6 =>
 mW (.st 3 (.c t6) (.c t185'6)) H15 fun _ H16 =>
 rdW (.lda 3 (.c t6)) H16 fun r7 =>
 RetC R r7 H16)
 (pW (.bin .eql (.c t78) (.c (.int .i64 7))) fun t127 =>
 condW t127
 (pW (.nilck (.c t12)) fun t130 =>
 pW (.fad 0 (.c t130)) fun t131 =>
 pW (.fad 1 (.c t131)) fun t132 =>
 mW (.st 1 (.c t132) (.c t76)) H2 fun _ H17 =>
 rdW (.lda 3 (.c t8)) H17 fun t185'7 =>
 mW (.st 3 (.c t6) (.c t185'7)) H17 fun _ H18 =>
 rdW (.lda 3 (.c t6)) H18 fun r8 =>
 RetC R r8 H18)
 (pW (.bin .eql (.c t78) (.c (.int .i64 8))) fun t135 =>
 condW t135
 (pW (.nilck (.c t12)) fun t138 =>
 pW (.fad 0 (.c t138)) fun t139 =>
 pW (.fad 2 (.c t139)) fun t140 =>
 mW (.st 1 (.c t140) (.c t76)) H2 fun _ H19 =>
 rdW (.lda 3 (.c t8)) H19 fun t185'8 =>
 mW (.st 3 (.c t6) (.c t185'8)) H19 fun _ H20 =>
 rdW (.lda 3 (.c t6)) H20 fun r9 =>
 RetC R r9 H20)
 (pW (.bin .eql (.c t78) (.c (.int .i64 9))) fun t143 =>
 condW t143
 (pW (.nilck (.c t12)) fun t146 =>
 pW (.fad 0 (.c t146)) fun t147 =>
 pW (.fad 3 (.c t147)) fun t148 =>
 mW (.st 1 (.c t148) (.c t76)) H2 fun _ H21 =>
 rdW (.lda 3 (.c t8)) H21 fun t185'9 =>
 mW (.st 3 (.c t6) (.c t185'9)) H21 fun _ H22 =>
 rdW (.lda 3 (.c t6)) H22 fun r10 =>
 RetC R r10 H22)
 (pW (.bin .eql (.c t78) (.c (.int .i64 10))) fun t151 =>
 condW t151
 (cW E 48 [t76, .int .i64 1099511627776] H2 fun t154 H23 =>
 pW (.nilck (.c t12)) fun t155 =>
 pW (.fad 0 (.c t155)) fun t156 =>
 pW (.fad 4 (.c t156)) fun t157 =>
 mW (.st 1 (.c t157) (.c t154)) H23 fun _ H24 =>
 rdW (.lda 3 (.c t8)) H24 fun t185'10 =>
 mW (.st 3 (.c t6) (.c t185'10)) H24 fun _ H25 =>
 rdW (.lda 3 (.c t6)) H25 fun r11 =>
 RetC R r11 H25)
 (pW (.bin .eql (.c t78) (.c (.int .i64 11))) fun t160 =>
 condW t160
 (pW (.nilck (.c t12)) fun t163 =>
 pW (.fad 5 (.c t163)) fun t164 =>
 rdW (.ld (.c t164)) H2 fun t165 =>
 mkW (.app 1 (.c .nilsl) (.c t165)) H2 fun t166 H26 =>
 bsW 1 [.int .i64 0] 1 [(0, t76)] fun t168 =>
 mkW (.app 1 (.c t166) (.c t168)) H26 fun t169 H27 =>
 pW (.nilck (.c t12)) fun t170 =>
 pW (.fad 5 (.c t170)) fun t171 =>
 mW (.st 1 (.c t171) (.c t169)) H27 fun _ H28 =>
 rdW (.lda 3 (.c t8)) H28 fun t185'11 =>
 mW (.st 3 (.c t6) (.c t185'11)) H28 fun _ H29 =>
 rdW (.lda 3 (.c t6)) H29 fun r12 =>
 RetC R r12 H29)
 (pW (.bin .eql (.c t78) (.c (.int .i64 12))) fun t174 =>
 condW t174
 (pW (.fad 2 (.c t8)) fun t175 =>
 rdW (.ld (.c t175)) H2 fun t176 =>
 pW (.fad 2 (.c t8)) fun t178 =>
 rdW (.ld (.c t178)) H2 fun t179 =>
 pW (.len (.c t179)) fun t180 =>
 pW (.mn (.c t76) (.c t180)) fun t181 =>
 pW (.mx (.c (.int .i64 0)) (.c t181)) fun t182 =>
 pW (.slice 5 (.c t176) none (some (.c t182))) fun t183 =>
 pW (.fad 2 (.c t8)) fun t184 =>
 mW (.st 1 (.c t184) (.c t183)) H2 fun _ H30 =>
 rdW (.lda 3 (.c t8)) H30 fun t185'12 =>
 mW (.st 3 (.c t6) (.c t185'12)) H30 fun _ H31 =>
 rdW (.lda 3 (.c t6)) H31 fun r13 =>
 RetC R r13 H31)
 (rdW (.lda 3 (.c t8)) H2 fun t185'13 =>
 mW (.st 3 (.c t6) (.c t185'13)) H2 fun _ H32 =>
 rdW (.lda 3 (.c t6)) H32 fun r14 =>
 RetC R r14 H32)))))))))))))
def m20_3 (E : Env) (R : AHP) : THP := fun V H => w20_3 E R (V 0) (V 1) (V 2) (V 3) (V 4) H

def w20_2 (E : Env) (R : AHP) (t2 t6 t7 t8 : AV) (H : Heap) : Prop :=
 pW (.fad 2 (.c t8)) fun t45 =>
 rdW (.ld (.c t45)) H fun t46 =>
 pW (.fad 2 (.c t8)) fun t48 =>
 rdW (.ld (.c t48)) H fun t49 =>
 pW (.len (.c t49)) fun t50 =>
 pcallW E (.fn 19 []) [t2, t50] H fun t51 H1 =>
 pW (.iad 5 (.c t46) (.c t51)) fun t52 =>
 pW (.nilck (.c t52)) fun t54 =>
 pW (.fad 0 (.c t54)) fun t55 =>
 rdW (.ld (.c t55)) H1 fun t56 =>
 pW (.len (.c t56)) fun t57 =>
 pW (.bin .gtr (.c t57) (.c (.int .i64 0))) fun t58 =>
 condW t58
 (pW (.nilck (.c t52)) fun t60 =>
 pW (.fad 0 (.c t60)) fun t61 =>
 rdW (.ld (.c t61)) H1 fun t62 =>
 pW (.bin .quo (.c t2) (.c (.int .i64 7))) fun t64 =>
 pW (.nilck (.c t52)) fun t66 =>
 pW (.fad 0 (.c t66)) fun t67 =>
 rdW (.ld (.c t67)) H1 fun t68 =>
 pW (.len (.c t68)) fun t69 =>
 pcallW E (.fn 19 []) [t64, t69] H1 fun t70 H2 =>
 pW (.iad 6 (.c t62) (.c t70)) fun t71 =>
 atW (m20_3 E R) [t6, t7, t8, t52, t71] H2)
 (pW (.build [.int .i64 0, .int .i64 0, .int .i64 0, .int .i64 0, .int .i64 0, .nilsl] []) fun t72 =>
 mkW (.box (.c t72)) H1 fun t73 H3 =>
 atW (m20_3 E R) [t6, t7, t8, t52, t73] H3)
def m20_2 (E : Env) (R : AHP) : THP := fun V H => w20_2 E R (V 0) (V 1) (V 2) (V 3) H

def w20_0 (E : Env) (R : AHP) (K1 : THP) (t2 t3 t6 t7 t8 t9 : AV) (H : Heap) : Prop :=
 pW (.fad 2 (.c t3)) fun t24 =>
 rdW (.ld (.c t24)) H fun t25 =>
 pW (.len (.c t25)) fun t26 =>
 pW (.bin .lss (.c t9) (.c t26)) fun t27 =>
 condW t27
 (atW (m20_1 E R K1) [t2, t3, t6, t7, t8, t9] H)
 (atW (m20_2 E R) [t2, t6, t7, t8] H)
def l20_0 (E : Env) (R : AHP) : THP → THP := fun K1 V H => w20_0 E R K1 (V 0) (V 1) (V 2) (V 3) (V 4) (V 5) H

/-- fulling/fullingkeep2.MutateVFunc -/
def w20 (E : Env) (R : AHP) (t0 t1 t2 : AV) (H : Heap) : Prop :=
 bxW t0 fun t3 =>
 mkW (.alloc [.int .i64 0, .int .i64 0, .nilsl]) H fun t6 H1 =>
 pW (.build [.int .i64 0] [(0, 1, .c t1)]) fun t16 =>
 mkW (.box (.c t16)) H1 fun t17 H2 =>
 pW (.fad 0 (.c t3)) fun t18 =>
 rdW (.ld (.c t18)) H2 fun t19 =>
 pW (.fad 1 (.c t3)) fun t20 =>
 rdW (.ld (.c t20)) H2 fun t21 =>
 pW (.build [.int .i64 0, .int .i64 0, .nilsl] [(0, 1, .c t19), (1, 1, .c t21)]) fun t22 =>
 mkW (.alloc [.int .i64 0, .int .i64 0, .nilsl]) H2 fun t8 H3 =>
 mW (.st 3 (.c t8) (.c t22)) H3 fun _ H4 =>
 loopW (l20_0 E R) [t2, t3, t6, t17, t8, .int .i64 0] H4

theorem ent20 {E : Env} (hE : E.Good) (hF : E.Fits tab) (t0 t1 t2 : AV) (H : Heap) (R : AHP) (h : w20 E R t0 t1 t2 H) : ACall E 20 [t0, t1, t2] H R :=
 acallW (b := d20) hE hF rfl (Nat.le_of_ble_eq_true rfl) (Eq.mp (by kernel_rfl : w20 E R t0 t1 t2 H = DW E d20 (QF [.lda 3 6] R) (vl [t0, t1, t2]) H) h)


def w21_5 (E : Env) (R : AHP) (K1 : THP) (K2 : THP) (t1 t3 t4 t5 : AV) (H : Heap) : Prop :=
 pW (.fad 0 (.c t4)) fun t59 =>
 rdW (.ld (.c t59)) H fun t60 =>
 pW (.iad 6 (.c t60) (.c t5)) fun t62 =>
 rdW (.lda 6 (.c t62)) H fun t63 =>
 rdW (.lda 3 (.c t1)) H fun t64 =>
 pcallW E (.fn 50 []) [t63, t64] H fun t65 H1 =>
 pW (.un .not (.c t65)) fun t66 =>
 condW t66
 (RetC R (.bool false) H1)
 (pW (.bin .add (.c t5) (.c (.int .i64 1))) fun t58 =>
 atW K2 [t1, t3, t4, t58] H1)
def m21_5 (E : Env) (R : AHP) (K1 : THP) (K2 : THP) : THP := fun V H => w21_5 E R K1 K2 (V 0) (V 1) (V 2) (V 3) H

def w21_4 (E : Env) (R : AHP) (K1 : THP) (K2 : THP) (t1 t3 t4 t5 : AV) (H : Heap) : Prop :=
 pW (.fad 0 (.c t4)) fun t53 =>
 rdW (.ld (.c t53)) H fun t54 =>
 pW (.len (.c t54)) fun t55 =>
 pW (.bin .lss (.c t5) (.c t55)) fun t56 =>
 condW t56
 (atW (m21_5 E R K1 K2) [t1, t3, t4, t5] H)
 (pW (.bin .add (.c t3) (.c (.int .i64 1))) fun t42 =>
 atW K1 [t1, t42] H)
def l21_4 (E : Env) (R : AHP) (K1 : THP) : THP → THP := fun K2 V H => w21_4 E R K1 K2 (V 0) (V 1) (V 2) (V 3) H

def w21_3 (E : Env) (R : AHP) (K1 : THP) (t1 t3 t4 : AV) (H : Heap) : Prop :=
 loopW (l21_4 E R K1) [t1, t3, t4, .int .i64 0] H
def m21_3 (E : Env) (R : AHP) (K1 : THP) : THP := fun V H => w21_3 E R K1 (V 0) (V 1) (V 2) H

def w21_2 (E : Env) (R : AHP) (K1 : THP) (t1 t3 : AV) (H : Heap) : Prop :=
 pW (.fad 2 (.c t1)) fun t43 =>
 rdW (.ld (.c t43)) H fun t44 =>
 pW (.iad 5 (.c t44) (.c t3)) fun t46 =>
 rdW (.lda 5 (.c t46)) H fun t47 =>
 alW 5 t47 fun t4 =>
 rdW (.lda 5 (.c t4)) H fun t48 =>
 rdW (.lda 3 (.c t1)) H fun t49 =>
 cW E 49 [t48, t49] H fun t50 H1 =>
 pW (.un .not (.c t50)) fun t51 =>
 condW t51
 (RetC R (.bool false) H1)
 (atW (m21_3 E R K1) [t1, t3, t4] H1)
def m21_2 (E : Env) (R : AHP) (K1 : THP) : THP := fun V H => w21_2 E R K1 (V 0) (V 1) H

def w21_1 (E : Env) (R : AHP) (K1 : THP) (t1 t3 : AV) (H : Heap) : Prop :=
 pW (.fad 2 (.c t1)) fun t37 =>
 rdW (.ld (.c t37)) H fun t38 =>
 pW (.len (.c t38)) fun t39 =>
 pW (.bin .lss (.c t3) (.c t39)) fun t40 =>
 condW t40
 (atW (m21_2 E R K1) [t1, t3] H)
 (RetC R (.bool true) H)
def l21_1 (E : Env) (R : AHP) : THP → THP := fun K1 V H => w21_1 E R K1 (V 0) (V 1) H

def w21_0 (E : Env) (R : AHP) (t1 : AV) (H : Heap) : Prop :=
 loopW (l21_1 E R) [t1, .int .i64 0] H
def m21_0 (E : Env) (R : AHP) : THP := fun V H => w21_0 E R (V 0) H

/-- fulling/fullingref32.Valid -/
def w21 (E : Env) (R : AHP) (t0 : AV) (H : Heap) : Prop :=
 bxW t0 fun t1 =>
 pW (.fad 0 (.c t1)) fun t6 =>
 rdW (.ld (.c t6)) H fun t7 =>
 pW (.bin .lss (.c t7) (.c (.int .i64 0))) fun t8 =>
 grpW false t8 (fun k1 => pW (.fad 0 (.c t1)) fun t10 =>
 rdW (.ld (.c t10)) H fun t11 =>
 pW (.bin .gtr (.c t11) (.c (.int .i64 6))) fun t12 =>
 k1 t12 H) H fun _ t13 =>
 grpW false t13 (fun k2 => pW (.fad 1 (.c t1)) fun t15 =>
 rdW (.ld (.c t15)) H fun t16 =>
 pW (.bin .lss (.c t16) (.c (.int .i64 0))) fun t17 =>
 k2 t17 H) H fun _ t18 =>
 grpW false t18 (fun k3 => pW (.fad 1 (.c t1)) fun t20 =>
 rdW (.ld (.c t20)) H fun t21 =>
 pW (.bin .gtr (.c t21) (.c (.int .i64 3000))) fun t22 =>
 k3 t22 H) H fun _ t23 =>
 grpW false t23 (fun k4 => pW (.fad 2 (.c t1)) fun t25 =>
 rdW (.ld (.c t25)) H fun t26 =>
 pW (.len (.c t26)) fun t27 =>
 pW (.bin .lss (.c t27) (.c (.int .i64 1))) fun t28 =>
 k4 t28 H) H fun _ t29 =>
 grpW false t29 (fun k5 => pW (.fad 2 (.c t1)) fun t31 =>
 rdW (.ld (.c t31)) H fun t32 =>
 pW (.len (.c t32)) fun t33 =>
 pW (.bin .gtr (.c t33) (.c (.int .i64 1000))) fun t34 =>
 k5 t34 H) H fun _ t35 =>
 condW t35
 (RetC R (.bool false) H)
 (atW (m21_0 E R) [t1] H)

theorem ent21 {E : Env} (hE : E.Good) (hF : E.Fits tab) (t0 : AV) (H : Heap) (R : AHP) (h : w21 E R t0 H) : ACall E 21 [t0] H R :=
 acallW (b := d21) hE hF rfl (Nat.le_of_ble_eq_true rfl) (Eq.mp (by kernel_rfl : w21 E R t0 H = DW E d21 (QF [.tmp 2] R) (vl [t0]) H) h)


/-- fulling/fullingkeep2.VFuncs -/
def w22 (E : Env) (R : AHP) (t0 t1 : AV) (H : Heap) : Prop :=
 pW (.len (.c t0)) fun t8 =>
 pW (.mn (.c t8) (.c (.int .i64 36))) fun t9 =>
 pW (.slice 1 (.c t0) none (some (.c t9))) fun t10 =>
 pcallW E (.fn 18 []) [t10, .int .i64 2] H fun t11 H1 =>
 pW (.len (.c t1)) fun t14 =>
 pW (.mn (.c t14) (.c (.int .i64 18))) fun t15 =>
 pW (.slice 1 (.c t1) none (some (.c t15))) fun t16 =>
 pcallW E (.fn 18 []) [t16, .int .i64 1] H1 fun t17 H2 =>
 mkW (.bsl 3 [.int .i64 0, .int .i64 0, .nilsl] 2 [(0, .c t11), (1, .c t17)]) H2 fun t18 H3 =>
 mkW (.bsl 1 [.int .i64 0] 2 [(0, .c (.int .i64 3)), (1, .c (.int .i64 2))]) H3 fun t19 H4 =>
 RetC R (.tup [t18, t19]) H4

theorem ent22 {E : Env} (hE : E.Good) (hF : E.Fits tab) (t0 t1 : AV) (H : Heap) (R : AHP) (h : w22 E R t0 t1 H) : ACall E 22 [t0, t1] H R :=
 acallW (b := d22) hE hF rfl (Nat.le_of_ble_eq_true rfl) (Eq.mp (by kernel_rfl : w22 E R t0 t1 H = DW E d22 (QF [.tmp 4, .tmp 5] R) (vl [t0, t1]) H) h)


def w23_2 (E : Env) (R : AHP) (K1 : THP) (t0 t1 t26 t27 t28 : AV) (H : Heap) : Prop :=
 pW (.iad 1 (.c t26) (.c t28)) fun t30 =>
 rdW (.ld (.c t30)) H fun t31 =>
 pW (.bin .lss (.c t31) (.c (.int .i64 1))) fun t33 =>
 grpW false t33 (fun k1 => pW (.bin .gtr (.c t31) (.c (.int .i64 16))) fun t36 =>
 k1 t36 H) H fun _ t37 =>
 condW t37
 (RetC R (.bool false) H)
 (pW (.bin .add (.c t28) (.c (.int .i64 1))) fun t38 =>
 atW K1 [t0, t1, t26, t27, t38] H)
def m23_2 (E : Env) (R : AHP) (K1 : THP) : THP := fun V H => w23_2 E R K1 (V 0) (V 1) (V 2) (V 3) (V 4) H

def w23_11 (E : Env) (R : AHP) (K1 : THP) (K2 : THP) (K3 : THP) (t0 t1 t12 t39 t40 t41 t49 t50 t51 t56 t57 t58 t86 : AV) (H : Heap) : Prop :=
 condW t86
 (pW (.fad 0 (.c t12)) fun t89 =>
 pW (.fad 4 (.c t89)) fun t90 =>
 rdW (.ld (.c t90)) H fun t91 =>
 pW (.len (.c t1)) fun t93 =>
 pW (.bin .geq (.c t91) (.c t93)) fun t94 =>
 condW t94
 (RetC R (.bool false) H)
 (pW (.bin .add (.c t58) (.c (.int .i64 1))) fun t95 =>
 atW K3 [t0, t1, t39, t40, t41, t49, t50, t51, t56, t57, t95] H))
 (pW (.bin .add (.c t58) (.c (.int .i64 1))) fun t95'1 =>
 atW K3 [t0, t1, t39, t40, t41, t49, t50, t51, t56, t57, t95'1] H)
def m23_11 (E : Env) (R : AHP) (K1 : THP) (K2 : THP) (K3 : THP) : THP := fun V H => w23_11 E R K1 K2 K3 (V 0) (V 1) (V 2) (V 3) (V 4) (V 5) (V 6) (V 7) (V 8) (V 9) (V 10) (V 11) (V 12) H

def w23_10 (E : Env) (R : AHP) (K1 : THP) (K2 : THP) (K3 : THP) (t0 t1 t39 t40 t41 t49 t50 t51 t56 t57 t58 : AV) (H : Heap) : Prop :=
 pW (.iad 6 (.c t56) (.c t58)) fun t60 =>
 rdW (.lda 6 (.c t60)) H fun t61 =>
 alW 6 t61 fun t12 =>
 pW (.fad 0 (.c t12)) fun t62 =>
 pW (.fad 0 (.c t62)) fun t63 =>
 rdW (.ld (.c t63)) H fun t64 =>
 pW (.bin .eql (.c t64) (.c (.int .i64 6))) fun t66 =>
 condW t66
 (pW (.fad 0 (.c t12)) fun t67 =>
 pW (.fad 4 (.c t67)) fun t68 =>
 rdW (.ld (.c t68)) H fun t69 =>
 pW (.len (.c t0)) fun t71 =>
 pW (.bin .geq (.c t69) (.c t71)) fun t72 =>
 grpW false t72 (fun k1 => pW (.fad 5 (.c t12)) fun t74 =>
 rdW (.ld (.c t74)) H fun t75 =>
 pW (.len (.c t75)) fun t76 =>
 pW (.fad 0 (.c t12)) fun t78 =>
 pW (.fad 4 (.c t78)) fun t79 =>
 rdW (.ld (.c t79)) H fun t80 =>
 pW (.iad 3 (.c t0) (.c t80)) fun t81 =>
 pW (.fad 0 (.c t81)) fun t82 =>
 rdW (.ld (.c t82)) H fun t83 =>
 pW (.bin .neq (.c t76) (.c t83)) fun t84 =>
 k1 t84 H) H fun _ t85 =>
 condW t85
 (RetC R (.bool false) H)
 (pW (.bin .add (.c t58) (.c (.int .i64 1))) fun t95 =>
 atW K3 [t0, t1, t39, t40, t41, t49, t50, t51, t56, t57, t95] H))
 (pW (.bin .eql (.c t64) (.c (.int .i64 34))) fun t87 =>
 condW t87
 (atW (m23_11 E R K1 K2 K3) [t0, t1, t12, t39, t40, t41, t49, t50, t51, t56, t57, t58, t87] H)
 (pW (.bin .eql (.c t64) (.c (.int .i64 35))) fun t88 =>
 atW (m23_11 E R K1 K2 K3) [t0, t1, t12, t39, t40, t41, t49, t50, t51, t56, t57, t58, t88] H))
def m23_10 (E : Env) (R : AHP) (K1 : THP) (K2 : THP) (K3 : THP) : THP := fun V H => w23_10 E R K1 K2 K3 (V 0) (V 1) (V 2) (V 3) (V 4) (V 5) (V 6) (V 7) (V 8) (V 9) (V 10) H

def w23_9 (E : Env) (R : AHP) (K1 : THP) (K2 : THP) (K3 : THP) (t0 t1 t39 t40 t41 t49 t50 t51 t56 t57 t58 : AV) (H : Heap) : Prop :=
 pW (.bin .lss (.c t58) (.c t57)) fun t59 =>
 condW t59
 (atW (m23_10 E R K1 K2 K3) [t0, t1, t39, t40, t41, t49, t50, t51, t56, t57, t58] H)
 (pW (.bin .add (.c t51) (.c (.int .i64 1))) fun t96 =>
 atW K2 [t0, t1, t39, t40, t41, t49, t50, t96] H)
def l23_9 (E : Env) (R : AHP) (K1 : THP) (K2 : THP) : THP → THP := fun K3 V H => w23_9 E R K1 K2 K3 (V 0) (V 1) (V 2) (V 3) (V 4) (V 5) (V 6) (V 7) (V 8) (V 9) (V 10) H

def w23_8 (E : Env) (R : AHP) (K1 : THP) (K2 : THP) (t0 t1 t39 t40 t41 t49 t50 t51 : AV) (H : Heap) : Prop :=
 pW (.iad 5 (.c t49) (.c t51)) fun t53 =>
 rdW (.lda 5 (.c t53)) H fun t54 =>
 alW 5 t54 fun t10 =>
 pW (.fad 0 (.c t10)) fun t55 =>
 rdW (.ld (.c t55)) H fun t56 =>
 pW (.len (.c t56)) fun t57 =>
 loopW (l23_9 E R K1 K2) [t0, t1, t39, t40, t41, t49, t50, t51, t56, t57, .int .i64 0] H
def m23_8 (E : Env) (R : AHP) (K1 : THP) (K2 : THP) : THP := fun V H => w23_8 E R K1 K2 (V 0) (V 1) (V 2) (V 3) (V 4) (V 5) (V 6) (V 7) H

def w23_7 (E : Env) (R : AHP) (K1 : THP) (K2 : THP) (t0 t1 t39 t40 t41 t49 t50 t51 : AV) (H : Heap) : Prop :=
 pW (.bin .lss (.c t51) (.c t50)) fun t52 =>
 condW t52
 (atW (m23_8 E R K1 K2) [t0, t1, t39, t40, t41, t49, t50, t51] H)
 (pW (.bin .add (.c t41) (.c (.int .i64 1))) fun t97 =>
 atW K1 [t0, t1, t39, t40, t97] H)
def l23_7 (E : Env) (R : AHP) (K1 : THP) : THP → THP := fun K2 V H => w23_7 E R K1 K2 (V 0) (V 1) (V 2) (V 3) (V 4) (V 5) (V 6) (V 7) H

def w23_6 (E : Env) (R : AHP) (K1 : THP) (t0 t1 t8 t39 t40 t41 : AV) (H : Heap) : Prop :=
 pW (.fad 2 (.c t8)) fun t48 =>
 rdW (.ld (.c t48)) H fun t49 =>
 pW (.len (.c t49)) fun t50 =>
 loopW (l23_7 E R K1) [t0, t1, t39, t40, t41, t49, t50, .int .i64 0] H
def m23_6 (E : Env) (R : AHP) (K1 : THP) : THP := fun V H => w23_6 E R K1 (V 0) (V 1) (V 2) (V 3) (V 4) (V 5) H

def w23_5 (E : Env) (R : AHP) (K1 : THP) (t0 t1 t39 t40 t41 : AV) (H : Heap) : Prop :=
 pW (.iad 3 (.c t39) (.c t41)) fun t43 =>
 rdW (.lda 3 (.c t43)) H fun t44 =>
 alW 3 t44 fun t8 =>
 rdW (.lda 3 (.c t8)) H fun t45 =>
 cW E 14 [t45] H fun t46 H1 =>
 pW (.un .not (.c t46)) fun t47 =>
 condW t47
 (RetC R (.bool false) H1)
 (atW (m23_6 E R K1) [t0, t1, t8, t39, t40, t41] H1)
def m23_5 (E : Env) (R : AHP) (K1 : THP) : THP := fun V H => w23_5 E R K1 (V 0) (V 1) (V 2) (V 3) (V 4) H

def w23_4 (E : Env) (R : AHP) (K1 : THP) (t0 t1 t39 t40 t41 : AV) (H : Heap) : Prop :=
 pW (.bin .lss (.c t41) (.c t40)) fun t42 =>
 condW t42
 (atW (m23_5 E R K1) [t0, t1, t39, t40, t41] H)
 (RetC R (.bool true) H)
def l23_4 (E : Env) (R : AHP) : THP → THP := fun K1 V H => w23_4 E R K1 (V 0) (V 1) (V 2) (V 3) (V 4) H

def w23_3 (E : Env) (R : AHP) (t0 t1 : AV) (H : Heap) : Prop :=
 pW (.len (.c t0)) fun t40 =>
 loopW (l23_4 E R) [t0, t1, t0, t40, .int .i64 0] H
def m23_3 (E : Env) (R : AHP) : THP := fun V H => w23_3 E R (V 0) (V 1) H

def w23_1 (E : Env) (R : AHP) (K1 : THP) (t0 t1 t26 t27 t28 : AV) (H : Heap) : Prop :=
 pW (.bin .lss (.c t28) (.c t27)) fun t29 =>
 condW t29
 (atW (m23_2 E R K1) [t0, t1, t26, t27, t28] H)
 (atW (m23_3 E R) [t0, t1] H)
def l23_1 (E : Env) (R : AHP) : THP → THP := fun K1 V H => w23_1 E R K1 (V 0) (V 1) (V 2) (V 3) (V 4) H

def w23_0 (E : Env) (R : AHP) (t0 t1 : AV) (H : Heap) : Prop :=
 pW (.len (.c t1)) fun t27 =>
 loopW (l23_1 E R) [t0, t1, t1, t27, .int .i64 0] H
def m23_0 (E : Env) (R : AHP) : THP := fun V H => w23_0 E R (V 0) (V 1) H

/-- fulling/vcode.ValidProgram -/
def w23 (E : Env) (R : AHP) (t0 t1 : AV) (H : Heap) : Prop :=
 pW (.len (.c t0)) fun t14 =>
 pW (.bin .lss (.c t14) (.c (.int .i64 1))) fun t15 =>
 grpW false t15 (fun k1 => pW (.len (.c t0)) fun t18 =>
 pW (.bin .gtr (.c t18) (.c (.int .i64 8))) fun t19 =>
 k1 t19 H) H fun _ t20 =>
 grpW false t20 (fun k2 => pW (.len (.c t1)) fun t23 =>
 pW (.bin .gtr (.c t23) (.c (.int .i64 4))) fun t24 =>
 k2 t24 H) H fun _ t25 =>
 condW t25
 (RetC R (.bool false) H)
 (atW (m23_0 E R) [t0, t1] H)

theorem ent23 {E : Env} (hE : E.Good) (hF : E.Fits tab) (t0 t1 : AV) (H : Heap) (R : AHP) (h : w23 E R t0 t1 H) : ACall E 23 [t0, t1] H R :=
 acallW (b := d23) hE hF rfl (Nat.le_of_ble_eq_true rfl) (Eq.mp (by kernel_rfl : w23 E R t0 t1 H = DW E d23 (QF [.tmp 4] R) (vl [t0, t1]) H) h)


def w24_2 (E : Env) (R : AHP) (K1 : THP) (t0 t1 t5 : AV) (H : Heap) : Prop :=
 pW (.iad 1 (.c t1) (.c t5)) fun t31 =>
 rdW (.ld (.c t31)) H fun t32 =>
 pW (.bin .lss (.c t32) (.c (.int .i64 1))) fun t33 =>
 grpW false t33 (fun k1 => pW (.iad 1 (.c t1) (.c t5)) fun t37 =>
 rdW (.ld (.c t37)) H fun t38 =>
 pW (.bin .gtr (.c t38) (.c (.int .i64 16))) fun t39 =>
 k1 t39 H) H fun _ t40 =>
 condW t40
 (RetC R (.bool false) H)
 (pW (.bin .add (.c t5) (.c (.int .i64 1))) fun t28 =>
 atW K1 [t0, t1, t28] H)
def m24_2 (E : Env) (R : AHP) (K1 : THP) : THP := fun V H => w24_2 E R K1 (V 0) (V 1) (V 2) H

def w24_11 (E : Env) (R : AHP) (K1 : THP) (K2 : THP) (K3 : THP) (t0 t1 t6 t7 t8 t9 : AV) (H : Heap) : Prop :=
 pW (.fad 0 (.c t9)) fun t114 =>
 pW (.fad 0 (.c t114)) fun t115 =>
 rdW (.ld (.c t115)) H fun t116 =>
 pW (.bin .eql (.c t116) (.c (.int .i64 34))) fun t117 =>
 grpW false t117 (fun k1 => pW (.fad 0 (.c t9)) fun t119 =>
 pW (.fad 0 (.c t119)) fun t120 =>
 rdW (.ld (.c t120)) H fun t121 =>
 pW (.bin .eql (.c t121) (.c (.int .i64 35))) fun t122 =>
 k1 t122 H) H fun _ t123 =>
 grpW true t123 (fun k2 => pW (.fad 0 (.c t9)) fun t125 =>
 pW (.fad 4 (.c t125)) fun t126 =>
 rdW (.ld (.c t126)) H fun t127 =>
 pW (.len (.c t1)) fun t129 =>
 pW (.bin .geq (.c t127) (.c t129)) fun t130 =>
 k2 t130 H) H fun _ t131 =>
 condW t131
 (RetC R (.bool false) H)
 (pW (.bin .add (.c t8) (.c (.int .i64 1))) fun t76 =>
 atW K3 [t0, t1, t6, t7, t76] H)
def m24_11 (E : Env) (R : AHP) (K1 : THP) (K2 : THP) (K3 : THP) : THP := fun V H => w24_11 E R K1 K2 K3 (V 0) (V 1) (V 2) (V 3) (V 4) (V 5) H

def w24_10 (E : Env) (R : AHP) (K1 : THP) (K2 : THP) (K3 : THP) (t0 t1 t6 t7 t8 : AV) (H : Heap) : Prop :=
 pW (.iad 3 (.c t0) (.c t6)) fun t79 =>
 pW (.fad 2 (.c t79)) fun t80 =>
 rdW (.ld (.c t80)) H fun t81 =>
 pW (.iad 5 (.c t81) (.c t7)) fun t83 =>
 pW (.fad 0 (.c t83)) fun t84 =>
 rdW (.ld (.c t84)) H fun t85 =>
 pW (.iad 6 (.c t85) (.c t8)) fun t87 =>
 rdW (.lda 6 (.c t87)) H fun t88 =>
 alW 6 t88 fun t9 =>
 pW (.fad 0 (.c t9)) fun t89 =>
 pW (.fad 0 (.c t89)) fun t90 =>
 rdW (.ld (.c t90)) H fun t91 =>
 pW (.bin .eql (.c t91) (.c (.int .i64 6))) fun t92 =>
 grpW true t92 (fun k1 => pW (.fad 0 (.c t9)) fun t94 =>
 pW (.fad 4 (.c t94)) fun t95 =>
 rdW (.ld (.c t95)) H fun t96 =>
 pW (.len (.c t0)) fun t98 =>
 pW (.bin .geq (.c t96) (.c t98)) fun t99 =>
 grpW false t99 (fun k2 => pW (.fad 0 (.c t9)) fun t102 =>
 pW (.fad 4 (.c t102)) fun t103 =>
 rdW (.ld (.c t103)) H fun t104 =>
 pW (.iad 3 (.c t0) (.c t104)) fun t105 =>
 pW (.fad 0 (.c t105)) fun t106 =>
 rdW (.ld (.c t106)) H fun t107 =>
 pW (.fad 5 (.c t9)) fun t108 =>
 rdW (.ld (.c t108)) H fun t109 =>
 pW (.len (.c t109)) fun t110 =>
 pW (.bin .neq (.c t107) (.c t110)) fun t111 =>
 k2 t111 H) H fun _ t112 =>
 k1 t112 H) H fun _ t113 =>
 condW t113
 (RetC R (.bool false) H)
 (atW (m24_11 E R K1 K2 K3) [t0, t1, t6, t7, t8, t9] H)
def m24_10 (E : Env) (R : AHP) (K1 : THP) (K2 : THP) (K3 : THP) : THP := fun V H => w24_10 E R K1 K2 K3 (V 0) (V 1) (V 2) (V 3) (V 4) H

def w24_9 (E : Env) (R : AHP) (K1 : THP) (K2 : THP) (K3 : THP) (t0 t1 t6 t7 t8 : AV) (H : Heap) : Prop :=
 pW (.iad 3 (.c t0) (.c t6)) fun t66 =>
 pW (.fad 2 (.c t66)) fun t67 =>
 rdW (.ld (.c t67)) H fun t68 =>
 pW (.iad 5 (.c t68) (.c t7)) fun t70 =>
 pW (.fad 0 (.c t70)) fun t71 =>
 rdW (.ld (.c t71)) H fun t72 =>
 pW (.len (.c t72)) fun t73 =>
 pW (.bin .lss (.c t8) (.c t73)) fun t74 =>
 condW t74
 (atW (m24_10 E R K1 K2 K3) [t0, t1, t6, t7, t8] H)
 (pW (.bin .add (.c t7) (.c (.int .i64 1))) fun t62 =>
 atW K2 [t0, t1, t6, t62] H)
def l24_9 (E : Env) (R : AHP) (K1 : THP) (K2 : THP) : THP → THP := fun K3 V H => w24_9 E R K1 K2 K3 (V 0) (V 1) (V 2) (V 3) (V 4) H

def w24_8 (E : Env) (R : AHP) (K1 : THP) (K2 : THP) (t0 t1 t6 t7 : AV) (H : Heap) : Prop :=
 loopW (l24_9 E R K1 K2) [t0, t1, t6, t7, .int .i64 0] H
def m24_8 (E : Env) (R : AHP) (K1 : THP) (K2 : THP) : THP := fun V H => w24_8 E R K1 K2 (V 0) (V 1) (V 2) (V 3) H

def w24_7 (E : Env) (R : AHP) (K1 : THP) (K2 : THP) (t0 t1 t6 t7 : AV) (H : Heap) : Prop :=
 pW (.iad 3 (.c t0) (.c t6)) fun t56 =>
 pW (.fad 2 (.c t56)) fun t57 =>
 rdW (.ld (.c t57)) H fun t58 =>
 pW (.len (.c t58)) fun t59 =>
 pW (.bin .lss (.c t7) (.c t59)) fun t60 =>
 condW t60
 (atW (m24_8 E R K1 K2) [t0, t1, t6, t7] H)
 (pW (.bin .add (.c t6) (.c (.int .i64 1))) fun t46 =>
 atW K1 [t0, t1, t46] H)
def l24_7 (E : Env) (R : AHP) (K1 : THP) : THP → THP := fun K2 V H => w24_7 E R K1 K2 (V 0) (V 1) (V 2) (V 3) H

def w24_6 (E : Env) (R : AHP) (K1 : THP) (t0 t1 t6 : AV) (H : Heap) : Prop :=
 loopW (l24_7 E R K1) [t0, t1, t6, .int .i64 0] H
def m24_6 (E : Env) (R : AHP) (K1 : THP) : THP := fun V H => w24_6 E R K1 (V 0) (V 1) (V 2) H

def w24_5 (E : Env) (R : AHP) (K1 : THP) (t0 t1 t6 : AV) (H : Heap) : Prop :=
 pW (.iad 3 (.c t0) (.c t6)) fun t49 =>
 rdW (.lda 3 (.c t49)) H fun t50 =>
 cW E 21 [t50] H fun t51 H1 =>
 pW (.un .not (.c t51)) fun t52 =>
 condW t52
 (RetC R (.bool false) H1)
 (atW (m24_6 E R K1) [t0, t1, t6] H1)
def m24_5 (E : Env) (R : AHP) (K1 : THP) : THP := fun V H => w24_5 E R K1 (V 0) (V 1) (V 2) H

def w24_4 (E : Env) (R : AHP) (K1 : THP) (t0 t1 t6 : AV) (H : Heap) : Prop :=
 pW (.len (.c t0)) fun t43 =>
 pW (.bin .lss (.c t6) (.c t43)) fun t44 =>
 condW t44
 (atW (m24_5 E R K1) [t0, t1, t6] H)
 (RetC R (.bool true) H)
def l24_4 (E : Env) (R : AHP) : THP → THP := fun K1 V H => w24_4 E R K1 (V 0) (V 1) (V 2) H

def w24_3 (E : Env) (R : AHP) (t0 t1 : AV) (H : Heap) : Prop :=
 loopW (l24_4 E R) [t0, t1, .int .i64 0] H
def m24_3 (E : Env) (R : AHP) : THP := fun V H => w24_3 E R (V 0) (V 1) H

def w24_1 (E : Env) (R : AHP) (K1 : THP) (t0 t1 t5 : AV) (H : Heap) : Prop :=
 pW (.len (.c t1)) fun t25 =>
 pW (.bin .lss (.c t5) (.c t25)) fun t26 =>
 condW t26
 (atW (m24_2 E R K1) [t0, t1, t5] H)
 (atW (m24_3 E R) [t0, t1] H)
def l24_1 (E : Env) (R : AHP) : THP → THP := fun K1 V H => w24_1 E R K1 (V 0) (V 1) (V 2) H

def w24_0 (E : Env) (R : AHP) (t0 t1 : AV) (H : Heap) : Prop :=
 loopW (l24_1 E R) [t0, t1, .int .i64 0] H
def m24_0 (E : Env) (R : AHP) : THP := fun V H => w24_0 E R (V 0) (V 1) H

/-- fulling/fullingref32.ValidProgram -/
def w24 (E : Env) (R : AHP) (t0 t1 : AV) (H : Heap) : Prop :=
 pW (.len (.c t0)) fun t11 =>
 pW (.bin .lss (.c t11) (.c (.int .i64 1))) fun t12 =>
 grpW false t12 (fun k1 => pW (.len (.c t0)) fun t15 =>
 pW (.bin .gtr (.c t15) (.c (.int .i64 8))) fun t16 =>
 k1 t16 H) H fun _ t17 =>
 grpW false t17 (fun k2 => pW (.len (.c t1)) fun t20 =>
 pW (.bin .gtr (.c t20) (.c (.int .i64 4))) fun t21 =>
 k2 t21 H) H fun _ t22 =>
 condW t22
 (RetC R (.bool false) H)
 (atW (m24_0 E R) [t0, t1] H)

theorem ent24 {E : Env} (hE : E.Good) (hF : E.Fits tab) (t0 t1 : AV) (H : Heap) (R : AHP) (h : w24 E R t0 t1 H) : ACall E 24 [t0, t1] H R :=
 acallW (b := d24) hE hF rfl (Nat.le_of_ble_eq_true rfl) (Eq.mp (by kernel_rfl : w24 E R t0 t1 H = DW E d24 (QF [.tmp 4] R) (vl [t0, t1]) H) h)


/-- fulling/fullingkeep.Args -/
def w25 (E : Env) (R : AHP) (t0 t1 t2 : AV) (H : Heap) : Prop :=
 cW E 48 [t0, t2] H fun t9 H1 =>
 cW E 48 [t1, t2] H1 fun t12 H2 =>
 bsW 1 [.int .i64 0] 2 [(0, t9), (1, t12)] fun t13 =>
 RetC R t13 H2

theorem ent25 {E : Env} (hE : E.Good) (hF : E.Fits tab) (t0 t1 t2 : AV) (H : Heap) (R : AHP) (h : w25 E R t0 t1 t2 H) : ACall E 25 [t0, t1, t2] H R :=
 acallW (b := d25) hE hF rfl (Nat.le_of_ble_eq_true rfl) (Eq.mp (by kernel_rfl : w25 E R t0 t1 t2 H = DW E d25 (QF [.tmp 6] R) (vl [t0, t1, t2]) H) h)


/-- fulling/fullingkeep.Fuel -/
def w26 (E : Env) (R : AHP) (t0 : AV) (H : Heap) : Prop :=
 cW E 19 [t0, .int .i64 12] H fun t4 H1 =>
 RetC R t4 H1

theorem ent26 {E : Env} (hE : E.Good) (hF : E.Fits tab) (t0 : AV) (H : Heap) (R : AHP) (h : w26 E R t0 H) : ACall E 26 [t0] H R :=
 acallW (b := d26) hE hF rfl (Nat.le_of_ble_eq_true rfl) (Eq.mp (by kernel_rfl : w26 E R t0 H = DW E d26 (QF [.tmp 2] R) (vl [t0]) H) h)


def w27_2 (E : Env) (R : AHP) (K1 : THP) (t1 t2 t3 t12 t14 t15 : AV) (H : Heap) : Prop :=
 pW (.nilck (.c t14)) fun t63 =>
 pW (.fad 1 (.c t63)) fun t64 =>
 rdW (.ld (.c t64)) H fun t65 =>
 pW (.iad 1 (.c t1) (.c t15)) fun t68 =>
 rdW (.ld (.c t68)) H fun t69 =>
 mkW (.mksl 1 8 [.int .i64 0] (.c t69) (.c t69)) H fun t70 H1 =>
 mkW (.bsl 1 [.nilsl] 1 [(0, .c t70)]) H1 fun t71 H2 =>
 mkW (.app 1 (.c t65) (.c t71)) H2 fun t72 H3 =>
 pW (.nilck (.c t14)) fun t73 =>
 pW (.fad 1 (.c t73)) fun t74 =>
 mW (.st 1 (.c t74) (.c t72)) H3 fun _ H4 =>
 pW (.bin .add (.c t15) (.c (.int .i64 1))) fun t60 =>
 atW K1 [t1, t2, t3, t12, t14, t60] H4
def m27_2 (E : Env) (R : AHP) (K1 : THP) : THP := fun V H => w27_2 E R K1 (V 0) (V 1) (V 2) (V 3) (V 4) (V 5) H

def w27_5 (E : Env) (R : AHP) (t12 t14 : AV) (H : Heap) : Prop :=
 pW (.nilck (.c t14)) fun t96 =>
 pW (.fad 4 (.c t96)) fun t97 =>
 rdW (.ld (.c t97)) H fun t98 =>
 pW (.nilck (.c t14)) fun t99 =>
 pW (.fad 5 (.c t99)) fun t100 =>
 pW (.fad 2 (.c t100)) fun t101 =>
 mW (.st 1 (.c t101) (.c t98)) H fun _ H1 =>
 pW (.nilck (.c t14)) fun t103 =>
 pW (.fad 5 (.c t103)) fun t104 =>
 rdW (.lda 4 (.c t104)) H1 fun t105 =>
 mW (.st 4 (.c t12) (.c t105)) H1 fun _ H2 =>
 rdW (.lda 4 (.c t12)) H2 fun r3 =>
 RetC R (.tup [r3, .bool true]) H2
def m27_5 (E : Env) (R : AHP) : THP := fun V H => w27_5 E R (V 0) (V 1) H

def w27_4 (E : Env) (R : AHP) (t12 t14 t16 : AV) (H : Heap) : Prop :=
 pW (.nilck (.c t14)) fun t85 =>
 pW (.fad 9 (.c t85)) fun t86 =>
 rdW (.ld (.c t86)) H fun t87 =>
 pW (.un .not (.c t87)) fun t88 =>
 condW t88
 (pW (.build [.int .i64 0, .int .i64 0, .nilsl, .int .i64 0] [(0, 1, .c (.int .i64 1)), (3, 1, .c t16)]) fun t91 =>
 pW (.nilck (.c t14)) fun t92 =>
 pW (.fad 5 (.c t92)) fun t93 =>
 mW (.st 4 (.c t93) (.c t91)) H fun _ H1 =>
 atW (m27_5 E R) [t12, t14] H1)
 (atW (m27_5 E R) [t12, t14] H)
def m27_4 (E : Env) (R : AHP) : THP := fun V H => w27_4 E R (V 0) (V 1) (V 2) H

def w27_3 (E : Env) (R : AHP) (t2 t3 t12 t14 : AV) (H : Heap) : Prop :=
 cW E 51 [t14, t2, t3] H fun t78 H1 =>
 pW (.nilck (.c t14)) fun t80 =>
 pW (.fad 10 (.c t80)) fun t81 =>
 rdW (.ld (.c t81)) H1 fun t82 =>
 condW t82
 (pW (.build [.int .i64 0, .int .i64 0, .nilsl, .int .i64 0] []) fun t83 =>
 mW (.st 4 (.c t12) (.c t83)) H1 fun _ H2 =>
 rdW (.lda 4 (.c t12)) H2 fun r2 =>
 RetC R (.tup [r2, .bool false]) H2)
 (atW (m27_4 E R) [t12, t14, t78] H1)
def m27_3 (E : Env) (R : AHP) : THP := fun V H => w27_3 E R (V 0) (V 1) (V 2) (V 3) H

def w27_1 (E : Env) (R : AHP) (K1 : THP) (t1 t2 t3 t12 t14 t15 : AV) (H : Heap) : Prop :=
 pW (.len (.c t1)) fun t57 =>
 pW (.bin .lss (.c t15) (.c t57)) fun t58 =>
 condW t58
 (atW (m27_2 E R K1) [t1, t2, t3, t12, t14, t15] H)
 (atW (m27_3 E R) [t2, t3, t12, t14] H)
def l27_1 (E : Env) (R : AHP) : THP → THP := fun K1 V H => w27_1 E R K1 (V 0) (V 1) (V 2) (V 3) (V 4) (V 5) H

def w27_0 (E : Env) (R : AHP) (t0 t1 t2 t3 t4 t5 t12 : AV) (H : Heap) : Prop :=
 pW (.build [.nilsl, .nilsl, .int .i64 0, .int .i64 0, .nilsl, .int .i64 0, .int .i64 0, .nilsl, .int .i64 0, .bool false, .bool false] [(0, 1, .c t0), (2, 1, .c t4), (3, 1, .c t5)]) fun t53 =>
 mkW (.box (.c t53)) H fun t54 H1 =>
 loopW (l27_1 E R) [t1, t2, t3, t12, t54, .int .i64 0] H1
def m27_0 (E : Env) (R : AHP) : THP := fun V H => w27_0 E R (V 0) (V 1) (V 2) (V 3) (V 4) (V 5) (V 6) H

/-- fulling/fullingref32.Run -/
def w27 (E : Env) (R : AHP) (t0 t1 t2 t3 t4 t5 : AV) (H : Heap) : Prop :=
 mkW (.alloc [.int .i64 0, .int .i64 0, .nilsl, .int .i64 0]) H fun t12 H1 =>
 cW E 24 [t0, t1] H1 fun t19 H2 =>
 pW (.un .not (.c t19)) fun t20 =>
 grpW false t20 (fun k1 => pW (.bin .lss (.c t2) (.c (.int .i64 0))) fun t23 =>
 k1 t23 H2) H2 fun _ t24 =>
 grpW false t24 (fun k2 => pW (.len (.c t0)) fun t28 =>
 pW (.bin .geq (.c t2) (.c t28)) fun t29 =>
 k2 t29 H2) H2 fun _ t30 =>
 grpW false t30 (fun k3 => pW (.len (.c t3)) fun t33 =>
 pW (.iad 3 (.c t0) (.c t2)) fun t36 =>
 pW (.fad 0 (.c t36)) fun t37 =>
 rdW (.ld (.c t37)) H2 fun t38 =>
 pW (.bin .neq (.c t33) (.c t38)) fun t39 =>
 k3 t39 H2) H2 fun _ t40 =>
 grpW false t40 (fun k4 => pW (.bin .lss (.c t4) (.c (.int .i64 0))) fun t43 =>
 k4 t43 H2) H2 fun _ t44 =>
 grpW false t44 (fun k5 => pW (.bin .gtr (.c t4) (.c (.int .i64 1000))) fun t47 =>
 k5 t47 H2) H2 fun _ t48 =>
 condW t48
 (pW (.build [.int .i64 0, .int .i64 0, .nilsl, .int .i64 0] []) fun t49 =>
 mW (.st 4 (.c t12) (.c t49)) H2 fun _ H3 =>
 rdW (.lda 4 (.c t12)) H3 fun r1 =>
 RetC R (.tup [r1, .bool false]) H3)
 (atW (m27_0 E R) [t0, t1, t2, t3, t4, t5, t12] H2)

theorem ent27 {E : Env} (hE : E.Good) (hF : E.Fits tab) (t0 t1 t2 t3 t4 t5 : AV) (H : Heap) (R : AHP) (h : w27 E R t0 t1 t2 t3 t4 t5 H) : ACall E 27 [t0, t1, t2, t3, t4, t5] H R :=
 acallW (b := d27) hE hF rfl (Nat.le_of_ble_eq_true rfl) (Eq.mp (by kernel_rfl : w27 E R t0 t1 t2 t3 t4 t5 H = DW E d27 (QF [.lda 4 12, .tmp 13] R) (vl [t0, t1, t2, t3, t4, t5]) H) h)


def w28_6 (E : Env) (R : AHP) (K1 : THP) (t3 t4 t5 t9 t13 : AV) (H : Heap) : Prop :=
 ∀ base, Fresh H base →
 pW (.fad 5 (.c t9)) fun t110 =>
 dW (.ld (.c t110)) (base + 1) H fun t111 n1 g1 H1 =>
 pW (.fad 1 (.c t3)) fun t113 =>
 dW (.ld (.c t113)) (base + 4) H1 fun t114 n2 g2 H2 =>
 dcallW E (.fn 47 []) [t5, t114] H2 fun t115 n3 g3 H3 =>
 dW (.bsl 1 [.int .i64 0] 1 [(0, .c t115)]) (base + 6) H3 fun t116 n4 g4 H4 =>
 dW (.app 1 (.c t111) (.c t116)) (base + 7) H4 fun t117 n5 g5 H5 =>
 pW (.fad 5 (.c t9)) fun t118 =>
 dW (.st 1 (.c t118) (.c t117)) (base + 9) H5 fun _ n6 g6 H6 =>
 (keysDisj ([], []) (n3, g3) ∧ (keysDisj (n1, g1) (n3, g3) ∧ (keysDisj (n1, g1) (n4, g4) ∧ True))) ∧
 pW (.bin .sub (.c t13) (.c (.int .i64 1))) fun t109 =>
 atW K1 [t3, t4, t5, t9, t109] H6
def m28_6 (E : Env) (R : AHP) (K1 : THP) : THP := fun V H => w28_6 E R K1 (V 0) (V 1) (V 2) (V 3) (V 4) H

def w28_5 (E : Env) (R : AHP) (K1 : THP) (t3 t4 t5 t9 t13 : AV) (H : Heap) : Prop :=
 pW (.bin .gtr (.c t13) (.c (.int .i64 0))) fun t107 =>
 condW t107
 (atW (m28_6 E R K1) [t3, t4, t5, t9, t13] H)
 (rdW (.lda 6 (.c t9)) H fun t119 =>
 mW (.st 6 (.c t4) (.c t119)) H fun _ H1 =>
 rdW (.lda 6 (.c t4)) H1 fun r4 =>
 RetC R r4 H1)
def l28_5 (E : Env) (R : AHP) : THP → THP := fun K1 V H => w28_5 E R K1 (V 0) (V 1) (V 2) (V 3) (V 4) H

def w28_4 (E : Env) (R : AHP) (t3 t4 t5 t9 t73 t89 : AV) (H : Heap) : Prop :=
 condW t89
 (cW E 47 [t5, .int .i64 2] H fun t93 H1 =>
 pW (.fad 0 (.c t9)) fun t94 =>
 pW (.fad 4 (.c t94)) fun t95 =>
 mW (.st 1 (.c t95) (.c t93)) H1 fun _ H2 =>
 rdW (.lda 6 (.c t9)) H2 fun t119 =>
 mW (.st 6 (.c t4) (.c t119)) H2 fun _ H3 =>
 rdW (.lda 6 (.c t4)) H3 fun r3 =>
 RetC R r3 H3)
 (pW (.bin .eql (.c t73) (.c (.int .i64 6))) fun t97 =>
 condW t97
 (cW E 47 [t5, .int .i64 2] H fun t99 H4 =>
 pW (.fad 0 (.c t9)) fun t100 =>
 pW (.fad 4 (.c t100)) fun t101 =>
 mW (.st 1 (.c t101) (.c t99)) H4 fun _ H5 =>
 pW (.fad 0 (.c t9)) fun t102 =>
 pW (.fad 4 (.c t102)) fun t103 =>
 rdW (.ld (.c t103)) H5 fun t104 =>
 pW (.bin .sub (.c (.int .i64 2)) (.c t104)) fun t105 =>
 loopW (l28_5 E R) [t3, t4, t5, t9, t105] H5)
 (rdW (.lda 6 (.c t9)) H fun t119'1 =>
 mW (.st 6 (.c t4) (.c t119'1)) H fun _ H6 =>
 rdW (.lda 6 (.c t4)) H6 fun r5 =>
 RetC R r5 H6))
def m28_4 (E : Env) (R : AHP) : THP := fun V H => w28_4 E R (V 0) (V 1) (V 2) (V 3) (V 4) (V 5) H

def w28_3 (E : Env) (R : AHP) (t0 t3 t4 t5 t7 t9 : AV) (H : Heap) : Prop :=
 pW (.bin .eql (.c t7) (.c (.int .i64 13))) fun t75 =>
 condW t75
 (cW E 47 [t5, .int .i64 400] H fun t77 H1 =>
 cW E 48 [t77, t0] H1 fun t79 H2 =>
 pW (.fad 0 (.c t9)) fun t80 =>
 pW (.fad 4 (.c t80)) fun t81 =>
 mW (.st 1 (.c t81) (.c t79)) H2 fun _ H3 =>
 rdW (.lda 6 (.c t9)) H3 fun t119 =>
 mW (.st 6 (.c t4) (.c t119)) H3 fun _ H4 =>
 rdW (.lda 6 (.c t4)) H4 fun r1 =>
 RetC R r1 H4)
 (pW (.bin .eql (.c t7) (.c (.int .i64 33))) fun t83 =>
 condW t83
 (cW E 47 [t5, .int .i64 9] H fun t85 H5 =>
 pW (.bin .sub (.c t85) (.c (.int .i64 4))) fun t86 =>
 pW (.fad 0 (.c t9)) fun t87 =>
 pW (.fad 4 (.c t87)) fun t88 =>
 mW (.st 1 (.c t88) (.c t86)) H5 fun _ H6 =>
 rdW (.lda 6 (.c t9)) H6 fun t119'1 =>
 mW (.st 6 (.c t4) (.c t119'1)) H6 fun _ H7 =>
 rdW (.lda 6 (.c t4)) H7 fun r2 =>
 RetC R r2 H7)
 (pW (.bin .eql (.c t7) (.c (.int .i64 34))) fun t90 =>
 condW t90
 (atW (m28_4 E R) [t3, t4, t5, t9, t7, t90] H)
 (pW (.bin .eql (.c t7) (.c (.int .i64 35))) fun t91 =>
 atW (m28_4 E R) [t3, t4, t5, t9, t7, t91] H)))
def m28_3 (E : Env) (R : AHP) : THP := fun V H => w28_3 E R (V 0) (V 1) (V 2) (V 3) (V 4) (V 5) H

def w28_2 (E : Env) (R : AHP) (t0 t3 t4 t5 t7 t9 t12 : AV) (H : Heap) : Prop :=
 pW (.bin .eql (.c t12) (.c (.int .i64 4))) fun t66 =>
 condW t66
 (pW (.fad 1 (.c t3)) fun t68 =>
 rdW (.ld (.c t68)) H fun t69 =>
 cW E 47 [t5, t69] H fun t70 H1 =>
 pW (.fad 0 (.c t9)) fun t71 =>
 pW (.fad 3 (.c t71)) fun t72 =>
 mW (.st 1 (.c t72) (.c t70)) H1 fun _ H2 =>
 atW (m28_3 E R) [t0, t3, t4, t5, t7, t9] H2)
 (atW (m28_3 E R) [t0, t3, t4, t5, t7, t9] H)
def m28_2 (E : Env) (R : AHP) : THP := fun V H => w28_2 E R (V 0) (V 1) (V 2) (V 3) (V 4) (V 5) (V 6) H

def w28_1 (E : Env) (R : AHP) (t0 t3 t4 t5 t7 t9 t12 : AV) (H : Heap) : Prop :=
 pW (.bin .eql (.c t12) (.c (.int .i64 3))) fun t50 =>
 grpW false t50 (fun k1 => pW (.bin .eql (.c t12) (.c (.int .i64 4))) fun t53 =>
 k1 t53 H) H fun _ t54 =>
 grpW false t54 (fun k2 => pW (.bin .eql (.c t12) (.c (.int .i64 7))) fun t57 =>
 k2 t57 H) H fun _ t58 =>
 condW t58
 (pW (.fad 1 (.c t3)) fun t60 =>
 rdW (.ld (.c t60)) H fun t61 =>
 cW E 47 [t5, t61] H fun t62 H1 =>
 pW (.fad 0 (.c t9)) fun t63 =>
 pW (.fad 2 (.c t63)) fun t64 =>
 mW (.st 1 (.c t64) (.c t62)) H1 fun _ H2 =>
 atW (m28_2 E R) [t0, t3, t4, t5, t7, t9, t12] H2)
 (atW (m28_2 E R) [t0, t3, t4, t5, t7, t9, t12] H)
def m28_1 (E : Env) (R : AHP) : THP := fun V H => w28_1 E R (V 0) (V 1) (V 2) (V 3) (V 4) (V 5) (V 6) H

def w28_0 (E : Env) (R : AHP) (t0 t3 t4 t5 t7 : AV) (H : Heap) : Prop :=
 pW (.build [.int .i64 0, .int .i64 0, .int .i64 0, .int .i64 0, .int .i64 0] [(0, 1, .c t7)]) fun t32 =>
 pW (.build [.int .i64 0, .int .i64 0, .int .i64 0, .int .i64 0, .int .i64 0, .nilsl] [(0, 5, .c t32)]) fun t33 =>
 mkW (.alloc [.int .i64 0, .int .i64 0, .int .i64 0, .int .i64 0, .int .i64 0, .nilsl]) H fun t9 H1 =>
 mW (.st 6 (.c t9) (.c t33)) H1 fun _ H2 =>
 cW E 52 [t7] H2 fun t36 H3 =>
 pW (.ext (.c t36) 0) fun t37 =>
 pW (.ext (.c t36) 1) fun t38 =>
 alW 7 t37 fun t10 =>
 pW (.fad 1 (.c t10)) fun t39 =>
 rdW (.ld (.c t39)) H3 fun t40 =>
 pW (.bin .neq (.c t40) (.c (.int .i64 1))) fun t42 =>
 condW t42
 (pW (.fad 1 (.c t3)) fun t44 =>
 rdW (.ld (.c t44)) H3 fun t45 =>
 cW E 47 [t5, t45] H3 fun t46 H4 =>
 pW (.fad 0 (.c t9)) fun t47 =>
 pW (.fad 1 (.c t47)) fun t48 =>
 mW (.st 1 (.c t48) (.c t46)) H4 fun _ H5 =>
 atW (m28_1 E R) [t0, t3, t4, t5, t7, t9, t40] H5)
 (atW (m28_1 E R) [t0, t3, t4, t5, t7, t9, t40] H3)
def m28_0 (E : Env) (R : AHP) : THP := fun V H => w28_0 E R (V 0) (V 1) (V 2) (V 3) (V 4) H

/-- fulling/fullingkeep2.VInstr -/
def w28 (E : Env) (R : AHP) (t0 t1 : AV) (H : Heap) : Prop :=
 bxW t1 fun t3 =>
 mkW (.alloc [.int .i64 0, .int .i64 0, .int .i64 0, .int .i64 0, .int .i64 0, .nilsl]) H fun t4 H1 =>
 pW (.build [.int .i64 0] [(0, 1, .c t0)]) fun t15 =>
 mkW (.box (.c t15)) H1 fun t16 H2 =>
 bsW 1 [.int .i64 0] 12 [(0, .int .i64 3), (1, .int .i64 6), (2, .int .i64 9), (3, .int .i64 10), (4, .int .i64 11), (5, .int .i64 12), (6, .int .i64 13), (7, .int .i64 33), (8, .int .i64 34), (9, .int .i64 35), (10, .int .i64 10), (11, .int .i64 9)] fun t17 =>
 cW E 47 [t16, .int .i64 18] H2 fun t19 H3 =>
 pW (.bin .add (.c (.int .i64 15)) (.c t19)) fun t20 =>
 cW E 47 [t16, .int .i64 24] H3 fun t22 H4 =>
 pW (.len (.c t17)) fun t25 =>
 pW (.bin .lss (.c t22) (.c t25)) fun t26 =>
 condW t26
 (pW (.iad 1 (.c t17) (.c t22)) fun t29 =>
 rdW (.ld (.c t29)) H4 fun t30 =>
 atW (m28_0 E R) [t0, t3, t4, t16, t30] H4)
 (atW (m28_0 E R) [t0, t3, t4, t16, t20] H4)

theorem ent28 {E : Env} (hE : E.Good) (hF : E.Fits tab) (t0 t1 : AV) (H : Heap) (R : AHP) (h : w28 E R t0 t1 H) : ACall E 28 [t0, t1] H R :=
 acallW (b := d28) hE hF rfl (Nat.le_of_ble_eq_true rfl) (Eq.mp (by kernel_rfl : w28 E R t0 t1 H = DW E d28 (QF [.lda 6 4] R) (vl [t0, t1]) H) h)


def w42_1 (E : Env) (R : AHP) (t0 : AV) (H : Heap) : Prop :=
 pW (.nilck (.c t0)) fun t75 =>
 pW (.fad 3 (.c t75)) fun t76 =>
 rdW (.ld (.c t76)) H fun t77 =>
 pW (.bin .sub (.c t77) (.c (.int .i64 1))) fun t78 =>
 pW (.nilck (.c t0)) fun t79 =>
 pW (.fad 3 (.c t79)) fun t80 =>
 mW (.st 1 (.c t80) (.c t78)) H fun _ H1 =>
 RetC R (.tup []) H1
def m42_1 (E : Env) (R : AHP) : THP := fun V H => w42_1 E R (V 0) H

def w42_3 (E : Env) (R : AHP) (K1 : THP) (t0 t2 t5 t98 t99 t100 : AV) (H : Heap) : Prop :=
 pW (.iad 1 (.c t98) (.c t100)) fun t102 =>
 rdW (.ld (.c t102)) H fun t103 =>
 ∀ base, Fresh H base →
 pW (.nilck (.c t5)) fun t106 =>
 pW (.fad 4 (.c t106)) fun t107 =>
 dW (.ld (.c t107)) (base + 4) H fun t108 n1 g1 H1 =>
 dcallW E (.fn 78 []) [t2, t103] H1 fun t111 n2 g2 H2 =>
 dW (.bsl 1 [.int .i64 0] 1 [(0, .c t111)]) (base + 8) H2 fun t112 n3 g3 H3 =>
 dW (.app 1 (.c t108) (.c t112)) (base + 9) H3 fun t113 n4 g4 H4 =>
 pW (.nilck (.c t5)) fun t114 =>
 pW (.fad 4 (.c t114)) fun t115 =>
 dW (.st 1 (.c t115) (.c t113)) (base + 12) H4 fun _ n5 g5 H5 =>
 (keysDisj ([], []) (n2, g2) ∧ (keysDisj ([], []) (n2, g2) ∧ (keysDisj ([], []) (n2, g2) ∧ (keysDisj ([], []) (n2, g2) ∧ (keysDisj (n1, g1) (n2, g2) ∧ (keysDisj (n1, g1) (n3, g3) ∧ True)))))) ∧
 pW (.bin .add (.c t100) (.c (.int .i64 1))) fun t116 =>
 atW K1 [t0, t2, t5, t98, t99, t116] H5
def m42_3 (E : Env) (R : AHP) (K1 : THP) : THP := fun V H => w42_3 E R K1 (V 0) (V 1) (V 2) (V 3) (V 4) (V 5) H

def w42_4 (E : Env) (R : AHP) (t0 t5 : AV) (H : Heap) : Prop :=
 pW (.nilck (.c t0)) fun t119 =>
 pW (.fad 2 (.c t119)) fun t120 =>
 rdW (.ld (.c t120)) H fun t121 =>
 bsW 1 [.nilp] 1 [(0, t5)] fun t123 =>
 mkW (.app 1 (.c t121) (.c t123)) H fun t124 H1 =>
 pW (.nilck (.c t0)) fun t125 =>
 pW (.fad 2 (.c t125)) fun t126 =>
 mW (.st 1 (.c t126) (.c t124)) H1 fun _ H2 =>
 RetC R (.tup []) H2
def m42_4 (E : Env) (R : AHP) : THP := fun V H => w42_4 E R (V 0) (V 1) H

def w42_2 (E : Env) (R : AHP) (K1 : THP) (t0 t2 t5 t98 t99 t100 : AV) (H : Heap) : Prop :=
 pW (.bin .lss (.c t100) (.c t99)) fun t101 =>
 condW t101
 (atW (m42_3 E R K1) [t0, t2, t5, t98, t99, t100] H)
 (atW (m42_4 E R) [t0, t5] H)
def l42_2 (E : Env) (R : AHP) : THP → THP := fun K1 V H => w42_2 E R K1 (V 0) (V 1) (V 2) (V 3) (V 4) (V 5) H

def w42_5 (E : Env) (R : AHP) (t0 t2 t4 t145 : AV) (H : Heap) : Prop :=
 condW t145
 (pW (.fad 0 (.c t4)) fun t150 =>
 rdW (.lda 5 (.c t150)) H fun t151 =>
 cW E 79 [t0, t2, t151] H fun t152 H1 =>
 RetC R (.tup []) H1)
 (pW (.fad 0 (.c t4)) fun t62 =>
 rdW (.lda 5 (.c t62)) H fun t63 =>
 cW E 80 [t0, t2, t63] H fun t64 H2 =>
 RetC R (.tup []) H2)
def m42_5 (E : Env) (R : AHP) : THP := fun V H => w42_5 E R (V 0) (V 1) (V 2) (V 3) H

def w42_0 (E : Env) (R : AHP) (t0 t2 t3 : AV) (H : Heap) : Prop :=
 pW (.fad 0 (.c t3)) fun t42 =>
 rdW (.ld (.c t42)) H fun t43 =>
 pW (.nilck (.c t2)) fun t45 =>
 pW (.fad 6 (.c t45)) fun t46 =>
 rdW (.ld (.c t46)) H fun t47 =>
 pW (.iad 6 (.c t43) (.c t47)) fun t48 =>
 rdW (.lda 6 (.c t48)) H fun t49 =>
 mkW (.alloc [.int .i64 0, .int .i64 0, .int .i64 0, .int .i64 0, .int .i64 0, .nilsl]) H fun t4 H1 =>
 mW (.st 6 (.c t4) (.c t49)) H1 fun _ H2 =>
 frzW t4 H2 fun t4'1 H3 =>
 pW (.nilck (.c t2)) fun t51 =>
 pW (.fad 6 (.c t51)) fun t52 =>
 rdW (.ld (.c t52)) H3 fun t53 =>
 pW (.bin .add (.c t53) (.c (.int .i64 1))) fun t54 =>
 pW (.nilck (.c t2)) fun t55 =>
 pW (.fad 6 (.c t55)) fun t56 =>
 mW (.st 1 (.c t56) (.c t54)) H3 fun _ H4 =>
 pW (.fad 0 (.c t4'1)) fun t57 =>
 pW (.fad 0 (.c t57)) fun t58 =>
 rdW (.ld (.c t58)) H4 fun t59 =>
 pW (.bin .eql (.c t59) (.c (.int .i64 3))) fun t66 =>
 condW t66
 (pW (.nilck (.c t0)) fun t68 =>
 pW (.fad 3 (.c t68)) fun t69 =>
 rdW (.ld (.c t69)) H4 fun t70 =>
 pW (.bin .eql (.c t70) (.c (.int .i64 0))) fun t71 =>
 condW t71
 (cW E 77 [t0, .int .i64 3, .int .i64 0, .int .i64 0] H4 fun t73 H5 =>
 RetC R (.tup []) H5)
 (atW (m42_1 E R) [t0] H4))
 (pW (.bin .eql (.c t59) (.c (.int .i64 6))) fun t82 =>
 condW t82
 (pW (.nilck (.c t0)) fun t84 =>
 pW (.fad 0 (.c t84)) fun t85 =>
 rdW (.ld (.c t85)) H4 fun t86 =>
 pW (.fad 0 (.c t4'1)) fun t87 =>
 pW (.fad 4 (.c t87)) fun t88 =>
 rdW (.ld (.c t88)) H4 fun t89 =>
 pW (.iad 3 (.c t86) (.c t89)) fun t90 =>
 rdW (.lda 3 (.c t90)) H4 fun t91 =>
 pW (.fad 0 (.c t4'1)) fun t92 =>
 pW (.fad 1 (.c t92)) fun t93 =>
 rdW (.ld (.c t93)) H4 fun t94 =>
 pW (.build [.int .i64 0, .int .i64 0, .nilsl, .nilsl, .nilsl, .int .i64 0, .int .i64 0, .int .i64 0] [(0, 3, .c t91), (7, 1, .c t94)]) fun t95 =>
 mkW (.box (.c t95)) H4 fun t96 H6 =>
 pW (.fad 5 (.c t4'1)) fun t97 =>
 rdW (.ld (.c t97)) H6 fun t98 =>
 pW (.len (.c t98)) fun t99 =>
 loopW (l42_2 E R) [t0, t2, t96, t98, t99, .int .i64 0] H6)
 (pW (.bin .eql (.c t59) (.c (.int .i64 9))) fun t128 =>
 condW t128
 (∀ base, Fresh H4 base →
 pW (.nilck (.c t0)) fun t131 =>
 pW (.fad 5 (.c t131)) fun t132 =>
 pW (.fad 2 (.c t132)) fun t133 =>
 dW (.ld (.c t133)) (base + 5) H4 fun t134 n7 g7 H7 =>
 pW (.fad 0 (.c t4'1)) fun t136 =>
 pW (.fad 1 (.c t136)) fun t137 =>
 dW (.ld (.c t137)) (base + 9) H7 fun t138 n8 g8 H8 =>
 dcallW E (.fn 78 []) [t2, t138] H8 fun t139 n9 g9 H9 =>
 dW (.bsl 1 [.int .i64 0] 1 [(0, .c t139)]) (base + 11) H9 fun t140 n10 g10 H10 =>
 dW (.app 1 (.c t134) (.c t140)) (base + 12) H10 fun t141 n11 g11 H11 =>
 pW (.nilck (.c t0)) fun t142 =>
 pW (.fad 5 (.c t142)) fun t143 =>
 pW (.fad 2 (.c t143)) fun t144 =>
 dW (.st 1 (.c t144) (.c t141)) (base + 16) H11 fun _ n12 g12 H12 =>
 (keysDisj ([], []) (n9, g9) ∧ (keysDisj ([], []) (n9, g9) ∧ (keysDisj ([], []) (n9, g9) ∧ (keysDisj ([], []) (n9, g9) ∧ (keysDisj ([], []) (n9, g9) ∧ (keysDisj (n7, g7) (n9, g9) ∧ (keysDisj (n7, g7) (n10, g10) ∧ True))))))) ∧
 RetC R (.tup []) H12)
 (pW (.bin .eql (.c t59) (.c (.int .i64 34))) fun t146 =>
 condW t146
 (atW (m42_5 E R) [t0, t2, t4'1, t146] H4)
 (pW (.bin .eql (.c t59) (.c (.int .i64 35))) fun t147 =>
 atW (m42_5 E R) [t0, t2, t4'1, t147] H4))))
def m42_0 (E : Env) (R : AHP) : THP := fun V H => w42_0 E R (V 0) (V 1) (V 2) H

/-- (*fulling/vcode.run).step -/
def w42 (E : Env) (R : AHP) (t0 : AV) (H : Heap) : Prop :=
 pW (.nilck (.c t0)) fun t9 =>
 pW (.fad 2 (.c t9)) fun t10 =>
 rdW (.ld (.c t10)) H fun t11 =>
 pW (.nilck (.c t0)) fun t13 =>
 pW (.fad 2 (.c t13)) fun t14 =>
 rdW (.ld (.c t14)) H fun t15 =>
 pW (.len (.c t15)) fun t16 =>
 pW (.bin .sub (.c t16) (.c (.int .i64 1))) fun t17 =>
 pW (.iad 1 (.c t11) (.c t17)) fun t18 =>
 rdW (.ld (.c t18)) H fun t19 =>
 pW (.nilck (.c t19)) fun t21 =>
 pW (.fad 0 (.c t21)) fun t22 =>
 pW (.fad 2 (.c t22)) fun t23 =>
 rdW (.ld (.c t23)) H fun t24 =>
 pW (.nilck (.c t19)) fun t26 =>
 pW (.fad 5 (.c t26)) fun t27 =>
 rdW (.ld (.c t27)) H fun t28 =>
 pW (.iad 5 (.c t24) (.c t28)) fun t29 =>
 rdW (.lda 5 (.c t29)) H fun t30 =>
 mkW (.alloc [.nilsl, .int .i64 0, .int .i64 0, .int .i64 0, .int .i64 0]) H fun t3 H1 =>
 mW (.st 5 (.c t3) (.c t30)) H1 fun _ H2 =>
 frzW t3 H2 fun t3'1 H3 =>
 pW (.nilck (.c t19)) fun t32 =>
 pW (.fad 6 (.c t32)) fun t33 =>
 rdW (.ld (.c t33)) H3 fun t34 =>
 pW (.fad 0 (.c t3'1)) fun t35 =>
 rdW (.ld (.c t35)) H3 fun t36 =>
 pW (.len (.c t36)) fun t37 =>
 pW (.bin .eql (.c t34) (.c t37)) fun t38 =>
 condW t38
 (cW E 76 [t0, t19] H3 fun t41 H4 =>
 RetC R (.tup []) H4)
 (atW (m42_0 E R) [t0, t19, t3'1] H3)

theorem ent42 {E : Env} (hE : E.Good) (hF : E.Fits tab) (t0 : AV) (H : Heap) (R : AHP) (h : w42 E R t0 H) : ACall E 42 [t0] H R :=
 acallW (b := d42) hE hF rfl (Nat.le_of_ble_eq_true rfl) (Eq.mp (by kernel_rfl : w42 E R t0 H = DW E d42 (QF [] R) (vl [t0]) H) h)


/-- fulling/vcode.Valid$1 -/
def w43 (E : Env) (R : AHP) (t0 t1 : AV) (H : Heap) : Prop :=
 pW (.bin .geq (.c t0) (.c (.int .i64 0))) fun t5 =>
 grpW true t5 (fun k1 => pW (.fad 2 (.c t1)) fun t8 =>
 rdW (.ld (.c t8)) H fun t9 =>
 pW (.len (.c t9)) fun t10 =>
 pW (.bin .lss (.c t0) (.c t10)) fun t11 =>
 k1 t11 H) H fun _ t12 =>
 RetC R t12 H

theorem ent43 {E : Env} (hE : E.Good) (hF : E.Fits tab) (t0 t1 : AV) (H : Heap) (R : AHP) (h : w43 E R t0 t1 H) : ACall E 43 [t0, t1] H R :=
 acallW (b := d43) hE hF rfl (Nat.le_of_ble_eq_true rfl) (Eq.mp (by kernel_rfl : w43 E R t0 t1 H = DW E d43 (QF [.tmp 3] R) (vl [t0, t1]) H) h)


/-- fulling/vcode.Valid$2 -/
def w44 (E : Env) (R : AHP) (t0 t1 : AV) (H : Heap) : Prop :=
 pW (.bin .geq (.c t0) (.c (.int .i64 0))) fun t5 =>
 grpW true t5 (fun k1 => pW (.fad 1 (.c t1)) fun t8 =>
 rdW (.ld (.c t8)) H fun t9 =>
 pW (.bin .lss (.c t0) (.c t9)) fun t10 =>
 k1 t10 H) H fun _ t11 =>
 RetC R t11 H

theorem ent44 {E : Env} (hE : E.Good) (hF : E.Fits tab) (t0 t1 : AV) (H : Heap) (R : AHP) (h : w44 E R t0 t1 H) : ACall E 44 [t0, t1] H R :=
 acallW (b := d44) hE hF rfl (Nat.le_of_ble_eq_true rfl) (Eq.mp (by kernel_rfl : w44 E R t0 t1 H = DW E d44 (QF [.tmp 3] R) (vl [t0, t1]) H) h)


end Go.Abs
/- What each function asks, printed by the same program; the kernel finds it equal to the code's own. -/
set_option linter.unusedVariables false
namespace Go.Abs

def w45_2 (E : Env) (R : AHP) (K1 : THP) (t2 t5 t6 t38 t39 t40 : AV) (H : Heap) : Prop :=
 pW (.iad 1 (.c t38) (.c t40)) fun t42 =>
 rdW (.ld (.c t42)) H fun t43 =>
 callW E t6 [t43] H fun t46 H1 =>
 pW (.un .not (.c t46)) fun t47 =>
 condW t47
 (RetC R (.bool false) H1)
 (pW (.bin .add (.c t40) (.c (.int .i64 1))) fun t48 =>
 atW K1 [t2, t5, t6, t38, t39, t48] H1)
def m45_2 (E : Env) (R : AHP) (K1 : THP) : THP := fun V H => w45_2 E R K1 (V 0) (V 1) (V 2) (V 3) (V 4) (V 5) H

def w45_6 (E : Env) (R : AHP) (t2 t5 t127 t148 : AV) (H : Heap) : Prop :=
 condW t148
 (pW (.fad 4 (.c t5)) fun t151 =>
 rdW (.ld (.c t151)) H fun t152 =>
 pW (.bin .geq (.c t152) (.c (.int .i64 0))) fun t153 =>
 grpW true t153 (fun k1 => pW (.fad 4 (.c t5)) fun t155 =>
 rdW (.ld (.c t155)) H fun t156 =>
 pW (.bin .lss (.c t156) (.c (.int .i64 4))) fun t157 =>
 k1 t157 H) H fun _ t158 =>
 RetC R t158 H)
 (pW (.bin .eql (.c t127) (.c (.int .i64 38))) fun t160 =>
 condW t160
 (pW (.fad 4 (.c t5)) fun t161 =>
 rdW (.ld (.c t161)) H fun t162 =>
 pW (.bin .geq (.c t162) (.c (.int .i64 0))) fun t163 =>
 grpW true t163 (fun k2 => pW (.fad 4 (.c t5)) fun t165 =>
 rdW (.ld (.c t165)) H fun t166 =>
 pW (.fad 0 (.c t2)) fun t167 =>
 rdW (.ld (.c t167)) H fun t168 =>
 pW (.bin .lss (.c t166) (.c t168)) fun t169 =>
 k2 t169 H) H fun _ t170 =>
 RetC R t170 H)
 (RetC R (.bool true) H))
def m45_6 (E : Env) (R : AHP) : THP := fun V H => w45_6 E R (V 0) (V 1) (V 2) (V 3) H

def w45_5 (E : Env) (R : AHP) (t2 t5 : AV) (H : Heap) : Prop :=
 pW (.fad 0 (.c t5)) fun t126 =>
 rdW (.ld (.c t126)) H fun t127 =>
 pW (.bin .eql (.c t127) (.c (.int .i64 33))) fun t129 =>
 condW t129
 (pW (.fad 4 (.c t5)) fun t130 =>
 rdW (.ld (.c t130)) H fun t131 =>
 pW (.bin .geq (.c t131) (.c (.int .i64 (-4194304)))) fun t132 =>
 grpW true t132 (fun k1 => pW (.fad 4 (.c t5)) fun t134 =>
 rdW (.ld (.c t134)) H fun t135 =>
 pW (.bin .lss (.c t135) (.c (.int .i64 4194304))) fun t136 =>
 k1 t136 H) H fun _ t137 =>
 RetC R t137 H)
 (pW (.bin .eql (.c t127) (.c (.int .i64 6))) fun t139 =>
 condW t139
 (pW (.fad 4 (.c t5)) fun t140 =>
 rdW (.ld (.c t140)) H fun t141 =>
 pW (.bin .geq (.c t141) (.c (.int .i64 0))) fun t142 =>
 grpW true t142 (fun k2 => pW (.fad 4 (.c t5)) fun t144 =>
 rdW (.ld (.c t144)) H fun t145 =>
 pW (.bin .lss (.c t145) (.c (.int .i64 8))) fun t146 =>
 k2 t146 H) H fun _ t147 =>
 RetC R t147 H)
 (pW (.bin .eql (.c t127) (.c (.int .i64 34))) fun t149 =>
 condW t149
 (atW (m45_6 E R) [t2, t5, t127, t149] H)
 (pW (.bin .eql (.c t127) (.c (.int .i64 35))) fun t150 =>
 atW (m45_6 E R) [t2, t5, t127, t150] H)))
def m45_5 (E : Env) (R : AHP) : THP := fun V H => w45_5 E R (V 0) (V 1) H

def w45_4 (E : Env) (R : AHP) (t2 t5 t6 t9 t10 t11 t12 : AV) (H : Heap) : Prop :=
 grpW true t9 (fun k1 => pW (.fad 1 (.c t5)) fun t65 =>
 rdW (.ld (.c t65)) H fun t66 =>
 callW E t6 [t66] H fun t67 H1 =>
 pW (.un .not (.c t67)) fun t68 =>
 k1 t68 H1) H fun _ t69 =>
 grpW false t69 (fun k2 => grpW true t10 (fun k3 => pW (.fad 2 (.c t5)) fun t74 =>
 rdW (.ld (.c t74)) H fun t75 =>
 callW E t6 [t75] H fun t76 H2 =>
 pW (.un .not (.c t76)) fun t77 =>
 k3 t77 H2) H fun _ t78 =>
 k2 t78 H) H fun _ t79 =>
 grpW false t79 (fun k4 => grpW true t11 (fun k5 => pW (.fad 3 (.c t5)) fun t84 =>
 rdW (.ld (.c t84)) H fun t85 =>
 callW E t6 [t85] H fun t86 H3 =>
 pW (.un .not (.c t86)) fun t87 =>
 k5 t87 H3) H fun _ t88 =>
 k4 t88 H) H fun _ t89 =>
 grpW false t89 (fun k6 => pW (.un .not (.c t9)) fun t92 =>
 grpW true t92 (fun k7 => pW (.fad 1 (.c t5)) fun t94 =>
 rdW (.ld (.c t94)) H fun t95 =>
 pW (.bin .neq (.c t95) (.c (.int .i64 0))) fun t96 =>
 k7 t96 H) H fun _ t97 =>
 k6 t97 H) H fun _ t98 =>
 grpW false t98 (fun k8 => pW (.un .not (.c t10)) fun t101 =>
 grpW true t101 (fun k9 => pW (.fad 2 (.c t5)) fun t103 =>
 rdW (.ld (.c t103)) H fun t104 =>
 pW (.bin .neq (.c t104) (.c (.int .i64 0))) fun t105 =>
 k9 t105 H) H fun _ t106 =>
 k8 t106 H) H fun _ t107 =>
 grpW false t107 (fun k10 => pW (.un .not (.c t11)) fun t110 =>
 grpW true t110 (fun k11 => pW (.fad 3 (.c t5)) fun t112 =>
 rdW (.ld (.c t112)) H fun t113 =>
 pW (.bin .neq (.c t113) (.c (.int .i64 0))) fun t114 =>
 k11 t114 H) H fun _ t115 =>
 k10 t115 H) H fun _ t116 =>
 grpW false t116 (fun k12 => pW (.un .not (.c t12)) fun t119 =>
 grpW true t119 (fun k13 => pW (.fad 4 (.c t5)) fun t121 =>
 rdW (.ld (.c t121)) H fun t122 =>
 pW (.bin .neq (.c t122) (.c (.int .i64 0))) fun t123 =>
 k13 t123 H) H fun _ t124 =>
 k12 t124 H) H fun _ t125 =>
 condW t125
 (RetC R (.bool false) H)
 (atW (m45_5 E R) [t2, t5] H)
def m45_4 (E : Env) (R : AHP) : THP := fun V H => w45_4 E R (V 0) (V 1) (V 2) (V 3) (V 4) (V 5) (V 6) H

def w45_3 (E : Env) (R : AHP) (t2 t5 t6 : AV) (H : Heap) : Prop :=
 pW (.fad 0 (.c t5)) fun t49 =>
 rdW (.ld (.c t49)) H fun t50 =>
 cW E 82 [t50] H fun t51 H1 =>
 pW (.bin .eql (.c t51) (.c (.int .i64 2))) fun t53 =>
 condW t53
 (atW (m45_4 E R) [t2, t5, t6, .bool true, .bool false, .bool false, .bool false] H1)
 (pW (.bin .eql (.c t51) (.c (.int .i64 3))) fun t55 =>
 condW t55
 (atW (m45_4 E R) [t2, t5, t6, .bool true, .bool true, .bool false, .bool false] H1)
 (pW (.bin .eql (.c t51) (.c (.int .i64 4))) fun t57 =>
 condW t57
 (atW (m45_4 E R) [t2, t5, t6, .bool true, .bool true, .bool true, .bool false] H1)
 (pW (.bin .eql (.c t51) (.c (.int .i64 5))) fun t59 =>
 condW t59
 (atW (m45_4 E R) [t2, t5, t6, .bool true, .bool false, .bool false, .bool true] H1)
 (pW (.bin .eql (.c t51) (.c (.int .i64 7))) fun t61 =>
 condW t61
 (atW (m45_4 E R) [t2, t5, t6, .bool true, .bool true, .bool false, .bool true] H1)
 (atW (m45_4 E R) [t2, t5, t6, .bool false, .bool false, .bool false, .bool false] H1)))))
def m45_3 (E : Env) (R : AHP) : THP := fun V H => w45_3 E R (V 0) (V 1) (V 2) H

def w45_1 (E : Env) (R : AHP) (K1 : THP) (t2 t5 t6 t38 t39 t40 : AV) (H : Heap) : Prop :=
 pW (.bin .lss (.c t40) (.c t39)) fun t41 =>
 condW t41
 (atW (m45_2 E R K1) [t2, t5, t6, t38, t39, t40] H)
 (atW (m45_3 E R) [t2, t5, t6] H)
def l45_1 (E : Env) (R : AHP) : THP → THP := fun K1 V H => w45_1 E R K1 (V 0) (V 1) (V 2) (V 3) (V 4) (V 5) H

def w45_0 (E : Env) (R : AHP) (t2 t3 t5 : AV) (H : Heap) : Prop :=
 pW (.fad 5 (.c t3)) fun t37 =>
 rdW (.ld (.c t37)) H fun t38 =>
 pW (.len (.c t38)) fun t39 =>
 loopW (l45_1 E R) [t2, t5, .fn 81 [t2], t38, t39, .int .i64 0] H
def m45_0 (E : Env) (R : AHP) : THP := fun V H => w45_0 E R (V 0) (V 1) (V 2) H

/-- fulling/vcode.validInstr -/
def w45 (E : Env) (R : AHP) (t0 t1 : AV) (H : Heap) : Prop :=
 bxW t0 fun t2 =>
 bxW t1 fun t3 =>
 pW (.fad 0 (.c t3)) fun t13 =>
 rdW (.lda 5 (.c t13)) H fun t14 =>
 alW 5 t14 fun t5 =>
 pW (.fad 0 (.c t5)) fun t15 =>
 rdW (.ld (.c t15)) H fun t16 =>
 cW E 53 [t16] H fun t17 H1 =>
 pW (.un .not (.c t17)) fun t18 =>
 grpW false t18 (fun k1 => pW (.fad 5 (.c t3)) fun t20 =>
 rdW (.ld (.c t20)) H1 fun t21 =>
 pW (.len (.c t21)) fun t22 =>
 pW (.bin .gtr (.c t22) (.c (.int .i64 6))) fun t23 =>
 k1 t23 H1) H1 fun _ t24 =>
 grpW false t24 (fun k2 => pW (.fad 0 (.c t5)) fun t26 =>
 rdW (.ld (.c t26)) H1 fun t27 =>
 pW (.bin .neq (.c t27) (.c (.int .i64 6))) fun t28 =>
 grpW true t28 (fun k3 => pW (.fad 5 (.c t3)) fun t30 =>
 rdW (.ld (.c t30)) H1 fun t31 =>
 pW (.len (.c t31)) fun t32 =>
 pW (.bin .gtr (.c t32) (.c (.int .i64 0))) fun t33 =>
 k3 t33 H1) H1 fun _ t34 =>
 k2 t34 H1) H1 fun _ t35 =>
 condW t35
 (RetC R (.bool false) H1)
 (atW (m45_0 E R) [t2, t3, t5] H1)

theorem ent45 {E : Env} (hE : E.Good) (hF : E.Fits tab) (t0 t1 : AV) (H : Heap) (R : AHP) (h : w45 E R t0 t1 H) : ACall E 45 [t0, t1] H R :=
 acallW (b := d45) hE hF rfl (Nat.le_of_ble_eq_true rfl) (Eq.mp (by kernel_rfl : w45 E R t0 t1 H = DW E d45 (QF [.tmp 4] R) (vl [t0, t1]) H) h)


def w46_4 (E : Env) (R : AHP) (K1 : THP) (t3 t5 t6 t7 t8 t9 : AV) (H : Heap) : Prop :=
 bsW 1 [.int .i64 0] 1 [(0, .int .i64 0)] fun t41 =>
 mkW (.app 1 (.c t3) (.c t41)) H fun t42 H1 =>
 pW (.bin .add (.c t6) (.c (.int .i64 1))) fun t45 =>
 pW (.slice 1 (.c t42) (some (.c t45)) none) fun t46 =>
 pW (.slice 1 (.c t42) (some (.c t6)) none) fun t49 =>
 mW (.cpy 1 (.c t46) (.c t49)) H1 fun t50 H2 =>
 pW (.iad 1 (.c t42) (.c t6)) fun t54 =>
 mW (.st 1 (.c t54) (.c t5)) H2 fun _ H3 =>
 pW (.bin .add (.c t9) (.c (.int .i64 1))) fun t55 =>
 atW K1 [t42, t7, t8, t55] H3
def m46_4 (E : Env) (R : AHP) (K1 : THP) : THP := fun V H => w46_4 E R K1 (V 0) (V 1) (V 2) (V 3) (V 4) (V 5) H

def w46_3 (E : Env) (R : AHP) (K1 : THP) (t3 t5 t6 t7 t8 t9 : AV) (H : Heap) : Prop :=
 pW (.len (.c t3)) fun t30 =>
 pW (.bin .lss (.c t6) (.c t30)) fun t31 =>
 grpW true t31 (fun k1 => pW (.iad 1 (.c t3) (.c t6)) fun t35 =>
 rdW (.ld (.c t35)) H fun t36 =>
 pW (.bin .eql (.c t36) (.c t5)) fun t38 =>
 k1 t38 H) H fun _ t39 =>
 condW t39
 (pW (.bin .add (.c t9) (.c (.int .i64 1))) fun t55 =>
 atW K1 [t3, t7, t8, t55] H)
 (atW (m46_4 E R K1) [t3, t5, t6, t7, t8, t9] H)
def m46_3 (E : Env) (R : AHP) (K1 : THP) : THP := fun V H => w46_3 E R K1 (V 0) (V 1) (V 2) (V 3) (V 4) (V 5) H

def w46_2 (E : Env) (R : AHP) (K1 : THP) (K2 : THP) (t3 t5 t6 t7 t8 t9 : AV) (H : Heap) : Prop :=
 pW (.bin .gtr (.c t6) (.c (.int .i64 0))) fun t16 =>
 grpW true t16 (fun k1 => pW (.bin .sub (.c t6) (.c (.int .i64 1))) fun t20 =>
 pW (.iad 1 (.c t3) (.c t20)) fun t21 =>
 rdW (.ld (.c t21)) H fun t22 =>
 pW (.bin .geq (.c t22) (.c t5)) fun t24 =>
 k1 t24 H) H fun _ t25 =>
 condW t25
 (pW (.bin .sub (.c t6) (.c (.int .i64 1))) fun t27 =>
 atW K2 [t3, t5, t27, t7, t8, t9] H)
 (atW (m46_3 E R K1) [t3, t5, t6, t7, t8, t9] H)
def l46_2 (E : Env) (R : AHP) (K1 : THP) : THP → THP := fun K2 V H => w46_2 E R K1 K2 (V 0) (V 1) (V 2) (V 3) (V 4) (V 5) H

def w46_1 (E : Env) (R : AHP) (K1 : THP) (t3 t7 t8 t9 : AV) (H : Heap) : Prop :=
 pW (.iad 1 (.c t7) (.c t9)) fun t11 =>
 rdW (.ld (.c t11)) H fun t12 =>
 pW (.len (.c t3)) fun t14 =>
 loopW (l46_2 E R K1) [t3, t12, t14, t7, t8, t9] H
def m46_1 (E : Env) (R : AHP) (K1 : THP) : THP := fun V H => w46_1 E R K1 (V 0) (V 1) (V 2) (V 3) H

def w46_0 (E : Env) (R : AHP) (K1 : THP) (t3 t7 t8 t9 : AV) (H : Heap) : Prop :=
 pW (.bin .lss (.c t9) (.c t8)) fun t10 =>
 condW t10
 (atW (m46_1 E R K1) [t3, t7, t8, t9] H)
 (RetC R t3 H)
def l46_0 (E : Env) (R : AHP) : THP → THP := fun K1 V H => w46_0 E R K1 (V 0) (V 1) (V 2) (V 3) H

/-- fulling/vcode.unique -/
def w46 (E : Env) (R : AHP) (t0 : AV) (H : Heap) : Prop :=
 pW (.len (.c t0)) fun t8 =>
 loopW (l46_0 E R) [.nilsl, t0, t8, .int .i64 0] H

theorem ent46 {E : Env} (hE : E.Good) (hF : E.Fits tab) (t0 : AV) (H : Heap) (R : AHP) (h : w46 E R t0 H) : ACall E 46 [t0] H R :=
 acallW (b := d46) hE hF rfl (Nat.le_of_ble_eq_true rfl) (Eq.mp (by kernel_rfl : w46 E R t0 H = DW E d46 (QF [.tmp 2] R) (vl [t0]) H) h)


/-- (*fulling/fullingkeep2.Digits).Next -/
def w47 (E : Env) (R : AHP) (t0 t1 : AV) (H : Heap) : Prop :=
 pW (.nilck (.c t0)) fun t7 =>
 pW (.fad 0 (.c t7)) fun t8 =>
 rdW (.ld (.c t8)) H fun t9 =>
 cW E 19 [t9, t1] H fun t11 H1 =>
 pW (.nilck (.c t0)) fun t14 =>
 pW (.fad 0 (.c t14)) fun t15 =>
 rdW (.ld (.c t15)) H1 fun t16 =>
 pW (.bin .sub (.c t16) (.c t11)) fun t18 =>
 pW (.bin .quo (.c t18) (.c t1)) fun t20 =>
 pW (.nilck (.c t0)) fun t21 =>
 pW (.fad 0 (.c t21)) fun t22 =>
 mW (.st 1 (.c t22) (.c t20)) H1 fun _ H2 =>
 RetC R t11 H2

theorem ent47 {E : Env} (hE : E.Good) (hF : E.Fits tab) (t0 t1 : AV) (H : Heap) (R : AHP) (h : w47 E R t0 t1 H) : ACall E 47 [t0, t1] H R :=
 acallW (b := d47) hE hF rfl (Nat.le_of_ble_eq_true rfl) (Eq.mp (by kernel_rfl : w47 E R t0 t1 H = DW E d47 (QF [.tmp 4] R) (vl [t0, t1]) H) h)


/-- fulling/fullingkeep.Word -/
def w48 (E : Env) (R : AHP) (t0 t1 : AV) (H : Heap) : Prop :=
 bsW 1 [.int .i64 0] 10 [(0, .int .i64 0), (1, .int .i64 1), (2, .int .i64 (-1)), (3, .int .i64 2), (4, .int .i64 (-9223372036854775808)), (5, .int .i64 9223372036854775807), (6, .int .i64 4294967296), (7, .int .i64 (-2147483648)), (8, .int .i64 63), (9, .int .i64 64)] fun t7 =>
 cW E 19 [t0, .int .i64 24] H fun t9 H1 =>
 pW (.bin .lss (.c t9) (.c (.int .i64 10))) fun t12 =>
 condW t12
 (pW (.iad 1 (.c t7) (.c t9)) fun t15 =>
 rdW (.ld (.c t15)) H1 fun t16 =>
 RetC R t16 H1)
 (pW (.bin .lss (.c t9) (.c (.int .i64 22))) fun t19 =>
 condW t19
 (pW (.bin .quo (.c t0) (.c (.int .i64 24))) fun t21 =>
 cW E 19 [t21, .int .i64 17] H1 fun t22 H2 =>
 pW (.bin .sub (.c t22) (.c (.int .i64 6))) fun t23 =>
 RetC R t23 H2)
 (RetC R t1 H1))

theorem ent48 {E : Env} (hE : E.Good) (hF : E.Fits tab) (t0 t1 : AV) (H : Heap) (R : AHP) (h : w48 E R t0 t1 H) : ACall E 48 [t0, t1] H R :=
 acallW (b := d48) hE hF rfl (Nat.le_of_ble_eq_true rfl) (Eq.mp (by kernel_rfl : w48 E R t0 t1 H = DW E d48 (QF [.tmp 4] R) (vl [t0, t1]) H) h)


/-- fulling/fullingref32.validEnd -/
def w49 (E : Env) (R : AHP) (t0 t1 : AV) (H : Heap) : Prop :=
 bxW t0 fun t2 =>
 bxW t1 fun t3 =>
 pW (.fad 2 (.c t3)) fun t9 =>
 rdW (.ld (.c t9)) H fun t10 =>
 pW (.len (.c t10)) fun t11 =>
 pW (.fad 3 (.c t2)) fun t12 =>
 rdW (.ld (.c t12)) H fun t13 =>
 pW (.bin .geq (.c t13) (.c (.int .i64 0))) fun t14 =>
 grpW true t14 (fun k1 => pW (.fad 3 (.c t2)) fun t16 =>
 rdW (.ld (.c t16)) H fun t17 =>
 pW (.bin .lss (.c t17) (.c t11)) fun t19 =>
 k1 t19 H) H fun _ t20 =>
 pW (.fad 4 (.c t2)) fun t21 =>
 rdW (.ld (.c t21)) H fun t22 =>
 pW (.bin .geq (.c t22) (.c (.int .i64 0))) fun t23 =>
 grpW true t23 (fun k2 => pW (.fad 4 (.c t2)) fun t25 =>
 rdW (.ld (.c t25)) H fun t26 =>
 pW (.bin .lss (.c t26) (.c t11)) fun t28 =>
 k2 t28 H) H fun _ t29 =>
 pW (.fad 2 (.c t2)) fun t30 =>
 rdW (.ld (.c t30)) H fun t31 =>
 pW (.bin .geq (.c t31) (.c (.int .i64 0))) fun t32 =>
 grpW true t32 (fun k3 => pW (.fad 2 (.c t2)) fun t34 =>
 rdW (.ld (.c t34)) H fun t35 =>
 pW (.fad 1 (.c t3)) fun t36 =>
 rdW (.ld (.c t36)) H fun t37 =>
 pW (.bin .lss (.c t35) (.c t37)) fun t38 =>
 k3 t38 H) H fun _ t39 =>
 pW (.fad 1 (.c t2)) fun t40 =>
 rdW (.ld (.c t40)) H fun t41 =>
 pW (.bin .eql (.c t41) (.c (.int .i64 1))) fun t43 =>
 condW t43
 (grpW true t20 (fun k4 => pW (.fad 4 (.c t2)) fun t46 =>
 rdW (.ld (.c t46)) H fun t47 =>
 pW (.bin .eql (.c t47) (.c (.int .i64 0))) fun t48 =>
 k4 t48 H) H fun _ t49 =>
 grpW true t49 (fun k5 => pW (.fad 2 (.c t2)) fun t51 =>
 rdW (.ld (.c t51)) H fun t52 =>
 pW (.bin .eql (.c t52) (.c (.int .i64 0))) fun t53 =>
 k5 t53 H) H fun _ t54 =>
 RetC R t54 H)
 (pW (.bin .eql (.c t41) (.c (.int .i64 2))) fun t56 =>
 condW t56
 (grpW true t20 (fun k6 => k6 t29 H) H fun _ t60 =>
 grpW true t60 (fun k7 => k7 t39 H) H fun _ t63 =>
 RetC R t63 H)
 (pW (.bin .eql (.c t41) (.c (.int .i64 3))) fun t65 =>
 condW t65
 (grpW true t39 (fun k8 => pW (.fad 3 (.c t2)) fun t68 =>
 rdW (.ld (.c t68)) H fun t69 =>
 pW (.bin .eql (.c t69) (.c (.int .i64 0))) fun t70 =>
 k8 t70 H) H fun _ t71 =>
 grpW true t71 (fun k9 => pW (.fad 4 (.c t2)) fun t73 =>
 rdW (.ld (.c t73)) H fun t74 =>
 pW (.bin .eql (.c t74) (.c (.int .i64 0))) fun t75 =>
 k9 t75 H) H fun _ t76 =>
 RetC R t76 H)
 (pW (.bin .eql (.c t41) (.c (.int .i64 4))) fun t78 =>
 condW t78
 (pW (.fad 3 (.c t2)) fun t79 =>
 rdW (.ld (.c t79)) H fun t80 =>
 pW (.bin .geq (.c t80) (.c (.int .i64 1))) fun t81 =>
 grpW true t81 (fun k10 => pW (.fad 3 (.c t2)) fun t83 =>
 rdW (.ld (.c t83)) H fun t84 =>
 pW (.bin .lss (.c t84) (.c (.int .i64 33554432))) fun t85 =>
 k10 t85 H) H fun _ t86 =>
 grpW true t86 (fun k11 => pW (.fad 4 (.c t2)) fun t88 =>
 rdW (.ld (.c t88)) H fun t89 =>
 pW (.bin .eql (.c t89) (.c (.int .i64 0))) fun t90 =>
 k11 t90 H) H fun _ t91 =>
 grpW true t91 (fun k12 => pW (.fad 2 (.c t2)) fun t93 =>
 rdW (.ld (.c t93)) H fun t94 =>
 pW (.bin .eql (.c t94) (.c (.int .i64 0))) fun t95 =>
 k12 t95 H) H fun _ t96 =>
 RetC R t96 H)
 (RetC R (.bool false) H))))

theorem ent49 {E : Env} (hE : E.Good) (hF : E.Fits tab) (t0 t1 : AV) (H : Heap) (R : AHP) (h : w49 E R t0 t1 H) : ACall E 49 [t0, t1] H R :=
 acallW (b := d49) hE hF rfl (Nat.le_of_ble_eq_true rfl) (Eq.mp (by kernel_rfl : w49 E R t0 t1 H = DW E d49 (QF [.tmp 4] R) (vl [t0, t1]) H) h)


def w50_2 (E : Env) (R : AHP) (K1 : THP) (t2 t3 t5 t6 : AV) (H : Heap) : Prop :=
 pW (.fad 5 (.c t2)) fun t40 =>
 rdW (.ld (.c t40)) H fun t41 =>
 pW (.iad 1 (.c t41) (.c t6)) fun t43 =>
 rdW (.ld (.c t43)) H fun t44 =>
 pW (.bin .lss (.c t44) (.c (.int .i64 0))) fun t45 =>
 grpW false t45 (fun k1 => pW (.fad 5 (.c t2)) fun t47 =>
 rdW (.ld (.c t47)) H fun t48 =>
 pW (.iad 1 (.c t48) (.c t6)) fun t50 =>
 rdW (.ld (.c t50)) H fun t51 =>
 pW (.fad 1 (.c t3)) fun t52 =>
 rdW (.ld (.c t52)) H fun t53 =>
 pW (.bin .geq (.c t51) (.c t53)) fun t54 =>
 k1 t54 H) H fun _ t55 =>
 condW t55
 (RetC R (.bool false) H)
 (pW (.bin .add (.c t6) (.c (.int .i64 1))) fun t39 =>
 atW K1 [t2, t3, t5, t39] H)
def m50_2 (E : Env) (R : AHP) (K1 : THP) : THP := fun V H => w50_2 E R K1 (V 0) (V 1) (V 2) (V 3) H

def w50_5 (E : Env) (R : AHP) (t3 t5 t99 t122 : AV) (H : Heap) : Prop :=
 condW t122
 (pW (.fad 4 (.c t5)) fun t125 =>
 rdW (.ld (.c t125)) H fun t126 =>
 pW (.bin .geq (.c t126) (.c (.int .i64 0))) fun t127 =>
 grpW true t127 (fun k1 => pW (.fad 4 (.c t5)) fun t129 =>
 rdW (.ld (.c t129)) H fun t130 =>
 pW (.bin .lss (.c t130) (.c (.int .i64 4))) fun t131 =>
 k1 t131 H) H fun _ t132 =>
 RetC R t132 H)
 (pW (.bin .eql (.c t99) (.c (.int .i64 38))) fun t134 =>
 condW t134
 (pW (.fad 4 (.c t5)) fun t135 =>
 rdW (.ld (.c t135)) H fun t136 =>
 pW (.bin .geq (.c t136) (.c (.int .i64 0))) fun t137 =>
 grpW true t137 (fun k2 => pW (.fad 4 (.c t5)) fun t139 =>
 rdW (.ld (.c t139)) H fun t140 =>
 pW (.fad 0 (.c t3)) fun t141 =>
 rdW (.ld (.c t141)) H fun t142 =>
 pW (.bin .lss (.c t140) (.c t142)) fun t143 =>
 k2 t143 H) H fun _ t144 =>
 RetC R t144 H)
 (pW (.fad 4 (.c t5)) fun t145 =>
 rdW (.ld (.c t145)) H fun t146 =>
 pW (.bin .eql (.c t146) (.c (.int .i64 0))) fun t147 =>
 RetC R t147 H))
def m50_5 (E : Env) (R : AHP) : THP := fun V H => w50_5 E R (V 0) (V 1) (V 2) (V 3) H

def w50_4 (E : Env) (R : AHP) (t3 t5 : AV) (H : Heap) : Prop :=
 pW (.fad 0 (.c t5)) fun t98 =>
 rdW (.ld (.c t98)) H fun t99 =>
 pW (.bin .eql (.c t99) (.c (.int .i64 13))) fun t101 =>
 condW t101
 (RetC R (.bool true) H)
 (pW (.bin .eql (.c t99) (.c (.int .i64 33))) fun t103 =>
 condW t103
 (pW (.fad 4 (.c t5)) fun t104 =>
 rdW (.ld (.c t104)) H fun t105 =>
 pW (.bin .geq (.c t105) (.c (.int .i64 (-4194304)))) fun t106 =>
 grpW true t106 (fun k1 => pW (.fad 4 (.c t5)) fun t108 =>
 rdW (.ld (.c t108)) H fun t109 =>
 pW (.bin .lss (.c t109) (.c (.int .i64 4194304))) fun t110 =>
 k1 t110 H) H fun _ t111 =>
 RetC R t111 H)
 (pW (.bin .eql (.c t99) (.c (.int .i64 6))) fun t113 =>
 condW t113
 (pW (.fad 4 (.c t5)) fun t114 =>
 rdW (.ld (.c t114)) H fun t115 =>
 pW (.bin .geq (.c t115) (.c (.int .i64 0))) fun t116 =>
 grpW true t116 (fun k2 => pW (.fad 4 (.c t5)) fun t118 =>
 rdW (.ld (.c t118)) H fun t119 =>
 pW (.bin .lss (.c t119) (.c (.int .i64 8))) fun t120 =>
 k2 t120 H) H fun _ t121 =>
 RetC R t121 H)
 (pW (.bin .eql (.c t99) (.c (.int .i64 34))) fun t123 =>
 condW t123
 (atW (m50_5 E R) [t3, t5, t99, t123] H)
 (pW (.bin .eql (.c t99) (.c (.int .i64 35))) fun t124 =>
 atW (m50_5 E R) [t3, t5, t99, t124] H))))
def m50_4 (E : Env) (R : AHP) : THP := fun V H => w50_4 E R (V 0) (V 1) H

def w50_3 (E : Env) (R : AHP) (t3 t5 : AV) (H : Heap) : Prop :=
 pW (.fad 0 (.c t5)) fun t56 =>
 rdW (.ld (.c t56)) H fun t57 =>
 cW E 56 [t57] H fun t58 H1 =>
 pW (.fld 1 (.c t58)) fun t59 =>
 pW (.bin .neq (.c t59) (.c (.int .i64 1))) fun t61 =>
 pW (.bin .eql (.c t59) (.c (.int .i64 3))) fun t63 =>
 grpW false t63 (fun k1 => pW (.bin .eql (.c t59) (.c (.int .i64 4))) fun t66 =>
 k1 t66 H1) H1 fun _ t67 =>
 grpW false t67 (fun k2 => pW (.bin .eql (.c t59) (.c (.int .i64 7))) fun t70 =>
 k2 t70 H1) H1 fun _ t71 =>
 pW (.fad 1 (.c t5)) fun t73 =>
 rdW (.ld (.c t73)) H1 fun t74 =>
 pW (.fad 1 (.c t3)) fun t75 =>
 rdW (.ld (.c t75)) H1 fun t76 =>
 cW E 83 [t61, t74, t76] H1 fun t77 H2 =>
 pW (.un .not (.c t77)) fun t78 =>
 grpW false t78 (fun k3 => pW (.fad 2 (.c t5)) fun t81 =>
 rdW (.ld (.c t81)) H2 fun t82 =>
 pW (.fad 1 (.c t3)) fun t83 =>
 rdW (.ld (.c t83)) H2 fun t84 =>
 cW E 83 [t71, t82, t84] H2 fun t85 H3 =>
 pW (.un .not (.c t85)) fun t86 =>
 k3 t86 H3) H2 fun _ t87 =>
 grpW false t87 (fun k4 => pW (.bin .eql (.c t59) (.c (.int .i64 4))) fun t90 =>
 pW (.fad 3 (.c t5)) fun t91 =>
 rdW (.ld (.c t91)) H2 fun t92 =>
 pW (.fad 1 (.c t3)) fun t93 =>
 rdW (.ld (.c t93)) H2 fun t94 =>
 cW E 83 [t90, t92, t94] H2 fun t95 H4 =>
 pW (.un .not (.c t95)) fun t96 =>
 k4 t96 H4) H2 fun _ t97 =>
 condW t97
 (RetC R (.bool false) H2)
 (atW (m50_4 E R) [t3, t5] H2)
def m50_3 (E : Env) (R : AHP) : THP := fun V H => w50_3 E R (V 0) (V 1) H

def w50_1 (E : Env) (R : AHP) (K1 : THP) (t2 t3 t5 t6 : AV) (H : Heap) : Prop :=
 pW (.fad 5 (.c t2)) fun t34 =>
 rdW (.ld (.c t34)) H fun t35 =>
 pW (.len (.c t35)) fun t36 =>
 pW (.bin .lss (.c t6) (.c t36)) fun t37 =>
 condW t37
 (atW (m50_2 E R K1) [t2, t3, t5, t6] H)
 (atW (m50_3 E R) [t3, t5] H)
def l50_1 (E : Env) (R : AHP) : THP → THP := fun K1 V H => w50_1 E R K1 (V 0) (V 1) (V 2) (V 3) H

def w50_0 (E : Env) (R : AHP) (t2 t3 t5 : AV) (H : Heap) : Prop :=
 loopW (l50_1 E R) [t2, t3, t5, .int .i64 0] H
def m50_0 (E : Env) (R : AHP) : THP := fun V H => w50_0 E R (V 0) (V 1) (V 2) H

/-- fulling/fullingref32.validInstr -/
def w50 (E : Env) (R : AHP) (t0 t1 : AV) (H : Heap) : Prop :=
 bxW t0 fun t2 =>
 bxW t1 fun t3 =>
 pW (.fad 0 (.c t2)) fun t10 =>
 rdW (.lda 5 (.c t10)) H fun t11 =>
 alW 5 t11 fun t5 =>
 pW (.fad 0 (.c t5)) fun t12 =>
 rdW (.ld (.c t12)) H fun t13 =>
 cW E 55 [t13] H fun t14 H1 =>
 pW (.un .not (.c t14)) fun t15 =>
 grpW false t15 (fun k1 => pW (.fad 0 (.c t5)) fun t17 =>
 rdW (.ld (.c t17)) H1 fun t18 =>
 pW (.bin .neq (.c t18) (.c (.int .i64 6))) fun t19 =>
 grpW true t19 (fun k2 => pW (.fad 5 (.c t2)) fun t21 =>
 rdW (.ld (.c t21)) H1 fun t22 =>
 pW (.len (.c t22)) fun t23 =>
 pW (.bin .gtr (.c t23) (.c (.int .i64 0))) fun t24 =>
 k2 t24 H1) H1 fun _ t25 =>
 k1 t25 H1) H1 fun _ t26 =>
 grpW false t26 (fun k3 => pW (.fad 5 (.c t2)) fun t28 =>
 rdW (.ld (.c t28)) H1 fun t29 =>
 pW (.len (.c t29)) fun t30 =>
 pW (.bin .gtr (.c t30) (.c (.int .i64 6))) fun t31 =>
 k3 t31 H1) H1 fun _ t32 =>
 condW t32
 (RetC R (.bool false) H1)
 (atW (m50_0 E R) [t2, t3, t5] H1)

theorem ent50 {E : Env} (hE : E.Good) (hF : E.Fits tab) (t0 t1 : AV) (H : Heap) (R : AHP) (h : w50 E R t0 t1 H) : ACall E 50 [t0, t1] H R :=
 acallW (b := d50) hE hF rfl (Nat.le_of_ble_eq_true rfl) (Eq.mp (by kernel_rfl : w50 E R t0 t1 H = DW E d50 (QF [.tmp 4] R) (vl [t0, t1]) H) h)


def w51_3 (E : Env) (R : AHP) (K1 : THP) (K2 : THP) (t0 t2 t7 t8 t9 t10 t11 : AV) (H : Heap) : Prop :=
 cW E 84 [t0] H fun t61 H1 =>
 condW t61
 (pW (.fad 0 (.c t10)) fun t63 =>
 rdW (.ld (.c t63)) H1 fun t64 =>
 pW (.iad 6 (.c t64) (.c t11)) fun t66 =>
 rdW (.lda 6 (.c t66)) H1 fun t67 =>
 cW E 85 [t0, t67, t8, t2] H1 fun t70 H2 =>
 pW (.bin .add (.c t11) (.c (.int .i64 1))) fun t59 =>
 atW K2 [t0, t2, t7, t8, t9, t10, t59] H2)
 (pW (.bin .add (.c t11) (.c (.int .i64 1))) fun t59'1 =>
 atW K2 [t0, t2, t7, t8, t9, t10, t59'1] H1)
def m51_3 (E : Env) (R : AHP) (K1 : THP) (K2 : THP) : THP := fun V H => w51_3 E R K1 K2 (V 0) (V 1) (V 2) (V 3) (V 4) (V 5) (V 6) H

def w51_5 (E : Env) (R : AHP) (K1 : THP) (t0 t2 t7 t8 t9 t10 : AV) (H : Heap) : Prop :=
 pW (.fad 1 (.c t10)) fun t86 =>
 rdW (.ld (.c t86)) H fun t87 =>
 pW (.bin .eql (.c t87) (.c (.int .i64 1))) fun t93 =>
 condW t93
 (pW (.fad 3 (.c t10)) fun t94 =>
 rdW (.ld (.c t94)) H fun t95 =>
 atW K1 [t0, t2, t7, t8, t95] H)
 (pW (.bin .eql (.c t87) (.c (.int .i64 2))) fun t97 =>
 condW t97
 (pW (.fad 4 (.c t10)) fun t98 =>
 rdW (.ld (.c t98)) H fun t99 =>
 pW (.fad 2 (.c t10)) fun t101 =>
 rdW (.ld (.c t101)) H fun t102 =>
 pW (.iad 1 (.c t8) (.c t102)) fun t103 =>
 rdW (.ld (.c t103)) H fun t104 =>
 pW (.bin .neq (.c t104) (.c (.int .i64 0))) fun t105 =>
 condW t105
 (pW (.fad 3 (.c t10)) fun t106 =>
 rdW (.ld (.c t106)) H fun t107 =>
 atW K1 [t0, t2, t7, t8, t107] H)
 (atW K1 [t0, t2, t7, t8, t99] H))
 (pW (.bin .eql (.c t87) (.c (.int .i64 3))) fun t109 =>
 condW t109
 (pW (.fad 2 (.c t10)) fun t111 =>
 rdW (.ld (.c t111)) H fun t112 =>
 pW (.iad 1 (.c t8) (.c t112)) fun t113 =>
 rdW (.ld (.c t113)) H fun t114 =>
 RetC R t114 H)
 (pW (.fad 3 (.c t10)) fun t89 =>
 rdW (.ld (.c t89)) H fun t90 =>
 cW E 86 [t0, .int .i64 2, t90] H fun t91 H1 =>
 atW K1 [t0, t2, t7, t8, t9] H1)))
def m51_5 (E : Env) (R : AHP) (K1 : THP) : THP := fun V H => w51_5 E R K1 (V 0) (V 1) (V 2) (V 3) (V 4) (V 5) H

def w51_4 (E : Env) (R : AHP) (K1 : THP) (t0 t2 t7 t8 t9 t10 : AV) (H : Heap) : Prop :=
 pW (.nilck (.c t0)) fun t72 =>
 pW (.fad 9 (.c t72)) fun t73 =>
 rdW (.ld (.c t73)) H fun t74 =>
 grpW false t74 (fun k1 => pW (.nilck (.c t0)) fun t77 =>
 pW (.fad 10 (.c t77)) fun t78 =>
 rdW (.ld (.c t78)) H fun t79 =>
 k1 t79 H) H fun _ t80 =>
 gdW false t80 (fun k2 => pW (.mov (.c t0)) fun v => k2 v H) H fun t82 H1 =>
 gdW false t80 (fun k3 => cW E 84 [t82] H1 k3) H1 fun t83 H2 =>
 grpW false t80 (fun k4 => pW (.un .not (.c t83)) fun t84 =>
 k4 t84 H2) H2 fun _ t85 =>
 condW t85
 (RetC R (.int .i64 0) H2)
 (atW (m51_5 E R K1) [t0, t2, t7, t8, t9, t10] H2)
def m51_4 (E : Env) (R : AHP) (K1 : THP) : THP := fun V H => w51_4 E R K1 (V 0) (V 1) (V 2) (V 3) (V 4) (V 5) H

def w51_2 (E : Env) (R : AHP) (K1 : THP) (K2 : THP) (t0 t2 t7 t8 t9 t10 t11 : AV) (H : Heap) : Prop :=
 pW (.fad 0 (.c t10)) fun t40 =>
 rdW (.ld (.c t40)) H fun t41 =>
 pW (.len (.c t41)) fun t42 =>
 pW (.bin .lss (.c t11) (.c t42)) fun t43 =>
 grpW true t43 (fun k1 => pW (.nilck (.c t0)) fun t46 =>
 pW (.fad 9 (.c t46)) fun t47 =>
 rdW (.ld (.c t47)) H fun t48 =>
 pW (.un .not (.c t48)) fun t49 =>
 k1 t49 H) H fun _ t50 =>
 grpW true t50 (fun k2 => pW (.nilck (.c t0)) fun t53 =>
 pW (.fad 10 (.c t53)) fun t54 =>
 rdW (.ld (.c t54)) H fun t55 =>
 pW (.un .not (.c t55)) fun t56 =>
 k2 t56 H) H fun _ t57 =>
 condW t57
 (atW (m51_3 E R K1 K2) [t0, t2, t7, t8, t9, t10, t11] H)
 (atW (m51_4 E R K1) [t0, t2, t7, t8, t9, t10] H)
def l51_2 (E : Env) (R : AHP) (K1 : THP) : THP → THP := fun K2 V H => w51_2 E R K1 K2 (V 0) (V 1) (V 2) (V 3) (V 4) (V 5) (V 6) H

def w51_1 (E : Env) (R : AHP) (K1 : THP) (t0 t2 t7 t8 t9 : AV) (H : Heap) : Prop :=
 pW (.fad 2 (.c t7)) fun t34 =>
 rdW (.ld (.c t34)) H fun t35 =>
 pW (.iad 5 (.c t35) (.c t9)) fun t37 =>
 rdW (.lda 5 (.c t37)) H fun t38 =>
 alW 5 t38 fun t10 =>
 loopW (l51_2 E R K1) [t0, t2, t7, t8, t9, t10, .int .i64 0] H
def m51_1 (E : Env) (R : AHP) (K1 : THP) : THP := fun V H => w51_1 E R K1 (V 0) (V 1) (V 2) (V 3) (V 4) H

def w51_0 (E : Env) (R : AHP) (K1 : THP) (t0 t2 t7 t8 t9 : AV) (H : Heap) : Prop :=
 pW (.nilck (.c t0)) fun t23 =>
 pW (.fad 9 (.c t23)) fun t24 =>
 rdW (.ld (.c t24)) H fun t25 =>
 pW (.un .not (.c t25)) fun t26 =>
 grpW true t26 (fun k1 => pW (.nilck (.c t0)) fun t29 =>
 pW (.fad 10 (.c t29)) fun t30 =>
 rdW (.ld (.c t30)) H fun t31 =>
 pW (.un .not (.c t31)) fun t32 =>
 k1 t32 H) H fun _ t33 =>
 condW t33
 (atW (m51_1 E R K1) [t0, t2, t7, t8, t9] H)
 (RetC R (.int .i64 0) H)
def l51_0 (E : Env) (R : AHP) : THP → THP := fun K1 V H => w51_0 E R K1 (V 0) (V 1) (V 2) (V 3) (V 4) H

/-- (*fulling/fullingref32.interpreter).call -/
def w51 (E : Env) (R : AHP) (t0 t1 t2 : AV) (H : Heap) : Prop :=
 pW (.nilck (.c t0)) fun t13 =>
 pW (.fad 0 (.c t13)) fun t14 =>
 rdW (.ld (.c t14)) H fun t15 =>
 pW (.iad 3 (.c t15) (.c t1)) fun t17 =>
 rdW (.lda 3 (.c t17)) H fun t18 =>
 alW 3 t18 fun t7 =>
 pW (.fad 1 (.c t7)) fun t19 =>
 rdW (.ld (.c t19)) H fun t20 =>
 mkW (.mksl 1 8 [.int .i64 0] (.c t20) (.c t20)) H fun t21 H1 =>
 loopW (l51_0 E R) [t0, t2, t7, t21, .int .i64 0] H1

theorem ent51 {E : Env} (hE : E.Good) (hF : E.Fits tab) (t0 t1 t2 : AV) (H : Heap) (R : AHP) (h : w51 E R t0 t1 t2 H) : ACall E 51 [t0, t1, t2] H R :=
 acallW (b := d51) hE hF rfl (Nat.le_of_ble_eq_true rfl) (Eq.mp (by kernel_rfl : w51 E R t0 t1 t2 H = DW E d51 (QF [.tmp 6] R) (vl [t0, t1, t2]) H) h)


def w52_1 (E : Env) (R : AHP) (t0 t2 t5 : AV) (H : Heap) : Prop :=
 pW (.bin .eql (.c t0) (.c (.int .i64 11))) fun t23 =>
 grpW false t23 (fun k1 => pW (.bin .eql (.c t0) (.c (.int .i64 12))) fun t26 =>
 k1 t26 H) H fun _ t27 =>
 pW (.bin .eql (.c t0) (.c (.int .i64 15))) fun t29 =>
 grpW false t29 (fun k2 => pW (.bin .eql (.c t0) (.c (.int .i64 16))) fun t32 =>
 k2 t32 H) H fun _ t33 =>
 grpW false t27 (fun k3 => k3 t33 H) H fun _ t37 =>
 grpW false t37 (fun k4 => cW E 88 [t0] H fun t40 H1 =>
 k4 t40 H1) H fun _ t41 =>
 grpW false t41 (fun k5 => pW (.bin .eql (.c t0) (.c (.int .i64 7))) fun t44 =>
 k5 t44 H) H fun _ t45 =>
 grpW false t45 (fun k6 => pW (.bin .eql (.c t0) (.c (.int .i64 8))) fun t48 =>
 k6 t48 H) H fun _ t49 =>
 grpW false t49 (fun k7 => pW (.bin .eql (.c t0) (.c (.int .i64 9))) fun t52 =>
 k7 t52 H) H fun _ t53 =>
 grpW false t53 (fun k8 => pW (.bin .eql (.c t0) (.c (.int .i64 33))) fun t56 =>
 k8 t56 H) H fun _ t57 =>
 grpW false t57 (fun k9 => pW (.bin .eql (.c t0) (.c (.int .i64 35))) fun t60 =>
 k9 t60 H) H fun _ t61 =>
 grpW false t61 (fun k10 => pW (.bin .eql (.c t0) (.c (.int .i64 37))) fun t64 =>
 k10 t64 H) H fun _ t65 =>
 pW (.fad 2 (.c t5)) fun t66 =>
 mW (.st 1 (.c t66) (.c t65)) H fun _ H2 =>
 grpW false t27 (fun k11 => k11 t33 H2) H2 fun _ t70 =>
 grpW false t70 (fun k12 => cW E 88 [t0] H2 fun t73 H3 =>
 k12 t73 H3) H2 fun _ t74 =>
 grpW false t74 (fun k13 => pW (.bin .eql (.c t0) (.c (.int .i64 10))) fun t77 =>
 k13 t77 H2) H2 fun _ t78 =>
 grpW false t78 (fun k14 => pW (.bin .eql (.c t0) (.c (.int .i64 13))) fun t81 =>
 k14 t81 H2) H2 fun _ t82 =>
 grpW false t82 (fun k15 => pW (.bin .eql (.c t0) (.c (.int .i64 14))) fun t85 =>
 k15 t85 H2) H2 fun _ t86 =>
 grpW false t86 (fun k16 => pW (.bin .eql (.c t0) (.c (.int .i64 33))) fun t89 =>
 k16 t89 H2) H2 fun _ t90 =>
 grpW false t90 (fun k17 => pW (.bin .eql (.c t0) (.c (.int .i64 34))) fun t93 =>
 k17 t93 H2) H2 fun _ t94 =>
 grpW false t94 (fun k18 => pW (.bin .eql (.c t0) (.c (.int .i64 36))) fun t97 =>
 k18 t97 H2) H2 fun _ t98 =>
 pW (.fad 3 (.c t5)) fun t99 =>
 mW (.st 1 (.c t99) (.c t98)) H2 fun _ H4 =>
 grpW false t27 (fun k19 => cW E 88 [t0] H4 fun t103 H5 =>
 k19 t103 H5) H4 fun _ t104 =>
 grpW false t104 (fun k20 => pW (.bin .eql (.c t0) (.c (.int .i64 10))) fun t107 =>
 k20 t107 H4) H4 fun _ t108 =>
 grpW false t108 (fun k21 => pW (.bin .eql (.c t0) (.c (.int .i64 34))) fun t111 =>
 k21 t111 H4) H4 fun _ t112 =>
 grpW false t112 (fun k22 => pW (.bin .eql (.c t0) (.c (.int .i64 35))) fun t115 =>
 k22 t115 H4) H4 fun _ t116 =>
 pW (.fad 4 (.c t5)) fun t117 =>
 mW (.st 1 (.c t117) (.c t116)) H4 fun _ H6 =>
 pW (.bin .eql (.c t0) (.c (.int .i64 4))) fun t119 =>
 grpW false t119 (fun k23 => pW (.bin .eql (.c t0) (.c (.int .i64 20))) fun t122 =>
 k23 t122 H6) H6 fun _ t123 =>
 grpW false t123 (fun k24 => pW (.bin .eql (.c t0) (.c (.int .i64 21))) fun t126 =>
 k24 t126 H6) H6 fun _ t127 =>
 grpW false t127 (fun k25 => pW (.bin .eql (.c t0) (.c (.int .i64 34))) fun t130 =>
 k25 t130 H6) H6 fun _ t131 =>
 grpW false t131 (fun k26 => pW (.bin .eql (.c t0) (.c (.int .i64 35))) fun t134 =>
 k26 t134 H6) H6 fun _ t135 =>
 pW (.fad 5 (.c t5)) fun t136 =>
 mW (.st 1 (.c t136) (.c t135)) H6 fun _ H7 =>
 rdW (.lda 7 (.c t5)) H7 fun t137 =>
 mW (.st 7 (.c t2) (.c t137)) H7 fun _ H8 =>
 rdW (.lda 7 (.c t2)) H8 fun r2 =>
 RetC R (.tup [r2, .bool true]) H8
def m52_1 (E : Env) (R : AHP) : THP := fun V H => w52_1 E R (V 0) (V 1) (V 2) H

def w52_0 (E : Env) (R : AHP) (t0 t2 t4 : AV) (H : Heap) : Prop :=
 cW E 87 [] H fun t13 H1 =>
 pW (.iad 1 (.c t13) (.c t0)) fun t15 =>
 rdW (.ld (.c t15)) H1 fun t16 =>
 pW (.build [.str ⟨#[]⟩, .int .i64 0, .bool false, .bool false, .bool false, .bool false, .int .i64 0] [(0, 1, .c t16), (1, 1, .c t4), (6, 1, .c (.int .i64 1))]) fun t18 =>
 mkW (.alloc [.str ⟨#[]⟩, .int .i64 0, .bool false, .bool false, .bool false, .bool false, .int .i64 0]) H1 fun t5 H2 =>
 mW (.st 7 (.c t5) (.c t18)) H2 fun _ H3 =>
 pW (.bin .eql (.c t0) (.c (.int .i64 14))) fun t20 =>
 condW t20
 (pW (.fad 6 (.c t5)) fun t21 =>
 mW (.st 1 (.c t21) (.c (.int .i64 3))) H3 fun _ H4 =>
 atW (m52_1 E R) [t0, t2, t5] H4)
 (atW (m52_1 E R) [t0, t2, t5] H3)
def m52_0 (E : Env) (R : AHP) : THP := fun V H => w52_0 E R (V 0) (V 1) (V 2) H

/-- fulling/fullingref29.Info -/
def w52 (E : Env) (R : AHP) (t0 : AV) (H : Heap) : Prop :=
 mkW (.alloc [.str ⟨#[]⟩, .int .i64 0, .bool false, .bool false, .bool false, .bool false, .int .i64 0]) H fun t2 H1 =>
 cW E 63 [t0] H1 fun t9 H2 =>
 pW (.bin .eql (.c t9) (.c (.int .i64 0))) fun t11 =>
 condW t11
 (pW (.build [.str ⟨#[]⟩, .int .i64 0, .bool false, .bool false, .bool false, .bool false, .int .i64 0] []) fun t12 =>
 mW (.st 7 (.c t2) (.c t12)) H2 fun _ H3 =>
 rdW (.lda 7 (.c t2)) H3 fun r1 =>
 RetC R (.tup [r1, .bool false]) H3)
 (atW (m52_0 E R) [t0, t2, t9] H2)

theorem ent52 {E : Env} (hE : E.Good) (hF : E.Fits tab) (t0 : AV) (H : Heap) (R : AHP) (h : w52 E R t0 H) : ACall E 52 [t0] H R :=
 acallW (b := d52) hE hF rfl (Nat.le_of_ble_eq_true rfl) (Eq.mp (by kernel_rfl : w52 E R t0 H = DW E d52 (QF [.lda 7 2, .tmp 3] R) (vl [t0]) H) h)


def w53_0 (E : Env) (R : AHP) (t0 : AV) (H : Heap) : Prop :=
 pW (.bin .geq (.c t0) (.c (.int .i64 15))) fun t17 =>
 grpW true t17 (fun k1 => pW (.bin .leq (.c t0) (.c (.int .i64 32))) fun t20 =>
 k1 t20 H) H fun _ t21 =>
 RetC R t21 H
def m53_0 (E : Env) (R : AHP) : THP := fun V H => w53_0 E R (V 0) H

/-- fulling/vcode.allowed -/
def w53 (E : Env) (R : AHP) (t0 : AV) (H : Heap) : Prop :=
 pW (.bin .eql (.c t0) (.c (.int .i64 3))) fun t5 =>
 condW t5
 (condW t5
 (RetC R (.bool true) H)
 (atW (m53_0 E R) [t0] H))
 (pW (.bin .eql (.c t0) (.c (.int .i64 6))) fun t6 =>
 condW t6
 (condW t6
 (RetC R (.bool true) H)
 (atW (m53_0 E R) [t0] H))
 (pW (.bin .eql (.c t0) (.c (.int .i64 9))) fun t7 =>
 condW t7
 (condW t7
 (RetC R (.bool true) H)
 (atW (m53_0 E R) [t0] H))
 (pW (.bin .eql (.c t0) (.c (.int .i64 10))) fun t8 =>
 condW t8
 (condW t8
 (RetC R (.bool true) H)
 (atW (m53_0 E R) [t0] H))
 (pW (.bin .eql (.c t0) (.c (.int .i64 11))) fun t9 =>
 condW t9
 (condW t9
 (RetC R (.bool true) H)
 (atW (m53_0 E R) [t0] H))
 (pW (.bin .eql (.c t0) (.c (.int .i64 12))) fun t10 =>
 condW t10
 (condW t10
 (RetC R (.bool true) H)
 (atW (m53_0 E R) [t0] H))
 (pW (.bin .eql (.c t0) (.c (.int .i64 13))) fun t11 =>
 condW t11
 (condW t11
 (RetC R (.bool true) H)
 (atW (m53_0 E R) [t0] H))
 (pW (.bin .eql (.c t0) (.c (.int .i64 33))) fun t12 =>
 condW t12
 (condW t12
 (RetC R (.bool true) H)
 (atW (m53_0 E R) [t0] H))
 (pW (.bin .eql (.c t0) (.c (.int .i64 34))) fun t13 =>
 condW t13
 (condW t13
 (RetC R (.bool true) H)
 (atW (m53_0 E R) [t0] H))
 (pW (.bin .eql (.c t0) (.c (.int .i64 35))) fun t14 =>
 condW t14
 (condW t14
 (RetC R (.bool true) H)
 (atW (m53_0 E R) [t0] H))
 (pW (.bin .eql (.c t0) (.c (.int .i64 38))) fun t15 =>
 condW t15
 (RetC R (.bool true) H)
 (atW (m53_0 E R) [t0] H)))))))))))

theorem ent53 {E : Env} (hE : E.Good) (hF : E.Fits tab) (t0 : AV) (H : Heap) (R : AHP) (h : w53 E R t0 H) : ACall E 53 [t0] H R :=
 acallW (b := d53) hE hF rfl (Nat.le_of_ble_eq_true rfl) (Eq.mp (by kernel_rfl : w53 E R t0 H = DW E d53 (QF [.tmp 2] R) (vl [t0]) H) h)


def w54_0 (E : Env) (R : AHP) (t0 t2 : AV) (H : Heap) : Prop :=
 rdW (.ld (.c tableAV)) H fun t11 =>
 pW (.bin .sub (.c t0) (.c (.int .i64 1))) fun t13 =>
 pW (.iad 7 (.c t11) (.c t13)) fun t14 =>
 rdW (.lda 7 (.c t14)) H fun t15 =>
 mW (.st 7 (.c t2) (.c t15)) H fun _ H1 =>
 rdW (.lda 7 (.c t2)) H1 fun r2 =>
 RetC R (.tup [r2, .bool true]) H1
def m54_0 (E : Env) (R : AHP) : THP := fun V H => w54_0 E R (V 0) (V 1) H

/-- fulling/machine.Info -/
def w54 (E : Env) (R : AHP) (t0 : AV) (H : Heap) : Prop :=
 mkW (.alloc [.str ⟨#[]⟩, .int .i64 0, .bool false, .bool false, .bool false, .bool false, .int .i64 0]) H fun t2 H1 =>
 pW (.bin .lss (.c t0) (.c (.int .i64 1))) fun t5 =>
 grpW false t5 (fun k1 => pW (.bin .gtr (.c t0) (.c (.int .i64 37))) fun t8 =>
 k1 t8 H1) H1 fun _ t9 =>
 condW t9
 (pW (.build [.str ⟨#[]⟩, .int .i64 0, .bool false, .bool false, .bool false, .bool false, .int .i64 0] []) fun t10 =>
 mW (.st 7 (.c t2) (.c t10)) H1 fun _ H2 =>
 rdW (.lda 7 (.c t2)) H2 fun r1 =>
 RetC R (.tup [r1, .bool false]) H2)
 (atW (m54_0 E R) [t0, t2] H1)

theorem ent54 {E : Env} (hE : E.Good) (hF : E.Fits tab) (t0 : AV) (H : Heap) (R : AHP) (h : w54 E R t0 H) : ACall E 54 [t0] H R :=
 acallW (b := d54) hE hF rfl (Nat.le_of_ble_eq_true rfl) (Eq.mp (by kernel_rfl : w54 E R t0 H = DW E d54 (QF [.lda 7 2, .tmp 3] R) (vl [t0]) H) h)


def w55_0 (E : Env) (R : AHP) (t0 : AV) (H : Heap) : Prop :=
 pW (.bin .geq (.c t0) (.c (.int .i64 15))) fun t17 =>
 grpW true t17 (fun k1 => pW (.bin .leq (.c t0) (.c (.int .i64 32))) fun t20 =>
 k1 t20 H) H fun _ t21 =>
 RetC R t21 H
def m55_0 (E : Env) (R : AHP) : THP := fun V H => w55_0 E R (V 0) H

/-- fulling/fullingref32.allowed -/
def w55 (E : Env) (R : AHP) (t0 : AV) (H : Heap) : Prop :=
 pW (.bin .eql (.c t0) (.c (.int .i64 3))) fun t5 =>
 condW t5
 (condW t5
 (RetC R (.bool true) H)
 (atW (m55_0 E R) [t0] H))
 (pW (.bin .eql (.c t0) (.c (.int .i64 6))) fun t6 =>
 condW t6
 (condW t6
 (RetC R (.bool true) H)
 (atW (m55_0 E R) [t0] H))
 (pW (.bin .eql (.c t0) (.c (.int .i64 9))) fun t7 =>
 condW t7
 (condW t7
 (RetC R (.bool true) H)
 (atW (m55_0 E R) [t0] H))
 (pW (.bin .eql (.c t0) (.c (.int .i64 10))) fun t8 =>
 condW t8
 (condW t8
 (RetC R (.bool true) H)
 (atW (m55_0 E R) [t0] H))
 (pW (.bin .eql (.c t0) (.c (.int .i64 11))) fun t9 =>
 condW t9
 (condW t9
 (RetC R (.bool true) H)
 (atW (m55_0 E R) [t0] H))
 (pW (.bin .eql (.c t0) (.c (.int .i64 12))) fun t10 =>
 condW t10
 (condW t10
 (RetC R (.bool true) H)
 (atW (m55_0 E R) [t0] H))
 (pW (.bin .eql (.c t0) (.c (.int .i64 13))) fun t11 =>
 condW t11
 (condW t11
 (RetC R (.bool true) H)
 (atW (m55_0 E R) [t0] H))
 (pW (.bin .eql (.c t0) (.c (.int .i64 33))) fun t12 =>
 condW t12
 (condW t12
 (RetC R (.bool true) H)
 (atW (m55_0 E R) [t0] H))
 (pW (.bin .eql (.c t0) (.c (.int .i64 34))) fun t13 =>
 condW t13
 (condW t13
 (RetC R (.bool true) H)
 (atW (m55_0 E R) [t0] H))
 (pW (.bin .eql (.c t0) (.c (.int .i64 35))) fun t14 =>
 condW t14
 (condW t14
 (RetC R (.bool true) H)
 (atW (m55_0 E R) [t0] H))
 (pW (.bin .eql (.c t0) (.c (.int .i64 38))) fun t15 =>
 condW t15
 (RetC R (.bool true) H)
 (atW (m55_0 E R) [t0] H)))))))))))

theorem ent55 {E : Env} (hE : E.Good) (hF : E.Fits tab) (t0 : AV) (H : Heap) (R : AHP) (h : w55 E R t0 H) : ACall E 55 [t0] H R :=
 acallW (b := d55) hE hF rfl (Nat.le_of_ble_eq_true rfl) (Eq.mp (by kernel_rfl : w55 E R t0 H = DW E d55 (QF [.tmp 2] R) (vl [t0]) H) h)


def w56_0 (E : Env) (R : AHP) (t0 t2 : AV) (H : Heap) : Prop :=
 cW E 52 [t0] H fun t10 H1 =>
 pW (.ext (.c t10) 0) fun t11 =>
 pW (.ext (.c t10) 1) fun t12 =>
 alW 7 t11 fun t3 =>
 rdW (.lda 7 (.c t3)) H1 fun t13 =>
 mW (.st 7 (.c t2) (.c t13)) H1 fun _ H2 =>
 rdW (.lda 7 (.c t2)) H2 fun r2 =>
 RetC R r2 H2
def m56_0 (E : Env) (R : AHP) : THP := fun V H => w56_0 E R (V 0) (V 1) H

/-- fulling/fullingref32.info -/
def w56 (E : Env) (R : AHP) (t0 : AV) (H : Heap) : Prop :=
 mkW (.alloc [.str ⟨#[]⟩, .int .i64 0, .bool false, .bool false, .bool false, .bool false, .int .i64 0]) H fun t2 H1 =>
 pW (.bin .eql (.c t0) (.c (.int .i64 38))) fun t6 =>
 condW t6
 (pW (.build [.str ⟨#[]⟩, .int .i64 0, .bool false, .bool false, .bool false, .bool false, .int .i64 0] [(1, 1, .c (.int .i64 5)), (3, 1, .c (.bool true))]) fun t7 =>
 mW (.st 7 (.c t2) (.c t7)) H1 fun _ H2 =>
 rdW (.lda 7 (.c t2)) H2 fun r1 =>
 RetC R r1 H2)
 (atW (m56_0 E R) [t0, t2] H1)

theorem ent56 {E : Env} (hE : E.Good) (hF : E.Fits tab) (t0 : AV) (H : Heap) (R : AHP) (h : w56 E R t0 H) : ACall E 56 [t0] H R :=
 acallW (b := d56) hE hF rfl (Nat.le_of_ble_eq_true rfl) (Eq.mp (by kernel_rfl : w56 E R t0 H = DW E d56 (QF [.lda 7 2] R) (vl [t0]) H) h)


def w63_5 (E : Env) (R : AHP) (t0 : AV) (H : Heap) : Prop :=
 pW (.bin .eql (.c t0) (.c (.int .i64 10))) fun t32 =>
 grpW false t32 (fun k1 => cW E 88 [t0] H fun t35 H1 =>
 k1 t35 H1) H fun _ t36 =>
 condW t36
 (RetC R (.int .i64 3) H)
 (RetC R (.int .i64 0) H)
def m63_5 (E : Env) (R : AHP) : THP := fun V H => w63_5 E R (V 0) H

def w63_4 (E : Env) (R : AHP) (t0 t3 t23 : AV) (H : Heap) : Prop :=
 condW t23
 (RetC R (.int .i64 4) H)
 (pW (.bin .eql (.c t3) (.c (.int .i64 14))) fun t27 =>
 condW t27
 (RetC R (.int .i64 6) H)
 (pW (.bin .eql (.c t3) (.c (.int .i64 34))) fun t29 =>
 condW t29
 (condW t29
 (RetC R (.int .i64 7) H)
 (atW (m63_5 E R) [t0] H))
 (pW (.bin .eql (.c t3) (.c (.int .i64 35))) fun t30 =>
 condW t30
 (RetC R (.int .i64 7) H)
 (atW (m63_5 E R) [t0] H))))
def m63_4 (E : Env) (R : AHP) : THP := fun V H => w63_4 E R (V 0) (V 1) (V 2) H

def w63_3 (E : Env) (R : AHP) (t0 t3 t19 : AV) (H : Heap) : Prop :=
 condW t19
 (RetC R (.int .i64 2) H)
 (pW (.bin .eql (.c t3) (.c (.int .i64 11))) fun t24 =>
 condW t24
 (atW (m63_4 E R) [t0, t3, t24] H)
 (pW (.bin .eql (.c t3) (.c (.int .i64 12))) fun t25 =>
 atW (m63_4 E R) [t0, t3, t25] H))
def m63_3 (E : Env) (R : AHP) : THP := fun V H => w63_3 E R (V 0) (V 1) (V 2) H

def w63_2 (E : Env) (R : AHP) (t0 t3 t11 : AV) (H : Heap) : Prop :=
 condW t11
 (RetC R (.int .i64 5) H)
 (pW (.bin .eql (.c t3) (.c (.int .i64 9))) fun t20 =>
 condW t20
 (atW (m63_3 E R) [t0, t3, t20] H)
 (pW (.bin .eql (.c t3) (.c (.int .i64 15))) fun t21 =>
 condW t21
 (atW (m63_3 E R) [t0, t3, t21] H)
 (pW (.bin .eql (.c t3) (.c (.int .i64 16))) fun t22 =>
 atW (m63_3 E R) [t0, t3, t22] H)))
def m63_2 (E : Env) (R : AHP) : THP := fun V H => w63_2 E R (V 0) (V 1) (V 2) H

def w63_1 (E : Env) (R : AHP) (t0 t3 t8 : AV) (H : Heap) : Prop :=
 condW t8
 (RetC R (.int .i64 8) H)
 (pW (.bin .eql (.c t3) (.c (.int .i64 6))) fun t12 =>
 condW t12
 (atW (m63_2 E R) [t0, t3, t12] H)
 (pW (.bin .eql (.c t3) (.c (.int .i64 7))) fun t13 =>
 condW t13
 (atW (m63_2 E R) [t0, t3, t13] H)
 (pW (.bin .eql (.c t3) (.c (.int .i64 8))) fun t14 =>
 condW t14
 (atW (m63_2 E R) [t0, t3, t14] H)
 (pW (.bin .eql (.c t3) (.c (.int .i64 13))) fun t15 =>
 condW t15
 (atW (m63_2 E R) [t0, t3, t15] H)
 (pW (.bin .eql (.c t3) (.c (.int .i64 33))) fun t16 =>
 condW t16
 (atW (m63_2 E R) [t0, t3, t16] H)
 (pW (.bin .eql (.c t3) (.c (.int .i64 36))) fun t17 =>
 condW t17
 (atW (m63_2 E R) [t0, t3, t17] H)
 (pW (.bin .eql (.c t3) (.c (.int .i64 37))) fun t18 =>
 atW (m63_2 E R) [t0, t3, t18] H)))))))
def m63_1 (E : Env) (R : AHP) : THP := fun V H => w63_1 E R (V 0) (V 1) (V 2) H

def w63_0 (E : Env) (R : AHP) (t0 t3 t4 : AV) (H : Heap) : Prop :=
 condW t4
 (RetC R (.int .i64 1) H)
 (pW (.bin .eql (.c t3) (.c (.int .i64 4))) fun t9 =>
 condW t9
 (atW (m63_1 E R) [t0, t3, t9] H)
 (pW (.bin .eql (.c t3) (.c (.int .i64 5))) fun t10 =>
 atW (m63_1 E R) [t0, t3, t10] H))
def m63_0 (E : Env) (R : AHP) : THP := fun V H => w63_0 E R (V 0) (V 1) (V 2) H

/-- fulling/fullingref29.form -/
def w63 (E : Env) (R : AHP) (t0 : AV) (H : Heap) : Prop :=
 pW (.bin .eql (.c t0) (.c (.int .i64 1))) fun t5 =>
 condW t5
 (atW (m63_0 E R) [t0, t0, t5] H)
 (pW (.bin .eql (.c t0) (.c (.int .i64 2))) fun t6 =>
 condW t6
 (atW (m63_0 E R) [t0, t0, t6] H)
 (pW (.bin .eql (.c t0) (.c (.int .i64 3))) fun t7 =>
 atW (m63_0 E R) [t0, t0, t7] H))

theorem ent63 {E : Env} (hE : E.Good) (hF : E.Fits tab) (t0 : AV) (H : Heap) (R : AHP) (h : w63 E R t0 H) : ACall E 63 [t0] H R :=
 acallW (b := d63) hE hF rfl (Nat.le_of_ble_eq_true rfl) (Eq.mp (by kernel_rfl : w63 E R t0 H = DW E d63 (QF [.tmp 2] R) (vl [t0]) H) h)


def w76_0 (E : Env) (R : AHP) (t0 t1 t5 : AV) (H : Heap) : Prop :=
 pW (.nilck (.c t0)) fun t70 =>
 pW (.fad 2 (.c t70)) fun t71 =>
 rdW (.ld (.c t71)) H fun t72 =>
 pW (.nilck (.c t0)) fun t74 =>
 pW (.fad 2 (.c t74)) fun t75 =>
 rdW (.ld (.c t75)) H fun t76 =>
 pW (.len (.c t76)) fun t77 =>
 pW (.bin .sub (.c t77) (.c (.int .i64 1))) fun t78 =>
 pW (.slice 1 (.c t72) none (some (.c t78))) fun t79 =>
 pW (.nilck (.c t0)) fun t80 =>
 pW (.fad 2 (.c t80)) fun t81 =>
 mW (.st 1 (.c t81) (.c t79)) H fun _ H1 =>
 ∀ base, Fresh H1 base →
 pW (.nilck (.c t0)) fun t83 =>
 pW (.fad 2 (.c t83)) fun t84 =>
 dW (.ld (.c t84)) (base + 3) H1 fun t85 n2 g2 H2 =>
 pW (.nilck (.c t0)) fun t87 =>
 pW (.fad 2 (.c t87)) fun t88 =>
 dW (.ld (.c t88)) (base + 7) H2 fun t89 n3 g3 H3 =>
 pW (.len (.c t89)) fun t90 =>
 pW (.bin .sub (.c t90) (.c (.int .i64 1))) fun t91 =>
 pW (.iad 1 (.c t85) (.c t91)) fun t92 =>
 dW (.ld (.c t92)) (base + 11) H3 fun t93 n4 g4 H4 =>
 pW (.nilck (.c t1)) fun t95 =>
 pW (.fad 7 (.c t95)) fun t96 =>
 dW (.ld (.c t96)) (base + 15) H4 fun t97 n5 g5 H5 =>
 ((True) ∧ (True)) ∧
 cW E 105 [t93, t97, t5] H5 fun t99 H6 =>
 (True) ∧
 RetC R (.tup []) H6
def m76_0 (E : Env) (R : AHP) : THP := fun V H => w76_0 E R (V 0) (V 1) (V 2) H

/-- (*fulling/vcode.run).terminate -/
def w76 (E : Env) (R : AHP) (t0 t1 : AV) (H : Heap) : Prop :=
 pW (.nilck (.c t1)) fun t7 =>
 pW (.fad 0 (.c t7)) fun t8 =>
 pW (.fad 2 (.c t8)) fun t9 =>
 rdW (.ld (.c t9)) H fun t10 =>
 pW (.nilck (.c t1)) fun t12 =>
 pW (.fad 5 (.c t12)) fun t13 =>
 rdW (.ld (.c t13)) H fun t14 =>
 pW (.iad 5 (.c t10) (.c t14)) fun t15 =>
 rdW (.lda 5 (.c t15)) H fun t16 =>
 mkW (.alloc [.nilsl, .int .i64 0, .int .i64 0, .int .i64 0, .int .i64 0]) H fun t4 H1 =>
 mW (.st 5 (.c t4) (.c t16)) H1 fun _ H2 =>
 frzW t4 H2 fun t4'1 H3 =>
 pW (.fad 1 (.c t4'1)) fun t17 =>
 rdW (.ld (.c t17)) H3 fun t18 =>
 pW (.bin .eql (.c t18) (.c (.int .i64 1))) fun t24 =>
 condW t24
 (pW (.fad 3 (.c t4'1)) fun t27 =>
 rdW (.ld (.c t27)) H3 fun t28 =>
 pW (.nilck (.c t1)) fun t29 =>
 pW (.fad 5 (.c t29)) fun t30 =>
 mW (.st 1 (.c t30) (.c t28)) H3 fun _ H4 =>
 pW (.nilck (.c t1)) fun t31 =>
 pW (.fad 6 (.c t31)) fun t32 =>
 mW (.st 1 (.c t32) (.c (.int .i64 0))) H4 fun _ H5 =>
 RetC R (.tup []) H5)
 (pW (.bin .eql (.c t18) (.c (.int .i64 2))) fun t34 =>
 condW t34
 (pW (.fad 2 (.c t4'1)) fun t36 =>
 rdW (.ld (.c t36)) H3 fun t37 =>
 cW E 78 [t1, t37] H3 fun t38 H6 =>
 pW (.bin .neq (.c t38) (.c (.int .i64 0))) fun t39 =>
 condW t39
 (pW (.fad 3 (.c t4'1)) fun t41 =>
 rdW (.ld (.c t41)) H6 fun t42 =>
 pW (.nilck (.c t1)) fun t43 =>
 pW (.fad 5 (.c t43)) fun t44 =>
 mW (.st 1 (.c t44) (.c t42)) H6 fun _ H7 =>
 pW (.nilck (.c t1)) fun t51 =>
 pW (.fad 6 (.c t51)) fun t52 =>
 mW (.st 1 (.c t52) (.c (.int .i64 0))) H7 fun _ H8 =>
 RetC R (.tup []) H8)
 (pW (.fad 4 (.c t4'1)) fun t46 =>
 rdW (.ld (.c t46)) H6 fun t47 =>
 pW (.nilck (.c t1)) fun t48 =>
 pW (.fad 5 (.c t48)) fun t49 =>
 mW (.st 1 (.c t49) (.c t47)) H6 fun _ H9 =>
 pW (.nilck (.c t1)) fun t51'1 =>
 pW (.fad 6 (.c t51'1)) fun t52'1 =>
 mW (.st 1 (.c t52'1) (.c (.int .i64 0))) H9 fun _ H10 =>
 RetC R (.tup []) H10))
 (pW (.bin .eql (.c t18) (.c (.int .i64 3))) fun t54 =>
 condW t54
 (pW (.fad 2 (.c t4'1)) fun t56 =>
 rdW (.ld (.c t56)) H3 fun t57 =>
 cW E 78 [t1, t57] H3 fun t58 H11 =>
 pW (.nilck (.c t0)) fun t60 =>
 pW (.fad 2 (.c t60)) fun t61 =>
 rdW (.ld (.c t61)) H11 fun t62 =>
 pW (.len (.c t62)) fun t63 =>
 pW (.bin .eql (.c t63) (.c (.int .i64 1))) fun t64 =>
 condW t64
 (cW E 77 [t0, .int .i64 1, .int .i64 0, t58] H11 fun t67 H12 =>
 RetC R (.tup []) H12)
 (atW (m76_0 E R) [t0, t1, t58] H11))
 (pW (.fad 3 (.c t4'1)) fun t20 =>
 rdW (.ld (.c t20)) H3 fun t21 =>
 cW E 77 [t0, .int .i64 2, t21, .int .i64 0] H3 fun t22 H13 =>
 RetC R (.tup []) H13)))

theorem ent76 {E : Env} (hE : E.Good) (hF : E.Fits tab) (t0 t1 : AV) (H : Heap) (R : AHP) (h : w76 E R t0 t1 H) : ACall E 76 [t0, t1] H R :=
 acallW (b := d76) hE hF rfl (Nat.le_of_ble_eq_true rfl) (Eq.mp (by kernel_rfl : w76 E R t0 t1 H = DW E d76 (QF [] R) (vl [t0, t1]) H) h)


/-- (*fulling/vcode.run).stop -/
def w77 (E : Env) (R : AHP) (t0 t1 t2 t3 : AV) (H : Heap) : Prop :=
 pW (.nilck (.c t0)) fun t9 =>
 pW (.fad 4 (.c t9)) fun t10 =>
 mW (.st 1 (.c t10) (.c (.bool true))) H fun _ H1 =>
 pW (.nilck (.c t0)) fun t17 =>
 pW (.fad 5 (.c t17)) fun t18 =>
 pW (.fad 0 (.c t18)) fun t19 =>
 mW (.st 1 (.c t19) (.c t1)) H1 fun _ H2 =>
 pW (.nilck (.c t0)) fun t20 =>
 pW (.fad 5 (.c t20)) fun t21 =>
 pW (.fad 1 (.c t21)) fun t22 =>
 mW (.st 1 (.c t22) (.c t2)) H2 fun _ H3 =>
 pW (.nilck (.c t0)) fun t23 =>
 pW (.fad 5 (.c t23)) fun t24 =>
 pW (.fad 3 (.c t24)) fun t25 =>
 mW (.st 1 (.c t25) (.c t3)) H3 fun _ H4 =>
 RetC R (.tup []) H4

theorem ent77 {E : Env} (hE : E.Good) (hF : E.Fits tab) (t0 t1 t2 t3 : AV) (H : Heap) (R : AHP) (h : w77 E R t0 t1 t2 t3 H) : ACall E 77 [t0, t1, t2, t3] H R :=
 acallW (b := d77) hE hF rfl (Nat.le_of_ble_eq_true rfl) (Eq.mp (by kernel_rfl : w77 E R t0 t1 t2 t3 H = DW E d77 (QF [] R) (vl [t0, t1, t2, t3]) H) h)


def w78_0 (E : Env) (R : AHP) (t0 t1 : AV) (H : Heap) : Prop :=
 pW (.nilck (.c t0)) fun t13 =>
 pW (.fad 3 (.c t13)) fun t14 =>
 rdW (.ld (.c t14)) H fun t15 =>
 pW (.iad 1 (.c t15) (.c t1)) fun t17 =>
 rdW (.ld (.c t17)) H fun t18 =>
 RetC R t18 H
def m78_0 (E : Env) (R : AHP) : THP := fun V H => w78_0 E R (V 0) (V 1) H

/-- (*fulling/vcode.call).get -/
def w78 (E : Env) (R : AHP) (t0 t1 : AV) (H : Heap) : Prop :=
 pW (.nilck (.c t0)) fun t7 =>
 pW (.fad 3 (.c t7)) fun t8 =>
 rdW (.ld (.c t8)) H fun t9 =>
 pW (.len (.c t9)) fun t10 =>
 pW (.bin .geq (.c t1) (.c t10)) fun t11 =>
 condW t11
 (RetC R (.int .i64 0) H)
 (atW (m78_0 E R) [t0, t1] H)

theorem ent78 {E : Env} (hE : E.Good) (hF : E.Fits tab) (t0 t1 : AV) (H : Heap) (R : AHP) (h : w78 E R t0 t1 H) : ACall E 78 [t0, t1] H R :=
 acallW (b := d78) hE hF rfl (Nat.le_of_ble_eq_true rfl) (Eq.mp (by kernel_rfl : w78 E R t0 t1 H = DW E d78 (QF [.tmp 4] R) (vl [t0, t1]) H) h)


/-- (*fulling/vcode.run).access -/
def w79 (E : Env) (R : AHP) (t0 t1 t2 : AV) (H : Heap) : Prop :=
 bxW t2 fun t5 =>
 ∀ base, Fresh H base →
 pW (.fad 4 (.c t5)) fun t8 =>
 dW (.ld (.c t8)) (base + 2) H fun t9 n1 g1 H1 =>
 pW (.fad 2 (.c t5)) fun t11 =>
 dW (.ld (.c t11)) (base + 5) H1 fun t12 n2 g2 H2 =>
 dcallW E (.fn 78 []) [t1, t12] H2 fun t13 n3 g3 H3 =>
 dcallW E (.fn 106 []) [t0, t9, t13] H3 fun t14 n4 g4 H4 =>
 (keysDisj ([], []) (n3, g3) ∧ (keysDisj ([], []) (n3, g3) ∧ (keysDisj (n1, g1) (n3, g3) ∧ True))) ∧
 pW (.eqp false (.c t14) (.c .nilp)) fun t23 =>
 condW t23
 (cW E 77 [t0, .int .i64 2, .int .i64 2, .int .i64 0] H4 fun t25 H5 =>
 RetC R (.tup []) H5)
 (pW (.fad 0 (.c t5)) fun t27 =>
 rdW (.ld (.c t27)) H4 fun t28 =>
 pW (.bin .eql (.c t28) (.c (.int .i64 34))) fun t29 =>
 condW t29
 (∀ base, Fresh H4 base →
 pW (.fad 1 (.c t5)) fun t31 =>
 dW (.ld (.c t31)) (base + 2) H4 fun t32 n6 g6 H6 =>
 pW (.nilck (.c t14)) fun t34 =>
 dW (.ld (.c t34)) (base + 5) H6 fun t35 n7 g7 H7 =>
 ((True) ∧ (True)) ∧
 cW E 105 [t1, t32, t35] H7 fun t36 H8 =>
 (True) ∧
 RetC R (.tup []) H8)
 (pW (.fad 1 (.c t5)) fun t17 =>
 rdW (.ld (.c t17)) H4 fun t18 =>
 cW E 78 [t1, t18] H4 fun t19 H9 =>
 pW (.nilck (.c t14)) fun t20 =>
 mW (.st 1 (.c t20) (.c t19)) H9 fun _ H10 =>
 RetC R (.tup []) H10))

theorem ent79 {E : Env} (hE : E.Good) (hF : E.Fits tab) (t0 t1 t2 : AV) (H : Heap) (R : AHP) (h : w79 E R t0 t1 t2 H) : ACall E 79 [t0, t1, t2] H R :=
 acallW (b := d79) hE hF rfl (Nat.le_of_ble_eq_true rfl) (Eq.mp (by kernel_rfl : w79 E R t0 t1 t2 H = DW E d79 (QF [] R) (vl [t0, t1, t2]) H) h)


end Go.Abs
/- What each function asks, printed by the same program; the kernel finds it equal to the code's own. -/
set_option linter.unusedVariables false
namespace Go.Abs

def w80_0 (E : Env) (R : AHP) (t1 t5 t6 : AV) (H : Heap) : Prop :=
 ∀ base, Fresh H base →
 pW (.fad 1 (.c t5)) fun t28 =>
 dW (.ld (.c t28)) (base + 2) H fun t29 n1 g1 H1 =>
 pW (.fad 0 (.c t5)) fun t30 =>
 dW (.ld (.c t30)) (base + 4) H1 fun t31 n2 g2 H2 =>
 pW (.bin .sub (.c t31) (.c (.int .i64 17))) fun t32 =>
 pW (.bin .add (.c t32) (.c (.int .i64 4))) fun t33 =>
 pW (.fad 1 (.c t5)) fun t35 =>
 dW (.ld (.c t35)) (base + 9) H2 fun t36 n3 g3 H3 =>
 dcallW E (.fn 78 []) [t1, t36] H3 fun t37 n4 g4 H4 =>
 dcallW E (.fn 108 []) [t33, t37, t6] H4 fun t39 n5 g5 H5 =>
 ((keysDisj ([], []) (n4, g4) ∧ (keysDisj ([], []) (n4, g4) ∧ (keysDisj (n1, g1) (n4, g4) ∧ (keysDisj ([], []) (n4, g4) ∧ (keysDisj (n2, g2) (n4, g4) ∧ (keysDisj ([], []) (n4, g4) ∧ (keysDisj ([], []) (n4, g4) ∧ (keysDisj (n4, g4) ([], []) ∧ (keysDisj ([], []) (n5, g5) ∧ (keysDisj ([], []) (n5, g5) ∧ (keysDisj (n1, g1) (n5, g5) ∧ True))))))))))) ∧ (True)) ∧
 cW E 105 [t1, t29, t39] H5 fun t40 H6 =>
 (True) ∧
 RetC R (.tup []) H6
def m80_0 (E : Env) (R : AHP) : THP := fun V H => w80_0 E R (V 0) (V 1) (V 2) H

/-- (*fulling/vcode.run).compute -/
def w80 (E : Env) (R : AHP) (t0 t1 t2 : AV) (H : Heap) : Prop :=
 bxW t2 fun t5 =>
 pW (.fad 0 (.c t5)) fun t7 =>
 rdW (.ld (.c t7)) H fun t8 =>
 pW (.bin .eql (.c t8) (.c (.int .i64 10))) fun t42 =>
 condW t42
 (∀ base, Fresh H base →
 pW (.fad 1 (.c t5)) fun t44 =>
 dW (.ld (.c t44)) (base + 2) H fun t45 n1 g1 H1 =>
 pW (.fad 2 (.c t5)) fun t47 =>
 dW (.ld (.c t47)) (base + 5) H1 fun t48 n2 g2 H2 =>
 dcallW E (.fn 78 []) [t1, t48] H2 fun t49 n3 g3 H3 =>
 ((keysDisj ([], []) (n3, g3) ∧ (keysDisj ([], []) (n3, g3) ∧ (keysDisj (n1, g1) (n3, g3) ∧ True))) ∧ (True)) ∧
 cW E 105 [t1, t45, t49] H3 fun t50 H4 =>
 (True) ∧
 RetC R (.tup []) H4)
 (pW (.bin .eql (.c t8) (.c (.int .i64 11))) fun t52 =>
 condW t52
 (pW (.fad 3 (.c t5)) fun t54 =>
 rdW (.ld (.c t54)) H fun t55 =>
 cW E 78 [t1, t55] H fun t56 H5 =>
 pW (.bin .eql (.c t56) (.c (.int .i64 0))) fun t57 =>
 condW t57
 (∀ base, Fresh H5 base →
 pW (.fad 1 (.c t5)) fun t59 =>
 dW (.ld (.c t59)) (base + 2) H5 fun t60 n6 g6 H6 =>
 pW (.fad 2 (.c t5)) fun t62 =>
 dW (.ld (.c t62)) (base + 5) H6 fun t63 n7 g7 H7 =>
 dcallW E (.fn 78 []) [t1, t63] H7 fun t64 n8 g8 H8 =>
 ((keysDisj ([], []) (n8, g8) ∧ (keysDisj ([], []) (n8, g8) ∧ (keysDisj (n6, g6) (n8, g8) ∧ True))) ∧ (True)) ∧
 cW E 105 [t1, t60, t64] H8 fun t65 H9 =>
 (True) ∧
 RetC R (.tup []) H9)
 (RetC R (.tup []) H5))
 (pW (.bin .eql (.c t8) (.c (.int .i64 12))) fun t67 =>
 condW t67
 (pW (.fad 3 (.c t5)) fun t69 =>
 rdW (.ld (.c t69)) H fun t70 =>
 cW E 78 [t1, t70] H fun t71 H10 =>
 pW (.bin .neq (.c t71) (.c (.int .i64 0))) fun t72 =>
 condW t72
 (∀ base, Fresh H10 base →
 pW (.fad 1 (.c t5)) fun t74 =>
 dW (.ld (.c t74)) (base + 2) H10 fun t75 n11 g11 H11 =>
 pW (.fad 2 (.c t5)) fun t77 =>
 dW (.ld (.c t77)) (base + 5) H11 fun t78 n12 g12 H12 =>
 dcallW E (.fn 78 []) [t1, t78] H12 fun t79 n13 g13 H13 =>
 ((keysDisj ([], []) (n13, g13) ∧ (keysDisj ([], []) (n13, g13) ∧ (keysDisj (n11, g11) (n13, g13) ∧ True))) ∧ (True)) ∧
 cW E 105 [t1, t75, t79] H13 fun t80 H14 =>
 (True) ∧
 RetC R (.tup []) H14)
 (RetC R (.tup []) H10))
 (pW (.bin .eql (.c t8) (.c (.int .i64 13))) fun t82 =>
 condW t82
 (pW (.fad 1 (.c t5)) fun t84 =>
 rdW (.ld (.c t84)) H fun t85 =>
 pW (.fad 4 (.c t5)) fun t86 =>
 rdW (.ld (.c t86)) H fun t87 =>
 cW E 105 [t1, t85, t87] H fun t88 H15 =>
 RetC R (.tup []) H15)
 (pW (.bin .eql (.c t8) (.c (.int .i64 38))) fun t90 =>
 condW t90
 (∀ base, Fresh H base →
 pW (.fad 1 (.c t5)) fun t92 =>
 dW (.ld (.c t92)) (base + 2) H fun t93 n16 g16 H16 =>
 pW (.nilck (.c t1)) fun t95 =>
 pW (.fad 4 (.c t95)) fun t96 =>
 dW (.ld (.c t96)) (base + 6) H16 fun t97 n17 g17 H17 =>
 pW (.fad 4 (.c t5)) fun t98 =>
 dW (.ld (.c t98)) (base + 8) H17 fun t99 n18 g18 H18 =>
 pW (.iad 1 (.c t97) (.c t99)) fun t100 =>
 dW (.ld (.c t100)) (base + 10) H18 fun t101 n19 g19 H19 =>
 ((True) ∧ (True)) ∧
 cW E 105 [t1, t93, t101] H19 fun t102 H20 =>
 (True) ∧
 RetC R (.tup []) H20)
 (pW (.bin .eql (.c t8) (.c (.int .i64 15))) fun t104 =>
 condW t104
 (∀ base, Fresh H base →
 pW (.fad 1 (.c t5)) fun t106 =>
 dW (.ld (.c t106)) (base + 2) H fun t107 n21 g21 H21 =>
 pW (.fad 1 (.c t5)) fun t109 =>
 dW (.ld (.c t109)) (base + 5) H21 fun t110 n22 g22 H22 =>
 dcallW E (.fn 78 []) [t1, t110] H22 fun t111 n23 g23 H23 =>
 dcallW E (.fn 107 []) [.int .i64 20, t111] H23 fun t112 n24 g24 H24 =>
 ((keysDisj ([], []) (n23, g23) ∧ (keysDisj ([], []) (n23, g23) ∧ (keysDisj (n21, g21) (n23, g23) ∧ (keysDisj ([], []) (n24, g24) ∧ (keysDisj ([], []) (n24, g24) ∧ (keysDisj (n21, g21) (n24, g24) ∧ True)))))) ∧ (True)) ∧
 cW E 105 [t1, t107, t112] H24 fun t113 H25 =>
 (True) ∧
 RetC R (.tup []) H25)
 (pW (.bin .eql (.c t8) (.c (.int .i64 16))) fun t115 =>
 condW t115
 (∀ base, Fresh H base →
 pW (.fad 1 (.c t5)) fun t117 =>
 dW (.ld (.c t117)) (base + 2) H fun t118 n26 g26 H26 =>
 pW (.fad 1 (.c t5)) fun t120 =>
 dW (.ld (.c t120)) (base + 5) H26 fun t121 n27 g27 H27 =>
 dcallW E (.fn 78 []) [t1, t121] H27 fun t122 n28 g28 H28 =>
 dcallW E (.fn 107 []) [.int .i64 21, t122] H28 fun t123 n29 g29 H29 =>
 ((keysDisj ([], []) (n28, g28) ∧ (keysDisj ([], []) (n28, g28) ∧ (keysDisj (n26, g26) (n28, g28) ∧ (keysDisj ([], []) (n29, g29) ∧ (keysDisj ([], []) (n29, g29) ∧ (keysDisj (n26, g26) (n29, g29) ∧ True)))))) ∧ (True)) ∧
 cW E 105 [t1, t118, t123] H29 fun t124 H30 =>
 (True) ∧
 RetC R (.tup []) H30)
 (pW (.bin .eql (.c t8) (.c (.int .i64 33))) fun t126 =>
 condW t126
 (∀ base, Fresh H base →
 pW (.fad 1 (.c t5)) fun t128 =>
 dW (.ld (.c t128)) (base + 2) H fun t129 n31 g31 H31 =>
 pW (.fad 1 (.c t5)) fun t131 =>
 dW (.ld (.c t131)) (base + 5) H31 fun t132 n32 g32 H32 =>
 dcallW E (.fn 78 []) [t1, t132] H32 fun t133 n33 g33 H33 =>
 pW (.fad 4 (.c t5)) fun t134 =>
 dW (.ld (.c t134)) (base + 8) H33 fun t135 n34 g34 H34 =>
 pW (.bin .add (.c t133) (.c t135)) fun t136 =>
 ((keysDisj ([], []) (n33, g33) ∧ (keysDisj ([], []) (n33, g33) ∧ (keysDisj (n31, g31) (n33, g33) ∧ (keysDisj (n33, g33) ([], []) ∧ (keysDisj (n33, g33) (n34, g34) ∧ True))))) ∧ (True)) ∧
 cW E 105 [t1, t129, t136] H34 fun t137 H35 =>
 (True) ∧
 RetC R (.tup []) H35)
 (pW (.fad 2 (.c t5)) fun t10 =>
 rdW (.ld (.c t10)) H fun t11 =>
 cW E 78 [t1, t11] H fun t12 H36 =>
 pW (.fad 0 (.c t5)) fun t13 =>
 rdW (.ld (.c t13)) H36 fun t14 =>
 pW (.bin .eql (.c t14) (.c (.int .i64 20))) fun t15 =>
 grpW false t15 (fun k1 => pW (.fad 0 (.c t5)) fun t17 =>
 rdW (.ld (.c t17)) H36 fun t18 =>
 pW (.bin .eql (.c t18) (.c (.int .i64 21))) fun t19 =>
 k1 t19 H36) H36 fun _ t20 =>
 grpW true t20 (fun k2 => pW (.bin .eql (.c t12) (.c (.int .i64 0))) fun t23 =>
 k2 t23 H36) H36 fun _ t24 =>
 condW t24
 (cW E 77 [t0, .int .i64 2, .int .i64 1, .int .i64 0] H36 fun t26 H37 =>
 RetC R (.tup []) H37)
 (atW (m80_0 E R) [t1, t5, t12] H36)))))))))

theorem ent80 {E : Env} (hE : E.Good) (hF : E.Fits tab) (t0 t1 t2 : AV) (H : Heap) (R : AHP) (h : w80 E R t0 t1 t2 H) : ACall E 80 [t0, t1, t2] H R :=
 acallW (b := d80) hE hF rfl (Nat.le_of_ble_eq_true rfl) (Eq.mp (by kernel_rfl : w80 E R t0 t1 t2 H = DW E d80 (QF [] R) (vl [t0, t1, t2]) H) h)


/-- fulling/vcode.validInstr$1 -/
def w81 (E : Env) (R : AHP) (t0 t1 : AV) (H : Heap) : Prop :=
 pW (.bin .geq (.c t0) (.c (.int .i64 0))) fun t5 =>
 grpW true t5 (fun k1 => pW (.fad 1 (.c t1)) fun t8 =>
 rdW (.ld (.c t8)) H fun t9 =>
 pW (.bin .lss (.c t0) (.c t9)) fun t10 =>
 k1 t10 H) H fun _ t11 =>
 RetC R t11 H

theorem ent81 {E : Env} (hE : E.Good) (hF : E.Fits tab) (t0 t1 : AV) (H : Heap) (R : AHP) (h : w81 E R t0 t1 H) : ACall E 81 [t0, t1] H R :=
 acallW (b := d81) hE hF rfl (Nat.le_of_ble_eq_true rfl) (Eq.mp (by kernel_rfl : w81 E R t0 t1 H = DW E d81 (QF [.tmp 3] R) (vl [t0, t1]) H) h)


def w82_0 (E : Env) (R : AHP) (t0 : AV) (H : Heap) : Prop :=
 cW E 54 [t0] H fun t9 H1 =>
 pW (.ext (.c t9) 0) fun t10 =>
 pW (.ext (.c t9) 1) fun t11 =>
 alW 7 t10 fun t3 =>
 pW (.fad 1 (.c t3)) fun t12 =>
 rdW (.ld (.c t12)) H1 fun t13 =>
 RetC R t13 H1
def m82_0 (E : Env) (R : AHP) : THP := fun V H => w82_0 E R (V 0) H

/-- fulling/vcode.form -/
def w82 (E : Env) (R : AHP) (t0 : AV) (H : Heap) : Prop :=
 pW (.bin .eql (.c t0) (.c (.int .i64 38))) fun t6 =>
 condW t6
 (RetC R (.int .i64 5) H)
 (atW (m82_0 E R) [t0] H)

theorem ent82 {E : Env} (hE : E.Good) (hF : E.Fits tab) (t0 : AV) (H : Heap) (R : AHP) (h : w82 E R t0 H) : ACall E 82 [t0] H R :=
 acallW (b := d82) hE hF rfl (Nat.le_of_ble_eq_true rfl) (Eq.mp (by kernel_rfl : w82 E R t0 H = DW E d82 (QF [.tmp 2] R) (vl [t0]) H) h)


/-- fulling/fullingref32.validOperand -/
def w83 (E : Env) (R : AHP) (t0 t1 t2 : AV) (H : Heap) : Prop :=
 condW t0
 (pW (.bin .geq (.c t1) (.c (.int .i64 0))) fun t9 =>
 grpW true t9 (fun k1 => pW (.bin .lss (.c t1) (.c t2)) fun t13 =>
 k1 t13 H) H fun _ t14 =>
 RetC R t14 H)
 (pW (.bin .eql (.c t1) (.c (.int .i64 0))) fun t16 =>
 RetC R t16 H)

theorem ent83 {E : Env} (hE : E.Good) (hF : E.Fits tab) (t0 t1 t2 : AV) (H : Heap) (R : AHP) (h : w83 E R t0 t1 t2 H) : ACall E 83 [t0, t1, t2] H R :=
 acallW (b := d83) hE hF rfl (Nat.le_of_ble_eq_true rfl) (Eq.mp (by kernel_rfl : w83 E R t0 t1 t2 H = DW E d83 (QF [.tmp 6] R) (vl [t0, t1, t2]) H) h)


def w84_0 (E : Env) (R : AHP) (t0 : AV) (H : Heap) : Prop :=
 pW (.nilck (.c t0)) fun t12 =>
 pW (.fad 3 (.c t12)) fun t13 =>
 rdW (.ld (.c t13)) H fun t14 =>
 pW (.bin .sub (.c t14) (.c (.int .i64 1))) fun t15 =>
 pW (.nilck (.c t0)) fun t16 =>
 pW (.fad 3 (.c t16)) fun t17 =>
 mW (.st 1 (.c t17) (.c t15)) H fun _ H1 =>
 RetC R (.bool true) H1
def m84_0 (E : Env) (R : AHP) : THP := fun V H => w84_0 E R (V 0) H

/-- (*fulling/fullingref32.interpreter).step -/
def w84 (E : Env) (R : AHP) (t0 : AV) (H : Heap) : Prop :=
 pW (.nilck (.c t0)) fun t4 =>
 pW (.fad 3 (.c t4)) fun t5 =>
 rdW (.ld (.c t5)) H fun t6 =>
 pW (.bin .leq (.c t6) (.c (.int .i64 0))) fun t7 =>
 condW t7
 (pW (.nilck (.c t0)) fun t9 =>
 pW (.fad 10 (.c t9)) fun t10 =>
 mW (.st 1 (.c t10) (.c (.bool true))) H fun _ H1 =>
 RetC R (.bool false) H1)
 (atW (m84_0 E R) [t0] H)

theorem ent84 {E : Env} (hE : E.Good) (hF : E.Fits tab) (t0 : AV) (H : Heap) (R : AHP) (h : w84 E R t0 H) : ACall E 84 [t0] H R :=
 acallW (b := d84) hE hF rfl (Nat.le_of_ble_eq_true rfl) (Eq.mp (by kernel_rfl : w84 E R t0 H = DW E d84 (QF [.tmp 2] R) (vl [t0]) H) h)


def w85_1 (E : Env) (R : AHP) (K1 : THP) (t0 t2 t5 t8 t9 t10 : AV) (H : Heap) : Prop :=
 pW (.fad 5 (.c t5)) fun t77 =>
 rdW (.ld (.c t77)) H fun t78 =>
 pW (.iad 1 (.c t78) (.c t10)) fun t80 =>
 rdW (.ld (.c t80)) H fun t81 =>
 pW (.iad 1 (.c t2) (.c t81)) fun t82 =>
 rdW (.ld (.c t82)) H fun t83 =>
 bsW 1 [.int .i64 0] 1 [(0, t83)] fun t84 =>
 mkW (.app 1 (.c t9) (.c t84)) H fun t85 H1 =>
 pW (.bin .add (.c t10) (.c (.int .i64 1))) fun t74 =>
 atW K1 [t0, t2, t5, t8, t85, t74] H1
def m85_1 (E : Env) (R : AHP) (K1 : THP) : THP := fun V H => w85_1 E R K1 (V 0) (V 1) (V 2) (V 3) (V 4) (V 5) H

def w85_2 (E : Env) (R : AHP) (t0 t2 t8 t9 : AV) (H : Heap) : Prop :=
 ∀ base, Fresh H base →
 pW (.fad 1 (.c t8)) fun t87 =>
 dW (.ld (.c t87)) (base + 2) H fun t88 n1 g1 H1 =>
 pW (.fad 4 (.c t8)) fun t90 =>
 dW (.ld (.c t90)) (base + 5) H1 fun t91 n2 g2 H2 =>
 ((True) ∧ (([] = ([] : List Nat) ∧ [] = ([] : List Nat)) ∧ (([] = ([] : List Nat) ∧ [] = ([] : List Nat)) ∧ ((n1 = ([] : List Nat) ∧ g1 = ([] : List Nat)) ∧ True)))) ∧
 cW E 51 [t0, t91, t9] H2 fun t93 H3 =>
 pW (.iad 1 (.c t2) (.c t88)) fun t94 =>
 dW (.st 1 (.c t94) (.c t93)) (base + 9) H3 fun _ n4 g4 H4 =>
 (True) ∧
 RetC R (.tup []) H4
def m85_2 (E : Env) (R : AHP) : THP := fun V H => w85_2 E R (V 0) (V 1) (V 2) (V 3) H

def w85_0 (E : Env) (R : AHP) (K1 : THP) (t0 t2 t5 t8 t9 t10 : AV) (H : Heap) : Prop :=
 pW (.fad 5 (.c t5)) fun t69 =>
 rdW (.ld (.c t69)) H fun t70 =>
 pW (.len (.c t70)) fun t71 =>
 pW (.bin .lss (.c t10) (.c t71)) fun t72 =>
 condW t72
 (atW (m85_1 E R K1) [t0, t2, t5, t8, t9, t10] H)
 (atW (m85_2 E R) [t0, t2, t8, t9] H)
def l85_0 (E : Env) (R : AHP) : THP → THP := fun K1 V H => w85_0 E R K1 (V 0) (V 1) (V 2) (V 3) (V 4) (V 5) H

def w85_4 (E : Env) (R : AHP) (t0 t2 t3 t8 t14 t190 : AV) (H : Heap) : Prop :=
 condW t190
 (rdW (.lda 5 (.c t8)) H fun t194 =>
 cW E 110 [t0, t194, t2] H fun t196 H1 =>
 RetC R (.tup []) H1)
 (pW (.bin .eql (.c t14) (.c (.int .i64 38))) fun t198 =>
 condW t198
 (pW (.fad 1 (.c t8)) fun t200 =>
 rdW (.ld (.c t200)) H fun t201 =>
 pW (.fad 4 (.c t8)) fun t203 =>
 rdW (.ld (.c t203)) H fun t204 =>
 pW (.iad 1 (.c t3) (.c t204)) fun t205 =>
 rdW (.ld (.c t205)) H fun t206 =>
 pW (.iad 1 (.c t2) (.c t201)) fun t207 =>
 mW (.st 1 (.c t207) (.c t206)) H fun _ H2 =>
 RetC R (.tup []) H2)
 (pW (.fad 0 (.c t8)) fun t15 =>
 rdW (.ld (.c t15)) H fun t16 =>
 pW (.bin .eql (.c t16) (.c (.int .i64 20))) fun t17 =>
 grpW false t17 (fun k1 => pW (.fad 0 (.c t8)) fun t19 =>
 rdW (.ld (.c t19)) H fun t20 =>
 pW (.bin .eql (.c t20) (.c (.int .i64 21))) fun t21 =>
 k1 t21 H) H fun _ t22 =>
 grpW true t22 (fun k2 => pW (.fad 2 (.c t8)) fun t25 =>
 rdW (.ld (.c t25)) H fun t26 =>
 pW (.iad 1 (.c t2) (.c t26)) fun t27 =>
 rdW (.ld (.c t27)) H fun t28 =>
 pW (.bin .eql (.c t28) (.c (.int .i64 0))) fun t29 =>
 k2 t29 H) H fun _ t30 =>
 condW t30
 (cW E 86 [t0, .int .i64 2, .int .i64 1] H fun t32 H3 =>
 RetC R (.tup []) H3)
 (pW (.fad 1 (.c t8)) fun t34 =>
 rdW (.ld (.c t34)) H fun t35 =>
 pW (.fad 0 (.c t8)) fun t36 =>
 rdW (.ld (.c t36)) H fun t37 =>
 pW (.fad 1 (.c t8)) fun t39 =>
 rdW (.ld (.c t39)) H fun t40 =>
 pW (.iad 1 (.c t2) (.c t40)) fun t41 =>
 rdW (.ld (.c t41)) H fun t42 =>
 pW (.fad 2 (.c t8)) fun t44 =>
 rdW (.ld (.c t44)) H fun t45 =>
 pW (.iad 1 (.c t2) (.c t45)) fun t46 =>
 rdW (.ld (.c t46)) H fun t47 =>
 pcallW E (.fn 111 []) [t37, t42, t47] H fun t48 H4 =>
 pW (.iad 1 (.c t2) (.c t35)) fun t49 =>
 mW (.st 1 (.c t49) (.c t48)) H4 fun _ H5 =>
 RetC R (.tup []) H5)))
def m85_4 (E : Env) (R : AHP) : THP := fun V H => w85_4 E R (V 0) (V 1) (V 2) (V 3) (V 4) (V 5) H

def w85_3 (E : Env) (R : AHP) (t0 t2 t3 t8 t14 t164 : AV) (H : Heap) : Prop :=
 condW t164
 (pW (.fad 1 (.c t8)) fun t168 =>
 rdW (.ld (.c t168)) H fun t169 =>
 pW (.fad 0 (.c t8)) fun t170 =>
 rdW (.ld (.c t170)) H fun t171 =>
 pW (.fad 1 (.c t8)) fun t173 =>
 rdW (.ld (.c t173)) H fun t174 =>
 pW (.iad 1 (.c t2) (.c t174)) fun t175 =>
 rdW (.ld (.c t175)) H fun t176 =>
 pcallW E (.fn 109 []) [t171, t176] H fun t177 H1 =>
 pW (.iad 1 (.c t2) (.c t169)) fun t178 =>
 mW (.st 1 (.c t178) (.c t177)) H1 fun _ H2 =>
 RetC R (.tup []) H2)
 (pW (.bin .eql (.c t14) (.c (.int .i64 33))) fun t180 =>
 condW t180
 (pW (.fad 1 (.c t8)) fun t182 =>
 rdW (.ld (.c t182)) H fun t183 =>
 pW (.iad 1 (.c t2) (.c t183)) fun t184 =>
 rdW (.ld (.c t184)) H fun t185 =>
 pW (.fad 4 (.c t8)) fun t186 =>
 rdW (.ld (.c t186)) H fun t187 =>
 pW (.bin .add (.c t185) (.c t187)) fun t188 =>
 pW (.iad 1 (.c t2) (.c t183)) fun t189 =>
 mW (.st 1 (.c t189) (.c t188)) H fun _ H3 =>
 RetC R (.tup []) H3)
 (pW (.bin .eql (.c t14) (.c (.int .i64 34))) fun t191 =>
 condW t191
 (atW (m85_4 E R) [t0, t2, t3, t8, t14, t191] H)
 (pW (.bin .eql (.c t14) (.c (.int .i64 35))) fun t192 =>
 atW (m85_4 E R) [t0, t2, t3, t8, t14, t192] H)))
def m85_3 (E : Env) (R : AHP) : THP := fun V H => w85_3 E R (V 0) (V 1) (V 2) (V 3) (V 4) (V 5) H

/-- (*fulling/fullingref32.interpreter).do -/
def w85 (E : Env) (R : AHP) (t0 t1 t2 t3 : AV) (H : Heap) : Prop :=
 bxW t1 fun t5 =>
 pW (.fad 0 (.c t5)) fun t11 =>
 rdW (.lda 5 (.c t11)) H fun t12 =>
 alW 5 t12 fun t8 =>
 pW (.fad 0 (.c t8)) fun t13 =>
 rdW (.ld (.c t13)) H fun t14 =>
 pW (.bin .eql (.c t14) (.c (.int .i64 3))) fun t51 =>
 condW t51
 (pW (.nilck (.c t0)) fun t53 =>
 pW (.fad 2 (.c t53)) fun t54 =>
 rdW (.ld (.c t54)) H fun t55 =>
 pW (.bin .eql (.c t55) (.c (.int .i64 0))) fun t56 =>
 condW t56
 (cW E 86 [t0, .int .i64 3, .int .i64 0] H fun t58 H1 =>
 RetC R (.tup []) H1)
 (pW (.nilck (.c t0)) fun t60 =>
 pW (.fad 2 (.c t60)) fun t61 =>
 rdW (.ld (.c t61)) H fun t62 =>
 pW (.bin .sub (.c t62) (.c (.int .i64 1))) fun t63 =>
 pW (.nilck (.c t0)) fun t64 =>
 pW (.fad 2 (.c t64)) fun t65 =>
 mW (.st 1 (.c t65) (.c t63)) H fun _ H2 =>
 RetC R (.tup []) H2))
 (pW (.bin .eql (.c t14) (.c (.int .i64 6))) fun t67 =>
 condW t67
 (loopW (l85_0 E R) [t0, t2, t5, t8, .nilsl, .int .i64 0] H)
 (pW (.bin .eql (.c t14) (.c (.int .i64 9))) fun t96 =>
 condW t96
 (pW (.nilck (.c t0)) fun t99 =>
 pW (.fad 4 (.c t99)) fun t100 =>
 rdW (.ld (.c t100)) H fun t101 =>
 pW (.fad 1 (.c t8)) fun t103 =>
 rdW (.ld (.c t103)) H fun t104 =>
 pW (.iad 1 (.c t2) (.c t104)) fun t105 =>
 rdW (.ld (.c t105)) H fun t106 =>
 mkW (.bsl 1 [.int .i64 0] 1 [(0, .c t106)]) H fun t107 H3 =>
 mkW (.app 1 (.c t101) (.c t107)) H3 fun t108 H4 =>
 pW (.nilck (.c t0)) fun t109 =>
 pW (.fad 4 (.c t109)) fun t110 =>
 mW (.st 1 (.c t110) (.c t108)) H4 fun _ H5 =>
 RetC R (.tup []) H5)
 (pW (.bin .eql (.c t14) (.c (.int .i64 10))) fun t112 =>
 condW t112
 (pW (.fad 1 (.c t8)) fun t114 =>
 rdW (.ld (.c t114)) H fun t115 =>
 pW (.fad 2 (.c t8)) fun t117 =>
 rdW (.ld (.c t117)) H fun t118 =>
 pW (.iad 1 (.c t2) (.c t118)) fun t119 =>
 rdW (.ld (.c t119)) H fun t120 =>
 pW (.iad 1 (.c t2) (.c t115)) fun t121 =>
 mW (.st 1 (.c t121) (.c t120)) H fun _ H6 =>
 RetC R (.tup []) H6)
 (pW (.bin .eql (.c t14) (.c (.int .i64 11))) fun t123 =>
 condW t123
 (pW (.fad 3 (.c t8)) fun t125 =>
 rdW (.ld (.c t125)) H fun t126 =>
 pW (.iad 1 (.c t2) (.c t126)) fun t127 =>
 rdW (.ld (.c t127)) H fun t128 =>
 pW (.bin .eql (.c t128) (.c (.int .i64 0))) fun t129 =>
 condW t129
 (pW (.fad 1 (.c t8)) fun t131 =>
 rdW (.ld (.c t131)) H fun t132 =>
 pW (.fad 2 (.c t8)) fun t134 =>
 rdW (.ld (.c t134)) H fun t135 =>
 pW (.iad 1 (.c t2) (.c t135)) fun t136 =>
 rdW (.ld (.c t136)) H fun t137 =>
 pW (.iad 1 (.c t2) (.c t132)) fun t138 =>
 mW (.st 1 (.c t138) (.c t137)) H fun _ H7 =>
 RetC R (.tup []) H7)
 (RetC R (.tup []) H))
 (pW (.bin .eql (.c t14) (.c (.int .i64 12))) fun t140 =>
 condW t140
 (pW (.fad 3 (.c t8)) fun t142 =>
 rdW (.ld (.c t142)) H fun t143 =>
 pW (.iad 1 (.c t2) (.c t143)) fun t144 =>
 rdW (.ld (.c t144)) H fun t145 =>
 pW (.bin .neq (.c t145) (.c (.int .i64 0))) fun t146 =>
 condW t146
 (pW (.fad 1 (.c t8)) fun t148 =>
 rdW (.ld (.c t148)) H fun t149 =>
 pW (.fad 2 (.c t8)) fun t151 =>
 rdW (.ld (.c t151)) H fun t152 =>
 pW (.iad 1 (.c t2) (.c t152)) fun t153 =>
 rdW (.ld (.c t153)) H fun t154 =>
 pW (.iad 1 (.c t2) (.c t149)) fun t155 =>
 mW (.st 1 (.c t155) (.c t154)) H fun _ H8 =>
 RetC R (.tup []) H8)
 (RetC R (.tup []) H))
 (pW (.bin .eql (.c t14) (.c (.int .i64 13))) fun t157 =>
 condW t157
 (pW (.fad 1 (.c t8)) fun t159 =>
 rdW (.ld (.c t159)) H fun t160 =>
 pW (.fad 4 (.c t8)) fun t161 =>
 rdW (.ld (.c t161)) H fun t162 =>
 pW (.iad 1 (.c t2) (.c t160)) fun t163 =>
 mW (.st 1 (.c t163) (.c t162)) H fun _ H9 =>
 RetC R (.tup []) H9)
 (pW (.bin .eql (.c t14) (.c (.int .i64 15))) fun t165 =>
 condW t165
 (atW (m85_3 E R) [t0, t2, t3, t8, t14, t165] H)
 (pW (.bin .eql (.c t14) (.c (.int .i64 16))) fun t166 =>
 atW (m85_3 E R) [t0, t2, t3, t8, t14, t166] H))))))))

theorem ent85 {E : Env} (hE : E.Good) (hF : E.Fits tab) (t0 t1 t2 t3 : AV) (H : Heap) (R : AHP) (h : w85 E R t0 t1 t2 t3 H) : ACall E 85 [t0, t1, t2, t3] H R :=
 acallW (b := d85) hE hF rfl (Nat.le_of_ble_eq_true rfl) (Eq.mp (by kernel_rfl : w85 E R t0 t1 t2 t3 H = DW E d85 (QF [] R) (vl [t0, t1, t2, t3]) H) h)


/-- (*fulling/fullingref32.interpreter).stop -/
def w86 (E : Env) (R : AHP) (t0 t1 t2 : AV) (H : Heap) : Prop :=
 pW (.build [.int .i64 0, .int .i64 0, .nilsl, .int .i64 0] [(0, 1, .c t1), (1, 1, .c t2)]) fun t10 =>
 pW (.nilck (.c t0)) fun t11 =>
 pW (.fad 9 (.c t11)) fun t12 =>
 mW (.st 1 (.c t12) (.c (.bool true))) H fun _ H1 =>
 pW (.nilck (.c t0)) fun t13 =>
 pW (.fad 5 (.c t13)) fun t14 =>
 mW (.st 4 (.c t14) (.c t10)) H1 fun _ H2 =>
 RetC R (.tup []) H2

theorem ent86 {E : Env} (hE : E.Good) (hF : E.Fits tab) (t0 t1 t2 : AV) (H : Heap) (R : AHP) (h : w86 E R t0 t1 t2 H) : ACall E 86 [t0, t1, t2] H R :=
 acallW (b := d86) hE hF rfl (Nat.le_of_ble_eq_true rfl) (Eq.mp (by kernel_rfl : w86 E R t0 t1 t2 H = DW E d86 (QF [] R) (vl [t0, t1, t2]) H) h)


/-- fulling/fullingref29.names -/
def w87 (E : Env) (R : AHP) (H : Heap) : Prop :=
 bsW 1 [.str ⟨#[]⟩] 38 [(0, .str ⟨#[]⟩), (1, .str ⟨#[110, 111, 112]⟩), (2, .str ⟨#[114, 101, 116]⟩), (3, .str ⟨#[116, 105, 99, 107]⟩), (4, .str ⟨#[116, 114, 97, 112]⟩), (5, .str ⟨#[106, 109, 112]⟩), (6, .str ⟨#[99, 97, 108, 108]⟩), (7, .str ⟨#[106, 122]⟩), (8, .str ⟨#[106, 110, 122]⟩), (9, .str ⟨#[111, 117, 116]⟩), (10, .str ⟨#[109, 111, 118]⟩), (11, .str ⟨#[99, 109, 111, 118, 122]⟩), (12, .str ⟨#[99, 109, 111, 118, 110, 122]⟩), (13, .str ⟨#[108, 100, 105]⟩), (14, .str ⟨#[108, 100, 99]⟩), (15, .str ⟨#[110, 101, 103]⟩), (16, .str ⟨#[110, 111, 116]⟩), (17, .str ⟨#[97, 100, 100]⟩), (18, .str ⟨#[115, 117, 98]⟩), (19, .str ⟨#[109, 117, 108]⟩), (20, .str ⟨#[100, 105, 118]⟩), (21, .str ⟨#[114, 101, 109]⟩), (22, .str ⟨#[97, 110, 100]⟩), (23, .str ⟨#[111, 114]⟩), (24, .str ⟨#[120, 111, 114]⟩), (25, .str ⟨#[115, 104, 108]⟩), (26, .str ⟨#[115, 104, 114]⟩), (27, .str ⟨#[115, 97, 114]⟩), (28, .str ⟨#[101, 113]⟩), (29, .str ⟨#[110, 101]⟩), (30, .str ⟨#[108, 116]⟩), (31, .str ⟨#[108, 101]⟩), (32, .str ⟨#[108, 116, 117]⟩), (33, .str ⟨#[97, 100, 100, 105]⟩), (34, .str ⟨#[108, 100]⟩), (35, .str ⟨#[115, 116]⟩), (36, .str ⟨#[108, 100, 115]⟩), (37, .str ⟨#[115, 116, 115]⟩)] fun t1 =>
 RetC R t1 H

theorem ent87 {E : Env} (hE : E.Good) (hF : E.Fits tab) (H : Heap) (R : AHP) (h : w87 E R  H) : ACall E 87 [] H R :=
 acallW (b := d87) hE hF rfl (Nat.le_of_ble_eq_true rfl) (Eq.mp (by kernel_rfl : w87 E R  H = DW E d87 (QF [.tmp 0] R) (vl []) H) h)


/-- fulling/fullingref29.IsBinary -/
def w88 (E : Env) (R : AHP) (t0 : AV) (H : Heap) : Prop :=
 pW (.bin .geq (.c t0) (.c (.int .i64 17))) fun t4 =>
 grpW true t4 (fun k1 => pW (.bin .leq (.c t0) (.c (.int .i64 32))) fun t7 =>
 k1 t7 H) H fun _ t8 =>
 RetC R t8 H

theorem ent88 {E : Env} (hE : E.Good) (hF : E.Fits tab) (t0 : AV) (H : Heap) (R : AHP) (h : w88 E R t0 H) : ACall E 88 [t0] H R :=
 acallW (b := d88) hE hF rfl (Nat.le_of_ble_eq_true rfl) (Eq.mp (by kernel_rfl : w88 E R t0 H = DW E d88 (QF [.tmp 2] R) (vl [t0]) H) h)


def w105_1 (E : Env) (R : AHP) (K1 : THP) (t0 t1 t2 : AV) (H : Heap) : Prop :=
 pW (.nilck (.c t0)) fun t15 =>
 pW (.fad 3 (.c t15)) fun t16 =>
 rdW (.ld (.c t16)) H fun t17 =>
 bsW 1 [.int .i64 0] 1 [(0, .int .i64 0)] fun t18 =>
 mkW (.app 1 (.c t17) (.c t18)) H fun t19 H1 =>
 pW (.nilck (.c t0)) fun t20 =>
 pW (.fad 3 (.c t20)) fun t21 =>
 mW (.st 1 (.c t21) (.c t19)) H1 fun _ H2 =>
 atW K1 [t0, t1, t2] H2
def m105_1 (E : Env) (R : AHP) (K1 : THP) : THP := fun V H => w105_1 E R K1 (V 0) (V 1) (V 2) H

def w105_2 (E : Env) (R : AHP) (t0 t1 t2 : AV) (H : Heap) : Prop :=
 pW (.nilck (.c t0)) fun t23 =>
 pW (.fad 3 (.c t23)) fun t24 =>
 rdW (.ld (.c t24)) H fun t25 =>
 pW (.iad 1 (.c t25) (.c t1)) fun t28 =>
 mW (.st 1 (.c t28) (.c t2)) H fun _ H1 =>
 RetC R (.tup []) H1
def m105_2 (E : Env) (R : AHP) : THP := fun V H => w105_2 E R (V 0) (V 1) (V 2) H

def w105_0 (E : Env) (R : AHP) (K1 : THP) (t0 t1 t2 : AV) (H : Heap) : Prop :=
 pW (.nilck (.c t0)) fun t7 =>
 pW (.fad 3 (.c t7)) fun t8 =>
 rdW (.ld (.c t8)) H fun t9 =>
 pW (.len (.c t9)) fun t10 =>
 pW (.bin .leq (.c t10) (.c t1)) fun t12 =>
 condW t12
 (atW (m105_1 E R K1) [t0, t1, t2] H)
 (atW (m105_2 E R) [t0, t1, t2] H)
def l105_0 (E : Env) (R : AHP) : THP → THP := fun K1 V H => w105_0 E R K1 (V 0) (V 1) (V 2) H

/-- (*fulling/vcode.call).set -/
def w105 (E : Env) (R : AHP) (t0 t1 t2 : AV) (H : Heap) : Prop :=
 loopW (l105_0 E R) [t0, t1, t2] H

theorem ent105 {E : Env} (hE : E.Good) (hF : E.Fits tab) (t0 t1 t2 : AV) (H : Heap) (R : AHP) (h : w105 E R t0 t1 t2 H) : ACall E 105 [t0, t1, t2] H R :=
 acallW (b := d105) hE hF rfl (Nat.le_of_ble_eq_true rfl) (Eq.mp (by kernel_rfl : w105 E R t0 t1 t2 H = DW E d105 (QF [] R) (vl [t0, t1, t2]) H) h)


/-- (*fulling/vcode.run).cell -/
def w106 (E : Env) (R : AHP) (t0 t1 t2 : AV) (H : Heap) : Prop :=
 pW (.nilck (.c t0)) fun t9 =>
 pW (.fad 1 (.c t9)) fun t10 =>
 rdW (.ld (.c t10)) H fun t11 =>
 pW (.iad 1 (.c t11) (.c t1)) fun t13 =>
 rdW (.ld (.c t13)) H fun t14 =>
 pW (.bin .lss (.c t2) (.c (.int .i64 0))) fun t16 =>
 grpW false t16 (fun k1 => pW (.len (.c t14)) fun t20 =>
 pW (.bin .geq (.c t2) (.c t20)) fun t21 =>
 k1 t21 H) H fun _ t22 =>
 condW t22
 (RetC R .nilp H)
 (pW (.iad 1 (.c t14) (.c t2)) fun t25 =>
 RetC R t25 H)

theorem ent106 {E : Env} (hE : E.Good) (hF : E.Fits tab) (t0 t1 t2 : AV) (H : Heap) (R : AHP) (h : w106 E R t0 t1 t2 H) : ACall E 106 [t0, t1, t2] H R :=
 acallW (b := d106) hE hF rfl (Nat.le_of_ble_eq_true rfl) (Eq.mp (by kernel_rfl : w106 E R t0 t1 t2 H = DW E d106 (QF [.tmp 6] R) (vl [t0, t1, t2]) H) h)


/-- fulling/word.Unary -/
def w107 (E : Env) (R : AHP) (t0 t1 : AV) (H : Heap) : Prop :=
 pW (.bin .eql (.c t0) (.c (.int .i64 20))) fun t7 =>
 condW t7
 (pW (.un .neg (.c t1)) fun t9 =>
 RetC R t9 H)
 (pW (.bin .eql (.c t0) (.c (.int .i64 21))) fun t11 =>
 condW t11
 (pW (.un .xor (.c t1)) fun t13 =>
 RetC R t13 H)
 (RetC R (.int .i64 0) H))

theorem ent107 {E : Env} (hE : E.Good) (hF : E.Fits tab) (t0 t1 : AV) (H : Heap) (R : AHP) (h : w107 E R t0 t1 H) : ACall E 107 [t0, t1] H R :=
 acallW (b := d107) hE hF rfl (Nat.le_of_ble_eq_true rfl) (Eq.mp (by kernel_rfl : w107 E R t0 t1 H = DW E d107 (QF [.tmp 4] R) (vl [t0, t1]) H) h)


def w108_0 (E : Env) (R : AHP) (t1 t2 : AV) (H : Heap) : Prop :=
 cW E 129 [t1, t2] H fun t35 H1 =>
 pW (.bin .mul (.c t35) (.c t2)) fun t37 =>
 pW (.bin .sub (.c t1) (.c t37)) fun t38 =>
 RetC R t38 H1
def m108_0 (E : Env) (R : AHP) : THP := fun V H => w108_0 E R (V 0) (V 1) H

/-- fulling/word.Binary -/
def w108 (E : Env) (R : AHP) (t0 t1 t2 : AV) (H : Heap) : Prop :=
 pW (.bin .eql (.c t0) (.c (.int .i64 4))) fun t9 =>
 condW t9
 (pW (.bin .add (.c t1) (.c t2)) fun t12 =>
 RetC R t12 H)
 (pW (.bin .eql (.c t0) (.c (.int .i64 5))) fun t14 =>
 condW t14
 (pW (.bin .sub (.c t1) (.c t2)) fun t17 =>
 RetC R t17 H)
 (pW (.bin .eql (.c t0) (.c (.int .i64 6))) fun t19 =>
 condW t19
 (pW (.bin .mul (.c t1) (.c t2)) fun t22 =>
 RetC R t22 H)
 (pW (.bin .eql (.c t0) (.c (.int .i64 7))) fun t24 =>
 condW t24
 (cW E 129 [t1, t2] H fun t27 H1 =>
 RetC R t27 H1)
 (pW (.bin .eql (.c t0) (.c (.int .i64 8))) fun t29 =>
 condW t29
 (pW (.bin .eql (.c t2) (.c (.int .i64 0))) fun t31 =>
 condW t31
 (RetC R (.int .i64 0) H)
 (atW (m108_0 E R) [t1, t2] H))
 (pW (.bin .eql (.c t0) (.c (.int .i64 9))) fun t40 =>
 condW t40
 (pW (.bin .and (.c t1) (.c t2)) fun t43 =>
 RetC R t43 H)
 (pW (.bin .eql (.c t0) (.c (.int .i64 10))) fun t45 =>
 condW t45
 (pW (.bin .or (.c t1) (.c t2)) fun t48 =>
 RetC R t48 H)
 (pW (.bin .eql (.c t0) (.c (.int .i64 11))) fun t50 =>
 condW t50
 (pW (.bin .xor (.c t1) (.c t2)) fun t53 =>
 RetC R t53 H)
 (cW E 130 [t0, t1, t2] H fun t57 H2 =>
 RetC R t57 H2))))))))

theorem ent108 {E : Env} (hE : E.Good) (hF : E.Fits tab) (t0 t1 t2 : AV) (H : Heap) (R : AHP) (h : w108 E R t0 t1 t2 H) : ACall E 108 [t0, t1, t2] H R :=
 acallW (b := d108) hE hF rfl (Nat.le_of_ble_eq_true rfl) (Eq.mp (by kernel_rfl : w108 E R t0 t1 t2 H = DW E d108 (QF [.tmp 6] R) (vl [t0, t1, t2]) H) h)


/-- fulling/fullingref29.Unary -/
def w109 (E : Env) (R : AHP) (t0 t1 : AV) (H : Heap) : Prop :=
 pW (.bin .eql (.c t0) (.c (.int .i64 15))) fun t6 =>
 condW t6
 (pW (.bin .sub (.c (.int .i64 0)) (.c t1)) fun t8 =>
 RetC R t8 H)
 (pW (.bin .sub (.c (.int .i64 (-1))) (.c t1)) fun t10 =>
 RetC R t10 H)

theorem ent109 {E : Env} (hE : E.Good) (hF : E.Fits tab) (t0 t1 : AV) (H : Heap) (R : AHP) (h : w109 E R t0 t1 H) : ACall E 109 [t0, t1] H R :=
 acallW (b := d109) hE hF rfl (Nat.le_of_ble_eq_true rfl) (Eq.mp (by kernel_rfl : w109 E R t0 t1 H = DW E d109 (QF [.tmp 4] R) (vl [t0, t1]) H) h)


/-- (*fulling/fullingref32.interpreter).memory -/
def w110 (E : Env) (R : AHP) (t0 t1 t2 : AV) (H : Heap) : Prop :=
 bxW t1 fun t4 =>
 pW (.nilck (.c t0)) fun t8 =>
 pW (.fad 1 (.c t8)) fun t9 =>
 rdW (.ld (.c t9)) H fun t10 =>
 pW (.fad 4 (.c t4)) fun t11 =>
 rdW (.ld (.c t11)) H fun t12 =>
 pW (.iad 1 (.c t10) (.c t12)) fun t13 =>
 rdW (.ld (.c t13)) H fun t14 =>
 pW (.fad 2 (.c t4)) fun t29 =>
 rdW (.ld (.c t29)) H fun t30 =>
 pW (.iad 1 (.c t2) (.c t30)) fun t31 =>
 rdW (.ld (.c t31)) H fun t32 =>
 pW (.bin .lss (.c t32) (.c (.int .i64 0))) fun t33 =>
 grpW false t33 (fun k1 => pW (.fad 2 (.c t4)) fun t36 =>
 rdW (.ld (.c t36)) H fun t37 =>
 pW (.iad 1 (.c t2) (.c t37)) fun t38 =>
 rdW (.ld (.c t38)) H fun t39 =>
 pW (.len (.c t14)) fun t41 =>
 pW (.bin .geq (.c t39) (.c t41)) fun t42 =>
 k1 t42 H) H fun _ t43 =>
 condW t43
 (cW E 86 [t0, .int .i64 2, .int .i64 2] H fun t45 H1 =>
 RetC R (.tup []) H1)
 (pW (.fad 0 (.c t4)) fun t47 =>
 rdW (.ld (.c t47)) H fun t48 =>
 pW (.bin .eql (.c t48) (.c (.int .i64 34))) fun t49 =>
 condW t49
 (pW (.fad 1 (.c t4)) fun t51 =>
 rdW (.ld (.c t51)) H fun t52 =>
 pW (.fad 2 (.c t4)) fun t55 =>
 rdW (.ld (.c t55)) H fun t56 =>
 pW (.iad 1 (.c t2) (.c t56)) fun t57 =>
 rdW (.ld (.c t57)) H fun t58 =>
 pW (.iad 1 (.c t14) (.c t58)) fun t59 =>
 rdW (.ld (.c t59)) H fun t60 =>
 pW (.iad 1 (.c t2) (.c t52)) fun t61 =>
 mW (.st 1 (.c t61) (.c t60)) H fun _ H2 =>
 RetC R (.tup []) H2)
 (pW (.fad 2 (.c t4)) fun t17 =>
 rdW (.ld (.c t17)) H fun t18 =>
 pW (.iad 1 (.c t2) (.c t18)) fun t19 =>
 rdW (.ld (.c t19)) H fun t20 =>
 pW (.fad 1 (.c t4)) fun t22 =>
 rdW (.ld (.c t22)) H fun t23 =>
 pW (.iad 1 (.c t2) (.c t23)) fun t24 =>
 rdW (.ld (.c t24)) H fun t25 =>
 pW (.iad 1 (.c t14) (.c t20)) fun t26 =>
 mW (.st 1 (.c t26) (.c t25)) H fun _ H3 =>
 RetC R (.tup []) H3))

theorem ent110 {E : Env} (hE : E.Good) (hF : E.Fits tab) (t0 t1 t2 : AV) (H : Heap) (R : AHP) (h : w110 E R t0 t1 t2 H) : ACall E 110 [t0, t1, t2] H R :=
 acallW (b := d110) hE hF rfl (Nat.le_of_ble_eq_true rfl) (Eq.mp (by kernel_rfl : w110 E R t0 t1 t2 H = DW E d110 (QF [] R) (vl [t0, t1, t2]) H) h)


def w111_0 (E : Env) (R : AHP) (t1 t2 : AV) (H : Heap) : Prop :=
 pW (.bin .eql (.c t2) (.c (.int .i64 (-1)))) fun t32 =>
 condW t32
 (pW (.bin .sub (.c (.int .i64 0)) (.c t1)) fun t34 =>
 RetC R t34 H)
 (pW (.bin .quo (.c t1) (.c t2)) fun t37 =>
 RetC R t37 H)
def m111_0 (E : Env) (R : AHP) : THP := fun V H => w111_0 E R (V 0) (V 1) H

def w111_1 (E : Env) (R : AHP) (t1 t2 : AV) (H : Heap) : Prop :=
 pW (.conv .u64 (.c t1)) fun t108 =>
 pW (.conv .u64 (.c t2)) fun t110 =>
 pW (.bin .lss (.c t108) (.c t110)) fun t111 =>
 cW E 131 [t111] H fun t112 H1 =>
 RetC R t112 H1
def m111_1 (E : Env) (R : AHP) : THP := fun V H => w111_1 E R (V 0) (V 1) H

/-- fulling/fullingref29.Binary -/
def w111 (E : Env) (R : AHP) (t0 t1 t2 : AV) (H : Heap) : Prop :=
 pW (.bin .and (.c t2) (.c (.int .i64 63))) fun t9 =>
 pW (.conv .u64 (.c t9)) fun t10 =>
 pW (.bin .eql (.c t0) (.c (.int .i64 17))) fun t13 =>
 condW t13
 (pW (.bin .add (.c t1) (.c t2)) fun t16 =>
 RetC R t16 H)
 (pW (.bin .eql (.c t0) (.c (.int .i64 18))) fun t18 =>
 condW t18
 (pW (.bin .sub (.c t1) (.c t2)) fun t21 =>
 RetC R t21 H)
 (pW (.bin .eql (.c t0) (.c (.int .i64 19))) fun t23 =>
 condW t23
 (pW (.bin .mul (.c t1) (.c t2)) fun t26 =>
 RetC R t26 H)
 (pW (.bin .eql (.c t0) (.c (.int .i64 20))) fun t28 =>
 condW t28
 (pW (.bin .eql (.c t2) (.c (.int .i64 0))) fun t30 =>
 condW t30
 (RetC R (.int .i64 0) H)
 (atW (m111_0 E R) [t1, t2] H))
 (pW (.bin .eql (.c t0) (.c (.int .i64 21))) fun t39 =>
 condW t39
 (pW (.bin .eql (.c t2) (.c (.int .i64 0))) fun t41 =>
 grpW false t41 (fun k1 => pW (.bin .eql (.c t2) (.c (.int .i64 (-1)))) fun t44 =>
 k1 t44 H) H fun _ t45 =>
 condW t45
 (RetC R (.int .i64 0) H)
 (pW (.bin .rem (.c t1) (.c t2)) fun t48 =>
 RetC R t48 H))
 (pW (.bin .eql (.c t0) (.c (.int .i64 22))) fun t50 =>
 condW t50
 (pW (.bin .and (.c t1) (.c t2)) fun t53 =>
 RetC R t53 H)
 (pW (.bin .eql (.c t0) (.c (.int .i64 23))) fun t55 =>
 condW t55
 (pW (.bin .or (.c t1) (.c t2)) fun t58 =>
 RetC R t58 H)
 (pW (.bin .eql (.c t0) (.c (.int .i64 24))) fun t60 =>
 condW t60
 (pW (.bin .xor (.c t1) (.c t2)) fun t63 =>
 RetC R t63 H)
 (pW (.bin .eql (.c t0) (.c (.int .i64 25))) fun t65 =>
 condW t65
 (pW (.conv .u64 (.c t1)) fun t67 =>
 pW (.bin .shl (.c t67) (.c t10)) fun t69 =>
 pW (.conv .i64 (.c t69)) fun t70 =>
 RetC R t70 H)
 (pW (.bin .eql (.c t0) (.c (.int .i64 26))) fun t72 =>
 condW t72
 (pW (.conv .u64 (.c t1)) fun t74 =>
 pW (.bin .shr (.c t74) (.c t10)) fun t76 =>
 pW (.conv .i64 (.c t76)) fun t77 =>
 RetC R t77 H)
 (pW (.bin .eql (.c t0) (.c (.int .i64 27))) fun t79 =>
 condW t79
 (pW (.bin .shr (.c t1) (.c t10)) fun t82 =>
 RetC R t82 H)
 (pW (.bin .eql (.c t0) (.c (.int .i64 28))) fun t84 =>
 condW t84
 (pW (.bin .eql (.c t1) (.c t2)) fun t87 =>
 cW E 131 [t87] H fun t88 H1 =>
 RetC R t88 H1)
 (pW (.bin .eql (.c t0) (.c (.int .i64 29))) fun t90 =>
 condW t90
 (pW (.bin .neq (.c t1) (.c t2)) fun t93 =>
 cW E 131 [t93] H fun t94 H2 =>
 RetC R t94 H2)
 (pW (.bin .eql (.c t0) (.c (.int .i64 30))) fun t96 =>
 condW t96
 (pW (.bin .lss (.c t1) (.c t2)) fun t99 =>
 cW E 131 [t99] H fun t100 H3 =>
 RetC R t100 H3)
 (pW (.bin .eql (.c t0) (.c (.int .i64 31))) fun t102 =>
 condW t102
 (pW (.bin .leq (.c t1) (.c t2)) fun t105 =>
 cW E 131 [t105] H fun t106 H4 =>
 RetC R t106 H4)
 (atW (m111_1 E R) [t1, t2] H)))))))))))))))

theorem ent111 {E : Env} (hE : E.Good) (hF : E.Fits tab) (t0 t1 t2 : AV) (H : Heap) (R : AHP) (h : w111 E R t0 t1 t2 H) : ACall E 111 [t0, t1, t2] H R :=
 acallW (b := d111) hE hF rfl (Nat.le_of_ble_eq_true rfl) (Eq.mp (by kernel_rfl : w111 E R t0 t1 t2 H = DW E d111 (QF [.tmp 6] R) (vl [t0, t1, t2]) H) h)


/-- fulling/word.quotient -/
def w129 (E : Env) (R : AHP) (t0 t1 : AV) (H : Heap) : Prop :=
 pW (.bin .eql (.c t1) (.c (.int .i64 0))) fun t7 =>
 condW t7
 (RetC R (.int .i64 0) H)
 (pW (.bin .eql (.c t1) (.c (.int .i64 (-1)))) fun t9 =>
 condW t9
 (pW (.un .neg (.c t0)) fun t11 =>
 RetC R t11 H)
 (pW (.bin .quo (.c t0) (.c t1)) fun t14 =>
 RetC R t14 H))

theorem ent129 {E : Env} (hE : E.Good) (hF : E.Fits tab) (t0 t1 : AV) (H : Heap) (R : AHP) (h : w129 E R t0 t1 H) : ACall E 129 [t0, t1] H R :=
 acallW (b := d129) hE hF rfl (Nat.le_of_ble_eq_true rfl) (Eq.mp (by kernel_rfl : w129 E R t0 t1 H = DW E d129 (QF [.tmp 4] R) (vl [t0, t1]) H) h)


/-- fulling/word.shiftOrCompare -/
def w130 (E : Env) (R : AHP) (t0 t1 t2 : AV) (H : Heap) : Prop :=
 pW (.bin .and (.c t2) (.c (.int .i64 63))) fun t9 =>
 pW (.conv .u64 (.c t9)) fun t10 =>
 pW (.bin .eql (.c t0) (.c (.int .i64 12))) fun t13 =>
 condW t13
 (pW (.bin .shl (.c t1) (.c t10)) fun t16 =>
 RetC R t16 H)
 (pW (.bin .eql (.c t0) (.c (.int .i64 13))) fun t18 =>
 condW t18
 (pW (.conv .u64 (.c t1)) fun t20 =>
 pW (.bin .shr (.c t20) (.c t10)) fun t22 =>
 pW (.conv .i64 (.c t22)) fun t23 =>
 RetC R t23 H)
 (pW (.bin .eql (.c t0) (.c (.int .i64 14))) fun t25 =>
 condW t25
 (pW (.bin .shr (.c t1) (.c t10)) fun t28 =>
 RetC R t28 H)
 (pW (.bin .eql (.c t0) (.c (.int .i64 15))) fun t30 =>
 condW t30
 (pW (.bin .eql (.c t1) (.c t2)) fun t33 =>
 cW E 136 [t33] H fun t34 H1 =>
 RetC R t34 H1)
 (pW (.bin .eql (.c t0) (.c (.int .i64 16))) fun t36 =>
 condW t36
 (pW (.bin .neq (.c t1) (.c t2)) fun t39 =>
 cW E 136 [t39] H fun t40 H2 =>
 RetC R t40 H2)
 (pW (.bin .eql (.c t0) (.c (.int .i64 17))) fun t42 =>
 condW t42
 (pW (.bin .lss (.c t1) (.c t2)) fun t45 =>
 cW E 136 [t45] H fun t46 H3 =>
 RetC R t46 H3)
 (pW (.bin .eql (.c t0) (.c (.int .i64 18))) fun t48 =>
 condW t48
 (pW (.bin .leq (.c t1) (.c t2)) fun t51 =>
 cW E 136 [t51] H fun t52 H4 =>
 RetC R t52 H4)
 (pW (.bin .eql (.c t0) (.c (.int .i64 19))) fun t54 =>
 condW t54
 (pW (.conv .u64 (.c t1)) fun t56 =>
 pW (.conv .u64 (.c t2)) fun t58 =>
 pW (.bin .lss (.c t56) (.c t58)) fun t59 =>
 cW E 136 [t59] H fun t60 H5 =>
 RetC R t60 H5)
 (RetC R (.int .i64 0) H))))))))

theorem ent130 {E : Env} (hE : E.Good) (hF : E.Fits tab) (t0 t1 t2 : AV) (H : Heap) (R : AHP) (h : w130 E R t0 t1 t2 H) : ACall E 130 [t0, t1, t2] H R :=
 acallW (b := d130) hE hF rfl (Nat.le_of_ble_eq_true rfl) (Eq.mp (by kernel_rfl : w130 E R t0 t1 t2 H = DW E d130 (QF [.tmp 6] R) (vl [t0, t1, t2]) H) h)


/-- fulling/fullingref29.one -/
def w131 (E : Env) (R : AHP) (t0 : AV) (H : Heap) : Prop :=
 condW t0
 (RetC R (.int .i64 1) H)
 (RetC R (.int .i64 0) H)

theorem ent131 {E : Env} (hE : E.Good) (hF : E.Fits tab) (t0 : AV) (H : Heap) (R : AHP) (h : w131 E R t0 H) : ACall E 131 [t0] H R :=
 acallW (b := d131) hE hF rfl (Nat.le_of_ble_eq_true rfl) (Eq.mp (by kernel_rfl : w131 E R t0 H = DW E d131 (QF [.tmp 2] R) (vl [t0]) H) h)


/-- fulling/word.truth -/
def w136 (E : Env) (R : AHP) (t0 : AV) (H : Heap) : Prop :=
 condW t0
 (RetC R (.int .i64 1) H)
 (RetC R (.int .i64 0) H)

theorem ent136 {E : Env} (hE : E.Good) (hF : E.Fits tab) (t0 : AV) (H : Heap) (R : AHP) (h : w136 E R t0 H) : ACall E 136 [t0] H R :=
 acallW (b := d136) hE hF rfl (Nat.le_of_ble_eq_true rfl) (Eq.mp (by kernel_rfl : w136 E R t0 H = DW E d136 (QF [.tmp 2] R) (vl [t0]) H) h)


end Go.Abs
