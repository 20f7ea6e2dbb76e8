/- A part of the proof: D0, D1, DTab -/
import Derived.KernelRfl
import Derived.Test.YtbjglnknddeflaaDoorX9
/- Abstract code, printed by a program of this session's off the loaded functions. -/
namespace Go.Abs

/-- fulling/fullinglaw32.VCodeExamples -/
def d3 : DCode :=
  .seq (.ops (.one ⟨some 0, .mov (.c (.bool false)), none⟩ <|
    .nil)) (.seq (.ops (.one ⟨some 9, .build [.int .i64 0, .int .i64 0, .int .i64 0, .int .i64 0, .int .i64 0] [(0, 1, .c (.int .i64 38))], none⟩ <|
    .one ⟨some 10, .build [.int .i64 0, .int .i64 0, .int .i64 0, .int .i64 0, .int .i64 0, .nilsl] [(0, 5, .t 9)], none⟩ <|
    .bsl 11 6 [.int .i64 0, .int .i64 0, .int .i64 0, .int .i64 0, .int .i64 0, .nilsl] 1 [(0, .t 10)] <|
    .one ⟨some 12, .build [.nilsl, .int .i64 0, .int .i64 0, .int .i64 0, .int .i64 0] [(0, 1, .t 11), (1, 1, .c (.int .i64 3))], none⟩ <|
    .bsl 13 5 [.nilsl, .int .i64 0, .int .i64 0, .int .i64 0, .int .i64 0] 1 [(0, .t 12)] <|
    .one ⟨some 14, .build [.int .i64 0, .int .i64 0, .nilsl] [(0, 1, .c (.int .i64 1)), (1, 1, .c (.int .i64 1)), (2, 1, .t 13)], none⟩ <|
    .alst 1 [.int .i64 0, .int .i64 0, .nilsl] (.t 14) <|
    .nil)) (.seq (.ops (.one ⟨some 15, .build [.int .i64 0, .int .i64 0, .int .i64 0, .int .i64 0, .int .i64 0] [(0, 1, .c (.int .i64 38))], none⟩ <|
    .one ⟨some 16, .build [.int .i64 0, .int .i64 0, .int .i64 0, .int .i64 0, .int .i64 0, .nilsl] [(0, 5, .t 15)], none⟩ <|
    .one ⟨some 17, .build [.int .i64 0, .int .i64 0, .int .i64 0, .int .i64 0, .int .i64 0] [(0, 1, .c (.int .i64 6)), (1, 1, .c (.int .i64 1))], none⟩ <|
    .bsl 18 1 [.int .i64 0] 1 [(0, .c (.int .i64 0))] <|
    .one ⟨some 19, .build [.int .i64 0, .int .i64 0, .int .i64 0, .int .i64 0, .int .i64 0, .nilsl] [(0, 5, .t 17), (5, 1, .t 18)], none⟩ <|
    .bsl 20 6 [.int .i64 0, .int .i64 0, .int .i64 0, .int .i64 0, .int .i64 0, .nilsl] 2 [(0, .t 16), (1, .t 19)] <|
    .one ⟨some 21, .build [.nilsl, .int .i64 0, .int .i64 0, .int .i64 0, .int .i64 0] [(0, 1, .t 20), (1, 1, .c (.int .i64 2)), (3, 1, .c (.int .i64 2)), (4, 1, .c (.int .i64 1))], none⟩ <|
    .one ⟨some 22, .build [.nilsl, .int .i64 0, .int .i64 0, .int .i64 0, .int .i64 0] [(1, 1, .c (.int .i64 4)), (3, 1, .c (.int .i64 9))], none⟩ <|
    .one ⟨some 23, .build [.nilsl, .int .i64 0, .int .i64 0, .int .i64 0, .int .i64 0] [(1, 1, .c (.int .i64 3)), (2, 1, .c (.int .i64 1))], none⟩ <|
    .bsl 24 5 [.nilsl, .int .i64 0, .int .i64 0, .int .i64 0, .int .i64 0] 3 [(0, .t 21), (1, .t 22), (2, .t 23)] <|
    .one ⟨some 25, .build [.int .i64 0, .int .i64 0, .nilsl] [(0, 1, .c (.int .i64 1)), (1, 1, .c (.int .i64 2)), (2, 1, .t 24)], none⟩ <|
    .alst 2 [.int .i64 0, .int .i64 0, .nilsl] (.t 25) <|
    .nil)) (.seq (.ops (.one ⟨some 27, .lda 3 (.t 1), none⟩ <|
    .one ⟨some 28, .lda 3 (.t 2), none⟩ <|
    .bsl 29 3 [.int .i64 0, .int .i64 0, .nilsl] 2 [(0, .t 27), (1, .t 28)] <|
    .bsl 30 1 [.int .i64 0] 1 [(0, .c (.int .i64 5))] <|
    .one ⟨some 31, .call (.c (.fn 13 [])) [.t 29, .c (.nilsl), .c (.int .i64 1), .t 30, .c (.int .i64 0), .c (.int .i64 9)], none⟩ <|
    .one ⟨some 26, .mov (.t 31), none⟩ <|
    .one ⟨some 32, .ext (.t 26) 0, none⟩ <|
    .one ⟨some 33, .ext (.t 26) 1, none⟩ <|
    .alst 3 [.int .i64 0, .int .i64 0, .nilsl, .int .i64 0] (.t 32) <|
    .one ⟨some 4, .mov (.t 33), none⟩ <|
    .nil)) (.seq (.ops (.one ⟨some 35, .lda 3 (.t 1), none⟩ <|
    .one ⟨some 36, .lda 3 (.t 2), none⟩ <|
    .bsl 37 3 [.int .i64 0, .int .i64 0, .nilsl] 2 [(0, .t 35), (1, .t 36)] <|
    .bsl 38 1 [.int .i64 0] 1 [(0, .c (.int .i64 0))] <|
    .one ⟨some 39, .call (.c (.fn 13 [])) [.t 37, .c (.nilsl), .c (.int .i64 1), .t 38, .c (.int .i64 0), .c (.int .i64 9)], none⟩ <|
    .one ⟨some 34, .mov (.t 39), none⟩ <|
    .one ⟨some 40, .ext (.t 34) 0, none⟩ <|
    .one ⟨some 41, .ext (.t 34) 1, none⟩ <|
    .alst 5 [.int .i64 0, .int .i64 0, .nilsl, .int .i64 0] (.t 40) <|
    .one ⟨some 6, .mov (.t 41), none⟩ <|
    .nil)) (.seq (.ops (.one ⟨some 43, .lda 3 (.t 1), none⟩ <|
    .one ⟨some 44, .lda 3 (.t 2), none⟩ <|
    .bsl 45 3 [.int .i64 0, .int .i64 0, .nilsl] 2 [(0, .t 43), (1, .t 44)] <|
    .bsl 46 1 [.int .i64 0] 1 [(0, .c (.int .i64 5))] <|
    .one ⟨some 47, .call (.c (.fn 13 [])) [.t 45, .c (.nilsl), .c (.int .i64 1), .t 46, .c (.int .i64 0), .c (.int .i64 5)], none⟩ <|
    .one ⟨some 42, .mov (.t 47), none⟩ <|
    .one ⟨some 48, .ext (.t 42) 0, none⟩ <|
    .one ⟨some 49, .ext (.t 42) 1, none⟩ <|
    .alst 7 [.int .i64 0, .int .i64 0, .nilsl, .int .i64 0] (.t 48) <|
    .one ⟨some 8, .mov (.t 49), none⟩ <|
    .nil)) (.seq (.ops (.one ⟨some 50, .lda 3 (.t 2), none⟩ <|
    .one ⟨some 51, .call (.c (.fn 14 [])) [.t 50], none⟩ <|
    .one ⟨some 52, .mov (.t 51), none⟩ <|
    .grp (.one ⟨some 53, .mov (.t 4), some (52, true)⟩ <|
    .nil) 54 52 true 53 none <|
    .one ⟨some 55, .mov (.t 54), none⟩ <|
    .grp (.one ⟨some 56, .lda 4 (.t 3), some (55, true)⟩ <|
    .one ⟨some 57, .build [.int .i64 0, .int .i64 0, .nilsl, .int .i64 0] [(0, 1, .c (.int .i64 1)), (3, 1, .c (.int .i64 5))], some (55, true)⟩ <|
    .one ⟨some 58, .call (.c (.fn 15 [])) [.t 56, .t 57], some (55, true)⟩ <|
    .nil) 59 55 true 58 none <|
    .one ⟨some 60, .mov (.t 59), none⟩ <|
    .grp (.one ⟨some 61, .mov (.t 6), some (60, true)⟩ <|
    .nil) 62 60 true 61 none <|
    .one ⟨some 63, .mov (.t 62), none⟩ <|
    .grp (.one ⟨some 64, .lda 4 (.t 5), some (63, true)⟩ <|
    .one ⟨some 65, .build [.int .i64 0, .int .i64 0, .nilsl, .int .i64 0] [(0, 1, .c (.int .i64 2)), (1, 1, .c (.int .i64 9))], some (63, true)⟩ <|
    .one ⟨some 66, .call (.c (.fn 15 [])) [.t 64, .t 65], some (63, true)⟩ <|
    .nil) 67 63 true 66 none <|
    .one ⟨some 68, .mov (.t 67), none⟩ <|
    .grp (.one ⟨some 69, .mov (.t 8), some (68, true)⟩ <|
    .one ⟨some 70, .un .not (.t 69), some (68, true)⟩ <|
    .nil) 71 68 true 70 none <|
    .one ⟨some 72, .mov (.t 71), none⟩ <|
    .one ⟨some 73, .fad 2 (.t 2), some (72, true)⟩ <|
    .one ⟨some 74, .ld (.t 73), some (72, true)⟩ <|
    .one ⟨some 75, .iad 5 (.t 74) (.c (.int .i64 0)), some (72, true)⟩ <|
    .one ⟨some 76, .lda 5 (.t 75), some (72, true)⟩ <|
    .one ⟨some 77, .call (.c (.fn 17 [])) [.t 76], some (72, true)⟩ <|
    .one ⟨some 78, .bsl 1 [.int .i64 0] 2 [(0, .c (.int .i64 1)), (1, .c (.int .i64 2))], some (72, true)⟩ <|
    .grp (.one ⟨some 79, .call (.c (.fn 16 [])) [.t 77, .t 78], some (72, true)⟩ <|
    .nil) 80 72 true 79 none <|
    .one ⟨some 0, .mov (.t 80), none⟩ <|
    .nil)) (.ret)))))))
def code3 : AFunc := ⟨81, [.tmp 0], d3.strip⟩

/-- fulling/vcode.Run -/
def d13 : DCode :=
  .seq (.ops (.one ⟨some 12, .alloc [.int .i64 0, .int .i64 0, .nilsl, .int .i64 0], none⟩ <|
    .one ⟨some 13, .mov (.c (.bool false)), none⟩ <|
    .nil)) (.seq (.seq (.ops (.one ⟨some 18, .mov (.t 0), none⟩ <|
    .one ⟨some 19, .mov (.t 1), none⟩ <|
    .one ⟨some 20, .call (.c (.fn 23 [])) [.t 18, .t 19], none⟩ <|
    .one ⟨some 21, .un .not (.t 20), none⟩ <|
    .one ⟨some 22, .mov (.t 21), none⟩ <|
    .grp (.one ⟨some 23, .mov (.t 2), some (22, false)⟩ <|
    .one ⟨some 24, .bin .lss (.t 23) (.c (.int .i64 0)), some (22, false)⟩ <|
    .nil) 25 22 false 24 none <|
    .one ⟨some 26, .mov (.t 25), none⟩ <|
    .grp (.one ⟨some 27, .mov (.t 2), some (26, false)⟩ <|
    .one ⟨some 28, .mov (.t 0), some (26, false)⟩ <|
    .one ⟨some 29, .len (.t 28), some (26, false)⟩ <|
    .one ⟨some 30, .bin .geq (.t 27) (.t 29), some (26, false)⟩ <|
    .nil) 31 26 false 30 none <|
    .one ⟨some 32, .mov (.t 31), none⟩ <|
    .grp (.one ⟨some 33, .mov (.t 3), some (32, false)⟩ <|
    .one ⟨some 34, .len (.t 33), some (32, false)⟩ <|
    .one ⟨some 35, .mov (.t 0), some (32, false)⟩ <|
    .one ⟨some 36, .mov (.t 2), some (32, false)⟩ <|
    .one ⟨some 37, .iad 3 (.t 35) (.t 36), some (32, false)⟩ <|
    .one ⟨some 38, .fad 0 (.t 37), some (32, false)⟩ <|
    .one ⟨some 39, .ld (.t 38), some (32, false)⟩ <|
    .one ⟨some 40, .bin .neq (.t 34) (.t 39), some (32, false)⟩ <|
    .nil) 41 32 false 40 none <|
    .one ⟨some 42, .mov (.t 41), none⟩ <|
    .grp (.one ⟨some 43, .mov (.t 4), some (42, false)⟩ <|
    .one ⟨some 44, .bin .lss (.t 43) (.c (.int .i64 0)), some (42, false)⟩ <|
    .nil) 45 42 false 44 none <|
    .one ⟨some 46, .mov (.t 45), none⟩ <|
    .grp (.one ⟨some 47, .mov (.t 4), some (46, false)⟩ <|
    .one ⟨some 48, .bin .gtr (.t 47) (.c (.int .i64 1000)), some (46, false)⟩ <|
    .nil) 49 46 false 48 none <|
    .nil)) (.cond (.t 49) (.seq (.ops (.one ⟨some 50, .build [.int .i64 0, .int .i64 0, .nilsl, .int .i64 0] [], none⟩ <|
    .one ⟨none, .st 4 (.t 12) (.t 50), none⟩ <|
    .one ⟨some 13, .mov (.c (.bool false)), none⟩ <|
    .nil)) (.ret)) (.skip))) (.mark [0, 1, 2, 3, 4, 5, 12] (.seq (.ops (.one ⟨some 51, .mov (.t 0), none⟩ <|
    .one ⟨some 52, .mov (.t 4), none⟩ <|
    .one ⟨some 53, .mov (.t 0), none⟩ <|
    .one ⟨some 54, .mov (.t 2), none⟩ <|
    .one ⟨some 55, .iad 3 (.t 53) (.t 54), none⟩ <|
    .one ⟨some 56, .lda 3 (.t 55), none⟩ <|
    .one ⟨some 57, .mov (.t 3), none⟩ <|
    .one ⟨some 58, .build [.int .i64 0, .int .i64 0, .nilsl, .nilsl, .nilsl, .int .i64 0, .int .i64 0, .int .i64 0] [(0, 3, .t 56), (4, 1, .t 57)], none⟩ <|
    .one ⟨some 59, .box (.t 58), none⟩ <|
    .one ⟨some 60, .bsl 1 [.nilp] 1 [(0, .t 59)], none⟩ <|
    .one ⟨some 61, .build [.nilsl, .nilsl, .nilsl, .int .i64 0, .bool false, .int .i64 0, .int .i64 0, .nilsl, .int .i64 0] [(0, 1, .t 51), (3, 1, .t 52), (2, 1, .t 60)], none⟩ <|
    .one ⟨some 62, .box (.t 61), none⟩ <|
    .one ⟨some 14, .mov (.t 62), none⟩ <|
    .nil)) (.seq (.seq (.ops (.one ⟨some 63, .mov (.t 1), none⟩ <|
    .one ⟨some 64, .len (.t 63), none⟩ <|
    .one ⟨some 65, .mov (.c (.int .i64 0)), none⟩ <|
    .nil)) (.block 0 (.loop [5, 12, 14, 63, 64, 65] (.seq (.ops (.one ⟨some 66, .bin .lss (.t 65) (.t 64), none⟩ <|
    .nil)) (.seq (.cond (.t 66) (.skip) (.exit 0)) (.mark [5, 12, 14, 63, 64, 65] (.seq (.block 1 (.seq (.ops (.one ⟨some 67, .iad 1 (.t 63) (.t 65), none⟩ <|
    .one ⟨some 68, .ld (.t 67), none⟩ <|
    .one ⟨some 16, .mov (.t 68), none⟩ <|
    .nil)) (.drawq (.one ⟨some 69, .mov (.t 14), none⟩ <|
    .one ⟨some 70, .mov (.t 14), none⟩ <|
    .one ⟨some 71, .nilck (.t 70), none⟩ <|
    .one ⟨some 72, .fad 1 (.t 71), none⟩ <|
    .one ⟨some 73, .ld (.t 72), none⟩ <|
    .one ⟨some 74, .mov (.t 16), none⟩ <|
    .one ⟨some 75, .mksl 1 8 [.int .i64 0] (.t 74) (.t 74), none⟩ <|
    .one ⟨some 76, .bsl 1 [.nilsl] 1 [(0, .t 75)], none⟩ <|
    .one ⟨some 77, .app 1 (.t 73) (.t 76), none⟩ <|
    .one ⟨some 78, .nilck (.t 69), none⟩ <|
    .one ⟨some 79, .fad 1 (.t 78), none⟩ <|
    .one ⟨none, .st 1 (.t 79) (.t 77), none⟩ <|
    .nil) [(4, 6), (4, 7)]))) (.ops (.one ⟨some 80, .bin .add (.t 65) (.c (.int .i64 1)), none⟩ <|
    .one ⟨some 65, .mov (.t 80), none⟩ <|
    .nil))))))))) (.mark [5, 12, 14] (.seq (.seq (.ops (.one ⟨some 17, .mov (.c (.int .i64 0)), none⟩ <|
    .nil)) (.block 2 (.loop [5, 12, 14, 17] (.seq (.seq (.ops (.one ⟨some 81, .mov (.t 17), none⟩ <|
    .one ⟨some 82, .mov (.t 5), none⟩ <|
    .one ⟨some 83, .bin .lss (.t 81) (.t 82), none⟩ <|
    .one ⟨some 84, .mov (.t 83), none⟩ <|
    .grp (.one ⟨some 85, .mov (.t 14), some (84, true)⟩ <|
    .one ⟨some 86, .nilck (.t 85), some (84, true)⟩ <|
    .one ⟨some 87, .fad 4 (.t 86), some (84, true)⟩ <|
    .one ⟨some 88, .ld (.t 87), some (84, true)⟩ <|
    .one ⟨some 89, .un .not (.t 88), some (84, true)⟩ <|
    .nil) 90 84 true 89 none <|
    .nil)) (.cond (.t 90) (.skip) (.exit 2))) (.seq (.block 3 (.ops (.one ⟨some 93, .mov (.t 14), none⟩ <|
    .one ⟨some 94, .call (.c (.fn 42 [])) [.t 93], none⟩ <|
    .nil))) (.ops (.one ⟨some 91, .mov (.t 17), none⟩ <|
    .one ⟨some 92, .bin .add (.t 91) (.c (.int .i64 1)), none⟩ <|
    .one ⟨some 17, .mov (.t 92), none⟩ <|
    .nil))))))) (.mark [12, 14] (.seq (.seq (.ops (.one ⟨some 95, .mov (.t 14), none⟩ <|
    .one ⟨some 96, .nilck (.t 95), none⟩ <|
    .one ⟨some 97, .fad 4 (.t 96), none⟩ <|
    .one ⟨some 98, .ld (.t 97), none⟩ <|
    .one ⟨some 99, .un .not (.t 98), none⟩ <|
    .nil)) (.cond (.t 99) (.seq (.ops (.one ⟨some 100, .build [.int .i64 0, .int .i64 0, .nilsl, .int .i64 0] [], none⟩ <|
    .one ⟨none, .st 4 (.t 12) (.t 100), none⟩ <|
    .one ⟨some 13, .mov (.c (.bool false)), none⟩ <|
    .nil)) (.ret)) (.skip))) (.mark [12, 14] (.seq (.ops (.one ⟨some 101, .mov (.t 14), none⟩ <|
    .one ⟨some 102, .nilck (.t 101), none⟩ <|
    .one ⟨some 103, .fad 5 (.t 102), none⟩ <|
    .one ⟨some 104, .lda 4 (.t 103), none⟩ <|
    .one ⟨none, .st 4 (.t 12) (.t 104), none⟩ <|
    .one ⟨some 13, .mov (.c (.bool true)), none⟩ <|
    .nil)) (.ret)))))))))))
def code13 : AFunc := ⟨105, [.lda 4 12, .tmp 13], d13.strip⟩

/-- fulling/vcode.Valid -/
def d14 : DCode :=
  .seq (.ops (.box 1 (.t 0) <|
    .one ⟨some 2, .mov (.c (.bool false)), none⟩ <|
    .nil)) (.seq (.seq (.ops (.one ⟨some 10, .fad 0 (.t 1), none⟩ <|
    .one ⟨some 11, .ld (.t 10), none⟩ <|
    .one ⟨some 12, .bin .lss (.t 11) (.c (.int .i64 0)), none⟩ <|
    .one ⟨some 13, .mov (.t 12), none⟩ <|
    .grp (.one ⟨some 14, .fad 0 (.t 1), some (13, false)⟩ <|
    .one ⟨some 15, .ld (.t 14), some (13, false)⟩ <|
    .one ⟨some 16, .bin .gtr (.t 15) (.c (.int .i64 6)), some (13, false)⟩ <|
    .nil) 17 13 false 16 none <|
    .one ⟨some 18, .mov (.t 17), none⟩ <|
    .grp (.one ⟨some 19, .fad 1 (.t 1), some (18, false)⟩ <|
    .one ⟨some 20, .ld (.t 19), some (18, false)⟩ <|
    .one ⟨some 21, .bin .lss (.t 20) (.c (.int .i64 0)), some (18, false)⟩ <|
    .nil) 22 18 false 21 none <|
    .one ⟨some 23, .mov (.t 22), none⟩ <|
    .grp (.one ⟨some 24, .fad 1 (.t 1), some (23, false)⟩ <|
    .one ⟨some 25, .ld (.t 24), some (23, false)⟩ <|
    .one ⟨some 26, .bin .gtr (.t 25) (.c (.int .i64 3000)), some (23, false)⟩ <|
    .nil) 27 23 false 26 none <|
    .one ⟨some 28, .mov (.t 27), none⟩ <|
    .grp (.one ⟨some 29, .fad 2 (.t 1), some (28, false)⟩ <|
    .one ⟨some 30, .ld (.t 29), some (28, false)⟩ <|
    .one ⟨some 31, .len (.t 30), some (28, false)⟩ <|
    .one ⟨some 32, .bin .lss (.t 31) (.c (.int .i64 1)), some (28, false)⟩ <|
    .nil) 33 28 false 32 none <|
    .one ⟨some 34, .mov (.t 33), none⟩ <|
    .grp (.one ⟨some 35, .fad 2 (.t 1), some (34, false)⟩ <|
    .one ⟨some 36, .ld (.t 35), some (34, false)⟩ <|
    .one ⟨some 37, .len (.t 36), some (34, false)⟩ <|
    .one ⟨some 38, .bin .gtr (.t 37) (.c (.int .i64 1000)), some (34, false)⟩ <|
    .nil) 39 34 false 38 none <|
    .nil)) (.cond (.t 39) (.seq (.ops (.one ⟨some 2, .mov (.c (.bool false)), none⟩ <|
    .nil)) (.ret)) (.skip))) (.mark [1] (.seq (.ops (.one ⟨some 40, .mkfn 43 [.t 1], none⟩ <|
    .one ⟨some 3, .mov (.t 40), none⟩ <|
    .nil)) (.seq (.ops (.one ⟨some 41, .mkfn 44 [.t 1], none⟩ <|
    .one ⟨some 4, .mov (.t 41), none⟩ <|
    .nil)) (.seq (.seq (.ops (.one ⟨some 42, .fad 2 (.t 1), none⟩ <|
    .one ⟨some 43, .ld (.t 42), none⟩ <|
    .one ⟨some 44, .len (.t 43), none⟩ <|
    .one ⟨some 45, .mov (.c (.int .i64 0)), none⟩ <|
    .nil)) (.block 0 (.loop [1, 3, 4, 43, 44, 45] (.seq (.ops (.one ⟨some 46, .bin .lss (.t 45) (.t 44), none⟩ <|
    .nil)) (.seq (.cond (.t 46) (.skip) (.exit 0)) (.mark [1, 3, 4, 43, 44, 45] (.seq (.block 1 (.seq (.ops (.one ⟨some 47, .iad 5 (.t 43) (.t 45), none⟩ <|
    .one ⟨some 48, .lda 5 (.t 47), none⟩ <|
    .alst 6 [.nilsl, .int .i64 0, .int .i64 0, .int .i64 0, .int .i64 0] (.t 48) <|
    .nil)) (.seq (.seq (.ops (.one ⟨some 49, .fad 0 (.t 6), none⟩ <|
    .one ⟨some 50, .ld (.t 49), none⟩ <|
    .one ⟨some 51, .len (.t 50), none⟩ <|
    .one ⟨some 52, .mov (.c (.int .i64 0)), none⟩ <|
    .nil)) (.block 2 (.loop [1, 3, 4, 6, 43, 44, 45, 50, 51, 52] (.seq (.ops (.one ⟨some 53, .bin .lss (.t 52) (.t 51), none⟩ <|
    .nil)) (.seq (.cond (.t 53) (.skip) (.exit 2)) (.mark [1, 3, 4, 6, 43, 44, 45, 50, 51, 52] (.seq (.block 3 (.seq (.ops (.one ⟨some 54, .iad 6 (.t 50) (.t 52), none⟩ <|
    .one ⟨some 55, .lda 6 (.t 54), none⟩ <|
    .alst 8 [.int .i64 0, .int .i64 0, .int .i64 0, .int .i64 0, .int .i64 0, .nilsl] (.t 55) <|
    .nil)) (.seq (.ops (.one ⟨some 56, .lda 3 (.t 1), none⟩ <|
    .one ⟨some 57, .lda 6 (.t 8), none⟩ <|
    .one ⟨some 58, .call (.c (.fn 45 [])) [.t 56, .t 57], none⟩ <|
    .one ⟨some 59, .un .not (.t 58), none⟩ <|
    .nil)) (.cond (.t 59) (.seq (.ops (.one ⟨some 2, .mov (.c (.bool false)), none⟩ <|
    .nil)) (.ret)) (.skip))))) (.ops (.one ⟨some 60, .bin .add (.t 52) (.c (.int .i64 1)), none⟩ <|
    .one ⟨some 52, .mov (.t 60), none⟩ <|
    .nil))))))))) (.mark [1, 3, 4, 6, 43, 44, 45] (.seq (.ops (.one ⟨some 9, .mov (.c (.bool false)), none⟩ <|
    .nil)) (.seq (.seq (.ops (.one ⟨some 61, .fad 1 (.t 6), none⟩ <|
    .one ⟨some 62, .ld (.t 61), none⟩ <|
    .nil)) (.block 4 (.seq (.ops (.one ⟨some 64, .bin .eql (.t 62) (.c (.int .i64 1)), none⟩ <|
    .one ⟨some 63, .mov (.t 64), none⟩ <|
    .nil)) (.cond (.t 63) (.ops (.one ⟨some 65, .mov (.t 3), none⟩ <|
    .one ⟨some 66, .fad 3 (.t 6), none⟩ <|
    .one ⟨some 67, .ld (.t 66), none⟩ <|
    .one ⟨some 68, .call (.t 65) [.t 67], none⟩ <|
    .one ⟨some 69, .mov (.t 68), none⟩ <|
    .grp (.one ⟨some 70, .fad 2 (.t 6), some (69, true)⟩ <|
    .one ⟨some 71, .ld (.t 70), some (69, true)⟩ <|
    .one ⟨some 72, .bin .eql (.t 71) (.c (.int .i64 0)), some (69, true)⟩ <|
    .nil) 73 69 true 72 none <|
    .one ⟨some 74, .mov (.t 73), none⟩ <|
    .grp (.one ⟨some 75, .fad 4 (.t 6), some (74, true)⟩ <|
    .one ⟨some 76, .ld (.t 75), some (74, true)⟩ <|
    .one ⟨some 77, .bin .eql (.t 76) (.c (.int .i64 0)), some (74, true)⟩ <|
    .nil) 78 74 true 77 none <|
    .one ⟨some 9, .mov (.t 78), none⟩ <|
    .nil)) (.seq (.ops (.one ⟨some 80, .bin .eql (.t 62) (.c (.int .i64 2)), none⟩ <|
    .one ⟨some 79, .mov (.t 80), none⟩ <|
    .nil)) (.cond (.t 79) (.ops (.one ⟨some 81, .mov (.t 3), none⟩ <|
    .one ⟨some 82, .fad 3 (.t 6), none⟩ <|
    .one ⟨some 83, .ld (.t 82), none⟩ <|
    .one ⟨some 84, .call (.t 81) [.t 83], none⟩ <|
    .one ⟨some 85, .mov (.t 84), none⟩ <|
    .grp (.one ⟨some 86, .mov (.t 3), some (85, true)⟩ <|
    .one ⟨some 87, .fad 4 (.t 6), some (85, true)⟩ <|
    .one ⟨some 88, .ld (.t 87), some (85, true)⟩ <|
    .one ⟨some 89, .call (.t 86) [.t 88], some (85, true)⟩ <|
    .nil) 90 85 true 89 none <|
    .one ⟨some 91, .mov (.t 90), none⟩ <|
    .grp (.one ⟨some 92, .mov (.t 4), some (91, true)⟩ <|
    .one ⟨some 93, .fad 2 (.t 6), some (91, true)⟩ <|
    .one ⟨some 94, .ld (.t 93), some (91, true)⟩ <|
    .one ⟨some 95, .call (.t 92) [.t 94], some (91, true)⟩ <|
    .nil) 96 91 true 95 none <|
    .one ⟨some 9, .mov (.t 96), none⟩ <|
    .nil)) (.seq (.ops (.one ⟨some 98, .bin .eql (.t 62) (.c (.int .i64 3)), none⟩ <|
    .one ⟨some 97, .mov (.t 98), none⟩ <|
    .nil)) (.cond (.t 97) (.ops (.one ⟨some 99, .mov (.t 4), none⟩ <|
    .one ⟨some 100, .fad 2 (.t 6), none⟩ <|
    .one ⟨some 101, .ld (.t 100), none⟩ <|
    .one ⟨some 102, .call (.t 99) [.t 101], none⟩ <|
    .one ⟨some 103, .mov (.t 102), none⟩ <|
    .grp (.one ⟨some 104, .fad 3 (.t 6), some (103, true)⟩ <|
    .one ⟨some 105, .ld (.t 104), some (103, true)⟩ <|
    .one ⟨some 106, .bin .eql (.t 105) (.c (.int .i64 0)), some (103, true)⟩ <|
    .nil) 107 103 true 106 none <|
    .one ⟨some 108, .mov (.t 107), none⟩ <|
    .grp (.one ⟨some 109, .fad 4 (.t 6), some (108, true)⟩ <|
    .one ⟨some 110, .ld (.t 109), some (108, true)⟩ <|
    .one ⟨some 111, .bin .eql (.t 110) (.c (.int .i64 0)), some (108, true)⟩ <|
    .nil) 112 108 true 111 none <|
    .one ⟨some 9, .mov (.t 112), none⟩ <|
    .nil)) (.seq (.ops (.one ⟨some 114, .bin .eql (.t 62) (.c (.int .i64 4)), none⟩ <|
    .one ⟨some 113, .mov (.t 114), none⟩ <|
    .nil)) (.cond (.t 113) (.ops (.one ⟨some 115, .fad 3 (.t 6), none⟩ <|
    .one ⟨some 116, .ld (.t 115), none⟩ <|
    .one ⟨some 117, .bin .geq (.t 116) (.c (.int .i64 1)), none⟩ <|
    .one ⟨some 118, .mov (.t 117), none⟩ <|
    .grp (.one ⟨some 119, .fad 3 (.t 6), some (118, true)⟩ <|
    .one ⟨some 120, .ld (.t 119), some (118, true)⟩ <|
    .one ⟨some 121, .bin .lss (.t 120) (.c (.int .i64 33554432)), some (118, true)⟩ <|
    .nil) 122 118 true 121 none <|
    .one ⟨some 123, .mov (.t 122), none⟩ <|
    .grp (.one ⟨some 124, .fad 2 (.t 6), some (123, true)⟩ <|
    .one ⟨some 125, .ld (.t 124), some (123, true)⟩ <|
    .one ⟨some 126, .bin .eql (.t 125) (.c (.int .i64 0)), some (123, true)⟩ <|
    .nil) 127 123 true 126 none <|
    .one ⟨some 128, .mov (.t 127), none⟩ <|
    .grp (.one ⟨some 129, .fad 4 (.t 6), some (128, true)⟩ <|
    .one ⟨some 130, .ld (.t 129), some (128, true)⟩ <|
    .one ⟨some 131, .bin .eql (.t 130) (.c (.int .i64 0)), some (128, true)⟩ <|
    .nil) 132 128 true 131 none <|
    .one ⟨some 9, .mov (.t 132), none⟩ <|
    .nil)) (.skip))))))))))) (.seq (.ops (.one ⟨some 133, .mov (.t 9), none⟩ <|
    .one ⟨some 134, .un .not (.t 133), none⟩ <|
    .nil)) (.cond (.t 134) (.seq (.ops (.one ⟨some 2, .mov (.c (.bool false)), none⟩ <|
    .nil)) (.ret)) (.skip))))))))) (.ops (.one ⟨some 135, .bin .add (.t 45) (.c (.int .i64 1)), none⟩ <|
    .one ⟨some 45, .mov (.t 135), none⟩ <|
    .nil))))))))) (.seq (.ops (.one ⟨some 2, .mov (.c (.bool true)), none⟩ <|
    .nil)) (.ret)))))))
def code14 : AFunc := ⟨136, [.tmp 2], d14.strip⟩

/-- fulling/fullingref29.SameOutcome -/
def d15 : DCode :=
  .seq (.ops (.box 2 (.t 0) <|
    .box 3 (.t 1) <|
    .one ⟨some 4, .mov (.c (.bool false)), none⟩ <|
    .nil)) (.seq (.seq (.ops (.one ⟨some 6, .fad 0 (.t 2), none⟩ <|
    .one ⟨some 7, .ld (.t 6), none⟩ <|
    .one ⟨some 8, .fad 0 (.t 3), none⟩ <|
    .one ⟨some 9, .ld (.t 8), none⟩ <|
    .one ⟨some 10, .bin .neq (.t 7) (.t 9), none⟩ <|
    .one ⟨some 11, .mov (.t 10), none⟩ <|
    .grp (.one ⟨some 12, .fad 1 (.t 2), some (11, false)⟩ <|
    .one ⟨some 13, .ld (.t 12), some (11, false)⟩ <|
    .one ⟨some 14, .fad 1 (.t 3), some (11, false)⟩ <|
    .one ⟨some 15, .ld (.t 14), some (11, false)⟩ <|
    .one ⟨some 16, .bin .neq (.t 13) (.t 15), some (11, false)⟩ <|
    .nil) 17 11 false 16 none <|
    .one ⟨some 18, .mov (.t 17), none⟩ <|
    .grp (.one ⟨some 19, .fad 3 (.t 2), some (18, false)⟩ <|
    .one ⟨some 20, .ld (.t 19), some (18, false)⟩ <|
    .one ⟨some 21, .fad 3 (.t 3), some (18, false)⟩ <|
    .one ⟨some 22, .ld (.t 21), some (18, false)⟩ <|
    .one ⟨some 23, .bin .neq (.t 20) (.t 22), some (18, false)⟩ <|
    .nil) 24 18 false 23 none <|
    .one ⟨some 25, .mov (.t 24), none⟩ <|
    .grp (.one ⟨some 26, .fad 2 (.t 2), some (25, false)⟩ <|
    .one ⟨some 27, .ld (.t 26), some (25, false)⟩ <|
    .one ⟨some 28, .len (.t 27), some (25, false)⟩ <|
    .one ⟨some 29, .fad 2 (.t 3), some (25, false)⟩ <|
    .one ⟨some 30, .ld (.t 29), some (25, false)⟩ <|
    .one ⟨some 31, .len (.t 30), some (25, false)⟩ <|
    .one ⟨some 32, .bin .neq (.t 28) (.t 31), some (25, false)⟩ <|
    .nil) 33 25 false 32 none <|
    .nil)) (.cond (.t 33) (.seq (.ops (.one ⟨some 4, .mov (.c (.bool false)), none⟩ <|
    .nil)) (.ret)) (.skip))) (.mark [2, 3] (.seq (.seq (.ops (.one ⟨some 5, .mov (.c (.int .i64 0)), none⟩ <|
    .nil)) (.block 0 (.loop [2, 3, 5] (.seq (.seq (.ops (.one ⟨some 34, .mov (.t 5), none⟩ <|
    .one ⟨some 35, .fad 2 (.t 2), none⟩ <|
    .one ⟨some 36, .ld (.t 35), none⟩ <|
    .one ⟨some 37, .len (.t 36), none⟩ <|
    .one ⟨some 38, .bin .lss (.t 34) (.t 37), none⟩ <|
    .nil)) (.cond (.t 38) (.skip) (.exit 0))) (.mark [2, 3, 5] (.seq (.block 1 (.seq (.drawq (.one ⟨some 41, .fad 2 (.t 2), none⟩ <|
    .one ⟨some 42, .ld (.t 41), none⟩ <|
    .one ⟨some 43, .mov (.t 5), none⟩ <|
    .one ⟨some 44, .iad 1 (.t 42) (.t 43), none⟩ <|
    .one ⟨some 45, .ld (.t 44), none⟩ <|
    .one ⟨some 46, .fad 2 (.t 3), none⟩ <|
    .one ⟨some 47, .ld (.t 46), none⟩ <|
    .one ⟨some 48, .mov (.t 5), none⟩ <|
    .one ⟨some 49, .iad 1 (.t 47) (.t 48), none⟩ <|
    .one ⟨some 50, .ld (.t 49), none⟩ <|
    .one ⟨some 51, .bin .neq (.t 45) (.t 50), none⟩ <|
    .nil) []) (.cond (.t 51) (.seq (.ops (.one ⟨some 4, .mov (.c (.bool false)), none⟩ <|
    .nil)) (.ret)) (.skip)))) (.ops (.one ⟨some 39, .mov (.t 5), none⟩ <|
    .one ⟨some 40, .bin .add (.t 39) (.c (.int .i64 1)), none⟩ <|
    .one ⟨some 5, .mov (.t 40), none⟩ <|
    .nil)))))))) (.seq (.ops (.one ⟨some 4, .mov (.c (.bool true)), none⟩ <|
    .nil)) (.ret)))))
def code15 : AFunc := ⟨52, [.tmp 4], d15.strip⟩

/-- fulling/fullingref22.SameInts -/
def d16 : DCode :=
  .seq (.ops (.one ⟨some 4, .mov (.c (.bool false)), none⟩ <|
    .nil)) (.seq (.seq (.ops (.one ⟨some 6, .mov (.t 0), none⟩ <|
    .one ⟨some 7, .len (.t 6), none⟩ <|
    .one ⟨some 8, .mov (.t 1), none⟩ <|
    .one ⟨some 9, .len (.t 8), none⟩ <|
    .one ⟨some 10, .bin .neq (.t 7) (.t 9), none⟩ <|
    .nil)) (.cond (.t 10) (.seq (.ops (.one ⟨some 4, .mov (.c (.bool false)), none⟩ <|
    .nil)) (.ret)) (.skip))) (.mark [0, 1] (.seq (.seq (.ops (.one ⟨some 5, .mov (.c (.int .i64 0)), none⟩ <|
    .nil)) (.block 0 (.loop [0, 1, 5] (.seq (.seq (.ops (.one ⟨some 11, .mov (.t 5), none⟩ <|
    .one ⟨some 12, .mov (.t 0), none⟩ <|
    .one ⟨some 13, .len (.t 12), none⟩ <|
    .one ⟨some 14, .bin .lss (.t 11) (.t 13), none⟩ <|
    .nil)) (.cond (.t 14) (.skip) (.exit 0))) (.mark [0, 1, 5] (.seq (.block 1 (.seq (.drawq (.one ⟨some 17, .mov (.t 0), none⟩ <|
    .one ⟨some 18, .mov (.t 5), none⟩ <|
    .one ⟨some 19, .iad 1 (.t 17) (.t 18), none⟩ <|
    .one ⟨some 20, .ld (.t 19), none⟩ <|
    .one ⟨some 21, .mov (.t 1), none⟩ <|
    .one ⟨some 22, .mov (.t 5), none⟩ <|
    .one ⟨some 23, .iad 1 (.t 21) (.t 22), none⟩ <|
    .one ⟨some 24, .ld (.t 23), none⟩ <|
    .one ⟨some 25, .bin .neq (.t 20) (.t 24), none⟩ <|
    .nil) []) (.cond (.t 25) (.seq (.ops (.one ⟨some 4, .mov (.c (.bool false)), none⟩ <|
    .nil)) (.ret)) (.skip)))) (.ops (.one ⟨some 15, .mov (.t 5), none⟩ <|
    .one ⟨some 16, .bin .add (.t 15) (.c (.int .i64 1)), none⟩ <|
    .one ⟨some 5, .mov (.t 16), none⟩ <|
    .nil)))))))) (.seq (.ops (.one ⟨some 4, .mov (.c (.bool true)), none⟩ <|
    .nil)) (.ret)))))
def code16 : AFunc := ⟨26, [.tmp 4], d16.strip⟩

/-- fulling/vcode.Successors -/
def d17 : DCode :=
  .seq (.ops (.box 1 (.t 0) <|
    .one ⟨some 2, .mov (.c (.nilsl)), none⟩ <|
    .nil)) (.seq (.seq (.ops (.one ⟨some 3, .fad 1 (.t 1), none⟩ <|
    .one ⟨some 4, .ld (.t 3), none⟩ <|
    .nil)) (.block 0 (.seq (.ops (.one ⟨some 6, .bin .eql (.t 4) (.c (.int .i64 1)), none⟩ <|
    .one ⟨some 5, .mov (.t 6), none⟩ <|
    .nil)) (.cond (.t 5) (.seq (.ops (.one ⟨some 7, .fad 3 (.t 1), none⟩ <|
    .one ⟨some 8, .ld (.t 7), none⟩ <|
    .bsl 9 1 [.int .i64 0] 1 [(0, .t 8)] <|
    .one ⟨some 2, .mov (.t 9), none⟩ <|
    .nil)) (.ret)) (.seq (.ops (.one ⟨some 11, .bin .eql (.t 4) (.c (.int .i64 2)), none⟩ <|
    .one ⟨some 10, .mov (.t 11), none⟩ <|
    .nil)) (.cond (.t 10) (.seq (.ops (.one ⟨some 12, .fad 3 (.t 1), none⟩ <|
    .one ⟨some 13, .ld (.t 12), none⟩ <|
    .one ⟨some 14, .fad 4 (.t 1), none⟩ <|
    .one ⟨some 15, .ld (.t 14), none⟩ <|
    .bsl 16 1 [.int .i64 0] 2 [(0, .t 13), (1, .t 15)] <|
    .one ⟨some 17, .call (.c (.fn 46 [])) [.t 16], none⟩ <|
    .one ⟨some 2, .mov (.t 17), none⟩ <|
    .nil)) (.ret)) (.skip))))))) (.seq (.ops (.one ⟨some 2, .mov (.c (.nilsl)), none⟩ <|
    .nil)) (.ret)))
def code17 : AFunc := ⟨18, [.tmp 2], d17.strip⟩

/-- fulling/fullingref32.Valid -/
def d21 : DCode :=
  .seq (.ops (.box 1 (.t 0) <|
    .one ⟨some 2, .mov (.c (.bool false)), none⟩ <|
    .nil)) (.seq (.seq (.ops (.one ⟨some 6, .fad 0 (.t 1), none⟩ <|
    .one ⟨some 7, .ld (.t 6), none⟩ <|
    .one ⟨some 8, .bin .lss (.t 7) (.c (.int .i64 0)), none⟩ <|
    .one ⟨some 9, .mov (.t 8), none⟩ <|
    .grp (.one ⟨some 10, .fad 0 (.t 1), some (9, false)⟩ <|
    .one ⟨some 11, .ld (.t 10), some (9, false)⟩ <|
    .one ⟨some 12, .bin .gtr (.t 11) (.c (.int .i64 6)), some (9, false)⟩ <|
    .nil) 13 9 false 12 none <|
    .one ⟨some 14, .mov (.t 13), none⟩ <|
    .grp (.one ⟨some 15, .fad 1 (.t 1), some (14, false)⟩ <|
    .one ⟨some 16, .ld (.t 15), some (14, false)⟩ <|
    .one ⟨some 17, .bin .lss (.t 16) (.c (.int .i64 0)), some (14, false)⟩ <|
    .nil) 18 14 false 17 none <|
    .one ⟨some 19, .mov (.t 18), none⟩ <|
    .grp (.one ⟨some 20, .fad 1 (.t 1), some (19, false)⟩ <|
    .one ⟨some 21, .ld (.t 20), some (19, false)⟩ <|
    .one ⟨some 22, .bin .gtr (.t 21) (.c (.int .i64 3000)), some (19, false)⟩ <|
    .nil) 23 19 false 22 none <|
    .one ⟨some 24, .mov (.t 23), none⟩ <|
    .grp (.one ⟨some 25, .fad 2 (.t 1), some (24, false)⟩ <|
    .one ⟨some 26, .ld (.t 25), some (24, false)⟩ <|
    .one ⟨some 27, .len (.t 26), some (24, false)⟩ <|
    .one ⟨some 28, .bin .lss (.t 27) (.c (.int .i64 1)), some (24, false)⟩ <|
    .nil) 29 24 false 28 none <|
    .one ⟨some 30, .mov (.t 29), none⟩ <|
    .grp (.one ⟨some 31, .fad 2 (.t 1), some (30, false)⟩ <|
    .one ⟨some 32, .ld (.t 31), some (30, false)⟩ <|
    .one ⟨some 33, .len (.t 32), some (30, false)⟩ <|
    .one ⟨some 34, .bin .gtr (.t 33) (.c (.int .i64 1000)), some (30, false)⟩ <|
    .nil) 35 30 false 34 none <|
    .nil)) (.cond (.t 35) (.seq (.ops (.one ⟨some 2, .mov (.c (.bool false)), none⟩ <|
    .nil)) (.ret)) (.skip))) (.mark [1] (.seq (.seq (.ops (.one ⟨some 3, .mov (.c (.int .i64 0)), none⟩ <|
    .nil)) (.block 0 (.loop [1, 3] (.seq (.seq (.ops (.one ⟨some 36, .mov (.t 3), none⟩ <|
    .one ⟨some 37, .fad 2 (.t 1), none⟩ <|
    .one ⟨some 38, .ld (.t 37), none⟩ <|
    .one ⟨some 39, .len (.t 38), none⟩ <|
    .one ⟨some 40, .bin .lss (.t 36) (.t 39), none⟩ <|
    .nil)) (.cond (.t 40) (.skip) (.exit 0))) (.mark [1, 3] (.seq (.block 1 (.seq (.ops (.one ⟨some 43, .fad 2 (.t 1), none⟩ <|
    .one ⟨some 44, .ld (.t 43), none⟩ <|
    .one ⟨some 45, .mov (.t 3), none⟩ <|
    .one ⟨some 46, .iad 5 (.t 44) (.t 45), none⟩ <|
    .one ⟨some 47, .lda 5 (.t 46), none⟩ <|
    .alst 4 [.nilsl, .int .i64 0, .int .i64 0, .int .i64 0, .int .i64 0] (.t 47) <|
    .nil)) (.seq (.seq (.ops (.one ⟨some 48, .lda 5 (.t 4), none⟩ <|
    .one ⟨some 49, .lda 3 (.t 1), none⟩ <|
    .one ⟨some 50, .call (.c (.fn 49 [])) [.t 48, .t 49], none⟩ <|
    .one ⟨some 51, .un .not (.t 50), none⟩ <|
    .nil)) (.cond (.t 51) (.seq (.ops (.one ⟨some 2, .mov (.c (.bool false)), none⟩ <|
    .nil)) (.ret)) (.skip))) (.mark [1, 3, 4] (.seq (.ops (.one ⟨some 5, .mov (.c (.int .i64 0)), none⟩ <|
    .nil)) (.block 2 (.loop [1, 3, 4, 5] (.seq (.seq (.ops (.one ⟨some 52, .mov (.t 5), none⟩ <|
    .one ⟨some 53, .fad 0 (.t 4), none⟩ <|
    .one ⟨some 54, .ld (.t 53), none⟩ <|
    .one ⟨some 55, .len (.t 54), none⟩ <|
    .one ⟨some 56, .bin .lss (.t 52) (.t 55), none⟩ <|
    .nil)) (.cond (.t 56) (.skip) (.exit 2))) (.mark [1, 3, 4, 5] (.seq (.block 3 (.seq (.drawq (.one ⟨some 59, .fad 0 (.t 4), none⟩ <|
    .one ⟨some 60, .ld (.t 59), none⟩ <|
    .one ⟨some 61, .mov (.t 5), none⟩ <|
    .one ⟨some 62, .iad 6 (.t 60) (.t 61), none⟩ <|
    .one ⟨some 63, .lda 6 (.t 62), none⟩ <|
    .one ⟨some 64, .lda 3 (.t 1), none⟩ <|
    .one ⟨some 65, .call (.c (.fn 50 [])) [.t 63, .t 64], none⟩ <|
    .one ⟨some 66, .un .not (.t 65), none⟩ <|
    .nil) []) (.cond (.t 66) (.seq (.ops (.one ⟨some 2, .mov (.c (.bool false)), none⟩ <|
    .nil)) (.ret)) (.skip)))) (.ops (.one ⟨some 57, .mov (.t 5), none⟩ <|
    .one ⟨some 58, .bin .add (.t 57) (.c (.int .i64 1)), none⟩ <|
    .one ⟨some 5, .mov (.t 58), none⟩ <|
    .nil)))))))))))) (.ops (.one ⟨some 41, .mov (.t 3), none⟩ <|
    .one ⟨some 42, .bin .add (.t 41) (.c (.int .i64 1)), none⟩ <|
    .one ⟨some 3, .mov (.t 42), none⟩ <|
    .nil)))))))) (.seq (.ops (.one ⟨some 2, .mov (.c (.bool true)), none⟩ <|
    .nil)) (.ret)))))
def code21 : AFunc := ⟨67, [.tmp 2], d21.strip⟩

/-- fulling/vcode.ValidProgram -/
def d23 : DCode :=
  .seq (.ops (.one ⟨some 4, .mov (.c (.bool false)), none⟩ <|
    .nil)) (.seq (.seq (.ops (.one ⟨some 13, .mov (.t 0), none⟩ <|
    .one ⟨some 14, .len (.t 13), none⟩ <|
    .one ⟨some 15, .bin .lss (.t 14) (.c (.int .i64 1)), none⟩ <|
    .one ⟨some 16, .mov (.t 15), none⟩ <|
    .grp (.one ⟨some 17, .mov (.t 0), some (16, false)⟩ <|
    .one ⟨some 18, .len (.t 17), some (16, false)⟩ <|
    .one ⟨some 19, .bin .gtr (.t 18) (.c (.int .i64 8)), some (16, false)⟩ <|
    .nil) 20 16 false 19 none <|
    .one ⟨some 21, .mov (.t 20), none⟩ <|
    .grp (.one ⟨some 22, .mov (.t 1), some (21, false)⟩ <|
    .one ⟨some 23, .len (.t 22), some (21, false)⟩ <|
    .one ⟨some 24, .bin .gtr (.t 23) (.c (.int .i64 4)), some (21, false)⟩ <|
    .nil) 25 21 false 24 none <|
    .nil)) (.cond (.t 25) (.seq (.ops (.one ⟨some 4, .mov (.c (.bool false)), none⟩ <|
    .nil)) (.ret)) (.skip))) (.mark [0, 1] (.seq (.seq (.ops (.one ⟨some 26, .mov (.t 1), none⟩ <|
    .one ⟨some 27, .len (.t 26), none⟩ <|
    .one ⟨some 28, .mov (.c (.int .i64 0)), none⟩ <|
    .nil)) (.block 0 (.loop [0, 1, 26, 27, 28] (.seq (.ops (.one ⟨some 29, .bin .lss (.t 28) (.t 27), none⟩ <|
    .nil)) (.seq (.cond (.t 29) (.skip) (.exit 0)) (.mark [0, 1, 26, 27, 28] (.seq (.block 1 (.seq (.ops (.one ⟨some 30, .iad 1 (.t 26) (.t 28), none⟩ <|
    .one ⟨some 31, .ld (.t 30), none⟩ <|
    .one ⟨some 6, .mov (.t 31), none⟩ <|
    .nil)) (.seq (.ops (.one ⟨some 32, .mov (.t 6), none⟩ <|
    .one ⟨some 33, .bin .lss (.t 32) (.c (.int .i64 1)), none⟩ <|
    .one ⟨some 34, .mov (.t 33), none⟩ <|
    .grp (.one ⟨some 35, .mov (.t 6), some (34, false)⟩ <|
    .one ⟨some 36, .bin .gtr (.t 35) (.c (.int .i64 16)), some (34, false)⟩ <|
    .nil) 37 34 false 36 none <|
    .nil)) (.cond (.t 37) (.seq (.ops (.one ⟨some 4, .mov (.c (.bool false)), none⟩ <|
    .nil)) (.ret)) (.skip))))) (.ops (.one ⟨some 38, .bin .add (.t 28) (.c (.int .i64 1)), none⟩ <|
    .one ⟨some 28, .mov (.t 38), none⟩ <|
    .nil))))))))) (.mark [0, 1] (.seq (.seq (.ops (.one ⟨some 39, .mov (.t 0), none⟩ <|
    .one ⟨some 40, .len (.t 39), none⟩ <|
    .one ⟨some 41, .mov (.c (.int .i64 0)), none⟩ <|
    .nil)) (.block 2 (.loop [0, 1, 39, 40, 41] (.seq (.ops (.one ⟨some 42, .bin .lss (.t 41) (.t 40), none⟩ <|
    .nil)) (.seq (.cond (.t 42) (.skip) (.exit 2)) (.mark [0, 1, 39, 40, 41] (.seq (.block 3 (.seq (.ops (.one ⟨some 43, .iad 3 (.t 39) (.t 41), none⟩ <|
    .one ⟨some 44, .lda 3 (.t 43), none⟩ <|
    .alst 8 [.int .i64 0, .int .i64 0, .nilsl] (.t 44) <|
    .nil)) (.seq (.seq (.ops (.one ⟨some 45, .lda 3 (.t 8), none⟩ <|
    .one ⟨some 46, .call (.c (.fn 14 [])) [.t 45], none⟩ <|
    .one ⟨some 47, .un .not (.t 46), none⟩ <|
    .nil)) (.cond (.t 47) (.seq (.ops (.one ⟨some 4, .mov (.c (.bool false)), none⟩ <|
    .nil)) (.ret)) (.skip))) (.mark [0, 1, 8, 39, 40, 41] (.seq (.ops (.one ⟨some 48, .fad 2 (.t 8), none⟩ <|
    .one ⟨some 49, .ld (.t 48), none⟩ <|
    .one ⟨some 50, .len (.t 49), none⟩ <|
    .one ⟨some 51, .mov (.c (.int .i64 0)), none⟩ <|
    .nil)) (.block 4 (.loop [0, 1, 39, 40, 41, 49, 50, 51] (.seq (.ops (.one ⟨some 52, .bin .lss (.t 51) (.t 50), none⟩ <|
    .nil)) (.seq (.cond (.t 52) (.skip) (.exit 4)) (.mark [0, 1, 39, 40, 41, 49, 50, 51] (.seq (.block 5 (.seq (.ops (.one ⟨some 53, .iad 5 (.t 49) (.t 51), none⟩ <|
    .one ⟨some 54, .lda 5 (.t 53), none⟩ <|
    .alst 10 [.nilsl, .int .i64 0, .int .i64 0, .int .i64 0, .int .i64 0] (.t 54) <|
    .nil)) (.seq (.ops (.one ⟨some 55, .fad 0 (.t 10), none⟩ <|
    .one ⟨some 56, .ld (.t 55), none⟩ <|
    .one ⟨some 57, .len (.t 56), none⟩ <|
    .one ⟨some 58, .mov (.c (.int .i64 0)), none⟩ <|
    .nil)) (.block 6 (.loop [0, 1, 39, 40, 41, 49, 50, 51, 56, 57, 58] (.seq (.ops (.one ⟨some 59, .bin .lss (.t 58) (.t 57), none⟩ <|
    .nil)) (.seq (.cond (.t 59) (.skip) (.exit 6)) (.mark [0, 1, 39, 40, 41, 49, 50, 51, 56, 57, 58] (.seq (.block 7 (.seq (.ops (.one ⟨some 60, .iad 6 (.t 56) (.t 58), none⟩ <|
    .one ⟨some 61, .lda 6 (.t 60), none⟩ <|
    .alst 12 [.int .i64 0, .int .i64 0, .int .i64 0, .int .i64 0, .int .i64 0, .nilsl] (.t 61) <|
    .nil)) (.seq (.ops (.one ⟨some 62, .fad 0 (.t 12), none⟩ <|
    .one ⟨some 63, .fad 0 (.t 62), none⟩ <|
    .one ⟨some 64, .ld (.t 63), none⟩ <|
    .nil)) (.block 8 (.seq (.ops (.one ⟨some 66, .bin .eql (.t 64) (.c (.int .i64 6)), none⟩ <|
    .one ⟨some 65, .mov (.t 66), none⟩ <|
    .nil)) (.cond (.t 65) (.seq (.drawq (.one ⟨some 67, .fad 0 (.t 12), none⟩ <|
    .one ⟨some 68, .fad 4 (.t 67), none⟩ <|
    .one ⟨some 69, .ld (.t 68), none⟩ <|
    .one ⟨some 70, .mov (.t 0), none⟩ <|
    .one ⟨some 71, .len (.t 70), none⟩ <|
    .one ⟨some 72, .bin .geq (.t 69) (.t 71), none⟩ <|
    .one ⟨some 73, .mov (.t 72), none⟩ <|
    .grp (.one ⟨some 74, .fad 5 (.t 12), some (73, false)⟩ <|
    .one ⟨some 75, .ld (.t 74), some (73, false)⟩ <|
    .one ⟨some 76, .len (.t 75), some (73, false)⟩ <|
    .one ⟨some 77, .mov (.t 0), some (73, false)⟩ <|
    .one ⟨some 78, .fad 0 (.t 12), some (73, false)⟩ <|
    .one ⟨some 79, .fad 4 (.t 78), some (73, false)⟩ <|
    .one ⟨some 80, .ld (.t 79), some (73, false)⟩ <|
    .one ⟨some 81, .iad 3 (.t 77) (.t 80), some (73, false)⟩ <|
    .one ⟨some 82, .fad 0 (.t 81), some (73, false)⟩ <|
    .one ⟨some 83, .ld (.t 82), some (73, false)⟩ <|
    .one ⟨some 84, .bin .neq (.t 76) (.t 83), some (73, false)⟩ <|
    .nil) 85 73 false 84 none <|
    .nil) []) (.cond (.t 85) (.seq (.ops (.one ⟨some 4, .mov (.c (.bool false)), none⟩ <|
    .nil)) (.ret)) (.skip))) (.seq (.seq (.ops (.one ⟨some 87, .bin .eql (.t 64) (.c (.int .i64 34)), none⟩ <|
    .one ⟨some 86, .mov (.t 87), none⟩ <|
    .nil)) (.cond (.t 86) (.skip) (.ops (.one ⟨some 88, .bin .eql (.t 64) (.c (.int .i64 35)), none⟩ <|
    .one ⟨some 86, .mov (.t 88), none⟩ <|
    .nil)))) (.mark [0, 1, 12, 39, 40, 41, 49, 50, 51, 56, 57, 58, 86] (.cond (.t 86) (.seq (.ops (.one ⟨some 89, .fad 0 (.t 12), none⟩ <|
    .one ⟨some 90, .fad 4 (.t 89), none⟩ <|
    .one ⟨some 91, .ld (.t 90), none⟩ <|
    .one ⟨some 92, .mov (.t 1), none⟩ <|
    .one ⟨some 93, .len (.t 92), none⟩ <|
    .one ⟨some 94, .bin .geq (.t 91) (.t 93), none⟩ <|
    .nil)) (.cond (.t 94) (.seq (.ops (.one ⟨some 4, .mov (.c (.bool false)), none⟩ <|
    .nil)) (.ret)) (.skip))) (.skip)))))))))) (.ops (.one ⟨some 95, .bin .add (.t 58) (.c (.int .i64 1)), none⟩ <|
    .one ⟨some 58, .mov (.t 95), none⟩ <|
    .nil))))))))))) (.ops (.one ⟨some 96, .bin .add (.t 51) (.c (.int .i64 1)), none⟩ <|
    .one ⟨some 51, .mov (.t 96), none⟩ <|
    .nil))))))))))))) (.ops (.one ⟨some 97, .bin .add (.t 41) (.c (.int .i64 1)), none⟩ <|
    .one ⟨some 41, .mov (.t 97), none⟩ <|
    .nil))))))))) (.seq (.ops (.one ⟨some 4, .mov (.c (.bool true)), none⟩ <|
    .nil)) (.ret)))))))
def code23 : AFunc := ⟨98, [.tmp 4], d23.strip⟩

/-- fulling/fullingref32.ValidProgram -/
def d24 : DCode :=
  .seq (.ops (.one ⟨some 4, .mov (.c (.bool false)), none⟩ <|
    .nil)) (.seq (.seq (.ops (.one ⟨some 10, .mov (.t 0), none⟩ <|
    .one ⟨some 11, .len (.t 10), none⟩ <|
    .one ⟨some 12, .bin .lss (.t 11) (.c (.int .i64 1)), none⟩ <|
    .one ⟨some 13, .mov (.t 12), none⟩ <|
    .grp (.one ⟨some 14, .mov (.t 0), some (13, false)⟩ <|
    .one ⟨some 15, .len (.t 14), some (13, false)⟩ <|
    .one ⟨some 16, .bin .gtr (.t 15) (.c (.int .i64 8)), some (13, false)⟩ <|
    .nil) 17 13 false 16 none <|
    .one ⟨some 18, .mov (.t 17), none⟩ <|
    .grp (.one ⟨some 19, .mov (.t 1), some (18, false)⟩ <|
    .one ⟨some 20, .len (.t 19), some (18, false)⟩ <|
    .one ⟨some 21, .bin .gtr (.t 20) (.c (.int .i64 4)), some (18, false)⟩ <|
    .nil) 22 18 false 21 none <|
    .nil)) (.cond (.t 22) (.seq (.ops (.one ⟨some 4, .mov (.c (.bool false)), none⟩ <|
    .nil)) (.ret)) (.skip))) (.mark [0, 1] (.seq (.seq (.ops (.one ⟨some 5, .mov (.c (.int .i64 0)), none⟩ <|
    .nil)) (.block 0 (.loop [0, 1, 5] (.seq (.seq (.ops (.one ⟨some 23, .mov (.t 5), none⟩ <|
    .one ⟨some 24, .mov (.t 1), none⟩ <|
    .one ⟨some 25, .len (.t 24), none⟩ <|
    .one ⟨some 26, .bin .lss (.t 23) (.t 25), none⟩ <|
    .nil)) (.cond (.t 26) (.skip) (.exit 0))) (.mark [0, 1, 5] (.seq (.block 1 (.seq (.ops (.one ⟨some 29, .mov (.t 1), none⟩ <|
    .one ⟨some 30, .mov (.t 5), none⟩ <|
    .one ⟨some 31, .iad 1 (.t 29) (.t 30), none⟩ <|
    .one ⟨some 32, .ld (.t 31), none⟩ <|
    .one ⟨some 33, .bin .lss (.t 32) (.c (.int .i64 1)), none⟩ <|
    .one ⟨some 34, .mov (.t 33), none⟩ <|
    .grp (.one ⟨some 35, .mov (.t 1), some (34, false)⟩ <|
    .one ⟨some 36, .mov (.t 5), some (34, false)⟩ <|
    .one ⟨some 37, .iad 1 (.t 35) (.t 36), some (34, false)⟩ <|
    .one ⟨some 38, .ld (.t 37), some (34, false)⟩ <|
    .one ⟨some 39, .bin .gtr (.t 38) (.c (.int .i64 16)), some (34, false)⟩ <|
    .nil) 40 34 false 39 none <|
    .nil)) (.cond (.t 40) (.seq (.ops (.one ⟨some 4, .mov (.c (.bool false)), none⟩ <|
    .nil)) (.ret)) (.skip)))) (.ops (.one ⟨some 27, .mov (.t 5), none⟩ <|
    .one ⟨some 28, .bin .add (.t 27) (.c (.int .i64 1)), none⟩ <|
    .one ⟨some 5, .mov (.t 28), none⟩ <|
    .nil)))))))) (.mark [0, 1] (.seq (.seq (.ops (.one ⟨some 6, .mov (.c (.int .i64 0)), none⟩ <|
    .nil)) (.block 2 (.loop [0, 1, 6] (.seq (.seq (.ops (.one ⟨some 41, .mov (.t 6), none⟩ <|
    .one ⟨some 42, .mov (.t 0), none⟩ <|
    .one ⟨some 43, .len (.t 42), none⟩ <|
    .one ⟨some 44, .bin .lss (.t 41) (.t 43), none⟩ <|
    .nil)) (.cond (.t 44) (.skip) (.exit 2))) (.mark [0, 1, 6] (.seq (.block 3 (.seq (.seq (.ops (.one ⟨some 47, .mov (.t 0), none⟩ <|
    .one ⟨some 48, .mov (.t 6), none⟩ <|
    .one ⟨some 49, .iad 3 (.t 47) (.t 48), none⟩ <|
    .one ⟨some 50, .lda 3 (.t 49), none⟩ <|
    .one ⟨some 51, .call (.c (.fn 21 [])) [.t 50], none⟩ <|
    .one ⟨some 52, .un .not (.t 51), none⟩ <|
    .nil)) (.cond (.t 52) (.seq (.ops (.one ⟨some 4, .mov (.c (.bool false)), none⟩ <|
    .nil)) (.ret)) (.skip))) (.mark [0, 1, 6] (.seq (.ops (.one ⟨some 7, .mov (.c (.int .i64 0)), none⟩ <|
    .nil)) (.block 4 (.loop [0, 1, 6, 7] (.seq (.seq (.ops (.one ⟨some 53, .mov (.t 7), none⟩ <|
    .one ⟨some 54, .mov (.t 0), none⟩ <|
    .one ⟨some 55, .mov (.t 6), none⟩ <|
    .one ⟨some 56, .iad 3 (.t 54) (.t 55), none⟩ <|
    .one ⟨some 57, .fad 2 (.t 56), none⟩ <|
    .one ⟨some 58, .ld (.t 57), none⟩ <|
    .one ⟨some 59, .len (.t 58), none⟩ <|
    .one ⟨some 60, .bin .lss (.t 53) (.t 59), none⟩ <|
    .nil)) (.cond (.t 60) (.skip) (.exit 4))) (.mark [0, 1, 6, 7] (.seq (.block 5 (.seq (.ops (.one ⟨some 8, .mov (.c (.int .i64 0)), none⟩ <|
    .nil)) (.block 6 (.loop [0, 1, 6, 7, 8] (.seq (.seq (.ops (.one ⟨some 63, .mov (.t 8), none⟩ <|
    .one ⟨some 64, .mov (.t 0), none⟩ <|
    .one ⟨some 65, .mov (.t 6), none⟩ <|
    .one ⟨some 66, .iad 3 (.t 64) (.t 65), none⟩ <|
    .one ⟨some 67, .fad 2 (.t 66), none⟩ <|
    .one ⟨some 68, .ld (.t 67), none⟩ <|
    .one ⟨some 69, .mov (.t 7), none⟩ <|
    .one ⟨some 70, .iad 5 (.t 68) (.t 69), none⟩ <|
    .one ⟨some 71, .fad 0 (.t 70), none⟩ <|
    .one ⟨some 72, .ld (.t 71), none⟩ <|
    .one ⟨some 73, .len (.t 72), none⟩ <|
    .one ⟨some 74, .bin .lss (.t 63) (.t 73), none⟩ <|
    .nil)) (.cond (.t 74) (.skip) (.exit 6))) (.mark [0, 1, 6, 7, 8] (.seq (.block 7 (.seq (.ops (.one ⟨some 77, .mov (.t 0), none⟩ <|
    .one ⟨some 78, .mov (.t 6), none⟩ <|
    .one ⟨some 79, .iad 3 (.t 77) (.t 78), none⟩ <|
    .one ⟨some 80, .fad 2 (.t 79), none⟩ <|
    .one ⟨some 81, .ld (.t 80), none⟩ <|
    .one ⟨some 82, .mov (.t 7), none⟩ <|
    .one ⟨some 83, .iad 5 (.t 81) (.t 82), none⟩ <|
    .one ⟨some 84, .fad 0 (.t 83), none⟩ <|
    .one ⟨some 85, .ld (.t 84), none⟩ <|
    .one ⟨some 86, .mov (.t 8), none⟩ <|
    .one ⟨some 87, .iad 6 (.t 85) (.t 86), none⟩ <|
    .one ⟨some 88, .lda 6 (.t 87), none⟩ <|
    .alst 9 [.int .i64 0, .int .i64 0, .int .i64 0, .int .i64 0, .int .i64 0, .nilsl] (.t 88) <|
    .nil)) (.seq (.seq (.drawq (.one ⟨some 89, .fad 0 (.t 9), none⟩ <|
    .one ⟨some 90, .fad 0 (.t 89), none⟩ <|
    .one ⟨some 91, .ld (.t 90), none⟩ <|
    .one ⟨some 92, .bin .eql (.t 91) (.c (.int .i64 6)), none⟩ <|
    .one ⟨some 93, .mov (.t 92), none⟩ <|
    .grp (.one ⟨some 94, .fad 0 (.t 9), some (93, true)⟩ <|
    .one ⟨some 95, .fad 4 (.t 94), some (93, true)⟩ <|
    .one ⟨some 96, .ld (.t 95), some (93, true)⟩ <|
    .one ⟨some 97, .mov (.t 0), some (93, true)⟩ <|
    .one ⟨some 98, .len (.t 97), some (93, true)⟩ <|
    .one ⟨some 99, .bin .geq (.t 96) (.t 98), some (93, true)⟩ <|
    .one ⟨some 100, .mov (.t 99), some (93, true)⟩ <|
    .grp (.one ⟨some 101, .mov (.t 0), some (100, false)⟩ <|
    .one ⟨some 102, .fad 0 (.t 9), some (100, false)⟩ <|
    .one ⟨some 103, .fad 4 (.t 102), some (100, false)⟩ <|
    .one ⟨some 104, .ld (.t 103), some (100, false)⟩ <|
    .one ⟨some 105, .iad 3 (.t 101) (.t 104), some (100, false)⟩ <|
    .one ⟨some 106, .fad 0 (.t 105), some (100, false)⟩ <|
    .one ⟨some 107, .ld (.t 106), some (100, false)⟩ <|
    .one ⟨some 108, .fad 5 (.t 9), some (100, false)⟩ <|
    .one ⟨some 109, .ld (.t 108), some (100, false)⟩ <|
    .one ⟨some 110, .len (.t 109), some (100, false)⟩ <|
    .one ⟨some 111, .bin .neq (.t 107) (.t 110), some (100, false)⟩ <|
    .nil) 112 100 false 111 (some (93, true)) <|
    .nil) 113 93 true 112 none <|
    .nil) []) (.cond (.t 113) (.seq (.ops (.one ⟨some 4, .mov (.c (.bool false)), none⟩ <|
    .nil)) (.ret)) (.skip))) (.mark [0, 1, 6, 7, 8, 9] (.seq (.ops (.one ⟨some 114, .fad 0 (.t 9), none⟩ <|
    .one ⟨some 115, .fad 0 (.t 114), none⟩ <|
    .one ⟨some 116, .ld (.t 115), none⟩ <|
    .one ⟨some 117, .bin .eql (.t 116) (.c (.int .i64 34)), none⟩ <|
    .one ⟨some 118, .mov (.t 117), none⟩ <|
    .grp (.one ⟨some 119, .fad 0 (.t 9), some (118, false)⟩ <|
    .one ⟨some 120, .fad 0 (.t 119), some (118, false)⟩ <|
    .one ⟨some 121, .ld (.t 120), some (118, false)⟩ <|
    .one ⟨some 122, .bin .eql (.t 121) (.c (.int .i64 35)), some (118, false)⟩ <|
    .nil) 123 118 false 122 none <|
    .one ⟨some 124, .mov (.t 123), none⟩ <|
    .grp (.one ⟨some 125, .fad 0 (.t 9), some (124, true)⟩ <|
    .one ⟨some 126, .fad 4 (.t 125), some (124, true)⟩ <|
    .one ⟨some 127, .ld (.t 126), some (124, true)⟩ <|
    .one ⟨some 128, .mov (.t 1), some (124, true)⟩ <|
    .one ⟨some 129, .len (.t 128), some (124, true)⟩ <|
    .one ⟨some 130, .bin .geq (.t 127) (.t 129), some (124, true)⟩ <|
    .nil) 131 124 true 130 none <|
    .nil)) (.cond (.t 131) (.seq (.ops (.one ⟨some 4, .mov (.c (.bool false)), none⟩ <|
    .nil)) (.ret)) (.skip))))))) (.ops (.one ⟨some 75, .mov (.t 8), none⟩ <|
    .one ⟨some 76, .bin .add (.t 75) (.c (.int .i64 1)), none⟩ <|
    .one ⟨some 8, .mov (.t 76), none⟩ <|
    .nil))))))))) (.ops (.one ⟨some 61, .mov (.t 7), none⟩ <|
    .one ⟨some 62, .bin .add (.t 61) (.c (.int .i64 1)), none⟩ <|
    .one ⟨some 7, .mov (.t 62), none⟩ <|
    .nil))))))))))) (.ops (.one ⟨some 45, .mov (.t 6), none⟩ <|
    .one ⟨some 46, .bin .add (.t 45) (.c (.int .i64 1)), none⟩ <|
    .one ⟨some 6, .mov (.t 46), none⟩ <|
    .nil)))))))) (.seq (.ops (.one ⟨some 4, .mov (.c (.bool true)), none⟩ <|
    .nil)) (.ret)))))))
def code24 : AFunc := ⟨132, [.tmp 4], d24.strip⟩

/-- (*fulling/vcode.run).step -/
def d42 : DCode :=
  .seq (.drawq (.one ⟨some 8, .mov (.t 0), none⟩ <|
    .one ⟨some 9, .nilck (.t 8), none⟩ <|
    .one ⟨some 10, .fad 2 (.t 9), none⟩ <|
    .one ⟨some 11, .ld (.t 10), none⟩ <|
    .one ⟨some 12, .mov (.t 0), none⟩ <|
    .one ⟨some 13, .nilck (.t 12), none⟩ <|
    .one ⟨some 14, .fad 2 (.t 13), none⟩ <|
    .one ⟨some 15, .ld (.t 14), none⟩ <|
    .one ⟨some 16, .len (.t 15), none⟩ <|
    .one ⟨some 17, .bin .sub (.t 16) (.c (.int .i64 1)), none⟩ <|
    .one ⟨some 18, .iad 1 (.t 11) (.t 17), none⟩ <|
    .one ⟨some 19, .ld (.t 18), none⟩ <|
    .one ⟨some 2, .mov (.t 19), none⟩ <|
    .nil) []) (.seq (.drawq (.one ⟨some 20, .mov (.t 2), none⟩ <|
    .one ⟨some 21, .nilck (.t 20), none⟩ <|
    .one ⟨some 22, .fad 0 (.t 21), none⟩ <|
    .one ⟨some 23, .fad 2 (.t 22), none⟩ <|
    .one ⟨some 24, .ld (.t 23), none⟩ <|
    .one ⟨some 25, .mov (.t 2), none⟩ <|
    .one ⟨some 26, .nilck (.t 25), none⟩ <|
    .one ⟨some 27, .fad 5 (.t 26), none⟩ <|
    .one ⟨some 28, .ld (.t 27), none⟩ <|
    .one ⟨some 29, .iad 5 (.t 24) (.t 28), none⟩ <|
    .one ⟨some 30, .lda 5 (.t 29), none⟩ <|
    .one ⟨some 3, .alloc [.nilsl, .int .i64 0, .int .i64 0, .int .i64 0, .int .i64 0], none⟩ <|
    .one ⟨none, .st 5 (.t 3) (.t 30), none⟩ <|
    .nil) [(4, 11), (8, 11), (10, 11)]) (.frz 3 (.seq (.seq (.drawq (.one ⟨some 31, .mov (.t 2), none⟩ <|
    .one ⟨some 32, .nilck (.t 31), none⟩ <|
    .one ⟨some 33, .fad 6 (.t 32), none⟩ <|
    .one ⟨some 34, .ld (.t 33), none⟩ <|
    .one ⟨some 35, .fad 0 (.t 3), none⟩ <|
    .one ⟨some 36, .ld (.t 35), none⟩ <|
    .one ⟨some 37, .len (.t 36), none⟩ <|
    .one ⟨some 38, .bin .eql (.t 34) (.t 37), none⟩ <|
    .nil) []) (.cond (.t 38) (.seq (.ops (.one ⟨some 39, .mov (.t 0), none⟩ <|
    .one ⟨some 40, .mov (.t 2), none⟩ <|
    .one ⟨some 41, .call (.c (.fn 76 [])) [.t 39, .t 40], none⟩ <|
    .nil)) (.ret)) (.skip))) (.mark [0, 2, 3] (.seq (.drawq (.one ⟨some 42, .fad 0 (.t 3), none⟩ <|
    .one ⟨some 43, .ld (.t 42), none⟩ <|
    .one ⟨some 44, .mov (.t 2), none⟩ <|
    .one ⟨some 45, .nilck (.t 44), none⟩ <|
    .one ⟨some 46, .fad 6 (.t 45), none⟩ <|
    .one ⟨some 47, .ld (.t 46), none⟩ <|
    .one ⟨some 48, .iad 6 (.t 43) (.t 47), none⟩ <|
    .one ⟨some 49, .lda 6 (.t 48), none⟩ <|
    .one ⟨some 4, .alloc [.int .i64 0, .int .i64 0, .int .i64 0, .int .i64 0, .int .i64 0, .nilsl], none⟩ <|
    .one ⟨none, .st 6 (.t 4) (.t 49), none⟩ <|
    .nil) [(1, 8), (5, 8), (7, 8)]) (.frz 4 (.seq (.ops (.one ⟨some 50, .mov (.t 2), none⟩ <|
    .one ⟨some 51, .nilck (.t 50), none⟩ <|
    .one ⟨some 52, .fad 6 (.t 51), none⟩ <|
    .one ⟨some 53, .ld (.t 52), none⟩ <|
    .one ⟨some 54, .bin .add (.t 53) (.c (.int .i64 1)), none⟩ <|
    .one ⟨some 55, .nilck (.t 50), none⟩ <|
    .one ⟨some 56, .fad 6 (.t 55), none⟩ <|
    .one ⟨none, .st 1 (.t 56) (.t 54), none⟩ <|
    .nil)) (.seq (.ops (.one ⟨some 57, .fad 0 (.t 4), none⟩ <|
    .one ⟨some 58, .fad 0 (.t 57), none⟩ <|
    .one ⟨some 59, .ld (.t 58), none⟩ <|
    .nil)) (.block 0 (.seq (.ops (.one ⟨some 66, .bin .eql (.t 59) (.c (.int .i64 3)), none⟩ <|
    .one ⟨some 65, .mov (.t 66), none⟩ <|
    .nil)) (.cond (.t 65) (.seq (.seq (.ops (.one ⟨some 67, .mov (.t 0), none⟩ <|
    .one ⟨some 68, .nilck (.t 67), none⟩ <|
    .one ⟨some 69, .fad 3 (.t 68), none⟩ <|
    .one ⟨some 70, .ld (.t 69), none⟩ <|
    .one ⟨some 71, .bin .eql (.t 70) (.c (.int .i64 0)), none⟩ <|
    .nil)) (.cond (.t 71) (.seq (.ops (.one ⟨some 72, .mov (.t 0), none⟩ <|
    .one ⟨some 73, .call (.c (.fn 77 [])) [.t 72, .c (.int .i64 3), .c (.int .i64 0), .c (.int .i64 0)], none⟩ <|
    .nil)) (.ret)) (.skip))) (.mark [0] (.ops (.one ⟨some 74, .mov (.t 0), none⟩ <|
    .one ⟨some 75, .nilck (.t 74), none⟩ <|
    .one ⟨some 76, .fad 3 (.t 75), none⟩ <|
    .one ⟨some 77, .ld (.t 76), none⟩ <|
    .one ⟨some 78, .bin .sub (.t 77) (.c (.int .i64 1)), none⟩ <|
    .one ⟨some 79, .nilck (.t 74), none⟩ <|
    .one ⟨some 80, .fad 3 (.t 79), none⟩ <|
    .one ⟨none, .st 1 (.t 80) (.t 78), none⟩ <|
    .nil)))) (.seq (.ops (.one ⟨some 82, .bin .eql (.t 59) (.c (.int .i64 6)), none⟩ <|
    .one ⟨some 81, .mov (.t 82), none⟩ <|
    .nil)) (.cond (.t 81) (.seq (.drawq (.one ⟨some 83, .mov (.t 0), none⟩ <|
    .one ⟨some 84, .nilck (.t 83), none⟩ <|
    .one ⟨some 85, .fad 0 (.t 84), none⟩ <|
    .one ⟨some 86, .ld (.t 85), none⟩ <|
    .one ⟨some 87, .fad 0 (.t 4), none⟩ <|
    .one ⟨some 88, .fad 4 (.t 87), none⟩ <|
    .one ⟨some 89, .ld (.t 88), none⟩ <|
    .one ⟨some 90, .iad 3 (.t 86) (.t 89), none⟩ <|
    .one ⟨some 91, .lda 3 (.t 90), none⟩ <|
    .one ⟨some 92, .fad 0 (.t 4), none⟩ <|
    .one ⟨some 93, .fad 1 (.t 92), none⟩ <|
    .one ⟨some 94, .ld (.t 93), none⟩ <|
    .one ⟨some 95, .build [.int .i64 0, .int .i64 0, .nilsl, .nilsl, .nilsl, .int .i64 0, .int .i64 0, .int .i64 0] [(0, 3, .t 91), (7, 1, .t 94)], none⟩ <|
    .one ⟨some 96, .box (.t 95), none⟩ <|
    .one ⟨some 5, .mov (.t 96), none⟩ <|
    .nil) []) (.seq (.seq (.ops (.one ⟨some 97, .fad 5 (.t 4), none⟩ <|
    .one ⟨some 98, .ld (.t 97), none⟩ <|
    .one ⟨some 99, .len (.t 98), none⟩ <|
    .one ⟨some 100, .mov (.c (.int .i64 0)), none⟩ <|
    .nil)) (.block 1 (.loop [0, 2, 5, 98, 99, 100] (.seq (.ops (.one ⟨some 101, .bin .lss (.t 100) (.t 99), none⟩ <|
    .nil)) (.seq (.cond (.t 101) (.skip) (.exit 1)) (.mark [0, 2, 5, 98, 99, 100] (.seq (.block 2 (.seq (.ops (.one ⟨some 102, .iad 1 (.t 98) (.t 100), none⟩ <|
    .one ⟨some 103, .ld (.t 102), none⟩ <|
    .one ⟨some 7, .mov (.t 103), none⟩ <|
    .nil)) (.draw [⟨some 104, .mov (.t 5), none⟩,
    ⟨some 105, .mov (.t 5), none⟩,
    ⟨some 106, .nilck (.t 105), none⟩,
    ⟨some 107, .fad 4 (.t 106), none⟩,
    ⟨some 108, .ld (.t 107), none⟩,
    ⟨some 109, .mov (.t 2), none⟩,
    ⟨some 110, .mov (.t 7), none⟩,
    ⟨some 111, .call (.c (.fn 78 [])) [.t 109, .t 110], none⟩,
    ⟨some 112, .bsl 1 [.int .i64 0] 1 [(0, .t 111)], none⟩,
    ⟨some 113, .app 1 (.t 108) (.t 112), none⟩,
    ⟨some 114, .nilck (.t 104), none⟩,
    ⟨some 115, .fad 4 (.t 114), none⟩,
    ⟨none, .st 1 (.t 115) (.t 113), none⟩] [(0, 7), (1, 7), (2, 7), (3, 7), (4, 7), (4, 8)]))) (.ops (.one ⟨some 116, .bin .add (.t 100) (.c (.int .i64 1)), none⟩ <|
    .one ⟨some 100, .mov (.t 116), none⟩ <|
    .nil))))))))) (.mark [0, 5] (.ops (.one ⟨some 117, .mov (.t 0), none⟩ <|
    .one ⟨some 118, .mov (.t 0), none⟩ <|
    .one ⟨some 119, .nilck (.t 118), none⟩ <|
    .one ⟨some 120, .fad 2 (.t 119), none⟩ <|
    .one ⟨some 121, .ld (.t 120), none⟩ <|
    .one ⟨some 122, .mov (.t 5), none⟩ <|
    .bsl 123 1 [.nilp] 1 [(0, .t 122)] <|
    .one ⟨some 124, .app 1 (.t 121) (.t 123), none⟩ <|
    .one ⟨some 125, .nilck (.t 117), none⟩ <|
    .one ⟨some 126, .fad 2 (.t 125), none⟩ <|
    .one ⟨none, .st 1 (.t 126) (.t 124), none⟩ <|
    .nil))))) (.seq (.ops (.one ⟨some 128, .bin .eql (.t 59) (.c (.int .i64 9)), none⟩ <|
    .one ⟨some 127, .mov (.t 128), none⟩ <|
    .nil)) (.cond (.t 127) (.draw [⟨some 129, .mov (.t 0), none⟩,
    ⟨some 130, .mov (.t 0), none⟩,
    ⟨some 131, .nilck (.t 130), none⟩,
    ⟨some 132, .fad 5 (.t 131), none⟩,
    ⟨some 133, .fad 2 (.t 132), none⟩,
    ⟨some 134, .ld (.t 133), none⟩,
    ⟨some 135, .mov (.t 2), none⟩,
    ⟨some 136, .fad 0 (.t 4), none⟩,
    ⟨some 137, .fad 1 (.t 136), none⟩,
    ⟨some 138, .ld (.t 137), none⟩,
    ⟨some 139, .call (.c (.fn 78 [])) [.t 135, .t 138], none⟩,
    ⟨some 140, .bsl 1 [.int .i64 0] 1 [(0, .t 139)], none⟩,
    ⟨some 141, .app 1 (.t 134) (.t 140), none⟩,
    ⟨some 142, .nilck (.t 129), none⟩,
    ⟨some 143, .fad 5 (.t 142), none⟩,
    ⟨some 144, .fad 2 (.t 143), none⟩,
    ⟨none, .st 1 (.t 144) (.t 141), none⟩] [(0, 10), (1, 10), (2, 10), (3, 10), (4, 10), (5, 10), (5, 11)]) (.seq (.seq (.ops (.one ⟨some 146, .bin .eql (.t 59) (.c (.int .i64 34)), none⟩ <|
    .one ⟨some 145, .mov (.t 146), none⟩ <|
    .nil)) (.cond (.t 145) (.skip) (.ops (.one ⟨some 147, .bin .eql (.t 59) (.c (.int .i64 35)), none⟩ <|
    .one ⟨some 145, .mov (.t 147), none⟩ <|
    .nil)))) (.mark [0, 2, 4, 145] (.cond (.t 145) (.ops (.one ⟨some 148, .mov (.t 0), none⟩ <|
    .one ⟨some 149, .mov (.t 2), none⟩ <|
    .one ⟨some 150, .fad 0 (.t 4), none⟩ <|
    .one ⟨some 151, .lda 5 (.t 150), none⟩ <|
    .one ⟨some 152, .call (.c (.fn 79 [])) [.t 148, .t 149, .t 151], none⟩ <|
    .nil)) (.ops (.one ⟨some 60, .mov (.t 0), none⟩ <|
    .one ⟨some 61, .mov (.t 2), none⟩ <|
    .one ⟨some 62, .fad 0 (.t 4), none⟩ <|
    .one ⟨some 63, .lda 5 (.t 62), none⟩ <|
    .one ⟨some 64, .call (.c (.fn 80 [])) [.t 60, .t 61, .t 63], none⟩ <|
    .nil))))))))))))))))))))
def code42 : AFunc := ⟨153, [], d42.strip⟩

/-- fulling/vcode.Valid$1 -/
def d43 : DCode :=
  .seq (.ops (.one ⟨some 3, .mov (.c (.bool false)), none⟩ <|
    .nil)) (.seq (.ops (.one ⟨some 4, .mov (.t 0), none⟩ <|
    .one ⟨some 5, .bin .geq (.t 4) (.c (.int .i64 0)), none⟩ <|
    .one ⟨some 6, .mov (.t 5), none⟩ <|
    .grp (.one ⟨some 7, .mov (.t 0), some (6, true)⟩ <|
    .one ⟨some 8, .fad 2 (.t 1), some (6, true)⟩ <|
    .one ⟨some 9, .ld (.t 8), some (6, true)⟩ <|
    .one ⟨some 10, .len (.t 9), some (6, true)⟩ <|
    .one ⟨some 11, .bin .lss (.t 7) (.t 10), some (6, true)⟩ <|
    .nil) 12 6 true 11 none <|
    .one ⟨some 3, .mov (.t 12), none⟩ <|
    .nil)) (.ret))
def code43 : AFunc := ⟨13, [.tmp 3], d43.strip⟩

/-- fulling/vcode.Valid$2 -/
def d44 : DCode :=
  .seq (.ops (.one ⟨some 3, .mov (.c (.bool false)), none⟩ <|
    .nil)) (.seq (.ops (.one ⟨some 4, .mov (.t 0), none⟩ <|
    .one ⟨some 5, .bin .geq (.t 4) (.c (.int .i64 0)), none⟩ <|
    .one ⟨some 6, .mov (.t 5), none⟩ <|
    .grp (.one ⟨some 7, .mov (.t 0), some (6, true)⟩ <|
    .one ⟨some 8, .fad 1 (.t 1), some (6, true)⟩ <|
    .one ⟨some 9, .ld (.t 8), some (6, true)⟩ <|
    .one ⟨some 10, .bin .lss (.t 7) (.t 9), some (6, true)⟩ <|
    .nil) 11 6 true 10 none <|
    .one ⟨some 3, .mov (.t 11), none⟩ <|
    .nil)) (.ret))
def code44 : AFunc := ⟨12, [.tmp 3], d44.strip⟩

/-- fulling/vcode.validInstr -/
def d45 : DCode :=
  .seq (.ops (.box 2 (.t 0) <|
    .box 3 (.t 1) <|
    .one ⟨some 4, .mov (.c (.bool false)), none⟩ <|
    .nil)) (.seq (.ops (.one ⟨some 13, .fad 0 (.t 3), none⟩ <|
    .one ⟨some 14, .lda 5 (.t 13), none⟩ <|
    .alst 5 [.int .i64 0, .int .i64 0, .int .i64 0, .int .i64 0, .int .i64 0] (.t 14) <|
    .nil)) (.seq (.seq (.ops (.one ⟨some 15, .fad 0 (.t 5), none⟩ <|
    .one ⟨some 16, .ld (.t 15), none⟩ <|
    .one ⟨some 17, .call (.c (.fn 53 [])) [.t 16], none⟩ <|
    .one ⟨some 18, .un .not (.t 17), none⟩ <|
    .one ⟨some 19, .mov (.t 18), none⟩ <|
    .grp (.one ⟨some 20, .fad 5 (.t 3), some (19, false)⟩ <|
    .one ⟨some 21, .ld (.t 20), some (19, false)⟩ <|
    .one ⟨some 22, .len (.t 21), some (19, false)⟩ <|
    .one ⟨some 23, .bin .gtr (.t 22) (.c (.int .i64 6)), some (19, false)⟩ <|
    .nil) 24 19 false 23 none <|
    .one ⟨some 25, .mov (.t 24), none⟩ <|
    .grp (.one ⟨some 26, .fad 0 (.t 5), some (25, false)⟩ <|
    .one ⟨some 27, .ld (.t 26), some (25, false)⟩ <|
    .one ⟨some 28, .bin .neq (.t 27) (.c (.int .i64 6)), some (25, false)⟩ <|
    .one ⟨some 29, .mov (.t 28), some (25, false)⟩ <|
    .grp (.one ⟨some 30, .fad 5 (.t 3), some (29, true)⟩ <|
    .one ⟨some 31, .ld (.t 30), some (29, true)⟩ <|
    .one ⟨some 32, .len (.t 31), some (29, true)⟩ <|
    .one ⟨some 33, .bin .gtr (.t 32) (.c (.int .i64 0)), some (29, true)⟩ <|
    .nil) 34 29 true 33 (some (25, false)) <|
    .nil) 35 25 false 34 none <|
    .nil)) (.cond (.t 35) (.seq (.ops (.one ⟨some 4, .mov (.c (.bool false)), none⟩ <|
    .nil)) (.ret)) (.skip))) (.mark [2, 3, 5] (.seq (.ops (.one ⟨some 36, .mkfn 81 [.t 2], none⟩ <|
    .one ⟨some 6, .mov (.t 36), none⟩ <|
    .nil)) (.seq (.seq (.ops (.one ⟨some 37, .fad 5 (.t 3), none⟩ <|
    .one ⟨some 38, .ld (.t 37), none⟩ <|
    .one ⟨some 39, .len (.t 38), none⟩ <|
    .one ⟨some 40, .mov (.c (.int .i64 0)), none⟩ <|
    .nil)) (.block 0 (.loop [2, 5, 6, 38, 39, 40] (.seq (.ops (.one ⟨some 41, .bin .lss (.t 40) (.t 39), none⟩ <|
    .nil)) (.seq (.cond (.t 41) (.skip) (.exit 0)) (.mark [2, 5, 6, 38, 39, 40] (.seq (.block 1 (.seq (.ops (.one ⟨some 42, .iad 1 (.t 38) (.t 40), none⟩ <|
    .one ⟨some 43, .ld (.t 42), none⟩ <|
    .one ⟨some 8, .mov (.t 43), none⟩ <|
    .nil)) (.seq (.ops (.one ⟨some 44, .mov (.t 6), none⟩ <|
    .one ⟨some 45, .mov (.t 8), none⟩ <|
    .one ⟨some 46, .call (.t 44) [.t 45], none⟩ <|
    .one ⟨some 47, .un .not (.t 46), none⟩ <|
    .nil)) (.cond (.t 47) (.seq (.ops (.one ⟨some 4, .mov (.c (.bool false)), none⟩ <|
    .nil)) (.ret)) (.skip))))) (.ops (.one ⟨some 48, .bin .add (.t 40) (.c (.int .i64 1)), none⟩ <|
    .one ⟨some 40, .mov (.t 48), none⟩ <|
    .nil))))))))) (.mark [2, 5, 6] (.seq (.ops (.one ⟨some 9, .mov (.c (.bool false)), none⟩ <|
    .one ⟨some 10, .mov (.c (.bool false)), none⟩ <|
    .one ⟨some 11, .mov (.c (.bool false)), none⟩ <|
    .one ⟨some 12, .mov (.c (.bool false)), none⟩ <|
    .nil)) (.seq (.seq (.ops (.one ⟨some 49, .fad 0 (.t 5), none⟩ <|
    .one ⟨some 50, .ld (.t 49), none⟩ <|
    .one ⟨some 51, .call (.c (.fn 82 [])) [.t 50], none⟩ <|
    .nil)) (.block 2 (.seq (.ops (.one ⟨some 53, .bin .eql (.t 51) (.c (.int .i64 2)), none⟩ <|
    .one ⟨some 52, .mov (.t 53), none⟩ <|
    .nil)) (.cond (.t 52) (.ops (.one ⟨some 9, .mov (.c (.bool true)), none⟩ <|
    .nil)) (.seq (.ops (.one ⟨some 55, .bin .eql (.t 51) (.c (.int .i64 3)), none⟩ <|
    .one ⟨some 54, .mov (.t 55), none⟩ <|
    .nil)) (.cond (.t 54) (.ops (.one ⟨some 9, .mov (.c (.bool true)), none⟩ <|
    .one ⟨some 10, .mov (.c (.bool true)), none⟩ <|
    .nil)) (.seq (.ops (.one ⟨some 57, .bin .eql (.t 51) (.c (.int .i64 4)), none⟩ <|
    .one ⟨some 56, .mov (.t 57), none⟩ <|
    .nil)) (.cond (.t 56) (.ops (.one ⟨some 9, .mov (.c (.bool true)), none⟩ <|
    .one ⟨some 10, .mov (.c (.bool true)), none⟩ <|
    .one ⟨some 11, .mov (.c (.bool true)), none⟩ <|
    .nil)) (.seq (.ops (.one ⟨some 59, .bin .eql (.t 51) (.c (.int .i64 5)), none⟩ <|
    .one ⟨some 58, .mov (.t 59), none⟩ <|
    .nil)) (.cond (.t 58) (.ops (.one ⟨some 9, .mov (.c (.bool true)), none⟩ <|
    .one ⟨some 12, .mov (.c (.bool true)), none⟩ <|
    .nil)) (.seq (.ops (.one ⟨some 61, .bin .eql (.t 51) (.c (.int .i64 7)), none⟩ <|
    .one ⟨some 60, .mov (.t 61), none⟩ <|
    .nil)) (.cond (.t 60) (.ops (.one ⟨some 9, .mov (.c (.bool true)), none⟩ <|
    .one ⟨some 10, .mov (.c (.bool true)), none⟩ <|
    .one ⟨some 12, .mov (.c (.bool true)), none⟩ <|
    .nil)) (.skip))))))))))))) (.mark [2, 5, 6, 9, 10, 11, 12] (.seq (.seq (.ops (.one ⟨some 62, .mov (.t 9), none⟩ <|
    .one ⟨some 63, .mov (.t 62), none⟩ <|
    .grp (.one ⟨some 64, .mov (.t 6), some (63, true)⟩ <|
    .one ⟨some 65, .fad 1 (.t 5), some (63, true)⟩ <|
    .one ⟨some 66, .ld (.t 65), some (63, true)⟩ <|
    .one ⟨some 67, .call (.t 64) [.t 66], some (63, true)⟩ <|
    .one ⟨some 68, .un .not (.t 67), some (63, true)⟩ <|
    .nil) 69 63 true 68 none <|
    .one ⟨some 70, .mov (.t 69), none⟩ <|
    .grp (.one ⟨some 71, .mov (.t 10), some (70, false)⟩ <|
    .one ⟨some 72, .mov (.t 71), some (70, false)⟩ <|
    .grp (.one ⟨some 73, .mov (.t 6), some (72, true)⟩ <|
    .one ⟨some 74, .fad 2 (.t 5), some (72, true)⟩ <|
    .one ⟨some 75, .ld (.t 74), some (72, true)⟩ <|
    .one ⟨some 76, .call (.t 73) [.t 75], some (72, true)⟩ <|
    .one ⟨some 77, .un .not (.t 76), some (72, true)⟩ <|
    .nil) 78 72 true 77 (some (70, false)) <|
    .nil) 79 70 false 78 none <|
    .one ⟨some 80, .mov (.t 79), none⟩ <|
    .grp (.one ⟨some 81, .mov (.t 11), some (80, false)⟩ <|
    .one ⟨some 82, .mov (.t 81), some (80, false)⟩ <|
    .grp (.one ⟨some 83, .mov (.t 6), some (82, true)⟩ <|
    .one ⟨some 84, .fad 3 (.t 5), some (82, true)⟩ <|
    .one ⟨some 85, .ld (.t 84), some (82, true)⟩ <|
    .one ⟨some 86, .call (.t 83) [.t 85], some (82, true)⟩ <|
    .one ⟨some 87, .un .not (.t 86), some (82, true)⟩ <|
    .nil) 88 82 true 87 (some (80, false)) <|
    .nil) 89 80 false 88 none <|
    .one ⟨some 90, .mov (.t 89), none⟩ <|
    .grp (.one ⟨some 91, .mov (.t 9), some (90, false)⟩ <|
    .one ⟨some 92, .un .not (.t 91), some (90, false)⟩ <|
    .one ⟨some 93, .mov (.t 92), some (90, false)⟩ <|
    .grp (.one ⟨some 94, .fad 1 (.t 5), some (93, true)⟩ <|
    .one ⟨some 95, .ld (.t 94), some (93, true)⟩ <|
    .one ⟨some 96, .bin .neq (.t 95) (.c (.int .i64 0)), some (93, true)⟩ <|
    .nil) 97 93 true 96 (some (90, false)) <|
    .nil) 98 90 false 97 none <|
    .one ⟨some 99, .mov (.t 98), none⟩ <|
    .grp (.one ⟨some 100, .mov (.t 10), some (99, false)⟩ <|
    .one ⟨some 101, .un .not (.t 100), some (99, false)⟩ <|
    .one ⟨some 102, .mov (.t 101), some (99, false)⟩ <|
    .grp (.one ⟨some 103, .fad 2 (.t 5), some (102, true)⟩ <|
    .one ⟨some 104, .ld (.t 103), some (102, true)⟩ <|
    .one ⟨some 105, .bin .neq (.t 104) (.c (.int .i64 0)), some (102, true)⟩ <|
    .nil) 106 102 true 105 (some (99, false)) <|
    .nil) 107 99 false 106 none <|
    .one ⟨some 108, .mov (.t 107), none⟩ <|
    .grp (.one ⟨some 109, .mov (.t 11), some (108, false)⟩ <|
    .one ⟨some 110, .un .not (.t 109), some (108, false)⟩ <|
    .one ⟨some 111, .mov (.t 110), some (108, false)⟩ <|
    .grp (.one ⟨some 112, .fad 3 (.t 5), some (111, true)⟩ <|
    .one ⟨some 113, .ld (.t 112), some (111, true)⟩ <|
    .one ⟨some 114, .bin .neq (.t 113) (.c (.int .i64 0)), some (111, true)⟩ <|
    .nil) 115 111 true 114 (some (108, false)) <|
    .nil) 116 108 false 115 none <|
    .one ⟨some 117, .mov (.t 116), none⟩ <|
    .grp (.one ⟨some 118, .mov (.t 12), some (117, false)⟩ <|
    .one ⟨some 119, .un .not (.t 118), some (117, false)⟩ <|
    .one ⟨some 120, .mov (.t 119), some (117, false)⟩ <|
    .grp (.one ⟨some 121, .fad 4 (.t 5), some (120, true)⟩ <|
    .one ⟨some 122, .ld (.t 121), some (120, true)⟩ <|
    .one ⟨some 123, .bin .neq (.t 122) (.c (.int .i64 0)), some (120, true)⟩ <|
    .nil) 124 120 true 123 (some (117, false)) <|
    .nil) 125 117 false 124 none <|
    .nil)) (.cond (.t 125) (.seq (.ops (.one ⟨some 4, .mov (.c (.bool false)), none⟩ <|
    .nil)) (.ret)) (.skip))) (.mark [2, 5] (.seq (.seq (.ops (.one ⟨some 126, .fad 0 (.t 5), none⟩ <|
    .one ⟨some 127, .ld (.t 126), none⟩ <|
    .nil)) (.block 3 (.seq (.ops (.one ⟨some 129, .bin .eql (.t 127) (.c (.int .i64 33)), none⟩ <|
    .one ⟨some 128, .mov (.t 129), none⟩ <|
    .nil)) (.cond (.t 128) (.seq (.ops (.one ⟨some 130, .fad 4 (.t 5), none⟩ <|
    .one ⟨some 131, .ld (.t 130), none⟩ <|
    .one ⟨some 132, .bin .geq (.t 131) (.c (.int .i64 (-4194304))), none⟩ <|
    .one ⟨some 133, .mov (.t 132), none⟩ <|
    .grp (.one ⟨some 134, .fad 4 (.t 5), some (133, true)⟩ <|
    .one ⟨some 135, .ld (.t 134), some (133, true)⟩ <|
    .one ⟨some 136, .bin .lss (.t 135) (.c (.int .i64 4194304)), some (133, true)⟩ <|
    .nil) 137 133 true 136 none <|
    .one ⟨some 4, .mov (.t 137), none⟩ <|
    .nil)) (.ret)) (.seq (.ops (.one ⟨some 139, .bin .eql (.t 127) (.c (.int .i64 6)), none⟩ <|
    .one ⟨some 138, .mov (.t 139), none⟩ <|
    .nil)) (.cond (.t 138) (.seq (.ops (.one ⟨some 140, .fad 4 (.t 5), none⟩ <|
    .one ⟨some 141, .ld (.t 140), none⟩ <|
    .one ⟨some 142, .bin .geq (.t 141) (.c (.int .i64 0)), none⟩ <|
    .one ⟨some 143, .mov (.t 142), none⟩ <|
    .grp (.one ⟨some 144, .fad 4 (.t 5), some (143, true)⟩ <|
    .one ⟨some 145, .ld (.t 144), some (143, true)⟩ <|
    .one ⟨some 146, .bin .lss (.t 145) (.c (.int .i64 8)), some (143, true)⟩ <|
    .nil) 147 143 true 146 none <|
    .one ⟨some 4, .mov (.t 147), none⟩ <|
    .nil)) (.ret)) (.seq (.seq (.ops (.one ⟨some 149, .bin .eql (.t 127) (.c (.int .i64 34)), none⟩ <|
    .one ⟨some 148, .mov (.t 149), none⟩ <|
    .nil)) (.cond (.t 148) (.skip) (.ops (.one ⟨some 150, .bin .eql (.t 127) (.c (.int .i64 35)), none⟩ <|
    .one ⟨some 148, .mov (.t 150), none⟩ <|
    .nil)))) (.mark [2, 5, 127, 148] (.cond (.t 148) (.seq (.ops (.one ⟨some 151, .fad 4 (.t 5), none⟩ <|
    .one ⟨some 152, .ld (.t 151), none⟩ <|
    .one ⟨some 153, .bin .geq (.t 152) (.c (.int .i64 0)), none⟩ <|
    .one ⟨some 154, .mov (.t 153), none⟩ <|
    .grp (.one ⟨some 155, .fad 4 (.t 5), some (154, true)⟩ <|
    .one ⟨some 156, .ld (.t 155), some (154, true)⟩ <|
    .one ⟨some 157, .bin .lss (.t 156) (.c (.int .i64 4)), some (154, true)⟩ <|
    .nil) 158 154 true 157 none <|
    .one ⟨some 4, .mov (.t 158), none⟩ <|
    .nil)) (.ret)) (.seq (.ops (.one ⟨some 160, .bin .eql (.t 127) (.c (.int .i64 38)), none⟩ <|
    .one ⟨some 159, .mov (.t 160), none⟩ <|
    .nil)) (.cond (.t 159) (.seq (.ops (.one ⟨some 161, .fad 4 (.t 5), none⟩ <|
    .one ⟨some 162, .ld (.t 161), none⟩ <|
    .one ⟨some 163, .bin .geq (.t 162) (.c (.int .i64 0)), none⟩ <|
    .one ⟨some 164, .mov (.t 163), none⟩ <|
    .grp (.one ⟨some 165, .fad 4 (.t 5), some (164, true)⟩ <|
    .one ⟨some 166, .ld (.t 165), some (164, true)⟩ <|
    .one ⟨some 167, .fad 0 (.t 2), some (164, true)⟩ <|
    .one ⟨some 168, .ld (.t 167), some (164, true)⟩ <|
    .one ⟨some 169, .bin .lss (.t 166) (.t 168), some (164, true)⟩ <|
    .nil) 170 164 true 169 none <|
    .one ⟨some 4, .mov (.t 170), none⟩ <|
    .nil)) (.ret)) (.skip)))))))))))) (.seq (.ops (.one ⟨some 4, .mov (.c (.bool true)), none⟩ <|
    .nil)) (.ret))))))))))))))
def code45 : AFunc := ⟨171, [.tmp 4], d45.strip⟩

/-- fulling/vcode.unique -/
def d46 : DCode :=
  .seq (.ops (.one ⟨some 2, .mov (.c (.nilsl)), none⟩ <|
    .nil)) (.seq (.ops (.one ⟨some 3, .mov (.c (.nilsl)), none⟩ <|
    .nil)) (.seq (.seq (.ops (.one ⟨some 7, .mov (.t 0), none⟩ <|
    .one ⟨some 8, .len (.t 7), none⟩ <|
    .one ⟨some 9, .mov (.c (.int .i64 0)), none⟩ <|
    .nil)) (.block 0 (.loop [3, 7, 8, 9] (.seq (.ops (.one ⟨some 10, .bin .lss (.t 9) (.t 8), none⟩ <|
    .nil)) (.seq (.cond (.t 10) (.skip) (.exit 0)) (.mark [3, 7, 8, 9] (.seq (.block 1 (.seq (.ops (.one ⟨some 11, .iad 1 (.t 7) (.t 9), none⟩ <|
    .one ⟨some 12, .ld (.t 11), none⟩ <|
    .one ⟨some 5, .mov (.t 12), none⟩ <|
    .nil)) (.seq (.ops (.one ⟨some 13, .mov (.t 3), none⟩ <|
    .one ⟨some 14, .len (.t 13), none⟩ <|
    .one ⟨some 6, .mov (.t 14), none⟩ <|
    .nil)) (.seq (.block 2 (.loop [3, 5, 6, 7, 8, 9] (.seq (.seq (.ops (.one ⟨some 15, .mov (.t 6), none⟩ <|
    .one ⟨some 16, .bin .gtr (.t 15) (.c (.int .i64 0)), none⟩ <|
    .one ⟨some 17, .mov (.t 16), none⟩ <|
    .grp (.one ⟨some 18, .mov (.t 3), some (17, true)⟩ <|
    .one ⟨some 19, .mov (.t 6), some (17, true)⟩ <|
    .one ⟨some 20, .bin .sub (.t 19) (.c (.int .i64 1)), some (17, true)⟩ <|
    .one ⟨some 21, .iad 1 (.t 18) (.t 20), some (17, true)⟩ <|
    .one ⟨some 22, .ld (.t 21), some (17, true)⟩ <|
    .one ⟨some 23, .mov (.t 5), some (17, true)⟩ <|
    .one ⟨some 24, .bin .geq (.t 22) (.t 23), some (17, true)⟩ <|
    .nil) 25 17 true 24 none <|
    .nil)) (.cond (.t 25) (.skip) (.exit 2))) (.block 3 (.ops (.one ⟨some 26, .mov (.t 6), none⟩ <|
    .one ⟨some 27, .bin .sub (.t 26) (.c (.int .i64 1)), none⟩ <|
    .one ⟨some 6, .mov (.t 27), none⟩ <|
    .nil)))))) (.mark [3, 5, 6, 7, 8, 9] (.seq (.seq (.ops (.one ⟨some 28, .mov (.t 6), none⟩ <|
    .one ⟨some 29, .mov (.t 3), none⟩ <|
    .one ⟨some 30, .len (.t 29), none⟩ <|
    .one ⟨some 31, .bin .lss (.t 28) (.t 30), none⟩ <|
    .one ⟨some 32, .mov (.t 31), none⟩ <|
    .grp (.one ⟨some 33, .mov (.t 3), some (32, true)⟩ <|
    .one ⟨some 34, .mov (.t 6), some (32, true)⟩ <|
    .one ⟨some 35, .iad 1 (.t 33) (.t 34), some (32, true)⟩ <|
    .one ⟨some 36, .ld (.t 35), some (32, true)⟩ <|
    .one ⟨some 37, .mov (.t 5), some (32, true)⟩ <|
    .one ⟨some 38, .bin .eql (.t 36) (.t 37), some (32, true)⟩ <|
    .nil) 39 32 true 38 none <|
    .nil)) (.cond (.t 39) (.exit 1) (.skip))) (.mark [3, 5, 6, 7, 8, 9] (.seq (.ops (.one ⟨some 40, .mov (.t 3), none⟩ <|
    .bsl 41 1 [.int .i64 0] 1 [(0, .c (.int .i64 0))] <|
    .one ⟨some 42, .app 1 (.t 40) (.t 41), none⟩ <|
    .one ⟨some 3, .mov (.t 42), none⟩ <|
    .nil)) (.seq (.drawq (.one ⟨some 43, .mov (.t 3), none⟩ <|
    .one ⟨some 44, .mov (.t 6), none⟩ <|
    .one ⟨some 45, .bin .add (.t 44) (.c (.int .i64 1)), none⟩ <|
    .one ⟨some 46, .slice 1 (.t 43) (some (.t 45)) none, none⟩ <|
    .one ⟨some 47, .mov (.t 3), none⟩ <|
    .one ⟨some 48, .mov (.t 6), none⟩ <|
    .one ⟨some 49, .slice 1 (.t 47) (some (.t 48)) none, none⟩ <|
    .one ⟨some 50, .cpy 1 (.t 46) (.t 49), none⟩ <|
    .nil) []) (.ops (.one ⟨some 51, .mov (.t 3), none⟩ <|
    .one ⟨some 52, .mov (.t 6), none⟩ <|
    .one ⟨some 53, .mov (.t 5), none⟩ <|
    .one ⟨some 54, .iad 1 (.t 51) (.t 52), none⟩ <|
    .one ⟨none, .st 1 (.t 54) (.t 53), none⟩ <|
    .nil))))))))))) (.ops (.one ⟨some 55, .bin .add (.t 9) (.c (.int .i64 1)), none⟩ <|
    .one ⟨some 9, .mov (.t 55), none⟩ <|
    .nil))))))))) (.seq (.ops (.one ⟨some 56, .mov (.t 3), none⟩ <|
    .one ⟨some 2, .mov (.t 56), none⟩ <|
    .nil)) (.ret))))
def code46 : AFunc := ⟨57, [.tmp 2], d46.strip⟩

/-- fulling/fullingref32.validEnd -/
def d49 : DCode :=
  .seq (.ops (.box 2 (.t 0) <|
    .box 3 (.t 1) <|
    .one ⟨some 4, .mov (.c (.bool false)), none⟩ <|
    .nil)) (.seq (.ops (.one ⟨some 9, .fad 2 (.t 3), none⟩ <|
    .one ⟨some 10, .ld (.t 9), none⟩ <|
    .one ⟨some 11, .len (.t 10), none⟩ <|
    .one ⟨some 5, .mov (.t 11), none⟩ <|
    .nil)) (.seq (.drawq (.one ⟨some 12, .fad 3 (.t 2), none⟩ <|
    .one ⟨some 13, .ld (.t 12), none⟩ <|
    .one ⟨some 14, .bin .geq (.t 13) (.c (.int .i64 0)), none⟩ <|
    .one ⟨some 15, .mov (.t 14), none⟩ <|
    .grp (.one ⟨some 16, .fad 3 (.t 2), some (15, true)⟩ <|
    .one ⟨some 17, .ld (.t 16), some (15, true)⟩ <|
    .one ⟨some 18, .mov (.t 5), some (15, true)⟩ <|
    .one ⟨some 19, .bin .lss (.t 17) (.t 18), some (15, true)⟩ <|
    .nil) 20 15 true 19 none <|
    .one ⟨some 21, .fad 4 (.t 2), none⟩ <|
    .one ⟨some 22, .ld (.t 21), none⟩ <|
    .one ⟨some 23, .bin .geq (.t 22) (.c (.int .i64 0)), none⟩ <|
    .one ⟨some 24, .mov (.t 23), none⟩ <|
    .grp (.one ⟨some 25, .fad 4 (.t 2), some (24, true)⟩ <|
    .one ⟨some 26, .ld (.t 25), some (24, true)⟩ <|
    .one ⟨some 27, .mov (.t 5), some (24, true)⟩ <|
    .one ⟨some 28, .bin .lss (.t 26) (.t 27), some (24, true)⟩ <|
    .nil) 29 24 true 28 none <|
    .one ⟨some 30, .fad 2 (.t 2), none⟩ <|
    .one ⟨some 31, .ld (.t 30), none⟩ <|
    .one ⟨some 32, .bin .geq (.t 31) (.c (.int .i64 0)), none⟩ <|
    .one ⟨some 33, .mov (.t 32), none⟩ <|
    .grp (.one ⟨some 34, .fad 2 (.t 2), some (33, true)⟩ <|
    .one ⟨some 35, .ld (.t 34), some (33, true)⟩ <|
    .one ⟨some 36, .fad 1 (.t 3), some (33, true)⟩ <|
    .one ⟨some 37, .ld (.t 36), some (33, true)⟩ <|
    .one ⟨some 38, .bin .lss (.t 35) (.t 37), some (33, true)⟩ <|
    .nil) 39 33 true 38 none <|
    .one ⟨some 6, .mov (.t 20), none⟩ <|
    .one ⟨some 7, .mov (.t 29), none⟩ <|
    .one ⟨some 8, .mov (.t 39), none⟩ <|
    .nil) []) (.seq (.seq (.ops (.one ⟨some 40, .fad 1 (.t 2), none⟩ <|
    .one ⟨some 41, .ld (.t 40), none⟩ <|
    .nil)) (.block 0 (.seq (.ops (.one ⟨some 43, .bin .eql (.t 41) (.c (.int .i64 1)), none⟩ <|
    .one ⟨some 42, .mov (.t 43), none⟩ <|
    .nil)) (.cond (.t 42) (.seq (.ops (.one ⟨some 44, .mov (.t 6), none⟩ <|
    .one ⟨some 45, .mov (.t 44), none⟩ <|
    .grp (.one ⟨some 46, .fad 4 (.t 2), some (45, true)⟩ <|
    .one ⟨some 47, .ld (.t 46), some (45, true)⟩ <|
    .one ⟨some 48, .bin .eql (.t 47) (.c (.int .i64 0)), some (45, true)⟩ <|
    .nil) 49 45 true 48 none <|
    .one ⟨some 50, .mov (.t 49), none⟩ <|
    .grp (.one ⟨some 51, .fad 2 (.t 2), some (50, true)⟩ <|
    .one ⟨some 52, .ld (.t 51), some (50, true)⟩ <|
    .one ⟨some 53, .bin .eql (.t 52) (.c (.int .i64 0)), some (50, true)⟩ <|
    .nil) 54 50 true 53 none <|
    .one ⟨some 4, .mov (.t 54), none⟩ <|
    .nil)) (.ret)) (.seq (.ops (.one ⟨some 56, .bin .eql (.t 41) (.c (.int .i64 2)), none⟩ <|
    .one ⟨some 55, .mov (.t 56), none⟩ <|
    .nil)) (.cond (.t 55) (.seq (.ops (.one ⟨some 57, .mov (.t 6), none⟩ <|
    .one ⟨some 58, .mov (.t 57), none⟩ <|
    .grp (.one ⟨some 59, .mov (.t 7), some (58, true)⟩ <|
    .nil) 60 58 true 59 none <|
    .one ⟨some 61, .mov (.t 60), none⟩ <|
    .grp (.one ⟨some 62, .mov (.t 8), some (61, true)⟩ <|
    .nil) 63 61 true 62 none <|
    .one ⟨some 4, .mov (.t 63), none⟩ <|
    .nil)) (.ret)) (.seq (.ops (.one ⟨some 65, .bin .eql (.t 41) (.c (.int .i64 3)), none⟩ <|
    .one ⟨some 64, .mov (.t 65), none⟩ <|
    .nil)) (.cond (.t 64) (.seq (.ops (.one ⟨some 66, .mov (.t 8), none⟩ <|
    .one ⟨some 67, .mov (.t 66), none⟩ <|
    .grp (.one ⟨some 68, .fad 3 (.t 2), some (67, true)⟩ <|
    .one ⟨some 69, .ld (.t 68), some (67, true)⟩ <|
    .one ⟨some 70, .bin .eql (.t 69) (.c (.int .i64 0)), some (67, true)⟩ <|
    .nil) 71 67 true 70 none <|
    .one ⟨some 72, .mov (.t 71), none⟩ <|
    .grp (.one ⟨some 73, .fad 4 (.t 2), some (72, true)⟩ <|
    .one ⟨some 74, .ld (.t 73), some (72, true)⟩ <|
    .one ⟨some 75, .bin .eql (.t 74) (.c (.int .i64 0)), some (72, true)⟩ <|
    .nil) 76 72 true 75 none <|
    .one ⟨some 4, .mov (.t 76), none⟩ <|
    .nil)) (.ret)) (.seq (.ops (.one ⟨some 78, .bin .eql (.t 41) (.c (.int .i64 4)), none⟩ <|
    .one ⟨some 77, .mov (.t 78), none⟩ <|
    .nil)) (.cond (.t 77) (.seq (.ops (.one ⟨some 79, .fad 3 (.t 2), none⟩ <|
    .one ⟨some 80, .ld (.t 79), none⟩ <|
    .one ⟨some 81, .bin .geq (.t 80) (.c (.int .i64 1)), none⟩ <|
    .one ⟨some 82, .mov (.t 81), none⟩ <|
    .grp (.one ⟨some 83, .fad 3 (.t 2), some (82, true)⟩ <|
    .one ⟨some 84, .ld (.t 83), some (82, true)⟩ <|
    .one ⟨some 85, .bin .lss (.t 84) (.c (.int .i64 33554432)), some (82, true)⟩ <|
    .nil) 86 82 true 85 none <|
    .one ⟨some 87, .mov (.t 86), none⟩ <|
    .grp (.one ⟨some 88, .fad 4 (.t 2), some (87, true)⟩ <|
    .one ⟨some 89, .ld (.t 88), some (87, true)⟩ <|
    .one ⟨some 90, .bin .eql (.t 89) (.c (.int .i64 0)), some (87, true)⟩ <|
    .nil) 91 87 true 90 none <|
    .one ⟨some 92, .mov (.t 91), none⟩ <|
    .grp (.one ⟨some 93, .fad 2 (.t 2), some (92, true)⟩ <|
    .one ⟨some 94, .ld (.t 93), some (92, true)⟩ <|
    .one ⟨some 95, .bin .eql (.t 94) (.c (.int .i64 0)), some (92, true)⟩ <|
    .nil) 96 92 true 95 none <|
    .one ⟨some 4, .mov (.t 96), none⟩ <|
    .nil)) (.ret)) (.skip))))))))))) (.seq (.ops (.one ⟨some 4, .mov (.c (.bool false)), none⟩ <|
    .nil)) (.ret)))))
def code49 : AFunc := ⟨97, [.tmp 4], d49.strip⟩

/-- fulling/fullingref32.validInstr -/
def d50 : DCode :=
  .seq (.ops (.box 2 (.t 0) <|
    .box 3 (.t 1) <|
    .one ⟨some 4, .mov (.c (.bool false)), none⟩ <|
    .nil)) (.seq (.ops (.one ⟨some 10, .fad 0 (.t 2), none⟩ <|
    .one ⟨some 11, .lda 5 (.t 10), none⟩ <|
    .alst 5 [.int .i64 0, .int .i64 0, .int .i64 0, .int .i64 0, .int .i64 0] (.t 11) <|
    .nil)) (.seq (.seq (.ops (.one ⟨some 12, .fad 0 (.t 5), none⟩ <|
    .one ⟨some 13, .ld (.t 12), none⟩ <|
    .one ⟨some 14, .call (.c (.fn 55 [])) [.t 13], none⟩ <|
    .one ⟨some 15, .un .not (.t 14), none⟩ <|
    .one ⟨some 16, .mov (.t 15), none⟩ <|
    .grp (.one ⟨some 17, .fad 0 (.t 5), some (16, false)⟩ <|
    .one ⟨some 18, .ld (.t 17), some (16, false)⟩ <|
    .one ⟨some 19, .bin .neq (.t 18) (.c (.int .i64 6)), some (16, false)⟩ <|
    .one ⟨some 20, .mov (.t 19), some (16, false)⟩ <|
    .grp (.one ⟨some 21, .fad 5 (.t 2), some (20, true)⟩ <|
    .one ⟨some 22, .ld (.t 21), some (20, true)⟩ <|
    .one ⟨some 23, .len (.t 22), some (20, true)⟩ <|
    .one ⟨some 24, .bin .gtr (.t 23) (.c (.int .i64 0)), some (20, true)⟩ <|
    .nil) 25 20 true 24 (some (16, false)) <|
    .nil) 26 16 false 25 none <|
    .one ⟨some 27, .mov (.t 26), none⟩ <|
    .grp (.one ⟨some 28, .fad 5 (.t 2), some (27, false)⟩ <|
    .one ⟨some 29, .ld (.t 28), some (27, false)⟩ <|
    .one ⟨some 30, .len (.t 29), some (27, false)⟩ <|
    .one ⟨some 31, .bin .gtr (.t 30) (.c (.int .i64 6)), some (27, false)⟩ <|
    .nil) 32 27 false 31 none <|
    .nil)) (.cond (.t 32) (.seq (.ops (.one ⟨some 4, .mov (.c (.bool false)), none⟩ <|
    .nil)) (.ret)) (.skip))) (.mark [2, 3, 5] (.seq (.seq (.ops (.one ⟨some 6, .mov (.c (.int .i64 0)), none⟩ <|
    .nil)) (.block 0 (.loop [2, 3, 5, 6] (.seq (.seq (.ops (.one ⟨some 33, .mov (.t 6), none⟩ <|
    .one ⟨some 34, .fad 5 (.t 2), none⟩ <|
    .one ⟨some 35, .ld (.t 34), none⟩ <|
    .one ⟨some 36, .len (.t 35), none⟩ <|
    .one ⟨some 37, .bin .lss (.t 33) (.t 36), none⟩ <|
    .nil)) (.cond (.t 37) (.skip) (.exit 0))) (.mark [2, 3, 5, 6] (.seq (.block 1 (.seq (.drawq (.one ⟨some 40, .fad 5 (.t 2), none⟩ <|
    .one ⟨some 41, .ld (.t 40), none⟩ <|
    .one ⟨some 42, .mov (.t 6), none⟩ <|
    .one ⟨some 43, .iad 1 (.t 41) (.t 42), none⟩ <|
    .one ⟨some 44, .ld (.t 43), none⟩ <|
    .one ⟨some 45, .bin .lss (.t 44) (.c (.int .i64 0)), none⟩ <|
    .one ⟨some 46, .mov (.t 45), none⟩ <|
    .grp (.one ⟨some 47, .fad 5 (.t 2), some (46, false)⟩ <|
    .one ⟨some 48, .ld (.t 47), some (46, false)⟩ <|
    .one ⟨some 49, .mov (.t 6), some (46, false)⟩ <|
    .one ⟨some 50, .iad 1 (.t 48) (.t 49), some (46, false)⟩ <|
    .one ⟨some 51, .ld (.t 50), some (46, false)⟩ <|
    .one ⟨some 52, .fad 1 (.t 3), some (46, false)⟩ <|
    .one ⟨some 53, .ld (.t 52), some (46, false)⟩ <|
    .one ⟨some 54, .bin .geq (.t 51) (.t 53), some (46, false)⟩ <|
    .nil) 55 46 false 54 none <|
    .nil) []) (.cond (.t 55) (.seq (.ops (.one ⟨some 4, .mov (.c (.bool false)), none⟩ <|
    .nil)) (.ret)) (.skip)))) (.ops (.one ⟨some 38, .mov (.t 6), none⟩ <|
    .one ⟨some 39, .bin .add (.t 38) (.c (.int .i64 1)), none⟩ <|
    .one ⟨some 6, .mov (.t 39), none⟩ <|
    .nil)))))))) (.mark [3, 5] (.seq (.ops (.one ⟨some 56, .fad 0 (.t 5), none⟩ <|
    .one ⟨some 57, .ld (.t 56), none⟩ <|
    .one ⟨some 58, .call (.c (.fn 56 [])) [.t 57], none⟩ <|
    .one ⟨some 59, .fld 1 (.t 58), none⟩ <|
    .one ⟨some 7, .mov (.t 59), none⟩ <|
    .nil)) (.seq (.ops (.one ⟨some 60, .mov (.t 7), none⟩ <|
    .one ⟨some 61, .bin .neq (.t 60) (.c (.int .i64 1)), none⟩ <|
    .one ⟨some 8, .mov (.t 61), none⟩ <|
    .nil)) (.seq (.ops (.one ⟨some 62, .mov (.t 7), none⟩ <|
    .one ⟨some 63, .bin .eql (.t 62) (.c (.int .i64 3)), none⟩ <|
    .one ⟨some 64, .mov (.t 63), none⟩ <|
    .grp (.one ⟨some 65, .mov (.t 7), some (64, false)⟩ <|
    .one ⟨some 66, .bin .eql (.t 65) (.c (.int .i64 4)), some (64, false)⟩ <|
    .nil) 67 64 false 66 none <|
    .one ⟨some 68, .mov (.t 67), none⟩ <|
    .grp (.one ⟨some 69, .mov (.t 7), some (68, false)⟩ <|
    .one ⟨some 70, .bin .eql (.t 69) (.c (.int .i64 7)), some (68, false)⟩ <|
    .nil) 71 68 false 70 none <|
    .one ⟨some 9, .mov (.t 71), none⟩ <|
    .nil)) (.seq (.seq (.ops (.one ⟨some 72, .mov (.t 8), none⟩ <|
    .one ⟨some 73, .fad 1 (.t 5), none⟩ <|
    .one ⟨some 74, .ld (.t 73), none⟩ <|
    .one ⟨some 75, .fad 1 (.t 3), none⟩ <|
    .one ⟨some 76, .ld (.t 75), none⟩ <|
    .one ⟨some 77, .call (.c (.fn 83 [])) [.t 72, .t 74, .t 76], none⟩ <|
    .one ⟨some 78, .un .not (.t 77), none⟩ <|
    .one ⟨some 79, .mov (.t 78), none⟩ <|
    .grp (.one ⟨some 80, .mov (.t 9), some (79, false)⟩ <|
    .one ⟨some 81, .fad 2 (.t 5), some (79, false)⟩ <|
    .one ⟨some 82, .ld (.t 81), some (79, false)⟩ <|
    .one ⟨some 83, .fad 1 (.t 3), some (79, false)⟩ <|
    .one ⟨some 84, .ld (.t 83), some (79, false)⟩ <|
    .one ⟨some 85, .call (.c (.fn 83 [])) [.t 80, .t 82, .t 84], some (79, false)⟩ <|
    .one ⟨some 86, .un .not (.t 85), some (79, false)⟩ <|
    .nil) 87 79 false 86 none <|
    .one ⟨some 88, .mov (.t 87), none⟩ <|
    .grp (.one ⟨some 89, .mov (.t 7), some (88, false)⟩ <|
    .one ⟨some 90, .bin .eql (.t 89) (.c (.int .i64 4)), some (88, false)⟩ <|
    .one ⟨some 91, .fad 3 (.t 5), some (88, false)⟩ <|
    .one ⟨some 92, .ld (.t 91), some (88, false)⟩ <|
    .one ⟨some 93, .fad 1 (.t 3), some (88, false)⟩ <|
    .one ⟨some 94, .ld (.t 93), some (88, false)⟩ <|
    .one ⟨some 95, .call (.c (.fn 83 [])) [.t 90, .t 92, .t 94], some (88, false)⟩ <|
    .one ⟨some 96, .un .not (.t 95), some (88, false)⟩ <|
    .nil) 97 88 false 96 none <|
    .nil)) (.cond (.t 97) (.seq (.ops (.one ⟨some 4, .mov (.c (.bool false)), none⟩ <|
    .nil)) (.ret)) (.skip))) (.mark [3, 5] (.seq (.seq (.ops (.one ⟨some 98, .fad 0 (.t 5), none⟩ <|
    .one ⟨some 99, .ld (.t 98), none⟩ <|
    .nil)) (.block 2 (.seq (.ops (.one ⟨some 101, .bin .eql (.t 99) (.c (.int .i64 13)), none⟩ <|
    .one ⟨some 100, .mov (.t 101), none⟩ <|
    .nil)) (.cond (.t 100) (.seq (.ops (.one ⟨some 4, .mov (.c (.bool true)), none⟩ <|
    .nil)) (.ret)) (.seq (.ops (.one ⟨some 103, .bin .eql (.t 99) (.c (.int .i64 33)), none⟩ <|
    .one ⟨some 102, .mov (.t 103), none⟩ <|
    .nil)) (.cond (.t 102) (.seq (.ops (.one ⟨some 104, .fad 4 (.t 5), none⟩ <|
    .one ⟨some 105, .ld (.t 104), none⟩ <|
    .one ⟨some 106, .bin .geq (.t 105) (.c (.int .i64 (-4194304))), none⟩ <|
    .one ⟨some 107, .mov (.t 106), none⟩ <|
    .grp (.one ⟨some 108, .fad 4 (.t 5), some (107, true)⟩ <|
    .one ⟨some 109, .ld (.t 108), some (107, true)⟩ <|
    .one ⟨some 110, .bin .lss (.t 109) (.c (.int .i64 4194304)), some (107, true)⟩ <|
    .nil) 111 107 true 110 none <|
    .one ⟨some 4, .mov (.t 111), none⟩ <|
    .nil)) (.ret)) (.seq (.ops (.one ⟨some 113, .bin .eql (.t 99) (.c (.int .i64 6)), none⟩ <|
    .one ⟨some 112, .mov (.t 113), none⟩ <|
    .nil)) (.cond (.t 112) (.seq (.ops (.one ⟨some 114, .fad 4 (.t 5), none⟩ <|
    .one ⟨some 115, .ld (.t 114), none⟩ <|
    .one ⟨some 116, .bin .geq (.t 115) (.c (.int .i64 0)), none⟩ <|
    .one ⟨some 117, .mov (.t 116), none⟩ <|
    .grp (.one ⟨some 118, .fad 4 (.t 5), some (117, true)⟩ <|
    .one ⟨some 119, .ld (.t 118), some (117, true)⟩ <|
    .one ⟨some 120, .bin .lss (.t 119) (.c (.int .i64 8)), some (117, true)⟩ <|
    .nil) 121 117 true 120 none <|
    .one ⟨some 4, .mov (.t 121), none⟩ <|
    .nil)) (.ret)) (.seq (.seq (.ops (.one ⟨some 123, .bin .eql (.t 99) (.c (.int .i64 34)), none⟩ <|
    .one ⟨some 122, .mov (.t 123), none⟩ <|
    .nil)) (.cond (.t 122) (.skip) (.ops (.one ⟨some 124, .bin .eql (.t 99) (.c (.int .i64 35)), none⟩ <|
    .one ⟨some 122, .mov (.t 124), none⟩ <|
    .nil)))) (.mark [3, 5, 99, 122] (.cond (.t 122) (.seq (.ops (.one ⟨some 125, .fad 4 (.t 5), none⟩ <|
    .one ⟨some 126, .ld (.t 125), none⟩ <|
    .one ⟨some 127, .bin .geq (.t 126) (.c (.int .i64 0)), none⟩ <|
    .one ⟨some 128, .mov (.t 127), none⟩ <|
    .grp (.one ⟨some 129, .fad 4 (.t 5), some (128, true)⟩ <|
    .one ⟨some 130, .ld (.t 129), some (128, true)⟩ <|
    .one ⟨some 131, .bin .lss (.t 130) (.c (.int .i64 4)), some (128, true)⟩ <|
    .nil) 132 128 true 131 none <|
    .one ⟨some 4, .mov (.t 132), none⟩ <|
    .nil)) (.ret)) (.seq (.ops (.one ⟨some 134, .bin .eql (.t 99) (.c (.int .i64 38)), none⟩ <|
    .one ⟨some 133, .mov (.t 134), none⟩ <|
    .nil)) (.cond (.t 133) (.seq (.ops (.one ⟨some 135, .fad 4 (.t 5), none⟩ <|
    .one ⟨some 136, .ld (.t 135), none⟩ <|
    .one ⟨some 137, .bin .geq (.t 136) (.c (.int .i64 0)), none⟩ <|
    .one ⟨some 138, .mov (.t 137), none⟩ <|
    .grp (.one ⟨some 139, .fad 4 (.t 5), some (138, true)⟩ <|
    .one ⟨some 140, .ld (.t 139), some (138, true)⟩ <|
    .one ⟨some 141, .fad 0 (.t 3), some (138, true)⟩ <|
    .one ⟨some 142, .ld (.t 141), some (138, true)⟩ <|
    .one ⟨some 143, .bin .lss (.t 140) (.t 142), some (138, true)⟩ <|
    .nil) 144 138 true 143 none <|
    .one ⟨some 4, .mov (.t 144), none⟩ <|
    .nil)) (.ret)) (.skip)))))))))))))) (.seq (.ops (.one ⟨some 145, .fad 4 (.t 5), none⟩ <|
    .one ⟨some 146, .ld (.t 145), none⟩ <|
    .one ⟨some 147, .bin .eql (.t 146) (.c (.int .i64 0)), none⟩ <|
    .one ⟨some 4, .mov (.t 147), none⟩ <|
    .nil)) (.ret)))))))))))))
def code50 : AFunc := ⟨148, [.tmp 4], d50.strip⟩

/-- fulling/fullingref29.Info -/
def d52 : DCode :=
  .seq (.ops (.one ⟨some 2, .alloc [.str ⟨#[]⟩, .int .i64 0, .bool false, .bool false, .bool false, .bool false, .int .i64 0], none⟩ <|
    .one ⟨some 3, .mov (.c (.bool false)), none⟩ <|
    .nil)) (.seq (.ops (.one ⟨some 8, .mov (.t 0), none⟩ <|
    .one ⟨some 9, .call (.c (.fn 63 [])) [.t 8], none⟩ <|
    .one ⟨some 4, .mov (.t 9), none⟩ <|
    .nil)) (.seq (.seq (.ops (.one ⟨some 10, .mov (.t 4), none⟩ <|
    .one ⟨some 11, .bin .eql (.t 10) (.c (.int .i64 0)), none⟩ <|
    .nil)) (.cond (.t 11) (.seq (.ops (.one ⟨some 12, .build [.str ⟨#[]⟩, .int .i64 0, .bool false, .bool false, .bool false, .bool false, .int .i64 0] [], none⟩ <|
    .one ⟨none, .st 7 (.t 2) (.t 12), none⟩ <|
    .one ⟨some 3, .mov (.c (.bool false)), none⟩ <|
    .nil)) (.ret)) (.skip))) (.mark [0, 2, 4] (.seq (.ops (.one ⟨some 13, .call (.c (.fn 87 [])) [], none⟩ <|
    .one ⟨some 14, .mov (.t 0), none⟩ <|
    .one ⟨some 15, .iad 1 (.t 13) (.t 14), none⟩ <|
    .one ⟨some 16, .ld (.t 15), none⟩ <|
    .one ⟨some 17, .mov (.t 4), none⟩ <|
    .one ⟨some 18, .build [.str ⟨#[]⟩, .int .i64 0, .bool false, .bool false, .bool false, .bool false, .int .i64 0] [(0, 1, .t 16), (1, 1, .t 17), (6, 1, .c (.int .i64 1))], none⟩ <|
    .one ⟨some 5, .alloc [.str ⟨#[]⟩, .int .i64 0, .bool false, .bool false, .bool false, .bool false, .int .i64 0], none⟩ <|
    .one ⟨none, .st 7 (.t 5) (.t 18), none⟩ <|
    .nil)) (.seq (.seq (.ops (.one ⟨some 19, .mov (.t 0), none⟩ <|
    .one ⟨some 20, .bin .eql (.t 19) (.c (.int .i64 14)), none⟩ <|
    .nil)) (.cond (.t 20) (.ops (.one ⟨some 21, .fad 6 (.t 5), none⟩ <|
    .one ⟨none, .st 1 (.t 21) (.c (.int .i64 3)), none⟩ <|
    .nil)) (.skip))) (.mark [0, 2, 5] (.seq (.ops (.one ⟨some 22, .mov (.t 0), none⟩ <|
    .one ⟨some 23, .bin .eql (.t 22) (.c (.int .i64 11)), none⟩ <|
    .one ⟨some 24, .mov (.t 23), none⟩ <|
    .grp (.one ⟨some 25, .mov (.t 0), some (24, false)⟩ <|
    .one ⟨some 26, .bin .eql (.t 25) (.c (.int .i64 12)), some (24, false)⟩ <|
    .nil) 27 24 false 26 none <|
    .one ⟨some 6, .mov (.t 27), none⟩ <|
    .nil)) (.seq (.ops (.one ⟨some 28, .mov (.t 0), none⟩ <|
    .one ⟨some 29, .bin .eql (.t 28) (.c (.int .i64 15)), none⟩ <|
    .one ⟨some 30, .mov (.t 29), none⟩ <|
    .grp (.one ⟨some 31, .mov (.t 0), some (30, false)⟩ <|
    .one ⟨some 32, .bin .eql (.t 31) (.c (.int .i64 16)), some (30, false)⟩ <|
    .nil) 33 30 false 32 none <|
    .one ⟨some 7, .mov (.t 33), none⟩ <|
    .nil)) (.seq (.ops (.one ⟨some 34, .mov (.t 6), none⟩ <|
    .one ⟨some 35, .mov (.t 34), none⟩ <|
    .grp (.one ⟨some 36, .mov (.t 7), some (35, false)⟩ <|
    .nil) 37 35 false 36 none <|
    .one ⟨some 38, .mov (.t 37), none⟩ <|
    .grp (.one ⟨some 39, .mov (.t 0), some (38, false)⟩ <|
    .one ⟨some 40, .call (.c (.fn 88 [])) [.t 39], some (38, false)⟩ <|
    .nil) 41 38 false 40 none <|
    .one ⟨some 42, .mov (.t 41), none⟩ <|
    .grp (.one ⟨some 43, .mov (.t 0), some (42, false)⟩ <|
    .one ⟨some 44, .bin .eql (.t 43) (.c (.int .i64 7)), some (42, false)⟩ <|
    .nil) 45 42 false 44 none <|
    .one ⟨some 46, .mov (.t 45), none⟩ <|
    .grp (.one ⟨some 47, .mov (.t 0), some (46, false)⟩ <|
    .one ⟨some 48, .bin .eql (.t 47) (.c (.int .i64 8)), some (46, false)⟩ <|
    .nil) 49 46 false 48 none <|
    .one ⟨some 50, .mov (.t 49), none⟩ <|
    .grp (.one ⟨some 51, .mov (.t 0), some (50, false)⟩ <|
    .one ⟨some 52, .bin .eql (.t 51) (.c (.int .i64 9)), some (50, false)⟩ <|
    .nil) 53 50 false 52 none <|
    .one ⟨some 54, .mov (.t 53), none⟩ <|
    .grp (.one ⟨some 55, .mov (.t 0), some (54, false)⟩ <|
    .one ⟨some 56, .bin .eql (.t 55) (.c (.int .i64 33)), some (54, false)⟩ <|
    .nil) 57 54 false 56 none <|
    .one ⟨some 58, .mov (.t 57), none⟩ <|
    .grp (.one ⟨some 59, .mov (.t 0), some (58, false)⟩ <|
    .one ⟨some 60, .bin .eql (.t 59) (.c (.int .i64 35)), some (58, false)⟩ <|
    .nil) 61 58 false 60 none <|
    .one ⟨some 62, .mov (.t 61), none⟩ <|
    .grp (.one ⟨some 63, .mov (.t 0), some (62, false)⟩ <|
    .one ⟨some 64, .bin .eql (.t 63) (.c (.int .i64 37)), some (62, false)⟩ <|
    .nil) 65 62 false 64 none <|
    .one ⟨some 66, .fad 2 (.t 5), none⟩ <|
    .one ⟨none, .st 1 (.t 66) (.t 65), none⟩ <|
    .nil)) (.seq (.ops (.one ⟨some 67, .mov (.t 6), none⟩ <|
    .one ⟨some 68, .mov (.t 67), none⟩ <|
    .grp (.one ⟨some 69, .mov (.t 7), some (68, false)⟩ <|
    .nil) 70 68 false 69 none <|
    .one ⟨some 71, .mov (.t 70), none⟩ <|
    .grp (.one ⟨some 72, .mov (.t 0), some (71, false)⟩ <|
    .one ⟨some 73, .call (.c (.fn 88 [])) [.t 72], some (71, false)⟩ <|
    .nil) 74 71 false 73 none <|
    .one ⟨some 75, .mov (.t 74), none⟩ <|
    .grp (.one ⟨some 76, .mov (.t 0), some (75, false)⟩ <|
    .one ⟨some 77, .bin .eql (.t 76) (.c (.int .i64 10)), some (75, false)⟩ <|
    .nil) 78 75 false 77 none <|
    .one ⟨some 79, .mov (.t 78), none⟩ <|
    .grp (.one ⟨some 80, .mov (.t 0), some (79, false)⟩ <|
    .one ⟨some 81, .bin .eql (.t 80) (.c (.int .i64 13)), some (79, false)⟩ <|
    .nil) 82 79 false 81 none <|
    .one ⟨some 83, .mov (.t 82), none⟩ <|
    .grp (.one ⟨some 84, .mov (.t 0), some (83, false)⟩ <|
    .one ⟨some 85, .bin .eql (.t 84) (.c (.int .i64 14)), some (83, false)⟩ <|
    .nil) 86 83 false 85 none <|
    .one ⟨some 87, .mov (.t 86), none⟩ <|
    .grp (.one ⟨some 88, .mov (.t 0), some (87, false)⟩ <|
    .one ⟨some 89, .bin .eql (.t 88) (.c (.int .i64 33)), some (87, false)⟩ <|
    .nil) 90 87 false 89 none <|
    .one ⟨some 91, .mov (.t 90), none⟩ <|
    .grp (.one ⟨some 92, .mov (.t 0), some (91, false)⟩ <|
    .one ⟨some 93, .bin .eql (.t 92) (.c (.int .i64 34)), some (91, false)⟩ <|
    .nil) 94 91 false 93 none <|
    .one ⟨some 95, .mov (.t 94), none⟩ <|
    .grp (.one ⟨some 96, .mov (.t 0), some (95, false)⟩ <|
    .one ⟨some 97, .bin .eql (.t 96) (.c (.int .i64 36)), some (95, false)⟩ <|
    .nil) 98 95 false 97 none <|
    .one ⟨some 99, .fad 3 (.t 5), none⟩ <|
    .one ⟨none, .st 1 (.t 99) (.t 98), none⟩ <|
    .nil)) (.seq (.ops (.one ⟨some 100, .mov (.t 6), none⟩ <|
    .one ⟨some 101, .mov (.t 100), none⟩ <|
    .grp (.one ⟨some 102, .mov (.t 0), some (101, false)⟩ <|
    .one ⟨some 103, .call (.c (.fn 88 [])) [.t 102], some (101, false)⟩ <|
    .nil) 104 101 false 103 none <|
    .one ⟨some 105, .mov (.t 104), none⟩ <|
    .grp (.one ⟨some 106, .mov (.t 0), some (105, false)⟩ <|
    .one ⟨some 107, .bin .eql (.t 106) (.c (.int .i64 10)), some (105, false)⟩ <|
    .nil) 108 105 false 107 none <|
    .one ⟨some 109, .mov (.t 108), none⟩ <|
    .grp (.one ⟨some 110, .mov (.t 0), some (109, false)⟩ <|
    .one ⟨some 111, .bin .eql (.t 110) (.c (.int .i64 34)), some (109, false)⟩ <|
    .nil) 112 109 false 111 none <|
    .one ⟨some 113, .mov (.t 112), none⟩ <|
    .grp (.one ⟨some 114, .mov (.t 0), some (113, false)⟩ <|
    .one ⟨some 115, .bin .eql (.t 114) (.c (.int .i64 35)), some (113, false)⟩ <|
    .nil) 116 113 false 115 none <|
    .one ⟨some 117, .fad 4 (.t 5), none⟩ <|
    .one ⟨none, .st 1 (.t 117) (.t 116), none⟩ <|
    .nil)) (.seq (.ops (.one ⟨some 118, .mov (.t 0), none⟩ <|
    .one ⟨some 119, .bin .eql (.t 118) (.c (.int .i64 4)), none⟩ <|
    .one ⟨some 120, .mov (.t 119), none⟩ <|
    .grp (.one ⟨some 121, .mov (.t 0), some (120, false)⟩ <|
    .one ⟨some 122, .bin .eql (.t 121) (.c (.int .i64 20)), some (120, false)⟩ <|
    .nil) 123 120 false 122 none <|
    .one ⟨some 124, .mov (.t 123), none⟩ <|
    .grp (.one ⟨some 125, .mov (.t 0), some (124, false)⟩ <|
    .one ⟨some 126, .bin .eql (.t 125) (.c (.int .i64 21)), some (124, false)⟩ <|
    .nil) 127 124 false 126 none <|
    .one ⟨some 128, .mov (.t 127), none⟩ <|
    .grp (.one ⟨some 129, .mov (.t 0), some (128, false)⟩ <|
    .one ⟨some 130, .bin .eql (.t 129) (.c (.int .i64 34)), some (128, false)⟩ <|
    .nil) 131 128 false 130 none <|
    .one ⟨some 132, .mov (.t 131), none⟩ <|
    .grp (.one ⟨some 133, .mov (.t 0), some (132, false)⟩ <|
    .one ⟨some 134, .bin .eql (.t 133) (.c (.int .i64 35)), some (132, false)⟩ <|
    .nil) 135 132 false 134 none <|
    .one ⟨some 136, .fad 5 (.t 5), none⟩ <|
    .one ⟨none, .st 1 (.t 136) (.t 135), none⟩ <|
    .nil)) (.seq (.ops (.one ⟨some 137, .lda 7 (.t 5), none⟩ <|
    .one ⟨none, .st 7 (.t 2) (.t 137), none⟩ <|
    .one ⟨some 3, .mov (.c (.bool true)), none⟩ <|
    .nil)) (.ret))))))))))))))
def code52 : AFunc := ⟨138, [.lda 7 2, .tmp 3], d52.strip⟩

/-- fulling/vcode.allowed -/
def d53 : DCode :=
  .seq (.ops (.one ⟨some 2, .mov (.c (.bool false)), none⟩ <|
    .nil)) (.seq (.seq (.ops (.one ⟨some 3, .mov (.t 0), none⟩ <|
    .nil)) (.block 0 (.seq (.seq (.ops (.one ⟨some 5, .bin .eql (.t 3) (.c (.int .i64 3)), none⟩ <|
    .one ⟨some 4, .mov (.t 5), none⟩ <|
    .nil)) (.cond (.t 4) (.skip) (.seq (.ops (.one ⟨some 6, .bin .eql (.t 3) (.c (.int .i64 6)), none⟩ <|
    .one ⟨some 4, .mov (.t 6), none⟩ <|
    .nil)) (.cond (.t 4) (.skip) (.seq (.ops (.one ⟨some 7, .bin .eql (.t 3) (.c (.int .i64 9)), none⟩ <|
    .one ⟨some 4, .mov (.t 7), none⟩ <|
    .nil)) (.cond (.t 4) (.skip) (.seq (.ops (.one ⟨some 8, .bin .eql (.t 3) (.c (.int .i64 10)), none⟩ <|
    .one ⟨some 4, .mov (.t 8), none⟩ <|
    .nil)) (.cond (.t 4) (.skip) (.seq (.ops (.one ⟨some 9, .bin .eql (.t 3) (.c (.int .i64 11)), none⟩ <|
    .one ⟨some 4, .mov (.t 9), none⟩ <|
    .nil)) (.cond (.t 4) (.skip) (.seq (.ops (.one ⟨some 10, .bin .eql (.t 3) (.c (.int .i64 12)), none⟩ <|
    .one ⟨some 4, .mov (.t 10), none⟩ <|
    .nil)) (.cond (.t 4) (.skip) (.seq (.ops (.one ⟨some 11, .bin .eql (.t 3) (.c (.int .i64 13)), none⟩ <|
    .one ⟨some 4, .mov (.t 11), none⟩ <|
    .nil)) (.cond (.t 4) (.skip) (.seq (.ops (.one ⟨some 12, .bin .eql (.t 3) (.c (.int .i64 33)), none⟩ <|
    .one ⟨some 4, .mov (.t 12), none⟩ <|
    .nil)) (.cond (.t 4) (.skip) (.seq (.ops (.one ⟨some 13, .bin .eql (.t 3) (.c (.int .i64 34)), none⟩ <|
    .one ⟨some 4, .mov (.t 13), none⟩ <|
    .nil)) (.cond (.t 4) (.skip) (.seq (.ops (.one ⟨some 14, .bin .eql (.t 3) (.c (.int .i64 35)), none⟩ <|
    .one ⟨some 4, .mov (.t 14), none⟩ <|
    .nil)) (.cond (.t 4) (.skip) (.ops (.one ⟨some 15, .bin .eql (.t 3) (.c (.int .i64 38)), none⟩ <|
    .one ⟨some 4, .mov (.t 15), none⟩ <|
    .nil)))))))))))))))))))))) (.cond (.t 4) (.seq (.ops (.one ⟨some 2, .mov (.c (.bool true)), none⟩ <|
    .nil)) (.ret)) (.skip))))) (.mark [0] (.seq (.ops (.one ⟨some 16, .mov (.t 0), none⟩ <|
    .one ⟨some 17, .bin .geq (.t 16) (.c (.int .i64 15)), none⟩ <|
    .one ⟨some 18, .mov (.t 17), none⟩ <|
    .grp (.one ⟨some 19, .mov (.t 0), some (18, true)⟩ <|
    .one ⟨some 20, .bin .leq (.t 19) (.c (.int .i64 32)), some (18, true)⟩ <|
    .nil) 21 18 true 20 none <|
    .one ⟨some 2, .mov (.t 21), none⟩ <|
    .nil)) (.ret))))
def code53 : AFunc := ⟨22, [.tmp 2], d53.strip⟩

/-- fulling/machine.Info -/
def d54 : DCode :=
  .seq (.ops (.one ⟨some 2, .alloc [.str ⟨#[]⟩, .int .i64 0, .bool false, .bool false, .bool false, .bool false, .int .i64 0], none⟩ <|
    .one ⟨some 3, .mov (.c (.bool false)), none⟩ <|
    .nil)) (.seq (.seq (.ops (.one ⟨some 4, .mov (.t 0), none⟩ <|
    .one ⟨some 5, .bin .lss (.t 4) (.c (.int .i64 1)), none⟩ <|
    .one ⟨some 6, .mov (.t 5), none⟩ <|
    .grp (.one ⟨some 7, .mov (.t 0), some (6, false)⟩ <|
    .one ⟨some 8, .bin .gtr (.t 7) (.c (.int .i64 37)), some (6, false)⟩ <|
    .nil) 9 6 false 8 none <|
    .nil)) (.cond (.t 9) (.seq (.ops (.one ⟨some 10, .build [.str ⟨#[]⟩, .int .i64 0, .bool false, .bool false, .bool false, .bool false, .int .i64 0] [], none⟩ <|
    .one ⟨none, .st 7 (.t 2) (.t 10), none⟩ <|
    .one ⟨some 3, .mov (.c (.bool false)), none⟩ <|
    .nil)) (.ret)) (.skip))) (.mark [0, 2] (.seq (.ops (.one ⟨some 11, .ld (.c (tableAV)), none⟩ <|
    .one ⟨some 12, .mov (.t 0), none⟩ <|
    .one ⟨some 13, .bin .sub (.t 12) (.c (.int .i64 1)), none⟩ <|
    .one ⟨some 14, .iad 7 (.t 11) (.t 13), none⟩ <|
    .one ⟨some 15, .lda 7 (.t 14), none⟩ <|
    .one ⟨none, .st 7 (.t 2) (.t 15), none⟩ <|
    .one ⟨some 3, .mov (.c (.bool true)), none⟩ <|
    .nil)) (.ret))))
def code54 : AFunc := ⟨16, [.lda 7 2, .tmp 3], d54.strip⟩

/-- fulling/fullingref32.allowed -/
def d55 : DCode :=
  .seq (.ops (.one ⟨some 2, .mov (.c (.bool false)), none⟩ <|
    .nil)) (.seq (.seq (.ops (.one ⟨some 3, .mov (.t 0), none⟩ <|
    .nil)) (.block 0 (.seq (.seq (.ops (.one ⟨some 5, .bin .eql (.t 3) (.c (.int .i64 3)), none⟩ <|
    .one ⟨some 4, .mov (.t 5), none⟩ <|
    .nil)) (.cond (.t 4) (.skip) (.seq (.ops (.one ⟨some 6, .bin .eql (.t 3) (.c (.int .i64 6)), none⟩ <|
    .one ⟨some 4, .mov (.t 6), none⟩ <|
    .nil)) (.cond (.t 4) (.skip) (.seq (.ops (.one ⟨some 7, .bin .eql (.t 3) (.c (.int .i64 9)), none⟩ <|
    .one ⟨some 4, .mov (.t 7), none⟩ <|
    .nil)) (.cond (.t 4) (.skip) (.seq (.ops (.one ⟨some 8, .bin .eql (.t 3) (.c (.int .i64 10)), none⟩ <|
    .one ⟨some 4, .mov (.t 8), none⟩ <|
    .nil)) (.cond (.t 4) (.skip) (.seq (.ops (.one ⟨some 9, .bin .eql (.t 3) (.c (.int .i64 11)), none⟩ <|
    .one ⟨some 4, .mov (.t 9), none⟩ <|
    .nil)) (.cond (.t 4) (.skip) (.seq (.ops (.one ⟨some 10, .bin .eql (.t 3) (.c (.int .i64 12)), none⟩ <|
    .one ⟨some 4, .mov (.t 10), none⟩ <|
    .nil)) (.cond (.t 4) (.skip) (.seq (.ops (.one ⟨some 11, .bin .eql (.t 3) (.c (.int .i64 13)), none⟩ <|
    .one ⟨some 4, .mov (.t 11), none⟩ <|
    .nil)) (.cond (.t 4) (.skip) (.seq (.ops (.one ⟨some 12, .bin .eql (.t 3) (.c (.int .i64 33)), none⟩ <|
    .one ⟨some 4, .mov (.t 12), none⟩ <|
    .nil)) (.cond (.t 4) (.skip) (.seq (.ops (.one ⟨some 13, .bin .eql (.t 3) (.c (.int .i64 34)), none⟩ <|
    .one ⟨some 4, .mov (.t 13), none⟩ <|
    .nil)) (.cond (.t 4) (.skip) (.seq (.ops (.one ⟨some 14, .bin .eql (.t 3) (.c (.int .i64 35)), none⟩ <|
    .one ⟨some 4, .mov (.t 14), none⟩ <|
    .nil)) (.cond (.t 4) (.skip) (.ops (.one ⟨some 15, .bin .eql (.t 3) (.c (.int .i64 38)), none⟩ <|
    .one ⟨some 4, .mov (.t 15), none⟩ <|
    .nil)))))))))))))))))))))) (.cond (.t 4) (.seq (.ops (.one ⟨some 2, .mov (.c (.bool true)), none⟩ <|
    .nil)) (.ret)) (.skip))))) (.mark [0] (.seq (.ops (.one ⟨some 16, .mov (.t 0), none⟩ <|
    .one ⟨some 17, .bin .geq (.t 16) (.c (.int .i64 15)), none⟩ <|
    .one ⟨some 18, .mov (.t 17), none⟩ <|
    .grp (.one ⟨some 19, .mov (.t 0), some (18, true)⟩ <|
    .one ⟨some 20, .bin .leq (.t 19) (.c (.int .i64 32)), some (18, true)⟩ <|
    .nil) 21 18 true 20 none <|
    .one ⟨some 2, .mov (.t 21), none⟩ <|
    .nil)) (.ret))))
def code55 : AFunc := ⟨22, [.tmp 2], d55.strip⟩

/-- fulling/fullingref32.info -/
def d56 : DCode :=
  .seq (.ops (.one ⟨some 2, .alloc [.str ⟨#[]⟩, .int .i64 0, .bool false, .bool false, .bool false, .bool false, .int .i64 0], none⟩ <|
    .nil)) (.seq (.seq (.ops (.one ⟨some 5, .mov (.t 0), none⟩ <|
    .one ⟨some 6, .bin .eql (.t 5) (.c (.int .i64 38)), none⟩ <|
    .nil)) (.cond (.t 6) (.seq (.ops (.one ⟨some 7, .build [.str ⟨#[]⟩, .int .i64 0, .bool false, .bool false, .bool false, .bool false, .int .i64 0] [(1, 1, .c (.int .i64 5)), (3, 1, .c (.bool true))], none⟩ <|
    .one ⟨none, .st 7 (.t 2) (.t 7), none⟩ <|
    .nil)) (.ret)) (.skip))) (.mark [0, 2] (.seq (.ops (.one ⟨some 9, .mov (.t 0), none⟩ <|
    .one ⟨some 10, .call (.c (.fn 52 [])) [.t 9], none⟩ <|
    .one ⟨some 8, .mov (.t 10), none⟩ <|
    .one ⟨some 11, .ext (.t 8) 0, none⟩ <|
    .one ⟨some 12, .ext (.t 8) 1, none⟩ <|
    .alst 3 [.str ⟨#[]⟩, .int .i64 0, .bool false, .bool false, .bool false, .bool false, .int .i64 0] (.t 11) <|
    .one ⟨some 4, .mov (.t 12), none⟩ <|
    .nil)) (.seq (.ops (.one ⟨some 13, .lda 7 (.t 3), none⟩ <|
    .one ⟨none, .st 7 (.t 2) (.t 13), none⟩ <|
    .nil)) (.ret)))))
def code56 : AFunc := ⟨14, [.lda 7 2], d56.strip⟩

/-- fulling/fullingref29.form -/
def d63 : DCode :=
  .seq (.ops (.one ⟨some 2, .mov (.c (.int .i64 0)), none⟩ <|
    .nil)) (.seq (.seq (.ops (.one ⟨some 3, .mov (.t 0), none⟩ <|
    .nil)) (.block 0 (.seq (.seq (.ops (.one ⟨some 5, .bin .eql (.t 3) (.c (.int .i64 1)), none⟩ <|
    .one ⟨some 4, .mov (.t 5), none⟩ <|
    .nil)) (.cond (.t 4) (.skip) (.seq (.ops (.one ⟨some 6, .bin .eql (.t 3) (.c (.int .i64 2)), none⟩ <|
    .one ⟨some 4, .mov (.t 6), none⟩ <|
    .nil)) (.cond (.t 4) (.skip) (.ops (.one ⟨some 7, .bin .eql (.t 3) (.c (.int .i64 3)), none⟩ <|
    .one ⟨some 4, .mov (.t 7), none⟩ <|
    .nil)))))) (.mark [0, 3, 4] (.cond (.t 4) (.seq (.ops (.one ⟨some 2, .mov (.c (.int .i64 1)), none⟩ <|
    .nil)) (.ret)) (.seq (.seq (.ops (.one ⟨some 9, .bin .eql (.t 3) (.c (.int .i64 4)), none⟩ <|
    .one ⟨some 8, .mov (.t 9), none⟩ <|
    .nil)) (.cond (.t 8) (.skip) (.ops (.one ⟨some 10, .bin .eql (.t 3) (.c (.int .i64 5)), none⟩ <|
    .one ⟨some 8, .mov (.t 10), none⟩ <|
    .nil)))) (.mark [0, 3, 8] (.cond (.t 8) (.seq (.ops (.one ⟨some 2, .mov (.c (.int .i64 8)), none⟩ <|
    .nil)) (.ret)) (.seq (.seq (.ops (.one ⟨some 12, .bin .eql (.t 3) (.c (.int .i64 6)), none⟩ <|
    .one ⟨some 11, .mov (.t 12), none⟩ <|
    .nil)) (.cond (.t 11) (.skip) (.seq (.ops (.one ⟨some 13, .bin .eql (.t 3) (.c (.int .i64 7)), none⟩ <|
    .one ⟨some 11, .mov (.t 13), none⟩ <|
    .nil)) (.cond (.t 11) (.skip) (.seq (.ops (.one ⟨some 14, .bin .eql (.t 3) (.c (.int .i64 8)), none⟩ <|
    .one ⟨some 11, .mov (.t 14), none⟩ <|
    .nil)) (.cond (.t 11) (.skip) (.seq (.ops (.one ⟨some 15, .bin .eql (.t 3) (.c (.int .i64 13)), none⟩ <|
    .one ⟨some 11, .mov (.t 15), none⟩ <|
    .nil)) (.cond (.t 11) (.skip) (.seq (.ops (.one ⟨some 16, .bin .eql (.t 3) (.c (.int .i64 33)), none⟩ <|
    .one ⟨some 11, .mov (.t 16), none⟩ <|
    .nil)) (.cond (.t 11) (.skip) (.seq (.ops (.one ⟨some 17, .bin .eql (.t 3) (.c (.int .i64 36)), none⟩ <|
    .one ⟨some 11, .mov (.t 17), none⟩ <|
    .nil)) (.cond (.t 11) (.skip) (.ops (.one ⟨some 18, .bin .eql (.t 3) (.c (.int .i64 37)), none⟩ <|
    .one ⟨some 11, .mov (.t 18), none⟩ <|
    .nil)))))))))))))) (.mark [0, 3, 11] (.cond (.t 11) (.seq (.ops (.one ⟨some 2, .mov (.c (.int .i64 5)), none⟩ <|
    .nil)) (.ret)) (.seq (.seq (.ops (.one ⟨some 20, .bin .eql (.t 3) (.c (.int .i64 9)), none⟩ <|
    .one ⟨some 19, .mov (.t 20), none⟩ <|
    .nil)) (.cond (.t 19) (.skip) (.seq (.ops (.one ⟨some 21, .bin .eql (.t 3) (.c (.int .i64 15)), none⟩ <|
    .one ⟨some 19, .mov (.t 21), none⟩ <|
    .nil)) (.cond (.t 19) (.skip) (.ops (.one ⟨some 22, .bin .eql (.t 3) (.c (.int .i64 16)), none⟩ <|
    .one ⟨some 19, .mov (.t 22), none⟩ <|
    .nil)))))) (.mark [0, 3, 19] (.cond (.t 19) (.seq (.ops (.one ⟨some 2, .mov (.c (.int .i64 2)), none⟩ <|
    .nil)) (.ret)) (.seq (.seq (.ops (.one ⟨some 24, .bin .eql (.t 3) (.c (.int .i64 11)), none⟩ <|
    .one ⟨some 23, .mov (.t 24), none⟩ <|
    .nil)) (.cond (.t 23) (.skip) (.ops (.one ⟨some 25, .bin .eql (.t 3) (.c (.int .i64 12)), none⟩ <|
    .one ⟨some 23, .mov (.t 25), none⟩ <|
    .nil)))) (.mark [0, 3, 23] (.cond (.t 23) (.seq (.ops (.one ⟨some 2, .mov (.c (.int .i64 4)), none⟩ <|
    .nil)) (.ret)) (.seq (.ops (.one ⟨some 27, .bin .eql (.t 3) (.c (.int .i64 14)), none⟩ <|
    .one ⟨some 26, .mov (.t 27), none⟩ <|
    .nil)) (.cond (.t 26) (.seq (.ops (.one ⟨some 2, .mov (.c (.int .i64 6)), none⟩ <|
    .nil)) (.ret)) (.seq (.seq (.ops (.one ⟨some 29, .bin .eql (.t 3) (.c (.int .i64 34)), none⟩ <|
    .one ⟨some 28, .mov (.t 29), none⟩ <|
    .nil)) (.cond (.t 28) (.skip) (.ops (.one ⟨some 30, .bin .eql (.t 3) (.c (.int .i64 35)), none⟩ <|
    .one ⟨some 28, .mov (.t 30), none⟩ <|
    .nil)))) (.cond (.t 28) (.seq (.ops (.one ⟨some 2, .mov (.c (.int .i64 7)), none⟩ <|
    .nil)) (.ret)) (.skip)))))))))))))))))))))) (.mark [0] (.seq (.seq (.ops (.one ⟨some 31, .mov (.t 0), none⟩ <|
    .one ⟨some 32, .bin .eql (.t 31) (.c (.int .i64 10)), none⟩ <|
    .one ⟨some 33, .mov (.t 32), none⟩ <|
    .grp (.one ⟨some 34, .mov (.t 0), some (33, false)⟩ <|
    .one ⟨some 35, .call (.c (.fn 88 [])) [.t 34], some (33, false)⟩ <|
    .nil) 36 33 false 35 none <|
    .nil)) (.cond (.t 36) (.seq (.ops (.one ⟨some 2, .mov (.c (.int .i64 3)), none⟩ <|
    .nil)) (.ret)) (.skip))) (.seq (.ops (.one ⟨some 2, .mov (.c (.int .i64 0)), none⟩ <|
    .nil)) (.ret)))))
def code63 : AFunc := ⟨37, [.tmp 2], d63.strip⟩

/-- (*fulling/vcode.run).terminate -/
def d76 : DCode :=
  .seq (.drawq (.one ⟨some 6, .mov (.t 1), none⟩ <|
    .one ⟨some 7, .nilck (.t 6), none⟩ <|
    .one ⟨some 8, .fad 0 (.t 7), none⟩ <|
    .one ⟨some 9, .fad 2 (.t 8), none⟩ <|
    .one ⟨some 10, .ld (.t 9), none⟩ <|
    .one ⟨some 11, .mov (.t 1), none⟩ <|
    .one ⟨some 12, .nilck (.t 11), none⟩ <|
    .one ⟨some 13, .fad 5 (.t 12), none⟩ <|
    .one ⟨some 14, .ld (.t 13), none⟩ <|
    .one ⟨some 15, .iad 5 (.t 10) (.t 14), none⟩ <|
    .one ⟨some 16, .lda 5 (.t 15), none⟩ <|
    .one ⟨some 4, .alloc [.nilsl, .int .i64 0, .int .i64 0, .int .i64 0, .int .i64 0], none⟩ <|
    .one ⟨none, .st 5 (.t 4) (.t 16), none⟩ <|
    .nil) [(4, 11), (8, 11), (10, 11)]) (.frz 4 (.seq (.ops (.one ⟨some 17, .fad 1 (.t 4), none⟩ <|
    .one ⟨some 18, .ld (.t 17), none⟩ <|
    .nil)) (.block 0 (.seq (.ops (.one ⟨some 24, .bin .eql (.t 18) (.c (.int .i64 1)), none⟩ <|
    .one ⟨some 23, .mov (.t 24), none⟩ <|
    .nil)) (.cond (.t 23) (.ops (.one ⟨some 25, .mov (.t 1), none⟩ <|
    .one ⟨some 26, .mov (.t 1), none⟩ <|
    .one ⟨some 27, .fad 3 (.t 4), none⟩ <|
    .one ⟨some 28, .ld (.t 27), none⟩ <|
    .one ⟨some 29, .nilck (.t 25), none⟩ <|
    .one ⟨some 30, .fad 5 (.t 29), none⟩ <|
    .one ⟨none, .st 1 (.t 30) (.t 28), none⟩ <|
    .one ⟨some 31, .nilck (.t 26), none⟩ <|
    .one ⟨some 32, .fad 6 (.t 31), none⟩ <|
    .one ⟨none, .st 1 (.t 32) (.c (.int .i64 0)), none⟩ <|
    .nil)) (.seq (.ops (.one ⟨some 34, .bin .eql (.t 18) (.c (.int .i64 2)), none⟩ <|
    .one ⟨some 33, .mov (.t 34), none⟩ <|
    .nil)) (.cond (.t 33) (.seq (.seq (.ops (.one ⟨some 35, .mov (.t 1), none⟩ <|
    .one ⟨some 36, .fad 2 (.t 4), none⟩ <|
    .one ⟨some 37, .ld (.t 36), none⟩ <|
    .one ⟨some 38, .call (.c (.fn 78 [])) [.t 35, .t 37], none⟩ <|
    .one ⟨some 39, .bin .neq (.t 38) (.c (.int .i64 0)), none⟩ <|
    .nil)) (.cond (.t 39) (.ops (.one ⟨some 40, .mov (.t 1), none⟩ <|
    .one ⟨some 41, .fad 3 (.t 4), none⟩ <|
    .one ⟨some 42, .ld (.t 41), none⟩ <|
    .one ⟨some 43, .nilck (.t 40), none⟩ <|
    .one ⟨some 44, .fad 5 (.t 43), none⟩ <|
    .one ⟨none, .st 1 (.t 44) (.t 42), none⟩ <|
    .nil)) (.ops (.one ⟨some 45, .mov (.t 1), none⟩ <|
    .one ⟨some 46, .fad 4 (.t 4), none⟩ <|
    .one ⟨some 47, .ld (.t 46), none⟩ <|
    .one ⟨some 48, .nilck (.t 45), none⟩ <|
    .one ⟨some 49, .fad 5 (.t 48), none⟩ <|
    .one ⟨none, .st 1 (.t 49) (.t 47), none⟩ <|
    .nil)))) (.ops (.one ⟨some 50, .mov (.t 1), none⟩ <|
    .one ⟨some 51, .nilck (.t 50), none⟩ <|
    .one ⟨some 52, .fad 6 (.t 51), none⟩ <|
    .one ⟨none, .st 1 (.t 52) (.c (.int .i64 0)), none⟩ <|
    .nil))) (.seq (.ops (.one ⟨some 54, .bin .eql (.t 18) (.c (.int .i64 3)), none⟩ <|
    .one ⟨some 53, .mov (.t 54), none⟩ <|
    .nil)) (.cond (.t 53) (.seq (.ops (.one ⟨some 55, .mov (.t 1), none⟩ <|
    .one ⟨some 56, .fad 2 (.t 4), none⟩ <|
    .one ⟨some 57, .ld (.t 56), none⟩ <|
    .one ⟨some 58, .call (.c (.fn 78 [])) [.t 55, .t 57], none⟩ <|
    .one ⟨some 5, .mov (.t 58), none⟩ <|
    .nil)) (.seq (.seq (.ops (.one ⟨some 59, .mov (.t 0), none⟩ <|
    .one ⟨some 60, .nilck (.t 59), none⟩ <|
    .one ⟨some 61, .fad 2 (.t 60), none⟩ <|
    .one ⟨some 62, .ld (.t 61), none⟩ <|
    .one ⟨some 63, .len (.t 62), none⟩ <|
    .one ⟨some 64, .bin .eql (.t 63) (.c (.int .i64 1)), none⟩ <|
    .nil)) (.cond (.t 64) (.seq (.ops (.one ⟨some 65, .mov (.t 0), none⟩ <|
    .one ⟨some 66, .mov (.t 5), none⟩ <|
    .one ⟨some 67, .call (.c (.fn 77 [])) [.t 65, .c (.int .i64 1), .c (.int .i64 0), .t 66], none⟩ <|
    .nil)) (.ret)) (.skip))) (.mark [0, 1, 5] (.seq (.drawq (.one ⟨some 68, .mov (.t 0), none⟩ <|
    .one ⟨some 69, .mov (.t 0), none⟩ <|
    .one ⟨some 70, .nilck (.t 69), none⟩ <|
    .one ⟨some 71, .fad 2 (.t 70), none⟩ <|
    .one ⟨some 72, .ld (.t 71), none⟩ <|
    .one ⟨some 73, .mov (.t 0), none⟩ <|
    .one ⟨some 74, .nilck (.t 73), none⟩ <|
    .one ⟨some 75, .fad 2 (.t 74), none⟩ <|
    .one ⟨some 76, .ld (.t 75), none⟩ <|
    .one ⟨some 77, .len (.t 76), none⟩ <|
    .one ⟨some 78, .bin .sub (.t 77) (.c (.int .i64 1)), none⟩ <|
    .one ⟨some 79, .slice 1 (.t 72) none (some (.t 78)), none⟩ <|
    .one ⟨some 80, .nilck (.t 68), none⟩ <|
    .one ⟨some 81, .fad 2 (.t 80), none⟩ <|
    .one ⟨none, .st 1 (.t 81) (.t 79), none⟩ <|
    .nil) []) (.drawb 17 [⟨some 82, .mov (.t 0), none⟩,
    ⟨some 83, .nilck (.t 82), none⟩,
    ⟨some 84, .fad 2 (.t 83), none⟩,
    ⟨some 85, .ld (.t 84), none⟩,
    ⟨some 86, .mov (.t 0), none⟩,
    ⟨some 87, .nilck (.t 86), none⟩,
    ⟨some 88, .fad 2 (.t 87), none⟩,
    ⟨some 89, .ld (.t 88), none⟩,
    ⟨some 90, .len (.t 89), none⟩,
    ⟨some 91, .bin .sub (.t 90) (.c (.int .i64 1)), none⟩,
    ⟨some 92, .iad 1 (.t 85) (.t 91), none⟩,
    ⟨some 93, .ld (.t 92), none⟩,
    ⟨some 94, .mov (.t 1), none⟩,
    ⟨some 95, .nilck (.t 94), none⟩,
    ⟨some 96, .fad 7 (.t 95), none⟩,
    ⟨some 97, .ld (.t 96), none⟩,
    ⟨some 98, .mov (.t 5), none⟩,
    ⟨some 99, .call (.c (.fn 105 [])) [.t 93, .t 97, .t 98], none⟩] []))))) (.ops (.one ⟨some 19, .mov (.t 0), none⟩ <|
    .one ⟨some 20, .fad 3 (.t 4), none⟩ <|
    .one ⟨some 21, .ld (.t 20), none⟩ <|
    .one ⟨some 22, .call (.c (.fn 77 [])) [.t 19, .c (.int .i64 2), .t 21, .c (.int .i64 0)], none⟩ <|
    .nil)))))))))))
def code76 : AFunc := ⟨100, [], d76.strip⟩

/-- (*fulling/vcode.run).stop -/
def d77 : DCode :=
  .seq (.ops (.one ⟨some 8, .mov (.t 0), none⟩ <|
    .one ⟨some 9, .nilck (.t 8), none⟩ <|
    .one ⟨some 10, .fad 4 (.t 9), none⟩ <|
    .one ⟨none, .st 1 (.t 10) (.c (.bool true)), none⟩ <|
    .nil)) (.ops (.one ⟨some 11, .mov (.t 0), none⟩ <|
    .one ⟨some 12, .mov (.t 0), none⟩ <|
    .one ⟨some 13, .mov (.t 0), none⟩ <|
    .one ⟨some 14, .mov (.t 1), none⟩ <|
    .one ⟨some 15, .mov (.t 2), none⟩ <|
    .one ⟨some 16, .mov (.t 3), none⟩ <|
    .one ⟨some 17, .nilck (.t 11), none⟩ <|
    .one ⟨some 18, .fad 5 (.t 17), none⟩ <|
    .one ⟨some 19, .fad 0 (.t 18), none⟩ <|
    .one ⟨none, .st 1 (.t 19) (.t 14), none⟩ <|
    .one ⟨some 20, .nilck (.t 12), none⟩ <|
    .one ⟨some 21, .fad 5 (.t 20), none⟩ <|
    .one ⟨some 22, .fad 1 (.t 21), none⟩ <|
    .one ⟨none, .st 1 (.t 22) (.t 15), none⟩ <|
    .one ⟨some 23, .nilck (.t 13), none⟩ <|
    .one ⟨some 24, .fad 5 (.t 23), none⟩ <|
    .one ⟨some 25, .fad 3 (.t 24), none⟩ <|
    .one ⟨none, .st 1 (.t 25) (.t 16), none⟩ <|
    .nil))
def code77 : AFunc := ⟨26, [], d77.strip⟩

/-- (*fulling/vcode.call).get -/
def d78 : DCode :=
  .seq (.ops (.one ⟨some 4, .mov (.c (.int .i64 0)), none⟩ <|
    .nil)) (.seq (.seq (.ops (.one ⟨some 5, .mov (.t 1), none⟩ <|
    .one ⟨some 6, .mov (.t 0), none⟩ <|
    .one ⟨some 7, .nilck (.t 6), none⟩ <|
    .one ⟨some 8, .fad 3 (.t 7), none⟩ <|
    .one ⟨some 9, .ld (.t 8), none⟩ <|
    .one ⟨some 10, .len (.t 9), none⟩ <|
    .one ⟨some 11, .bin .geq (.t 5) (.t 10), none⟩ <|
    .nil)) (.cond (.t 11) (.seq (.ops (.one ⟨some 4, .mov (.c (.int .i64 0)), none⟩ <|
    .nil)) (.ret)) (.skip))) (.mark [0, 1] (.seq (.ops (.one ⟨some 12, .mov (.t 0), none⟩ <|
    .one ⟨some 13, .nilck (.t 12), none⟩ <|
    .one ⟨some 14, .fad 3 (.t 13), none⟩ <|
    .one ⟨some 15, .ld (.t 14), none⟩ <|
    .one ⟨some 16, .mov (.t 1), none⟩ <|
    .one ⟨some 17, .iad 1 (.t 15) (.t 16), none⟩ <|
    .one ⟨some 18, .ld (.t 17), none⟩ <|
    .one ⟨some 4, .mov (.t 18), none⟩ <|
    .nil)) (.ret))))
def code78 : AFunc := ⟨19, [.tmp 4], d78.strip⟩

/-- (*fulling/vcode.run).access -/
def d79 : DCode :=
  .seq (.ops (.box 5 (.t 2) <|
    .nil)) (.seq (.draw [⟨some 7, .mov (.t 0), none⟩,
    ⟨some 8, .fad 4 (.t 5), none⟩,
    ⟨some 9, .ld (.t 8), none⟩,
    ⟨some 10, .mov (.t 1), none⟩,
    ⟨some 11, .fad 2 (.t 5), none⟩,
    ⟨some 12, .ld (.t 11), none⟩,
    ⟨some 13, .call (.c (.fn 78 [])) [.t 10, .t 12], none⟩,
    ⟨some 14, .call (.c (.fn 106 [])) [.t 7, .t 9, .t 13], none⟩,
    ⟨some 6, .mov (.t 14), none⟩] [(0, 6), (1, 6), (2, 6)]) (.block 0 (.seq (.ops (.one ⟨some 22, .mov (.t 6), none⟩ <|
    .one ⟨some 23, .eqp false (.t 22) (.c (.nilp)), none⟩ <|
    .one ⟨some 21, .mov (.t 23), none⟩ <|
    .nil)) (.cond (.t 21) (.ops (.one ⟨some 24, .mov (.t 0), none⟩ <|
    .one ⟨some 25, .call (.c (.fn 77 [])) [.t 24, .c (.int .i64 2), .c (.int .i64 2), .c (.int .i64 0)], none⟩ <|
    .nil)) (.seq (.ops (.one ⟨some 27, .fad 0 (.t 5), none⟩ <|
    .one ⟨some 28, .ld (.t 27), none⟩ <|
    .one ⟨some 29, .bin .eql (.t 28) (.c (.int .i64 34)), none⟩ <|
    .one ⟨some 26, .mov (.t 29), none⟩ <|
    .nil)) (.cond (.t 26) (.drawb 6 [⟨some 30, .mov (.t 1), none⟩,
    ⟨some 31, .fad 1 (.t 5), none⟩,
    ⟨some 32, .ld (.t 31), none⟩,
    ⟨some 33, .mov (.t 6), none⟩,
    ⟨some 34, .nilck (.t 33), none⟩,
    ⟨some 35, .ld (.t 34), none⟩,
    ⟨some 36, .call (.c (.fn 105 [])) [.t 30, .t 32, .t 35], none⟩] []) (.ops (.one ⟨some 15, .mov (.t 6), none⟩ <|
    .one ⟨some 16, .mov (.t 1), none⟩ <|
    .one ⟨some 17, .fad 1 (.t 5), none⟩ <|
    .one ⟨some 18, .ld (.t 17), none⟩ <|
    .one ⟨some 19, .call (.c (.fn 78 [])) [.t 16, .t 18], none⟩ <|
    .one ⟨some 20, .nilck (.t 15), none⟩ <|
    .one ⟨none, .st 1 (.t 20) (.t 19), none⟩ <|
    .nil))))))))
def code79 : AFunc := ⟨37, [], d79.strip⟩

end Go.Abs
/- Abstract code, printed by a program of this session's off the loaded functions. -/
namespace Go.Abs

/-- (*fulling/vcode.run).compute -/
def d80 : DCode :=
  .seq (.ops (.box 5 (.t 2) <|
    .nil)) (.seq (.ops (.one ⟨some 7, .fad 0 (.t 5), none⟩ <|
    .one ⟨some 8, .ld (.t 7), none⟩ <|
    .nil)) (.block 0 (.seq (.ops (.one ⟨some 42, .bin .eql (.t 8) (.c (.int .i64 10)), none⟩ <|
    .one ⟨some 41, .mov (.t 42), none⟩ <|
    .nil)) (.cond (.t 41) (.drawb 7 [⟨some 43, .mov (.t 1), none⟩,
    ⟨some 44, .fad 1 (.t 5), none⟩,
    ⟨some 45, .ld (.t 44), none⟩,
    ⟨some 46, .mov (.t 1), none⟩,
    ⟨some 47, .fad 2 (.t 5), none⟩,
    ⟨some 48, .ld (.t 47), none⟩,
    ⟨some 49, .call (.c (.fn 78 [])) [.t 46, .t 48], none⟩,
    ⟨some 50, .call (.c (.fn 105 [])) [.t 43, .t 45, .t 49], none⟩] [(0, 6), (1, 6), (2, 6)]) (.seq (.ops (.one ⟨some 52, .bin .eql (.t 8) (.c (.int .i64 11)), none⟩ <|
    .one ⟨some 51, .mov (.t 52), none⟩ <|
    .nil)) (.cond (.t 51) (.seq (.ops (.one ⟨some 53, .mov (.t 1), none⟩ <|
    .one ⟨some 54, .fad 3 (.t 5), none⟩ <|
    .one ⟨some 55, .ld (.t 54), none⟩ <|
    .one ⟨some 56, .call (.c (.fn 78 [])) [.t 53, .t 55], none⟩ <|
    .one ⟨some 57, .bin .eql (.t 56) (.c (.int .i64 0)), none⟩ <|
    .nil)) (.cond (.t 57) (.drawb 7 [⟨some 58, .mov (.t 1), none⟩,
    ⟨some 59, .fad 1 (.t 5), none⟩,
    ⟨some 60, .ld (.t 59), none⟩,
    ⟨some 61, .mov (.t 1), none⟩,
    ⟨some 62, .fad 2 (.t 5), none⟩,
    ⟨some 63, .ld (.t 62), none⟩,
    ⟨some 64, .call (.c (.fn 78 [])) [.t 61, .t 63], none⟩,
    ⟨some 65, .call (.c (.fn 105 [])) [.t 58, .t 60, .t 64], none⟩] [(0, 6), (1, 6), (2, 6)]) (.skip))) (.seq (.ops (.one ⟨some 67, .bin .eql (.t 8) (.c (.int .i64 12)), none⟩ <|
    .one ⟨some 66, .mov (.t 67), none⟩ <|
    .nil)) (.cond (.t 66) (.seq (.ops (.one ⟨some 68, .mov (.t 1), none⟩ <|
    .one ⟨some 69, .fad 3 (.t 5), none⟩ <|
    .one ⟨some 70, .ld (.t 69), none⟩ <|
    .one ⟨some 71, .call (.c (.fn 78 [])) [.t 68, .t 70], none⟩ <|
    .one ⟨some 72, .bin .neq (.t 71) (.c (.int .i64 0)), none⟩ <|
    .nil)) (.cond (.t 72) (.drawb 7 [⟨some 73, .mov (.t 1), none⟩,
    ⟨some 74, .fad 1 (.t 5), none⟩,
    ⟨some 75, .ld (.t 74), none⟩,
    ⟨some 76, .mov (.t 1), none⟩,
    ⟨some 77, .fad 2 (.t 5), none⟩,
    ⟨some 78, .ld (.t 77), none⟩,
    ⟨some 79, .call (.c (.fn 78 [])) [.t 76, .t 78], none⟩,
    ⟨some 80, .call (.c (.fn 105 [])) [.t 73, .t 75, .t 79], none⟩] [(0, 6), (1, 6), (2, 6)]) (.skip))) (.seq (.ops (.one ⟨some 82, .bin .eql (.t 8) (.c (.int .i64 13)), none⟩ <|
    .one ⟨some 81, .mov (.t 82), none⟩ <|
    .nil)) (.cond (.t 81) (.ops (.one ⟨some 83, .mov (.t 1), none⟩ <|
    .one ⟨some 84, .fad 1 (.t 5), none⟩ <|
    .one ⟨some 85, .ld (.t 84), none⟩ <|
    .one ⟨some 86, .fad 4 (.t 5), none⟩ <|
    .one ⟨some 87, .ld (.t 86), none⟩ <|
    .one ⟨some 88, .call (.c (.fn 105 [])) [.t 83, .t 85, .t 87], none⟩ <|
    .nil)) (.seq (.ops (.one ⟨some 90, .bin .eql (.t 8) (.c (.int .i64 38)), none⟩ <|
    .one ⟨some 89, .mov (.t 90), none⟩ <|
    .nil)) (.cond (.t 89) (.drawb 11 [⟨some 91, .mov (.t 1), none⟩,
    ⟨some 92, .fad 1 (.t 5), none⟩,
    ⟨some 93, .ld (.t 92), none⟩,
    ⟨some 94, .mov (.t 1), none⟩,
    ⟨some 95, .nilck (.t 94), none⟩,
    ⟨some 96, .fad 4 (.t 95), none⟩,
    ⟨some 97, .ld (.t 96), none⟩,
    ⟨some 98, .fad 4 (.t 5), none⟩,
    ⟨some 99, .ld (.t 98), none⟩,
    ⟨some 100, .iad 1 (.t 97) (.t 99), none⟩,
    ⟨some 101, .ld (.t 100), none⟩,
    ⟨some 102, .call (.c (.fn 105 [])) [.t 91, .t 93, .t 101], none⟩] []) (.seq (.ops (.one ⟨some 104, .bin .eql (.t 8) (.c (.int .i64 15)), none⟩ <|
    .one ⟨some 103, .mov (.t 104), none⟩ <|
    .nil)) (.cond (.t 103) (.drawb 8 [⟨some 105, .mov (.t 1), none⟩,
    ⟨some 106, .fad 1 (.t 5), none⟩,
    ⟨some 107, .ld (.t 106), none⟩,
    ⟨some 108, .mov (.t 1), none⟩,
    ⟨some 109, .fad 1 (.t 5), none⟩,
    ⟨some 110, .ld (.t 109), none⟩,
    ⟨some 111, .call (.c (.fn 78 [])) [.t 108, .t 110], none⟩,
    ⟨some 112, .call (.c (.fn 107 [])) [.c (.int .i64 20), .t 111], none⟩,
    ⟨some 113, .call (.c (.fn 105 [])) [.t 105, .t 107, .t 112], none⟩] [(0, 6), (1, 6), (2, 6), (0, 7), (1, 7), (2, 7)]) (.seq (.ops (.one ⟨some 115, .bin .eql (.t 8) (.c (.int .i64 16)), none⟩ <|
    .one ⟨some 114, .mov (.t 115), none⟩ <|
    .nil)) (.cond (.t 114) (.drawb 8 [⟨some 116, .mov (.t 1), none⟩,
    ⟨some 117, .fad 1 (.t 5), none⟩,
    ⟨some 118, .ld (.t 117), none⟩,
    ⟨some 119, .mov (.t 1), none⟩,
    ⟨some 120, .fad 1 (.t 5), none⟩,
    ⟨some 121, .ld (.t 120), none⟩,
    ⟨some 122, .call (.c (.fn 78 [])) [.t 119, .t 121], none⟩,
    ⟨some 123, .call (.c (.fn 107 [])) [.c (.int .i64 21), .t 122], none⟩,
    ⟨some 124, .call (.c (.fn 105 [])) [.t 116, .t 118, .t 123], none⟩] [(0, 6), (1, 6), (2, 6), (0, 7), (1, 7), (2, 7)]) (.seq (.ops (.one ⟨some 126, .bin .eql (.t 8) (.c (.int .i64 33)), none⟩ <|
    .one ⟨some 125, .mov (.t 126), none⟩ <|
    .nil)) (.cond (.t 125) (.drawb 10 [⟨some 127, .mov (.t 1), none⟩,
    ⟨some 128, .fad 1 (.t 5), none⟩,
    ⟨some 129, .ld (.t 128), none⟩,
    ⟨some 130, .mov (.t 1), none⟩,
    ⟨some 131, .fad 1 (.t 5), none⟩,
    ⟨some 132, .ld (.t 131), none⟩,
    ⟨some 133, .call (.c (.fn 78 [])) [.t 130, .t 132], none⟩,
    ⟨some 134, .fad 4 (.t 5), none⟩,
    ⟨some 135, .ld (.t 134), none⟩,
    ⟨some 136, .bin .add (.t 133) (.t 135), none⟩,
    ⟨some 137, .call (.c (.fn 105 [])) [.t 127, .t 129, .t 136], none⟩] [(0, 6), (1, 6), (2, 6), (6, 7), (6, 8)]) (.seq (.ops (.one ⟨some 9, .mov (.t 1), none⟩ <|
    .one ⟨some 10, .fad 2 (.t 5), none⟩ <|
    .one ⟨some 11, .ld (.t 10), none⟩ <|
    .one ⟨some 12, .call (.c (.fn 78 [])) [.t 9, .t 11], none⟩ <|
    .one ⟨some 6, .mov (.t 12), none⟩ <|
    .nil)) (.seq (.seq (.ops (.one ⟨some 13, .fad 0 (.t 5), none⟩ <|
    .one ⟨some 14, .ld (.t 13), none⟩ <|
    .one ⟨some 15, .bin .eql (.t 14) (.c (.int .i64 20)), none⟩ <|
    .one ⟨some 16, .mov (.t 15), none⟩ <|
    .grp (.one ⟨some 17, .fad 0 (.t 5), some (16, false)⟩ <|
    .one ⟨some 18, .ld (.t 17), some (16, false)⟩ <|
    .one ⟨some 19, .bin .eql (.t 18) (.c (.int .i64 21)), some (16, false)⟩ <|
    .nil) 20 16 false 19 none <|
    .one ⟨some 21, .mov (.t 20), none⟩ <|
    .grp (.one ⟨some 22, .mov (.t 6), some (21, true)⟩ <|
    .one ⟨some 23, .bin .eql (.t 22) (.c (.int .i64 0)), some (21, true)⟩ <|
    .nil) 24 21 true 23 none <|
    .nil)) (.cond (.t 24) (.seq (.ops (.one ⟨some 25, .mov (.t 0), none⟩ <|
    .one ⟨some 26, .call (.c (.fn 77 [])) [.t 25, .c (.int .i64 2), .c (.int .i64 1), .c (.int .i64 0)], none⟩ <|
    .nil)) (.ret)) (.skip))) (.mark [1, 5, 6] (.drawb 13 [⟨some 27, .mov (.t 1), none⟩,
    ⟨some 28, .fad 1 (.t 5), none⟩,
    ⟨some 29, .ld (.t 28), none⟩,
    ⟨some 30, .fad 0 (.t 5), none⟩,
    ⟨some 31, .ld (.t 30), none⟩,
    ⟨some 32, .bin .sub (.t 31) (.c (.int .i64 17)), none⟩,
    ⟨some 33, .bin .add (.t 32) (.c (.int .i64 4)), none⟩,
    ⟨some 34, .mov (.t 1), none⟩,
    ⟨some 35, .fad 1 (.t 5), none⟩,
    ⟨some 36, .ld (.t 35), none⟩,
    ⟨some 37, .call (.c (.fn 78 [])) [.t 34, .t 36], none⟩,
    ⟨some 38, .mov (.t 6), none⟩,
    ⟨some 39, .call (.c (.fn 108 [])) [.t 33, .t 37, .t 38], none⟩,
    ⟨some 40, .call (.c (.fn 105 [])) [.t 27, .t 29, .t 39], none⟩] [(0, 10), (1, 10), (2, 10), (3, 10), (4, 10), (5, 10), (6, 10), (10, 11), (0, 12), (1, 12), (2, 12)]))))))))))))))))))))))
def code80 : AFunc := ⟨138, [], d80.strip⟩

/-- fulling/vcode.validInstr$1 -/
def d81 : DCode :=
  .seq (.ops (.one ⟨some 3, .mov (.c (.bool false)), none⟩ <|
    .nil)) (.seq (.ops (.one ⟨some 4, .mov (.t 0), none⟩ <|
    .one ⟨some 5, .bin .geq (.t 4) (.c (.int .i64 0)), none⟩ <|
    .one ⟨some 6, .mov (.t 5), none⟩ <|
    .grp (.one ⟨some 7, .mov (.t 0), some (6, true)⟩ <|
    .one ⟨some 8, .fad 1 (.t 1), some (6, true)⟩ <|
    .one ⟨some 9, .ld (.t 8), some (6, true)⟩ <|
    .one ⟨some 10, .bin .lss (.t 7) (.t 9), some (6, true)⟩ <|
    .nil) 11 6 true 10 none <|
    .one ⟨some 3, .mov (.t 11), none⟩ <|
    .nil)) (.ret))
def code81 : AFunc := ⟨12, [.tmp 3], d81.strip⟩

/-- fulling/vcode.form -/
def d82 : DCode :=
  .seq (.ops (.one ⟨some 2, .mov (.c (.int .i64 0)), none⟩ <|
    .nil)) (.seq (.seq (.ops (.one ⟨some 5, .mov (.t 0), none⟩ <|
    .one ⟨some 6, .bin .eql (.t 5) (.c (.int .i64 38)), none⟩ <|
    .nil)) (.cond (.t 6) (.seq (.ops (.one ⟨some 2, .mov (.c (.int .i64 5)), none⟩ <|
    .nil)) (.ret)) (.skip))) (.mark [0] (.seq (.ops (.one ⟨some 8, .mov (.t 0), none⟩ <|
    .one ⟨some 9, .call (.c (.fn 54 [])) [.t 8], none⟩ <|
    .one ⟨some 7, .mov (.t 9), none⟩ <|
    .one ⟨some 10, .ext (.t 7) 0, none⟩ <|
    .one ⟨some 11, .ext (.t 7) 1, none⟩ <|
    .alst 3 [.str ⟨#[]⟩, .int .i64 0, .bool false, .bool false, .bool false, .bool false, .int .i64 0] (.t 10) <|
    .one ⟨some 4, .mov (.t 11), none⟩ <|
    .nil)) (.seq (.ops (.one ⟨some 12, .fad 1 (.t 3), none⟩ <|
    .one ⟨some 13, .ld (.t 12), none⟩ <|
    .one ⟨some 2, .mov (.t 13), none⟩ <|
    .nil)) (.ret)))))
def code82 : AFunc := ⟨14, [.tmp 2], d82.strip⟩

/-- fulling/fullingref32.validOperand -/
def d83 : DCode :=
  .seq (.ops (.one ⟨some 6, .mov (.c (.bool false)), none⟩ <|
    .nil)) (.seq (.seq (.ops (.one ⟨some 7, .mov (.t 0), none⟩ <|
    .nil)) (.cond (.t 7) (.seq (.ops (.one ⟨some 8, .mov (.t 1), none⟩ <|
    .one ⟨some 9, .bin .geq (.t 8) (.c (.int .i64 0)), none⟩ <|
    .one ⟨some 10, .mov (.t 9), none⟩ <|
    .grp (.one ⟨some 11, .mov (.t 1), some (10, true)⟩ <|
    .one ⟨some 12, .mov (.t 2), some (10, true)⟩ <|
    .one ⟨some 13, .bin .lss (.t 11) (.t 12), some (10, true)⟩ <|
    .nil) 14 10 true 13 none <|
    .one ⟨some 6, .mov (.t 14), none⟩ <|
    .nil)) (.ret)) (.skip))) (.seq (.ops (.one ⟨some 15, .mov (.t 1), none⟩ <|
    .one ⟨some 16, .bin .eql (.t 15) (.c (.int .i64 0)), none⟩ <|
    .one ⟨some 6, .mov (.t 16), none⟩ <|
    .nil)) (.ret)))
def code83 : AFunc := ⟨17, [.tmp 6], d83.strip⟩

/-- fulling/fullingref29.names -/
def d87 : DCode :=
  .seq (.ops (.one ⟨some 0, .mov (.c (.nilsl)), none⟩ <|
    .nil)) (.seq (.ops (.bsl 1 1 [.str ⟨#[]⟩] 38 [(0, .c (.str ⟨#[]⟩)), (1, .c (.str ⟨#[110, 111, 112]⟩)), (2, .c (.str ⟨#[114, 101, 116]⟩)), (3, .c (.str ⟨#[116, 105, 99, 107]⟩)), (4, .c (.str ⟨#[116, 114, 97, 112]⟩)), (5, .c (.str ⟨#[106, 109, 112]⟩)), (6, .c (.str ⟨#[99, 97, 108, 108]⟩)), (7, .c (.str ⟨#[106, 122]⟩)), (8, .c (.str ⟨#[106, 110, 122]⟩)), (9, .c (.str ⟨#[111, 117, 116]⟩)), (10, .c (.str ⟨#[109, 111, 118]⟩)), (11, .c (.str ⟨#[99, 109, 111, 118, 122]⟩)), (12, .c (.str ⟨#[99, 109, 111, 118, 110, 122]⟩)), (13, .c (.str ⟨#[108, 100, 105]⟩)), (14, .c (.str ⟨#[108, 100, 99]⟩)), (15, .c (.str ⟨#[110, 101, 103]⟩)), (16, .c (.str ⟨#[110, 111, 116]⟩)), (17, .c (.str ⟨#[97, 100, 100]⟩)), (18, .c (.str ⟨#[115, 117, 98]⟩)), (19, .c (.str ⟨#[109, 117, 108]⟩)), (20, .c (.str ⟨#[100, 105, 118]⟩)), (21, .c (.str ⟨#[114, 101, 109]⟩)), (22, .c (.str ⟨#[97, 110, 100]⟩)), (23, .c (.str ⟨#[111, 114]⟩)), (24, .c (.str ⟨#[120, 111, 114]⟩)), (25, .c (.str ⟨#[115, 104, 108]⟩)), (26, .c (.str ⟨#[115, 104, 114]⟩)), (27, .c (.str ⟨#[115, 97, 114]⟩)), (28, .c (.str ⟨#[101, 113]⟩)), (29, .c (.str ⟨#[110, 101]⟩)), (30, .c (.str ⟨#[108, 116]⟩)), (31, .c (.str ⟨#[108, 101]⟩)), (32, .c (.str ⟨#[108, 116, 117]⟩)), (33, .c (.str ⟨#[97, 100, 100, 105]⟩)), (34, .c (.str ⟨#[108, 100]⟩)), (35, .c (.str ⟨#[115, 116]⟩)), (36, .c (.str ⟨#[108, 100, 115]⟩)), (37, .c (.str ⟨#[115, 116, 115]⟩))] <|
    .one ⟨some 0, .mov (.t 1), none⟩ <|
    .nil)) (.ret))
def code87 : AFunc := ⟨2, [.tmp 0], d87.strip⟩

/-- fulling/fullingref29.IsBinary -/
def d88 : DCode :=
  .seq (.ops (.one ⟨some 2, .mov (.c (.bool false)), none⟩ <|
    .nil)) (.seq (.ops (.one ⟨some 3, .mov (.t 0), none⟩ <|
    .one ⟨some 4, .bin .geq (.t 3) (.c (.int .i64 17)), none⟩ <|
    .one ⟨some 5, .mov (.t 4), none⟩ <|
    .grp (.one ⟨some 6, .mov (.t 0), some (5, true)⟩ <|
    .one ⟨some 7, .bin .leq (.t 6) (.c (.int .i64 32)), some (5, true)⟩ <|
    .nil) 8 5 true 7 none <|
    .one ⟨some 2, .mov (.t 8), none⟩ <|
    .nil)) (.ret))
def code88 : AFunc := ⟨9, [.tmp 2], d88.strip⟩

/-- (*fulling/vcode.call).set -/
def d105 : DCode :=
  .seq (.block 0 (.loop [0, 1, 2] (.seq (.seq (.ops (.one ⟨some 6, .mov (.t 0), none⟩ <|
    .one ⟨some 7, .nilck (.t 6), none⟩ <|
    .one ⟨some 8, .fad 3 (.t 7), none⟩ <|
    .one ⟨some 9, .ld (.t 8), none⟩ <|
    .one ⟨some 10, .len (.t 9), none⟩ <|
    .one ⟨some 11, .mov (.t 1), none⟩ <|
    .one ⟨some 12, .bin .leq (.t 10) (.t 11), none⟩ <|
    .nil)) (.cond (.t 12) (.skip) (.exit 0))) (.mark [0, 1, 2] (.block 1 (.ops (.one ⟨some 13, .mov (.t 0), none⟩ <|
    .one ⟨some 14, .mov (.t 0), none⟩ <|
    .one ⟨some 15, .nilck (.t 14), none⟩ <|
    .one ⟨some 16, .fad 3 (.t 15), none⟩ <|
    .one ⟨some 17, .ld (.t 16), none⟩ <|
    .bsl 18 1 [.int .i64 0] 1 [(0, .c (.int .i64 0))] <|
    .one ⟨some 19, .app 1 (.t 17) (.t 18), none⟩ <|
    .one ⟨some 20, .nilck (.t 13), none⟩ <|
    .one ⟨some 21, .fad 3 (.t 20), none⟩ <|
    .one ⟨none, .st 1 (.t 21) (.t 19), none⟩ <|
    .nil))))))) (.mark [0, 1, 2] (.ops (.one ⟨some 22, .mov (.t 0), none⟩ <|
    .one ⟨some 23, .nilck (.t 22), none⟩ <|
    .one ⟨some 24, .fad 3 (.t 23), none⟩ <|
    .one ⟨some 25, .ld (.t 24), none⟩ <|
    .one ⟨some 26, .mov (.t 1), none⟩ <|
    .one ⟨some 27, .mov (.t 2), none⟩ <|
    .one ⟨some 28, .iad 1 (.t 25) (.t 26), none⟩ <|
    .one ⟨none, .st 1 (.t 28) (.t 27), none⟩ <|
    .nil)))
def code105 : AFunc := ⟨29, [], d105.strip⟩

/-- (*fulling/vcode.run).cell -/
def d106 : DCode :=
  .seq (.ops (.one ⟨some 6, .mov (.c (.nilp)), none⟩ <|
    .nil)) (.seq (.ops (.one ⟨some 8, .mov (.t 0), none⟩ <|
    .one ⟨some 9, .nilck (.t 8), none⟩ <|
    .one ⟨some 10, .fad 1 (.t 9), none⟩ <|
    .one ⟨some 11, .ld (.t 10), none⟩ <|
    .one ⟨some 12, .mov (.t 1), none⟩ <|
    .one ⟨some 13, .iad 1 (.t 11) (.t 12), none⟩ <|
    .one ⟨some 14, .ld (.t 13), none⟩ <|
    .one ⟨some 7, .mov (.t 14), none⟩ <|
    .nil)) (.seq (.seq (.ops (.one ⟨some 15, .mov (.t 2), none⟩ <|
    .one ⟨some 16, .bin .lss (.t 15) (.c (.int .i64 0)), none⟩ <|
    .one ⟨some 17, .mov (.t 16), none⟩ <|
    .grp (.one ⟨some 18, .mov (.t 2), some (17, false)⟩ <|
    .one ⟨some 19, .mov (.t 7), some (17, false)⟩ <|
    .one ⟨some 20, .len (.t 19), some (17, false)⟩ <|
    .one ⟨some 21, .bin .geq (.t 18) (.t 20), some (17, false)⟩ <|
    .nil) 22 17 false 21 none <|
    .nil)) (.cond (.t 22) (.seq (.ops (.one ⟨some 6, .mov (.c (.nilp)), none⟩ <|
    .nil)) (.ret)) (.skip))) (.seq (.ops (.one ⟨some 23, .mov (.t 7), none⟩ <|
    .one ⟨some 24, .mov (.t 2), none⟩ <|
    .one ⟨some 25, .iad 1 (.t 23) (.t 24), none⟩ <|
    .one ⟨some 6, .mov (.t 25), none⟩ <|
    .nil)) (.ret))))
def code106 : AFunc := ⟨26, [.tmp 6], d106.strip⟩

/-- fulling/word.Unary -/
def d107 : DCode :=
  .seq (.ops (.one ⟨some 4, .mov (.c (.int .i64 0)), none⟩ <|
    .nil)) (.seq (.seq (.ops (.one ⟨some 5, .mov (.t 0), none⟩ <|
    .nil)) (.block 0 (.seq (.ops (.one ⟨some 7, .bin .eql (.t 5) (.c (.int .i64 20)), none⟩ <|
    .one ⟨some 6, .mov (.t 7), none⟩ <|
    .nil)) (.cond (.t 6) (.seq (.ops (.one ⟨some 8, .mov (.t 1), none⟩ <|
    .one ⟨some 9, .un .neg (.t 8), none⟩ <|
    .one ⟨some 4, .mov (.t 9), none⟩ <|
    .nil)) (.ret)) (.seq (.ops (.one ⟨some 11, .bin .eql (.t 5) (.c (.int .i64 21)), none⟩ <|
    .one ⟨some 10, .mov (.t 11), none⟩ <|
    .nil)) (.cond (.t 10) (.seq (.ops (.one ⟨some 12, .mov (.t 1), none⟩ <|
    .one ⟨some 13, .un .xor (.t 12), none⟩ <|
    .one ⟨some 4, .mov (.t 13), none⟩ <|
    .nil)) (.ret)) (.skip))))))) (.seq (.ops (.one ⟨some 4, .mov (.c (.int .i64 0)), none⟩ <|
    .nil)) (.ret)))
def code107 : AFunc := ⟨14, [.tmp 4], d107.strip⟩

/-- fulling/word.Binary -/
def d108 : DCode :=
  .seq (.ops (.one ⟨some 6, .mov (.c (.int .i64 0)), none⟩ <|
    .nil)) (.seq (.seq (.ops (.one ⟨some 7, .mov (.t 0), none⟩ <|
    .nil)) (.block 0 (.seq (.ops (.one ⟨some 9, .bin .eql (.t 7) (.c (.int .i64 4)), none⟩ <|
    .one ⟨some 8, .mov (.t 9), none⟩ <|
    .nil)) (.cond (.t 8) (.seq (.ops (.one ⟨some 10, .mov (.t 1), none⟩ <|
    .one ⟨some 11, .mov (.t 2), none⟩ <|
    .one ⟨some 12, .bin .add (.t 10) (.t 11), none⟩ <|
    .one ⟨some 6, .mov (.t 12), none⟩ <|
    .nil)) (.ret)) (.seq (.ops (.one ⟨some 14, .bin .eql (.t 7) (.c (.int .i64 5)), none⟩ <|
    .one ⟨some 13, .mov (.t 14), none⟩ <|
    .nil)) (.cond (.t 13) (.seq (.ops (.one ⟨some 15, .mov (.t 1), none⟩ <|
    .one ⟨some 16, .mov (.t 2), none⟩ <|
    .one ⟨some 17, .bin .sub (.t 15) (.t 16), none⟩ <|
    .one ⟨some 6, .mov (.t 17), none⟩ <|
    .nil)) (.ret)) (.seq (.ops (.one ⟨some 19, .bin .eql (.t 7) (.c (.int .i64 6)), none⟩ <|
    .one ⟨some 18, .mov (.t 19), none⟩ <|
    .nil)) (.cond (.t 18) (.seq (.ops (.one ⟨some 20, .mov (.t 1), none⟩ <|
    .one ⟨some 21, .mov (.t 2), none⟩ <|
    .one ⟨some 22, .bin .mul (.t 20) (.t 21), none⟩ <|
    .one ⟨some 6, .mov (.t 22), none⟩ <|
    .nil)) (.ret)) (.seq (.ops (.one ⟨some 24, .bin .eql (.t 7) (.c (.int .i64 7)), none⟩ <|
    .one ⟨some 23, .mov (.t 24), none⟩ <|
    .nil)) (.cond (.t 23) (.seq (.ops (.one ⟨some 25, .mov (.t 1), none⟩ <|
    .one ⟨some 26, .mov (.t 2), none⟩ <|
    .one ⟨some 27, .call (.c (.fn 129 [])) [.t 25, .t 26], none⟩ <|
    .one ⟨some 6, .mov (.t 27), none⟩ <|
    .nil)) (.ret)) (.seq (.ops (.one ⟨some 29, .bin .eql (.t 7) (.c (.int .i64 8)), none⟩ <|
    .one ⟨some 28, .mov (.t 29), none⟩ <|
    .nil)) (.cond (.t 28) (.seq (.seq (.ops (.one ⟨some 30, .mov (.t 2), none⟩ <|
    .one ⟨some 31, .bin .eql (.t 30) (.c (.int .i64 0)), none⟩ <|
    .nil)) (.cond (.t 31) (.seq (.ops (.one ⟨some 6, .mov (.c (.int .i64 0)), none⟩ <|
    .nil)) (.ret)) (.skip))) (.mark [1, 2] (.seq (.ops (.one ⟨some 32, .mov (.t 1), none⟩ <|
    .one ⟨some 33, .mov (.t 1), none⟩ <|
    .one ⟨some 34, .mov (.t 2), none⟩ <|
    .one ⟨some 35, .call (.c (.fn 129 [])) [.t 33, .t 34], none⟩ <|
    .one ⟨some 36, .mov (.t 2), none⟩ <|
    .one ⟨some 37, .bin .mul (.t 35) (.t 36), none⟩ <|
    .one ⟨some 38, .bin .sub (.t 32) (.t 37), none⟩ <|
    .one ⟨some 6, .mov (.t 38), none⟩ <|
    .nil)) (.ret)))) (.seq (.ops (.one ⟨some 40, .bin .eql (.t 7) (.c (.int .i64 9)), none⟩ <|
    .one ⟨some 39, .mov (.t 40), none⟩ <|
    .nil)) (.cond (.t 39) (.seq (.ops (.one ⟨some 41, .mov (.t 1), none⟩ <|
    .one ⟨some 42, .mov (.t 2), none⟩ <|
    .one ⟨some 43, .bin .and (.t 41) (.t 42), none⟩ <|
    .one ⟨some 6, .mov (.t 43), none⟩ <|
    .nil)) (.ret)) (.seq (.ops (.one ⟨some 45, .bin .eql (.t 7) (.c (.int .i64 10)), none⟩ <|
    .one ⟨some 44, .mov (.t 45), none⟩ <|
    .nil)) (.cond (.t 44) (.seq (.ops (.one ⟨some 46, .mov (.t 1), none⟩ <|
    .one ⟨some 47, .mov (.t 2), none⟩ <|
    .one ⟨some 48, .bin .or (.t 46) (.t 47), none⟩ <|
    .one ⟨some 6, .mov (.t 48), none⟩ <|
    .nil)) (.ret)) (.seq (.ops (.one ⟨some 50, .bin .eql (.t 7) (.c (.int .i64 11)), none⟩ <|
    .one ⟨some 49, .mov (.t 50), none⟩ <|
    .nil)) (.cond (.t 49) (.seq (.ops (.one ⟨some 51, .mov (.t 1), none⟩ <|
    .one ⟨some 52, .mov (.t 2), none⟩ <|
    .one ⟨some 53, .bin .xor (.t 51) (.t 52), none⟩ <|
    .one ⟨some 6, .mov (.t 53), none⟩ <|
    .nil)) (.ret)) (.skip))))))))))))))))))) (.seq (.ops (.one ⟨some 54, .mov (.t 0), none⟩ <|
    .one ⟨some 55, .mov (.t 1), none⟩ <|
    .one ⟨some 56, .mov (.t 2), none⟩ <|
    .one ⟨some 57, .call (.c (.fn 130 [])) [.t 54, .t 55, .t 56], none⟩ <|
    .one ⟨some 6, .mov (.t 57), none⟩ <|
    .nil)) (.ret)))
def code108 : AFunc := ⟨58, [.tmp 6], d108.strip⟩

/-- fulling/fullingref29.Unary -/
def d109 : DCode :=
  .seq (.ops (.one ⟨some 4, .mov (.c (.int .i64 0)), none⟩ <|
    .nil)) (.seq (.seq (.ops (.one ⟨some 5, .mov (.t 0), none⟩ <|
    .one ⟨some 6, .bin .eql (.t 5) (.c (.int .i64 15)), none⟩ <|
    .nil)) (.cond (.t 6) (.seq (.ops (.one ⟨some 7, .mov (.t 1), none⟩ <|
    .one ⟨some 8, .bin .sub (.c (.int .i64 0)) (.t 7), none⟩ <|
    .one ⟨some 4, .mov (.t 8), none⟩ <|
    .nil)) (.ret)) (.skip))) (.seq (.ops (.one ⟨some 9, .mov (.t 1), none⟩ <|
    .one ⟨some 10, .bin .sub (.c (.int .i64 (-1))) (.t 9), none⟩ <|
    .one ⟨some 4, .mov (.t 10), none⟩ <|
    .nil)) (.ret)))
def code109 : AFunc := ⟨11, [.tmp 4], d109.strip⟩

/-- fulling/fullingref29.Binary -/
def d111 : DCode :=
  .seq (.ops (.one ⟨some 6, .mov (.c (.int .i64 0)), none⟩ <|
    .nil)) (.seq (.ops (.one ⟨some 8, .mov (.t 2), none⟩ <|
    .one ⟨some 9, .bin .and (.t 8) (.c (.int .i64 63)), none⟩ <|
    .one ⟨some 10, .conv .u64 (.t 9), none⟩ <|
    .one ⟨some 7, .mov (.t 10), none⟩ <|
    .nil)) (.seq (.seq (.ops (.one ⟨some 11, .mov (.t 0), none⟩ <|
    .nil)) (.block 0 (.seq (.ops (.one ⟨some 13, .bin .eql (.t 11) (.c (.int .i64 17)), none⟩ <|
    .one ⟨some 12, .mov (.t 13), none⟩ <|
    .nil)) (.cond (.t 12) (.seq (.ops (.one ⟨some 14, .mov (.t 1), none⟩ <|
    .one ⟨some 15, .mov (.t 2), none⟩ <|
    .one ⟨some 16, .bin .add (.t 14) (.t 15), none⟩ <|
    .one ⟨some 6, .mov (.t 16), none⟩ <|
    .nil)) (.ret)) (.seq (.ops (.one ⟨some 18, .bin .eql (.t 11) (.c (.int .i64 18)), none⟩ <|
    .one ⟨some 17, .mov (.t 18), none⟩ <|
    .nil)) (.cond (.t 17) (.seq (.ops (.one ⟨some 19, .mov (.t 1), none⟩ <|
    .one ⟨some 20, .mov (.t 2), none⟩ <|
    .one ⟨some 21, .bin .sub (.t 19) (.t 20), none⟩ <|
    .one ⟨some 6, .mov (.t 21), none⟩ <|
    .nil)) (.ret)) (.seq (.ops (.one ⟨some 23, .bin .eql (.t 11) (.c (.int .i64 19)), none⟩ <|
    .one ⟨some 22, .mov (.t 23), none⟩ <|
    .nil)) (.cond (.t 22) (.seq (.ops (.one ⟨some 24, .mov (.t 1), none⟩ <|
    .one ⟨some 25, .mov (.t 2), none⟩ <|
    .one ⟨some 26, .bin .mul (.t 24) (.t 25), none⟩ <|
    .one ⟨some 6, .mov (.t 26), none⟩ <|
    .nil)) (.ret)) (.seq (.ops (.one ⟨some 28, .bin .eql (.t 11) (.c (.int .i64 20)), none⟩ <|
    .one ⟨some 27, .mov (.t 28), none⟩ <|
    .nil)) (.cond (.t 27) (.seq (.seq (.ops (.one ⟨some 29, .mov (.t 2), none⟩ <|
    .one ⟨some 30, .bin .eql (.t 29) (.c (.int .i64 0)), none⟩ <|
    .nil)) (.cond (.t 30) (.seq (.ops (.one ⟨some 6, .mov (.c (.int .i64 0)), none⟩ <|
    .nil)) (.ret)) (.skip))) (.mark [1, 2] (.seq (.seq (.ops (.one ⟨some 31, .mov (.t 2), none⟩ <|
    .one ⟨some 32, .bin .eql (.t 31) (.c (.int .i64 (-1))), none⟩ <|
    .nil)) (.cond (.t 32) (.seq (.ops (.one ⟨some 33, .mov (.t 1), none⟩ <|
    .one ⟨some 34, .bin .sub (.c (.int .i64 0)) (.t 33), none⟩ <|
    .one ⟨some 6, .mov (.t 34), none⟩ <|
    .nil)) (.ret)) (.skip))) (.seq (.ops (.one ⟨some 35, .mov (.t 1), none⟩ <|
    .one ⟨some 36, .mov (.t 2), none⟩ <|
    .one ⟨some 37, .bin .quo (.t 35) (.t 36), none⟩ <|
    .one ⟨some 6, .mov (.t 37), none⟩ <|
    .nil)) (.ret))))) (.seq (.ops (.one ⟨some 39, .bin .eql (.t 11) (.c (.int .i64 21)), none⟩ <|
    .one ⟨some 38, .mov (.t 39), none⟩ <|
    .nil)) (.cond (.t 38) (.seq (.seq (.ops (.one ⟨some 40, .mov (.t 2), none⟩ <|
    .one ⟨some 41, .bin .eql (.t 40) (.c (.int .i64 0)), none⟩ <|
    .one ⟨some 42, .mov (.t 41), none⟩ <|
    .grp (.one ⟨some 43, .mov (.t 2), some (42, false)⟩ <|
    .one ⟨some 44, .bin .eql (.t 43) (.c (.int .i64 (-1))), some (42, false)⟩ <|
    .nil) 45 42 false 44 none <|
    .nil)) (.cond (.t 45) (.seq (.ops (.one ⟨some 6, .mov (.c (.int .i64 0)), none⟩ <|
    .nil)) (.ret)) (.skip))) (.seq (.ops (.one ⟨some 46, .mov (.t 1), none⟩ <|
    .one ⟨some 47, .mov (.t 2), none⟩ <|
    .one ⟨some 48, .bin .rem (.t 46) (.t 47), none⟩ <|
    .one ⟨some 6, .mov (.t 48), none⟩ <|
    .nil)) (.ret))) (.seq (.ops (.one ⟨some 50, .bin .eql (.t 11) (.c (.int .i64 22)), none⟩ <|
    .one ⟨some 49, .mov (.t 50), none⟩ <|
    .nil)) (.cond (.t 49) (.seq (.ops (.one ⟨some 51, .mov (.t 1), none⟩ <|
    .one ⟨some 52, .mov (.t 2), none⟩ <|
    .one ⟨some 53, .bin .and (.t 51) (.t 52), none⟩ <|
    .one ⟨some 6, .mov (.t 53), none⟩ <|
    .nil)) (.ret)) (.seq (.ops (.one ⟨some 55, .bin .eql (.t 11) (.c (.int .i64 23)), none⟩ <|
    .one ⟨some 54, .mov (.t 55), none⟩ <|
    .nil)) (.cond (.t 54) (.seq (.ops (.one ⟨some 56, .mov (.t 1), none⟩ <|
    .one ⟨some 57, .mov (.t 2), none⟩ <|
    .one ⟨some 58, .bin .or (.t 56) (.t 57), none⟩ <|
    .one ⟨some 6, .mov (.t 58), none⟩ <|
    .nil)) (.ret)) (.seq (.ops (.one ⟨some 60, .bin .eql (.t 11) (.c (.int .i64 24)), none⟩ <|
    .one ⟨some 59, .mov (.t 60), none⟩ <|
    .nil)) (.cond (.t 59) (.seq (.ops (.one ⟨some 61, .mov (.t 1), none⟩ <|
    .one ⟨some 62, .mov (.t 2), none⟩ <|
    .one ⟨some 63, .bin .xor (.t 61) (.t 62), none⟩ <|
    .one ⟨some 6, .mov (.t 63), none⟩ <|
    .nil)) (.ret)) (.seq (.ops (.one ⟨some 65, .bin .eql (.t 11) (.c (.int .i64 25)), none⟩ <|
    .one ⟨some 64, .mov (.t 65), none⟩ <|
    .nil)) (.cond (.t 64) (.seq (.ops (.one ⟨some 66, .mov (.t 1), none⟩ <|
    .one ⟨some 67, .conv .u64 (.t 66), none⟩ <|
    .one ⟨some 68, .mov (.t 7), none⟩ <|
    .one ⟨some 69, .bin .shl (.t 67) (.t 68), none⟩ <|
    .one ⟨some 70, .conv .i64 (.t 69), none⟩ <|
    .one ⟨some 6, .mov (.t 70), none⟩ <|
    .nil)) (.ret)) (.seq (.ops (.one ⟨some 72, .bin .eql (.t 11) (.c (.int .i64 26)), none⟩ <|
    .one ⟨some 71, .mov (.t 72), none⟩ <|
    .nil)) (.cond (.t 71) (.seq (.ops (.one ⟨some 73, .mov (.t 1), none⟩ <|
    .one ⟨some 74, .conv .u64 (.t 73), none⟩ <|
    .one ⟨some 75, .mov (.t 7), none⟩ <|
    .one ⟨some 76, .bin .shr (.t 74) (.t 75), none⟩ <|
    .one ⟨some 77, .conv .i64 (.t 76), none⟩ <|
    .one ⟨some 6, .mov (.t 77), none⟩ <|
    .nil)) (.ret)) (.seq (.ops (.one ⟨some 79, .bin .eql (.t 11) (.c (.int .i64 27)), none⟩ <|
    .one ⟨some 78, .mov (.t 79), none⟩ <|
    .nil)) (.cond (.t 78) (.seq (.ops (.one ⟨some 80, .mov (.t 1), none⟩ <|
    .one ⟨some 81, .mov (.t 7), none⟩ <|
    .one ⟨some 82, .bin .shr (.t 80) (.t 81), none⟩ <|
    .one ⟨some 6, .mov (.t 82), none⟩ <|
    .nil)) (.ret)) (.seq (.ops (.one ⟨some 84, .bin .eql (.t 11) (.c (.int .i64 28)), none⟩ <|
    .one ⟨some 83, .mov (.t 84), none⟩ <|
    .nil)) (.cond (.t 83) (.seq (.ops (.one ⟨some 85, .mov (.t 1), none⟩ <|
    .one ⟨some 86, .mov (.t 2), none⟩ <|
    .one ⟨some 87, .bin .eql (.t 85) (.t 86), none⟩ <|
    .one ⟨some 88, .call (.c (.fn 131 [])) [.t 87], none⟩ <|
    .one ⟨some 6, .mov (.t 88), none⟩ <|
    .nil)) (.ret)) (.seq (.ops (.one ⟨some 90, .bin .eql (.t 11) (.c (.int .i64 29)), none⟩ <|
    .one ⟨some 89, .mov (.t 90), none⟩ <|
    .nil)) (.cond (.t 89) (.seq (.ops (.one ⟨some 91, .mov (.t 1), none⟩ <|
    .one ⟨some 92, .mov (.t 2), none⟩ <|
    .one ⟨some 93, .bin .neq (.t 91) (.t 92), none⟩ <|
    .one ⟨some 94, .call (.c (.fn 131 [])) [.t 93], none⟩ <|
    .one ⟨some 6, .mov (.t 94), none⟩ <|
    .nil)) (.ret)) (.seq (.ops (.one ⟨some 96, .bin .eql (.t 11) (.c (.int .i64 30)), none⟩ <|
    .one ⟨some 95, .mov (.t 96), none⟩ <|
    .nil)) (.cond (.t 95) (.seq (.ops (.one ⟨some 97, .mov (.t 1), none⟩ <|
    .one ⟨some 98, .mov (.t 2), none⟩ <|
    .one ⟨some 99, .bin .lss (.t 97) (.t 98), none⟩ <|
    .one ⟨some 100, .call (.c (.fn 131 [])) [.t 99], none⟩ <|
    .one ⟨some 6, .mov (.t 100), none⟩ <|
    .nil)) (.ret)) (.seq (.ops (.one ⟨some 102, .bin .eql (.t 11) (.c (.int .i64 31)), none⟩ <|
    .one ⟨some 101, .mov (.t 102), none⟩ <|
    .nil)) (.cond (.t 101) (.seq (.ops (.one ⟨some 103, .mov (.t 1), none⟩ <|
    .one ⟨some 104, .mov (.t 2), none⟩ <|
    .one ⟨some 105, .bin .leq (.t 103) (.t 104), none⟩ <|
    .one ⟨some 106, .call (.c (.fn 131 [])) [.t 105], none⟩ <|
    .one ⟨some 6, .mov (.t 106), none⟩ <|
    .nil)) (.ret)) (.skip))))))))))))))))))))))))))))))))) (.mark [1, 2] (.seq (.ops (.one ⟨some 107, .mov (.t 1), none⟩ <|
    .one ⟨some 108, .conv .u64 (.t 107), none⟩ <|
    .one ⟨some 109, .mov (.t 2), none⟩ <|
    .one ⟨some 110, .conv .u64 (.t 109), none⟩ <|
    .one ⟨some 111, .bin .lss (.t 108) (.t 110), none⟩ <|
    .one ⟨some 112, .call (.c (.fn 131 [])) [.t 111], none⟩ <|
    .one ⟨some 6, .mov (.t 112), none⟩ <|
    .nil)) (.ret)))))
def code111 : AFunc := ⟨113, [.tmp 6], d111.strip⟩

/-- fulling/word.quotient -/
def d129 : DCode :=
  .seq (.ops (.one ⟨some 4, .mov (.c (.int .i64 0)), none⟩ <|
    .nil)) (.seq (.seq (.ops (.one ⟨some 5, .mov (.t 1), none⟩ <|
    .nil)) (.block 0 (.seq (.ops (.one ⟨some 7, .bin .eql (.t 5) (.c (.int .i64 0)), none⟩ <|
    .one ⟨some 6, .mov (.t 7), none⟩ <|
    .nil)) (.cond (.t 6) (.seq (.ops (.one ⟨some 4, .mov (.c (.int .i64 0)), none⟩ <|
    .nil)) (.ret)) (.seq (.ops (.one ⟨some 9, .bin .eql (.t 5) (.c (.int .i64 (-1))), none⟩ <|
    .one ⟨some 8, .mov (.t 9), none⟩ <|
    .nil)) (.cond (.t 8) (.seq (.ops (.one ⟨some 10, .mov (.t 0), none⟩ <|
    .one ⟨some 11, .un .neg (.t 10), none⟩ <|
    .one ⟨some 4, .mov (.t 11), none⟩ <|
    .nil)) (.ret)) (.skip))))))) (.seq (.ops (.one ⟨some 12, .mov (.t 0), none⟩ <|
    .one ⟨some 13, .mov (.t 1), none⟩ <|
    .one ⟨some 14, .bin .quo (.t 12) (.t 13), none⟩ <|
    .one ⟨some 4, .mov (.t 14), none⟩ <|
    .nil)) (.ret)))
def code129 : AFunc := ⟨15, [.tmp 4], d129.strip⟩

/-- fulling/word.shiftOrCompare -/
def d130 : DCode :=
  .seq (.ops (.one ⟨some 6, .mov (.c (.int .i64 0)), none⟩ <|
    .nil)) (.seq (.ops (.one ⟨some 8, .mov (.t 2), none⟩ <|
    .one ⟨some 9, .bin .and (.t 8) (.c (.int .i64 63)), none⟩ <|
    .one ⟨some 10, .conv .u64 (.t 9), none⟩ <|
    .one ⟨some 7, .mov (.t 10), none⟩ <|
    .nil)) (.seq (.seq (.ops (.one ⟨some 11, .mov (.t 0), none⟩ <|
    .nil)) (.block 0 (.seq (.ops (.one ⟨some 13, .bin .eql (.t 11) (.c (.int .i64 12)), none⟩ <|
    .one ⟨some 12, .mov (.t 13), none⟩ <|
    .nil)) (.cond (.t 12) (.seq (.ops (.one ⟨some 14, .mov (.t 1), none⟩ <|
    .one ⟨some 15, .mov (.t 7), none⟩ <|
    .one ⟨some 16, .bin .shl (.t 14) (.t 15), none⟩ <|
    .one ⟨some 6, .mov (.t 16), none⟩ <|
    .nil)) (.ret)) (.seq (.ops (.one ⟨some 18, .bin .eql (.t 11) (.c (.int .i64 13)), none⟩ <|
    .one ⟨some 17, .mov (.t 18), none⟩ <|
    .nil)) (.cond (.t 17) (.seq (.ops (.one ⟨some 19, .mov (.t 1), none⟩ <|
    .one ⟨some 20, .conv .u64 (.t 19), none⟩ <|
    .one ⟨some 21, .mov (.t 7), none⟩ <|
    .one ⟨some 22, .bin .shr (.t 20) (.t 21), none⟩ <|
    .one ⟨some 23, .conv .i64 (.t 22), none⟩ <|
    .one ⟨some 6, .mov (.t 23), none⟩ <|
    .nil)) (.ret)) (.seq (.ops (.one ⟨some 25, .bin .eql (.t 11) (.c (.int .i64 14)), none⟩ <|
    .one ⟨some 24, .mov (.t 25), none⟩ <|
    .nil)) (.cond (.t 24) (.seq (.ops (.one ⟨some 26, .mov (.t 1), none⟩ <|
    .one ⟨some 27, .mov (.t 7), none⟩ <|
    .one ⟨some 28, .bin .shr (.t 26) (.t 27), none⟩ <|
    .one ⟨some 6, .mov (.t 28), none⟩ <|
    .nil)) (.ret)) (.seq (.ops (.one ⟨some 30, .bin .eql (.t 11) (.c (.int .i64 15)), none⟩ <|
    .one ⟨some 29, .mov (.t 30), none⟩ <|
    .nil)) (.cond (.t 29) (.seq (.ops (.one ⟨some 31, .mov (.t 1), none⟩ <|
    .one ⟨some 32, .mov (.t 2), none⟩ <|
    .one ⟨some 33, .bin .eql (.t 31) (.t 32), none⟩ <|
    .one ⟨some 34, .call (.c (.fn 136 [])) [.t 33], none⟩ <|
    .one ⟨some 6, .mov (.t 34), none⟩ <|
    .nil)) (.ret)) (.seq (.ops (.one ⟨some 36, .bin .eql (.t 11) (.c (.int .i64 16)), none⟩ <|
    .one ⟨some 35, .mov (.t 36), none⟩ <|
    .nil)) (.cond (.t 35) (.seq (.ops (.one ⟨some 37, .mov (.t 1), none⟩ <|
    .one ⟨some 38, .mov (.t 2), none⟩ <|
    .one ⟨some 39, .bin .neq (.t 37) (.t 38), none⟩ <|
    .one ⟨some 40, .call (.c (.fn 136 [])) [.t 39], none⟩ <|
    .one ⟨some 6, .mov (.t 40), none⟩ <|
    .nil)) (.ret)) (.seq (.ops (.one ⟨some 42, .bin .eql (.t 11) (.c (.int .i64 17)), none⟩ <|
    .one ⟨some 41, .mov (.t 42), none⟩ <|
    .nil)) (.cond (.t 41) (.seq (.ops (.one ⟨some 43, .mov (.t 1), none⟩ <|
    .one ⟨some 44, .mov (.t 2), none⟩ <|
    .one ⟨some 45, .bin .lss (.t 43) (.t 44), none⟩ <|
    .one ⟨some 46, .call (.c (.fn 136 [])) [.t 45], none⟩ <|
    .one ⟨some 6, .mov (.t 46), none⟩ <|
    .nil)) (.ret)) (.seq (.ops (.one ⟨some 48, .bin .eql (.t 11) (.c (.int .i64 18)), none⟩ <|
    .one ⟨some 47, .mov (.t 48), none⟩ <|
    .nil)) (.cond (.t 47) (.seq (.ops (.one ⟨some 49, .mov (.t 1), none⟩ <|
    .one ⟨some 50, .mov (.t 2), none⟩ <|
    .one ⟨some 51, .bin .leq (.t 49) (.t 50), none⟩ <|
    .one ⟨some 52, .call (.c (.fn 136 [])) [.t 51], none⟩ <|
    .one ⟨some 6, .mov (.t 52), none⟩ <|
    .nil)) (.ret)) (.seq (.ops (.one ⟨some 54, .bin .eql (.t 11) (.c (.int .i64 19)), none⟩ <|
    .one ⟨some 53, .mov (.t 54), none⟩ <|
    .nil)) (.cond (.t 53) (.seq (.ops (.one ⟨some 55, .mov (.t 1), none⟩ <|
    .one ⟨some 56, .conv .u64 (.t 55), none⟩ <|
    .one ⟨some 57, .mov (.t 2), none⟩ <|
    .one ⟨some 58, .conv .u64 (.t 57), none⟩ <|
    .one ⟨some 59, .bin .lss (.t 56) (.t 58), none⟩ <|
    .one ⟨some 60, .call (.c (.fn 136 [])) [.t 59], none⟩ <|
    .one ⟨some 6, .mov (.t 60), none⟩ <|
    .nil)) (.ret)) (.skip))))))))))))))))))) (.seq (.ops (.one ⟨some 6, .mov (.c (.int .i64 0)), none⟩ <|
    .nil)) (.ret))))
def code130 : AFunc := ⟨61, [.tmp 6], d130.strip⟩

/-- fulling/fullingref29.one -/
def d131 : DCode :=
  .seq (.ops (.one ⟨some 2, .mov (.c (.int .i64 0)), none⟩ <|
    .nil)) (.seq (.seq (.ops (.one ⟨some 3, .mov (.t 0), none⟩ <|
    .nil)) (.cond (.t 3) (.seq (.ops (.one ⟨some 2, .mov (.c (.int .i64 1)), none⟩ <|
    .nil)) (.ret)) (.skip))) (.seq (.ops (.one ⟨some 2, .mov (.c (.int .i64 0)), none⟩ <|
    .nil)) (.ret)))
def code131 : AFunc := ⟨4, [.tmp 2], d131.strip⟩

/-- fulling/word.truth -/
def d136 : DCode :=
  .seq (.ops (.one ⟨some 2, .mov (.c (.int .i64 0)), none⟩ <|
    .nil)) (.seq (.seq (.ops (.one ⟨some 3, .mov (.t 0), none⟩ <|
    .nil)) (.cond (.t 3) (.seq (.ops (.one ⟨some 2, .mov (.c (.int .i64 1)), none⟩ <|
    .nil)) (.ret)) (.skip))) (.seq (.ops (.one ⟨some 2, .mov (.c (.int .i64 0)), none⟩ <|
    .nil)) (.ret)))
def code136 : AFunc := ⟨4, [.tmp 2], d136.strip⟩

end Go.Abs
/- The table of abstract functions. -/
namespace Go.Abs

def tabl : List (Nat × AFunc) := [(3, code3), (13, code13), (14, code14), (15, code15), (16, code16), (17, code17), (21, code21), (23, code23), (24, code24), (42, code42), (43, code43), (44, code44), (45, code45), (46, code46), (49, code49), (50, code50), (52, code52), (53, code53), (54, code54), (55, code55), (56, code56), (63, code63), (76, code76), (77, code77), (78, code78), (79, code79), (80, code80), (81, code81), (82, code82), (83, code83), (87, code87), (88, code88), (105, code105), (106, code106), (107, code107), (108, code108), (109, code109), (111, code111), (129, code129), (130, code130), (131, code131), (136, code136)]

def tab (f : Nat) : Option AFunc := tabl.lookup f

end Go.Abs
