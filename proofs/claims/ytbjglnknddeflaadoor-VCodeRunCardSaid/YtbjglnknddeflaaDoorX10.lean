/- A part of the proof: D0, D1, D2, DTab -/
import Derived.KernelRfl
import Derived.Test.YtbjglnknddeflaaDoorX9
set_option linter.unusedSimpArgs false
set_option linter.unusedVariables false
/- Abstract code, printed by a program of this session's off the loaded functions. -/
namespace Go.Abs

/-- fulling/fullinglaw32.VCodeExamples -/
def d3 : DCode :=
  .seq (.ops (.o 0 (.mov (.c (.bool false))) <|
 .nil)) (.seq (.ops (.o 9 (.build [.i 0, .i 0, .i 0, .i 0, .i 0] [(0, 1, .i 38)]) <|
 .o 10 (.build [.i 0, .i 0, .i 0, .i 0, .i 0, .nilsl] [(0, 5, .t 9)]) <|
 .bsl 11 6 [.i 0, .i 0, .i 0, .i 0, .i 0, .nilsl] 1 [(0, .t 10)] <|
 .o 12 (.build [.nilsl, .i 0, .i 0, .i 0, .i 0] [(0, 1, .t 11), (1, 1, .i 3)]) <|
 .bsl 13 5 [.nilsl, .i 0, .i 0, .i 0, .i 0] 1 [(0, .t 12)] <|
 .o 14 (.build [.i 0, .i 0, .nilsl] [(0, 1, .i 1), (1, 1, .i 1), (2, 1, .t 13)]) <|
 .alst 1 [.i 0, .i 0, .nilsl] (.t 14) <|
 .nil)) (.seq (.ops (.o 15 (.build [.i 0, .i 0, .i 0, .i 0, .i 0] [(0, 1, .i 38)]) <|
 .o 16 (.build [.i 0, .i 0, .i 0, .i 0, .i 0, .nilsl] [(0, 5, .t 15)]) <|
 .o 17 (.build [.i 0, .i 0, .i 0, .i 0, .i 0] [(0, 1, .i 6), (1, 1, .i 1)]) <|
 .bsl 18 1 [.i 0] 1 [(0, .i 0)] <|
 .o 19 (.build [.i 0, .i 0, .i 0, .i 0, .i 0, .nilsl] [(0, 5, .t 17), (5, 1, .t 18)]) <|
 .bsl 20 6 [.i 0, .i 0, .i 0, .i 0, .i 0, .nilsl] 2 [(0, .t 16), (1, .t 19)] <|
 .o 21 (.build [.nilsl, .i 0, .i 0, .i 0, .i 0] [(0, 1, .t 20), (1, 1, .i 2), (3, 1, .i 2), (4, 1, .i 1)]) <|
 .o 22 (.build [.nilsl, .i 0, .i 0, .i 0, .i 0] [(1, 1, .i 4), (3, 1, .i 9)]) <|
 .o 23 (.build [.nilsl, .i 0, .i 0, .i 0, .i 0] [(1, 1, .i 3), (2, 1, .i 1)]) <|
 .bsl 24 5 [.nilsl, .i 0, .i 0, .i 0, .i 0] 3 [(0, .t 21), (1, .t 22), (2, .t 23)] <|
 .o 25 (.build [.i 0, .i 0, .nilsl] [(0, 1, .i 1), (1, 1, .i 2), (2, 1, .t 24)]) <|
 .alst 2 [.i 0, .i 0, .nilsl] (.t 25) <|
 .nil)) (.seq (.ops (.o 27 (.lda 3 (.t 1)) <|
 .o 28 (.lda 3 (.t 2)) <|
 .bsl 29 3 [.i 0, .i 0, .nilsl] 2 [(0, .t 27), (1, .t 28)] <|
 .bsl 30 1 [.i 0] 1 [(0, .i 5)] <|
 .o 31 (.call (.c (.fn 13 [])) [.t 29, .c (.nilsl), .i 1, .t 30, .i 0, .i 9]) <|
 .o 26 (.mov (.t 31)) <|
 .o 32 (.ext (.t 26) 0) <|
 .o 33 (.ext (.t 26) 1) <|
 .alst 3 [.i 0, .i 0, .nilsl, .i 0] (.t 32) <|
 .o 4 (.mov (.t 33)) <|
 .nil)) (.seq (.ops (.o 35 (.lda 3 (.t 1)) <|
 .o 36 (.lda 3 (.t 2)) <|
 .bsl 37 3 [.i 0, .i 0, .nilsl] 2 [(0, .t 35), (1, .t 36)] <|
 .bsl 38 1 [.i 0] 1 [(0, .i 0)] <|
 .o 39 (.call (.c (.fn 13 [])) [.t 37, .c (.nilsl), .i 1, .t 38, .i 0, .i 9]) <|
 .o 34 (.mov (.t 39)) <|
 .o 40 (.ext (.t 34) 0) <|
 .o 41 (.ext (.t 34) 1) <|
 .alst 5 [.i 0, .i 0, .nilsl, .i 0] (.t 40) <|
 .o 6 (.mov (.t 41)) <|
 .nil)) (.seq (.ops (.o 43 (.lda 3 (.t 1)) <|
 .o 44 (.lda 3 (.t 2)) <|
 .bsl 45 3 [.i 0, .i 0, .nilsl] 2 [(0, .t 43), (1, .t 44)] <|
 .bsl 46 1 [.i 0] 1 [(0, .i 5)] <|
 .o 47 (.call (.c (.fn 13 [])) [.t 45, .c (.nilsl), .i 1, .t 46, .i 0, .i 5]) <|
 .o 42 (.mov (.t 47)) <|
 .o 48 (.ext (.t 42) 0) <|
 .o 49 (.ext (.t 42) 1) <|
 .alst 7 [.i 0, .i 0, .nilsl, .i 0] (.t 48) <|
 .o 8 (.mov (.t 49)) <|
 .nil)) (.seq (.ops (.o 50 (.lda 3 (.t 2)) <|
 .o 51 (.call (.c (.fn 14 [])) [.t 50]) <|
 .o 52 (.mov (.t 51)) <|
 .grp (.one ⟨some 53, .mov (.t 4), some (52, true)⟩ <|
 .nil) 54 52 true 53 none <|
 .o 55 (.mov (.t 54)) <|
 .grp (.one ⟨some 56, .lda 4 (.t 3), some (55, true)⟩ <|
 .one ⟨some 57, .build [.i 0, .i 0, .nilsl, .i 0] [(0, 1, .i 1), (3, 1, .i 5)], some (55, true)⟩ <|
 .one ⟨some 58, .call (.c (.fn 15 [])) [.t 56, .t 57], some (55, true)⟩ <|
 .nil) 59 55 true 58 none <|
 .o 60 (.mov (.t 59)) <|
 .grp (.one ⟨some 61, .mov (.t 6), some (60, true)⟩ <|
 .nil) 62 60 true 61 none <|
 .o 63 (.mov (.t 62)) <|
 .grp (.one ⟨some 64, .lda 4 (.t 5), some (63, true)⟩ <|
 .one ⟨some 65, .build [.i 0, .i 0, .nilsl, .i 0] [(0, 1, .i 2), (1, 1, .i 9)], some (63, true)⟩ <|
 .one ⟨some 66, .call (.c (.fn 15 [])) [.t 64, .t 65], some (63, true)⟩ <|
 .nil) 67 63 true 66 none <|
 .o 68 (.mov (.t 67)) <|
 .grp (.one ⟨some 69, .mov (.t 8), some (68, true)⟩ <|
 .one ⟨some 70, .un .not (.t 69), some (68, true)⟩ <|
 .nil) 71 68 true 70 none <|
 .o 72 (.mov (.t 71)) <|
 .one ⟨some 73, .fad 2 (.t 2), some (72, true)⟩ <|
 .one ⟨some 74, .ld (.t 73), some (72, true)⟩ <|
 .one ⟨some 75, .iad 5 (.t 74) (.i 0), some (72, true)⟩ <|
 .one ⟨some 76, .lda 5 (.t 75), some (72, true)⟩ <|
 .one ⟨some 77, .call (.c (.fn 17 [])) [.t 76], some (72, true)⟩ <|
 .one ⟨some 78, .bsl 1 [.i 0] 2 [(0, .i 1), (1, .i 2)], some (72, true)⟩ <|
 .grp (.one ⟨some 79, .call (.c (.fn 16 [])) [.t 77, .t 78], some (72, true)⟩ <|
 .nil) 80 72 true 79 none <|
 .o 0 (.mov (.t 80)) <|
 .nil)) (.ret)))))))
def code3 : AFunc := ⟨81, [.tmp 0], d3.strip⟩

/-- fulling/fullinglaw32.VCodeValid -/
def d4 : DCode :=
  .seq (.ops (.box 6 (.t 0) <|
 .o 12 (.mov (.c (.bool false))) <|
 .nil)) (.seq (.seq (.ops (.o 16 (.fad 2 (.t 6)) <|
 .o 17 (.ld (.t 16)) <|
 .o 18 (.len (.t 17)) <|
 .o 19 (.bin .gtr (.t 18) (.i 30)) <|
 .nil)) (.cond (.t 19) (.seq (.ops (.o 20 (.call (.c (.fn 3 [])) []) <|
 .o 12 (.mov (.t 20)) <|
 .nil)) (.ret)) (.skip))) (.mark [1, 2, 3, 4, 5, 6] (.seq (.drawq (.o 21 (.mov (.t 1)) <|
 .o 22 (.mov (.t 1)) <|
 .o 23 (.len (.t 22)) <|
 .o 24 (.mn (.t 23) (.i 30)) <|
 .o 25 (.slice 1 (.t 21) none (some (.t 24))) <|
 .o 26 (.mov (.t 2)) <|
 .o 27 (.call (.c (.fn 19 [])) [.t 26, .i 3]) <|
 .o 28 (.call (.c (.fn 18 [])) [.t 25, .t 27]) <|
 .o 13 (.alloc [.i 0, .i 0, .nilsl]) <|
 .one ⟨none, .st 3 (.t 13) (.t 28), none⟩ <|
 .nil) [(0, 6), (1, 6), (2, 6), (3, 6), (4, 6), (6, 8), (7, 8)]) (.frz 13 (.seq (.ops (.o 29 (.lda 3 (.t 13)) <|
 .o 30 (.mov (.t 3)) <|
 .o 31 (.mov (.t 4)) <|
 .o 32 (.call (.c (.fn 20 [])) [.t 29, .t 30, .t 31]) <|
 .alst 14 [.i 0, .i 0, .nilsl] (.t 32) <|
 .nil)) (.seq (.seq (.drawq (.o 33 (.lda 3 (.t 13)) <|
 .o 34 (.call (.c (.fn 14 [])) [.t 33]) <|
 .o 35 (.un .not (.t 34)) <|
 .o 36 (.mov (.t 35)) <|
 .grp (.one ⟨some 37, .lda 3 (.t 6), some (36, false)⟩ <|
 .one ⟨some 38, .call (.c (.fn 14 [])) [.t 37], some (36, false)⟩ <|
 .one ⟨some 39, .lda 3 (.t 6), some (36, false)⟩ <|
 .one ⟨some 40, .call (.c (.fn 21 [])) [.t 39], some (36, false)⟩ <|
 .one ⟨some 41, .eqb true (.t 38) (.t 40), some (36, false)⟩ <|
 .nil) 42 36 false 41 none <|
 .o 43 (.mov (.t 42)) <|
 .grp (.one ⟨some 44, .lda 3 (.t 14), some (43, false)⟩ <|
 .one ⟨some 45, .call (.c (.fn 14 [])) [.t 44], some (43, false)⟩ <|
 .one ⟨some 46, .lda 3 (.t 14), some (43, false)⟩ <|
 .one ⟨some 47, .call (.c (.fn 21 [])) [.t 46], some (43, false)⟩ <|
 .one ⟨some 48, .eqb true (.t 45) (.t 47), some (43, false)⟩ <|
 .nil) 49 43 false 48 none <|
 .nil) [(5, 6), (12, 13)]) (.cond (.t 49) (.seq (.ops (.o 12 (.mov (.c (.bool false))) <|
 .nil)) (.ret)) (.skip))) (.mark [4, 5, 14] (.seq (.seq (.ops (.o 50 (.fad 2 (.t 14)) <|
 .o 51 (.ld (.t 50)) <|
 .o 52 (.len (.t 51)) <|
 .o 53 (.bin .eql (.t 52) (.i 0)) <|
 .nil)) (.cond (.t 53) (.seq (.ops (.o 54 (.call (.c (.fn 3 [])) []) <|
 .o 12 (.mov (.t 54)) <|
 .nil)) (.ret)) (.skip))) (.mark [4, 5, 14] (.seq (.ops (.o 55 (.lda 3 (.t 14)) <|
 .o 56 (.mov (.t 5)) <|
 .o 57 (.mov (.t 4)) <|
 .o 58 (.bin .quo (.t 57) (.i 3)) <|
 .o 59 (.call (.c (.fn 20 [])) [.t 55, .t 56, .t 58]) <|
 .alst 15 [.i 0, .i 0, .nilsl] (.t 59) <|
 .nil)) (.seq (.drawq (.o 60 (.lda 3 (.t 15)) <|
 .o 61 (.call (.c (.fn 14 [])) [.t 60]) <|
 .o 62 (.lda 3 (.t 15)) <|
 .o 63 (.call (.c (.fn 21 [])) [.t 62]) <|
 .o 64 (.eqb false (.t 61) (.t 63)) <|
 .o 65 (.mov (.t 64)) <|
 .grp (.one ⟨some 66, .call (.c (.fn 3 [])) [], some (65, true)⟩ <|
 .nil) 67 65 true 66 none <|
 .o 12 (.mov (.t 67)) <|
 .nil) [(1, 2)]) (.ret))))))))))))
def code4 : AFunc := ⟨68, [.tmp 12], d4.strip⟩

/-- fulling/fullinglaw32.VCodeProgram -/
def d5 : DCode :=
  .seq (.ops (.o 12 (.mov (.c (.bool false))) <|
 .nil)) (.seq (.ops (.o 21 (.mov (.t 0)) <|
 .o 22 (.mov (.t 1)) <|
 .o 23 (.call (.c (.fn 22 [])) [.t 21, .t 22]) <|
 .o 20 (.mov (.t 23)) <|
 .o 24 (.ext (.t 20) 0) <|
 .o 25 (.ext (.t 20) 1) <|
 .o 13 (.mov (.t 24)) <|
 .o 14 (.mov (.t 25)) <|
 .nil)) (.seq (.ops (.o 26 (.mov (.t 13)) <|
 .o 27 (.app 3 (.c (.nilsl)) (.t 26)) <|
 .o 15 (.mov (.t 27)) <|
 .nil)) (.seq (.ops (.o 28 (.mov (.t 15)) <|
 .o 29 (.mov (.t 3)) <|
 .o 30 (.call (.c (.fn 19 [])) [.t 29, .i 2]) <|
 .o 31 (.mov (.t 15)) <|
 .o 32 (.mov (.t 3)) <|
 .o 33 (.call (.c (.fn 19 [])) [.t 32, .i 2]) <|
 .o 34 (.iad 3 (.t 31) (.t 33)) <|
 .o 35 (.lda 3 (.t 34)) <|
 .o 36 (.mov (.t 2)) <|
 .o 37 (.mov (.t 3)) <|
 .o 38 (.bin .quo (.t 37) (.i 2)) <|
 .o 39 (.call (.c (.fn 20 [])) [.t 35, .t 36, .t 38]) <|
 .o 40 (.iad 3 (.t 28) (.t 30)) <|
 .one ⟨none, .st 3 (.t 40) (.t 39), none⟩ <|
 .nil)) (.seq (.seq (.ops (.o 41 (.mov (.t 4)) <|
 .o 42 (.len (.t 41)) <|
 .o 43 (.bin .gtr (.t 42) (.i 8)) <|
 .nil)) (.cond (.t 43) (.ops (.o 44 (.mov (.t 4)) <|
 .o 45 (.slice 1 (.t 44) none (some (.i 8))) <|
 .o 4 (.mov (.t 45)) <|
 .nil)) (.skip))) (.mark [4, 5, 13, 14, 15] (.seq (.seq (.draw [⟨some 46, .mov (.t 13), none⟩,
 ⟨some 47, .mov (.t 15), none⟩,
 ⟨some 48, .mov (.t 13), none⟩,
 ⟨some 49, .slice 3 (.t 48) none (some (.i 1)), none⟩,
 ⟨some 50, .mov (.t 13), none⟩,
 ⟨some 51, .slice 3 (.t 50) (some (.i 1)) none, none⟩,
 ⟨some 52, .mov (.t 13), none⟩,
 ⟨some 53, .iad 3 (.t 52) (.i 1), none⟩,
 ⟨some 54, .lda 3 (.t 53), none⟩,
 ⟨some 55, .mov (.t 13), none⟩,
 ⟨some 56, .iad 3 (.t 55) (.i 0), none⟩,
 ⟨some 57, .lda 3 (.t 56), none⟩,
 ⟨some 58, .bsl 3 [.i 0, .i 0, .nilsl] 2 [(0, .t 54), (1, .t 57)], none⟩,
 ⟨some 59, .mov (.t 13), none⟩,
 ⟨some 60, .iad 3 (.t 59) (.i 0), none⟩,
 ⟨some 61, .lda 3 (.t 60), none⟩,
 ⟨some 62, .mov (.t 13), none⟩,
 ⟨some 63, .iad 3 (.t 62) (.i 0), none⟩,
 ⟨some 64, .lda 3 (.t 63), none⟩,
 ⟨some 65, .mov (.t 13), none⟩,
 ⟨some 66, .iad 3 (.t 65) (.i 1), none⟩,
 ⟨some 67, .lda 3 (.t 66), none⟩,
 ⟨some 68, .mov (.t 13), none⟩,
 ⟨some 69, .iad 3 (.t 68) (.i 0), none⟩,
 ⟨some 70, .lda 3 (.t 69), none⟩,
 ⟨some 71, .mov (.t 13), none⟩,
 ⟨some 72, .iad 3 (.t 71) (.i 1), none⟩,
 ⟨some 73, .lda 3 (.t 72), none⟩,
 ⟨some 74, .mov (.t 13), none⟩,
 ⟨some 75, .iad 3 (.t 74) (.i 0), none⟩,
 ⟨some 76, .lda 3 (.t 75), none⟩,
 ⟨some 77, .mov (.t 13), none⟩,
 ⟨some 78, .iad 3 (.t 77) (.i 1), none⟩,
 ⟨some 79, .lda 3 (.t 78), none⟩,
 ⟨some 80, .mov (.t 13), none⟩,
 ⟨some 81, .iad 3 (.t 80) (.i 0), none⟩,
 ⟨some 82, .lda 3 (.t 81), none⟩,
 ⟨some 83, .mov (.t 13), none⟩,
 ⟨some 84, .iad 3 (.t 83) (.i 1), none⟩,
 ⟨some 85, .lda 3 (.t 84), none⟩,
 ⟨some 86, .bsl 3 [.i 0, .i 0, .nilsl] 9 [(0, .t 61), (1, .t 64), (2, .t 67), (3, .t 70), (4, .t 73), (5, .t 76), (6, .t 79), (7, .t 82), (8, .t 85)], none⟩,
 ⟨some 87, .bsl 1 [.nilsl] 7 [(0, .t 46), (1, .t 47), (2, .t 49), (3, .t 51), (4, .c (.nilsl)), (5, .t 58), (6, .t 86)], none⟩,
 ⟨some 88, .len (.t 87), none⟩,
 ⟨some 89, .mov (.i 0), none⟩] [(12, 15), (12, 18), (12, 21), (12, 24), (12, 27), (12, 30), (12, 33), (12, 36), (12, 39), (8, 40), (11, 40), (12, 40)]) (.block 0 (.loop [4, 5, 13, 14, 87, 88, 89] (.seq (.ops (.o 90 (.bin .lss (.t 89) (.t 88)) <|
 .nil)) (.seq (.cond (.t 90) (.skip) (.exit 0)) (.mark [4, 5, 13, 14, 87, 88, 89] (.seq (.block 1 (.seq (.ops (.o 91 (.iad 1 (.t 87) (.t 89)) <|
 .o 92 (.ld (.t 91)) <|
 .o 17 (.mov (.t 92)) <|
 .nil)) (.seq (.ops (.o 93 (.mov (.t 14)) <|
 .o 94 (.mov (.t 4)) <|
 .o 95 (.mov (.t 5)) <|
 .o 96 (.call (.c (.fn 19 [])) [.t 95, .i 20]) <|
 .o 97 (.bin .sub (.t 96) (.i 1)) <|
 .bsl 98 1 [.i 0] 2 [(0, .i 3), (1, .t 97)] <|
 .bsl 99 1 [.nilsl] 4 [(0, .t 93), (1, .t 94), (2, .c (.nilsl)), (3, .t 98)] <|
 .o 100 (.len (.t 99)) <|
 .o 101 (.mov (.i 0)) <|
 .nil)) (.block 2 (.loop [4, 5, 13, 14, 17, 87, 88, 89, 99, 100, 101] (.seq (.ops (.o 102 (.bin .lss (.t 101) (.t 100)) <|
 .nil)) (.seq (.cond (.t 102) (.skip) (.exit 2)) (.mark [4, 5, 13, 14, 17, 87, 88, 89, 99, 100, 101] (.seq (.block 3 (.seq (.ops (.o 103 (.iad 1 (.t 99) (.t 101)) <|
 .o 104 (.ld (.t 103)) <|
 .o 19 (.mov (.t 104)) <|
 .nil)) (.seq (.ops (.o 105 (.mov (.t 17)) <|
 .o 106 (.mov (.t 19)) <|
 .o 107 (.call (.c (.fn 23 [])) [.t 105, .t 106]) <|
 .o 108 (.mov (.t 17)) <|
 .o 109 (.mov (.t 19)) <|
 .o 110 (.call (.c (.fn 24 [])) [.t 108, .t 109]) <|
 .o 111 (.eqb true (.t 107) (.t 110)) <|
 .nil)) (.cond (.t 111) (.seq (.ops (.o 12 (.mov (.c (.bool false))) <|
 .nil)) (.ret)) (.skip))))) (.ops (.o 112 (.bin .add (.t 101) (.i 1)) <|
 .o 101 (.mov (.t 112)) <|
 .nil))))))))))) (.ops (.o 113 (.bin .add (.t 89) (.i 1)) <|
 .o 89 (.mov (.t 113)) <|
 .nil))))))))) (.mark [13, 14] (.seq (.ops (.o 114 (.mov (.t 13)) <|
 .o 115 (.mov (.t 14)) <|
 .o 116 (.call (.c (.fn 23 [])) [.t 114, .t 115]) <|
 .o 117 (.mov (.t 116)) <|
 .grp (.one ⟨some 118, .call (.c (.fn 3 [])) [], some (117, true)⟩ <|
 .nil) 119 117 true 118 none <|
 .o 12 (.mov (.t 119)) <|
 .nil)) (.ret)))))))))
def code5 : AFunc := ⟨120, [.tmp 12], d5.strip⟩

/-- fulling/fullinglaw32.VCodeRun -/
def d6 : DCode :=
  .seq (.ops (.o 16 (.mov (.c (.bool false))) <|
 .nil)) (.seq (.ops (.o 27 (.mov (.t 0)) <|
 .o 28 (.mov (.t 1)) <|
 .o 29 (.call (.c (.fn 22 [])) [.t 27, .t 28]) <|
 .o 26 (.mov (.t 29)) <|
 .o 30 (.ext (.t 26) 0) <|
 .o 31 (.ext (.t 26) 1) <|
 .o 17 (.mov (.t 30)) <|
 .o 18 (.mov (.t 31)) <|
 .nil)) (.seq (.ops (.o 32 (.mov (.t 2)) <|
 .o 33 (.call (.c (.fn 19 [])) [.t 32, .i 2]) <|
 .o 2 (.mov (.t 33)) <|
 .nil)) (.seq (.drawq (.o 34 (.mov (.t 3)) <|
 .o 35 (.mov (.t 4)) <|
 .o 36 (.mov (.t 5)) <|
 .o 37 (.call (.c (.fn 25 [])) [.t 34, .t 35, .t 36]) <|
 .o 38 (.mov (.t 17)) <|
 .o 39 (.mov (.t 2)) <|
 .o 40 (.iad 3 (.t 38) (.t 39)) <|
 .o 41 (.fad 0 (.t 40)) <|
 .o 42 (.ld (.t 41)) <|
 .o 43 (.slice 1 (.t 37) none (some (.t 42))) <|
 .o 19 (.mov (.t 43)) <|
 .nil) [(3, 4), (3, 5), (3, 6), (3, 7), (3, 8)]) (.seq (.seq (.ops (.o 44 (.mov (.t 7)) <|
 .o 45 (.call (.c (.fn 19 [])) [.t 44, .i 60]) <|
 .o 46 (.mov (.t 7)) <|
 .o 47 (.mn (.t 46) (.i 300)) <|
 .bsl 48 1 [.i 0] 3 [(0, .i 200), (1, .t 45), (2, .t 47)] <|
 .o 49 (.len (.t 48)) <|
 .o 50 (.mov (.i 0)) <|
 .nil)) (.block 0 (.loop [2, 6, 17, 18, 19, 48, 49, 50] (.seq (.ops (.o 51 (.bin .lss (.t 50) (.t 49)) <|
 .nil)) (.seq (.cond (.t 51) (.skip) (.exit 0)) (.mark [2, 6, 17, 18, 19, 48, 49, 50] (.seq (.block 1 (.seq (.ops (.o 52 (.iad 1 (.t 48) (.t 50)) <|
 .o 53 (.ld (.t 52)) <|
 .o 21 (.mov (.t 53)) <|
 .nil)) (.seq (.ops (.o 55 (.mov (.t 17)) <|
 .o 56 (.mov (.t 18)) <|
 .o 57 (.mov (.t 2)) <|
 .o 58 (.mov (.t 19)) <|
 .o 59 (.mov (.t 6)) <|
 .o 60 (.call (.c (.fn 26 [])) [.t 59]) <|
 .o 61 (.mov (.t 21)) <|
 .o 62 (.call (.c (.fn 13 [])) [.t 55, .t 56, .t 57, .t 58, .t 60, .t 61]) <|
 .o 54 (.mov (.t 62)) <|
 .o 63 (.ext (.t 54) 0) <|
 .o 64 (.ext (.t 54) 1) <|
 .alst 22 [.i 0, .i 0, .nilsl, .i 0] (.t 63) <|
 .o 23 (.mov (.t 64)) <|
 .nil)) (.seq (.ops (.o 66 (.mov (.t 17)) <|
 .o 67 (.mov (.t 18)) <|
 .o 68 (.mov (.t 2)) <|
 .o 69 (.mov (.t 19)) <|
 .o 70 (.mov (.t 6)) <|
 .o 71 (.call (.c (.fn 26 [])) [.t 70]) <|
 .o 72 (.mov (.t 21)) <|
 .o 73 (.call (.c (.fn 27 [])) [.t 66, .t 67, .t 68, .t 69, .t 71, .t 72]) <|
 .o 65 (.mov (.t 73)) <|
 .o 74 (.ext (.t 65) 0) <|
 .o 75 (.ext (.t 65) 1) <|
 .alst 24 [.i 0, .i 0, .nilsl, .i 0] (.t 74) <|
 .o 25 (.mov (.t 75)) <|
 .nil)) (.seq (.ops (.o 76 (.mov (.t 23)) <|
 .o 77 (.mov (.t 25)) <|
 .o 78 (.eqb true (.t 76) (.t 77)) <|
 .o 79 (.mov (.t 78)) <|
 .grp (.one ⟨some 80, .lda 4 (.t 22), some (79, false)⟩ <|
 .one ⟨some 81, .lda 4 (.t 24), some (79, false)⟩ <|
 .one ⟨some 82, .call (.c (.fn 15 [])) [.t 80, .t 81], some (79, false)⟩ <|
 .one ⟨some 83, .un .not (.t 82), some (79, false)⟩ <|
 .nil) 84 79 false 83 none <|
 .nil)) (.cond (.t 84) (.seq (.ops (.o 16 (.mov (.c (.bool false))) <|
 .nil)) (.ret)) (.skip))))))) (.ops (.o 85 (.bin .add (.t 50) (.i 1)) <|
 .o 50 (.mov (.t 85)) <|
 .nil))))))))) (.seq (.ops (.o 86 (.call (.c (.fn 3 [])) []) <|
 .o 16 (.mov (.t 86)) <|
 .nil)) (.ret))))))
def code6 : AFunc := ⟨87, [.tmp 16], d6.strip⟩

/-- fulling/fullinglaw32.VCodeInvalid -/
def d7 : DCode :=
  .seq (.ops (.o 14 (.mov (.c (.bool false))) <|
 .nil)) (.seq (.ops (.o 31 (.mov (.t 0)) <|
 .o 32 (.mov (.t 1)) <|
 .o 33 (.call (.c (.fn 22 [])) [.t 31, .t 32]) <|
 .o 30 (.mov (.t 33)) <|
 .o 34 (.ext (.t 30) 0) <|
 .o 35 (.ext (.t 30) 1) <|
 .o 15 (.mov (.t 34)) <|
 .o 16 (.mov (.t 35)) <|
 .nil)) (.seq (.ops (.o 36 (.mov (.t 15)) <|
 .o 37 (.app 3 (.c (.nilsl)) (.t 36)) <|
 .o 17 (.mov (.t 37)) <|
 .nil)) (.seq (.ops (.o 38 (.mov (.t 17)) <|
 .o 39 (.mov (.t 17)) <|
 .o 40 (.iad 3 (.t 39) (.i 0)) <|
 .o 41 (.lda 3 (.t 40)) <|
 .o 42 (.mov (.t 2)) <|
 .o 43 (.mov (.t 3)) <|
 .o 44 (.call (.c (.fn 20 [])) [.t 41, .t 42, .t 43]) <|
 .o 45 (.iad 3 (.t 38) (.i 0)) <|
 .one ⟨none, .st 3 (.t 45) (.t 44), none⟩ <|
 .nil)) (.seq (.seq (.ops (.o 46 (.mov (.t 15)) <|
 .o 47 (.mov (.t 17)) <|
 .bsl 48 1 [.nilsl] 2 [(0, .t 46), (1, .t 47)] <|
 .o 49 (.len (.t 48)) <|
 .o 50 (.mov (.i 0)) <|
 .nil)) (.block 0 (.loop [4, 5, 6, 16, 48, 49, 50] (.seq (.ops (.o 51 (.bin .lss (.t 50) (.t 49)) <|
 .nil)) (.seq (.cond (.t 51) (.skip) (.exit 0)) (.mark [4, 5, 6, 16, 48, 49, 50] (.seq (.block 1 (.seq (.ops (.o 52 (.iad 1 (.t 48) (.t 50)) <|
 .o 53 (.ld (.t 52)) <|
 .o 19 (.mov (.t 53)) <|
 .nil)) (.seq (.ops (.o 54 (.mov (.t 4)) <|
 .o 55 (.mov (.t 4)) <|
 .o 56 (.call (.c (.fn 19 [])) [.t 55, .i 4]) <|
 .o 57 (.bin .sub (.t 56) (.i 1)) <|
 .bsl 58 1 [.i 0] 2 [(0, .t 54), (1, .t 57)] <|
 .o 59 (.len (.t 58)) <|
 .o 60 (.mov (.i 0)) <|
 .nil)) (.block 2 (.loop [4, 5, 6, 16, 19, 48, 49, 50, 58, 59, 60] (.seq (.ops (.o 61 (.bin .lss (.t 60) (.t 59)) <|
 .nil)) (.seq (.cond (.t 61) (.skip) (.exit 2)) (.mark [4, 5, 6, 16, 19, 48, 49, 50, 58, 59, 60] (.seq (.block 3 (.seq (.ops (.o 62 (.iad 1 (.t 58) (.t 60)) <|
 .o 63 (.ld (.t 62)) <|
 .o 21 (.mov (.t 63)) <|
 .nil)) (.seq (.ops (.o 65 (.mov (.t 19)) <|
 .o 66 (.mov (.t 16)) <|
 .o 67 (.mov (.t 21)) <|
 .o 68 (.mov (.t 5)) <|
 .o 69 (.mov (.t 6)) <|
 .o 70 (.call (.c (.fn 13 [])) [.t 65, .t 66, .t 67, .t 68, .t 69, .i 60]) <|
 .o 64 (.mov (.t 70)) <|
 .o 71 (.ext (.t 64) 0) <|
 .o 72 (.ext (.t 64) 1) <|
 .alst 22 [.i 0, .i 0, .nilsl, .i 0] (.t 71) <|
 .o 23 (.mov (.t 72)) <|
 .nil)) (.seq (.ops (.o 74 (.mov (.t 19)) <|
 .o 75 (.mov (.t 16)) <|
 .o 76 (.mov (.t 21)) <|
 .o 77 (.mov (.t 5)) <|
 .o 78 (.mov (.t 6)) <|
 .o 79 (.call (.c (.fn 27 [])) [.t 74, .t 75, .t 76, .t 77, .t 78, .i 60]) <|
 .o 73 (.mov (.t 79)) <|
 .o 80 (.ext (.t 73) 0) <|
 .o 81 (.ext (.t 73) 1) <|
 .alst 24 [.i 0, .i 0, .nilsl, .i 0] (.t 80) <|
 .o 25 (.mov (.t 81)) <|
 .nil)) (.seq (.ops (.o 83 (.mov (.t 19)) <|
 .o 84 (.mov (.t 16)) <|
 .o 85 (.mov (.t 21)) <|
 .bsl 86 1 [.i 0] 2 [(0, .i 1), (1, .i 2)] <|
 .o 87 (.mov (.t 6)) <|
 .o 88 (.call (.c (.fn 19 [])) [.t 87, .i 1004]) <|
 .o 89 (.bin .sub (.t 88) (.i 2)) <|
 .o 90 (.call (.c (.fn 13 [])) [.t 83, .t 84, .t 85, .t 86, .t 89, .i 60]) <|
 .o 82 (.mov (.t 90)) <|
 .o 91 (.ext (.t 82) 0) <|
 .o 92 (.ext (.t 82) 1) <|
 .alst 26 [.i 0, .i 0, .nilsl, .i 0] (.t 91) <|
 .o 27 (.mov (.t 92)) <|
 .nil)) (.seq (.ops (.o 94 (.mov (.t 19)) <|
 .o 95 (.mov (.t 16)) <|
 .o 96 (.mov (.t 21)) <|
 .bsl 97 1 [.i 0] 2 [(0, .i 1), (1, .i 2)] <|
 .o 98 (.mov (.t 6)) <|
 .o 99 (.call (.c (.fn 19 [])) [.t 98, .i 1004]) <|
 .o 100 (.bin .sub (.t 99) (.i 2)) <|
 .o 101 (.call (.c (.fn 27 [])) [.t 94, .t 95, .t 96, .t 97, .t 100, .i 60]) <|
 .o 93 (.mov (.t 101)) <|
 .o 102 (.ext (.t 93) 0) <|
 .o 103 (.ext (.t 93) 1) <|
 .alst 28 [.i 0, .i 0, .nilsl, .i 0] (.t 102) <|
 .o 29 (.mov (.t 103)) <|
 .nil)) (.seq (.ops (.o 104 (.mov (.t 23)) <|
 .o 105 (.mov (.t 25)) <|
 .o 106 (.eqb true (.t 104) (.t 105)) <|
 .o 107 (.mov (.t 106)) <|
 .grp (.one ⟨some 108, .mov (.t 27), some (107, false)⟩ <|
 .one ⟨some 109, .mov (.t 29), some (107, false)⟩ <|
 .one ⟨some 110, .eqb true (.t 108) (.t 109), some (107, false)⟩ <|
 .nil) 111 107 false 110 none <|
 .o 112 (.mov (.t 111)) <|
 .grp (.one ⟨some 113, .lda 4 (.t 22), some (112, false)⟩ <|
 .one ⟨some 114, .lda 4 (.t 24), some (112, false)⟩ <|
 .one ⟨some 115, .call (.c (.fn 15 [])) [.t 113, .t 114], some (112, false)⟩ <|
 .one ⟨some 116, .un .not (.t 115), some (112, false)⟩ <|
 .nil) 117 112 false 116 none <|
 .o 118 (.mov (.t 117)) <|
 .grp (.one ⟨some 119, .lda 4 (.t 26), some (118, false)⟩ <|
 .one ⟨some 120, .lda 4 (.t 28), some (118, false)⟩ <|
 .one ⟨some 121, .call (.c (.fn 15 [])) [.t 119, .t 120], some (118, false)⟩ <|
 .one ⟨some 122, .un .not (.t 121), some (118, false)⟩ <|
 .nil) 123 118 false 122 none <|
 .nil)) (.cond (.t 123) (.seq (.ops (.o 14 (.mov (.c (.bool false))) <|
 .nil)) (.ret)) (.skip))))))))) (.ops (.o 124 (.bin .add (.t 60) (.i 1)) <|
 .o 60 (.mov (.t 124)) <|
 .nil))))))))))) (.ops (.o 125 (.bin .add (.t 50) (.i 1)) <|
 .o 50 (.mov (.t 125)) <|
 .nil))))))))) (.seq (.ops (.o 126 (.call (.c (.fn 3 [])) []) <|
 .o 14 (.mov (.t 126)) <|
 .nil)) (.ret))))))
def code7 : AFunc := ⟨127, [.tmp 14], d7.strip⟩

/-- fulling/fullinglaw32.VCodeMoreSteps -/
def d8 : DCode :=
  .seq (.ops (.o 18 (.mov (.c (.bool false))) <|
 .nil)) (.seq (.ops (.o 28 (.mov (.t 0)) <|
 .o 29 (.mov (.t 1)) <|
 .o 30 (.call (.c (.fn 22 [])) [.t 28, .t 29]) <|
 .o 27 (.mov (.t 30)) <|
 .o 31 (.ext (.t 27) 0) <|
 .o 32 (.ext (.t 27) 1) <|
 .o 19 (.mov (.t 31)) <|
 .o 20 (.mov (.t 32)) <|
 .nil)) (.seq (.ops (.o 33 (.mov (.t 2)) <|
 .o 34 (.call (.c (.fn 19 [])) [.t 33, .i 2]) <|
 .o 2 (.mov (.t 34)) <|
 .nil)) (.seq (.drawq (.o 35 (.mov (.t 3)) <|
 .o 36 (.mov (.t 4)) <|
 .o 37 (.mov (.t 5)) <|
 .o 38 (.call (.c (.fn 25 [])) [.t 35, .t 36, .t 37]) <|
 .o 39 (.mov (.t 19)) <|
 .o 40 (.mov (.t 2)) <|
 .o 41 (.iad 3 (.t 39) (.t 40)) <|
 .o 42 (.fad 0 (.t 41)) <|
 .o 43 (.ld (.t 42)) <|
 .o 44 (.slice 1 (.t 38) none (some (.t 43))) <|
 .o 21 (.mov (.t 44)) <|
 .nil) [(3, 4), (3, 5), (3, 6), (3, 7), (3, 8)]) (.seq (.ops (.o 45 (.mov (.t 7)) <|
 .o 46 (.call (.c (.fn 19 [])) [.t 45, .i 150]) <|
 .o 22 (.mov (.t 46)) <|
 .nil)) (.seq (.ops (.o 48 (.mov (.t 19)) <|
 .o 49 (.mov (.t 20)) <|
 .o 50 (.mov (.t 2)) <|
 .o 51 (.mov (.t 21)) <|
 .o 52 (.mov (.t 6)) <|
 .o 53 (.call (.c (.fn 26 [])) [.t 52]) <|
 .o 54 (.mov (.t 22)) <|
 .o 55 (.call (.c (.fn 13 [])) [.t 48, .t 49, .t 50, .t 51, .t 53, .t 54]) <|
 .o 47 (.mov (.t 55)) <|
 .o 56 (.ext (.t 47) 0) <|
 .o 57 (.ext (.t 47) 1) <|
 .alst 23 [.i 0, .i 0, .nilsl, .i 0] (.t 56) <|
 .o 24 (.mov (.t 57)) <|
 .nil)) (.seq (.ops (.o 59 (.mov (.t 19)) <|
 .o 60 (.mov (.t 20)) <|
 .o 61 (.mov (.t 2)) <|
 .o 62 (.mov (.t 21)) <|
 .o 63 (.mov (.t 6)) <|
 .o 64 (.call (.c (.fn 26 [])) [.t 63]) <|
 .o 65 (.mov (.t 22)) <|
 .o 66 (.mov (.t 8)) <|
 .o 67 (.call (.c (.fn 19 [])) [.t 66, .i 100]) <|
 .o 68 (.bin .add (.t 65) (.t 67)) <|
 .o 69 (.call (.c (.fn 13 [])) [.t 59, .t 60, .t 61, .t 62, .t 64, .t 68]) <|
 .o 58 (.mov (.t 69)) <|
 .o 70 (.ext (.t 58) 0) <|
 .o 71 (.ext (.t 58) 1) <|
 .alst 25 [.i 0, .i 0, .nilsl, .i 0] (.t 70) <|
 .o 26 (.mov (.t 71)) <|
 .nil)) (.seq (.ops (.o 72 (.mov (.t 24)) <|
 .o 73 (.un .not (.t 72)) <|
 .o 74 (.mov (.t 73)) <|
 .grp (.one ⟨some 75, .mov (.t 26), some (74, false)⟩ <|
 .one ⟨some 76, .mov (.t 75), some (74, false)⟩ <|
 .grp (.one ⟨some 77, .lda 4 (.t 23), some (76, true)⟩ <|
 .one ⟨some 78, .lda 4 (.t 25), some (76, true)⟩ <|
 .one ⟨some 79, .call (.c (.fn 15 [])) [.t 77, .t 78], some (76, true)⟩ <|
 .nil) 80 76 true 79 (some (74, false)) <|
 .nil) 81 74 false 80 none <|
 .o 82 (.mov (.t 81)) <|
 .grp (.one ⟨some 83, .call (.c (.fn 3 [])) [], some (82, true)⟩ <|
 .nil) 84 82 true 83 none <|
 .o 18 (.mov (.t 84)) <|
 .nil)) (.ret))))))))
def code8 : AFunc := ⟨85, [.tmp 18], d8.strip⟩

/-- fulling/fullinglaw32.VCodeUnusedRegisters -/
def d9 : DCode :=
  .seq (.ops (.o 16 (.mov (.c (.bool false))) <|
 .nil)) (.seq (.ops (.o 27 (.mov (.t 0)) <|
 .o 28 (.mov (.t 1)) <|
 .o 29 (.call (.c (.fn 22 [])) [.t 27, .t 28]) <|
 .o 26 (.mov (.t 29)) <|
 .o 30 (.ext (.t 26) 0) <|
 .o 31 (.ext (.t 26) 1) <|
 .o 17 (.mov (.t 30)) <|
 .o 18 (.mov (.t 31)) <|
 .nil)) (.seq (.ops (.o 32 (.mov (.t 2)) <|
 .o 33 (.call (.c (.fn 19 [])) [.t 32, .i 2]) <|
 .o 2 (.mov (.t 33)) <|
 .nil)) (.seq (.drawq (.o 34 (.mov (.t 3)) <|
 .o 35 (.mov (.t 4)) <|
 .o 36 (.mov (.t 5)) <|
 .o 37 (.call (.c (.fn 25 [])) [.t 34, .t 35, .t 36]) <|
 .o 38 (.mov (.t 17)) <|
 .o 39 (.mov (.t 2)) <|
 .o 40 (.iad 3 (.t 38) (.t 39)) <|
 .o 41 (.fad 0 (.t 40)) <|
 .o 42 (.ld (.t 41)) <|
 .o 43 (.slice 1 (.t 37) none (some (.t 42))) <|
 .o 19 (.mov (.t 43)) <|
 .nil) [(3, 4), (3, 5), (3, 6), (3, 7), (3, 8)]) (.seq (.ops (.o 44 (.mov (.t 17)) <|
 .o 45 (.app 3 (.c (.nilsl)) (.t 44)) <|
 .o 20 (.mov (.t 45)) <|
 .nil)) (.seq (.seq (.ops (.o 21 (.mov (.i 0)) <|
 .nil)) (.block 0 (.loop [2, 6, 7, 17, 18, 19, 20, 21] (.seq (.seq (.ops (.o 46 (.mov (.t 21)) <|
 .o 47 (.bin .lss (.t 46) (.i 2)) <|
 .nil)) (.cond (.t 47) (.skip) (.exit 0))) (.mark [2, 6, 7, 17, 18, 19, 20, 21] (.seq (.block 1 (.seq (.drawq (.o 50 (.mov (.t 20)) <|
 .o 51 (.mov (.t 21)) <|
 .o 52 (.iad 3 (.t 50) (.t 51)) <|
 .o 53 (.fad 1 (.t 52)) <|
 .o 54 (.ld (.t 53)) <|
 .o 55 (.mov (.t 7)) <|
 .o 56 (.call (.c (.fn 19 [])) [.t 55, .i 9]) <|
 .o 57 (.bin .add (.i 1) (.t 56)) <|
 .o 58 (.bin .add (.t 54) (.t 57)) <|
 .o 59 (.iad 3 (.t 50) (.t 51)) <|
 .o 60 (.fad 1 (.t 59)) <|
 .one ⟨none, .st 1 (.t 60) (.t 58), none⟩ <|
 .nil) [(0, 6), (1, 6), (2, 6), (3, 6), (4, 6)]) (.ops (.o 61 (.mov (.t 20)) <|
 .o 62 (.mov (.t 21)) <|
 .o 63 (.mov (.t 20)) <|
 .o 64 (.mov (.t 21)) <|
 .o 65 (.iad 3 (.t 63) (.t 64)) <|
 .o 66 (.fad 2 (.t 65)) <|
 .o 67 (.ld (.t 66)) <|
 .o 68 (.app 5 (.c (.nilsl)) (.t 67)) <|
 .o 69 (.build [.nilsl, .i 0, .i 0, .i 0, .i 0] [(1, 1, .i 4), (3, 1, .i 77)]) <|
 .bsl 70 5 [.nilsl, .i 0, .i 0, .i 0, .i 0] 1 [(0, .t 69)] <|
 .o 71 (.app 5 (.t 68) (.t 70)) <|
 .o 72 (.iad 3 (.t 61) (.t 62)) <|
 .o 73 (.fad 2 (.t 72)) <|
 .one ⟨none, .st 1 (.t 73) (.t 71), none⟩ <|
 .nil)))) (.ops (.o 48 (.mov (.t 21)) <|
 .o 49 (.bin .add (.t 48) (.i 1)) <|
 .o 21 (.mov (.t 49)) <|
 .nil)))))))) (.mark [2, 6, 17, 18, 19, 20] (.seq (.ops (.o 75 (.mov (.t 17)) <|
 .o 76 (.mov (.t 18)) <|
 .o 77 (.mov (.t 2)) <|
 .o 78 (.mov (.t 19)) <|
 .o 79 (.mov (.t 6)) <|
 .o 80 (.call (.c (.fn 26 [])) [.t 79]) <|
 .o 81 (.call (.c (.fn 13 [])) [.t 75, .t 76, .t 77, .t 78, .t 80, .i 200]) <|
 .o 74 (.mov (.t 81)) <|
 .o 82 (.ext (.t 74) 0) <|
 .o 83 (.ext (.t 74) 1) <|
 .alst 22 [.i 0, .i 0, .nilsl, .i 0] (.t 82) <|
 .o 23 (.mov (.t 83)) <|
 .nil)) (.seq (.ops (.o 85 (.mov (.t 20)) <|
 .o 86 (.mov (.t 18)) <|
 .o 87 (.mov (.t 2)) <|
 .o 88 (.mov (.t 19)) <|
 .o 89 (.mov (.t 6)) <|
 .o 90 (.call (.c (.fn 26 [])) [.t 89]) <|
 .o 91 (.call (.c (.fn 13 [])) [.t 85, .t 86, .t 87, .t 88, .t 90, .i 200]) <|
 .o 84 (.mov (.t 91)) <|
 .o 92 (.ext (.t 84) 0) <|
 .o 93 (.ext (.t 84) 1) <|
 .alst 24 [.i 0, .i 0, .nilsl, .i 0] (.t 92) <|
 .o 25 (.mov (.t 93)) <|
 .nil)) (.seq (.ops (.o 94 (.mov (.t 23)) <|
 .o 95 (.mov (.t 25)) <|
 .o 96 (.eqb false (.t 94) (.t 95)) <|
 .o 97 (.mov (.t 96)) <|
 .grp (.one ⟨some 98, .lda 4 (.t 22), some (97, true)⟩ <|
 .one ⟨some 99, .lda 4 (.t 24), some (97, true)⟩ <|
 .one ⟨some 100, .call (.c (.fn 15 [])) [.t 98, .t 99], some (97, true)⟩ <|
 .nil) 101 97 true 100 none <|
 .o 102 (.mov (.t 101)) <|
 .grp (.one ⟨some 103, .call (.c (.fn 3 [])) [], some (102, true)⟩ <|
 .nil) 104 102 true 103 none <|
 .o 16 (.mov (.t 104)) <|
 .nil)) (.ret))))))))))
def code9 : AFunc := ⟨105, [.tmp 16], d9.strip⟩

/-- fulling/vcode.Run -/
def d13 : DCode :=
  .seq (.ops (.o 12 (.alloc [.i 0, .i 0, .nilsl, .i 0]) <|
 .o 13 (.mov (.c (.bool false))) <|
 .nil)) (.seq (.seq (.ops (.o 18 (.mov (.t 0)) <|
 .o 19 (.mov (.t 1)) <|
 .o 20 (.call (.c (.fn 23 [])) [.t 18, .t 19]) <|
 .o 21 (.un .not (.t 20)) <|
 .o 22 (.mov (.t 21)) <|
 .grp (.one ⟨some 23, .mov (.t 2), some (22, false)⟩ <|
 .one ⟨some 24, .bin .lss (.t 23) (.i 0), some (22, false)⟩ <|
 .nil) 25 22 false 24 none <|
 .o 26 (.mov (.t 25)) <|
 .grp (.one ⟨some 27, .mov (.t 2), some (26, false)⟩ <|
 .one ⟨some 28, .mov (.t 0), some (26, false)⟩ <|
 .one ⟨some 29, .len (.t 28), some (26, false)⟩ <|
 .one ⟨some 30, .bin .geq (.t 27) (.t 29), some (26, false)⟩ <|
 .nil) 31 26 false 30 none <|
 .o 32 (.mov (.t 31)) <|
 .grp (.one ⟨some 33, .mov (.t 3), some (32, false)⟩ <|
 .one ⟨some 34, .len (.t 33), some (32, false)⟩ <|
 .one ⟨some 35, .mov (.t 0), some (32, false)⟩ <|
 .one ⟨some 36, .mov (.t 2), some (32, false)⟩ <|
 .one ⟨some 37, .iad 3 (.t 35) (.t 36), some (32, false)⟩ <|
 .one ⟨some 38, .fad 0 (.t 37), some (32, false)⟩ <|
 .one ⟨some 39, .ld (.t 38), some (32, false)⟩ <|
 .one ⟨some 40, .bin .neq (.t 34) (.t 39), some (32, false)⟩ <|
 .nil) 41 32 false 40 none <|
 .o 42 (.mov (.t 41)) <|
 .grp (.one ⟨some 43, .mov (.t 4), some (42, false)⟩ <|
 .one ⟨some 44, .bin .lss (.t 43) (.i 0), some (42, false)⟩ <|
 .nil) 45 42 false 44 none <|
 .o 46 (.mov (.t 45)) <|
 .grp (.one ⟨some 47, .mov (.t 4), some (46, false)⟩ <|
 .one ⟨some 48, .bin .gtr (.t 47) (.i 1000), some (46, false)⟩ <|
 .nil) 49 46 false 48 none <|
 .nil)) (.cond (.t 49) (.seq (.ops (.o 50 (.build [.i 0, .i 0, .nilsl, .i 0] []) <|
 .one ⟨none, .st 4 (.t 12) (.t 50), none⟩ <|
 .o 13 (.mov (.c (.bool false))) <|
 .nil)) (.ret)) (.skip))) (.mark [0, 1, 2, 3, 4, 5, 12] (.seq (.ops (.o 51 (.mov (.t 0)) <|
 .o 52 (.mov (.t 4)) <|
 .o 53 (.mov (.t 0)) <|
 .o 54 (.mov (.t 2)) <|
 .o 55 (.iad 3 (.t 53) (.t 54)) <|
 .o 56 (.lda 3 (.t 55)) <|
 .o 57 (.mov (.t 3)) <|
 .o 58 (.build [.i 0, .i 0, .nilsl, .nilsl, .nilsl, .i 0, .i 0, .i 0] [(0, 3, .t 56), (4, 1, .t 57)]) <|
 .o 59 (.box (.t 58)) <|
 .o 60 (.bsl 1 [.nilp] 1 [(0, .t 59)]) <|
 .o 61 (.build [.nilsl, .nilsl, .nilsl, .i 0, .bool false, .i 0, .i 0, .nilsl, .i 0] [(0, 1, .t 51), (3, 1, .t 52), (2, 1, .t 60)]) <|
 .o 62 (.box (.t 61)) <|
 .o 14 (.mov (.t 62)) <|
 .nil)) (.seq (.seq (.ops (.o 63 (.mov (.t 1)) <|
 .o 64 (.len (.t 63)) <|
 .o 65 (.mov (.i 0)) <|
 .nil)) (.block 0 (.loop [5, 12, 14, 63, 64, 65] (.seq (.ops (.o 66 (.bin .lss (.t 65) (.t 64)) <|
 .nil)) (.seq (.cond (.t 66) (.skip) (.exit 0)) (.mark [5, 12, 14, 63, 64, 65] (.seq (.block 1 (.seq (.ops (.o 67 (.iad 1 (.t 63) (.t 65)) <|
 .o 68 (.ld (.t 67)) <|
 .o 16 (.mov (.t 68)) <|
 .nil)) (.drawq (.o 69 (.mov (.t 14)) <|
 .o 70 (.mov (.t 14)) <|
 .o 71 (.nilck (.t 70)) <|
 .o 72 (.fad 1 (.t 71)) <|
 .o 73 (.ld (.t 72)) <|
 .o 74 (.mov (.t 16)) <|
 .o 75 (.mksl 1 8 [.i 0] (.t 74) (.t 74)) <|
 .o 76 (.bsl 1 [.nilsl] 1 [(0, .t 75)]) <|
 .o 77 (.app 1 (.t 73) (.t 76)) <|
 .o 78 (.nilck (.t 69)) <|
 .o 79 (.fad 1 (.t 78)) <|
 .one ⟨none, .st 1 (.t 79) (.t 77), none⟩ <|
 .nil) [(4, 6), (4, 7)]))) (.ops (.o 80 (.bin .add (.t 65) (.i 1)) <|
 .o 65 (.mov (.t 80)) <|
 .nil))))))))) (.mark [5, 12, 14] (.seq (.seq (.ops (.o 17 (.mov (.i 0)) <|
 .nil)) (.block 2 (.loop [5, 12, 14, 17] (.seq (.seq (.ops (.o 81 (.mov (.t 17)) <|
 .o 82 (.mov (.t 5)) <|
 .o 83 (.bin .lss (.t 81) (.t 82)) <|
 .o 84 (.mov (.t 83)) <|
 .grp (.one ⟨some 85, .mov (.t 14), some (84, true)⟩ <|
 .one ⟨some 86, .nilck (.t 85), some (84, true)⟩ <|
 .one ⟨some 87, .fad 4 (.t 86), some (84, true)⟩ <|
 .one ⟨some 88, .ld (.t 87), some (84, true)⟩ <|
 .one ⟨some 89, .un .not (.t 88), some (84, true)⟩ <|
 .nil) 90 84 true 89 none <|
 .nil)) (.cond (.t 90) (.skip) (.exit 2))) (.seq (.block 3 (.ops (.o 93 (.mov (.t 14)) <|
 .o 94 (.call (.c (.fn 42 [])) [.t 93]) <|
 .nil))) (.ops (.o 91 (.mov (.t 17)) <|
 .o 92 (.bin .add (.t 91) (.i 1)) <|
 .o 17 (.mov (.t 92)) <|
 .nil))))))) (.mark [12, 14] (.seq (.seq (.ops (.o 95 (.mov (.t 14)) <|
 .o 96 (.nilck (.t 95)) <|
 .o 97 (.fad 4 (.t 96)) <|
 .o 98 (.ld (.t 97)) <|
 .o 99 (.un .not (.t 98)) <|
 .nil)) (.cond (.t 99) (.seq (.ops (.o 100 (.build [.i 0, .i 0, .nilsl, .i 0] []) <|
 .one ⟨none, .st 4 (.t 12) (.t 100), none⟩ <|
 .o 13 (.mov (.c (.bool false))) <|
 .nil)) (.ret)) (.skip))) (.mark [12, 14] (.seq (.ops (.o 101 (.mov (.t 14)) <|
 .o 102 (.nilck (.t 101)) <|
 .o 103 (.fad 5 (.t 102)) <|
 .o 104 (.lda 4 (.t 103)) <|
 .one ⟨none, .st 4 (.t 12) (.t 104), none⟩ <|
 .o 13 (.mov (.c (.bool true))) <|
 .nil)) (.ret)))))))))))
def code13 : AFunc := ⟨105, [.lda 4 12, .tmp 13], d13.strip⟩

/-- fulling/vcode.Valid -/
def d14 : DCode :=
  .seq (.ops (.box 1 (.t 0) <|
 .o 2 (.mov (.c (.bool false))) <|
 .nil)) (.seq (.seq (.ops (.o 10 (.fad 0 (.t 1)) <|
 .o 11 (.ld (.t 10)) <|
 .o 12 (.bin .lss (.t 11) (.i 0)) <|
 .o 13 (.mov (.t 12)) <|
 .grp (.one ⟨some 14, .fad 0 (.t 1), some (13, false)⟩ <|
 .one ⟨some 15, .ld (.t 14), some (13, false)⟩ <|
 .one ⟨some 16, .bin .gtr (.t 15) (.i 6), some (13, false)⟩ <|
 .nil) 17 13 false 16 none <|
 .o 18 (.mov (.t 17)) <|
 .grp (.one ⟨some 19, .fad 1 (.t 1), some (18, false)⟩ <|
 .one ⟨some 20, .ld (.t 19), some (18, false)⟩ <|
 .one ⟨some 21, .bin .lss (.t 20) (.i 0), some (18, false)⟩ <|
 .nil) 22 18 false 21 none <|
 .o 23 (.mov (.t 22)) <|
 .grp (.one ⟨some 24, .fad 1 (.t 1), some (23, false)⟩ <|
 .one ⟨some 25, .ld (.t 24), some (23, false)⟩ <|
 .one ⟨some 26, .bin .gtr (.t 25) (.i 3000), some (23, false)⟩ <|
 .nil) 27 23 false 26 none <|
 .o 28 (.mov (.t 27)) <|
 .grp (.one ⟨some 29, .fad 2 (.t 1), some (28, false)⟩ <|
 .one ⟨some 30, .ld (.t 29), some (28, false)⟩ <|
 .one ⟨some 31, .len (.t 30), some (28, false)⟩ <|
 .one ⟨some 32, .bin .lss (.t 31) (.i 1), some (28, false)⟩ <|
 .nil) 33 28 false 32 none <|
 .o 34 (.mov (.t 33)) <|
 .grp (.one ⟨some 35, .fad 2 (.t 1), some (34, false)⟩ <|
 .one ⟨some 36, .ld (.t 35), some (34, false)⟩ <|
 .one ⟨some 37, .len (.t 36), some (34, false)⟩ <|
 .one ⟨some 38, .bin .gtr (.t 37) (.i 1000), some (34, false)⟩ <|
 .nil) 39 34 false 38 none <|
 .nil)) (.cond (.t 39) (.seq (.ops (.o 2 (.mov (.c (.bool false))) <|
 .nil)) (.ret)) (.skip))) (.mark [1] (.seq (.ops (.o 40 (.mkfn 43 [.t 1]) <|
 .o 3 (.mov (.t 40)) <|
 .nil)) (.seq (.ops (.o 41 (.mkfn 44 [.t 1]) <|
 .o 4 (.mov (.t 41)) <|
 .nil)) (.seq (.seq (.ops (.o 42 (.fad 2 (.t 1)) <|
 .o 43 (.ld (.t 42)) <|
 .o 44 (.len (.t 43)) <|
 .o 45 (.mov (.i 0)) <|
 .nil)) (.block 0 (.loop [1, 3, 4, 43, 44, 45] (.seq (.ops (.o 46 (.bin .lss (.t 45) (.t 44)) <|
 .nil)) (.seq (.cond (.t 46) (.skip) (.exit 0)) (.mark [1, 3, 4, 43, 44, 45] (.seq (.block 1 (.seq (.ops (.o 47 (.iad 5 (.t 43) (.t 45)) <|
 .o 48 (.lda 5 (.t 47)) <|
 .alst 6 [.nilsl, .i 0, .i 0, .i 0, .i 0] (.t 48) <|
 .nil)) (.seq (.seq (.ops (.o 49 (.fad 0 (.t 6)) <|
 .o 50 (.ld (.t 49)) <|
 .o 51 (.len (.t 50)) <|
 .o 52 (.mov (.i 0)) <|
 .nil)) (.block 2 (.loop [1, 3, 4, 6, 43, 44, 45, 50, 51, 52] (.seq (.ops (.o 53 (.bin .lss (.t 52) (.t 51)) <|
 .nil)) (.seq (.cond (.t 53) (.skip) (.exit 2)) (.mark [1, 3, 4, 6, 43, 44, 45, 50, 51, 52] (.seq (.block 3 (.seq (.ops (.o 54 (.iad 6 (.t 50) (.t 52)) <|
 .o 55 (.lda 6 (.t 54)) <|
 .alst 8 [.i 0, .i 0, .i 0, .i 0, .i 0, .nilsl] (.t 55) <|
 .nil)) (.seq (.ops (.o 56 (.lda 3 (.t 1)) <|
 .o 57 (.lda 6 (.t 8)) <|
 .o 58 (.call (.c (.fn 45 [])) [.t 56, .t 57]) <|
 .o 59 (.un .not (.t 58)) <|
 .nil)) (.cond (.t 59) (.seq (.ops (.o 2 (.mov (.c (.bool false))) <|
 .nil)) (.ret)) (.skip))))) (.ops (.o 60 (.bin .add (.t 52) (.i 1)) <|
 .o 52 (.mov (.t 60)) <|
 .nil))))))))) (.mark [1, 3, 4, 6, 43, 44, 45] (.seq (.ops (.o 9 (.mov (.c (.bool false))) <|
 .nil)) (.seq (.seq (.ops (.o 61 (.fad 1 (.t 6)) <|
 .o 62 (.ld (.t 61)) <|
 .nil)) (.block 4 (.seq (.ops (.o 64 (.bin .eql (.t 62) (.i 1)) <|
 .o 63 (.mov (.t 64)) <|
 .nil)) (.cond (.t 63) (.ops (.o 65 (.mov (.t 3)) <|
 .o 66 (.fad 3 (.t 6)) <|
 .o 67 (.ld (.t 66)) <|
 .o 68 (.call (.t 65) [.t 67]) <|
 .o 69 (.mov (.t 68)) <|
 .grp (.one ⟨some 70, .fad 2 (.t 6), some (69, true)⟩ <|
 .one ⟨some 71, .ld (.t 70), some (69, true)⟩ <|
 .one ⟨some 72, .bin .eql (.t 71) (.i 0), some (69, true)⟩ <|
 .nil) 73 69 true 72 none <|
 .o 74 (.mov (.t 73)) <|
 .grp (.one ⟨some 75, .fad 4 (.t 6), some (74, true)⟩ <|
 .one ⟨some 76, .ld (.t 75), some (74, true)⟩ <|
 .one ⟨some 77, .bin .eql (.t 76) (.i 0), some (74, true)⟩ <|
 .nil) 78 74 true 77 none <|
 .o 9 (.mov (.t 78)) <|
 .nil)) (.seq (.ops (.o 80 (.bin .eql (.t 62) (.i 2)) <|
 .o 79 (.mov (.t 80)) <|
 .nil)) (.cond (.t 79) (.ops (.o 81 (.mov (.t 3)) <|
 .o 82 (.fad 3 (.t 6)) <|
 .o 83 (.ld (.t 82)) <|
 .o 84 (.call (.t 81) [.t 83]) <|
 .o 85 (.mov (.t 84)) <|
 .grp (.one ⟨some 86, .mov (.t 3), some (85, true)⟩ <|
 .one ⟨some 87, .fad 4 (.t 6), some (85, true)⟩ <|
 .one ⟨some 88, .ld (.t 87), some (85, true)⟩ <|
 .one ⟨some 89, .call (.t 86) [.t 88], some (85, true)⟩ <|
 .nil) 90 85 true 89 none <|
 .o 91 (.mov (.t 90)) <|
 .grp (.one ⟨some 92, .mov (.t 4), some (91, true)⟩ <|
 .one ⟨some 93, .fad 2 (.t 6), some (91, true)⟩ <|
 .one ⟨some 94, .ld (.t 93), some (91, true)⟩ <|
 .one ⟨some 95, .call (.t 92) [.t 94], some (91, true)⟩ <|
 .nil) 96 91 true 95 none <|
 .o 9 (.mov (.t 96)) <|
 .nil)) (.seq (.ops (.o 98 (.bin .eql (.t 62) (.i 3)) <|
 .o 97 (.mov (.t 98)) <|
 .nil)) (.cond (.t 97) (.ops (.o 99 (.mov (.t 4)) <|
 .o 100 (.fad 2 (.t 6)) <|
 .o 101 (.ld (.t 100)) <|
 .o 102 (.call (.t 99) [.t 101]) <|
 .o 103 (.mov (.t 102)) <|
 .grp (.one ⟨some 104, .fad 3 (.t 6), some (103, true)⟩ <|
 .one ⟨some 105, .ld (.t 104), some (103, true)⟩ <|
 .one ⟨some 106, .bin .eql (.t 105) (.i 0), some (103, true)⟩ <|
 .nil) 107 103 true 106 none <|
 .o 108 (.mov (.t 107)) <|
 .grp (.one ⟨some 109, .fad 4 (.t 6), some (108, true)⟩ <|
 .one ⟨some 110, .ld (.t 109), some (108, true)⟩ <|
 .one ⟨some 111, .bin .eql (.t 110) (.i 0), some (108, true)⟩ <|
 .nil) 112 108 true 111 none <|
 .o 9 (.mov (.t 112)) <|
 .nil)) (.seq (.ops (.o 114 (.bin .eql (.t 62) (.i 4)) <|
 .o 113 (.mov (.t 114)) <|
 .nil)) (.cond (.t 113) (.ops (.o 115 (.fad 3 (.t 6)) <|
 .o 116 (.ld (.t 115)) <|
 .o 117 (.bin .geq (.t 116) (.i 1)) <|
 .o 118 (.mov (.t 117)) <|
 .grp (.one ⟨some 119, .fad 3 (.t 6), some (118, true)⟩ <|
 .one ⟨some 120, .ld (.t 119), some (118, true)⟩ <|
 .one ⟨some 121, .bin .lss (.t 120) (.i 33554432), some (118, true)⟩ <|
 .nil) 122 118 true 121 none <|
 .o 123 (.mov (.t 122)) <|
 .grp (.one ⟨some 124, .fad 2 (.t 6), some (123, true)⟩ <|
 .one ⟨some 125, .ld (.t 124), some (123, true)⟩ <|
 .one ⟨some 126, .bin .eql (.t 125) (.i 0), some (123, true)⟩ <|
 .nil) 127 123 true 126 none <|
 .o 128 (.mov (.t 127)) <|
 .grp (.one ⟨some 129, .fad 4 (.t 6), some (128, true)⟩ <|
 .one ⟨some 130, .ld (.t 129), some (128, true)⟩ <|
 .one ⟨some 131, .bin .eql (.t 130) (.i 0), some (128, true)⟩ <|
 .nil) 132 128 true 131 none <|
 .o 9 (.mov (.t 132)) <|
 .nil)) (.skip))))))))))) (.seq (.ops (.o 133 (.mov (.t 9)) <|
 .o 134 (.un .not (.t 133)) <|
 .nil)) (.cond (.t 134) (.seq (.ops (.o 2 (.mov (.c (.bool false))) <|
 .nil)) (.ret)) (.skip))))))))) (.ops (.o 135 (.bin .add (.t 45) (.i 1)) <|
 .o 45 (.mov (.t 135)) <|
 .nil))))))))) (.seq (.ops (.o 2 (.mov (.c (.bool true))) <|
 .nil)) (.ret)))))))
def code14 : AFunc := ⟨136, [.tmp 2], d14.strip⟩

/-- fulling/fullingref29.SameOutcome -/
def d15 : DCode :=
  .seq (.ops (.box 2 (.t 0) <|
 .box 3 (.t 1) <|
 .o 4 (.mov (.c (.bool false))) <|
 .nil)) (.seq (.seq (.ops (.o 6 (.fad 0 (.t 2)) <|
 .o 7 (.ld (.t 6)) <|
 .o 8 (.fad 0 (.t 3)) <|
 .o 9 (.ld (.t 8)) <|
 .o 10 (.bin .neq (.t 7) (.t 9)) <|
 .o 11 (.mov (.t 10)) <|
 .grp (.one ⟨some 12, .fad 1 (.t 2), some (11, false)⟩ <|
 .one ⟨some 13, .ld (.t 12), some (11, false)⟩ <|
 .one ⟨some 14, .fad 1 (.t 3), some (11, false)⟩ <|
 .one ⟨some 15, .ld (.t 14), some (11, false)⟩ <|
 .one ⟨some 16, .bin .neq (.t 13) (.t 15), some (11, false)⟩ <|
 .nil) 17 11 false 16 none <|
 .o 18 (.mov (.t 17)) <|
 .grp (.one ⟨some 19, .fad 3 (.t 2), some (18, false)⟩ <|
 .one ⟨some 20, .ld (.t 19), some (18, false)⟩ <|
 .one ⟨some 21, .fad 3 (.t 3), some (18, false)⟩ <|
 .one ⟨some 22, .ld (.t 21), some (18, false)⟩ <|
 .one ⟨some 23, .bin .neq (.t 20) (.t 22), some (18, false)⟩ <|
 .nil) 24 18 false 23 none <|
 .o 25 (.mov (.t 24)) <|
 .grp (.one ⟨some 26, .fad 2 (.t 2), some (25, false)⟩ <|
 .one ⟨some 27, .ld (.t 26), some (25, false)⟩ <|
 .one ⟨some 28, .len (.t 27), some (25, false)⟩ <|
 .one ⟨some 29, .fad 2 (.t 3), some (25, false)⟩ <|
 .one ⟨some 30, .ld (.t 29), some (25, false)⟩ <|
 .one ⟨some 31, .len (.t 30), some (25, false)⟩ <|
 .one ⟨some 32, .bin .neq (.t 28) (.t 31), some (25, false)⟩ <|
 .nil) 33 25 false 32 none <|
 .nil)) (.cond (.t 33) (.seq (.ops (.o 4 (.mov (.c (.bool false))) <|
 .nil)) (.ret)) (.skip))) (.mark [2, 3] (.seq (.seq (.ops (.o 5 (.mov (.i 0)) <|
 .nil)) (.block 0 (.loop [2, 3, 5] (.seq (.seq (.ops (.o 34 (.mov (.t 5)) <|
 .o 35 (.fad 2 (.t 2)) <|
 .o 36 (.ld (.t 35)) <|
 .o 37 (.len (.t 36)) <|
 .o 38 (.bin .lss (.t 34) (.t 37)) <|
 .nil)) (.cond (.t 38) (.skip) (.exit 0))) (.mark [2, 3, 5] (.seq (.block 1 (.seq (.drawq (.o 41 (.fad 2 (.t 2)) <|
 .o 42 (.ld (.t 41)) <|
 .o 43 (.mov (.t 5)) <|
 .o 44 (.iad 1 (.t 42) (.t 43)) <|
 .o 45 (.ld (.t 44)) <|
 .o 46 (.fad 2 (.t 3)) <|
 .o 47 (.ld (.t 46)) <|
 .o 48 (.mov (.t 5)) <|
 .o 49 (.iad 1 (.t 47) (.t 48)) <|
 .o 50 (.ld (.t 49)) <|
 .o 51 (.bin .neq (.t 45) (.t 50)) <|
 .nil) []) (.cond (.t 51) (.seq (.ops (.o 4 (.mov (.c (.bool false))) <|
 .nil)) (.ret)) (.skip)))) (.ops (.o 39 (.mov (.t 5)) <|
 .o 40 (.bin .add (.t 39) (.i 1)) <|
 .o 5 (.mov (.t 40)) <|
 .nil)))))))) (.seq (.ops (.o 4 (.mov (.c (.bool true))) <|
 .nil)) (.ret)))))
def code15 : AFunc := ⟨52, [.tmp 4], d15.strip⟩

/-- fulling/fullingref22.SameInts -/
def d16 : DCode :=
  .seq (.ops (.o 4 (.mov (.c (.bool false))) <|
 .nil)) (.seq (.seq (.ops (.o 6 (.mov (.t 0)) <|
 .o 7 (.len (.t 6)) <|
 .o 8 (.mov (.t 1)) <|
 .o 9 (.len (.t 8)) <|
 .o 10 (.bin .neq (.t 7) (.t 9)) <|
 .nil)) (.cond (.t 10) (.seq (.ops (.o 4 (.mov (.c (.bool false))) <|
 .nil)) (.ret)) (.skip))) (.mark [0, 1] (.seq (.seq (.ops (.o 5 (.mov (.i 0)) <|
 .nil)) (.block 0 (.loop [0, 1, 5] (.seq (.seq (.ops (.o 11 (.mov (.t 5)) <|
 .o 12 (.mov (.t 0)) <|
 .o 13 (.len (.t 12)) <|
 .o 14 (.bin .lss (.t 11) (.t 13)) <|
 .nil)) (.cond (.t 14) (.skip) (.exit 0))) (.mark [0, 1, 5] (.seq (.block 1 (.seq (.drawq (.o 17 (.mov (.t 0)) <|
 .o 18 (.mov (.t 5)) <|
 .o 19 (.iad 1 (.t 17) (.t 18)) <|
 .o 20 (.ld (.t 19)) <|
 .o 21 (.mov (.t 1)) <|
 .o 22 (.mov (.t 5)) <|
 .o 23 (.iad 1 (.t 21) (.t 22)) <|
 .o 24 (.ld (.t 23)) <|
 .o 25 (.bin .neq (.t 20) (.t 24)) <|
 .nil) []) (.cond (.t 25) (.seq (.ops (.o 4 (.mov (.c (.bool false))) <|
 .nil)) (.ret)) (.skip)))) (.ops (.o 15 (.mov (.t 5)) <|
 .o 16 (.bin .add (.t 15) (.i 1)) <|
 .o 5 (.mov (.t 16)) <|
 .nil)))))))) (.seq (.ops (.o 4 (.mov (.c (.bool true))) <|
 .nil)) (.ret)))))
def code16 : AFunc := ⟨26, [.tmp 4], d16.strip⟩

/-- fulling/vcode.Successors -/
def d17 : DCode :=
  .seq (.ops (.box 1 (.t 0) <|
 .o 2 (.mov (.c (.nilsl))) <|
 .nil)) (.seq (.seq (.ops (.o 3 (.fad 1 (.t 1)) <|
 .o 4 (.ld (.t 3)) <|
 .nil)) (.block 0 (.seq (.ops (.o 6 (.bin .eql (.t 4) (.i 1)) <|
 .o 5 (.mov (.t 6)) <|
 .nil)) (.cond (.t 5) (.seq (.ops (.o 7 (.fad 3 (.t 1)) <|
 .o 8 (.ld (.t 7)) <|
 .bsl 9 1 [.i 0] 1 [(0, .t 8)] <|
 .o 2 (.mov (.t 9)) <|
 .nil)) (.ret)) (.seq (.ops (.o 11 (.bin .eql (.t 4) (.i 2)) <|
 .o 10 (.mov (.t 11)) <|
 .nil)) (.cond (.t 10) (.seq (.ops (.o 12 (.fad 3 (.t 1)) <|
 .o 13 (.ld (.t 12)) <|
 .o 14 (.fad 4 (.t 1)) <|
 .o 15 (.ld (.t 14)) <|
 .bsl 16 1 [.i 0] 2 [(0, .t 13), (1, .t 15)] <|
 .o 17 (.call (.c (.fn 46 [])) [.t 16]) <|
 .o 2 (.mov (.t 17)) <|
 .nil)) (.ret)) (.skip))))))) (.seq (.ops (.o 2 (.mov (.c (.nilsl))) <|
 .nil)) (.ret)))
def code17 : AFunc := ⟨18, [.tmp 2], d17.strip⟩

/-- fulling/fullingkeep2.VFunc -/
def d18 : DCode :=
  .seq (.ops (.o 4 (.alloc [.i 0, .i 0, .nilsl]) <|
 .nil)) (.seq (.ops (.o 16 (.mov (.t 1)) <|
 .o 17 (.build [.i 0, .i 0, .nilsl] [(0, 1, .t 16), (1, 1, .i 9)]) <|
 .o 5 (.alloc [.i 0, .i 0, .nilsl]) <|
 .one ⟨none, .st 3 (.t 5) (.t 17), none⟩ <|
 .nil)) (.seq (.ops (.o 18 (.mov (.t 0)) <|
 .o 19 (.len (.t 18)) <|
 .o 20 (.bin .quo (.t 19) (.i 6)) <|
 .o 21 (.mn (.t 20) (.i 5)) <|
 .o 22 (.bin .add (.i 1) (.t 21)) <|
 .o 6 (.mov (.t 22)) <|
 .nil)) (.seq (.seq (.ops (.o 7 (.mov (.i 0)) <|
 .nil)) (.block 0 (.loop [0, 1, 4, 5, 6, 7] (.seq (.seq (.ops (.o 23 (.mov (.t 7)) <|
 .o 24 (.mov (.t 1)) <|
 .o 25 (.bin .lss (.t 23) (.t 24)) <|
 .nil)) (.cond (.t 25) (.skip) (.exit 0))) (.mark [0, 1, 4, 5, 6, 7] (.seq (.block 1 (.ops (.o 28 (.fad 1 (.t 5)) <|
 .o 29 (.ld (.t 28)) <|
 .o 30 (.bin .add (.t 29) (.i 1)) <|
 .o 31 (.fad 1 (.t 5)) <|
 .one ⟨none, .st 1 (.t 31) (.t 30), none⟩ <|
 .nil))) (.ops (.o 26 (.mov (.t 7)) <|
 .o 27 (.bin .add (.t 26) (.i 1)) <|
 .o 7 (.mov (.t 27)) <|
 .nil)))))))) (.mark [0, 1, 4, 5, 6] (.seq (.ops (.o 8 (.alloc [.nilsl, .i 0, .i 0, .i 0, .i 0]) <|
 .nil)) (.seq (.seq (.ops (.o 9 (.mov (.i 0)) <|
 .nil)) (.block 2 (.loop [0, 1, 4, 5, 6, 8, 9] (.seq (.seq (.ops (.o 32 (.mov (.t 9)) <|
 .o 33 (.fad 1 (.t 5)) <|
 .o 34 (.ld (.t 33)) <|
 .o 35 (.bin .lss (.t 32) (.t 34)) <|
 .nil)) (.cond (.t 35) (.skip) (.exit 2))) (.mark [0, 1, 4, 5, 6, 8, 9] (.seq (.block 3 (.seq (.ops (.o 38 (.mov (.t 9)) <|
 .o 39 (.mov (.t 9)) <|
 .o 40 (.build [.i 0, .i 0, .i 0, .i 0, .i 0] [(0, 1, .i 13), (1, 1, .t 38), (4, 1, .t 39)]) <|
 .o 10 (.alloc [.i 0, .i 0, .i 0, .i 0, .i 0]) <|
 .one ⟨none, .st 5 (.t 10) (.t 40), none⟩ <|
 .nil)) (.seq (.seq (.ops (.o 41 (.mov (.t 9)) <|
 .o 42 (.mov (.t 1)) <|
 .o 43 (.bin .lss (.t 41) (.t 42)) <|
 .nil)) (.cond (.t 43) (.ops (.o 44 (.mov (.t 9)) <|
 .o 45 (.mov (.t 9)) <|
 .o 46 (.build [.i 0, .i 0, .i 0, .i 0, .i 0] [(0, 1, .i 38), (1, 1, .t 44), (4, 1, .t 45)]) <|
 .one ⟨none, .st 5 (.t 10) (.t 46), none⟩ <|
 .nil)) (.skip))) (.mark [0, 1, 4, 5, 6, 8, 9, 10] (.ops (.o 47 (.fad 0 (.t 8)) <|
 .o 48 (.ld (.t 47)) <|
 .o 49 (.lda 5 (.t 10)) <|
 .o 50 (.build [.i 0, .i 0, .i 0, .i 0, .i 0, .nilsl] [(0, 5, .t 49)]) <|
 .bsl 51 6 [.i 0, .i 0, .i 0, .i 0, .i 0, .nilsl] 1 [(0, .t 50)] <|
 .o 52 (.app 6 (.t 48) (.t 51)) <|
 .o 53 (.fad 0 (.t 8)) <|
 .one ⟨none, .st 1 (.t 53) (.t 52), none⟩ <|
 .nil)))))) (.ops (.o 36 (.mov (.t 9)) <|
 .o 37 (.bin .add (.t 36) (.i 1)) <|
 .o 9 (.mov (.t 37)) <|
 .nil)))))))) (.mark [0, 4, 5, 6, 8] (.seq (.ops (.o 54 (.fad 1 (.t 8)) <|
 .one ⟨none, .st 1 (.t 54) (.i 1), none⟩ <|
 .o 55 (.fad 3 (.t 8)) <|
 .one ⟨none, .st 1 (.t 55) (.i 1), none⟩ <|
 .nil)) (.seq (.ops (.o 56 (.fad 2 (.t 5)) <|
 .o 57 (.ld (.t 56)) <|
 .o 58 (.lda 5 (.t 8)) <|
 .bsl 59 5 [.nilsl, .i 0, .i 0, .i 0, .i 0] 1 [(0, .t 58)] <|
 .o 60 (.app 5 (.t 57) (.t 59)) <|
 .o 61 (.fad 2 (.t 5)) <|
 .one ⟨none, .st 1 (.t 61) (.t 60), none⟩ <|
 .nil)) (.seq (.seq (.ops (.o 11 (.mov (.i 0)) <|
 .nil)) (.block 4 (.loop [0, 4, 5, 6, 11] (.seq (.seq (.ops (.o 62 (.mov (.t 11)) <|
 .o 63 (.mov (.t 6)) <|
 .o 64 (.bin .lss (.t 62) (.t 63)) <|
 .nil)) (.cond (.t 64) (.skip) (.exit 4))) (.mark [0, 4, 5, 6, 11] (.seq (.block 5 (.seq (.ops (.o 12 (.alloc [.nilsl, .i 0, .i 0, .i 0, .i 0]) <|
 .nil)) (.seq (.seq (.ops (.o 13 (.mov (.i 0)) <|
 .nil)) (.block 6 (.loop [0, 4, 5, 6, 11, 12, 13] (.seq (.seq (.ops (.o 67 (.mov (.t 13)) <|
 .o 68 (.bin .lss (.t 67) (.i 5)) <|
 .o 69 (.mov (.t 68)) <|
 .grp (.one ⟨some 70, .mov (.t 11), some (69, true)⟩ <|
 .one ⟨some 71, .bin .mul (.i 6) (.t 70), some (69, true)⟩ <|
 .one ⟨some 72, .mov (.t 13), some (69, true)⟩ <|
 .one ⟨some 73, .bin .add (.t 71) (.t 72), some (69, true)⟩ <|
 .one ⟨some 74, .mov (.t 0), some (69, true)⟩ <|
 .one ⟨some 75, .len (.t 74), some (69, true)⟩ <|
 .one ⟨some 76, .bin .lss (.t 73) (.t 75), some (69, true)⟩ <|
 .nil) 77 69 true 76 none <|
 .nil)) (.cond (.t 77) (.skip) (.exit 6))) (.mark [0, 4, 5, 6, 11, 12, 13] (.seq (.block 7 (.drawq (.o 80 (.fad 0 (.t 12)) <|
 .o 81 (.ld (.t 80)) <|
 .o 82 (.mov (.t 0)) <|
 .o 83 (.mov (.t 11)) <|
 .o 84 (.bin .mul (.i 6) (.t 83)) <|
 .o 85 (.mov (.t 13)) <|
 .o 86 (.bin .add (.t 84) (.t 85)) <|
 .o 87 (.iad 1 (.t 82) (.t 86)) <|
 .o 88 (.ld (.t 87)) <|
 .o 89 (.lda 3 (.t 5)) <|
 .o 90 (.call (.c (.fn 28 [])) [.t 88, .t 89]) <|
 .o 91 (.bsl 6 [.i 0, .i 0, .i 0, .i 0, .i 0, .nilsl] 1 [(0, .t 90)]) <|
 .o 92 (.app 6 (.t 81) (.t 91)) <|
 .o 93 (.fad 0 (.t 12)) <|
 .one ⟨none, .st 1 (.t 93) (.t 92), none⟩ <|
 .nil) [(0, 10), (1, 10), (1, 11)])) (.ops (.o 78 (.mov (.t 13)) <|
 .o 79 (.bin .add (.t 78) (.i 1)) <|
 .o 13 (.mov (.t 79)) <|
 .nil)))))))) (.mark [0, 4, 5, 6, 11, 12] (.seq (.ops (.o 14 (.mov (.i 0)) <|
 .nil)) (.seq (.seq (.ops (.o 94 (.mov (.t 11)) <|
 .o 95 (.bin .mul (.i 6) (.t 94)) <|
 .o 96 (.bin .add (.t 95) (.i 5)) <|
 .o 97 (.mov (.t 0)) <|
 .o 98 (.len (.t 97)) <|
 .o 99 (.bin .lss (.t 96) (.t 98)) <|
 .nil)) (.cond (.t 99) (.ops (.o 100 (.mov (.t 0)) <|
 .o 101 (.mov (.t 11)) <|
 .o 102 (.bin .mul (.i 6) (.t 101)) <|
 .o 103 (.bin .add (.t 102) (.i 5)) <|
 .o 104 (.iad 1 (.t 100) (.t 103)) <|
 .o 105 (.ld (.t 104)) <|
 .o 14 (.mov (.t 105)) <|
 .nil)) (.skip))) (.mark [0, 4, 5, 6, 11, 12, 14] (.seq (.ops (.o 106 (.mov (.t 14)) <|
 .o 107 (.build [.i 0] [(0, 1, .t 106)]) <|
 .o 108 (.box (.t 107)) <|
 .o 15 (.mov (.t 108)) <|
 .nil)) (.seq (.seq (.ops (.o 109 (.mov (.t 15)) <|
 .o 110 (.call (.c (.fn 47 [])) [.t 109, .i 6]) <|
 .nil)) (.block 8 (.seq (.ops (.o 128 (.bin .eql (.t 110) (.i 0)) <|
 .o 127 (.mov (.t 128)) <|
 .nil)) (.cond (.t 127) (.ops (.o 129 (.mov (.t 15)) <|
 .o 130 (.mov (.t 6)) <|
 .o 131 (.call (.c (.fn 47 [])) [.t 129, .t 130]) <|
 .o 132 (.bin .add (.i 1) (.t 131)) <|
 .o 133 (.fad 1 (.t 12)) <|
 .one ⟨none, .st 1 (.t 133) (.i 1), none⟩ <|
 .o 134 (.fad 3 (.t 12)) <|
 .one ⟨none, .st 1 (.t 134) (.t 132), none⟩ <|
 .nil)) (.seq (.ops (.o 136 (.bin .eql (.t 110) (.i 1)) <|
 .o 135 (.mov (.t 136)) <|
 .nil)) (.cond (.t 135) (.ops (.o 137 (.mov (.t 15)) <|
 .o 138 (.call (.c (.fn 47 [])) [.t 137, .i 9]) <|
 .o 139 (.bin .add (.i 1) (.t 138)) <|
 .o 140 (.fad 1 (.t 12)) <|
 .one ⟨none, .st 1 (.t 140) (.i 4), none⟩ <|
 .o 141 (.fad 3 (.t 12)) <|
 .one ⟨none, .st 1 (.t 141) (.t 139), none⟩ <|
 .nil)) (.seq (.ops (.o 143 (.bin .eql (.t 110) (.i 2)) <|
 .o 142 (.mov (.t 143)) <|
 .nil)) (.cond (.t 142) (.ops (.o 144 (.mov (.t 15)) <|
 .o 145 (.fad 1 (.t 5)) <|
 .o 146 (.ld (.t 145)) <|
 .o 147 (.call (.c (.fn 47 [])) [.t 144, .t 146]) <|
 .o 148 (.fad 1 (.t 12)) <|
 .one ⟨none, .st 1 (.t 148) (.i 3), none⟩ <|
 .o 149 (.fad 2 (.t 12)) <|
 .one ⟨none, .st 1 (.t 149) (.t 147), none⟩ <|
 .nil)) (.ops (.o 111 (.mov (.t 15)) <|
 .o 112 (.fad 1 (.t 5)) <|
 .o 113 (.ld (.t 112)) <|
 .o 114 (.call (.c (.fn 47 [])) [.t 111, .t 113]) <|
 .o 115 (.mov (.t 15)) <|
 .o 116 (.mov (.t 6)) <|
 .o 117 (.call (.c (.fn 47 [])) [.t 115, .t 116]) <|
 .o 118 (.bin .add (.i 1) (.t 117)) <|
 .o 119 (.mov (.t 15)) <|
 .o 120 (.mov (.t 6)) <|
 .o 121 (.call (.c (.fn 47 [])) [.t 119, .t 120]) <|
 .o 122 (.bin .add (.i 1) (.t 121)) <|
 .o 123 (.fad 1 (.t 12)) <|
 .one ⟨none, .st 1 (.t 123) (.i 2), none⟩ <|
 .o 124 (.fad 2 (.t 12)) <|
 .one ⟨none, .st 1 (.t 124) (.t 114), none⟩ <|
 .o 125 (.fad 3 (.t 12)) <|
 .one ⟨none, .st 1 (.t 125) (.t 118), none⟩ <|
 .o 126 (.fad 4 (.t 12)) <|
 .one ⟨none, .st 1 (.t 126) (.t 122), none⟩ <|
 .nil)))))))))) (.mark [0, 4, 5, 6, 11, 12] (.seq (.seq (.ops (.o 150 (.mov (.t 11)) <|
 .o 151 (.mov (.t 6)) <|
 .o 152 (.bin .sub (.t 151) (.i 1)) <|
 .o 153 (.bin .eql (.t 150) (.t 152)) <|
 .o 154 (.mov (.t 153)) <|
 .grp (.one ⟨some 155, .fad 1 (.t 12), some (154, true)⟩ <|
 .one ⟨some 156, .ld (.t 155), some (154, true)⟩ <|
 .one ⟨some 157, .bin .eql (.t 156) (.i 1), some (154, true)⟩ <|
 .nil) 158 154 true 157 none <|
 .nil)) (.cond (.t 158) (.ops (.o 159 (.fad 1 (.t 12)) <|
 .one ⟨none, .st 1 (.t 159) (.i 3), none⟩ <|
 .o 160 (.fad 3 (.t 12)) <|
 .one ⟨none, .st 1 (.t 160) (.i 0), none⟩ <|
 .o 161 (.fad 2 (.t 12)) <|
 .one ⟨none, .st 1 (.t 161) (.i 0), none⟩ <|
 .nil)) (.skip))) (.mark [0, 4, 5, 6, 11, 12] (.ops (.o 162 (.fad 2 (.t 5)) <|
 .o 163 (.ld (.t 162)) <|
 .o 164 (.lda 5 (.t 12)) <|
 .bsl 165 5 [.nilsl, .i 0, .i 0, .i 0, .i 0] 1 [(0, .t 164)] <|
 .o 166 (.app 5 (.t 163) (.t 165)) <|
 .o 167 (.fad 2 (.t 5)) <|
 .one ⟨none, .st 1 (.t 167) (.t 166), none⟩ <|
 .nil)))))))))))))) (.ops (.o 65 (.mov (.t 11)) <|
 .o 66 (.bin .add (.t 65) (.i 1)) <|
 .o 11 (.mov (.t 66)) <|
 .nil)))))))) (.seq (.ops (.o 168 (.lda 3 (.t 5)) <|
 .one ⟨none, .st 3 (.t 4) (.t 168), none⟩ <|
 .nil)) (.ret))))))))))))
def code18 : AFunc := ⟨169, [.lda 3 4], d18.strip⟩

/-- fulling/fullingkeep.Pick -/
def d19 : DCode :=
  .seq (.ops (.o 4 (.mov (.i 0)) <|
 .nil)) (.seq (.ops (.o 5 (.mov (.t 0)) <|
 .o 6 (.mov (.t 1)) <|
 .o 7 (.bin .rem (.t 5) (.t 6)) <|
 .o 0 (.mov (.t 7)) <|
 .nil)) (.seq (.seq (.ops (.o 8 (.mov (.t 0)) <|
 .o 9 (.bin .lss (.t 8) (.i 0)) <|
 .nil)) (.cond (.t 9) (.ops (.o 10 (.mov (.t 0)) <|
 .o 11 (.mov (.t 1)) <|
 .o 12 (.bin .add (.t 10) (.t 11)) <|
 .o 0 (.mov (.t 12)) <|
 .nil)) (.skip))) (.seq (.ops (.o 13 (.mov (.t 0)) <|
 .o 4 (.mov (.t 13)) <|
 .nil)) (.ret))))
def code19 : AFunc := ⟨14, [.tmp 4], d19.strip⟩

/-- fulling/fullingkeep2.MutateVFunc -/
def d20 : DCode :=
  .seq (.ops (.box 3 (.t 0) <|
 .o 6 (.alloc [.i 0, .i 0, .nilsl]) <|
 .nil)) (.seq (.ops (.o 15 (.mov (.t 1)) <|
 .o 16 (.build [.i 0] [(0, 1, .t 15)]) <|
 .o 17 (.box (.t 16)) <|
 .o 7 (.mov (.t 17)) <|
 .nil)) (.seq (.ops (.o 18 (.fad 0 (.t 3)) <|
 .o 19 (.ld (.t 18)) <|
 .o 20 (.fad 1 (.t 3)) <|
 .o 21 (.ld (.t 20)) <|
 .o 22 (.build [.i 0, .i 0, .nilsl] [(0, 1, .t 19), (1, 1, .t 21)]) <|
 .o 8 (.alloc [.i 0, .i 0, .nilsl]) <|
 .one ⟨none, .st 3 (.t 8) (.t 22), none⟩ <|
 .nil)) (.seq (.seq (.ops (.o 9 (.mov (.i 0)) <|
 .nil)) (.block 0 (.loop [2, 3, 6, 7, 8, 9] (.seq (.seq (.ops (.o 23 (.mov (.t 9)) <|
 .o 24 (.fad 2 (.t 3)) <|
 .o 25 (.ld (.t 24)) <|
 .o 26 (.len (.t 25)) <|
 .o 27 (.bin .lss (.t 23) (.t 26)) <|
 .nil)) (.cond (.t 27) (.skip) (.exit 0))) (.mark [2, 3, 6, 7, 8, 9] (.seq (.block 1 (.seq (.ops (.o 30 (.fad 2 (.t 3)) <|
 .o 31 (.ld (.t 30)) <|
 .o 32 (.mov (.t 9)) <|
 .o 33 (.iad 5 (.t 31) (.t 32)) <|
 .o 34 (.lda 5 (.t 33)) <|
 .o 10 (.alloc [.nilsl, .i 0, .i 0, .i 0, .i 0]) <|
 .one ⟨none, .st 5 (.t 10) (.t 34), none⟩ <|
 .nil)) (.seq (.ops (.o 35 (.fad 0 (.t 10)) <|
 .o 36 (.ld (.t 35)) <|
 .o 37 (.app 6 (.c (.nilsl)) (.t 36)) <|
 .o 38 (.fad 0 (.t 10)) <|
 .one ⟨none, .st 1 (.t 38) (.t 37), none⟩ <|
 .nil)) (.ops (.o 39 (.fad 2 (.t 8)) <|
 .o 40 (.ld (.t 39)) <|
 .o 41 (.lda 5 (.t 10)) <|
 .bsl 42 5 [.nilsl, .i 0, .i 0, .i 0, .i 0] 1 [(0, .t 41)] <|
 .o 43 (.app 5 (.t 40) (.t 42)) <|
 .o 44 (.fad 2 (.t 8)) <|
 .one ⟨none, .st 1 (.t 44) (.t 43), none⟩ <|
 .nil))))) (.ops (.o 28 (.mov (.t 9)) <|
 .o 29 (.bin .add (.t 28) (.i 1)) <|
 .o 9 (.mov (.t 29)) <|
 .nil)))))))) (.mark [2, 6, 7, 8] (.seq (.drawq (.o 45 (.fad 2 (.t 8)) <|
 .o 46 (.ld (.t 45)) <|
 .o 47 (.mov (.t 2)) <|
 .o 48 (.fad 2 (.t 8)) <|
 .o 49 (.ld (.t 48)) <|
 .o 50 (.len (.t 49)) <|
 .o 51 (.call (.c (.fn 19 [])) [.t 47, .t 50]) <|
 .o 52 (.iad 5 (.t 46) (.t 51)) <|
 .o 11 (.mov (.t 52)) <|
 .nil) [(0, 6), (1, 6)]) (.seq (.ops (.o 12 (.mov (.c (.nilp))) <|
 .nil)) (.seq (.seq (.ops (.o 53 (.mov (.t 11)) <|
 .o 54 (.nilck (.t 53)) <|
 .o 55 (.fad 0 (.t 54)) <|
 .o 56 (.ld (.t 55)) <|
 .o 57 (.len (.t 56)) <|
 .o 58 (.bin .gtr (.t 57) (.i 0)) <|
 .nil)) (.cond (.t 58) (.drawq (.o 59 (.mov (.t 11)) <|
 .o 60 (.nilck (.t 59)) <|
 .o 61 (.fad 0 (.t 60)) <|
 .o 62 (.ld (.t 61)) <|
 .o 63 (.mov (.t 2)) <|
 .o 64 (.bin .quo (.t 63) (.i 7)) <|
 .o 65 (.mov (.t 11)) <|
 .o 66 (.nilck (.t 65)) <|
 .o 67 (.fad 0 (.t 66)) <|
 .o 68 (.ld (.t 67)) <|
 .o 69 (.len (.t 68)) <|
 .o 70 (.call (.c (.fn 19 [])) [.t 64, .t 69]) <|
 .o 71 (.iad 6 (.t 62) (.t 70)) <|
 .o 12 (.mov (.t 71)) <|
 .nil) [(0, 11), (1, 11), (2, 11), (3, 11)]) (.ops (.o 72 (.build [.i 0, .i 0, .i 0, .i 0, .i 0, .nilsl] []) <|
 .o 73 (.box (.t 72)) <|
 .o 12 (.mov (.t 73)) <|
 .nil)))) (.mark [6, 7, 8, 11, 12] (.seq (.ops (.o 74 (.mov (.t 7)) <|
 .o 75 (.call (.c (.fn 47 [])) [.t 74, .i 40]) <|
 .o 76 (.bin .sub (.t 75) (.i 2)) <|
 .o 13 (.mov (.t 76)) <|
 .nil)) (.seq (.seq (.ops (.o 77 (.mov (.t 7)) <|
 .o 78 (.call (.c (.fn 47 [])) [.t 77, .i 14]) <|
 .o 14 (.mov (.t 78)) <|
 .nil)) (.block 2 (.seq (.ops (.o 80 (.mov (.t 14)) <|
 .o 81 (.bin .eql (.t 80) (.i 0)) <|
 .o 79 (.mov (.t 81)) <|
 .nil)) (.cond (.t 79) (.ops (.o 82 (.mov (.t 13)) <|
 .o 83 (.fad 0 (.t 8)) <|
 .one ⟨none, .st 1 (.t 83) (.t 82), none⟩ <|
 .nil)) (.seq (.ops (.o 85 (.mov (.t 14)) <|
 .o 86 (.bin .eql (.t 85) (.i 1)) <|
 .o 84 (.mov (.t 86)) <|
 .nil)) (.cond (.t 84) (.ops (.o 87 (.mov (.t 13)) <|
 .o 88 (.fad 1 (.t 8)) <|
 .one ⟨none, .st 1 (.t 88) (.t 87), none⟩ <|
 .nil)) (.seq (.ops (.o 90 (.mov (.t 14)) <|
 .o 91 (.bin .eql (.t 90) (.i 2)) <|
 .o 89 (.mov (.t 91)) <|
 .nil)) (.cond (.t 89) (.ops (.o 92 (.mov (.t 11)) <|
 .o 93 (.mov (.t 13)) <|
 .o 94 (.nilck (.t 92)) <|
 .o 95 (.fad 1 (.t 94)) <|
 .one ⟨none, .st 1 (.t 95) (.t 93), none⟩ <|
 .nil)) (.seq (.ops (.o 97 (.mov (.t 14)) <|
 .o 98 (.bin .eql (.t 97) (.i 3)) <|
 .o 96 (.mov (.t 98)) <|
 .nil)) (.cond (.t 96) (.ops (.o 99 (.mov (.t 11)) <|
 .o 100 (.mov (.t 13)) <|
 .o 101 (.nilck (.t 99)) <|
 .o 102 (.fad 2 (.t 101)) <|
 .one ⟨none, .st 1 (.t 102) (.t 100), none⟩ <|
 .nil)) (.seq (.ops (.o 104 (.mov (.t 14)) <|
 .o 105 (.bin .eql (.t 104) (.i 4)) <|
 .o 103 (.mov (.t 105)) <|
 .nil)) (.cond (.t 103) (.ops (.o 106 (.mov (.t 11)) <|
 .o 107 (.mov (.t 13)) <|
 .o 108 (.nilck (.t 106)) <|
 .o 109 (.fad 3 (.t 108)) <|
 .one ⟨none, .st 1 (.t 109) (.t 107), none⟩ <|
 .nil)) (.seq (.ops (.o 111 (.mov (.t 14)) <|
 .o 112 (.bin .eql (.t 111) (.i 5)) <|
 .o 110 (.mov (.t 112)) <|
 .nil)) (.cond (.t 110) (.ops (.o 113 (.mov (.t 11)) <|
 .o 114 (.mov (.t 13)) <|
 .o 115 (.nilck (.t 113)) <|
 .o 116 (.fad 4 (.t 115)) <|
 .one ⟨none, .st 1 (.t 116) (.t 114), none⟩ <|
 .nil)) (.seq (.ops (.o 118 (.mov (.t 14)) <|
 .o 119 (.bin .eql (.t 118) (.i 6)) <|
 .o 117 (.mov (.t 119)) <|
 .nil)) (.cond (.t 117) (.ops (.o 120 (.mov (.t 12)) <|
 .o 121 (.mov (.t 13)) <|
 .o 122 (.nilck (.t 120)) <|
 .o 123 (.fad 0 (.t 122)) <|
 .o 124 (.fad 0 (.t 123)) <|
 .one ⟨none, .st 1 (.t 124) (.t 121), none⟩ <|
 .nil)) (.seq (.ops (.o 126 (.mov (.t 14)) <|
 .o 127 (.bin .eql (.t 126) (.i 7)) <|
 .o 125 (.mov (.t 127)) <|
 .nil)) (.cond (.t 125) (.ops (.o 128 (.mov (.t 12)) <|
 .o 129 (.mov (.t 13)) <|
 .o 130 (.nilck (.t 128)) <|
 .o 131 (.fad 0 (.t 130)) <|
 .o 132 (.fad 1 (.t 131)) <|
 .one ⟨none, .st 1 (.t 132) (.t 129), none⟩ <|
 .nil)) (.seq (.ops (.o 134 (.mov (.t 14)) <|
 .o 135 (.bin .eql (.t 134) (.i 8)) <|
 .o 133 (.mov (.t 135)) <|
 .nil)) (.cond (.t 133) (.ops (.o 136 (.mov (.t 12)) <|
 .o 137 (.mov (.t 13)) <|
 .o 138 (.nilck (.t 136)) <|
 .o 139 (.fad 0 (.t 138)) <|
 .o 140 (.fad 2 (.t 139)) <|
 .one ⟨none, .st 1 (.t 140) (.t 137), none⟩ <|
 .nil)) (.seq (.ops (.o 142 (.mov (.t 14)) <|
 .o 143 (.bin .eql (.t 142) (.i 9)) <|
 .o 141 (.mov (.t 143)) <|
 .nil)) (.cond (.t 141) (.ops (.o 144 (.mov (.t 12)) <|
 .o 145 (.mov (.t 13)) <|
 .o 146 (.nilck (.t 144)) <|
 .o 147 (.fad 0 (.t 146)) <|
 .o 148 (.fad 3 (.t 147)) <|
 .one ⟨none, .st 1 (.t 148) (.t 145), none⟩ <|
 .nil)) (.seq (.ops (.o 150 (.mov (.t 14)) <|
 .o 151 (.bin .eql (.t 150) (.i 10)) <|
 .o 149 (.mov (.t 151)) <|
 .nil)) (.cond (.t 149) (.ops (.o 152 (.mov (.t 12)) <|
 .o 153 (.mov (.t 13)) <|
 .o 154 (.call (.c (.fn 48 [])) [.t 153, .i 1099511627776]) <|
 .o 155 (.nilck (.t 152)) <|
 .o 156 (.fad 0 (.t 155)) <|
 .o 157 (.fad 4 (.t 156)) <|
 .one ⟨none, .st 1 (.t 157) (.t 154), none⟩ <|
 .nil)) (.seq (.ops (.o 159 (.mov (.t 14)) <|
 .o 160 (.bin .eql (.t 159) (.i 11)) <|
 .o 158 (.mov (.t 160)) <|
 .nil)) (.cond (.t 158) (.ops (.o 161 (.mov (.t 12)) <|
 .o 162 (.mov (.t 12)) <|
 .o 163 (.nilck (.t 162)) <|
 .o 164 (.fad 5 (.t 163)) <|
 .o 165 (.ld (.t 164)) <|
 .o 166 (.app 1 (.c (.nilsl)) (.t 165)) <|
 .o 167 (.mov (.t 13)) <|
 .bsl 168 1 [.i 0] 1 [(0, .t 167)] <|
 .o 169 (.app 1 (.t 166) (.t 168)) <|
 .o 170 (.nilck (.t 161)) <|
 .o 171 (.fad 5 (.t 170)) <|
 .one ⟨none, .st 1 (.t 171) (.t 169), none⟩ <|
 .nil)) (.seq (.ops (.o 173 (.mov (.t 14)) <|
 .o 174 (.bin .eql (.t 173) (.i 12)) <|
 .o 172 (.mov (.t 174)) <|
 .nil)) (.cond (.t 172) (.ops (.o 175 (.fad 2 (.t 8)) <|
 .o 176 (.ld (.t 175)) <|
 .o 177 (.mov (.t 13)) <|
 .o 178 (.fad 2 (.t 8)) <|
 .o 179 (.ld (.t 178)) <|
 .o 180 (.len (.t 179)) <|
 .o 181 (.mn (.t 177) (.t 180)) <|
 .o 182 (.mx (.i 0) (.t 181)) <|
 .o 183 (.slice 5 (.t 176) none (some (.t 182))) <|
 .o 184 (.fad 2 (.t 8)) <|
 .one ⟨none, .st 1 (.t 184) (.t 183), none⟩ <|
 .nil)) (.skip))))))))))))))))))))))))))))) (.seq (.ops (.o 185 (.lda 3 (.t 8)) <|
 .one ⟨none, .st 3 (.t 6) (.t 185), none⟩ <|
 .nil)) (.ret))))))))))))
def code20 : AFunc := ⟨186, [.lda 3 6], d20.strip⟩

/-- fulling/fullingref32.Valid -/
def d21 : DCode :=
  .seq (.ops (.box 1 (.t 0) <|
 .o 2 (.mov (.c (.bool false))) <|
 .nil)) (.seq (.seq (.ops (.o 6 (.fad 0 (.t 1)) <|
 .o 7 (.ld (.t 6)) <|
 .o 8 (.bin .lss (.t 7) (.i 0)) <|
 .o 9 (.mov (.t 8)) <|
 .grp (.one ⟨some 10, .fad 0 (.t 1), some (9, false)⟩ <|
 .one ⟨some 11, .ld (.t 10), some (9, false)⟩ <|
 .one ⟨some 12, .bin .gtr (.t 11) (.i 6), some (9, false)⟩ <|
 .nil) 13 9 false 12 none <|
 .o 14 (.mov (.t 13)) <|
 .grp (.one ⟨some 15, .fad 1 (.t 1), some (14, false)⟩ <|
 .one ⟨some 16, .ld (.t 15), some (14, false)⟩ <|
 .one ⟨some 17, .bin .lss (.t 16) (.i 0), some (14, false)⟩ <|
 .nil) 18 14 false 17 none <|
 .o 19 (.mov (.t 18)) <|
 .grp (.one ⟨some 20, .fad 1 (.t 1), some (19, false)⟩ <|
 .one ⟨some 21, .ld (.t 20), some (19, false)⟩ <|
 .one ⟨some 22, .bin .gtr (.t 21) (.i 3000), some (19, false)⟩ <|
 .nil) 23 19 false 22 none <|
 .o 24 (.mov (.t 23)) <|
 .grp (.one ⟨some 25, .fad 2 (.t 1), some (24, false)⟩ <|
 .one ⟨some 26, .ld (.t 25), some (24, false)⟩ <|
 .one ⟨some 27, .len (.t 26), some (24, false)⟩ <|
 .one ⟨some 28, .bin .lss (.t 27) (.i 1), some (24, false)⟩ <|
 .nil) 29 24 false 28 none <|
 .o 30 (.mov (.t 29)) <|
 .grp (.one ⟨some 31, .fad 2 (.t 1), some (30, false)⟩ <|
 .one ⟨some 32, .ld (.t 31), some (30, false)⟩ <|
 .one ⟨some 33, .len (.t 32), some (30, false)⟩ <|
 .one ⟨some 34, .bin .gtr (.t 33) (.i 1000), some (30, false)⟩ <|
 .nil) 35 30 false 34 none <|
 .nil)) (.cond (.t 35) (.seq (.ops (.o 2 (.mov (.c (.bool false))) <|
 .nil)) (.ret)) (.skip))) (.mark [1] (.seq (.seq (.ops (.o 3 (.mov (.i 0)) <|
 .nil)) (.block 0 (.loop [1, 3] (.seq (.seq (.ops (.o 36 (.mov (.t 3)) <|
 .o 37 (.fad 2 (.t 1)) <|
 .o 38 (.ld (.t 37)) <|
 .o 39 (.len (.t 38)) <|
 .o 40 (.bin .lss (.t 36) (.t 39)) <|
 .nil)) (.cond (.t 40) (.skip) (.exit 0))) (.mark [1, 3] (.seq (.block 1 (.seq (.ops (.o 43 (.fad 2 (.t 1)) <|
 .o 44 (.ld (.t 43)) <|
 .o 45 (.mov (.t 3)) <|
 .o 46 (.iad 5 (.t 44) (.t 45)) <|
 .o 47 (.lda 5 (.t 46)) <|
 .alst 4 [.nilsl, .i 0, .i 0, .i 0, .i 0] (.t 47) <|
 .nil)) (.seq (.seq (.ops (.o 48 (.lda 5 (.t 4)) <|
 .o 49 (.lda 3 (.t 1)) <|
 .o 50 (.call (.c (.fn 49 [])) [.t 48, .t 49]) <|
 .o 51 (.un .not (.t 50)) <|
 .nil)) (.cond (.t 51) (.seq (.ops (.o 2 (.mov (.c (.bool false))) <|
 .nil)) (.ret)) (.skip))) (.mark [1, 3, 4] (.seq (.ops (.o 5 (.mov (.i 0)) <|
 .nil)) (.block 2 (.loop [1, 3, 4, 5] (.seq (.seq (.ops (.o 52 (.mov (.t 5)) <|
 .o 53 (.fad 0 (.t 4)) <|
 .o 54 (.ld (.t 53)) <|
 .o 55 (.len (.t 54)) <|
 .o 56 (.bin .lss (.t 52) (.t 55)) <|
 .nil)) (.cond (.t 56) (.skip) (.exit 2))) (.mark [1, 3, 4, 5] (.seq (.block 3 (.seq (.drawq (.o 59 (.fad 0 (.t 4)) <|
 .o 60 (.ld (.t 59)) <|
 .o 61 (.mov (.t 5)) <|
 .o 62 (.iad 6 (.t 60) (.t 61)) <|
 .o 63 (.lda 6 (.t 62)) <|
 .o 64 (.lda 3 (.t 1)) <|
 .o 65 (.call (.c (.fn 50 [])) [.t 63, .t 64]) <|
 .o 66 (.un .not (.t 65)) <|
 .nil) []) (.cond (.t 66) (.seq (.ops (.o 2 (.mov (.c (.bool false))) <|
 .nil)) (.ret)) (.skip)))) (.ops (.o 57 (.mov (.t 5)) <|
 .o 58 (.bin .add (.t 57) (.i 1)) <|
 .o 5 (.mov (.t 58)) <|
 .nil)))))))))))) (.ops (.o 41 (.mov (.t 3)) <|
 .o 42 (.bin .add (.t 41) (.i 1)) <|
 .o 3 (.mov (.t 42)) <|
 .nil)))))))) (.seq (.ops (.o 2 (.mov (.c (.bool true))) <|
 .nil)) (.ret)))))
def code21 : AFunc := ⟨67, [.tmp 2], d21.strip⟩

/-- fulling/fullingkeep2.VFuncs -/
def d22 : DCode :=
  .seq (.ops (.o 4 (.mov (.c (.nilsl))) <|
 .o 5 (.mov (.c (.nilsl))) <|
 .nil)) (.seq (.drawq (.o 6 (.mov (.t 0)) <|
 .o 7 (.mov (.t 0)) <|
 .o 8 (.len (.t 7)) <|
 .o 9 (.mn (.t 8) (.i 36)) <|
 .o 10 (.slice 1 (.t 6) none (some (.t 9))) <|
 .o 11 (.call (.c (.fn 18 [])) [.t 10, .i 2]) <|
 .o 12 (.mov (.t 1)) <|
 .o 13 (.mov (.t 1)) <|
 .o 14 (.len (.t 13)) <|
 .o 15 (.mn (.t 14) (.i 18)) <|
 .o 16 (.slice 1 (.t 12) none (some (.t 15))) <|
 .o 17 (.call (.c (.fn 18 [])) [.t 16, .i 1]) <|
 .o 18 (.bsl 3 [.i 0, .i 0, .nilsl] 2 [(0, .t 11), (1, .t 17)]) <|
 .o 19 (.bsl 1 [.i 0] 2 [(0, .i 3), (1, .i 2)]) <|
 .o 4 (.mov (.t 18)) <|
 .o 5 (.mov (.t 19)) <|
 .nil) [(5, 6), (5, 7), (5, 8), (5, 9), (5, 10), (5, 13), (11, 13), (12, 13)]) (.ret))
def code22 : AFunc := ⟨20, [.tmp 4, .tmp 5], d22.strip⟩

/-- fulling/vcode.ValidProgram -/
def d23 : DCode :=
  .seq (.ops (.o 4 (.mov (.c (.bool false))) <|
 .nil)) (.seq (.seq (.ops (.o 13 (.mov (.t 0)) <|
 .o 14 (.len (.t 13)) <|
 .o 15 (.bin .lss (.t 14) (.i 1)) <|
 .o 16 (.mov (.t 15)) <|
 .grp (.one ⟨some 17, .mov (.t 0), some (16, false)⟩ <|
 .one ⟨some 18, .len (.t 17), some (16, false)⟩ <|
 .one ⟨some 19, .bin .gtr (.t 18) (.i 8), some (16, false)⟩ <|
 .nil) 20 16 false 19 none <|
 .o 21 (.mov (.t 20)) <|
 .grp (.one ⟨some 22, .mov (.t 1), some (21, false)⟩ <|
 .one ⟨some 23, .len (.t 22), some (21, false)⟩ <|
 .one ⟨some 24, .bin .gtr (.t 23) (.i 4), some (21, false)⟩ <|
 .nil) 25 21 false 24 none <|
 .nil)) (.cond (.t 25) (.seq (.ops (.o 4 (.mov (.c (.bool false))) <|
 .nil)) (.ret)) (.skip))) (.mark [0, 1] (.seq (.seq (.ops (.o 26 (.mov (.t 1)) <|
 .o 27 (.len (.t 26)) <|
 .o 28 (.mov (.i 0)) <|
 .nil)) (.block 0 (.loop [0, 1, 26, 27, 28] (.seq (.ops (.o 29 (.bin .lss (.t 28) (.t 27)) <|
 .nil)) (.seq (.cond (.t 29) (.skip) (.exit 0)) (.mark [0, 1, 26, 27, 28] (.seq (.block 1 (.seq (.ops (.o 30 (.iad 1 (.t 26) (.t 28)) <|
 .o 31 (.ld (.t 30)) <|
 .o 6 (.mov (.t 31)) <|
 .nil)) (.seq (.ops (.o 32 (.mov (.t 6)) <|
 .o 33 (.bin .lss (.t 32) (.i 1)) <|
 .o 34 (.mov (.t 33)) <|
 .grp (.one ⟨some 35, .mov (.t 6), some (34, false)⟩ <|
 .one ⟨some 36, .bin .gtr (.t 35) (.i 16), some (34, false)⟩ <|
 .nil) 37 34 false 36 none <|
 .nil)) (.cond (.t 37) (.seq (.ops (.o 4 (.mov (.c (.bool false))) <|
 .nil)) (.ret)) (.skip))))) (.ops (.o 38 (.bin .add (.t 28) (.i 1)) <|
 .o 28 (.mov (.t 38)) <|
 .nil))))))))) (.mark [0, 1] (.seq (.seq (.ops (.o 39 (.mov (.t 0)) <|
 .o 40 (.len (.t 39)) <|
 .o 41 (.mov (.i 0)) <|
 .nil)) (.block 2 (.loop [0, 1, 39, 40, 41] (.seq (.ops (.o 42 (.bin .lss (.t 41) (.t 40)) <|
 .nil)) (.seq (.cond (.t 42) (.skip) (.exit 2)) (.mark [0, 1, 39, 40, 41] (.seq (.block 3 (.seq (.ops (.o 43 (.iad 3 (.t 39) (.t 41)) <|
 .o 44 (.lda 3 (.t 43)) <|
 .alst 8 [.i 0, .i 0, .nilsl] (.t 44) <|
 .nil)) (.seq (.seq (.ops (.o 45 (.lda 3 (.t 8)) <|
 .o 46 (.call (.c (.fn 14 [])) [.t 45]) <|
 .o 47 (.un .not (.t 46)) <|
 .nil)) (.cond (.t 47) (.seq (.ops (.o 4 (.mov (.c (.bool false))) <|
 .nil)) (.ret)) (.skip))) (.mark [0, 1, 8, 39, 40, 41] (.seq (.ops (.o 48 (.fad 2 (.t 8)) <|
 .o 49 (.ld (.t 48)) <|
 .o 50 (.len (.t 49)) <|
 .o 51 (.mov (.i 0)) <|
 .nil)) (.block 4 (.loop [0, 1, 39, 40, 41, 49, 50, 51] (.seq (.ops (.o 52 (.bin .lss (.t 51) (.t 50)) <|
 .nil)) (.seq (.cond (.t 52) (.skip) (.exit 4)) (.mark [0, 1, 39, 40, 41, 49, 50, 51] (.seq (.block 5 (.seq (.ops (.o 53 (.iad 5 (.t 49) (.t 51)) <|
 .o 54 (.lda 5 (.t 53)) <|
 .alst 10 [.nilsl, .i 0, .i 0, .i 0, .i 0] (.t 54) <|
 .nil)) (.seq (.ops (.o 55 (.fad 0 (.t 10)) <|
 .o 56 (.ld (.t 55)) <|
 .o 57 (.len (.t 56)) <|
 .o 58 (.mov (.i 0)) <|
 .nil)) (.block 6 (.loop [0, 1, 39, 40, 41, 49, 50, 51, 56, 57, 58] (.seq (.ops (.o 59 (.bin .lss (.t 58) (.t 57)) <|
 .nil)) (.seq (.cond (.t 59) (.skip) (.exit 6)) (.mark [0, 1, 39, 40, 41, 49, 50, 51, 56, 57, 58] (.seq (.block 7 (.seq (.ops (.o 60 (.iad 6 (.t 56) (.t 58)) <|
 .o 61 (.lda 6 (.t 60)) <|
 .alst 12 [.i 0, .i 0, .i 0, .i 0, .i 0, .nilsl] (.t 61) <|
 .nil)) (.seq (.ops (.o 62 (.fad 0 (.t 12)) <|
 .o 63 (.fad 0 (.t 62)) <|
 .o 64 (.ld (.t 63)) <|
 .nil)) (.block 8 (.seq (.ops (.o 66 (.bin .eql (.t 64) (.i 6)) <|
 .o 65 (.mov (.t 66)) <|
 .nil)) (.cond (.t 65) (.seq (.drawq (.o 67 (.fad 0 (.t 12)) <|
 .o 68 (.fad 4 (.t 67)) <|
 .o 69 (.ld (.t 68)) <|
 .o 70 (.mov (.t 0)) <|
 .o 71 (.len (.t 70)) <|
 .o 72 (.bin .geq (.t 69) (.t 71)) <|
 .o 73 (.mov (.t 72)) <|
 .grp (.one ⟨some 74, .fad 5 (.t 12), some (73, false)⟩ <|
 .one ⟨some 75, .ld (.t 74), some (73, false)⟩ <|
 .one ⟨some 76, .len (.t 75), some (73, false)⟩ <|
 .one ⟨some 77, .mov (.t 0), some (73, false)⟩ <|
 .one ⟨some 78, .fad 0 (.t 12), some (73, false)⟩ <|
 .one ⟨some 79, .fad 4 (.t 78), some (73, false)⟩ <|
 .one ⟨some 80, .ld (.t 79), some (73, false)⟩ <|
 .one ⟨some 81, .iad 3 (.t 77) (.t 80), some (73, false)⟩ <|
 .one ⟨some 82, .fad 0 (.t 81), some (73, false)⟩ <|
 .one ⟨some 83, .ld (.t 82), some (73, false)⟩ <|
 .one ⟨some 84, .bin .neq (.t 76) (.t 83), some (73, false)⟩ <|
 .nil) 85 73 false 84 none <|
 .nil) []) (.cond (.t 85) (.seq (.ops (.o 4 (.mov (.c (.bool false))) <|
 .nil)) (.ret)) (.skip))) (.seq (.seq (.ops (.o 87 (.bin .eql (.t 64) (.i 34)) <|
 .o 86 (.mov (.t 87)) <|
 .nil)) (.cond (.t 86) (.skip) (.ops (.o 88 (.bin .eql (.t 64) (.i 35)) <|
 .o 86 (.mov (.t 88)) <|
 .nil)))) (.mark [0, 1, 12, 39, 40, 41, 49, 50, 51, 56, 57, 58, 86] (.cond (.t 86) (.seq (.ops (.o 89 (.fad 0 (.t 12)) <|
 .o 90 (.fad 4 (.t 89)) <|
 .o 91 (.ld (.t 90)) <|
 .o 92 (.mov (.t 1)) <|
 .o 93 (.len (.t 92)) <|
 .o 94 (.bin .geq (.t 91) (.t 93)) <|
 .nil)) (.cond (.t 94) (.seq (.ops (.o 4 (.mov (.c (.bool false))) <|
 .nil)) (.ret)) (.skip))) (.skip)))))))))) (.ops (.o 95 (.bin .add (.t 58) (.i 1)) <|
 .o 58 (.mov (.t 95)) <|
 .nil))))))))))) (.ops (.o 96 (.bin .add (.t 51) (.i 1)) <|
 .o 51 (.mov (.t 96)) <|
 .nil))))))))))))) (.ops (.o 97 (.bin .add (.t 41) (.i 1)) <|
 .o 41 (.mov (.t 97)) <|
 .nil))))))))) (.seq (.ops (.o 4 (.mov (.c (.bool true))) <|
 .nil)) (.ret)))))))
def code23 : AFunc := ⟨98, [.tmp 4], d23.strip⟩

/-- fulling/fullingref32.ValidProgram -/
def d24 : DCode :=
  .seq (.ops (.o 4 (.mov (.c (.bool false))) <|
 .nil)) (.seq (.seq (.ops (.o 10 (.mov (.t 0)) <|
 .o 11 (.len (.t 10)) <|
 .o 12 (.bin .lss (.t 11) (.i 1)) <|
 .o 13 (.mov (.t 12)) <|
 .grp (.one ⟨some 14, .mov (.t 0), some (13, false)⟩ <|
 .one ⟨some 15, .len (.t 14), some (13, false)⟩ <|
 .one ⟨some 16, .bin .gtr (.t 15) (.i 8), some (13, false)⟩ <|
 .nil) 17 13 false 16 none <|
 .o 18 (.mov (.t 17)) <|
 .grp (.one ⟨some 19, .mov (.t 1), some (18, false)⟩ <|
 .one ⟨some 20, .len (.t 19), some (18, false)⟩ <|
 .one ⟨some 21, .bin .gtr (.t 20) (.i 4), some (18, false)⟩ <|
 .nil) 22 18 false 21 none <|
 .nil)) (.cond (.t 22) (.seq (.ops (.o 4 (.mov (.c (.bool false))) <|
 .nil)) (.ret)) (.skip))) (.mark [0, 1] (.seq (.seq (.ops (.o 5 (.mov (.i 0)) <|
 .nil)) (.block 0 (.loop [0, 1, 5] (.seq (.seq (.ops (.o 23 (.mov (.t 5)) <|
 .o 24 (.mov (.t 1)) <|
 .o 25 (.len (.t 24)) <|
 .o 26 (.bin .lss (.t 23) (.t 25)) <|
 .nil)) (.cond (.t 26) (.skip) (.exit 0))) (.mark [0, 1, 5] (.seq (.block 1 (.seq (.ops (.o 29 (.mov (.t 1)) <|
 .o 30 (.mov (.t 5)) <|
 .o 31 (.iad 1 (.t 29) (.t 30)) <|
 .o 32 (.ld (.t 31)) <|
 .o 33 (.bin .lss (.t 32) (.i 1)) <|
 .o 34 (.mov (.t 33)) <|
 .grp (.one ⟨some 35, .mov (.t 1), some (34, false)⟩ <|
 .one ⟨some 36, .mov (.t 5), some (34, false)⟩ <|
 .one ⟨some 37, .iad 1 (.t 35) (.t 36), some (34, false)⟩ <|
 .one ⟨some 38, .ld (.t 37), some (34, false)⟩ <|
 .one ⟨some 39, .bin .gtr (.t 38) (.i 16), some (34, false)⟩ <|
 .nil) 40 34 false 39 none <|
 .nil)) (.cond (.t 40) (.seq (.ops (.o 4 (.mov (.c (.bool false))) <|
 .nil)) (.ret)) (.skip)))) (.ops (.o 27 (.mov (.t 5)) <|
 .o 28 (.bin .add (.t 27) (.i 1)) <|
 .o 5 (.mov (.t 28)) <|
 .nil)))))))) (.mark [0, 1] (.seq (.seq (.ops (.o 6 (.mov (.i 0)) <|
 .nil)) (.block 2 (.loop [0, 1, 6] (.seq (.seq (.ops (.o 41 (.mov (.t 6)) <|
 .o 42 (.mov (.t 0)) <|
 .o 43 (.len (.t 42)) <|
 .o 44 (.bin .lss (.t 41) (.t 43)) <|
 .nil)) (.cond (.t 44) (.skip) (.exit 2))) (.mark [0, 1, 6] (.seq (.block 3 (.seq (.seq (.ops (.o 47 (.mov (.t 0)) <|
 .o 48 (.mov (.t 6)) <|
 .o 49 (.iad 3 (.t 47) (.t 48)) <|
 .o 50 (.lda 3 (.t 49)) <|
 .o 51 (.call (.c (.fn 21 [])) [.t 50]) <|
 .o 52 (.un .not (.t 51)) <|
 .nil)) (.cond (.t 52) (.seq (.ops (.o 4 (.mov (.c (.bool false))) <|
 .nil)) (.ret)) (.skip))) (.mark [0, 1, 6] (.seq (.ops (.o 7 (.mov (.i 0)) <|
 .nil)) (.block 4 (.loop [0, 1, 6, 7] (.seq (.seq (.ops (.o 53 (.mov (.t 7)) <|
 .o 54 (.mov (.t 0)) <|
 .o 55 (.mov (.t 6)) <|
 .o 56 (.iad 3 (.t 54) (.t 55)) <|
 .o 57 (.fad 2 (.t 56)) <|
 .o 58 (.ld (.t 57)) <|
 .o 59 (.len (.t 58)) <|
 .o 60 (.bin .lss (.t 53) (.t 59)) <|
 .nil)) (.cond (.t 60) (.skip) (.exit 4))) (.mark [0, 1, 6, 7] (.seq (.block 5 (.seq (.ops (.o 8 (.mov (.i 0)) <|
 .nil)) (.block 6 (.loop [0, 1, 6, 7, 8] (.seq (.seq (.ops (.o 63 (.mov (.t 8)) <|
 .o 64 (.mov (.t 0)) <|
 .o 65 (.mov (.t 6)) <|
 .o 66 (.iad 3 (.t 64) (.t 65)) <|
 .o 67 (.fad 2 (.t 66)) <|
 .o 68 (.ld (.t 67)) <|
 .o 69 (.mov (.t 7)) <|
 .o 70 (.iad 5 (.t 68) (.t 69)) <|
 .o 71 (.fad 0 (.t 70)) <|
 .o 72 (.ld (.t 71)) <|
 .o 73 (.len (.t 72)) <|
 .o 74 (.bin .lss (.t 63) (.t 73)) <|
 .nil)) (.cond (.t 74) (.skip) (.exit 6))) (.mark [0, 1, 6, 7, 8] (.seq (.block 7 (.seq (.ops (.o 77 (.mov (.t 0)) <|
 .o 78 (.mov (.t 6)) <|
 .o 79 (.iad 3 (.t 77) (.t 78)) <|
 .o 80 (.fad 2 (.t 79)) <|
 .o 81 (.ld (.t 80)) <|
 .o 82 (.mov (.t 7)) <|
 .o 83 (.iad 5 (.t 81) (.t 82)) <|
 .o 84 (.fad 0 (.t 83)) <|
 .o 85 (.ld (.t 84)) <|
 .o 86 (.mov (.t 8)) <|
 .o 87 (.iad 6 (.t 85) (.t 86)) <|
 .o 88 (.lda 6 (.t 87)) <|
 .alst 9 [.i 0, .i 0, .i 0, .i 0, .i 0, .nilsl] (.t 88) <|
 .nil)) (.seq (.seq (.drawq (.o 89 (.fad 0 (.t 9)) <|
 .o 90 (.fad 0 (.t 89)) <|
 .o 91 (.ld (.t 90)) <|
 .o 92 (.bin .eql (.t 91) (.i 6)) <|
 .o 93 (.mov (.t 92)) <|
 .grp (.one ⟨some 94, .fad 0 (.t 9), some (93, true)⟩ <|
 .one ⟨some 95, .fad 4 (.t 94), some (93, true)⟩ <|
 .one ⟨some 96, .ld (.t 95), some (93, true)⟩ <|
 .one ⟨some 97, .mov (.t 0), some (93, true)⟩ <|
 .one ⟨some 98, .len (.t 97), some (93, true)⟩ <|
 .one ⟨some 99, .bin .geq (.t 96) (.t 98), some (93, true)⟩ <|
 .one ⟨some 100, .mov (.t 99), some (93, true)⟩ <|
 .grp (.one ⟨some 101, .mov (.t 0), some (100, false)⟩ <|
 .one ⟨some 102, .fad 0 (.t 9), some (100, false)⟩ <|
 .one ⟨some 103, .fad 4 (.t 102), some (100, false)⟩ <|
 .one ⟨some 104, .ld (.t 103), some (100, false)⟩ <|
 .one ⟨some 105, .iad 3 (.t 101) (.t 104), some (100, false)⟩ <|
 .one ⟨some 106, .fad 0 (.t 105), some (100, false)⟩ <|
 .one ⟨some 107, .ld (.t 106), some (100, false)⟩ <|
 .one ⟨some 108, .fad 5 (.t 9), some (100, false)⟩ <|
 .one ⟨some 109, .ld (.t 108), some (100, false)⟩ <|
 .one ⟨some 110, .len (.t 109), some (100, false)⟩ <|
 .one ⟨some 111, .bin .neq (.t 107) (.t 110), some (100, false)⟩ <|
 .nil) 112 100 false 111 (some (93, true)) <|
 .nil) 113 93 true 112 none <|
 .nil) []) (.cond (.t 113) (.seq (.ops (.o 4 (.mov (.c (.bool false))) <|
 .nil)) (.ret)) (.skip))) (.mark [0, 1, 6, 7, 8, 9] (.seq (.ops (.o 114 (.fad 0 (.t 9)) <|
 .o 115 (.fad 0 (.t 114)) <|
 .o 116 (.ld (.t 115)) <|
 .o 117 (.bin .eql (.t 116) (.i 34)) <|
 .o 118 (.mov (.t 117)) <|
 .grp (.one ⟨some 119, .fad 0 (.t 9), some (118, false)⟩ <|
 .one ⟨some 120, .fad 0 (.t 119), some (118, false)⟩ <|
 .one ⟨some 121, .ld (.t 120), some (118, false)⟩ <|
 .one ⟨some 122, .bin .eql (.t 121) (.i 35), some (118, false)⟩ <|
 .nil) 123 118 false 122 none <|
 .o 124 (.mov (.t 123)) <|
 .grp (.one ⟨some 125, .fad 0 (.t 9), some (124, true)⟩ <|
 .one ⟨some 126, .fad 4 (.t 125), some (124, true)⟩ <|
 .one ⟨some 127, .ld (.t 126), some (124, true)⟩ <|
 .one ⟨some 128, .mov (.t 1), some (124, true)⟩ <|
 .one ⟨some 129, .len (.t 128), some (124, true)⟩ <|
 .one ⟨some 130, .bin .geq (.t 127) (.t 129), some (124, true)⟩ <|
 .nil) 131 124 true 130 none <|
 .nil)) (.cond (.t 131) (.seq (.ops (.o 4 (.mov (.c (.bool false))) <|
 .nil)) (.ret)) (.skip))))))) (.ops (.o 75 (.mov (.t 8)) <|
 .o 76 (.bin .add (.t 75) (.i 1)) <|
 .o 8 (.mov (.t 76)) <|
 .nil))))))))) (.ops (.o 61 (.mov (.t 7)) <|
 .o 62 (.bin .add (.t 61) (.i 1)) <|
 .o 7 (.mov (.t 62)) <|
 .nil))))))))))) (.ops (.o 45 (.mov (.t 6)) <|
 .o 46 (.bin .add (.t 45) (.i 1)) <|
 .o 6 (.mov (.t 46)) <|
 .nil)))))))) (.seq (.ops (.o 4 (.mov (.c (.bool true))) <|
 .nil)) (.ret)))))))
def code24 : AFunc := ⟨132, [.tmp 4], d24.strip⟩

/-- fulling/fullingkeep.Args -/
def d25 : DCode :=
  .seq (.ops (.o 6 (.mov (.c (.nilsl))) <|
 .nil)) (.seq (.ops (.o 7 (.mov (.t 0)) <|
 .o 8 (.mov (.t 2)) <|
 .o 9 (.call (.c (.fn 48 [])) [.t 7, .t 8]) <|
 .o 10 (.mov (.t 1)) <|
 .o 11 (.mov (.t 2)) <|
 .o 12 (.call (.c (.fn 48 [])) [.t 10, .t 11]) <|
 .bsl 13 1 [.i 0] 2 [(0, .t 9), (1, .t 12)] <|
 .o 6 (.mov (.t 13)) <|
 .nil)) (.ret))
def code25 : AFunc := ⟨14, [.tmp 6], d25.strip⟩

/-- fulling/fullingkeep.Fuel -/
def d26 : DCode :=
  .seq (.ops (.o 2 (.mov (.i 0)) <|
 .nil)) (.seq (.ops (.o 3 (.mov (.t 0)) <|
 .o 4 (.call (.c (.fn 19 [])) [.t 3, .i 12]) <|
 .o 2 (.mov (.t 4)) <|
 .nil)) (.ret))
def code26 : AFunc := ⟨5, [.tmp 2], d26.strip⟩

/-- fulling/fullingref32.Run -/
def d27 : DCode :=
  .seq (.ops (.o 12 (.alloc [.i 0, .i 0, .nilsl, .i 0]) <|
 .o 13 (.mov (.c (.bool false))) <|
 .nil)) (.seq (.seq (.ops (.o 17 (.mov (.t 0)) <|
 .o 18 (.mov (.t 1)) <|
 .o 19 (.call (.c (.fn 24 [])) [.t 17, .t 18]) <|
 .o 20 (.un .not (.t 19)) <|
 .o 21 (.mov (.t 20)) <|
 .grp (.one ⟨some 22, .mov (.t 2), some (21, false)⟩ <|
 .one ⟨some 23, .bin .lss (.t 22) (.i 0), some (21, false)⟩ <|
 .nil) 24 21 false 23 none <|
 .o 25 (.mov (.t 24)) <|
 .grp (.one ⟨some 26, .mov (.t 2), some (25, false)⟩ <|
 .one ⟨some 27, .mov (.t 0), some (25, false)⟩ <|
 .one ⟨some 28, .len (.t 27), some (25, false)⟩ <|
 .one ⟨some 29, .bin .geq (.t 26) (.t 28), some (25, false)⟩ <|
 .nil) 30 25 false 29 none <|
 .o 31 (.mov (.t 30)) <|
 .grp (.one ⟨some 32, .mov (.t 3), some (31, false)⟩ <|
 .one ⟨some 33, .len (.t 32), some (31, false)⟩ <|
 .one ⟨some 34, .mov (.t 0), some (31, false)⟩ <|
 .one ⟨some 35, .mov (.t 2), some (31, false)⟩ <|
 .one ⟨some 36, .iad 3 (.t 34) (.t 35), some (31, false)⟩ <|
 .one ⟨some 37, .fad 0 (.t 36), some (31, false)⟩ <|
 .one ⟨some 38, .ld (.t 37), some (31, false)⟩ <|
 .one ⟨some 39, .bin .neq (.t 33) (.t 38), some (31, false)⟩ <|
 .nil) 40 31 false 39 none <|
 .o 41 (.mov (.t 40)) <|
 .grp (.one ⟨some 42, .mov (.t 4), some (41, false)⟩ <|
 .one ⟨some 43, .bin .lss (.t 42) (.i 0), some (41, false)⟩ <|
 .nil) 44 41 false 43 none <|
 .o 45 (.mov (.t 44)) <|
 .grp (.one ⟨some 46, .mov (.t 4), some (45, false)⟩ <|
 .one ⟨some 47, .bin .gtr (.t 46) (.i 1000), some (45, false)⟩ <|
 .nil) 48 45 false 47 none <|
 .nil)) (.cond (.t 48) (.seq (.ops (.o 49 (.build [.i 0, .i 0, .nilsl, .i 0] []) <|
 .one ⟨none, .st 4 (.t 12) (.t 49), none⟩ <|
 .o 13 (.mov (.c (.bool false))) <|
 .nil)) (.ret)) (.skip))) (.mark [0, 1, 2, 3, 4, 5, 12] (.seq (.ops (.o 50 (.mov (.t 0)) <|
 .o 51 (.mov (.t 4)) <|
 .o 52 (.mov (.t 5)) <|
 .o 53 (.build [.nilsl, .nilsl, .i 0, .i 0, .nilsl, .i 0, .i 0, .nilsl, .i 0, .bool false, .bool false] [(0, 1, .t 50), (2, 1, .t 51), (3, 1, .t 52)]) <|
 .o 54 (.box (.t 53)) <|
 .o 14 (.mov (.t 54)) <|
 .nil)) (.seq (.seq (.ops (.o 15 (.mov (.i 0)) <|
 .nil)) (.block 0 (.loop [1, 2, 3, 12, 14, 15] (.seq (.seq (.ops (.o 55 (.mov (.t 15)) <|
 .o 56 (.mov (.t 1)) <|
 .o 57 (.len (.t 56)) <|
 .o 58 (.bin .lss (.t 55) (.t 57)) <|
 .nil)) (.cond (.t 58) (.skip) (.exit 0))) (.mark [1, 2, 3, 12, 14, 15] (.seq (.block 1 (.drawq (.o 61 (.mov (.t 14)) <|
 .o 62 (.mov (.t 14)) <|
 .o 63 (.nilck (.t 62)) <|
 .o 64 (.fad 1 (.t 63)) <|
 .o 65 (.ld (.t 64)) <|
 .o 66 (.mov (.t 1)) <|
 .o 67 (.mov (.t 15)) <|
 .o 68 (.iad 1 (.t 66) (.t 67)) <|
 .o 69 (.ld (.t 68)) <|
 .o 70 (.mksl 1 8 [.i 0] (.t 69) (.t 69)) <|
 .o 71 (.bsl 1 [.nilsl] 1 [(0, .t 70)]) <|
 .o 72 (.app 1 (.t 65) (.t 71)) <|
 .o 73 (.nilck (.t 61)) <|
 .o 74 (.fad 1 (.t 73)) <|
 .one ⟨none, .st 1 (.t 74) (.t 72), none⟩ <|
 .nil) [(4, 9), (4, 10)])) (.ops (.o 59 (.mov (.t 15)) <|
 .o 60 (.bin .add (.t 59) (.i 1)) <|
 .o 15 (.mov (.t 60)) <|
 .nil)))))))) (.mark [2, 3, 12, 14] (.seq (.ops (.o 75 (.mov (.t 14)) <|
 .o 76 (.mov (.t 2)) <|
 .o 77 (.mov (.t 3)) <|
 .o 78 (.call (.c (.fn 51 [])) [.t 75, .t 76, .t 77]) <|
 .o 16 (.mov (.t 78)) <|
 .nil)) (.seq (.seq (.ops (.o 79 (.mov (.t 14)) <|
 .o 80 (.nilck (.t 79)) <|
 .o 81 (.fad 10 (.t 80)) <|
 .o 82 (.ld (.t 81)) <|
 .nil)) (.cond (.t 82) (.seq (.ops (.o 83 (.build [.i 0, .i 0, .nilsl, .i 0] []) <|
 .one ⟨none, .st 4 (.t 12) (.t 83), none⟩ <|
 .o 13 (.mov (.c (.bool false))) <|
 .nil)) (.ret)) (.skip))) (.mark [12, 14, 16] (.seq (.seq (.ops (.o 84 (.mov (.t 14)) <|
 .o 85 (.nilck (.t 84)) <|
 .o 86 (.fad 9 (.t 85)) <|
 .o 87 (.ld (.t 86)) <|
 .o 88 (.un .not (.t 87)) <|
 .nil)) (.cond (.t 88) (.ops (.o 89 (.mov (.t 14)) <|
 .o 90 (.mov (.t 16)) <|
 .o 91 (.build [.i 0, .i 0, .nilsl, .i 0] [(0, 1, .i 1), (3, 1, .t 90)]) <|
 .o 92 (.nilck (.t 89)) <|
 .o 93 (.fad 5 (.t 92)) <|
 .one ⟨none, .st 4 (.t 93) (.t 91), none⟩ <|
 .nil)) (.skip))) (.mark [12, 14] (.seq (.ops (.o 94 (.mov (.t 14)) <|
 .o 95 (.mov (.t 14)) <|
 .o 96 (.nilck (.t 95)) <|
 .o 97 (.fad 4 (.t 96)) <|
 .o 98 (.ld (.t 97)) <|
 .o 99 (.nilck (.t 94)) <|
 .o 100 (.fad 5 (.t 99)) <|
 .o 101 (.fad 2 (.t 100)) <|
 .one ⟨none, .st 1 (.t 101) (.t 98), none⟩ <|
 .nil)) (.seq (.ops (.o 102 (.mov (.t 14)) <|
 .o 103 (.nilck (.t 102)) <|
 .o 104 (.fad 5 (.t 103)) <|
 .o 105 (.lda 4 (.t 104)) <|
 .one ⟨none, .st 4 (.t 12) (.t 105), none⟩ <|
 .o 13 (.mov (.c (.bool true))) <|
 .nil)) (.ret)))))))))))))
def code27 : AFunc := ⟨106, [.lda 4 12, .tmp 13], d27.strip⟩

/-- fulling/fullingkeep2.VInstr -/
def d28 : DCode :=
  .seq (.ops (.box 3 (.t 1) <|
 .o 4 (.alloc [.i 0, .i 0, .i 0, .i 0, .i 0, .nilsl]) <|
 .nil)) (.seq (.ops (.o 14 (.mov (.t 0)) <|
 .o 15 (.build [.i 0] [(0, 1, .t 14)]) <|
 .o 16 (.box (.t 15)) <|
 .o 5 (.mov (.t 16)) <|
 .nil)) (.seq (.ops (.bsl 17 1 [.i 0] 12 [(0, .i 3), (1, .i 6), (2, .i 9), (3, .i 10), (4, .i 11), (5, .i 12), (6, .i 13), (7, .i 33), (8, .i 34), (9, .i 35), (10, .i 10), (11, .i 9)] <|
 .o 6 (.mov (.t 17)) <|
 .nil)) (.seq (.ops (.o 18 (.mov (.t 5)) <|
 .o 19 (.call (.c (.fn 47 [])) [.t 18, .i 18]) <|
 .o 20 (.bin .add (.i 15) (.t 19)) <|
 .o 7 (.mov (.t 20)) <|
 .nil)) (.seq (.seq (.ops (.o 21 (.mov (.t 5)) <|
 .o 22 (.call (.c (.fn 47 [])) [.t 21, .i 24]) <|
 .o 8 (.mov (.t 22)) <|
 .nil)) (.seq (.ops (.o 23 (.mov (.t 8)) <|
 .o 24 (.mov (.t 6)) <|
 .o 25 (.len (.t 24)) <|
 .o 26 (.bin .lss (.t 23) (.t 25)) <|
 .nil)) (.cond (.t 26) (.ops (.o 27 (.mov (.t 6)) <|
 .o 28 (.mov (.t 8)) <|
 .o 29 (.iad 1 (.t 27) (.t 28)) <|
 .o 30 (.ld (.t 29)) <|
 .o 7 (.mov (.t 30)) <|
 .nil)) (.skip)))) (.mark [0, 3, 4, 5, 7] (.seq (.ops (.o 31 (.mov (.t 7)) <|
 .o 32 (.build [.i 0, .i 0, .i 0, .i 0, .i 0] [(0, 1, .t 31)]) <|
 .o 33 (.build [.i 0, .i 0, .i 0, .i 0, .i 0, .nilsl] [(0, 5, .t 32)]) <|
 .o 9 (.alloc [.i 0, .i 0, .i 0, .i 0, .i 0, .nilsl]) <|
 .one ⟨none, .st 6 (.t 9) (.t 33), none⟩ <|
 .nil)) (.seq (.ops (.o 35 (.mov (.t 7)) <|
 .o 36 (.call (.c (.fn 52 [])) [.t 35]) <|
 .o 34 (.mov (.t 36)) <|
 .o 37 (.ext (.t 34) 0) <|
 .o 38 (.ext (.t 34) 1) <|
 .alst 10 [.str ⟨#[]⟩, .i 0, .bool false, .bool false, .bool false, .bool false, .i 0] (.t 37) <|
 .o 11 (.mov (.t 38)) <|
 .nil)) (.seq (.ops (.o 39 (.fad 1 (.t 10)) <|
 .o 40 (.ld (.t 39)) <|
 .o 12 (.mov (.t 40)) <|
 .nil)) (.seq (.seq (.ops (.o 41 (.mov (.t 12)) <|
 .o 42 (.bin .neq (.t 41) (.i 1)) <|
 .nil)) (.cond (.t 42) (.ops (.o 43 (.mov (.t 5)) <|
 .o 44 (.fad 1 (.t 3)) <|
 .o 45 (.ld (.t 44)) <|
 .o 46 (.call (.c (.fn 47 [])) [.t 43, .t 45]) <|
 .o 47 (.fad 0 (.t 9)) <|
 .o 48 (.fad 1 (.t 47)) <|
 .one ⟨none, .st 1 (.t 48) (.t 46), none⟩ <|
 .nil)) (.skip))) (.mark [0, 3, 4, 5, 7, 9, 12] (.seq (.seq (.ops (.o 49 (.mov (.t 12)) <|
 .o 50 (.bin .eql (.t 49) (.i 3)) <|
 .o 51 (.mov (.t 50)) <|
 .grp (.one ⟨some 52, .mov (.t 12), some (51, false)⟩ <|
 .one ⟨some 53, .bin .eql (.t 52) (.i 4), some (51, false)⟩ <|
 .nil) 54 51 false 53 none <|
 .o 55 (.mov (.t 54)) <|
 .grp (.one ⟨some 56, .mov (.t 12), some (55, false)⟩ <|
 .one ⟨some 57, .bin .eql (.t 56) (.i 7), some (55, false)⟩ <|
 .nil) 58 55 false 57 none <|
 .nil)) (.cond (.t 58) (.ops (.o 59 (.mov (.t 5)) <|
 .o 60 (.fad 1 (.t 3)) <|
 .o 61 (.ld (.t 60)) <|
 .o 62 (.call (.c (.fn 47 [])) [.t 59, .t 61]) <|
 .o 63 (.fad 0 (.t 9)) <|
 .o 64 (.fad 2 (.t 63)) <|
 .one ⟨none, .st 1 (.t 64) (.t 62), none⟩ <|
 .nil)) (.skip))) (.mark [0, 3, 4, 5, 7, 9, 12] (.seq (.seq (.ops (.o 65 (.mov (.t 12)) <|
 .o 66 (.bin .eql (.t 65) (.i 4)) <|
 .nil)) (.cond (.t 66) (.ops (.o 67 (.mov (.t 5)) <|
 .o 68 (.fad 1 (.t 3)) <|
 .o 69 (.ld (.t 68)) <|
 .o 70 (.call (.c (.fn 47 [])) [.t 67, .t 69]) <|
 .o 71 (.fad 0 (.t 9)) <|
 .o 72 (.fad 3 (.t 71)) <|
 .one ⟨none, .st 1 (.t 72) (.t 70), none⟩ <|
 .nil)) (.skip))) (.mark [0, 3, 4, 5, 7, 9] (.seq (.seq (.ops (.o 73 (.mov (.t 7)) <|
 .nil)) (.block 0 (.seq (.ops (.o 75 (.bin .eql (.t 73) (.i 13)) <|
 .o 74 (.mov (.t 75)) <|
 .nil)) (.cond (.t 74) (.ops (.o 76 (.mov (.t 5)) <|
 .o 77 (.call (.c (.fn 47 [])) [.t 76, .i 400]) <|
 .o 78 (.mov (.t 0)) <|
 .o 79 (.call (.c (.fn 48 [])) [.t 77, .t 78]) <|
 .o 80 (.fad 0 (.t 9)) <|
 .o 81 (.fad 4 (.t 80)) <|
 .one ⟨none, .st 1 (.t 81) (.t 79), none⟩ <|
 .nil)) (.seq (.ops (.o 83 (.bin .eql (.t 73) (.i 33)) <|
 .o 82 (.mov (.t 83)) <|
 .nil)) (.cond (.t 82) (.ops (.o 84 (.mov (.t 5)) <|
 .o 85 (.call (.c (.fn 47 [])) [.t 84, .i 9]) <|
 .o 86 (.bin .sub (.t 85) (.i 4)) <|
 .o 87 (.fad 0 (.t 9)) <|
 .o 88 (.fad 4 (.t 87)) <|
 .one ⟨none, .st 1 (.t 88) (.t 86), none⟩ <|
 .nil)) (.seq (.seq (.ops (.o 90 (.bin .eql (.t 73) (.i 34)) <|
 .o 89 (.mov (.t 90)) <|
 .nil)) (.cond (.t 89) (.skip) (.ops (.o 91 (.bin .eql (.t 73) (.i 35)) <|
 .o 89 (.mov (.t 91)) <|
 .nil)))) (.mark [3, 4, 5, 9, 73, 89] (.cond (.t 89) (.ops (.o 92 (.mov (.t 5)) <|
 .o 93 (.call (.c (.fn 47 [])) [.t 92, .i 2]) <|
 .o 94 (.fad 0 (.t 9)) <|
 .o 95 (.fad 4 (.t 94)) <|
 .one ⟨none, .st 1 (.t 95) (.t 93), none⟩ <|
 .nil)) (.seq (.ops (.o 97 (.bin .eql (.t 73) (.i 6)) <|
 .o 96 (.mov (.t 97)) <|
 .nil)) (.cond (.t 96) (.seq (.ops (.o 98 (.mov (.t 5)) <|
 .o 99 (.call (.c (.fn 47 [])) [.t 98, .i 2]) <|
 .o 100 (.fad 0 (.t 9)) <|
 .o 101 (.fad 4 (.t 100)) <|
 .one ⟨none, .st 1 (.t 101) (.t 99), none⟩ <|
 .nil)) (.seq (.ops (.o 102 (.fad 0 (.t 9)) <|
 .o 103 (.fad 4 (.t 102)) <|
 .o 104 (.ld (.t 103)) <|
 .o 105 (.bin .sub (.i 2) (.t 104)) <|
 .o 13 (.mov (.t 105)) <|
 .nil)) (.block 1 (.loop [3, 4, 5, 9, 13] (.seq (.seq (.ops (.o 106 (.mov (.t 13)) <|
 .o 107 (.bin .gtr (.t 106) (.i 0)) <|
 .nil)) (.cond (.t 107) (.skip) (.exit 1))) (.mark [3, 4, 5, 9, 13] (.seq (.block 2 (.draw [⟨some 110, .fad 5 (.t 9), none⟩,
 ⟨some 111, .ld (.t 110), none⟩,
 ⟨some 112, .mov (.t 5), none⟩,
 ⟨some 113, .fad 1 (.t 3), none⟩,
 ⟨some 114, .ld (.t 113), none⟩,
 ⟨some 115, .call (.c (.fn 47 [])) [.t 112, .t 114], none⟩,
 ⟨some 116, .bsl 1 [.i 0] 1 [(0, .t 115)], none⟩,
 ⟨some 117, .app 1 (.t 111) (.t 116), none⟩,
 ⟨some 118, .fad 5 (.t 9), none⟩,
 ⟨none, .st 1 (.t 118) (.t 117), none⟩] [(0, 5), (1, 5), (1, 6)])) (.ops (.o 108 (.mov (.t 13)) <|
 .o 109 (.bin .sub (.t 108) (.i 1)) <|
 .o 13 (.mov (.t 109)) <|
 .nil))))))))) (.skip)))))))))))) (.seq (.ops (.o 119 (.lda 6 (.t 9)) <|
 .one ⟨none, .st 6 (.t 4) (.t 119), none⟩ <|
 .nil)) (.ret)))))))))))))))))
def code28 : AFunc := ⟨120, [.lda 6 4], d28.strip⟩

end Go.Abs
/- Abstract code, printed by a program of this session's off the loaded functions. -/
namespace Go.Abs

/-- (*fulling/vcode.run).step -/
def d42 : DCode :=
  .seq (.drawq (.o 8 (.mov (.t 0)) <|
 .o 9 (.nilck (.t 8)) <|
 .o 10 (.fad 2 (.t 9)) <|
 .o 11 (.ld (.t 10)) <|
 .o 12 (.mov (.t 0)) <|
 .o 13 (.nilck (.t 12)) <|
 .o 14 (.fad 2 (.t 13)) <|
 .o 15 (.ld (.t 14)) <|
 .o 16 (.len (.t 15)) <|
 .o 17 (.bin .sub (.t 16) (.i 1)) <|
 .o 18 (.iad 1 (.t 11) (.t 17)) <|
 .o 19 (.ld (.t 18)) <|
 .o 2 (.mov (.t 19)) <|
 .nil) []) (.seq (.drawq (.o 20 (.mov (.t 2)) <|
 .o 21 (.nilck (.t 20)) <|
 .o 22 (.fad 0 (.t 21)) <|
 .o 23 (.fad 2 (.t 22)) <|
 .o 24 (.ld (.t 23)) <|
 .o 25 (.mov (.t 2)) <|
 .o 26 (.nilck (.t 25)) <|
 .o 27 (.fad 5 (.t 26)) <|
 .o 28 (.ld (.t 27)) <|
 .o 29 (.iad 5 (.t 24) (.t 28)) <|
 .o 30 (.lda 5 (.t 29)) <|
 .o 3 (.alloc [.nilsl, .i 0, .i 0, .i 0, .i 0]) <|
 .one ⟨none, .st 5 (.t 3) (.t 30), none⟩ <|
 .nil) [(4, 11), (8, 11), (10, 11)]) (.frz 3 (.seq (.seq (.drawq (.o 31 (.mov (.t 2)) <|
 .o 32 (.nilck (.t 31)) <|
 .o 33 (.fad 6 (.t 32)) <|
 .o 34 (.ld (.t 33)) <|
 .o 35 (.fad 0 (.t 3)) <|
 .o 36 (.ld (.t 35)) <|
 .o 37 (.len (.t 36)) <|
 .o 38 (.bin .eql (.t 34) (.t 37)) <|
 .nil) []) (.cond (.t 38) (.seq (.ops (.o 39 (.mov (.t 0)) <|
 .o 40 (.mov (.t 2)) <|
 .o 41 (.call (.c (.fn 76 [])) [.t 39, .t 40]) <|
 .nil)) (.ret)) (.skip))) (.mark [0, 2, 3] (.seq (.drawq (.o 42 (.fad 0 (.t 3)) <|
 .o 43 (.ld (.t 42)) <|
 .o 44 (.mov (.t 2)) <|
 .o 45 (.nilck (.t 44)) <|
 .o 46 (.fad 6 (.t 45)) <|
 .o 47 (.ld (.t 46)) <|
 .o 48 (.iad 6 (.t 43) (.t 47)) <|
 .o 49 (.lda 6 (.t 48)) <|
 .o 4 (.alloc [.i 0, .i 0, .i 0, .i 0, .i 0, .nilsl]) <|
 .one ⟨none, .st 6 (.t 4) (.t 49), none⟩ <|
 .nil) [(1, 8), (5, 8), (7, 8)]) (.frz 4 (.seq (.ops (.o 50 (.mov (.t 2)) <|
 .o 51 (.nilck (.t 50)) <|
 .o 52 (.fad 6 (.t 51)) <|
 .o 53 (.ld (.t 52)) <|
 .o 54 (.bin .add (.t 53) (.i 1)) <|
 .o 55 (.nilck (.t 50)) <|
 .o 56 (.fad 6 (.t 55)) <|
 .one ⟨none, .st 1 (.t 56) (.t 54), none⟩ <|
 .nil)) (.seq (.ops (.o 57 (.fad 0 (.t 4)) <|
 .o 58 (.fad 0 (.t 57)) <|
 .o 59 (.ld (.t 58)) <|
 .nil)) (.block 0 (.seq (.ops (.o 66 (.bin .eql (.t 59) (.i 3)) <|
 .o 65 (.mov (.t 66)) <|
 .nil)) (.cond (.t 65) (.seq (.seq (.ops (.o 67 (.mov (.t 0)) <|
 .o 68 (.nilck (.t 67)) <|
 .o 69 (.fad 3 (.t 68)) <|
 .o 70 (.ld (.t 69)) <|
 .o 71 (.bin .eql (.t 70) (.i 0)) <|
 .nil)) (.cond (.t 71) (.seq (.ops (.o 72 (.mov (.t 0)) <|
 .o 73 (.call (.c (.fn 77 [])) [.t 72, .i 3, .i 0, .i 0]) <|
 .nil)) (.ret)) (.skip))) (.mark [0] (.ops (.o 74 (.mov (.t 0)) <|
 .o 75 (.nilck (.t 74)) <|
 .o 76 (.fad 3 (.t 75)) <|
 .o 77 (.ld (.t 76)) <|
 .o 78 (.bin .sub (.t 77) (.i 1)) <|
 .o 79 (.nilck (.t 74)) <|
 .o 80 (.fad 3 (.t 79)) <|
 .one ⟨none, .st 1 (.t 80) (.t 78), none⟩ <|
 .nil)))) (.seq (.ops (.o 82 (.bin .eql (.t 59) (.i 6)) <|
 .o 81 (.mov (.t 82)) <|
 .nil)) (.cond (.t 81) (.seq (.drawq (.o 83 (.mov (.t 0)) <|
 .o 84 (.nilck (.t 83)) <|
 .o 85 (.fad 0 (.t 84)) <|
 .o 86 (.ld (.t 85)) <|
 .o 87 (.fad 0 (.t 4)) <|
 .o 88 (.fad 4 (.t 87)) <|
 .o 89 (.ld (.t 88)) <|
 .o 90 (.iad 3 (.t 86) (.t 89)) <|
 .o 91 (.lda 3 (.t 90)) <|
 .o 92 (.fad 0 (.t 4)) <|
 .o 93 (.fad 1 (.t 92)) <|
 .o 94 (.ld (.t 93)) <|
 .o 95 (.build [.i 0, .i 0, .nilsl, .nilsl, .nilsl, .i 0, .i 0, .i 0] [(0, 3, .t 91), (7, 1, .t 94)]) <|
 .o 96 (.box (.t 95)) <|
 .o 5 (.mov (.t 96)) <|
 .nil) []) (.seq (.seq (.ops (.o 97 (.fad 5 (.t 4)) <|
 .o 98 (.ld (.t 97)) <|
 .o 99 (.len (.t 98)) <|
 .o 100 (.mov (.i 0)) <|
 .nil)) (.block 1 (.loop [0, 2, 5, 98, 99, 100] (.seq (.ops (.o 101 (.bin .lss (.t 100) (.t 99)) <|
 .nil)) (.seq (.cond (.t 101) (.skip) (.exit 1)) (.mark [0, 2, 5, 98, 99, 100] (.seq (.block 2 (.seq (.ops (.o 102 (.iad 1 (.t 98) (.t 100)) <|
 .o 103 (.ld (.t 102)) <|
 .o 7 (.mov (.t 103)) <|
 .nil)) (.draw [⟨some 104, .mov (.t 5), none⟩,
 ⟨some 105, .mov (.t 5), none⟩,
 ⟨some 106, .nilck (.t 105), none⟩,
 ⟨some 107, .fad 4 (.t 106), none⟩,
 ⟨some 108, .ld (.t 107), none⟩,
 ⟨some 109, .mov (.t 2), none⟩,
 ⟨some 110, .mov (.t 7), none⟩,
 ⟨some 111, .call (.c (.fn 78 [])) [.t 109, .t 110], none⟩,
 ⟨some 112, .bsl 1 [.i 0] 1 [(0, .t 111)], none⟩,
 ⟨some 113, .app 1 (.t 108) (.t 112), none⟩,
 ⟨some 114, .nilck (.t 104), none⟩,
 ⟨some 115, .fad 4 (.t 114), none⟩,
 ⟨none, .st 1 (.t 115) (.t 113), none⟩] [(0, 7), (1, 7), (2, 7), (3, 7), (4, 7), (4, 8)]))) (.ops (.o 116 (.bin .add (.t 100) (.i 1)) <|
 .o 100 (.mov (.t 116)) <|
 .nil))))))))) (.mark [0, 5] (.ops (.o 117 (.mov (.t 0)) <|
 .o 118 (.mov (.t 0)) <|
 .o 119 (.nilck (.t 118)) <|
 .o 120 (.fad 2 (.t 119)) <|
 .o 121 (.ld (.t 120)) <|
 .o 122 (.mov (.t 5)) <|
 .bsl 123 1 [.nilp] 1 [(0, .t 122)] <|
 .o 124 (.app 1 (.t 121) (.t 123)) <|
 .o 125 (.nilck (.t 117)) <|
 .o 126 (.fad 2 (.t 125)) <|
 .one ⟨none, .st 1 (.t 126) (.t 124), none⟩ <|
 .nil))))) (.seq (.ops (.o 128 (.bin .eql (.t 59) (.i 9)) <|
 .o 127 (.mov (.t 128)) <|
 .nil)) (.cond (.t 127) (.draw [⟨some 129, .mov (.t 0), none⟩,
 ⟨some 130, .mov (.t 0), none⟩,
 ⟨some 131, .nilck (.t 130), none⟩,
 ⟨some 132, .fad 5 (.t 131), none⟩,
 ⟨some 133, .fad 2 (.t 132), none⟩,
 ⟨some 134, .ld (.t 133), none⟩,
 ⟨some 135, .mov (.t 2), none⟩,
 ⟨some 136, .fad 0 (.t 4), none⟩,
 ⟨some 137, .fad 1 (.t 136), none⟩,
 ⟨some 138, .ld (.t 137), none⟩,
 ⟨some 139, .call (.c (.fn 78 [])) [.t 135, .t 138], none⟩,
 ⟨some 140, .bsl 1 [.i 0] 1 [(0, .t 139)], none⟩,
 ⟨some 141, .app 1 (.t 134) (.t 140), none⟩,
 ⟨some 142, .nilck (.t 129), none⟩,
 ⟨some 143, .fad 5 (.t 142), none⟩,
 ⟨some 144, .fad 2 (.t 143), none⟩,
 ⟨none, .st 1 (.t 144) (.t 141), none⟩] [(0, 10), (1, 10), (2, 10), (3, 10), (4, 10), (5, 10), (5, 11)]) (.seq (.seq (.ops (.o 146 (.bin .eql (.t 59) (.i 34)) <|
 .o 145 (.mov (.t 146)) <|
 .nil)) (.cond (.t 145) (.skip) (.ops (.o 147 (.bin .eql (.t 59) (.i 35)) <|
 .o 145 (.mov (.t 147)) <|
 .nil)))) (.mark [0, 2, 4, 145] (.cond (.t 145) (.ops (.o 148 (.mov (.t 0)) <|
 .o 149 (.mov (.t 2)) <|
 .o 150 (.fad 0 (.t 4)) <|
 .o 151 (.lda 5 (.t 150)) <|
 .o 152 (.call (.c (.fn 79 [])) [.t 148, .t 149, .t 151]) <|
 .nil)) (.ops (.o 60 (.mov (.t 0)) <|
 .o 61 (.mov (.t 2)) <|
 .o 62 (.fad 0 (.t 4)) <|
 .o 63 (.lda 5 (.t 62)) <|
 .o 64 (.call (.c (.fn 80 [])) [.t 60, .t 61, .t 63]) <|
 .nil))))))))))))))))))))
def code42 : AFunc := ⟨153, [], d42.strip⟩

/-- fulling/vcode.Valid$1 -/
def d43 : DCode :=
  .seq (.ops (.o 3 (.mov (.c (.bool false))) <|
 .nil)) (.seq (.ops (.o 4 (.mov (.t 0)) <|
 .o 5 (.bin .geq (.t 4) (.i 0)) <|
 .o 6 (.mov (.t 5)) <|
 .grp (.one ⟨some 7, .mov (.t 0), some (6, true)⟩ <|
 .one ⟨some 8, .fad 2 (.t 1), some (6, true)⟩ <|
 .one ⟨some 9, .ld (.t 8), some (6, true)⟩ <|
 .one ⟨some 10, .len (.t 9), some (6, true)⟩ <|
 .one ⟨some 11, .bin .lss (.t 7) (.t 10), some (6, true)⟩ <|
 .nil) 12 6 true 11 none <|
 .o 3 (.mov (.t 12)) <|
 .nil)) (.ret))
def code43 : AFunc := ⟨13, [.tmp 3], d43.strip⟩

/-- fulling/vcode.Valid$2 -/
def d44 : DCode :=
  .seq (.ops (.o 3 (.mov (.c (.bool false))) <|
 .nil)) (.seq (.ops (.o 4 (.mov (.t 0)) <|
 .o 5 (.bin .geq (.t 4) (.i 0)) <|
 .o 6 (.mov (.t 5)) <|
 .grp (.one ⟨some 7, .mov (.t 0), some (6, true)⟩ <|
 .one ⟨some 8, .fad 1 (.t 1), some (6, true)⟩ <|
 .one ⟨some 9, .ld (.t 8), some (6, true)⟩ <|
 .one ⟨some 10, .bin .lss (.t 7) (.t 9), some (6, true)⟩ <|
 .nil) 11 6 true 10 none <|
 .o 3 (.mov (.t 11)) <|
 .nil)) (.ret))
def code44 : AFunc := ⟨12, [.tmp 3], d44.strip⟩

/-- fulling/vcode.validInstr -/
def d45 : DCode :=
  .seq (.ops (.box 2 (.t 0) <|
 .box 3 (.t 1) <|
 .o 4 (.mov (.c (.bool false))) <|
 .nil)) (.seq (.ops (.o 13 (.fad 0 (.t 3)) <|
 .o 14 (.lda 5 (.t 13)) <|
 .alst 5 [.i 0, .i 0, .i 0, .i 0, .i 0] (.t 14) <|
 .nil)) (.seq (.seq (.ops (.o 15 (.fad 0 (.t 5)) <|
 .o 16 (.ld (.t 15)) <|
 .o 17 (.call (.c (.fn 53 [])) [.t 16]) <|
 .o 18 (.un .not (.t 17)) <|
 .o 19 (.mov (.t 18)) <|
 .grp (.one ⟨some 20, .fad 5 (.t 3), some (19, false)⟩ <|
 .one ⟨some 21, .ld (.t 20), some (19, false)⟩ <|
 .one ⟨some 22, .len (.t 21), some (19, false)⟩ <|
 .one ⟨some 23, .bin .gtr (.t 22) (.i 6), some (19, false)⟩ <|
 .nil) 24 19 false 23 none <|
 .o 25 (.mov (.t 24)) <|
 .grp (.one ⟨some 26, .fad 0 (.t 5), some (25, false)⟩ <|
 .one ⟨some 27, .ld (.t 26), some (25, false)⟩ <|
 .one ⟨some 28, .bin .neq (.t 27) (.i 6), some (25, false)⟩ <|
 .one ⟨some 29, .mov (.t 28), some (25, false)⟩ <|
 .grp (.one ⟨some 30, .fad 5 (.t 3), some (29, true)⟩ <|
 .one ⟨some 31, .ld (.t 30), some (29, true)⟩ <|
 .one ⟨some 32, .len (.t 31), some (29, true)⟩ <|
 .one ⟨some 33, .bin .gtr (.t 32) (.i 0), some (29, true)⟩ <|
 .nil) 34 29 true 33 (some (25, false)) <|
 .nil) 35 25 false 34 none <|
 .nil)) (.cond (.t 35) (.seq (.ops (.o 4 (.mov (.c (.bool false))) <|
 .nil)) (.ret)) (.skip))) (.mark [2, 3, 5] (.seq (.ops (.o 36 (.mkfn 81 [.t 2]) <|
 .o 6 (.mov (.t 36)) <|
 .nil)) (.seq (.seq (.ops (.o 37 (.fad 5 (.t 3)) <|
 .o 38 (.ld (.t 37)) <|
 .o 39 (.len (.t 38)) <|
 .o 40 (.mov (.i 0)) <|
 .nil)) (.block 0 (.loop [2, 5, 6, 38, 39, 40] (.seq (.ops (.o 41 (.bin .lss (.t 40) (.t 39)) <|
 .nil)) (.seq (.cond (.t 41) (.skip) (.exit 0)) (.mark [2, 5, 6, 38, 39, 40] (.seq (.block 1 (.seq (.ops (.o 42 (.iad 1 (.t 38) (.t 40)) <|
 .o 43 (.ld (.t 42)) <|
 .o 8 (.mov (.t 43)) <|
 .nil)) (.seq (.ops (.o 44 (.mov (.t 6)) <|
 .o 45 (.mov (.t 8)) <|
 .o 46 (.call (.t 44) [.t 45]) <|
 .o 47 (.un .not (.t 46)) <|
 .nil)) (.cond (.t 47) (.seq (.ops (.o 4 (.mov (.c (.bool false))) <|
 .nil)) (.ret)) (.skip))))) (.ops (.o 48 (.bin .add (.t 40) (.i 1)) <|
 .o 40 (.mov (.t 48)) <|
 .nil))))))))) (.mark [2, 5, 6] (.seq (.ops (.o 9 (.mov (.c (.bool false))) <|
 .o 10 (.mov (.c (.bool false))) <|
 .o 11 (.mov (.c (.bool false))) <|
 .o 12 (.mov (.c (.bool false))) <|
 .nil)) (.seq (.seq (.ops (.o 49 (.fad 0 (.t 5)) <|
 .o 50 (.ld (.t 49)) <|
 .o 51 (.call (.c (.fn 82 [])) [.t 50]) <|
 .nil)) (.block 2 (.seq (.ops (.o 53 (.bin .eql (.t 51) (.i 2)) <|
 .o 52 (.mov (.t 53)) <|
 .nil)) (.cond (.t 52) (.ops (.o 9 (.mov (.c (.bool true))) <|
 .nil)) (.seq (.ops (.o 55 (.bin .eql (.t 51) (.i 3)) <|
 .o 54 (.mov (.t 55)) <|
 .nil)) (.cond (.t 54) (.ops (.o 9 (.mov (.c (.bool true))) <|
 .o 10 (.mov (.c (.bool true))) <|
 .nil)) (.seq (.ops (.o 57 (.bin .eql (.t 51) (.i 4)) <|
 .o 56 (.mov (.t 57)) <|
 .nil)) (.cond (.t 56) (.ops (.o 9 (.mov (.c (.bool true))) <|
 .o 10 (.mov (.c (.bool true))) <|
 .o 11 (.mov (.c (.bool true))) <|
 .nil)) (.seq (.ops (.o 59 (.bin .eql (.t 51) (.i 5)) <|
 .o 58 (.mov (.t 59)) <|
 .nil)) (.cond (.t 58) (.ops (.o 9 (.mov (.c (.bool true))) <|
 .o 12 (.mov (.c (.bool true))) <|
 .nil)) (.seq (.ops (.o 61 (.bin .eql (.t 51) (.i 7)) <|
 .o 60 (.mov (.t 61)) <|
 .nil)) (.cond (.t 60) (.ops (.o 9 (.mov (.c (.bool true))) <|
 .o 10 (.mov (.c (.bool true))) <|
 .o 12 (.mov (.c (.bool true))) <|
 .nil)) (.skip))))))))))))) (.mark [2, 5, 6, 9, 10, 11, 12] (.seq (.seq (.ops (.o 62 (.mov (.t 9)) <|
 .o 63 (.mov (.t 62)) <|
 .grp (.one ⟨some 64, .mov (.t 6), some (63, true)⟩ <|
 .one ⟨some 65, .fad 1 (.t 5), some (63, true)⟩ <|
 .one ⟨some 66, .ld (.t 65), some (63, true)⟩ <|
 .one ⟨some 67, .call (.t 64) [.t 66], some (63, true)⟩ <|
 .one ⟨some 68, .un .not (.t 67), some (63, true)⟩ <|
 .nil) 69 63 true 68 none <|
 .o 70 (.mov (.t 69)) <|
 .grp (.one ⟨some 71, .mov (.t 10), some (70, false)⟩ <|
 .one ⟨some 72, .mov (.t 71), some (70, false)⟩ <|
 .grp (.one ⟨some 73, .mov (.t 6), some (72, true)⟩ <|
 .one ⟨some 74, .fad 2 (.t 5), some (72, true)⟩ <|
 .one ⟨some 75, .ld (.t 74), some (72, true)⟩ <|
 .one ⟨some 76, .call (.t 73) [.t 75], some (72, true)⟩ <|
 .one ⟨some 77, .un .not (.t 76), some (72, true)⟩ <|
 .nil) 78 72 true 77 (some (70, false)) <|
 .nil) 79 70 false 78 none <|
 .o 80 (.mov (.t 79)) <|
 .grp (.one ⟨some 81, .mov (.t 11), some (80, false)⟩ <|
 .one ⟨some 82, .mov (.t 81), some (80, false)⟩ <|
 .grp (.one ⟨some 83, .mov (.t 6), some (82, true)⟩ <|
 .one ⟨some 84, .fad 3 (.t 5), some (82, true)⟩ <|
 .one ⟨some 85, .ld (.t 84), some (82, true)⟩ <|
 .one ⟨some 86, .call (.t 83) [.t 85], some (82, true)⟩ <|
 .one ⟨some 87, .un .not (.t 86), some (82, true)⟩ <|
 .nil) 88 82 true 87 (some (80, false)) <|
 .nil) 89 80 false 88 none <|
 .o 90 (.mov (.t 89)) <|
 .grp (.one ⟨some 91, .mov (.t 9), some (90, false)⟩ <|
 .one ⟨some 92, .un .not (.t 91), some (90, false)⟩ <|
 .one ⟨some 93, .mov (.t 92), some (90, false)⟩ <|
 .grp (.one ⟨some 94, .fad 1 (.t 5), some (93, true)⟩ <|
 .one ⟨some 95, .ld (.t 94), some (93, true)⟩ <|
 .one ⟨some 96, .bin .neq (.t 95) (.i 0), some (93, true)⟩ <|
 .nil) 97 93 true 96 (some (90, false)) <|
 .nil) 98 90 false 97 none <|
 .o 99 (.mov (.t 98)) <|
 .grp (.one ⟨some 100, .mov (.t 10), some (99, false)⟩ <|
 .one ⟨some 101, .un .not (.t 100), some (99, false)⟩ <|
 .one ⟨some 102, .mov (.t 101), some (99, false)⟩ <|
 .grp (.one ⟨some 103, .fad 2 (.t 5), some (102, true)⟩ <|
 .one ⟨some 104, .ld (.t 103), some (102, true)⟩ <|
 .one ⟨some 105, .bin .neq (.t 104) (.i 0), some (102, true)⟩ <|
 .nil) 106 102 true 105 (some (99, false)) <|
 .nil) 107 99 false 106 none <|
 .o 108 (.mov (.t 107)) <|
 .grp (.one ⟨some 109, .mov (.t 11), some (108, false)⟩ <|
 .one ⟨some 110, .un .not (.t 109), some (108, false)⟩ <|
 .one ⟨some 111, .mov (.t 110), some (108, false)⟩ <|
 .grp (.one ⟨some 112, .fad 3 (.t 5), some (111, true)⟩ <|
 .one ⟨some 113, .ld (.t 112), some (111, true)⟩ <|
 .one ⟨some 114, .bin .neq (.t 113) (.i 0), some (111, true)⟩ <|
 .nil) 115 111 true 114 (some (108, false)) <|
 .nil) 116 108 false 115 none <|
 .o 117 (.mov (.t 116)) <|
 .grp (.one ⟨some 118, .mov (.t 12), some (117, false)⟩ <|
 .one ⟨some 119, .un .not (.t 118), some (117, false)⟩ <|
 .one ⟨some 120, .mov (.t 119), some (117, false)⟩ <|
 .grp (.one ⟨some 121, .fad 4 (.t 5), some (120, true)⟩ <|
 .one ⟨some 122, .ld (.t 121), some (120, true)⟩ <|
 .one ⟨some 123, .bin .neq (.t 122) (.i 0), some (120, true)⟩ <|
 .nil) 124 120 true 123 (some (117, false)) <|
 .nil) 125 117 false 124 none <|
 .nil)) (.cond (.t 125) (.seq (.ops (.o 4 (.mov (.c (.bool false))) <|
 .nil)) (.ret)) (.skip))) (.mark [2, 5] (.seq (.seq (.ops (.o 126 (.fad 0 (.t 5)) <|
 .o 127 (.ld (.t 126)) <|
 .nil)) (.block 3 (.seq (.ops (.o 129 (.bin .eql (.t 127) (.i 33)) <|
 .o 128 (.mov (.t 129)) <|
 .nil)) (.cond (.t 128) (.seq (.ops (.o 130 (.fad 4 (.t 5)) <|
 .o 131 (.ld (.t 130)) <|
 .o 132 (.bin .geq (.t 131) (.i (-4194304))) <|
 .o 133 (.mov (.t 132)) <|
 .grp (.one ⟨some 134, .fad 4 (.t 5), some (133, true)⟩ <|
 .one ⟨some 135, .ld (.t 134), some (133, true)⟩ <|
 .one ⟨some 136, .bin .lss (.t 135) (.i 4194304), some (133, true)⟩ <|
 .nil) 137 133 true 136 none <|
 .o 4 (.mov (.t 137)) <|
 .nil)) (.ret)) (.seq (.ops (.o 139 (.bin .eql (.t 127) (.i 6)) <|
 .o 138 (.mov (.t 139)) <|
 .nil)) (.cond (.t 138) (.seq (.ops (.o 140 (.fad 4 (.t 5)) <|
 .o 141 (.ld (.t 140)) <|
 .o 142 (.bin .geq (.t 141) (.i 0)) <|
 .o 143 (.mov (.t 142)) <|
 .grp (.one ⟨some 144, .fad 4 (.t 5), some (143, true)⟩ <|
 .one ⟨some 145, .ld (.t 144), some (143, true)⟩ <|
 .one ⟨some 146, .bin .lss (.t 145) (.i 8), some (143, true)⟩ <|
 .nil) 147 143 true 146 none <|
 .o 4 (.mov (.t 147)) <|
 .nil)) (.ret)) (.seq (.seq (.ops (.o 149 (.bin .eql (.t 127) (.i 34)) <|
 .o 148 (.mov (.t 149)) <|
 .nil)) (.cond (.t 148) (.skip) (.ops (.o 150 (.bin .eql (.t 127) (.i 35)) <|
 .o 148 (.mov (.t 150)) <|
 .nil)))) (.mark [2, 5, 127, 148] (.cond (.t 148) (.seq (.ops (.o 151 (.fad 4 (.t 5)) <|
 .o 152 (.ld (.t 151)) <|
 .o 153 (.bin .geq (.t 152) (.i 0)) <|
 .o 154 (.mov (.t 153)) <|
 .grp (.one ⟨some 155, .fad 4 (.t 5), some (154, true)⟩ <|
 .one ⟨some 156, .ld (.t 155), some (154, true)⟩ <|
 .one ⟨some 157, .bin .lss (.t 156) (.i 4), some (154, true)⟩ <|
 .nil) 158 154 true 157 none <|
 .o 4 (.mov (.t 158)) <|
 .nil)) (.ret)) (.seq (.ops (.o 160 (.bin .eql (.t 127) (.i 38)) <|
 .o 159 (.mov (.t 160)) <|
 .nil)) (.cond (.t 159) (.seq (.ops (.o 161 (.fad 4 (.t 5)) <|
 .o 162 (.ld (.t 161)) <|
 .o 163 (.bin .geq (.t 162) (.i 0)) <|
 .o 164 (.mov (.t 163)) <|
 .grp (.one ⟨some 165, .fad 4 (.t 5), some (164, true)⟩ <|
 .one ⟨some 166, .ld (.t 165), some (164, true)⟩ <|
 .one ⟨some 167, .fad 0 (.t 2), some (164, true)⟩ <|
 .one ⟨some 168, .ld (.t 167), some (164, true)⟩ <|
 .one ⟨some 169, .bin .lss (.t 166) (.t 168), some (164, true)⟩ <|
 .nil) 170 164 true 169 none <|
 .o 4 (.mov (.t 170)) <|
 .nil)) (.ret)) (.skip)))))))))))) (.seq (.ops (.o 4 (.mov (.c (.bool true))) <|
 .nil)) (.ret))))))))))))))
def code45 : AFunc := ⟨171, [.tmp 4], d45.strip⟩

/-- fulling/vcode.unique -/
def d46 : DCode :=
  .seq (.ops (.o 2 (.mov (.c (.nilsl))) <|
 .nil)) (.seq (.ops (.o 3 (.mov (.c (.nilsl))) <|
 .nil)) (.seq (.seq (.ops (.o 7 (.mov (.t 0)) <|
 .o 8 (.len (.t 7)) <|
 .o 9 (.mov (.i 0)) <|
 .nil)) (.block 0 (.loop [3, 7, 8, 9] (.seq (.ops (.o 10 (.bin .lss (.t 9) (.t 8)) <|
 .nil)) (.seq (.cond (.t 10) (.skip) (.exit 0)) (.mark [3, 7, 8, 9] (.seq (.block 1 (.seq (.ops (.o 11 (.iad 1 (.t 7) (.t 9)) <|
 .o 12 (.ld (.t 11)) <|
 .o 5 (.mov (.t 12)) <|
 .nil)) (.seq (.ops (.o 13 (.mov (.t 3)) <|
 .o 14 (.len (.t 13)) <|
 .o 6 (.mov (.t 14)) <|
 .nil)) (.seq (.block 2 (.loop [3, 5, 6, 7, 8, 9] (.seq (.seq (.ops (.o 15 (.mov (.t 6)) <|
 .o 16 (.bin .gtr (.t 15) (.i 0)) <|
 .o 17 (.mov (.t 16)) <|
 .grp (.one ⟨some 18, .mov (.t 3), some (17, true)⟩ <|
 .one ⟨some 19, .mov (.t 6), some (17, true)⟩ <|
 .one ⟨some 20, .bin .sub (.t 19) (.i 1), some (17, true)⟩ <|
 .one ⟨some 21, .iad 1 (.t 18) (.t 20), some (17, true)⟩ <|
 .one ⟨some 22, .ld (.t 21), some (17, true)⟩ <|
 .one ⟨some 23, .mov (.t 5), some (17, true)⟩ <|
 .one ⟨some 24, .bin .geq (.t 22) (.t 23), some (17, true)⟩ <|
 .nil) 25 17 true 24 none <|
 .nil)) (.cond (.t 25) (.skip) (.exit 2))) (.block 3 (.ops (.o 26 (.mov (.t 6)) <|
 .o 27 (.bin .sub (.t 26) (.i 1)) <|
 .o 6 (.mov (.t 27)) <|
 .nil)))))) (.mark [3, 5, 6, 7, 8, 9] (.seq (.seq (.ops (.o 28 (.mov (.t 6)) <|
 .o 29 (.mov (.t 3)) <|
 .o 30 (.len (.t 29)) <|
 .o 31 (.bin .lss (.t 28) (.t 30)) <|
 .o 32 (.mov (.t 31)) <|
 .grp (.one ⟨some 33, .mov (.t 3), some (32, true)⟩ <|
 .one ⟨some 34, .mov (.t 6), some (32, true)⟩ <|
 .one ⟨some 35, .iad 1 (.t 33) (.t 34), some (32, true)⟩ <|
 .one ⟨some 36, .ld (.t 35), some (32, true)⟩ <|
 .one ⟨some 37, .mov (.t 5), some (32, true)⟩ <|
 .one ⟨some 38, .bin .eql (.t 36) (.t 37), some (32, true)⟩ <|
 .nil) 39 32 true 38 none <|
 .nil)) (.cond (.t 39) (.exit 1) (.skip))) (.mark [3, 5, 6, 7, 8, 9] (.seq (.ops (.o 40 (.mov (.t 3)) <|
 .bsl 41 1 [.i 0] 1 [(0, .i 0)] <|
 .o 42 (.app 1 (.t 40) (.t 41)) <|
 .o 3 (.mov (.t 42)) <|
 .nil)) (.seq (.drawq (.o 43 (.mov (.t 3)) <|
 .o 44 (.mov (.t 6)) <|
 .o 45 (.bin .add (.t 44) (.i 1)) <|
 .o 46 (.slice 1 (.t 43) (some (.t 45)) none) <|
 .o 47 (.mov (.t 3)) <|
 .o 48 (.mov (.t 6)) <|
 .o 49 (.slice 1 (.t 47) (some (.t 48)) none) <|
 .o 50 (.cpy 1 (.t 46) (.t 49)) <|
 .nil) []) (.ops (.o 51 (.mov (.t 3)) <|
 .o 52 (.mov (.t 6)) <|
 .o 53 (.mov (.t 5)) <|
 .o 54 (.iad 1 (.t 51) (.t 52)) <|
 .one ⟨none, .st 1 (.t 54) (.t 53), none⟩ <|
 .nil))))))))))) (.ops (.o 55 (.bin .add (.t 9) (.i 1)) <|
 .o 9 (.mov (.t 55)) <|
 .nil))))))))) (.seq (.ops (.o 56 (.mov (.t 3)) <|
 .o 2 (.mov (.t 56)) <|
 .nil)) (.ret))))
def code46 : AFunc := ⟨57, [.tmp 2], d46.strip⟩

/-- (*fulling/fullingkeep2.Digits).Next -/
def d47 : DCode :=
  .seq (.ops (.o 4 (.mov (.i 0)) <|
 .nil)) (.seq (.ops (.o 6 (.mov (.t 0)) <|
 .o 7 (.nilck (.t 6)) <|
 .o 8 (.fad 0 (.t 7)) <|
 .o 9 (.ld (.t 8)) <|
 .o 10 (.mov (.t 1)) <|
 .o 11 (.call (.c (.fn 19 [])) [.t 9, .t 10]) <|
 .o 5 (.mov (.t 11)) <|
 .nil)) (.seq (.ops (.o 12 (.mov (.t 0)) <|
 .o 13 (.mov (.t 0)) <|
 .o 14 (.nilck (.t 13)) <|
 .o 15 (.fad 0 (.t 14)) <|
 .o 16 (.ld (.t 15)) <|
 .o 17 (.mov (.t 5)) <|
 .o 18 (.bin .sub (.t 16) (.t 17)) <|
 .o 19 (.mov (.t 1)) <|
 .o 20 (.bin .quo (.t 18) (.t 19)) <|
 .o 21 (.nilck (.t 12)) <|
 .o 22 (.fad 0 (.t 21)) <|
 .one ⟨none, .st 1 (.t 22) (.t 20), none⟩ <|
 .nil)) (.seq (.ops (.o 23 (.mov (.t 5)) <|
 .o 4 (.mov (.t 23)) <|
 .nil)) (.ret))))
def code47 : AFunc := ⟨24, [.tmp 4], d47.strip⟩

/-- fulling/fullingkeep.Word -/
def d48 : DCode :=
  .seq (.ops (.o 4 (.mov (.i 0)) <|
 .nil)) (.seq (.ops (.bsl 7 1 [.i 0] 10 [(0, .i 0), (1, .i 1), (2, .i (-1)), (3, .i 2), (4, .i (-9223372036854775808)), (5, .i 9223372036854775807), (6, .i 4294967296), (7, .i (-2147483648)), (8, .i 63), (9, .i 64)] <|
 .o 5 (.mov (.t 7)) <|
 .nil)) (.seq (.ops (.o 8 (.mov (.t 0)) <|
 .o 9 (.call (.c (.fn 19 [])) [.t 8, .i 24]) <|
 .o 6 (.mov (.t 9)) <|
 .nil)) (.seq (.block 0 (.seq (.ops (.o 11 (.mov (.t 6)) <|
 .o 12 (.bin .lss (.t 11) (.i 10)) <|
 .o 10 (.mov (.t 12)) <|
 .nil)) (.cond (.t 10) (.seq (.ops (.o 13 (.mov (.t 5)) <|
 .o 14 (.mov (.t 6)) <|
 .o 15 (.iad 1 (.t 13) (.t 14)) <|
 .o 16 (.ld (.t 15)) <|
 .o 4 (.mov (.t 16)) <|
 .nil)) (.ret)) (.seq (.ops (.o 18 (.mov (.t 6)) <|
 .o 19 (.bin .lss (.t 18) (.i 22)) <|
 .o 17 (.mov (.t 19)) <|
 .nil)) (.cond (.t 17) (.seq (.ops (.o 20 (.mov (.t 0)) <|
 .o 21 (.bin .quo (.t 20) (.i 24)) <|
 .o 22 (.call (.c (.fn 19 [])) [.t 21, .i 17]) <|
 .o 23 (.bin .sub (.t 22) (.i 6)) <|
 .o 4 (.mov (.t 23)) <|
 .nil)) (.ret)) (.skip)))))) (.seq (.ops (.o 24 (.mov (.t 1)) <|
 .o 4 (.mov (.t 24)) <|
 .nil)) (.ret)))))
def code48 : AFunc := ⟨25, [.tmp 4], d48.strip⟩

/-- fulling/fullingref32.validEnd -/
def d49 : DCode :=
  .seq (.ops (.box 2 (.t 0) <|
 .box 3 (.t 1) <|
 .o 4 (.mov (.c (.bool false))) <|
 .nil)) (.seq (.ops (.o 9 (.fad 2 (.t 3)) <|
 .o 10 (.ld (.t 9)) <|
 .o 11 (.len (.t 10)) <|
 .o 5 (.mov (.t 11)) <|
 .nil)) (.seq (.drawq (.o 12 (.fad 3 (.t 2)) <|
 .o 13 (.ld (.t 12)) <|
 .o 14 (.bin .geq (.t 13) (.i 0)) <|
 .o 15 (.mov (.t 14)) <|
 .grp (.one ⟨some 16, .fad 3 (.t 2), some (15, true)⟩ <|
 .one ⟨some 17, .ld (.t 16), some (15, true)⟩ <|
 .one ⟨some 18, .mov (.t 5), some (15, true)⟩ <|
 .one ⟨some 19, .bin .lss (.t 17) (.t 18), some (15, true)⟩ <|
 .nil) 20 15 true 19 none <|
 .o 21 (.fad 4 (.t 2)) <|
 .o 22 (.ld (.t 21)) <|
 .o 23 (.bin .geq (.t 22) (.i 0)) <|
 .o 24 (.mov (.t 23)) <|
 .grp (.one ⟨some 25, .fad 4 (.t 2), some (24, true)⟩ <|
 .one ⟨some 26, .ld (.t 25), some (24, true)⟩ <|
 .one ⟨some 27, .mov (.t 5), some (24, true)⟩ <|
 .one ⟨some 28, .bin .lss (.t 26) (.t 27), some (24, true)⟩ <|
 .nil) 29 24 true 28 none <|
 .o 30 (.fad 2 (.t 2)) <|
 .o 31 (.ld (.t 30)) <|
 .o 32 (.bin .geq (.t 31) (.i 0)) <|
 .o 33 (.mov (.t 32)) <|
 .grp (.one ⟨some 34, .fad 2 (.t 2), some (33, true)⟩ <|
 .one ⟨some 35, .ld (.t 34), some (33, true)⟩ <|
 .one ⟨some 36, .fad 1 (.t 3), some (33, true)⟩ <|
 .one ⟨some 37, .ld (.t 36), some (33, true)⟩ <|
 .one ⟨some 38, .bin .lss (.t 35) (.t 37), some (33, true)⟩ <|
 .nil) 39 33 true 38 none <|
 .o 6 (.mov (.t 20)) <|
 .o 7 (.mov (.t 29)) <|
 .o 8 (.mov (.t 39)) <|
 .nil) []) (.seq (.seq (.ops (.o 40 (.fad 1 (.t 2)) <|
 .o 41 (.ld (.t 40)) <|
 .nil)) (.block 0 (.seq (.ops (.o 43 (.bin .eql (.t 41) (.i 1)) <|
 .o 42 (.mov (.t 43)) <|
 .nil)) (.cond (.t 42) (.seq (.ops (.o 44 (.mov (.t 6)) <|
 .o 45 (.mov (.t 44)) <|
 .grp (.one ⟨some 46, .fad 4 (.t 2), some (45, true)⟩ <|
 .one ⟨some 47, .ld (.t 46), some (45, true)⟩ <|
 .one ⟨some 48, .bin .eql (.t 47) (.i 0), some (45, true)⟩ <|
 .nil) 49 45 true 48 none <|
 .o 50 (.mov (.t 49)) <|
 .grp (.one ⟨some 51, .fad 2 (.t 2), some (50, true)⟩ <|
 .one ⟨some 52, .ld (.t 51), some (50, true)⟩ <|
 .one ⟨some 53, .bin .eql (.t 52) (.i 0), some (50, true)⟩ <|
 .nil) 54 50 true 53 none <|
 .o 4 (.mov (.t 54)) <|
 .nil)) (.ret)) (.seq (.ops (.o 56 (.bin .eql (.t 41) (.i 2)) <|
 .o 55 (.mov (.t 56)) <|
 .nil)) (.cond (.t 55) (.seq (.ops (.o 57 (.mov (.t 6)) <|
 .o 58 (.mov (.t 57)) <|
 .grp (.one ⟨some 59, .mov (.t 7), some (58, true)⟩ <|
 .nil) 60 58 true 59 none <|
 .o 61 (.mov (.t 60)) <|
 .grp (.one ⟨some 62, .mov (.t 8), some (61, true)⟩ <|
 .nil) 63 61 true 62 none <|
 .o 4 (.mov (.t 63)) <|
 .nil)) (.ret)) (.seq (.ops (.o 65 (.bin .eql (.t 41) (.i 3)) <|
 .o 64 (.mov (.t 65)) <|
 .nil)) (.cond (.t 64) (.seq (.ops (.o 66 (.mov (.t 8)) <|
 .o 67 (.mov (.t 66)) <|
 .grp (.one ⟨some 68, .fad 3 (.t 2), some (67, true)⟩ <|
 .one ⟨some 69, .ld (.t 68), some (67, true)⟩ <|
 .one ⟨some 70, .bin .eql (.t 69) (.i 0), some (67, true)⟩ <|
 .nil) 71 67 true 70 none <|
 .o 72 (.mov (.t 71)) <|
 .grp (.one ⟨some 73, .fad 4 (.t 2), some (72, true)⟩ <|
 .one ⟨some 74, .ld (.t 73), some (72, true)⟩ <|
 .one ⟨some 75, .bin .eql (.t 74) (.i 0), some (72, true)⟩ <|
 .nil) 76 72 true 75 none <|
 .o 4 (.mov (.t 76)) <|
 .nil)) (.ret)) (.seq (.ops (.o 78 (.bin .eql (.t 41) (.i 4)) <|
 .o 77 (.mov (.t 78)) <|
 .nil)) (.cond (.t 77) (.seq (.ops (.o 79 (.fad 3 (.t 2)) <|
 .o 80 (.ld (.t 79)) <|
 .o 81 (.bin .geq (.t 80) (.i 1)) <|
 .o 82 (.mov (.t 81)) <|
 .grp (.one ⟨some 83, .fad 3 (.t 2), some (82, true)⟩ <|
 .one ⟨some 84, .ld (.t 83), some (82, true)⟩ <|
 .one ⟨some 85, .bin .lss (.t 84) (.i 33554432), some (82, true)⟩ <|
 .nil) 86 82 true 85 none <|
 .o 87 (.mov (.t 86)) <|
 .grp (.one ⟨some 88, .fad 4 (.t 2), some (87, true)⟩ <|
 .one ⟨some 89, .ld (.t 88), some (87, true)⟩ <|
 .one ⟨some 90, .bin .eql (.t 89) (.i 0), some (87, true)⟩ <|
 .nil) 91 87 true 90 none <|
 .o 92 (.mov (.t 91)) <|
 .grp (.one ⟨some 93, .fad 2 (.t 2), some (92, true)⟩ <|
 .one ⟨some 94, .ld (.t 93), some (92, true)⟩ <|
 .one ⟨some 95, .bin .eql (.t 94) (.i 0), some (92, true)⟩ <|
 .nil) 96 92 true 95 none <|
 .o 4 (.mov (.t 96)) <|
 .nil)) (.ret)) (.skip))))))))))) (.seq (.ops (.o 4 (.mov (.c (.bool false))) <|
 .nil)) (.ret)))))
def code49 : AFunc := ⟨97, [.tmp 4], d49.strip⟩

/-- fulling/fullingref32.validInstr -/
def d50 : DCode :=
  .seq (.ops (.box 2 (.t 0) <|
 .box 3 (.t 1) <|
 .o 4 (.mov (.c (.bool false))) <|
 .nil)) (.seq (.ops (.o 10 (.fad 0 (.t 2)) <|
 .o 11 (.lda 5 (.t 10)) <|
 .alst 5 [.i 0, .i 0, .i 0, .i 0, .i 0] (.t 11) <|
 .nil)) (.seq (.seq (.ops (.o 12 (.fad 0 (.t 5)) <|
 .o 13 (.ld (.t 12)) <|
 .o 14 (.call (.c (.fn 55 [])) [.t 13]) <|
 .o 15 (.un .not (.t 14)) <|
 .o 16 (.mov (.t 15)) <|
 .grp (.one ⟨some 17, .fad 0 (.t 5), some (16, false)⟩ <|
 .one ⟨some 18, .ld (.t 17), some (16, false)⟩ <|
 .one ⟨some 19, .bin .neq (.t 18) (.i 6), some (16, false)⟩ <|
 .one ⟨some 20, .mov (.t 19), some (16, false)⟩ <|
 .grp (.one ⟨some 21, .fad 5 (.t 2), some (20, true)⟩ <|
 .one ⟨some 22, .ld (.t 21), some (20, true)⟩ <|
 .one ⟨some 23, .len (.t 22), some (20, true)⟩ <|
 .one ⟨some 24, .bin .gtr (.t 23) (.i 0), some (20, true)⟩ <|
 .nil) 25 20 true 24 (some (16, false)) <|
 .nil) 26 16 false 25 none <|
 .o 27 (.mov (.t 26)) <|
 .grp (.one ⟨some 28, .fad 5 (.t 2), some (27, false)⟩ <|
 .one ⟨some 29, .ld (.t 28), some (27, false)⟩ <|
 .one ⟨some 30, .len (.t 29), some (27, false)⟩ <|
 .one ⟨some 31, .bin .gtr (.t 30) (.i 6), some (27, false)⟩ <|
 .nil) 32 27 false 31 none <|
 .nil)) (.cond (.t 32) (.seq (.ops (.o 4 (.mov (.c (.bool false))) <|
 .nil)) (.ret)) (.skip))) (.mark [2, 3, 5] (.seq (.seq (.ops (.o 6 (.mov (.i 0)) <|
 .nil)) (.block 0 (.loop [2, 3, 5, 6] (.seq (.seq (.ops (.o 33 (.mov (.t 6)) <|
 .o 34 (.fad 5 (.t 2)) <|
 .o 35 (.ld (.t 34)) <|
 .o 36 (.len (.t 35)) <|
 .o 37 (.bin .lss (.t 33) (.t 36)) <|
 .nil)) (.cond (.t 37) (.skip) (.exit 0))) (.mark [2, 3, 5, 6] (.seq (.block 1 (.seq (.drawq (.o 40 (.fad 5 (.t 2)) <|
 .o 41 (.ld (.t 40)) <|
 .o 42 (.mov (.t 6)) <|
 .o 43 (.iad 1 (.t 41) (.t 42)) <|
 .o 44 (.ld (.t 43)) <|
 .o 45 (.bin .lss (.t 44) (.i 0)) <|
 .o 46 (.mov (.t 45)) <|
 .grp (.one ⟨some 47, .fad 5 (.t 2), some (46, false)⟩ <|
 .one ⟨some 48, .ld (.t 47), some (46, false)⟩ <|
 .one ⟨some 49, .mov (.t 6), some (46, false)⟩ <|
 .one ⟨some 50, .iad 1 (.t 48) (.t 49), some (46, false)⟩ <|
 .one ⟨some 51, .ld (.t 50), some (46, false)⟩ <|
 .one ⟨some 52, .fad 1 (.t 3), some (46, false)⟩ <|
 .one ⟨some 53, .ld (.t 52), some (46, false)⟩ <|
 .one ⟨some 54, .bin .geq (.t 51) (.t 53), some (46, false)⟩ <|
 .nil) 55 46 false 54 none <|
 .nil) []) (.cond (.t 55) (.seq (.ops (.o 4 (.mov (.c (.bool false))) <|
 .nil)) (.ret)) (.skip)))) (.ops (.o 38 (.mov (.t 6)) <|
 .o 39 (.bin .add (.t 38) (.i 1)) <|
 .o 6 (.mov (.t 39)) <|
 .nil)))))))) (.mark [3, 5] (.seq (.ops (.o 56 (.fad 0 (.t 5)) <|
 .o 57 (.ld (.t 56)) <|
 .o 58 (.call (.c (.fn 56 [])) [.t 57]) <|
 .o 59 (.fld 1 (.t 58)) <|
 .o 7 (.mov (.t 59)) <|
 .nil)) (.seq (.ops (.o 60 (.mov (.t 7)) <|
 .o 61 (.bin .neq (.t 60) (.i 1)) <|
 .o 8 (.mov (.t 61)) <|
 .nil)) (.seq (.ops (.o 62 (.mov (.t 7)) <|
 .o 63 (.bin .eql (.t 62) (.i 3)) <|
 .o 64 (.mov (.t 63)) <|
 .grp (.one ⟨some 65, .mov (.t 7), some (64, false)⟩ <|
 .one ⟨some 66, .bin .eql (.t 65) (.i 4), some (64, false)⟩ <|
 .nil) 67 64 false 66 none <|
 .o 68 (.mov (.t 67)) <|
 .grp (.one ⟨some 69, .mov (.t 7), some (68, false)⟩ <|
 .one ⟨some 70, .bin .eql (.t 69) (.i 7), some (68, false)⟩ <|
 .nil) 71 68 false 70 none <|
 .o 9 (.mov (.t 71)) <|
 .nil)) (.seq (.seq (.ops (.o 72 (.mov (.t 8)) <|
 .o 73 (.fad 1 (.t 5)) <|
 .o 74 (.ld (.t 73)) <|
 .o 75 (.fad 1 (.t 3)) <|
 .o 76 (.ld (.t 75)) <|
 .o 77 (.call (.c (.fn 83 [])) [.t 72, .t 74, .t 76]) <|
 .o 78 (.un .not (.t 77)) <|
 .o 79 (.mov (.t 78)) <|
 .grp (.one ⟨some 80, .mov (.t 9), some (79, false)⟩ <|
 .one ⟨some 81, .fad 2 (.t 5), some (79, false)⟩ <|
 .one ⟨some 82, .ld (.t 81), some (79, false)⟩ <|
 .one ⟨some 83, .fad 1 (.t 3), some (79, false)⟩ <|
 .one ⟨some 84, .ld (.t 83), some (79, false)⟩ <|
 .one ⟨some 85, .call (.c (.fn 83 [])) [.t 80, .t 82, .t 84], some (79, false)⟩ <|
 .one ⟨some 86, .un .not (.t 85), some (79, false)⟩ <|
 .nil) 87 79 false 86 none <|
 .o 88 (.mov (.t 87)) <|
 .grp (.one ⟨some 89, .mov (.t 7), some (88, false)⟩ <|
 .one ⟨some 90, .bin .eql (.t 89) (.i 4), some (88, false)⟩ <|
 .one ⟨some 91, .fad 3 (.t 5), some (88, false)⟩ <|
 .one ⟨some 92, .ld (.t 91), some (88, false)⟩ <|
 .one ⟨some 93, .fad 1 (.t 3), some (88, false)⟩ <|
 .one ⟨some 94, .ld (.t 93), some (88, false)⟩ <|
 .one ⟨some 95, .call (.c (.fn 83 [])) [.t 90, .t 92, .t 94], some (88, false)⟩ <|
 .one ⟨some 96, .un .not (.t 95), some (88, false)⟩ <|
 .nil) 97 88 false 96 none <|
 .nil)) (.cond (.t 97) (.seq (.ops (.o 4 (.mov (.c (.bool false))) <|
 .nil)) (.ret)) (.skip))) (.mark [3, 5] (.seq (.seq (.ops (.o 98 (.fad 0 (.t 5)) <|
 .o 99 (.ld (.t 98)) <|
 .nil)) (.block 2 (.seq (.ops (.o 101 (.bin .eql (.t 99) (.i 13)) <|
 .o 100 (.mov (.t 101)) <|
 .nil)) (.cond (.t 100) (.seq (.ops (.o 4 (.mov (.c (.bool true))) <|
 .nil)) (.ret)) (.seq (.ops (.o 103 (.bin .eql (.t 99) (.i 33)) <|
 .o 102 (.mov (.t 103)) <|
 .nil)) (.cond (.t 102) (.seq (.ops (.o 104 (.fad 4 (.t 5)) <|
 .o 105 (.ld (.t 104)) <|
 .o 106 (.bin .geq (.t 105) (.i (-4194304))) <|
 .o 107 (.mov (.t 106)) <|
 .grp (.one ⟨some 108, .fad 4 (.t 5), some (107, true)⟩ <|
 .one ⟨some 109, .ld (.t 108), some (107, true)⟩ <|
 .one ⟨some 110, .bin .lss (.t 109) (.i 4194304), some (107, true)⟩ <|
 .nil) 111 107 true 110 none <|
 .o 4 (.mov (.t 111)) <|
 .nil)) (.ret)) (.seq (.ops (.o 113 (.bin .eql (.t 99) (.i 6)) <|
 .o 112 (.mov (.t 113)) <|
 .nil)) (.cond (.t 112) (.seq (.ops (.o 114 (.fad 4 (.t 5)) <|
 .o 115 (.ld (.t 114)) <|
 .o 116 (.bin .geq (.t 115) (.i 0)) <|
 .o 117 (.mov (.t 116)) <|
 .grp (.one ⟨some 118, .fad 4 (.t 5), some (117, true)⟩ <|
 .one ⟨some 119, .ld (.t 118), some (117, true)⟩ <|
 .one ⟨some 120, .bin .lss (.t 119) (.i 8), some (117, true)⟩ <|
 .nil) 121 117 true 120 none <|
 .o 4 (.mov (.t 121)) <|
 .nil)) (.ret)) (.seq (.seq (.ops (.o 123 (.bin .eql (.t 99) (.i 34)) <|
 .o 122 (.mov (.t 123)) <|
 .nil)) (.cond (.t 122) (.skip) (.ops (.o 124 (.bin .eql (.t 99) (.i 35)) <|
 .o 122 (.mov (.t 124)) <|
 .nil)))) (.mark [3, 5, 99, 122] (.cond (.t 122) (.seq (.ops (.o 125 (.fad 4 (.t 5)) <|
 .o 126 (.ld (.t 125)) <|
 .o 127 (.bin .geq (.t 126) (.i 0)) <|
 .o 128 (.mov (.t 127)) <|
 .grp (.one ⟨some 129, .fad 4 (.t 5), some (128, true)⟩ <|
 .one ⟨some 130, .ld (.t 129), some (128, true)⟩ <|
 .one ⟨some 131, .bin .lss (.t 130) (.i 4), some (128, true)⟩ <|
 .nil) 132 128 true 131 none <|
 .o 4 (.mov (.t 132)) <|
 .nil)) (.ret)) (.seq (.ops (.o 134 (.bin .eql (.t 99) (.i 38)) <|
 .o 133 (.mov (.t 134)) <|
 .nil)) (.cond (.t 133) (.seq (.ops (.o 135 (.fad 4 (.t 5)) <|
 .o 136 (.ld (.t 135)) <|
 .o 137 (.bin .geq (.t 136) (.i 0)) <|
 .o 138 (.mov (.t 137)) <|
 .grp (.one ⟨some 139, .fad 4 (.t 5), some (138, true)⟩ <|
 .one ⟨some 140, .ld (.t 139), some (138, true)⟩ <|
 .one ⟨some 141, .fad 0 (.t 3), some (138, true)⟩ <|
 .one ⟨some 142, .ld (.t 141), some (138, true)⟩ <|
 .one ⟨some 143, .bin .lss (.t 140) (.t 142), some (138, true)⟩ <|
 .nil) 144 138 true 143 none <|
 .o 4 (.mov (.t 144)) <|
 .nil)) (.ret)) (.skip)))))))))))))) (.seq (.ops (.o 145 (.fad 4 (.t 5)) <|
 .o 146 (.ld (.t 145)) <|
 .o 147 (.bin .eql (.t 146) (.i 0)) <|
 .o 4 (.mov (.t 147)) <|
 .nil)) (.ret)))))))))))))
def code50 : AFunc := ⟨148, [.tmp 4], d50.strip⟩

/-- (*fulling/fullingref32.interpreter).call -/
def d51 : DCode :=
  .seq (.ops (.o 6 (.mov (.i 0)) <|
 .nil)) (.seq (.ops (.o 12 (.mov (.t 0)) <|
 .o 13 (.nilck (.t 12)) <|
 .o 14 (.fad 0 (.t 13)) <|
 .o 15 (.ld (.t 14)) <|
 .o 16 (.mov (.t 1)) <|
 .o 17 (.iad 3 (.t 15) (.t 16)) <|
 .o 18 (.lda 3 (.t 17)) <|
 .alst 7 [.i 0, .i 0, .nilsl] (.t 18) <|
 .nil)) (.seq (.ops (.o 19 (.fad 1 (.t 7)) <|
 .o 20 (.ld (.t 19)) <|
 .o 21 (.mksl 1 8 [.i 0] (.t 20) (.t 20)) <|
 .o 8 (.mov (.t 21)) <|
 .nil)) (.seq (.ops (.o 9 (.mov (.i 0)) <|
 .nil)) (.seq (.block 0 (.loop [0, 2, 7, 8, 9] (.seq (.seq (.ops (.o 22 (.mov (.t 0)) <|
 .o 23 (.nilck (.t 22)) <|
 .o 24 (.fad 9 (.t 23)) <|
 .o 25 (.ld (.t 24)) <|
 .o 26 (.un .not (.t 25)) <|
 .o 27 (.mov (.t 26)) <|
 .grp (.one ⟨some 28, .mov (.t 0), some (27, true)⟩ <|
 .one ⟨some 29, .nilck (.t 28), some (27, true)⟩ <|
 .one ⟨some 30, .fad 10 (.t 29), some (27, true)⟩ <|
 .one ⟨some 31, .ld (.t 30), some (27, true)⟩ <|
 .one ⟨some 32, .un .not (.t 31), some (27, true)⟩ <|
 .nil) 33 27 true 32 none <|
 .nil)) (.cond (.t 33) (.skip) (.exit 0))) (.mark [0, 2, 7, 8, 9] (.block 1 (.seq (.ops (.o 34 (.fad 2 (.t 7)) <|
 .o 35 (.ld (.t 34)) <|
 .o 36 (.mov (.t 9)) <|
 .o 37 (.iad 5 (.t 35) (.t 36)) <|
 .o 38 (.lda 5 (.t 37)) <|
 .alst 10 [.nilsl, .i 0, .i 0, .i 0, .i 0] (.t 38) <|
 .nil)) (.seq (.seq (.ops (.o 11 (.mov (.i 0)) <|
 .nil)) (.block 2 (.loop [0, 2, 7, 8, 9, 10, 11] (.seq (.seq (.ops (.o 39 (.mov (.t 11)) <|
 .o 40 (.fad 0 (.t 10)) <|
 .o 41 (.ld (.t 40)) <|
 .o 42 (.len (.t 41)) <|
 .o 43 (.bin .lss (.t 39) (.t 42)) <|
 .o 44 (.mov (.t 43)) <|
 .grp (.one ⟨some 45, .mov (.t 0), some (44, true)⟩ <|
 .one ⟨some 46, .nilck (.t 45), some (44, true)⟩ <|
 .one ⟨some 47, .fad 9 (.t 46), some (44, true)⟩ <|
 .one ⟨some 48, .ld (.t 47), some (44, true)⟩ <|
 .one ⟨some 49, .un .not (.t 48), some (44, true)⟩ <|
 .nil) 50 44 true 49 none <|
 .o 51 (.mov (.t 50)) <|
 .grp (.one ⟨some 52, .mov (.t 0), some (51, true)⟩ <|
 .one ⟨some 53, .nilck (.t 52), some (51, true)⟩ <|
 .one ⟨some 54, .fad 10 (.t 53), some (51, true)⟩ <|
 .one ⟨some 55, .ld (.t 54), some (51, true)⟩ <|
 .one ⟨some 56, .un .not (.t 55), some (51, true)⟩ <|
 .nil) 57 51 true 56 none <|
 .nil)) (.cond (.t 57) (.skip) (.exit 2))) (.mark [0, 2, 7, 8, 9, 10, 11] (.seq (.block 3 (.seq (.ops (.o 60 (.mov (.t 0)) <|
 .o 61 (.call (.c (.fn 84 [])) [.t 60]) <|
 .nil)) (.cond (.t 61) (.ops (.o 62 (.mov (.t 0)) <|
 .o 63 (.fad 0 (.t 10)) <|
 .o 64 (.ld (.t 63)) <|
 .o 65 (.mov (.t 11)) <|
 .o 66 (.iad 6 (.t 64) (.t 65)) <|
 .o 67 (.lda 6 (.t 66)) <|
 .o 68 (.mov (.t 8)) <|
 .o 69 (.mov (.t 2)) <|
 .o 70 (.call (.c (.fn 85 [])) [.t 62, .t 67, .t 68, .t 69]) <|
 .nil)) (.skip)))) (.ops (.o 58 (.mov (.t 11)) <|
 .o 59 (.bin .add (.t 58) (.i 1)) <|
 .o 11 (.mov (.t 59)) <|
 .nil)))))))) (.mark [0, 2, 7, 8, 9, 10] (.seq (.seq (.ops (.o 71 (.mov (.t 0)) <|
 .o 72 (.nilck (.t 71)) <|
 .o 73 (.fad 9 (.t 72)) <|
 .o 74 (.ld (.t 73)) <|
 .o 75 (.mov (.t 74)) <|
 .grp (.one ⟨some 76, .mov (.t 0), some (75, false)⟩ <|
 .one ⟨some 77, .nilck (.t 76), some (75, false)⟩ <|
 .one ⟨some 78, .fad 10 (.t 77), some (75, false)⟩ <|
 .one ⟨some 79, .ld (.t 78), some (75, false)⟩ <|
 .nil) 80 75 false 79 none <|
 .o 81 (.mov (.t 80)) <|
 .one ⟨some 82, .mov (.t 0), some (81, false)⟩ <|
 .one ⟨some 83, .call (.c (.fn 84 [])) [.t 82], some (81, false)⟩ <|
 .grp (.one ⟨some 84, .un .not (.t 83), some (81, false)⟩ <|
 .nil) 85 81 false 84 none <|
 .nil)) (.cond (.t 85) (.seq (.ops (.o 6 (.mov (.i 0)) <|
 .nil)) (.ret)) (.skip))) (.mark [0, 2, 7, 8, 9, 10] (.seq (.ops (.o 86 (.fad 1 (.t 10)) <|
 .o 87 (.ld (.t 86)) <|
 .nil)) (.block 4 (.seq (.ops (.o 93 (.bin .eql (.t 87) (.i 1)) <|
 .o 92 (.mov (.t 93)) <|
 .nil)) (.cond (.t 92) (.ops (.o 94 (.fad 3 (.t 10)) <|
 .o 95 (.ld (.t 94)) <|
 .o 9 (.mov (.t 95)) <|
 .nil)) (.seq (.ops (.o 97 (.bin .eql (.t 87) (.i 2)) <|
 .o 96 (.mov (.t 97)) <|
 .nil)) (.cond (.t 96) (.seq (.ops (.o 98 (.fad 4 (.t 10)) <|
 .o 99 (.ld (.t 98)) <|
 .o 9 (.mov (.t 99)) <|
 .nil)) (.seq (.ops (.o 100 (.mov (.t 8)) <|
 .o 101 (.fad 2 (.t 10)) <|
 .o 102 (.ld (.t 101)) <|
 .o 103 (.iad 1 (.t 100) (.t 102)) <|
 .o 104 (.ld (.t 103)) <|
 .o 105 (.bin .neq (.t 104) (.i 0)) <|
 .nil)) (.cond (.t 105) (.ops (.o 106 (.fad 3 (.t 10)) <|
 .o 107 (.ld (.t 106)) <|
 .o 9 (.mov (.t 107)) <|
 .nil)) (.skip)))) (.seq (.ops (.o 109 (.bin .eql (.t 87) (.i 3)) <|
 .o 108 (.mov (.t 109)) <|
 .nil)) (.cond (.t 108) (.seq (.ops (.o 110 (.mov (.t 8)) <|
 .o 111 (.fad 2 (.t 10)) <|
 .o 112 (.ld (.t 111)) <|
 .o 113 (.iad 1 (.t 110) (.t 112)) <|
 .o 114 (.ld (.t 113)) <|
 .o 6 (.mov (.t 114)) <|
 .nil)) (.ret)) (.ops (.o 88 (.mov (.t 0)) <|
 .o 89 (.fad 3 (.t 10)) <|
 .o 90 (.ld (.t 89)) <|
 .o 91 (.call (.c (.fn 86 [])) [.t 88, .i 2, .t 90]) <|
 .nil)))))))))))))))))))) (.seq (.ops (.o 6 (.mov (.i 0)) <|
 .nil)) (.ret))))))
def code51 : AFunc := ⟨115, [.tmp 6], d51.strip⟩

/-- fulling/fullingref29.Info -/
def d52 : DCode :=
  .seq (.ops (.o 2 (.alloc [.str ⟨#[]⟩, .i 0, .bool false, .bool false, .bool false, .bool false, .i 0]) <|
 .o 3 (.mov (.c (.bool false))) <|
 .nil)) (.seq (.ops (.o 8 (.mov (.t 0)) <|
 .o 9 (.call (.c (.fn 63 [])) [.t 8]) <|
 .o 4 (.mov (.t 9)) <|
 .nil)) (.seq (.seq (.ops (.o 10 (.mov (.t 4)) <|
 .o 11 (.bin .eql (.t 10) (.i 0)) <|
 .nil)) (.cond (.t 11) (.seq (.ops (.o 12 (.build [.str ⟨#[]⟩, .i 0, .bool false, .bool false, .bool false, .bool false, .i 0] []) <|
 .one ⟨none, .st 7 (.t 2) (.t 12), none⟩ <|
 .o 3 (.mov (.c (.bool false))) <|
 .nil)) (.ret)) (.skip))) (.mark [0, 2, 4] (.seq (.ops (.o 13 (.call (.c (.fn 87 [])) []) <|
 .o 14 (.mov (.t 0)) <|
 .o 15 (.iad 1 (.t 13) (.t 14)) <|
 .o 16 (.ld (.t 15)) <|
 .o 17 (.mov (.t 4)) <|
 .o 18 (.build [.str ⟨#[]⟩, .i 0, .bool false, .bool false, .bool false, .bool false, .i 0] [(0, 1, .t 16), (1, 1, .t 17), (6, 1, .i 1)]) <|
 .o 5 (.alloc [.str ⟨#[]⟩, .i 0, .bool false, .bool false, .bool false, .bool false, .i 0]) <|
 .one ⟨none, .st 7 (.t 5) (.t 18), none⟩ <|
 .nil)) (.seq (.seq (.ops (.o 19 (.mov (.t 0)) <|
 .o 20 (.bin .eql (.t 19) (.i 14)) <|
 .nil)) (.cond (.t 20) (.ops (.o 21 (.fad 6 (.t 5)) <|
 .one ⟨none, .st 1 (.t 21) (.i 3), none⟩ <|
 .nil)) (.skip))) (.mark [0, 2, 5] (.seq (.ops (.o 22 (.mov (.t 0)) <|
 .o 23 (.bin .eql (.t 22) (.i 11)) <|
 .o 24 (.mov (.t 23)) <|
 .grp (.one ⟨some 25, .mov (.t 0), some (24, false)⟩ <|
 .one ⟨some 26, .bin .eql (.t 25) (.i 12), some (24, false)⟩ <|
 .nil) 27 24 false 26 none <|
 .o 6 (.mov (.t 27)) <|
 .nil)) (.seq (.ops (.o 28 (.mov (.t 0)) <|
 .o 29 (.bin .eql (.t 28) (.i 15)) <|
 .o 30 (.mov (.t 29)) <|
 .grp (.one ⟨some 31, .mov (.t 0), some (30, false)⟩ <|
 .one ⟨some 32, .bin .eql (.t 31) (.i 16), some (30, false)⟩ <|
 .nil) 33 30 false 32 none <|
 .o 7 (.mov (.t 33)) <|
 .nil)) (.seq (.ops (.o 34 (.mov (.t 6)) <|
 .o 35 (.mov (.t 34)) <|
 .grp (.one ⟨some 36, .mov (.t 7), some (35, false)⟩ <|
 .nil) 37 35 false 36 none <|
 .o 38 (.mov (.t 37)) <|
 .grp (.one ⟨some 39, .mov (.t 0), some (38, false)⟩ <|
 .one ⟨some 40, .call (.c (.fn 88 [])) [.t 39], some (38, false)⟩ <|
 .nil) 41 38 false 40 none <|
 .o 42 (.mov (.t 41)) <|
 .grp (.one ⟨some 43, .mov (.t 0), some (42, false)⟩ <|
 .one ⟨some 44, .bin .eql (.t 43) (.i 7), some (42, false)⟩ <|
 .nil) 45 42 false 44 none <|
 .o 46 (.mov (.t 45)) <|
 .grp (.one ⟨some 47, .mov (.t 0), some (46, false)⟩ <|
 .one ⟨some 48, .bin .eql (.t 47) (.i 8), some (46, false)⟩ <|
 .nil) 49 46 false 48 none <|
 .o 50 (.mov (.t 49)) <|
 .grp (.one ⟨some 51, .mov (.t 0), some (50, false)⟩ <|
 .one ⟨some 52, .bin .eql (.t 51) (.i 9), some (50, false)⟩ <|
 .nil) 53 50 false 52 none <|
 .o 54 (.mov (.t 53)) <|
 .grp (.one ⟨some 55, .mov (.t 0), some (54, false)⟩ <|
 .one ⟨some 56, .bin .eql (.t 55) (.i 33), some (54, false)⟩ <|
 .nil) 57 54 false 56 none <|
 .o 58 (.mov (.t 57)) <|
 .grp (.one ⟨some 59, .mov (.t 0), some (58, false)⟩ <|
 .one ⟨some 60, .bin .eql (.t 59) (.i 35), some (58, false)⟩ <|
 .nil) 61 58 false 60 none <|
 .o 62 (.mov (.t 61)) <|
 .grp (.one ⟨some 63, .mov (.t 0), some (62, false)⟩ <|
 .one ⟨some 64, .bin .eql (.t 63) (.i 37), some (62, false)⟩ <|
 .nil) 65 62 false 64 none <|
 .o 66 (.fad 2 (.t 5)) <|
 .one ⟨none, .st 1 (.t 66) (.t 65), none⟩ <|
 .nil)) (.seq (.ops (.o 67 (.mov (.t 6)) <|
 .o 68 (.mov (.t 67)) <|
 .grp (.one ⟨some 69, .mov (.t 7), some (68, false)⟩ <|
 .nil) 70 68 false 69 none <|
 .o 71 (.mov (.t 70)) <|
 .grp (.one ⟨some 72, .mov (.t 0), some (71, false)⟩ <|
 .one ⟨some 73, .call (.c (.fn 88 [])) [.t 72], some (71, false)⟩ <|
 .nil) 74 71 false 73 none <|
 .o 75 (.mov (.t 74)) <|
 .grp (.one ⟨some 76, .mov (.t 0), some (75, false)⟩ <|
 .one ⟨some 77, .bin .eql (.t 76) (.i 10), some (75, false)⟩ <|
 .nil) 78 75 false 77 none <|
 .o 79 (.mov (.t 78)) <|
 .grp (.one ⟨some 80, .mov (.t 0), some (79, false)⟩ <|
 .one ⟨some 81, .bin .eql (.t 80) (.i 13), some (79, false)⟩ <|
 .nil) 82 79 false 81 none <|
 .o 83 (.mov (.t 82)) <|
 .grp (.one ⟨some 84, .mov (.t 0), some (83, false)⟩ <|
 .one ⟨some 85, .bin .eql (.t 84) (.i 14), some (83, false)⟩ <|
 .nil) 86 83 false 85 none <|
 .o 87 (.mov (.t 86)) <|
 .grp (.one ⟨some 88, .mov (.t 0), some (87, false)⟩ <|
 .one ⟨some 89, .bin .eql (.t 88) (.i 33), some (87, false)⟩ <|
 .nil) 90 87 false 89 none <|
 .o 91 (.mov (.t 90)) <|
 .grp (.one ⟨some 92, .mov (.t 0), some (91, false)⟩ <|
 .one ⟨some 93, .bin .eql (.t 92) (.i 34), some (91, false)⟩ <|
 .nil) 94 91 false 93 none <|
 .o 95 (.mov (.t 94)) <|
 .grp (.one ⟨some 96, .mov (.t 0), some (95, false)⟩ <|
 .one ⟨some 97, .bin .eql (.t 96) (.i 36), some (95, false)⟩ <|
 .nil) 98 95 false 97 none <|
 .o 99 (.fad 3 (.t 5)) <|
 .one ⟨none, .st 1 (.t 99) (.t 98), none⟩ <|
 .nil)) (.seq (.ops (.o 100 (.mov (.t 6)) <|
 .o 101 (.mov (.t 100)) <|
 .grp (.one ⟨some 102, .mov (.t 0), some (101, false)⟩ <|
 .one ⟨some 103, .call (.c (.fn 88 [])) [.t 102], some (101, false)⟩ <|
 .nil) 104 101 false 103 none <|
 .o 105 (.mov (.t 104)) <|
 .grp (.one ⟨some 106, .mov (.t 0), some (105, false)⟩ <|
 .one ⟨some 107, .bin .eql (.t 106) (.i 10), some (105, false)⟩ <|
 .nil) 108 105 false 107 none <|
 .o 109 (.mov (.t 108)) <|
 .grp (.one ⟨some 110, .mov (.t 0), some (109, false)⟩ <|
 .one ⟨some 111, .bin .eql (.t 110) (.i 34), some (109, false)⟩ <|
 .nil) 112 109 false 111 none <|
 .o 113 (.mov (.t 112)) <|
 .grp (.one ⟨some 114, .mov (.t 0), some (113, false)⟩ <|
 .one ⟨some 115, .bin .eql (.t 114) (.i 35), some (113, false)⟩ <|
 .nil) 116 113 false 115 none <|
 .o 117 (.fad 4 (.t 5)) <|
 .one ⟨none, .st 1 (.t 117) (.t 116), none⟩ <|
 .nil)) (.seq (.ops (.o 118 (.mov (.t 0)) <|
 .o 119 (.bin .eql (.t 118) (.i 4)) <|
 .o 120 (.mov (.t 119)) <|
 .grp (.one ⟨some 121, .mov (.t 0), some (120, false)⟩ <|
 .one ⟨some 122, .bin .eql (.t 121) (.i 20), some (120, false)⟩ <|
 .nil) 123 120 false 122 none <|
 .o 124 (.mov (.t 123)) <|
 .grp (.one ⟨some 125, .mov (.t 0), some (124, false)⟩ <|
 .one ⟨some 126, .bin .eql (.t 125) (.i 21), some (124, false)⟩ <|
 .nil) 127 124 false 126 none <|
 .o 128 (.mov (.t 127)) <|
 .grp (.one ⟨some 129, .mov (.t 0), some (128, false)⟩ <|
 .one ⟨some 130, .bin .eql (.t 129) (.i 34), some (128, false)⟩ <|
 .nil) 131 128 false 130 none <|
 .o 132 (.mov (.t 131)) <|
 .grp (.one ⟨some 133, .mov (.t 0), some (132, false)⟩ <|
 .one ⟨some 134, .bin .eql (.t 133) (.i 35), some (132, false)⟩ <|
 .nil) 135 132 false 134 none <|
 .o 136 (.fad 5 (.t 5)) <|
 .one ⟨none, .st 1 (.t 136) (.t 135), none⟩ <|
 .nil)) (.seq (.ops (.o 137 (.lda 7 (.t 5)) <|
 .one ⟨none, .st 7 (.t 2) (.t 137), none⟩ <|
 .o 3 (.mov (.c (.bool true))) <|
 .nil)) (.ret))))))))))))))
def code52 : AFunc := ⟨138, [.lda 7 2, .tmp 3], d52.strip⟩

/-- fulling/vcode.allowed -/
def d53 : DCode :=
  .seq (.ops (.o 2 (.mov (.c (.bool false))) <|
 .nil)) (.seq (.seq (.ops (.o 3 (.mov (.t 0)) <|
 .nil)) (.block 0 (.seq (.seq (.ops (.o 5 (.bin .eql (.t 3) (.i 3)) <|
 .o 4 (.mov (.t 5)) <|
 .nil)) (.cond (.t 4) (.skip) (.seq (.ops (.o 6 (.bin .eql (.t 3) (.i 6)) <|
 .o 4 (.mov (.t 6)) <|
 .nil)) (.cond (.t 4) (.skip) (.seq (.ops (.o 7 (.bin .eql (.t 3) (.i 9)) <|
 .o 4 (.mov (.t 7)) <|
 .nil)) (.cond (.t 4) (.skip) (.seq (.ops (.o 8 (.bin .eql (.t 3) (.i 10)) <|
 .o 4 (.mov (.t 8)) <|
 .nil)) (.cond (.t 4) (.skip) (.seq (.ops (.o 9 (.bin .eql (.t 3) (.i 11)) <|
 .o 4 (.mov (.t 9)) <|
 .nil)) (.cond (.t 4) (.skip) (.seq (.ops (.o 10 (.bin .eql (.t 3) (.i 12)) <|
 .o 4 (.mov (.t 10)) <|
 .nil)) (.cond (.t 4) (.skip) (.seq (.ops (.o 11 (.bin .eql (.t 3) (.i 13)) <|
 .o 4 (.mov (.t 11)) <|
 .nil)) (.cond (.t 4) (.skip) (.seq (.ops (.o 12 (.bin .eql (.t 3) (.i 33)) <|
 .o 4 (.mov (.t 12)) <|
 .nil)) (.cond (.t 4) (.skip) (.seq (.ops (.o 13 (.bin .eql (.t 3) (.i 34)) <|
 .o 4 (.mov (.t 13)) <|
 .nil)) (.cond (.t 4) (.skip) (.seq (.ops (.o 14 (.bin .eql (.t 3) (.i 35)) <|
 .o 4 (.mov (.t 14)) <|
 .nil)) (.cond (.t 4) (.skip) (.ops (.o 15 (.bin .eql (.t 3) (.i 38)) <|
 .o 4 (.mov (.t 15)) <|
 .nil)))))))))))))))))))))) (.cond (.t 4) (.seq (.ops (.o 2 (.mov (.c (.bool true))) <|
 .nil)) (.ret)) (.skip))))) (.mark [0] (.seq (.ops (.o 16 (.mov (.t 0)) <|
 .o 17 (.bin .geq (.t 16) (.i 15)) <|
 .o 18 (.mov (.t 17)) <|
 .grp (.one ⟨some 19, .mov (.t 0), some (18, true)⟩ <|
 .one ⟨some 20, .bin .leq (.t 19) (.i 32), some (18, true)⟩ <|
 .nil) 21 18 true 20 none <|
 .o 2 (.mov (.t 21)) <|
 .nil)) (.ret))))
def code53 : AFunc := ⟨22, [.tmp 2], d53.strip⟩

/-- fulling/machine.Info -/
def d54 : DCode :=
  .seq (.ops (.o 2 (.alloc [.str ⟨#[]⟩, .i 0, .bool false, .bool false, .bool false, .bool false, .i 0]) <|
 .o 3 (.mov (.c (.bool false))) <|
 .nil)) (.seq (.seq (.ops (.o 4 (.mov (.t 0)) <|
 .o 5 (.bin .lss (.t 4) (.i 1)) <|
 .o 6 (.mov (.t 5)) <|
 .grp (.one ⟨some 7, .mov (.t 0), some (6, false)⟩ <|
 .one ⟨some 8, .bin .gtr (.t 7) (.i 37), some (6, false)⟩ <|
 .nil) 9 6 false 8 none <|
 .nil)) (.cond (.t 9) (.seq (.ops (.o 10 (.build [.str ⟨#[]⟩, .i 0, .bool false, .bool false, .bool false, .bool false, .i 0] []) <|
 .one ⟨none, .st 7 (.t 2) (.t 10), none⟩ <|
 .o 3 (.mov (.c (.bool false))) <|
 .nil)) (.ret)) (.skip))) (.mark [0, 2] (.seq (.ops (.o 11 (.ld (.c (tableAV))) <|
 .o 12 (.mov (.t 0)) <|
 .o 13 (.bin .sub (.t 12) (.i 1)) <|
 .o 14 (.iad 7 (.t 11) (.t 13)) <|
 .o 15 (.lda 7 (.t 14)) <|
 .one ⟨none, .st 7 (.t 2) (.t 15), none⟩ <|
 .o 3 (.mov (.c (.bool true))) <|
 .nil)) (.ret))))
def code54 : AFunc := ⟨16, [.lda 7 2, .tmp 3], d54.strip⟩

/-- fulling/fullingref32.allowed -/
def d55 : DCode :=
  .seq (.ops (.o 2 (.mov (.c (.bool false))) <|
 .nil)) (.seq (.seq (.ops (.o 3 (.mov (.t 0)) <|
 .nil)) (.block 0 (.seq (.seq (.ops (.o 5 (.bin .eql (.t 3) (.i 3)) <|
 .o 4 (.mov (.t 5)) <|
 .nil)) (.cond (.t 4) (.skip) (.seq (.ops (.o 6 (.bin .eql (.t 3) (.i 6)) <|
 .o 4 (.mov (.t 6)) <|
 .nil)) (.cond (.t 4) (.skip) (.seq (.ops (.o 7 (.bin .eql (.t 3) (.i 9)) <|
 .o 4 (.mov (.t 7)) <|
 .nil)) (.cond (.t 4) (.skip) (.seq (.ops (.o 8 (.bin .eql (.t 3) (.i 10)) <|
 .o 4 (.mov (.t 8)) <|
 .nil)) (.cond (.t 4) (.skip) (.seq (.ops (.o 9 (.bin .eql (.t 3) (.i 11)) <|
 .o 4 (.mov (.t 9)) <|
 .nil)) (.cond (.t 4) (.skip) (.seq (.ops (.o 10 (.bin .eql (.t 3) (.i 12)) <|
 .o 4 (.mov (.t 10)) <|
 .nil)) (.cond (.t 4) (.skip) (.seq (.ops (.o 11 (.bin .eql (.t 3) (.i 13)) <|
 .o 4 (.mov (.t 11)) <|
 .nil)) (.cond (.t 4) (.skip) (.seq (.ops (.o 12 (.bin .eql (.t 3) (.i 33)) <|
 .o 4 (.mov (.t 12)) <|
 .nil)) (.cond (.t 4) (.skip) (.seq (.ops (.o 13 (.bin .eql (.t 3) (.i 34)) <|
 .o 4 (.mov (.t 13)) <|
 .nil)) (.cond (.t 4) (.skip) (.seq (.ops (.o 14 (.bin .eql (.t 3) (.i 35)) <|
 .o 4 (.mov (.t 14)) <|
 .nil)) (.cond (.t 4) (.skip) (.ops (.o 15 (.bin .eql (.t 3) (.i 38)) <|
 .o 4 (.mov (.t 15)) <|
 .nil)))))))))))))))))))))) (.cond (.t 4) (.seq (.ops (.o 2 (.mov (.c (.bool true))) <|
 .nil)) (.ret)) (.skip))))) (.mark [0] (.seq (.ops (.o 16 (.mov (.t 0)) <|
 .o 17 (.bin .geq (.t 16) (.i 15)) <|
 .o 18 (.mov (.t 17)) <|
 .grp (.one ⟨some 19, .mov (.t 0), some (18, true)⟩ <|
 .one ⟨some 20, .bin .leq (.t 19) (.i 32), some (18, true)⟩ <|
 .nil) 21 18 true 20 none <|
 .o 2 (.mov (.t 21)) <|
 .nil)) (.ret))))
def code55 : AFunc := ⟨22, [.tmp 2], d55.strip⟩

/-- fulling/fullingref32.info -/
def d56 : DCode :=
  .seq (.ops (.o 2 (.alloc [.str ⟨#[]⟩, .i 0, .bool false, .bool false, .bool false, .bool false, .i 0]) <|
 .nil)) (.seq (.seq (.ops (.o 5 (.mov (.t 0)) <|
 .o 6 (.bin .eql (.t 5) (.i 38)) <|
 .nil)) (.cond (.t 6) (.seq (.ops (.o 7 (.build [.str ⟨#[]⟩, .i 0, .bool false, .bool false, .bool false, .bool false, .i 0] [(1, 1, .i 5), (3, 1, .c (.bool true))]) <|
 .one ⟨none, .st 7 (.t 2) (.t 7), none⟩ <|
 .nil)) (.ret)) (.skip))) (.mark [0, 2] (.seq (.ops (.o 9 (.mov (.t 0)) <|
 .o 10 (.call (.c (.fn 52 [])) [.t 9]) <|
 .o 8 (.mov (.t 10)) <|
 .o 11 (.ext (.t 8) 0) <|
 .o 12 (.ext (.t 8) 1) <|
 .alst 3 [.str ⟨#[]⟩, .i 0, .bool false, .bool false, .bool false, .bool false, .i 0] (.t 11) <|
 .o 4 (.mov (.t 12)) <|
 .nil)) (.seq (.ops (.o 13 (.lda 7 (.t 3)) <|
 .one ⟨none, .st 7 (.t 2) (.t 13), none⟩ <|
 .nil)) (.ret)))))
def code56 : AFunc := ⟨14, [.lda 7 2], d56.strip⟩

/-- fulling/fullingref29.form -/
def d63 : DCode :=
  .seq (.ops (.o 2 (.mov (.i 0)) <|
 .nil)) (.seq (.seq (.ops (.o 3 (.mov (.t 0)) <|
 .nil)) (.block 0 (.seq (.seq (.ops (.o 5 (.bin .eql (.t 3) (.i 1)) <|
 .o 4 (.mov (.t 5)) <|
 .nil)) (.cond (.t 4) (.skip) (.seq (.ops (.o 6 (.bin .eql (.t 3) (.i 2)) <|
 .o 4 (.mov (.t 6)) <|
 .nil)) (.cond (.t 4) (.skip) (.ops (.o 7 (.bin .eql (.t 3) (.i 3)) <|
 .o 4 (.mov (.t 7)) <|
 .nil)))))) (.mark [0, 3, 4] (.cond (.t 4) (.seq (.ops (.o 2 (.mov (.i 1)) <|
 .nil)) (.ret)) (.seq (.seq (.ops (.o 9 (.bin .eql (.t 3) (.i 4)) <|
 .o 8 (.mov (.t 9)) <|
 .nil)) (.cond (.t 8) (.skip) (.ops (.o 10 (.bin .eql (.t 3) (.i 5)) <|
 .o 8 (.mov (.t 10)) <|
 .nil)))) (.mark [0, 3, 8] (.cond (.t 8) (.seq (.ops (.o 2 (.mov (.i 8)) <|
 .nil)) (.ret)) (.seq (.seq (.ops (.o 12 (.bin .eql (.t 3) (.i 6)) <|
 .o 11 (.mov (.t 12)) <|
 .nil)) (.cond (.t 11) (.skip) (.seq (.ops (.o 13 (.bin .eql (.t 3) (.i 7)) <|
 .o 11 (.mov (.t 13)) <|
 .nil)) (.cond (.t 11) (.skip) (.seq (.ops (.o 14 (.bin .eql (.t 3) (.i 8)) <|
 .o 11 (.mov (.t 14)) <|
 .nil)) (.cond (.t 11) (.skip) (.seq (.ops (.o 15 (.bin .eql (.t 3) (.i 13)) <|
 .o 11 (.mov (.t 15)) <|
 .nil)) (.cond (.t 11) (.skip) (.seq (.ops (.o 16 (.bin .eql (.t 3) (.i 33)) <|
 .o 11 (.mov (.t 16)) <|
 .nil)) (.cond (.t 11) (.skip) (.seq (.ops (.o 17 (.bin .eql (.t 3) (.i 36)) <|
 .o 11 (.mov (.t 17)) <|
 .nil)) (.cond (.t 11) (.skip) (.ops (.o 18 (.bin .eql (.t 3) (.i 37)) <|
 .o 11 (.mov (.t 18)) <|
 .nil)))))))))))))) (.mark [0, 3, 11] (.cond (.t 11) (.seq (.ops (.o 2 (.mov (.i 5)) <|
 .nil)) (.ret)) (.seq (.seq (.ops (.o 20 (.bin .eql (.t 3) (.i 9)) <|
 .o 19 (.mov (.t 20)) <|
 .nil)) (.cond (.t 19) (.skip) (.seq (.ops (.o 21 (.bin .eql (.t 3) (.i 15)) <|
 .o 19 (.mov (.t 21)) <|
 .nil)) (.cond (.t 19) (.skip) (.ops (.o 22 (.bin .eql (.t 3) (.i 16)) <|
 .o 19 (.mov (.t 22)) <|
 .nil)))))) (.mark [0, 3, 19] (.cond (.t 19) (.seq (.ops (.o 2 (.mov (.i 2)) <|
 .nil)) (.ret)) (.seq (.seq (.ops (.o 24 (.bin .eql (.t 3) (.i 11)) <|
 .o 23 (.mov (.t 24)) <|
 .nil)) (.cond (.t 23) (.skip) (.ops (.o 25 (.bin .eql (.t 3) (.i 12)) <|
 .o 23 (.mov (.t 25)) <|
 .nil)))) (.mark [0, 3, 23] (.cond (.t 23) (.seq (.ops (.o 2 (.mov (.i 4)) <|
 .nil)) (.ret)) (.seq (.ops (.o 27 (.bin .eql (.t 3) (.i 14)) <|
 .o 26 (.mov (.t 27)) <|
 .nil)) (.cond (.t 26) (.seq (.ops (.o 2 (.mov (.i 6)) <|
 .nil)) (.ret)) (.seq (.seq (.ops (.o 29 (.bin .eql (.t 3) (.i 34)) <|
 .o 28 (.mov (.t 29)) <|
 .nil)) (.cond (.t 28) (.skip) (.ops (.o 30 (.bin .eql (.t 3) (.i 35)) <|
 .o 28 (.mov (.t 30)) <|
 .nil)))) (.cond (.t 28) (.seq (.ops (.o 2 (.mov (.i 7)) <|
 .nil)) (.ret)) (.skip)))))))))))))))))))))) (.mark [0] (.seq (.seq (.ops (.o 31 (.mov (.t 0)) <|
 .o 32 (.bin .eql (.t 31) (.i 10)) <|
 .o 33 (.mov (.t 32)) <|
 .grp (.one ⟨some 34, .mov (.t 0), some (33, false)⟩ <|
 .one ⟨some 35, .call (.c (.fn 88 [])) [.t 34], some (33, false)⟩ <|
 .nil) 36 33 false 35 none <|
 .nil)) (.cond (.t 36) (.seq (.ops (.o 2 (.mov (.i 3)) <|
 .nil)) (.ret)) (.skip))) (.seq (.ops (.o 2 (.mov (.i 0)) <|
 .nil)) (.ret)))))
def code63 : AFunc := ⟨37, [.tmp 2], d63.strip⟩

/-- (*fulling/vcode.run).terminate -/
def d76 : DCode :=
  .seq (.drawq (.o 6 (.mov (.t 1)) <|
 .o 7 (.nilck (.t 6)) <|
 .o 8 (.fad 0 (.t 7)) <|
 .o 9 (.fad 2 (.t 8)) <|
 .o 10 (.ld (.t 9)) <|
 .o 11 (.mov (.t 1)) <|
 .o 12 (.nilck (.t 11)) <|
 .o 13 (.fad 5 (.t 12)) <|
 .o 14 (.ld (.t 13)) <|
 .o 15 (.iad 5 (.t 10) (.t 14)) <|
 .o 16 (.lda 5 (.t 15)) <|
 .o 4 (.alloc [.nilsl, .i 0, .i 0, .i 0, .i 0]) <|
 .one ⟨none, .st 5 (.t 4) (.t 16), none⟩ <|
 .nil) [(4, 11), (8, 11), (10, 11)]) (.frz 4 (.seq (.ops (.o 17 (.fad 1 (.t 4)) <|
 .o 18 (.ld (.t 17)) <|
 .nil)) (.block 0 (.seq (.ops (.o 24 (.bin .eql (.t 18) (.i 1)) <|
 .o 23 (.mov (.t 24)) <|
 .nil)) (.cond (.t 23) (.ops (.o 25 (.mov (.t 1)) <|
 .o 26 (.mov (.t 1)) <|
 .o 27 (.fad 3 (.t 4)) <|
 .o 28 (.ld (.t 27)) <|
 .o 29 (.nilck (.t 25)) <|
 .o 30 (.fad 5 (.t 29)) <|
 .one ⟨none, .st 1 (.t 30) (.t 28), none⟩ <|
 .o 31 (.nilck (.t 26)) <|
 .o 32 (.fad 6 (.t 31)) <|
 .one ⟨none, .st 1 (.t 32) (.i 0), none⟩ <|
 .nil)) (.seq (.ops (.o 34 (.bin .eql (.t 18) (.i 2)) <|
 .o 33 (.mov (.t 34)) <|
 .nil)) (.cond (.t 33) (.seq (.seq (.ops (.o 35 (.mov (.t 1)) <|
 .o 36 (.fad 2 (.t 4)) <|
 .o 37 (.ld (.t 36)) <|
 .o 38 (.call (.c (.fn 78 [])) [.t 35, .t 37]) <|
 .o 39 (.bin .neq (.t 38) (.i 0)) <|
 .nil)) (.cond (.t 39) (.ops (.o 40 (.mov (.t 1)) <|
 .o 41 (.fad 3 (.t 4)) <|
 .o 42 (.ld (.t 41)) <|
 .o 43 (.nilck (.t 40)) <|
 .o 44 (.fad 5 (.t 43)) <|
 .one ⟨none, .st 1 (.t 44) (.t 42), none⟩ <|
 .nil)) (.ops (.o 45 (.mov (.t 1)) <|
 .o 46 (.fad 4 (.t 4)) <|
 .o 47 (.ld (.t 46)) <|
 .o 48 (.nilck (.t 45)) <|
 .o 49 (.fad 5 (.t 48)) <|
 .one ⟨none, .st 1 (.t 49) (.t 47), none⟩ <|
 .nil)))) (.ops (.o 50 (.mov (.t 1)) <|
 .o 51 (.nilck (.t 50)) <|
 .o 52 (.fad 6 (.t 51)) <|
 .one ⟨none, .st 1 (.t 52) (.i 0), none⟩ <|
 .nil))) (.seq (.ops (.o 54 (.bin .eql (.t 18) (.i 3)) <|
 .o 53 (.mov (.t 54)) <|
 .nil)) (.cond (.t 53) (.seq (.ops (.o 55 (.mov (.t 1)) <|
 .o 56 (.fad 2 (.t 4)) <|
 .o 57 (.ld (.t 56)) <|
 .o 58 (.call (.c (.fn 78 [])) [.t 55, .t 57]) <|
 .o 5 (.mov (.t 58)) <|
 .nil)) (.seq (.seq (.ops (.o 59 (.mov (.t 0)) <|
 .o 60 (.nilck (.t 59)) <|
 .o 61 (.fad 2 (.t 60)) <|
 .o 62 (.ld (.t 61)) <|
 .o 63 (.len (.t 62)) <|
 .o 64 (.bin .eql (.t 63) (.i 1)) <|
 .nil)) (.cond (.t 64) (.seq (.ops (.o 65 (.mov (.t 0)) <|
 .o 66 (.mov (.t 5)) <|
 .o 67 (.call (.c (.fn 77 [])) [.t 65, .i 1, .i 0, .t 66]) <|
 .nil)) (.ret)) (.skip))) (.mark [0, 1, 5] (.seq (.drawq (.o 68 (.mov (.t 0)) <|
 .o 69 (.mov (.t 0)) <|
 .o 70 (.nilck (.t 69)) <|
 .o 71 (.fad 2 (.t 70)) <|
 .o 72 (.ld (.t 71)) <|
 .o 73 (.mov (.t 0)) <|
 .o 74 (.nilck (.t 73)) <|
 .o 75 (.fad 2 (.t 74)) <|
 .o 76 (.ld (.t 75)) <|
 .o 77 (.len (.t 76)) <|
 .o 78 (.bin .sub (.t 77) (.i 1)) <|
 .o 79 (.slice 1 (.t 72) none (some (.t 78))) <|
 .o 80 (.nilck (.t 68)) <|
 .o 81 (.fad 2 (.t 80)) <|
 .one ⟨none, .st 1 (.t 81) (.t 79), none⟩ <|
 .nil) []) (.drawb 17 [⟨some 82, .mov (.t 0), none⟩,
 ⟨some 83, .nilck (.t 82), none⟩,
 ⟨some 84, .fad 2 (.t 83), none⟩,
 ⟨some 85, .ld (.t 84), none⟩,
 ⟨some 86, .mov (.t 0), none⟩,
 ⟨some 87, .nilck (.t 86), none⟩,
 ⟨some 88, .fad 2 (.t 87), none⟩,
 ⟨some 89, .ld (.t 88), none⟩,
 ⟨some 90, .len (.t 89), none⟩,
 ⟨some 91, .bin .sub (.t 90) (.i 1), none⟩,
 ⟨some 92, .iad 1 (.t 85) (.t 91), none⟩,
 ⟨some 93, .ld (.t 92), none⟩,
 ⟨some 94, .mov (.t 1), none⟩,
 ⟨some 95, .nilck (.t 94), none⟩,
 ⟨some 96, .fad 7 (.t 95), none⟩,
 ⟨some 97, .ld (.t 96), none⟩,
 ⟨some 98, .mov (.t 5), none⟩,
 ⟨some 99, .call (.c (.fn 105 [])) [.t 93, .t 97, .t 98], none⟩] []))))) (.ops (.o 19 (.mov (.t 0)) <|
 .o 20 (.fad 3 (.t 4)) <|
 .o 21 (.ld (.t 20)) <|
 .o 22 (.call (.c (.fn 77 [])) [.t 19, .i 2, .t 21, .i 0]) <|
 .nil)))))))))))
def code76 : AFunc := ⟨100, [], d76.strip⟩

/-- (*fulling/vcode.run).stop -/
def d77 : DCode :=
  .seq (.ops (.o 8 (.mov (.t 0)) <|
 .o 9 (.nilck (.t 8)) <|
 .o 10 (.fad 4 (.t 9)) <|
 .one ⟨none, .st 1 (.t 10) (.c (.bool true)), none⟩ <|
 .nil)) (.ops (.o 11 (.mov (.t 0)) <|
 .o 12 (.mov (.t 0)) <|
 .o 13 (.mov (.t 0)) <|
 .o 14 (.mov (.t 1)) <|
 .o 15 (.mov (.t 2)) <|
 .o 16 (.mov (.t 3)) <|
 .o 17 (.nilck (.t 11)) <|
 .o 18 (.fad 5 (.t 17)) <|
 .o 19 (.fad 0 (.t 18)) <|
 .one ⟨none, .st 1 (.t 19) (.t 14), none⟩ <|
 .o 20 (.nilck (.t 12)) <|
 .o 21 (.fad 5 (.t 20)) <|
 .o 22 (.fad 1 (.t 21)) <|
 .one ⟨none, .st 1 (.t 22) (.t 15), none⟩ <|
 .o 23 (.nilck (.t 13)) <|
 .o 24 (.fad 5 (.t 23)) <|
 .o 25 (.fad 3 (.t 24)) <|
 .one ⟨none, .st 1 (.t 25) (.t 16), none⟩ <|
 .nil))
def code77 : AFunc := ⟨26, [], d77.strip⟩

/-- (*fulling/vcode.call).get -/
def d78 : DCode :=
  .seq (.ops (.o 4 (.mov (.i 0)) <|
 .nil)) (.seq (.seq (.ops (.o 5 (.mov (.t 1)) <|
 .o 6 (.mov (.t 0)) <|
 .o 7 (.nilck (.t 6)) <|
 .o 8 (.fad 3 (.t 7)) <|
 .o 9 (.ld (.t 8)) <|
 .o 10 (.len (.t 9)) <|
 .o 11 (.bin .geq (.t 5) (.t 10)) <|
 .nil)) (.cond (.t 11) (.seq (.ops (.o 4 (.mov (.i 0)) <|
 .nil)) (.ret)) (.skip))) (.mark [0, 1] (.seq (.ops (.o 12 (.mov (.t 0)) <|
 .o 13 (.nilck (.t 12)) <|
 .o 14 (.fad 3 (.t 13)) <|
 .o 15 (.ld (.t 14)) <|
 .o 16 (.mov (.t 1)) <|
 .o 17 (.iad 1 (.t 15) (.t 16)) <|
 .o 18 (.ld (.t 17)) <|
 .o 4 (.mov (.t 18)) <|
 .nil)) (.ret))))
def code78 : AFunc := ⟨19, [.tmp 4], d78.strip⟩

/-- (*fulling/vcode.run).access -/
def d79 : DCode :=
  .seq (.ops (.box 5 (.t 2) <|
 .nil)) (.seq (.draw [⟨some 7, .mov (.t 0), none⟩,
 ⟨some 8, .fad 4 (.t 5), none⟩,
 ⟨some 9, .ld (.t 8), none⟩,
 ⟨some 10, .mov (.t 1), none⟩,
 ⟨some 11, .fad 2 (.t 5), none⟩,
 ⟨some 12, .ld (.t 11), none⟩,
 ⟨some 13, .call (.c (.fn 78 [])) [.t 10, .t 12], none⟩,
 ⟨some 14, .call (.c (.fn 106 [])) [.t 7, .t 9, .t 13], none⟩,
 ⟨some 6, .mov (.t 14), none⟩] [(0, 6), (1, 6), (2, 6)]) (.block 0 (.seq (.ops (.o 22 (.mov (.t 6)) <|
 .o 23 (.eqp false (.t 22) (.c (.nilp))) <|
 .o 21 (.mov (.t 23)) <|
 .nil)) (.cond (.t 21) (.ops (.o 24 (.mov (.t 0)) <|
 .o 25 (.call (.c (.fn 77 [])) [.t 24, .i 2, .i 2, .i 0]) <|
 .nil)) (.seq (.ops (.o 27 (.fad 0 (.t 5)) <|
 .o 28 (.ld (.t 27)) <|
 .o 29 (.bin .eql (.t 28) (.i 34)) <|
 .o 26 (.mov (.t 29)) <|
 .nil)) (.cond (.t 26) (.drawb 6 [⟨some 30, .mov (.t 1), none⟩,
 ⟨some 31, .fad 1 (.t 5), none⟩,
 ⟨some 32, .ld (.t 31), none⟩,
 ⟨some 33, .mov (.t 6), none⟩,
 ⟨some 34, .nilck (.t 33), none⟩,
 ⟨some 35, .ld (.t 34), none⟩,
 ⟨some 36, .call (.c (.fn 105 [])) [.t 30, .t 32, .t 35], none⟩] []) (.ops (.o 15 (.mov (.t 6)) <|
 .o 16 (.mov (.t 1)) <|
 .o 17 (.fad 1 (.t 5)) <|
 .o 18 (.ld (.t 17)) <|
 .o 19 (.call (.c (.fn 78 [])) [.t 16, .t 18]) <|
 .o 20 (.nilck (.t 15)) <|
 .one ⟨none, .st 1 (.t 20) (.t 19), none⟩ <|
 .nil))))))))
def code79 : AFunc := ⟨37, [], d79.strip⟩

/-- (*fulling/vcode.run).compute -/
def d80 : DCode :=
  .seq (.ops (.box 5 (.t 2) <|
 .nil)) (.seq (.ops (.o 7 (.fad 0 (.t 5)) <|
 .o 8 (.ld (.t 7)) <|
 .nil)) (.block 0 (.seq (.ops (.o 42 (.bin .eql (.t 8) (.i 10)) <|
 .o 41 (.mov (.t 42)) <|
 .nil)) (.cond (.t 41) (.drawb 7 [⟨some 43, .mov (.t 1), none⟩,
 ⟨some 44, .fad 1 (.t 5), none⟩,
 ⟨some 45, .ld (.t 44), none⟩,
 ⟨some 46, .mov (.t 1), none⟩,
 ⟨some 47, .fad 2 (.t 5), none⟩,
 ⟨some 48, .ld (.t 47), none⟩,
 ⟨some 49, .call (.c (.fn 78 [])) [.t 46, .t 48], none⟩,
 ⟨some 50, .call (.c (.fn 105 [])) [.t 43, .t 45, .t 49], none⟩] [(0, 6), (1, 6), (2, 6)]) (.seq (.ops (.o 52 (.bin .eql (.t 8) (.i 11)) <|
 .o 51 (.mov (.t 52)) <|
 .nil)) (.cond (.t 51) (.seq (.ops (.o 53 (.mov (.t 1)) <|
 .o 54 (.fad 3 (.t 5)) <|
 .o 55 (.ld (.t 54)) <|
 .o 56 (.call (.c (.fn 78 [])) [.t 53, .t 55]) <|
 .o 57 (.bin .eql (.t 56) (.i 0)) <|
 .nil)) (.cond (.t 57) (.drawb 7 [⟨some 58, .mov (.t 1), none⟩,
 ⟨some 59, .fad 1 (.t 5), none⟩,
 ⟨some 60, .ld (.t 59), none⟩,
 ⟨some 61, .mov (.t 1), none⟩,
 ⟨some 62, .fad 2 (.t 5), none⟩,
 ⟨some 63, .ld (.t 62), none⟩,
 ⟨some 64, .call (.c (.fn 78 [])) [.t 61, .t 63], none⟩,
 ⟨some 65, .call (.c (.fn 105 [])) [.t 58, .t 60, .t 64], none⟩] [(0, 6), (1, 6), (2, 6)]) (.skip))) (.seq (.ops (.o 67 (.bin .eql (.t 8) (.i 12)) <|
 .o 66 (.mov (.t 67)) <|
 .nil)) (.cond (.t 66) (.seq (.ops (.o 68 (.mov (.t 1)) <|
 .o 69 (.fad 3 (.t 5)) <|
 .o 70 (.ld (.t 69)) <|
 .o 71 (.call (.c (.fn 78 [])) [.t 68, .t 70]) <|
 .o 72 (.bin .neq (.t 71) (.i 0)) <|
 .nil)) (.cond (.t 72) (.drawb 7 [⟨some 73, .mov (.t 1), none⟩,
 ⟨some 74, .fad 1 (.t 5), none⟩,
 ⟨some 75, .ld (.t 74), none⟩,
 ⟨some 76, .mov (.t 1), none⟩,
 ⟨some 77, .fad 2 (.t 5), none⟩,
 ⟨some 78, .ld (.t 77), none⟩,
 ⟨some 79, .call (.c (.fn 78 [])) [.t 76, .t 78], none⟩,
 ⟨some 80, .call (.c (.fn 105 [])) [.t 73, .t 75, .t 79], none⟩] [(0, 6), (1, 6), (2, 6)]) (.skip))) (.seq (.ops (.o 82 (.bin .eql (.t 8) (.i 13)) <|
 .o 81 (.mov (.t 82)) <|
 .nil)) (.cond (.t 81) (.ops (.o 83 (.mov (.t 1)) <|
 .o 84 (.fad 1 (.t 5)) <|
 .o 85 (.ld (.t 84)) <|
 .o 86 (.fad 4 (.t 5)) <|
 .o 87 (.ld (.t 86)) <|
 .o 88 (.call (.c (.fn 105 [])) [.t 83, .t 85, .t 87]) <|
 .nil)) (.seq (.ops (.o 90 (.bin .eql (.t 8) (.i 38)) <|
 .o 89 (.mov (.t 90)) <|
 .nil)) (.cond (.t 89) (.drawb 11 [⟨some 91, .mov (.t 1), none⟩,
 ⟨some 92, .fad 1 (.t 5), none⟩,
 ⟨some 93, .ld (.t 92), none⟩,
 ⟨some 94, .mov (.t 1), none⟩,
 ⟨some 95, .nilck (.t 94), none⟩,
 ⟨some 96, .fad 4 (.t 95), none⟩,
 ⟨some 97, .ld (.t 96), none⟩,
 ⟨some 98, .fad 4 (.t 5), none⟩,
 ⟨some 99, .ld (.t 98), none⟩,
 ⟨some 100, .iad 1 (.t 97) (.t 99), none⟩,
 ⟨some 101, .ld (.t 100), none⟩,
 ⟨some 102, .call (.c (.fn 105 [])) [.t 91, .t 93, .t 101], none⟩] []) (.seq (.ops (.o 104 (.bin .eql (.t 8) (.i 15)) <|
 .o 103 (.mov (.t 104)) <|
 .nil)) (.cond (.t 103) (.drawb 8 [⟨some 105, .mov (.t 1), none⟩,
 ⟨some 106, .fad 1 (.t 5), none⟩,
 ⟨some 107, .ld (.t 106), none⟩,
 ⟨some 108, .mov (.t 1), none⟩,
 ⟨some 109, .fad 1 (.t 5), none⟩,
 ⟨some 110, .ld (.t 109), none⟩,
 ⟨some 111, .call (.c (.fn 78 [])) [.t 108, .t 110], none⟩,
 ⟨some 112, .call (.c (.fn 107 [])) [.i 20, .t 111], none⟩,
 ⟨some 113, .call (.c (.fn 105 [])) [.t 105, .t 107, .t 112], none⟩] [(0, 6), (1, 6), (2, 6), (0, 7), (1, 7), (2, 7)]) (.seq (.ops (.o 115 (.bin .eql (.t 8) (.i 16)) <|
 .o 114 (.mov (.t 115)) <|
 .nil)) (.cond (.t 114) (.drawb 8 [⟨some 116, .mov (.t 1), none⟩,
 ⟨some 117, .fad 1 (.t 5), none⟩,
 ⟨some 118, .ld (.t 117), none⟩,
 ⟨some 119, .mov (.t 1), none⟩,
 ⟨some 120, .fad 1 (.t 5), none⟩,
 ⟨some 121, .ld (.t 120), none⟩,
 ⟨some 122, .call (.c (.fn 78 [])) [.t 119, .t 121], none⟩,
 ⟨some 123, .call (.c (.fn 107 [])) [.i 21, .t 122], none⟩,
 ⟨some 124, .call (.c (.fn 105 [])) [.t 116, .t 118, .t 123], none⟩] [(0, 6), (1, 6), (2, 6), (0, 7), (1, 7), (2, 7)]) (.seq (.ops (.o 126 (.bin .eql (.t 8) (.i 33)) <|
 .o 125 (.mov (.t 126)) <|
 .nil)) (.cond (.t 125) (.drawb 10 [⟨some 127, .mov (.t 1), none⟩,
 ⟨some 128, .fad 1 (.t 5), none⟩,
 ⟨some 129, .ld (.t 128), none⟩,
 ⟨some 130, .mov (.t 1), none⟩,
 ⟨some 131, .fad 1 (.t 5), none⟩,
 ⟨some 132, .ld (.t 131), none⟩,
 ⟨some 133, .call (.c (.fn 78 [])) [.t 130, .t 132], none⟩,
 ⟨some 134, .fad 4 (.t 5), none⟩,
 ⟨some 135, .ld (.t 134), none⟩,
 ⟨some 136, .bin .add (.t 133) (.t 135), none⟩,
 ⟨some 137, .call (.c (.fn 105 [])) [.t 127, .t 129, .t 136], none⟩] [(0, 6), (1, 6), (2, 6), (6, 7), (6, 8)]) (.seq (.ops (.o 9 (.mov (.t 1)) <|
 .o 10 (.fad 2 (.t 5)) <|
 .o 11 (.ld (.t 10)) <|
 .o 12 (.call (.c (.fn 78 [])) [.t 9, .t 11]) <|
 .o 6 (.mov (.t 12)) <|
 .nil)) (.seq (.seq (.ops (.o 13 (.fad 0 (.t 5)) <|
 .o 14 (.ld (.t 13)) <|
 .o 15 (.bin .eql (.t 14) (.i 20)) <|
 .o 16 (.mov (.t 15)) <|
 .grp (.one ⟨some 17, .fad 0 (.t 5), some (16, false)⟩ <|
 .one ⟨some 18, .ld (.t 17), some (16, false)⟩ <|
 .one ⟨some 19, .bin .eql (.t 18) (.i 21), some (16, false)⟩ <|
 .nil) 20 16 false 19 none <|
 .o 21 (.mov (.t 20)) <|
 .grp (.one ⟨some 22, .mov (.t 6), some (21, true)⟩ <|
 .one ⟨some 23, .bin .eql (.t 22) (.i 0), some (21, true)⟩ <|
 .nil) 24 21 true 23 none <|
 .nil)) (.cond (.t 24) (.seq (.ops (.o 25 (.mov (.t 0)) <|
 .o 26 (.call (.c (.fn 77 [])) [.t 25, .i 2, .i 1, .i 0]) <|
 .nil)) (.ret)) (.skip))) (.mark [1, 5, 6] (.drawb 13 [⟨some 27, .mov (.t 1), none⟩,
 ⟨some 28, .fad 1 (.t 5), none⟩,
 ⟨some 29, .ld (.t 28), none⟩,
 ⟨some 30, .fad 0 (.t 5), none⟩,
 ⟨some 31, .ld (.t 30), none⟩,
 ⟨some 32, .bin .sub (.t 31) (.i 17), none⟩,
 ⟨some 33, .bin .add (.t 32) (.i 4), none⟩,
 ⟨some 34, .mov (.t 1), none⟩,
 ⟨some 35, .fad 1 (.t 5), none⟩,
 ⟨some 36, .ld (.t 35), none⟩,
 ⟨some 37, .call (.c (.fn 78 [])) [.t 34, .t 36], none⟩,
 ⟨some 38, .mov (.t 6), none⟩,
 ⟨some 39, .call (.c (.fn 108 [])) [.t 33, .t 37, .t 38], none⟩,
 ⟨some 40, .call (.c (.fn 105 [])) [.t 27, .t 29, .t 39], none⟩] [(0, 10), (1, 10), (2, 10), (3, 10), (4, 10), (5, 10), (6, 10), (10, 11), (0, 12), (1, 12), (2, 12)]))))))))))))))))))))))
def code80 : AFunc := ⟨138, [], d80.strip⟩

/-- fulling/vcode.validInstr$1 -/
def d81 : DCode :=
  .seq (.ops (.o 3 (.mov (.c (.bool false))) <|
 .nil)) (.seq (.ops (.o 4 (.mov (.t 0)) <|
 .o 5 (.bin .geq (.t 4) (.i 0)) <|
 .o 6 (.mov (.t 5)) <|
 .grp (.one ⟨some 7, .mov (.t 0), some (6, true)⟩ <|
 .one ⟨some 8, .fad 1 (.t 1), some (6, true)⟩ <|
 .one ⟨some 9, .ld (.t 8), some (6, true)⟩ <|
 .one ⟨some 10, .bin .lss (.t 7) (.t 9), some (6, true)⟩ <|
 .nil) 11 6 true 10 none <|
 .o 3 (.mov (.t 11)) <|
 .nil)) (.ret))
def code81 : AFunc := ⟨12, [.tmp 3], d81.strip⟩

/-- fulling/vcode.form -/
def d82 : DCode :=
  .seq (.ops (.o 2 (.mov (.i 0)) <|
 .nil)) (.seq (.seq (.ops (.o 5 (.mov (.t 0)) <|
 .o 6 (.bin .eql (.t 5) (.i 38)) <|
 .nil)) (.cond (.t 6) (.seq (.ops (.o 2 (.mov (.i 5)) <|
 .nil)) (.ret)) (.skip))) (.mark [0] (.seq (.ops (.o 8 (.mov (.t 0)) <|
 .o 9 (.call (.c (.fn 54 [])) [.t 8]) <|
 .o 7 (.mov (.t 9)) <|
 .o 10 (.ext (.t 7) 0) <|
 .o 11 (.ext (.t 7) 1) <|
 .alst 3 [.str ⟨#[]⟩, .i 0, .bool false, .bool false, .bool false, .bool false, .i 0] (.t 10) <|
 .o 4 (.mov (.t 11)) <|
 .nil)) (.seq (.ops (.o 12 (.fad 1 (.t 3)) <|
 .o 13 (.ld (.t 12)) <|
 .o 2 (.mov (.t 13)) <|
 .nil)) (.ret)))))
def code82 : AFunc := ⟨14, [.tmp 2], d82.strip⟩

/-- fulling/fullingref32.validOperand -/
def d83 : DCode :=
  .seq (.ops (.o 6 (.mov (.c (.bool false))) <|
 .nil)) (.seq (.seq (.ops (.o 7 (.mov (.t 0)) <|
 .nil)) (.cond (.t 7) (.seq (.ops (.o 8 (.mov (.t 1)) <|
 .o 9 (.bin .geq (.t 8) (.i 0)) <|
 .o 10 (.mov (.t 9)) <|
 .grp (.one ⟨some 11, .mov (.t 1), some (10, true)⟩ <|
 .one ⟨some 12, .mov (.t 2), some (10, true)⟩ <|
 .one ⟨some 13, .bin .lss (.t 11) (.t 12), some (10, true)⟩ <|
 .nil) 14 10 true 13 none <|
 .o 6 (.mov (.t 14)) <|
 .nil)) (.ret)) (.skip))) (.seq (.ops (.o 15 (.mov (.t 1)) <|
 .o 16 (.bin .eql (.t 15) (.i 0)) <|
 .o 6 (.mov (.t 16)) <|
 .nil)) (.ret)))
def code83 : AFunc := ⟨17, [.tmp 6], d83.strip⟩

/-- (*fulling/fullingref32.interpreter).step -/
def d84 : DCode :=
  .seq (.ops (.o 2 (.mov (.c (.bool false))) <|
 .nil)) (.seq (.seq (.ops (.o 3 (.mov (.t 0)) <|
 .o 4 (.nilck (.t 3)) <|
 .o 5 (.fad 3 (.t 4)) <|
 .o 6 (.ld (.t 5)) <|
 .o 7 (.bin .leq (.t 6) (.i 0)) <|
 .nil)) (.cond (.t 7) (.seq (.ops (.o 8 (.mov (.t 0)) <|
 .o 9 (.nilck (.t 8)) <|
 .o 10 (.fad 10 (.t 9)) <|
 .one ⟨none, .st 1 (.t 10) (.c (.bool true)), none⟩ <|
 .nil)) (.seq (.ops (.o 2 (.mov (.c (.bool false))) <|
 .nil)) (.ret))) (.skip))) (.mark [0] (.seq (.ops (.o 11 (.mov (.t 0)) <|
 .o 12 (.nilck (.t 11)) <|
 .o 13 (.fad 3 (.t 12)) <|
 .o 14 (.ld (.t 13)) <|
 .o 15 (.bin .sub (.t 14) (.i 1)) <|
 .o 16 (.nilck (.t 11)) <|
 .o 17 (.fad 3 (.t 16)) <|
 .one ⟨none, .st 1 (.t 17) (.t 15), none⟩ <|
 .nil)) (.seq (.ops (.o 2 (.mov (.c (.bool true))) <|
 .nil)) (.ret)))))
def code84 : AFunc := ⟨18, [.tmp 2], d84.strip⟩

/-- (*fulling/fullingref32.interpreter).do -/
def d85 : DCode :=
  .seq (.ops (.box 5 (.t 1) <|
 .nil)) (.seq (.ops (.o 11 (.fad 0 (.t 5)) <|
 .o 12 (.lda 5 (.t 11)) <|
 .alst 8 [.i 0, .i 0, .i 0, .i 0, .i 0] (.t 12) <|
 .nil)) (.seq (.ops (.o 13 (.fad 0 (.t 8)) <|
 .o 14 (.ld (.t 13)) <|
 .nil)) (.block 0 (.seq (.ops (.o 51 (.bin .eql (.t 14) (.i 3)) <|
 .o 50 (.mov (.t 51)) <|
 .nil)) (.cond (.t 50) (.seq (.ops (.o 52 (.mov (.t 0)) <|
 .o 53 (.nilck (.t 52)) <|
 .o 54 (.fad 2 (.t 53)) <|
 .o 55 (.ld (.t 54)) <|
 .o 56 (.bin .eql (.t 55) (.i 0)) <|
 .nil)) (.cond (.t 56) (.ops (.o 57 (.mov (.t 0)) <|
 .o 58 (.call (.c (.fn 86 [])) [.t 57, .i 3, .i 0]) <|
 .nil)) (.ops (.o 59 (.mov (.t 0)) <|
 .o 60 (.nilck (.t 59)) <|
 .o 61 (.fad 2 (.t 60)) <|
 .o 62 (.ld (.t 61)) <|
 .o 63 (.bin .sub (.t 62) (.i 1)) <|
 .o 64 (.nilck (.t 59)) <|
 .o 65 (.fad 2 (.t 64)) <|
 .one ⟨none, .st 1 (.t 65) (.t 63), none⟩ <|
 .nil)))) (.seq (.ops (.o 67 (.bin .eql (.t 14) (.i 6)) <|
 .o 66 (.mov (.t 67)) <|
 .nil)) (.cond (.t 66) (.seq (.ops (.o 9 (.mov (.c (.nilsl))) <|
 .nil)) (.seq (.seq (.ops (.o 10 (.mov (.i 0)) <|
 .nil)) (.block 1 (.loop [0, 2, 5, 8, 9, 10] (.seq (.seq (.ops (.o 68 (.mov (.t 10)) <|
 .o 69 (.fad 5 (.t 5)) <|
 .o 70 (.ld (.t 69)) <|
 .o 71 (.len (.t 70)) <|
 .o 72 (.bin .lss (.t 68) (.t 71)) <|
 .nil)) (.cond (.t 72) (.skip) (.exit 1))) (.mark [0, 2, 5, 8, 9, 10] (.seq (.block 2 (.ops (.o 75 (.mov (.t 9)) <|
 .o 76 (.mov (.t 2)) <|
 .o 77 (.fad 5 (.t 5)) <|
 .o 78 (.ld (.t 77)) <|
 .o 79 (.mov (.t 10)) <|
 .o 80 (.iad 1 (.t 78) (.t 79)) <|
 .o 81 (.ld (.t 80)) <|
 .o 82 (.iad 1 (.t 76) (.t 81)) <|
 .o 83 (.ld (.t 82)) <|
 .bsl 84 1 [.i 0] 1 [(0, .t 83)] <|
 .o 85 (.app 1 (.t 75) (.t 84)) <|
 .o 9 (.mov (.t 85)) <|
 .nil))) (.ops (.o 73 (.mov (.t 10)) <|
 .o 74 (.bin .add (.t 73) (.i 1)) <|
 .o 10 (.mov (.t 74)) <|
 .nil)))))))) (.mark [0, 2, 8, 9] (.drawb 7 [⟨some 86, .mov (.t 2), none⟩,
 ⟨some 87, .fad 1 (.t 8), none⟩,
 ⟨some 88, .ld (.t 87), none⟩,
 ⟨some 89, .mov (.t 0), none⟩,
 ⟨some 90, .fad 4 (.t 8), none⟩,
 ⟨some 91, .ld (.t 90), none⟩,
 ⟨some 92, .mov (.t 9), none⟩,
 ⟨some 93, .call (.c (.fn 51 [])) [.t 89, .t 91, .t 92], none⟩,
 ⟨some 94, .iad 1 (.t 86) (.t 88), none⟩,
 ⟨none, .st 1 (.t 94) (.t 93), none⟩] [(0, 7), (1, 7), (2, 7)])))) (.seq (.ops (.o 96 (.bin .eql (.t 14) (.i 9)) <|
 .o 95 (.mov (.t 96)) <|
 .nil)) (.cond (.t 95) (.drawq (.o 97 (.mov (.t 0)) <|
 .o 98 (.mov (.t 0)) <|
 .o 99 (.nilck (.t 98)) <|
 .o 100 (.fad 4 (.t 99)) <|
 .o 101 (.ld (.t 100)) <|
 .o 102 (.mov (.t 2)) <|
 .o 103 (.fad 1 (.t 8)) <|
 .o 104 (.ld (.t 103)) <|
 .o 105 (.iad 1 (.t 102) (.t 104)) <|
 .o 106 (.ld (.t 105)) <|
 .o 107 (.bsl 1 [.i 0] 1 [(0, .t 106)]) <|
 .o 108 (.app 1 (.t 101) (.t 107)) <|
 .o 109 (.nilck (.t 97)) <|
 .o 110 (.fad 4 (.t 109)) <|
 .one ⟨none, .st 1 (.t 110) (.t 108), none⟩ <|
 .nil) [(4, 10)]) (.seq (.ops (.o 112 (.bin .eql (.t 14) (.i 10)) <|
 .o 111 (.mov (.t 112)) <|
 .nil)) (.cond (.t 111) (.drawq (.o 113 (.mov (.t 2)) <|
 .o 114 (.fad 1 (.t 8)) <|
 .o 115 (.ld (.t 114)) <|
 .o 116 (.mov (.t 2)) <|
 .o 117 (.fad 2 (.t 8)) <|
 .o 118 (.ld (.t 117)) <|
 .o 119 (.iad 1 (.t 116) (.t 118)) <|
 .o 120 (.ld (.t 119)) <|
 .o 121 (.iad 1 (.t 113) (.t 115)) <|
 .one ⟨none, .st 1 (.t 121) (.t 120), none⟩ <|
 .nil) []) (.seq (.ops (.o 123 (.bin .eql (.t 14) (.i 11)) <|
 .o 122 (.mov (.t 123)) <|
 .nil)) (.cond (.t 122) (.seq (.ops (.o 124 (.mov (.t 2)) <|
 .o 125 (.fad 3 (.t 8)) <|
 .o 126 (.ld (.t 125)) <|
 .o 127 (.iad 1 (.t 124) (.t 126)) <|
 .o 128 (.ld (.t 127)) <|
 .o 129 (.bin .eql (.t 128) (.i 0)) <|
 .nil)) (.cond (.t 129) (.drawq (.o 130 (.mov (.t 2)) <|
 .o 131 (.fad 1 (.t 8)) <|
 .o 132 (.ld (.t 131)) <|
 .o 133 (.mov (.t 2)) <|
 .o 134 (.fad 2 (.t 8)) <|
 .o 135 (.ld (.t 134)) <|
 .o 136 (.iad 1 (.t 133) (.t 135)) <|
 .o 137 (.ld (.t 136)) <|
 .o 138 (.iad 1 (.t 130) (.t 132)) <|
 .one ⟨none, .st 1 (.t 138) (.t 137), none⟩ <|
 .nil) []) (.skip))) (.seq (.ops (.o 140 (.bin .eql (.t 14) (.i 12)) <|
 .o 139 (.mov (.t 140)) <|
 .nil)) (.cond (.t 139) (.seq (.ops (.o 141 (.mov (.t 2)) <|
 .o 142 (.fad 3 (.t 8)) <|
 .o 143 (.ld (.t 142)) <|
 .o 144 (.iad 1 (.t 141) (.t 143)) <|
 .o 145 (.ld (.t 144)) <|
 .o 146 (.bin .neq (.t 145) (.i 0)) <|
 .nil)) (.cond (.t 146) (.drawq (.o 147 (.mov (.t 2)) <|
 .o 148 (.fad 1 (.t 8)) <|
 .o 149 (.ld (.t 148)) <|
 .o 150 (.mov (.t 2)) <|
 .o 151 (.fad 2 (.t 8)) <|
 .o 152 (.ld (.t 151)) <|
 .o 153 (.iad 1 (.t 150) (.t 152)) <|
 .o 154 (.ld (.t 153)) <|
 .o 155 (.iad 1 (.t 147) (.t 149)) <|
 .one ⟨none, .st 1 (.t 155) (.t 154), none⟩ <|
 .nil) []) (.skip))) (.seq (.ops (.o 157 (.bin .eql (.t 14) (.i 13)) <|
 .o 156 (.mov (.t 157)) <|
 .nil)) (.cond (.t 156) (.ops (.o 158 (.mov (.t 2)) <|
 .o 159 (.fad 1 (.t 8)) <|
 .o 160 (.ld (.t 159)) <|
 .o 161 (.fad 4 (.t 8)) <|
 .o 162 (.ld (.t 161)) <|
 .o 163 (.iad 1 (.t 158) (.t 160)) <|
 .one ⟨none, .st 1 (.t 163) (.t 162), none⟩ <|
 .nil)) (.seq (.seq (.ops (.o 165 (.bin .eql (.t 14) (.i 15)) <|
 .o 164 (.mov (.t 165)) <|
 .nil)) (.cond (.t 164) (.skip) (.ops (.o 166 (.bin .eql (.t 14) (.i 16)) <|
 .o 164 (.mov (.t 166)) <|
 .nil)))) (.mark [0, 2, 3, 8, 14, 164] (.cond (.t 164) (.drawq (.o 167 (.mov (.t 2)) <|
 .o 168 (.fad 1 (.t 8)) <|
 .o 169 (.ld (.t 168)) <|
 .o 170 (.fad 0 (.t 8)) <|
 .o 171 (.ld (.t 170)) <|
 .o 172 (.mov (.t 2)) <|
 .o 173 (.fad 1 (.t 8)) <|
 .o 174 (.ld (.t 173)) <|
 .o 175 (.iad 1 (.t 172) (.t 174)) <|
 .o 176 (.ld (.t 175)) <|
 .o 177 (.call (.c (.fn 109 [])) [.t 171, .t 176]) <|
 .o 178 (.iad 1 (.t 167) (.t 169)) <|
 .one ⟨none, .st 1 (.t 178) (.t 177), none⟩ <|
 .nil) [(0, 10), (1, 10), (2, 10)]) (.seq (.ops (.o 180 (.bin .eql (.t 14) (.i 33)) <|
 .o 179 (.mov (.t 180)) <|
 .nil)) (.cond (.t 179) (.drawq (.o 181 (.mov (.t 2)) <|
 .o 182 (.fad 1 (.t 8)) <|
 .o 183 (.ld (.t 182)) <|
 .o 184 (.iad 1 (.t 181) (.t 183)) <|
 .o 185 (.ld (.t 184)) <|
 .o 186 (.fad 4 (.t 8)) <|
 .o 187 (.ld (.t 186)) <|
 .o 188 (.bin .add (.t 185) (.t 187)) <|
 .o 189 (.iad 1 (.t 181) (.t 183)) <|
 .one ⟨none, .st 1 (.t 189) (.t 188), none⟩ <|
 .nil) []) (.seq (.seq (.ops (.o 191 (.bin .eql (.t 14) (.i 34)) <|
 .o 190 (.mov (.t 191)) <|
 .nil)) (.cond (.t 190) (.skip) (.ops (.o 192 (.bin .eql (.t 14) (.i 35)) <|
 .o 190 (.mov (.t 192)) <|
 .nil)))) (.mark [0, 2, 3, 8, 14, 190] (.cond (.t 190) (.ops (.o 193 (.mov (.t 0)) <|
 .o 194 (.lda 5 (.t 8)) <|
 .o 195 (.mov (.t 2)) <|
 .o 196 (.call (.c (.fn 110 [])) [.t 193, .t 194, .t 195]) <|
 .nil)) (.seq (.ops (.o 198 (.bin .eql (.t 14) (.i 38)) <|
 .o 197 (.mov (.t 198)) <|
 .nil)) (.cond (.t 197) (.drawq (.o 199 (.mov (.t 2)) <|
 .o 200 (.fad 1 (.t 8)) <|
 .o 201 (.ld (.t 200)) <|
 .o 202 (.mov (.t 3)) <|
 .o 203 (.fad 4 (.t 8)) <|
 .o 204 (.ld (.t 203)) <|
 .o 205 (.iad 1 (.t 202) (.t 204)) <|
 .o 206 (.ld (.t 205)) <|
 .o 207 (.iad 1 (.t 199) (.t 201)) <|
 .one ⟨none, .st 1 (.t 207) (.t 206), none⟩ <|
 .nil) []) (.seq (.ops (.o 15 (.fad 0 (.t 8)) <|
 .o 16 (.ld (.t 15)) <|
 .o 17 (.bin .eql (.t 16) (.i 20)) <|
 .o 18 (.mov (.t 17)) <|
 .grp (.one ⟨some 19, .fad 0 (.t 8), some (18, false)⟩ <|
 .one ⟨some 20, .ld (.t 19), some (18, false)⟩ <|
 .one ⟨some 21, .bin .eql (.t 20) (.i 21), some (18, false)⟩ <|
 .nil) 22 18 false 21 none <|
 .o 23 (.mov (.t 22)) <|
 .grp (.one ⟨some 24, .mov (.t 2), some (23, true)⟩ <|
 .one ⟨some 25, .fad 2 (.t 8), some (23, true)⟩ <|
 .one ⟨some 26, .ld (.t 25), some (23, true)⟩ <|
 .one ⟨some 27, .iad 1 (.t 24) (.t 26), some (23, true)⟩ <|
 .one ⟨some 28, .ld (.t 27), some (23, true)⟩ <|
 .one ⟨some 29, .bin .eql (.t 28) (.i 0), some (23, true)⟩ <|
 .nil) 30 23 true 29 none <|
 .nil)) (.cond (.t 30) (.ops (.o 31 (.mov (.t 0)) <|
 .o 32 (.call (.c (.fn 86 [])) [.t 31, .i 2, .i 1]) <|
 .nil)) (.drawq (.o 33 (.mov (.t 2)) <|
 .o 34 (.fad 1 (.t 8)) <|
 .o 35 (.ld (.t 34)) <|
 .o 36 (.fad 0 (.t 8)) <|
 .o 37 (.ld (.t 36)) <|
 .o 38 (.mov (.t 2)) <|
 .o 39 (.fad 1 (.t 8)) <|
 .o 40 (.ld (.t 39)) <|
 .o 41 (.iad 1 (.t 38) (.t 40)) <|
 .o 42 (.ld (.t 41)) <|
 .o 43 (.mov (.t 2)) <|
 .o 44 (.fad 2 (.t 8)) <|
 .o 45 (.ld (.t 44)) <|
 .o 46 (.iad 1 (.t 43) (.t 45)) <|
 .o 47 (.ld (.t 46)) <|
 .o 48 (.call (.c (.fn 111 [])) [.t 37, .t 42, .t 47]) <|
 .o 49 (.iad 1 (.t 33) (.t 35)) <|
 .one ⟨none, .st 1 (.t 49) (.t 48), none⟩ <|
 .nil) [(0, 15), (1, 15), (2, 15)]))))))))))))))))))))))))))))))
def code85 : AFunc := ⟨208, [], d85.strip⟩

/-- (*fulling/fullingref32.interpreter).stop -/
def d86 : DCode :=
  .ops (.o 6 (.mov (.t 0)) <|
 .o 7 (.mov (.t 0)) <|
 .o 8 (.mov (.t 1)) <|
 .o 9 (.mov (.t 2)) <|
 .o 10 (.build [.i 0, .i 0, .nilsl, .i 0] [(0, 1, .t 8), (1, 1, .t 9)]) <|
 .o 11 (.nilck (.t 6)) <|
 .o 12 (.fad 9 (.t 11)) <|
 .one ⟨none, .st 1 (.t 12) (.c (.bool true)), none⟩ <|
 .o 13 (.nilck (.t 7)) <|
 .o 14 (.fad 5 (.t 13)) <|
 .one ⟨none, .st 4 (.t 14) (.t 10), none⟩ <|
 .nil)
def code86 : AFunc := ⟨15, [], d86.strip⟩

/-- fulling/fullingref29.names -/
def d87 : DCode :=
  .seq (.ops (.o 0 (.mov (.c (.nilsl))) <|
 .nil)) (.seq (.ops (.bsl 1 1 [.str ⟨#[]⟩] 38 [(0, .c (.str ⟨#[]⟩)), (1, .c (.str ⟨#[110, 111, 112]⟩)), (2, .c (.str ⟨#[114, 101, 116]⟩)), (3, .c (.str ⟨#[116, 105, 99, 107]⟩)), (4, .c (.str ⟨#[116, 114, 97, 112]⟩)), (5, .c (.str ⟨#[106, 109, 112]⟩)), (6, .c (.str ⟨#[99, 97, 108, 108]⟩)), (7, .c (.str ⟨#[106, 122]⟩)), (8, .c (.str ⟨#[106, 110, 122]⟩)), (9, .c (.str ⟨#[111, 117, 116]⟩)), (10, .c (.str ⟨#[109, 111, 118]⟩)), (11, .c (.str ⟨#[99, 109, 111, 118, 122]⟩)), (12, .c (.str ⟨#[99, 109, 111, 118, 110, 122]⟩)), (13, .c (.str ⟨#[108, 100, 105]⟩)), (14, .c (.str ⟨#[108, 100, 99]⟩)), (15, .c (.str ⟨#[110, 101, 103]⟩)), (16, .c (.str ⟨#[110, 111, 116]⟩)), (17, .c (.str ⟨#[97, 100, 100]⟩)), (18, .c (.str ⟨#[115, 117, 98]⟩)), (19, .c (.str ⟨#[109, 117, 108]⟩)), (20, .c (.str ⟨#[100, 105, 118]⟩)), (21, .c (.str ⟨#[114, 101, 109]⟩)), (22, .c (.str ⟨#[97, 110, 100]⟩)), (23, .c (.str ⟨#[111, 114]⟩)), (24, .c (.str ⟨#[120, 111, 114]⟩)), (25, .c (.str ⟨#[115, 104, 108]⟩)), (26, .c (.str ⟨#[115, 104, 114]⟩)), (27, .c (.str ⟨#[115, 97, 114]⟩)), (28, .c (.str ⟨#[101, 113]⟩)), (29, .c (.str ⟨#[110, 101]⟩)), (30, .c (.str ⟨#[108, 116]⟩)), (31, .c (.str ⟨#[108, 101]⟩)), (32, .c (.str ⟨#[108, 116, 117]⟩)), (33, .c (.str ⟨#[97, 100, 100, 105]⟩)), (34, .c (.str ⟨#[108, 100]⟩)), (35, .c (.str ⟨#[115, 116]⟩)), (36, .c (.str ⟨#[108, 100, 115]⟩)), (37, .c (.str ⟨#[115, 116, 115]⟩))] <|
 .o 0 (.mov (.t 1)) <|
 .nil)) (.ret))
def code87 : AFunc := ⟨2, [.tmp 0], d87.strip⟩

/-- fulling/fullingref29.IsBinary -/
def d88 : DCode :=
  .seq (.ops (.o 2 (.mov (.c (.bool false))) <|
 .nil)) (.seq (.ops (.o 3 (.mov (.t 0)) <|
 .o 4 (.bin .geq (.t 3) (.i 17)) <|
 .o 5 (.mov (.t 4)) <|
 .grp (.one ⟨some 6, .mov (.t 0), some (5, true)⟩ <|
 .one ⟨some 7, .bin .leq (.t 6) (.i 32), some (5, true)⟩ <|
 .nil) 8 5 true 7 none <|
 .o 2 (.mov (.t 8)) <|
 .nil)) (.ret))
def code88 : AFunc := ⟨9, [.tmp 2], d88.strip⟩

/-- (*fulling/vcode.call).set -/
def d105 : DCode :=
  .seq (.block 0 (.loop [0, 1, 2] (.seq (.seq (.ops (.o 6 (.mov (.t 0)) <|
 .o 7 (.nilck (.t 6)) <|
 .o 8 (.fad 3 (.t 7)) <|
 .o 9 (.ld (.t 8)) <|
 .o 10 (.len (.t 9)) <|
 .o 11 (.mov (.t 1)) <|
 .o 12 (.bin .leq (.t 10) (.t 11)) <|
 .nil)) (.cond (.t 12) (.skip) (.exit 0))) (.mark [0, 1, 2] (.block 1 (.ops (.o 13 (.mov (.t 0)) <|
 .o 14 (.mov (.t 0)) <|
 .o 15 (.nilck (.t 14)) <|
 .o 16 (.fad 3 (.t 15)) <|
 .o 17 (.ld (.t 16)) <|
 .bsl 18 1 [.i 0] 1 [(0, .i 0)] <|
 .o 19 (.app 1 (.t 17) (.t 18)) <|
 .o 20 (.nilck (.t 13)) <|
 .o 21 (.fad 3 (.t 20)) <|
 .one ⟨none, .st 1 (.t 21) (.t 19), none⟩ <|
 .nil))))))) (.mark [0, 1, 2] (.ops (.o 22 (.mov (.t 0)) <|
 .o 23 (.nilck (.t 22)) <|
 .o 24 (.fad 3 (.t 23)) <|
 .o 25 (.ld (.t 24)) <|
 .o 26 (.mov (.t 1)) <|
 .o 27 (.mov (.t 2)) <|
 .o 28 (.iad 1 (.t 25) (.t 26)) <|
 .one ⟨none, .st 1 (.t 28) (.t 27), none⟩ <|
 .nil)))
def code105 : AFunc := ⟨29, [], d105.strip⟩

/-- (*fulling/vcode.run).cell -/
def d106 : DCode :=
  .seq (.ops (.o 6 (.mov (.c (.nilp))) <|
 .nil)) (.seq (.ops (.o 8 (.mov (.t 0)) <|
 .o 9 (.nilck (.t 8)) <|
 .o 10 (.fad 1 (.t 9)) <|
 .o 11 (.ld (.t 10)) <|
 .o 12 (.mov (.t 1)) <|
 .o 13 (.iad 1 (.t 11) (.t 12)) <|
 .o 14 (.ld (.t 13)) <|
 .o 7 (.mov (.t 14)) <|
 .nil)) (.seq (.seq (.ops (.o 15 (.mov (.t 2)) <|
 .o 16 (.bin .lss (.t 15) (.i 0)) <|
 .o 17 (.mov (.t 16)) <|
 .grp (.one ⟨some 18, .mov (.t 2), some (17, false)⟩ <|
 .one ⟨some 19, .mov (.t 7), some (17, false)⟩ <|
 .one ⟨some 20, .len (.t 19), some (17, false)⟩ <|
 .one ⟨some 21, .bin .geq (.t 18) (.t 20), some (17, false)⟩ <|
 .nil) 22 17 false 21 none <|
 .nil)) (.cond (.t 22) (.seq (.ops (.o 6 (.mov (.c (.nilp))) <|
 .nil)) (.ret)) (.skip))) (.seq (.ops (.o 23 (.mov (.t 7)) <|
 .o 24 (.mov (.t 2)) <|
 .o 25 (.iad 1 (.t 23) (.t 24)) <|
 .o 6 (.mov (.t 25)) <|
 .nil)) (.ret))))
def code106 : AFunc := ⟨26, [.tmp 6], d106.strip⟩

/-- fulling/word.Unary -/
def d107 : DCode :=
  .seq (.ops (.o 4 (.mov (.i 0)) <|
 .nil)) (.seq (.seq (.ops (.o 5 (.mov (.t 0)) <|
 .nil)) (.block 0 (.seq (.ops (.o 7 (.bin .eql (.t 5) (.i 20)) <|
 .o 6 (.mov (.t 7)) <|
 .nil)) (.cond (.t 6) (.seq (.ops (.o 8 (.mov (.t 1)) <|
 .o 9 (.un .neg (.t 8)) <|
 .o 4 (.mov (.t 9)) <|
 .nil)) (.ret)) (.seq (.ops (.o 11 (.bin .eql (.t 5) (.i 21)) <|
 .o 10 (.mov (.t 11)) <|
 .nil)) (.cond (.t 10) (.seq (.ops (.o 12 (.mov (.t 1)) <|
 .o 13 (.un .xor (.t 12)) <|
 .o 4 (.mov (.t 13)) <|
 .nil)) (.ret)) (.skip))))))) (.seq (.ops (.o 4 (.mov (.i 0)) <|
 .nil)) (.ret)))
def code107 : AFunc := ⟨14, [.tmp 4], d107.strip⟩

/-- fulling/word.Binary -/
def d108 : DCode :=
  .seq (.ops (.o 6 (.mov (.i 0)) <|
 .nil)) (.seq (.seq (.ops (.o 7 (.mov (.t 0)) <|
 .nil)) (.block 0 (.seq (.ops (.o 9 (.bin .eql (.t 7) (.i 4)) <|
 .o 8 (.mov (.t 9)) <|
 .nil)) (.cond (.t 8) (.seq (.ops (.o 10 (.mov (.t 1)) <|
 .o 11 (.mov (.t 2)) <|
 .o 12 (.bin .add (.t 10) (.t 11)) <|
 .o 6 (.mov (.t 12)) <|
 .nil)) (.ret)) (.seq (.ops (.o 14 (.bin .eql (.t 7) (.i 5)) <|
 .o 13 (.mov (.t 14)) <|
 .nil)) (.cond (.t 13) (.seq (.ops (.o 15 (.mov (.t 1)) <|
 .o 16 (.mov (.t 2)) <|
 .o 17 (.bin .sub (.t 15) (.t 16)) <|
 .o 6 (.mov (.t 17)) <|
 .nil)) (.ret)) (.seq (.ops (.o 19 (.bin .eql (.t 7) (.i 6)) <|
 .o 18 (.mov (.t 19)) <|
 .nil)) (.cond (.t 18) (.seq (.ops (.o 20 (.mov (.t 1)) <|
 .o 21 (.mov (.t 2)) <|
 .o 22 (.bin .mul (.t 20) (.t 21)) <|
 .o 6 (.mov (.t 22)) <|
 .nil)) (.ret)) (.seq (.ops (.o 24 (.bin .eql (.t 7) (.i 7)) <|
 .o 23 (.mov (.t 24)) <|
 .nil)) (.cond (.t 23) (.seq (.ops (.o 25 (.mov (.t 1)) <|
 .o 26 (.mov (.t 2)) <|
 .o 27 (.call (.c (.fn 129 [])) [.t 25, .t 26]) <|
 .o 6 (.mov (.t 27)) <|
 .nil)) (.ret)) (.seq (.ops (.o 29 (.bin .eql (.t 7) (.i 8)) <|
 .o 28 (.mov (.t 29)) <|
 .nil)) (.cond (.t 28) (.seq (.seq (.ops (.o 30 (.mov (.t 2)) <|
 .o 31 (.bin .eql (.t 30) (.i 0)) <|
 .nil)) (.cond (.t 31) (.seq (.ops (.o 6 (.mov (.i 0)) <|
 .nil)) (.ret)) (.skip))) (.mark [1, 2] (.seq (.ops (.o 32 (.mov (.t 1)) <|
 .o 33 (.mov (.t 1)) <|
 .o 34 (.mov (.t 2)) <|
 .o 35 (.call (.c (.fn 129 [])) [.t 33, .t 34]) <|
 .o 36 (.mov (.t 2)) <|
 .o 37 (.bin .mul (.t 35) (.t 36)) <|
 .o 38 (.bin .sub (.t 32) (.t 37)) <|
 .o 6 (.mov (.t 38)) <|
 .nil)) (.ret)))) (.seq (.ops (.o 40 (.bin .eql (.t 7) (.i 9)) <|
 .o 39 (.mov (.t 40)) <|
 .nil)) (.cond (.t 39) (.seq (.ops (.o 41 (.mov (.t 1)) <|
 .o 42 (.mov (.t 2)) <|
 .o 43 (.bin .and (.t 41) (.t 42)) <|
 .o 6 (.mov (.t 43)) <|
 .nil)) (.ret)) (.seq (.ops (.o 45 (.bin .eql (.t 7) (.i 10)) <|
 .o 44 (.mov (.t 45)) <|
 .nil)) (.cond (.t 44) (.seq (.ops (.o 46 (.mov (.t 1)) <|
 .o 47 (.mov (.t 2)) <|
 .o 48 (.bin .or (.t 46) (.t 47)) <|
 .o 6 (.mov (.t 48)) <|
 .nil)) (.ret)) (.seq (.ops (.o 50 (.bin .eql (.t 7) (.i 11)) <|
 .o 49 (.mov (.t 50)) <|
 .nil)) (.cond (.t 49) (.seq (.ops (.o 51 (.mov (.t 1)) <|
 .o 52 (.mov (.t 2)) <|
 .o 53 (.bin .xor (.t 51) (.t 52)) <|
 .o 6 (.mov (.t 53)) <|
 .nil)) (.ret)) (.skip))))))))))))))))))) (.seq (.ops (.o 54 (.mov (.t 0)) <|
 .o 55 (.mov (.t 1)) <|
 .o 56 (.mov (.t 2)) <|
 .o 57 (.call (.c (.fn 130 [])) [.t 54, .t 55, .t 56]) <|
 .o 6 (.mov (.t 57)) <|
 .nil)) (.ret)))
def code108 : AFunc := ⟨58, [.tmp 6], d108.strip⟩

/-- fulling/fullingref29.Unary -/
def d109 : DCode :=
  .seq (.ops (.o 4 (.mov (.i 0)) <|
 .nil)) (.seq (.seq (.ops (.o 5 (.mov (.t 0)) <|
 .o 6 (.bin .eql (.t 5) (.i 15)) <|
 .nil)) (.cond (.t 6) (.seq (.ops (.o 7 (.mov (.t 1)) <|
 .o 8 (.bin .sub (.i 0) (.t 7)) <|
 .o 4 (.mov (.t 8)) <|
 .nil)) (.ret)) (.skip))) (.seq (.ops (.o 9 (.mov (.t 1)) <|
 .o 10 (.bin .sub (.i (-1)) (.t 9)) <|
 .o 4 (.mov (.t 10)) <|
 .nil)) (.ret)))
def code109 : AFunc := ⟨11, [.tmp 4], d109.strip⟩

/-- (*fulling/fullingref32.interpreter).memory -/
def d110 : DCode :=
  .seq (.ops (.box 4 (.t 1) <|
 .nil)) (.seq (.drawq (.o 7 (.mov (.t 0)) <|
 .o 8 (.nilck (.t 7)) <|
 .o 9 (.fad 1 (.t 8)) <|
 .o 10 (.ld (.t 9)) <|
 .o 11 (.fad 4 (.t 4)) <|
 .o 12 (.ld (.t 11)) <|
 .o 13 (.iad 1 (.t 10) (.t 12)) <|
 .o 14 (.ld (.t 13)) <|
 .o 6 (.mov (.t 14)) <|
 .nil) []) (.block 0 (.seq (.ops (.o 28 (.mov (.t 2)) <|
 .o 29 (.fad 2 (.t 4)) <|
 .o 30 (.ld (.t 29)) <|
 .o 31 (.iad 1 (.t 28) (.t 30)) <|
 .o 32 (.ld (.t 31)) <|
 .o 33 (.bin .lss (.t 32) (.i 0)) <|
 .o 34 (.mov (.t 33)) <|
 .grp (.one ⟨some 35, .mov (.t 2), some (34, false)⟩ <|
 .one ⟨some 36, .fad 2 (.t 4), some (34, false)⟩ <|
 .one ⟨some 37, .ld (.t 36), some (34, false)⟩ <|
 .one ⟨some 38, .iad 1 (.t 35) (.t 37), some (34, false)⟩ <|
 .one ⟨some 39, .ld (.t 38), some (34, false)⟩ <|
 .one ⟨some 40, .mov (.t 6), some (34, false)⟩ <|
 .one ⟨some 41, .len (.t 40), some (34, false)⟩ <|
 .one ⟨some 42, .bin .geq (.t 39) (.t 41), some (34, false)⟩ <|
 .nil) 43 34 false 42 none <|
 .o 27 (.mov (.t 43)) <|
 .nil)) (.cond (.t 27) (.ops (.o 44 (.mov (.t 0)) <|
 .o 45 (.call (.c (.fn 86 [])) [.t 44, .i 2, .i 2]) <|
 .nil)) (.seq (.ops (.o 47 (.fad 0 (.t 4)) <|
 .o 48 (.ld (.t 47)) <|
 .o 49 (.bin .eql (.t 48) (.i 34)) <|
 .o 46 (.mov (.t 49)) <|
 .nil)) (.cond (.t 46) (.drawq (.o 50 (.mov (.t 2)) <|
 .o 51 (.fad 1 (.t 4)) <|
 .o 52 (.ld (.t 51)) <|
 .o 53 (.mov (.t 6)) <|
 .o 54 (.mov (.t 2)) <|
 .o 55 (.fad 2 (.t 4)) <|
 .o 56 (.ld (.t 55)) <|
 .o 57 (.iad 1 (.t 54) (.t 56)) <|
 .o 58 (.ld (.t 57)) <|
 .o 59 (.iad 1 (.t 53) (.t 58)) <|
 .o 60 (.ld (.t 59)) <|
 .o 61 (.iad 1 (.t 50) (.t 52)) <|
 .one ⟨none, .st 1 (.t 61) (.t 60), none⟩ <|
 .nil) []) (.drawq (.o 15 (.mov (.t 6)) <|
 .o 16 (.mov (.t 2)) <|
 .o 17 (.fad 2 (.t 4)) <|
 .o 18 (.ld (.t 17)) <|
 .o 19 (.iad 1 (.t 16) (.t 18)) <|
 .o 20 (.ld (.t 19)) <|
 .o 21 (.mov (.t 2)) <|
 .o 22 (.fad 1 (.t 4)) <|
 .o 23 (.ld (.t 22)) <|
 .o 24 (.iad 1 (.t 21) (.t 23)) <|
 .o 25 (.ld (.t 24)) <|
 .o 26 (.iad 1 (.t 15) (.t 20)) <|
 .one ⟨none, .st 1 (.t 26) (.t 25), none⟩ <|
 .nil) [])))))))
def code110 : AFunc := ⟨62, [], d110.strip⟩

end Go.Abs
/- Abstract code, printed by a program of this session's off the loaded functions. -/
namespace Go.Abs

/-- fulling/fullingref29.Binary -/
def d111 : DCode :=
  .seq (.ops (.o 6 (.mov (.i 0)) <|
 .nil)) (.seq (.ops (.o 8 (.mov (.t 2)) <|
 .o 9 (.bin .and (.t 8) (.i 63)) <|
 .o 10 (.conv .u64 (.t 9)) <|
 .o 7 (.mov (.t 10)) <|
 .nil)) (.seq (.seq (.ops (.o 11 (.mov (.t 0)) <|
 .nil)) (.block 0 (.seq (.ops (.o 13 (.bin .eql (.t 11) (.i 17)) <|
 .o 12 (.mov (.t 13)) <|
 .nil)) (.cond (.t 12) (.seq (.ops (.o 14 (.mov (.t 1)) <|
 .o 15 (.mov (.t 2)) <|
 .o 16 (.bin .add (.t 14) (.t 15)) <|
 .o 6 (.mov (.t 16)) <|
 .nil)) (.ret)) (.seq (.ops (.o 18 (.bin .eql (.t 11) (.i 18)) <|
 .o 17 (.mov (.t 18)) <|
 .nil)) (.cond (.t 17) (.seq (.ops (.o 19 (.mov (.t 1)) <|
 .o 20 (.mov (.t 2)) <|
 .o 21 (.bin .sub (.t 19) (.t 20)) <|
 .o 6 (.mov (.t 21)) <|
 .nil)) (.ret)) (.seq (.ops (.o 23 (.bin .eql (.t 11) (.i 19)) <|
 .o 22 (.mov (.t 23)) <|
 .nil)) (.cond (.t 22) (.seq (.ops (.o 24 (.mov (.t 1)) <|
 .o 25 (.mov (.t 2)) <|
 .o 26 (.bin .mul (.t 24) (.t 25)) <|
 .o 6 (.mov (.t 26)) <|
 .nil)) (.ret)) (.seq (.ops (.o 28 (.bin .eql (.t 11) (.i 20)) <|
 .o 27 (.mov (.t 28)) <|
 .nil)) (.cond (.t 27) (.seq (.seq (.ops (.o 29 (.mov (.t 2)) <|
 .o 30 (.bin .eql (.t 29) (.i 0)) <|
 .nil)) (.cond (.t 30) (.seq (.ops (.o 6 (.mov (.i 0)) <|
 .nil)) (.ret)) (.skip))) (.mark [1, 2] (.seq (.seq (.ops (.o 31 (.mov (.t 2)) <|
 .o 32 (.bin .eql (.t 31) (.i (-1))) <|
 .nil)) (.cond (.t 32) (.seq (.ops (.o 33 (.mov (.t 1)) <|
 .o 34 (.bin .sub (.i 0) (.t 33)) <|
 .o 6 (.mov (.t 34)) <|
 .nil)) (.ret)) (.skip))) (.seq (.ops (.o 35 (.mov (.t 1)) <|
 .o 36 (.mov (.t 2)) <|
 .o 37 (.bin .quo (.t 35) (.t 36)) <|
 .o 6 (.mov (.t 37)) <|
 .nil)) (.ret))))) (.seq (.ops (.o 39 (.bin .eql (.t 11) (.i 21)) <|
 .o 38 (.mov (.t 39)) <|
 .nil)) (.cond (.t 38) (.seq (.seq (.ops (.o 40 (.mov (.t 2)) <|
 .o 41 (.bin .eql (.t 40) (.i 0)) <|
 .o 42 (.mov (.t 41)) <|
 .grp (.one ⟨some 43, .mov (.t 2), some (42, false)⟩ <|
 .one ⟨some 44, .bin .eql (.t 43) (.i (-1)), some (42, false)⟩ <|
 .nil) 45 42 false 44 none <|
 .nil)) (.cond (.t 45) (.seq (.ops (.o 6 (.mov (.i 0)) <|
 .nil)) (.ret)) (.skip))) (.seq (.ops (.o 46 (.mov (.t 1)) <|
 .o 47 (.mov (.t 2)) <|
 .o 48 (.bin .rem (.t 46) (.t 47)) <|
 .o 6 (.mov (.t 48)) <|
 .nil)) (.ret))) (.seq (.ops (.o 50 (.bin .eql (.t 11) (.i 22)) <|
 .o 49 (.mov (.t 50)) <|
 .nil)) (.cond (.t 49) (.seq (.ops (.o 51 (.mov (.t 1)) <|
 .o 52 (.mov (.t 2)) <|
 .o 53 (.bin .and (.t 51) (.t 52)) <|
 .o 6 (.mov (.t 53)) <|
 .nil)) (.ret)) (.seq (.ops (.o 55 (.bin .eql (.t 11) (.i 23)) <|
 .o 54 (.mov (.t 55)) <|
 .nil)) (.cond (.t 54) (.seq (.ops (.o 56 (.mov (.t 1)) <|
 .o 57 (.mov (.t 2)) <|
 .o 58 (.bin .or (.t 56) (.t 57)) <|
 .o 6 (.mov (.t 58)) <|
 .nil)) (.ret)) (.seq (.ops (.o 60 (.bin .eql (.t 11) (.i 24)) <|
 .o 59 (.mov (.t 60)) <|
 .nil)) (.cond (.t 59) (.seq (.ops (.o 61 (.mov (.t 1)) <|
 .o 62 (.mov (.t 2)) <|
 .o 63 (.bin .xor (.t 61) (.t 62)) <|
 .o 6 (.mov (.t 63)) <|
 .nil)) (.ret)) (.seq (.ops (.o 65 (.bin .eql (.t 11) (.i 25)) <|
 .o 64 (.mov (.t 65)) <|
 .nil)) (.cond (.t 64) (.seq (.ops (.o 66 (.mov (.t 1)) <|
 .o 67 (.conv .u64 (.t 66)) <|
 .o 68 (.mov (.t 7)) <|
 .o 69 (.bin .shl (.t 67) (.t 68)) <|
 .o 70 (.conv .i64 (.t 69)) <|
 .o 6 (.mov (.t 70)) <|
 .nil)) (.ret)) (.seq (.ops (.o 72 (.bin .eql (.t 11) (.i 26)) <|
 .o 71 (.mov (.t 72)) <|
 .nil)) (.cond (.t 71) (.seq (.ops (.o 73 (.mov (.t 1)) <|
 .o 74 (.conv .u64 (.t 73)) <|
 .o 75 (.mov (.t 7)) <|
 .o 76 (.bin .shr (.t 74) (.t 75)) <|
 .o 77 (.conv .i64 (.t 76)) <|
 .o 6 (.mov (.t 77)) <|
 .nil)) (.ret)) (.seq (.ops (.o 79 (.bin .eql (.t 11) (.i 27)) <|
 .o 78 (.mov (.t 79)) <|
 .nil)) (.cond (.t 78) (.seq (.ops (.o 80 (.mov (.t 1)) <|
 .o 81 (.mov (.t 7)) <|
 .o 82 (.bin .shr (.t 80) (.t 81)) <|
 .o 6 (.mov (.t 82)) <|
 .nil)) (.ret)) (.seq (.ops (.o 84 (.bin .eql (.t 11) (.i 28)) <|
 .o 83 (.mov (.t 84)) <|
 .nil)) (.cond (.t 83) (.seq (.ops (.o 85 (.mov (.t 1)) <|
 .o 86 (.mov (.t 2)) <|
 .o 87 (.bin .eql (.t 85) (.t 86)) <|
 .o 88 (.call (.c (.fn 131 [])) [.t 87]) <|
 .o 6 (.mov (.t 88)) <|
 .nil)) (.ret)) (.seq (.ops (.o 90 (.bin .eql (.t 11) (.i 29)) <|
 .o 89 (.mov (.t 90)) <|
 .nil)) (.cond (.t 89) (.seq (.ops (.o 91 (.mov (.t 1)) <|
 .o 92 (.mov (.t 2)) <|
 .o 93 (.bin .neq (.t 91) (.t 92)) <|
 .o 94 (.call (.c (.fn 131 [])) [.t 93]) <|
 .o 6 (.mov (.t 94)) <|
 .nil)) (.ret)) (.seq (.ops (.o 96 (.bin .eql (.t 11) (.i 30)) <|
 .o 95 (.mov (.t 96)) <|
 .nil)) (.cond (.t 95) (.seq (.ops (.o 97 (.mov (.t 1)) <|
 .o 98 (.mov (.t 2)) <|
 .o 99 (.bin .lss (.t 97) (.t 98)) <|
 .o 100 (.call (.c (.fn 131 [])) [.t 99]) <|
 .o 6 (.mov (.t 100)) <|
 .nil)) (.ret)) (.seq (.ops (.o 102 (.bin .eql (.t 11) (.i 31)) <|
 .o 101 (.mov (.t 102)) <|
 .nil)) (.cond (.t 101) (.seq (.ops (.o 103 (.mov (.t 1)) <|
 .o 104 (.mov (.t 2)) <|
 .o 105 (.bin .leq (.t 103) (.t 104)) <|
 .o 106 (.call (.c (.fn 131 [])) [.t 105]) <|
 .o 6 (.mov (.t 106)) <|
 .nil)) (.ret)) (.skip))))))))))))))))))))))))))))))))) (.mark [1, 2] (.seq (.ops (.o 107 (.mov (.t 1)) <|
 .o 108 (.conv .u64 (.t 107)) <|
 .o 109 (.mov (.t 2)) <|
 .o 110 (.conv .u64 (.t 109)) <|
 .o 111 (.bin .lss (.t 108) (.t 110)) <|
 .o 112 (.call (.c (.fn 131 [])) [.t 111]) <|
 .o 6 (.mov (.t 112)) <|
 .nil)) (.ret)))))
def code111 : AFunc := ⟨113, [.tmp 6], d111.strip⟩

/-- fulling/word.quotient -/
def d129 : DCode :=
  .seq (.ops (.o 4 (.mov (.i 0)) <|
 .nil)) (.seq (.seq (.ops (.o 5 (.mov (.t 1)) <|
 .nil)) (.block 0 (.seq (.ops (.o 7 (.bin .eql (.t 5) (.i 0)) <|
 .o 6 (.mov (.t 7)) <|
 .nil)) (.cond (.t 6) (.seq (.ops (.o 4 (.mov (.i 0)) <|
 .nil)) (.ret)) (.seq (.ops (.o 9 (.bin .eql (.t 5) (.i (-1))) <|
 .o 8 (.mov (.t 9)) <|
 .nil)) (.cond (.t 8) (.seq (.ops (.o 10 (.mov (.t 0)) <|
 .o 11 (.un .neg (.t 10)) <|
 .o 4 (.mov (.t 11)) <|
 .nil)) (.ret)) (.skip))))))) (.seq (.ops (.o 12 (.mov (.t 0)) <|
 .o 13 (.mov (.t 1)) <|
 .o 14 (.bin .quo (.t 12) (.t 13)) <|
 .o 4 (.mov (.t 14)) <|
 .nil)) (.ret)))
def code129 : AFunc := ⟨15, [.tmp 4], d129.strip⟩

/-- fulling/word.shiftOrCompare -/
def d130 : DCode :=
  .seq (.ops (.o 6 (.mov (.i 0)) <|
 .nil)) (.seq (.ops (.o 8 (.mov (.t 2)) <|
 .o 9 (.bin .and (.t 8) (.i 63)) <|
 .o 10 (.conv .u64 (.t 9)) <|
 .o 7 (.mov (.t 10)) <|
 .nil)) (.seq (.seq (.ops (.o 11 (.mov (.t 0)) <|
 .nil)) (.block 0 (.seq (.ops (.o 13 (.bin .eql (.t 11) (.i 12)) <|
 .o 12 (.mov (.t 13)) <|
 .nil)) (.cond (.t 12) (.seq (.ops (.o 14 (.mov (.t 1)) <|
 .o 15 (.mov (.t 7)) <|
 .o 16 (.bin .shl (.t 14) (.t 15)) <|
 .o 6 (.mov (.t 16)) <|
 .nil)) (.ret)) (.seq (.ops (.o 18 (.bin .eql (.t 11) (.i 13)) <|
 .o 17 (.mov (.t 18)) <|
 .nil)) (.cond (.t 17) (.seq (.ops (.o 19 (.mov (.t 1)) <|
 .o 20 (.conv .u64 (.t 19)) <|
 .o 21 (.mov (.t 7)) <|
 .o 22 (.bin .shr (.t 20) (.t 21)) <|
 .o 23 (.conv .i64 (.t 22)) <|
 .o 6 (.mov (.t 23)) <|
 .nil)) (.ret)) (.seq (.ops (.o 25 (.bin .eql (.t 11) (.i 14)) <|
 .o 24 (.mov (.t 25)) <|
 .nil)) (.cond (.t 24) (.seq (.ops (.o 26 (.mov (.t 1)) <|
 .o 27 (.mov (.t 7)) <|
 .o 28 (.bin .shr (.t 26) (.t 27)) <|
 .o 6 (.mov (.t 28)) <|
 .nil)) (.ret)) (.seq (.ops (.o 30 (.bin .eql (.t 11) (.i 15)) <|
 .o 29 (.mov (.t 30)) <|
 .nil)) (.cond (.t 29) (.seq (.ops (.o 31 (.mov (.t 1)) <|
 .o 32 (.mov (.t 2)) <|
 .o 33 (.bin .eql (.t 31) (.t 32)) <|
 .o 34 (.call (.c (.fn 136 [])) [.t 33]) <|
 .o 6 (.mov (.t 34)) <|
 .nil)) (.ret)) (.seq (.ops (.o 36 (.bin .eql (.t 11) (.i 16)) <|
 .o 35 (.mov (.t 36)) <|
 .nil)) (.cond (.t 35) (.seq (.ops (.o 37 (.mov (.t 1)) <|
 .o 38 (.mov (.t 2)) <|
 .o 39 (.bin .neq (.t 37) (.t 38)) <|
 .o 40 (.call (.c (.fn 136 [])) [.t 39]) <|
 .o 6 (.mov (.t 40)) <|
 .nil)) (.ret)) (.seq (.ops (.o 42 (.bin .eql (.t 11) (.i 17)) <|
 .o 41 (.mov (.t 42)) <|
 .nil)) (.cond (.t 41) (.seq (.ops (.o 43 (.mov (.t 1)) <|
 .o 44 (.mov (.t 2)) <|
 .o 45 (.bin .lss (.t 43) (.t 44)) <|
 .o 46 (.call (.c (.fn 136 [])) [.t 45]) <|
 .o 6 (.mov (.t 46)) <|
 .nil)) (.ret)) (.seq (.ops (.o 48 (.bin .eql (.t 11) (.i 18)) <|
 .o 47 (.mov (.t 48)) <|
 .nil)) (.cond (.t 47) (.seq (.ops (.o 49 (.mov (.t 1)) <|
 .o 50 (.mov (.t 2)) <|
 .o 51 (.bin .leq (.t 49) (.t 50)) <|
 .o 52 (.call (.c (.fn 136 [])) [.t 51]) <|
 .o 6 (.mov (.t 52)) <|
 .nil)) (.ret)) (.seq (.ops (.o 54 (.bin .eql (.t 11) (.i 19)) <|
 .o 53 (.mov (.t 54)) <|
 .nil)) (.cond (.t 53) (.seq (.ops (.o 55 (.mov (.t 1)) <|
 .o 56 (.conv .u64 (.t 55)) <|
 .o 57 (.mov (.t 2)) <|
 .o 58 (.conv .u64 (.t 57)) <|
 .o 59 (.bin .lss (.t 56) (.t 58)) <|
 .o 60 (.call (.c (.fn 136 [])) [.t 59]) <|
 .o 6 (.mov (.t 60)) <|
 .nil)) (.ret)) (.skip))))))))))))))))))) (.seq (.ops (.o 6 (.mov (.i 0)) <|
 .nil)) (.ret))))
def code130 : AFunc := ⟨61, [.tmp 6], d130.strip⟩

/-- fulling/fullingref29.one -/
def d131 : DCode :=
  .seq (.ops (.o 2 (.mov (.i 0)) <|
 .nil)) (.seq (.seq (.ops (.o 3 (.mov (.t 0)) <|
 .nil)) (.cond (.t 3) (.seq (.ops (.o 2 (.mov (.i 1)) <|
 .nil)) (.ret)) (.skip))) (.seq (.ops (.o 2 (.mov (.i 0)) <|
 .nil)) (.ret)))
def code131 : AFunc := ⟨4, [.tmp 2], d131.strip⟩

/-- fulling/word.truth -/
def d136 : DCode :=
  .seq (.ops (.o 2 (.mov (.i 0)) <|
 .nil)) (.seq (.seq (.ops (.o 3 (.mov (.t 0)) <|
 .nil)) (.cond (.t 3) (.seq (.ops (.o 2 (.mov (.i 1)) <|
 .nil)) (.ret)) (.skip))) (.seq (.ops (.o 2 (.mov (.i 0)) <|
 .nil)) (.ret)))
def code136 : AFunc := ⟨4, [.tmp 2], d136.strip⟩

end Go.Abs
/- The table of abstract functions. -/
namespace Go.Abs

def tabl : List (Nat × AFunc) := [(3, code3), (4, code4), (5, code5), (6, code6), (7, code7), (8, code8), (9, code9), (13, code13), (14, code14), (15, code15), (16, code16), (17, code17), (18, code18), (19, code19), (20, code20), (21, code21), (22, code22), (23, code23), (24, code24), (25, code25), (26, code26), (27, code27), (28, code28), (42, code42), (43, code43), (44, code44), (45, code45), (46, code46), (47, code47), (48, code48), (49, code49), (50, code50), (51, code51), (52, code52), (53, code53), (54, code54), (55, code55), (56, code56), (63, code63), (76, code76), (77, code77), (78, code78), (79, code79), (80, code80), (81, code81), (82, code82), (83, code83), (84, code84), (85, code85), (86, code86), (87, code87), (88, code88), (105, code105), (106, code106), (107, code107), (108, code108), (109, code109), (110, code110), (111, code111), (129, code129), (130, code130), (131, code131), (136, code136)]

def tab (f : Nat) : Option AFunc := tabl.lookup f

end Go.Abs
