/-
  The functions of the program, as the value machine has them, by program.
-/
import Derived.Test.YtfjdfnegookkcaaGreatVmT
namespace Go.Proofs.YtfjdfnegookkcaaGreat
open Go.Vm
set_option maxRecDepth 100000
/- 5 -/
def v_w22_DamSums_b0 : VC :=
 .seq (
 .region [] [] [
 ⟨some 113, .bin .lss (.t 112) (.t 111), none⟩] ⟨[9, 12, 22, 110, 111, 112, 113], [12], []⟩) (
 .seq (
 .cond (.t 113) (
 .skip) (
 .exit 0)) (
 .seq (
 .block 1 (
 .seq (
 .region [] [24] [
 ⟨some 114, .mv (.t 112), none⟩,
 ⟨some 115, .iaddr none 7 (.t 110) (.t 112), none⟩,
 ⟨some 116, .load .imm (some 7) (.t 115), none⟩,
 ⟨some 24, .obj 24 [.int .i64 0, .int .i64 0, .int .i64 0, .int .i64 0, .int .i64 0, .int .i64 0, .int .i64 0], none⟩,
 ⟨some 23, .mv (.t 114), none⟩,
 ⟨none, .store (.loc 24) [none, none, none, none, none, none, none] (.t 24) (.t 116), none⟩] ⟨[9, 12, 22, 23, 24, 110, 111, 112], [12, 24], []⟩) (
 .region [] [] [
 ⟨some 117, .mv (.t 22), none⟩,
 ⟨some 118, .mv (.t 9), none⟩,
 ⟨some 119, .mv (.t 23), none⟩,
 ⟨some 120, .iaddr none 1 (.t 118) (.t 119), none⟩,
 ⟨some 121, .load .imm none (.t 120), none⟩,
 ⟨some 122, .faddr 1 (.t 24), none⟩,
 ⟨some 123, .load (.loc 24) none (.t 122), none⟩,
 ⟨some 124, .bin .sub (.t 121) (.t 123), none⟩,
 ⟨some 125, .load (.loc 24) (some 7) (.t 24), none⟩,
 ⟨some 126, .call true (.c (.fn 14 [])) [([none, none, none, none, none, none, none], (.t 125))] [], none⟩,
 ⟨some 127, .bin .sub (.t 124) (.t 126), none⟩,
 ⟨some 128, .bin .add (.t 117) (.t 127), none⟩,
 ⟨some 22, .mv (.t 128), none⟩] ⟨[9, 12, 22, 110, 111, 112], [12], []⟩))) (
 .region [] [] [
 ⟨some 129, .bin .add (.t 112) (.c (.int .i64 1)), none⟩,
 ⟨some 112, .mv (.t 129), none⟩] ⟨[9, 12, 22, 110, 111, 112], [12], []⟩)))

def v_w22_DamSums_l0 : VC := .loop [] ⟨[9, 12, 22, 110, 111, 112], [12], []⟩ v_w22_DamSums_b0

abbrev v_w22_DamSums_s0 (x9 : V) (x22 : Int) (x110 : V) (x111 : Int) (x112 : Int) (o12 : List V) (G : List GObj) : St := ⟨[(9, x9), (12, .lptr 12 0), (22, .int .i64 x22), (110, x110), (111, .int .i64 x111), (112, .int .i64 x112)], [(12, o12)], [], G⟩

def v_w22_DamSums : VFunc where
  nparams := 2
  results := [.t 4 [none]]
  body :=
 .seq (
 .region [] [] [
 ⟨some 4, .mv (.c (.bool false)), none⟩] ⟨[0, 1], [], []⟩) (
 .seq (
 .region [] [] [
 ⟨some 25, .mv (.t 0), none⟩,
 ⟨some 26, .call false (.c (.fn 7 [])) [([some 1], (.t 25))] [], none⟩,
 ⟨some 5, .mv (.t 26), none⟩] ⟨[1, 5], [], []⟩) (
 .seq (
 .region [] [6, 7] [
 ⟨some 28, .mv (.t 5), none⟩,
 ⟨some 29, .call false (.c (.fn 8 [])) [([none], (.t 28))] [], none⟩,
 ⟨some 27, .mv (.t 29), none⟩,
 ⟨some 30, .ext (.t 27) 0, none⟩,
 ⟨some 31, .ext (.t 27) 1, none⟩,
 ⟨some 6, .obj 6 [.nils, .int .i64 0, .int .i64 0, .int .i64 0, .int .i64 0, .int .i64 0, .nils, .nils, .int .i64 0], none⟩,
 ⟨some 7, .obj 7 [.int .i64 0, .int .i64 0, .nils, .nils], none⟩,
 ⟨none, .store (.loc 6) [some 2, none, none, none, none, none, some 6, some 3, none] (.t 6) (.t 30), none⟩,
 ⟨none, .store (.loc 7) [none, none, some 3, some 2] (.t 7) (.t 31), none⟩] ⟨[1, 5, 6, 7], [6, 7], []⟩) (
 .seq (
 .region [] [] [
 ⟨some 8, .mv (.c (.int .i64 6)), none⟩] ⟨[1, 5, 6, 7, 8], [6, 7], []⟩) (
 .seq (
 .region [] [] [
 ⟨some 32, .mv (.t 5), none⟩,
 ⟨some 33, .mv (.t 8), none⟩,
 ⟨some 34, .call false (.c (.fn 28 [])) [([none], (.t 32)), ([none], (.t 33)), ([none], (.c (.int .i64 90)))] [], none⟩,
 ⟨some 35, .mv (.t 5), none⟩,
 ⟨some 36, .mv (.t 8), none⟩,
 ⟨some 37, .call false (.c (.fn 28 [])) [([none], (.t 35)), ([none], (.t 36)), ([none], (.c (.int .i64 20)))] [], none⟩,
 ⟨some 38, .mv (.t 5), none⟩,
 ⟨some 39, .mv (.t 8), none⟩,
 ⟨some 40, .call false (.c (.fn 28 [])) [([none], (.t 38)), ([none], (.t 39)), ([none], (.c (.int .i64 60)))] [], none⟩,
 ⟨some 9, .mv (.t 34), none⟩,
 ⟨some 10, .mv (.t 37), none⟩,
 ⟨some 11, .mv (.t 40), none⟩] ⟨[1, 6, 7, 8, 9, 10, 11], [6, 7], []⟩) (
 .seq (
 .region [] [12] [
 ⟨some 42, .load (.loc 6) (some 9) (.t 6), none⟩,
 ⟨some 43, .load (.loc 7) (some 4) (.t 7), none⟩,
 ⟨some 44, .mv (.t 9), none⟩,
 ⟨some 45, .mv (.t 10), none⟩,
 ⟨some 46, .mv (.t 11), none⟩,
 ⟨some 47, .call true (.c (.fn 29 [])) [([some 2, none, none, none, none, none, some 6, some 3, none], (.t 42)), ([none, none, some 3, some 2], (.t 43)), ([some 1], (.t 44)), ([some 1], (.t 45)), ([some 1], (.t 46))] [], none⟩,
 ⟨some 41, .mv (.t 47), none⟩,
 ⟨some 48, .ext (.t 41) 0, none⟩,
 ⟨some 49, .ext (.t 41) 1, none⟩,
 ⟨some 50, .ext (.t 41) 2, none⟩,
 ⟨some 12, .obj 12 [.int .i64 0, .int .i64 0, .nils, .nils], none⟩,
 ⟨none, .store (.loc 12) [none, none, some 3, some 2] (.t 12) (.t 48), none⟩,
 ⟨some 13, .mv (.t 49), none⟩,
 ⟨some 14, .mv (.t 50), none⟩] ⟨[1, 6, 7, 8, 9, 10, 11, 12, 13, 14], [6, 7, 12], []⟩) (
 .seq (
 .region [] [] [
 ⟨some 51, .mv (.t 1), none⟩,
 ⟨some 52, .mv (.t 8), none⟩,
 ⟨some 53, .bin .add (.t 52) (.c (.int .i64 1)), none⟩,
 ⟨some 54, .call true (.c (.fn 25 [])) [([none], (.t 51)), ([none], (.t 53))] [], none⟩,
 ⟨some 15, .mv (.t 54), none⟩] ⟨[6, 7, 9, 10, 11, 12, 13, 14, 15], [6, 7, 12], []⟩) (
 .seq (
 .region [] [16] [
 ⟨some 56, .load (.loc 6) (some 9) (.t 6), none⟩,
 ⟨some 57, .load (.loc 7) (some 4) (.t 7), none⟩,
 ⟨some 58, .mv (.t 9), none⟩,
 ⟨some 59, .mv (.t 15), none⟩,
 ⟨some 60, .slc 1 (.t 58) none (some (.t 59)), none⟩,
 ⟨some 61, .mv (.t 10), none⟩,
 ⟨some 62, .mv (.t 15), none⟩,
 ⟨some 63, .slc 1 (.t 61) none (some (.t 62)), none⟩,
 ⟨some 64, .mv (.t 11), none⟩,
 ⟨some 65, .mv (.t 15), none⟩,
 ⟨some 66, .slc 1 (.t 64) none (some (.t 65)), none⟩,
 ⟨some 67, .call true (.c (.fn 29 [])) [([some 2, none, none, none, none, none, some 6, some 3, none], (.t 56)), ([none, none, some 3, some 2], (.t 57)), ([some 1], (.t 60)), ([some 1], (.t 63)), ([some 1], (.t 66))] [], none⟩,
 ⟨some 55, .mv (.t 67), none⟩,
 ⟨some 68, .ext (.t 55) 0, none⟩,
 ⟨some 69, .ext (.t 55) 1, none⟩,
 ⟨some 70, .ext (.t 55) 2, none⟩,
 ⟨some 16, .obj 16 [.int .i64 0, .int .i64 0, .nils, .nils], none⟩,
 ⟨none, .store (.loc 16) [none, none, some 3, some 2] (.t 16) (.t 68), none⟩,
 ⟨some 17, .mv (.t 69), none⟩,
 ⟨some 18, .mv (.t 70), none⟩] ⟨[6, 7, 9, 10, 11, 12, 13, 14, 15, 16, 17, 18], [6, 7, 12, 16], []⟩) (
 .seq (
 .region [] [19] [
 ⟨some 72, .load (.loc 6) (some 9) (.t 6), none⟩,
 ⟨some 73, .load (.loc 16) (some 4) (.t 16), none⟩,
 ⟨some 74, .mv (.t 9), none⟩,
 ⟨some 75, .mv (.t 15), none⟩,
 ⟨some 76, .slc 1 (.t 74) (some (.t 75)) none, none⟩,
 ⟨some 77, .mv (.t 10), none⟩,
 ⟨some 78, .mv (.t 15), none⟩,
 ⟨some 79, .slc 1 (.t 77) (some (.t 78)) none, none⟩,
 ⟨some 80, .mv (.t 11), none⟩,
 ⟨some 81, .mv (.t 15), none⟩,
 ⟨some 82, .slc 1 (.t 80) (some (.t 81)) none, none⟩,
 ⟨some 83, .call true (.c (.fn 29 [])) [([some 2, none, none, none, none, none, some 6, some 3, none], (.t 72)), ([none, none, some 3, some 2], (.t 73)), ([some 1], (.t 76)), ([some 1], (.t 79)), ([some 1], (.t 82))] [], none⟩,
 ⟨some 71, .mv (.t 83), none⟩,
 ⟨some 84, .ext (.t 71) 0, none⟩,
 ⟨some 85, .ext (.t 71) 1, none⟩,
 ⟨some 86, .ext (.t 71) 2, none⟩,
 ⟨some 19, .obj 19 [.int .i64 0, .int .i64 0, .nils, .nils], none⟩,
 ⟨none, .store (.loc 19) [none, none, some 3, some 2] (.t 19) (.t 84), none⟩,
 ⟨some 20, .mv (.t 85), none⟩,
 ⟨some 21, .mv (.t 86), none⟩] ⟨[7, 9, 12, 13, 14, 17, 18, 19, 20, 21], [7, 12, 19], []⟩) (
 .seq (
 .seq (
 .region [] [1102, 5104] [
 ⟨some 87, .mv (.t 14), none⟩,
 ⟨some 88, .mv (.t 18), none⟩,
 ⟨some 89, .bin .add (.t 87) (.t 88), none⟩,
 ⟨some 90, .mv (.t 21), none⟩,
 ⟨some 91, .bin .add (.t 89) (.t 90), none⟩,
 ⟨some 92, .bin .neq (.t 91) (.c (.int .i64 0)), none⟩,
 ⟨some 93, .mv (.t 92), none⟩,
 ⟨some 94, .load (.loc 12) (some 4) (.t 12), some (93, false)⟩,
 ⟨some 95, .load (.loc 19) (some 4) (.t 19), some (93, false)⟩,
 ⟨some 96, .call true (.c (.fn 27 [])) [([none, none, some 3, some 2], (.t 94)), ([none, none, some 3, some 2], (.t 95))] [], some (93, false)⟩,
 ⟨some 97, .un .not (.t 96), some (93, false)⟩,
 ⟨some 98, .pick (.t 93) (.c (.bool true)) (.t 97), none⟩,
 ⟨some 99, .mv (.t 98), none⟩,
 ⟨some 100, .mv (.t 13), some (99, false)⟩,
 ⟨some 101, .mv (.t 17), some (99, false)⟩,
 ⟨some 102, .app 1102 none [none, none, none, none, none, none, none] (.c (.nils)) (.t 101), some (99, false)⟩,
 ⟨some 103, .mv (.t 20), some (99, false)⟩,
 ⟨some 104, .app 5104 (some 1102) [none, none, none, none, none, none, none] (.t 102) (.t 103), some (99, false)⟩,
 ⟨some 105, .call true (.c (.fn 30 [])) [([some 7], (.t 100)), ([some 7], (.t 104))] [], some (99, false)⟩,
 ⟨some 106, .un .not (.t 105), some (99, false)⟩,
 ⟨some 107, .pick (.t 99) (.c (.bool true)) (.t 106), none⟩] ⟨[7, 9, 12, 13, 107], [7, 12], []⟩) (
 .cond (.t 107) (
 .seq (
 .region [] [] [
 ⟨some 4, .mv (.c (.bool false)), none⟩] ⟨[4], [], []⟩) (
 .ret)) (
 .skip))) (
 .seq (
 .region [] [] [
 ⟨some 108, .faddr 0 (.t 7), none⟩,
 ⟨some 109, .load (.loc 7) none (.t 108), none⟩,
 ⟨some 22, .mv (.t 109), none⟩] ⟨[9, 12, 13, 22], [12], []⟩) (
 .seq (
 .seq (
 .region [] [] [
 ⟨some 110, .mv (.t 13), none⟩,
 ⟨some 111, .len (.t 110), none⟩,
 ⟨some 112, .mv (.c (.int .i64 0)), none⟩] ⟨[9, 12, 22, 110, 111, 112], [12], []⟩) (
 .block 0 (
 v_w22_DamSums_l0))) (
 .seq (
 .region [] [] [
 ⟨some 130, .mv (.t 22), none⟩,
 ⟨some 131, .faddr 0 (.t 12), none⟩,
 ⟨some 132, .load (.loc 12) none (.t 131), none⟩,
 ⟨some 133, .bin .eql (.t 130) (.t 132), none⟩,
 ⟨some 134, .mv (.t 133), none⟩,
 ⟨some 135, .call true (.c (.fn 15 [])) [] [], some (134, true)⟩,
 ⟨some 136, .pick (.t 134) (.t 135) (.c (.bool false)), none⟩,
 ⟨some 4, .mv (.t 136), none⟩] ⟨[4], [], []⟩) (
 .ret)))))))))))))

/- 7 -/

def v_mk_New : VFunc where
  nparams := 1
  results := [.t 2 [none]]
  body :=
 .seq (
 .region [] [] [
 ⟨some 2, .mv (.c (.nilptr)), none⟩] ⟨[0], [], []⟩) (
 .seq (
 .region [] [] [
 ⟨some 3, .mv (.t 0), none⟩,
 ⟨some 4, .build [.nils, .int .i64 0] [(0, 1, (.t 3))], none⟩,
 ⟨some 5, .gbox [some 1, none] (.t 4), none⟩,
 ⟨some 2, .mv (.t 5), none⟩] ⟨[2], [], []⟩) (
 .ret))

/- 8 -/

def v_mk_Dam : VFunc where
  nparams := 1
  results := [.c 2 true [some 2, none, none, none, none, none, some 6, some 3, none], .c 3 true [none, none, some 3, some 2]]
  body :=
 .seq (
 .region [] [2, 3] [
 ⟨some 2, .obj 2 [.nils, .int .i64 0, .int .i64 0, .int .i64 0, .int .i64 0, .int .i64 0, .nils, .nils, .int .i64 0], none⟩,
 ⟨some 3, .obj 3 [.int .i64 0, .int .i64 0, .nils, .nils], none⟩] ⟨[0, 2, 3], [2, 3], []⟩) (
 .seq (
 .region [] [4] [
 ⟨some 8, .mv (.t 0), none⟩,
 ⟨some 9, .call false (.c (.fn 34 [])) [([none], (.t 8))] [], none⟩,
 ⟨some 10, .mv (.t 0), none⟩,
 ⟨some 11, .call false (.c (.fn 10 [])) [([none], (.t 10)), ([none], (.c (.int .i64 4)))] [], none⟩,
 ⟨some 12, .bin .add (.c (.int .i64 1)) (.t 11), none⟩,
 ⟨some 13, .build [.nils, .int .i64 0, .int .i64 0, .int .i64 0, .int .i64 0, .int .i64 0, .nils, .nils, .int .i64 0] [(0, 6, (.t 9)), (8, 1, (.t 12))], none⟩,
 ⟨some 4, .obj 4 [.nils, .int .i64 0, .int .i64 0, .int .i64 0, .int .i64 0, .int .i64 0, .nils, .nils, .int .i64 0], none⟩,
 ⟨none, .store (.loc 4) [some 2, none, none, none, none, none, some 6, some 3, none] (.t 4) (.t 13), none⟩] ⟨[0, 2, 3, 4], [2, 3, 4], []⟩) (
 .seq (
 .region [] [5] [
 ⟨some 5, .obj 5 [.int .i64 0, .int .i64 0, .nils, .nils], none⟩] ⟨[0, 2, 3, 4, 5], [2, 3, 4, 5], []⟩) (
 .seq (
 .region [] [] [
 ⟨some 15, .mv (.t 0), none⟩,
 ⟨some 16, .call false (.c (.fn 35 [])) [([none], (.t 15)), ([none], (.c (.int .i64 2)))] [], none⟩,
 ⟨some 14, .mv (.t 16), none⟩,
 ⟨some 17, .ext (.t 14) 0, none⟩,
 ⟨some 18, .ext (.t 14) 1, none⟩,
 ⟨some 19, .faddr 6 (.t 4), none⟩,
 ⟨none, .store (.loc 4) [some 6] (.t 19) (.t 17), none⟩,
 ⟨some 20, .faddr 2 (.t 5), none⟩,
 ⟨none, .store (.loc 5) [some 3] (.t 20) (.t 18), none⟩] ⟨[0, 2, 3, 4, 5], [2, 3, 4, 5], []⟩) (
 .seq (
 .region [] [] [
 ⟨some 22, .mv (.t 0), none⟩,
 ⟨some 23, .call false (.c (.fn 36 [])) [([none], (.t 22)), ([none], (.c (.int .i64 2)))] [], none⟩,
 ⟨some 21, .mv (.t 23), none⟩,
 ⟨some 24, .ext (.t 21) 0, none⟩,
 ⟨some 25, .ext (.t 21) 1, none⟩,
 ⟨some 26, .faddr 7 (.t 4), none⟩,
 ⟨none, .store (.loc 4) [some 3] (.t 26) (.t 24), none⟩,
 ⟨some 27, .faddr 3 (.t 5), none⟩,
 ⟨none, .store (.loc 5) [some 2] (.t 27) (.t 25), none⟩] ⟨[0, 2, 3, 4, 5], [2, 3, 4, 5], []⟩) (
 .seq (
 .region [] [] [
 ⟨some 29, .faddr 0 (.t 4), none⟩,
 ⟨some 30, .load (.loc 4) (some 6) (.t 29), none⟩,
 ⟨some 31, .faddr 0 (.t 4), none⟩,
 ⟨some 32, .faddr 5 (.t 31), none⟩,
 ⟨some 33, .load (.loc 4) none (.t 32), none⟩,
 ⟨some 34, .call true (.c (.fn 9 [])) [([some 2, none, none, none, none, none], (.t 30)), ([none], (.t 33))] [], none⟩,
 ⟨some 28, .mv (.t 34), none⟩,
 ⟨some 35, .ext (.t 28) 0, none⟩,
 ⟨some 36, .ext (.t 28) 1, none⟩,
 ⟨some 6, .mv (.t 35), none⟩,
 ⟨some 7, .mv (.t 36), none⟩] ⟨[0, 2, 3, 4, 5, 6], [2, 3, 4, 5], []⟩) (
 .seq (
 .region [] [] [
 ⟨some 37, .mv (.t 0), none⟩,
 ⟨some 38, .mv (.t 6), none⟩,
 ⟨some 39, .bin .add (.t 38) (.c (.int .i64 1)), none⟩,
 ⟨some 40, .call false (.c (.fn 10 [])) [([none], (.t 37)), ([none], (.t 39))] [], none⟩,
 ⟨some 41, .faddr 0 (.t 5), none⟩,
 ⟨none, .store (.loc 5) [none] (.t 41) (.t 40), none⟩] ⟨[0, 2, 3, 4, 5], [2, 3, 4, 5], []⟩) (
 .seq (
 .region [] [] [
 ⟨some 42, .mv (.t 0), none⟩,
 ⟨some 43, .call false (.c (.fn 10 [])) [([none], (.t 42)), ([none], (.c (.int .i64 30)))] [], none⟩,
 ⟨some 44, .faddr 1 (.t 5), none⟩,
 ⟨none, .store (.loc 5) [none] (.t 44) (.t 43), none⟩] ⟨[2, 3, 4, 5], [2, 3, 4, 5], []⟩) (
 .seq (
 .region [] [] [
 ⟨some 45, .load (.loc 4) (some 9) (.t 4), none⟩,
 ⟨some 46, .load (.loc 5) (some 4) (.t 5), none⟩,
 ⟨none, .store (.loc 2) [some 2, none, none, none, none, none, some 6, some 3, none] (.t 2) (.t 45), none⟩,
 ⟨none, .store (.loc 3) [none, none, some 3, some 2] (.t 3) (.t 46), none⟩] ⟨[2, 3], [2, 3], []⟩) (
 .ret)))))))))

/- 9 -/

def v_r03_Volume : VFunc where
  nparams := 2
  results := [.t 4 [none], .t 5 [none]]
  body :=
 .seq (
 .region [] [2] [
 ⟨some 2, .box 2 (.t 0), none⟩,
 ⟨some 4, .mv (.c (.int .i64 0)), none⟩,
 ⟨some 5, .mv (.c (.int .i64 0)), none⟩] ⟨[1, 2], [2], []⟩) (
 .seq (
 .seq (
 .region [] [] [
 ⟨some 9, .load (.loc 2) (some 6) (.t 2), none⟩,
 ⟨some 10, .mv (.t 1), none⟩,
 ⟨some 11, .call true (.c (.fn 37 [])) [([some 2, none, none, none, none, none], (.t 9)), ([none], (.t 10))] [], none⟩,
 ⟨some 6, .mv (.t 11), none⟩] ⟨[1, 2, 6], [2], []⟩) (
 .seq (
 .region [] [] [
 ⟨some 12, .mv (.t 6), none⟩,
 ⟨some 13, .bin .neq (.t 12) (.c (.int .i64 0)), none⟩] ⟨[1, 2, 6, 13], [2], []⟩) (
 .cond (.t 13) (
 .seq (
 .region [] [] [
 ⟨some 14, .mv (.t 6), none⟩,
 ⟨some 4, .mv (.c (.int .i64 0)), none⟩,
 ⟨some 5, .mv (.t 14), none⟩] ⟨[4, 5], [], []⟩) (
 .ret)) (
 .skip)))) (
 .seq (
 .region [] [] [
 ⟨some 16, .faddr 0 (.t 2), none⟩,
 ⟨some 17, .load (.loc 2) none (.t 16), none⟩,
 ⟨some 18, .mv (.t 1), none⟩,
 ⟨some 19, .call true (.c (.fn 38 [])) [([some 2], (.t 17)), ([none], (.t 18))] [], none⟩,
 ⟨some 15, .mv (.t 19), none⟩,
 ⟨some 20, .ext (.t 15) 0, none⟩,
 ⟨some 21, .ext (.t 15) 1, none⟩,
 ⟨some 7, .mv (.t 20), none⟩,
 ⟨some 8, .mv (.t 21), none⟩] ⟨[7], [], []⟩) (
 .seq (
 .region [] [] [
 ⟨some 22, .mv (.t 7), none⟩,
 ⟨some 4, .mv (.t 22), none⟩,
 ⟨some 5, .mv (.c (.int .i64 0)), none⟩] ⟨[4, 5], [], []⟩) (
 .ret))))

/- 10 -/

def v_mk_Deck_Next : VFunc where
  nparams := 2
  results := [.t 4 [none]]
  body :=
 .seq (
 .region [] [] [
 ⟨some 4, .mv (.c (.int .i64 0)), none⟩] ⟨[0, 1], [], []⟩) (
 .seq (
 .seq (
 .region [] [] [
 ⟨some 6, .mv (.t 1), none⟩,
 ⟨some 7, .bin .lss (.t 6) (.c (.int .i64 1)), none⟩,
 ⟨some 8, .mv (.t 7), none⟩,
 ⟨some 9, .mv (.t 0), some (8, false)⟩,
 ⟨some 10, .nilchk (.t 9), some (8, false)⟩,
 ⟨some 11, .faddr 1 (.t 10), some (8, false)⟩,
 ⟨some 12, .load .glob none (.t 11), some (8, false)⟩,
 ⟨some 13, .mv (.t 0), some (8, false)⟩,
 ⟨some 14, .nilchk (.t 13), some (8, false)⟩,
 ⟨some 15, .faddr 0 (.t 14), some (8, false)⟩,
 ⟨some 16, .load .glob none (.t 15), some (8, false)⟩,
 ⟨some 17, .len (.t 16), some (8, false)⟩,
 ⟨some 18, .bin .geq (.t 12) (.t 17), some (8, false)⟩,
 ⟨some 19, .pick (.t 8) (.c (.bool true)) (.t 18), none⟩] ⟨[0, 1, 19], [], []⟩) (
 .cond (.t 19) (
 .seq (
 .region [] [] [
 ⟨some 4, .mv (.c (.int .i64 0)), none⟩] ⟨[4], [], []⟩) (
 .ret)) (
 .skip))) (
 .seq (
 .region [] [] [
 ⟨some 20, .mv (.t 0), none⟩,
 ⟨some 21, .nilchk (.t 20), none⟩,
 ⟨some 22, .faddr 0 (.t 21), none⟩,
 ⟨some 23, .load .glob none (.t 22), none⟩,
 ⟨some 24, .mv (.t 0), none⟩,
 ⟨some 25, .nilchk (.t 24), none⟩,
 ⟨some 26, .faddr 1 (.t 25), none⟩,
 ⟨some 27, .load .glob none (.t 26), none⟩,
 ⟨some 28, .iaddr none 1 (.t 23) (.t 27), none⟩,
 ⟨some 29, .load .imm none (.t 28), none⟩,
 ⟨some 5, .mv (.t 29), none⟩] ⟨[0, 1, 5], [], []⟩) (
 .seq (
 .region [] [] [
 ⟨some 30, .mv (.t 0), none⟩,
 ⟨some 31, .nilchk (.t 30), none⟩,
 ⟨some 32, .faddr 1 (.t 31), none⟩,
 ⟨some 33, .load .glob none (.t 32), none⟩,
 ⟨some 34, .bin .add (.t 33) (.c (.int .i64 1)), none⟩,
 ⟨some 35, .nilchk (.t 30), none⟩,
 ⟨some 36, .faddr 1 (.t 35), none⟩,
 ⟨none, .store .glob [none] (.t 36) (.t 34), none⟩] ⟨[1, 5], [], []⟩) (
 .seq (
 .region [] [] [
 ⟨some 37, .mv (.t 5), none⟩,
 ⟨some 38, .mv (.t 1), none⟩,
 ⟨some 39, .call true (.c (.fn 25 [])) [([none], (.t 37)), ([none], (.t 38))] [], none⟩,
 ⟨some 4, .mv (.t 39), none⟩] ⟨[4], [], []⟩) (
 .ret)))))

/- 11 -/

def v_dam_Step : VFunc where
  nparams := 5
  results := [.c 10 true [none, none, some 3, some 2], .c 11 true [none, none, none, none, none, none, none], .t 12 [none]]
  body :=
 .seq (
 .region [] [5, 6, 10, 11] [
 ⟨some 5, .box 5 (.t 0), none⟩,
 ⟨some 6, .box 6 (.t 1), none⟩,
 ⟨some 10, .obj 10 [.int .i64 0, .int .i64 0, .nils, .nils], none⟩,
 ⟨some 11, .obj 11 [.int .i64 0, .int .i64 0, .int .i64 0, .int .i64 0, .int .i64 0, .int .i64 0, .int .i64 0], none⟩,
 ⟨some 12, .mv (.c (.int .i64 0)), none⟩] ⟨[2, 3, 4, 5, 6, 10, 11], [5, 6, 10, 11], []⟩) (
 .seq (
 .region [] [] [
 ⟨some 17, .load (.loc 5) (some 9) (.t 5), none⟩,
 ⟨some 18, .load (.loc 6) (some 4) (.t 6), none⟩,
 ⟨some 19, .call true (.c (.fn 20 [])) [([some 2, none, none, none, none, none, some 6, some 3, none], (.t 17)), ([none, none, some 3, some 2], (.t 18))] [], none⟩,
 ⟨some 16, .mv (.t 19), none⟩,
 ⟨some 20, .ext (.t 16) 0, none⟩,
 ⟨some 21, .ext (.t 16) 1, none⟩,
 ⟨some 13, .mv (.t 20), none⟩,
 ⟨some 14, .mv (.t 21), none⟩] ⟨[2, 3, 4, 5, 6, 10, 11, 13, 14], [5, 6, 10, 11], []⟩) (
 .seq (
 .seq (
 .region [] [] [
 ⟨some 22, .mv (.t 14), none⟩,
 ⟨some 23, .bin .neq (.t 22) (.c (.int .i64 0)), none⟩] ⟨[2, 3, 4, 5, 6, 10, 11, 13, 14, 23], [5, 6, 10, 11], []⟩) (
 .cond (.t 23) (
 .seq (
 .region [] [] [
 ⟨some 24, .build [.int .i64 0, .int .i64 0, .nils, .nils] [], none⟩,
 ⟨some 25, .build [.int .i64 0, .int .i64 0, .int .i64 0, .int .i64 0, .int .i64 0, .int .i64 0, .int .i64 0] [], none⟩,
 ⟨some 26, .mv (.t 14), none⟩,
 ⟨none, .store (.loc 10) [none, none, some 3, some 2] (.t 10) (.t 24), none⟩,
 ⟨none, .store (.loc 11) [none, none, none, none, none, none, none] (.t 11) (.t 25), none⟩,
 ⟨some 12, .mv (.t 26), none⟩] ⟨[10, 11, 12], [10, 11], []⟩) (
 .ret)) (
 .skip))) (
 .seq (
 .seq (
 .region [] [] [
 ⟨some 27, .mv (.t 2), none⟩,
 ⟨some 28, .mv (.t 3), none⟩,
 ⟨some 29, .mv (.t 4), none⟩,
 ⟨some 30, .lit none [none] [.int .i64 0] 3 [(0, (.t 27)), (1, (.t 28)), (2, (.t 29))], none⟩,
 ⟨some 31, .call false (.c (.fn 39 [])) [([some 1], (.t 30)), ([none], (.c (.fn 40 [])))] [], none⟩] ⟨[2, 3, 4, 5, 6, 10, 11, 13, 31], [5, 6, 10, 11], []⟩) (
 .cond (.t 31) (
 .seq (
 .region [] [] [
 ⟨some 32, .build [.int .i64 0, .int .i64 0, .nils, .nils] [], none⟩,
 ⟨some 33, .build [.int .i64 0, .int .i64 0, .int .i64 0, .int .i64 0, .int .i64 0, .int .i64 0, .int .i64 0] [], none⟩,
 ⟨none, .store (.loc 10) [none, none, some 3, some 2] (.t 10) (.t 32), none⟩,
 ⟨none, .store (.loc 11) [none, none, none, none, none, none, none] (.t 11) (.t 33), none⟩,
 ⟨some 12, .mv (.c (.int .i64 1)), none⟩] ⟨[10, 11, 12], [10, 11], []⟩) (
 .ret)) (
 .skip))) (
 .seq (
 .region [] [] [
 ⟨some 34, .load (.loc 5) (some 9) (.t 5), none⟩,
 ⟨some 35, .load (.loc 6) (some 4) (.t 6), none⟩,
 ⟨some 36, .mv (.t 2), none⟩,
 ⟨some 37, .mv (.t 3), none⟩,
 ⟨some 38, .build [.int .i64 0, .int .i64 0, .int .i64 0, .int .i64 0, .int .i64 0, .int .i64 0, .int .i64 0] [(0, 1, (.t 36)), (1, 1, (.t 37))], none⟩,
 ⟨some 39, .mv (.t 4), none⟩,
 ⟨some 40, .mv (.t 13), none⟩,
 ⟨some 41, .build [.nils, .int .i64 0, .int .i64 0, .int .i64 0, .int .i64 0, .int .i64 0, .nils, .nils, .int .i64 0, .int .i64 0, .int .i64 0, .nils, .nils, .int .i64 0, .int .i64 0, .nils, .nils, .int .i64 0, .int .i64 0, .int .i64 0, .int .i64 0, .int .i64 0, .int .i64 0, .int .i64 0, .int .i64 0, .int .i64 0, .int .i64 0] [(0, 9, (.t 34)), (9, 4, (.t 35)), (17, 7, (.t 38)), (24, 1, (.t 39)), (26, 1, (.t 40))], none⟩,
 ⟨some 42, .gbox [some 2, none, none, none, none, none, some 6, some 3, none, none, none, some 3, some 2, none, none, some 3, some 2, none, none, none, none, none, none, none, none, none, none] (.t 41), none⟩,
 ⟨some 15, .mv (.t 42), none⟩] ⟨[10, 11, 15], [10, 11], []⟩) (
 .seq (
 .region [] [] [
 ⟨some 43, .mv (.t 15), none⟩,
 ⟨some 44, .call false (.c (.fn 42 [])) [([none], (.t 43))] [], none⟩] ⟨[10, 11, 15], [10, 11], []⟩) (
 .seq (
 .region [] [] [
 ⟨some 45, .mv (.t 15), none⟩,
 ⟨some 46, .nilchk (.t 45), none⟩,
 ⟨some 47, .faddr 13 (.t 46), none⟩,
 ⟨some 48, .load .glob (some 4) (.t 47), none⟩,
 ⟨some 49, .mv (.t 15), none⟩,
 ⟨some 50, .nilchk (.t 49), none⟩,
 ⟨some 51, .faddr 17 (.t 50), none⟩,
 ⟨some 52, .load .glob (some 7) (.t 51), none⟩,
 ⟨none, .store (.loc 10) [none, none, some 3, some 2] (.t 10) (.t 48), none⟩,
 ⟨none, .store (.loc 11) [none, none, none, none, none, none, none] (.t 11) (.t 52), none⟩,
 ⟨some 12, .mv (.c (.int .i64 0)), none⟩] ⟨[10, 11, 12], [10, 11], []⟩) (
 .ret)))))))

/- 14 -/

def v_dam_Flow : VFunc where
  nparams := 1
  results := [.t 2 [none]]
  body :=
 .seq (
 .region [] [1] [
 ⟨some 1, .box 1 (.t 0), none⟩,
 ⟨some 2, .mv (.c (.int .i64 0)), none⟩] ⟨[1], [1], []⟩) (
 .seq (
 .region [] [] [
 ⟨some 3, .faddr 2 (.t 1), none⟩,
 ⟨some 4, .load (.loc 1) none (.t 3), none⟩,
 ⟨some 5, .faddr 3 (.t 1), none⟩,
 ⟨some 6, .load (.loc 1) none (.t 5), none⟩,
 ⟨some 7, .bin .add (.t 4) (.t 6), none⟩,
 ⟨some 8, .faddr 4 (.t 1), none⟩,
 ⟨some 9, .load (.loc 1) none (.t 8), none⟩,
 ⟨some 10, .bin .add (.t 7) (.t 9), none⟩,
 ⟨some 2, .mv (.t 10), none⟩] ⟨[2], [], []⟩) (
 .ret))

/- 15 -/

def v_w22_awake : VFunc where
  nparams := 0
  results := [.t 0 [none]]
  body :=
 .seq (
 .region [] [] [
 ⟨some 0, .mv (.c (.bool false)), none⟩] ⟨[], [], []⟩) (
 .seq (
 .region [] [1] [
 ⟨some 5, .build [.int .i64 0, .int .i64 0] [(0, 1, (.c (.int .i64 100)))], none⟩,
 ⟨some 6, .build [.int .i64 0, .int .i64 0] [(0, 1, (.c (.int .i64 200))), (1, 1, (.c (.int .i64 1000)))], none⟩,
 ⟨some 7, .lit none [none, none] [.int .i64 0, .int .i64 0] 2 [(0, (.t 5)), (1, (.t 6))], none⟩,
 ⟨some 8, .build [.nils, .int .i64 0, .int .i64 0, .int .i64 0, .int .i64 0, .int .i64 0] [(0, 1, (.t 7)), (1, 1, (.c (.int .i64 100))), (2, 1, (.c (.int .i64 120))), (3, 1, (.c (.int .i64 150))), (4, 1, (.c (.int .i64 180))), (5, 1, (.c (.int .i64 200)))], none⟩,
 ⟨some 9, .build [.nils, .int .i64 0, .int .i64 0, .int .i64 0, .int .i64 0, .int .i64 0, .nils, .nils, .int .i64 0] [(0, 6, (.t 8)), (8, 1, (.c (.int .i64 1)))], none⟩,
 ⟨some 1, .obj 1 [.nils, .int .i64 0, .int .i64 0, .int .i64 0, .int .i64 0, .int .i64 0, .nils, .nils, .int .i64 0], none⟩,
 ⟨none, .store (.loc 1) [some 2, none, none, none, none, none, some 6, some 3, none] (.t 1) (.t 9), none⟩] ⟨[1], [1], []⟩) (
 .seq (
 .region [] [2, 3] [
 ⟨some 11, .load (.loc 1) (some 9) (.t 1), none⟩,
 ⟨some 12, .build [.int .i64 0, .int .i64 0, .nils, .nils] [(0, 1, (.c (.int .i64 900)))], none⟩,
 ⟨some 13, .call true (.c (.fn 11 [])) [([some 2, none, none, none, none, none, some 6, some 3, none], (.t 11)), ([none, none, some 3, some 2], (.t 12)), ([none], (.c (.int .i64 300))), ([none], (.c (.int .i64 50))), ([none], (.c (.int .i64 10)))] [], none⟩,
 ⟨some 10, .mv (.t 13), none⟩,
 ⟨some 14, .ext (.t 10) 0, none⟩,
 ⟨some 15, .ext (.t 10) 1, none⟩,
 ⟨some 16, .ext (.t 10) 2, none⟩,
 ⟨some 2, .obj 2 [.int .i64 0, .int .i64 0, .nils, .nils], none⟩,
 ⟨some 3, .obj 3 [.int .i64 0, .int .i64 0, .int .i64 0, .int .i64 0, .int .i64 0, .int .i64 0, .int .i64 0], none⟩,
 ⟨none, .store (.loc 2) [none, none, some 3, some 2] (.t 2) (.t 14), none⟩,
 ⟨none, .store (.loc 3) [none, none, none, none, none, none, none] (.t 3) (.t 15), none⟩,
 ⟨some 4, .mv (.t 16), none⟩] ⟨[2, 3, 4], [2, 3], []⟩) (
 .seq (
 .region [] [] [
 ⟨some 17, .mv (.t 4), none⟩,
 ⟨some 18, .bin .eql (.t 17) (.c (.int .i64 0)), none⟩,
 ⟨some 19, .mv (.t 18), none⟩,
 ⟨some 20, .faddr 0 (.t 2), some (19, true)⟩,
 ⟨some 21, .load (.loc 2) none (.t 20), some (19, true)⟩,
 ⟨some 22, .bin .eql (.t 21) (.c (.int .i64 1000)), some (19, true)⟩,
 ⟨some 23, .pick (.t 19) (.t 22) (.c (.bool false)), none⟩,
 ⟨some 24, .mv (.t 23), none⟩,
 ⟨some 25, .load (.loc 3) (some 7) (.t 3), some (24, true)⟩,
 ⟨some 26, .build [.int .i64 0, .int .i64 0, .int .i64 0, .int .i64 0, .int .i64 0, .int .i64 0, .int .i64 0] [(0, 1, (.c (.int .i64 300))), (1, 1, (.c (.int .i64 50))), (4, 1, (.c (.int .i64 150)))], some (24, true)⟩,
 ⟨some 27, .aeq false [0, 0, 0, 0, 0, 0, 0] (.t 25) (.t 26), some (24, true)⟩,
 ⟨some 28, .pick (.t 24) (.t 27) (.c (.bool false)), none⟩,
 ⟨some 29, .mv (.t 28), none⟩,
 ⟨some 30, .load (.loc 3) (some 7) (.t 3), some (29, true)⟩,
 ⟨some 31, .call true (.c (.fn 14 [])) [([none, none, none, none, none, none, none], (.t 30))] [], some (29, true)⟩,
 ⟨some 32, .bin .eql (.t 31) (.c (.int .i64 150)), some (29, true)⟩,
 ⟨some 33, .pick (.t 29) (.t 32) (.c (.bool false)), none⟩,
 ⟨some 0, .mv (.t 33), none⟩] ⟨[0], [], []⟩) (
 .ret))))

/- 16 -/
def v_dam_Check_b0 : VC :=
 .seq (
 .region [] [] [
 ⟨some 30, .bin .lss (.t 29) (.t 28), none⟩] ⟨[1, 27, 28, 29, 30], [1], []⟩) (
 .seq (
 .cond (.t 30) (
 .skip) (
 .exit 0)) (
 .seq (
 .block 1 (
 .seq (
 .region [] [5] [
 ⟨some 31, .iaddr none 6 (.t 27) (.t 29), none⟩,
 ⟨some 32, .load .imm (some 6) (.t 31), none⟩,
 ⟨some 5, .obj 5 [.nils, .int .i64 0, .int .i64 0, .nils, .int .i64 0, .int .i64 0], none⟩,
 ⟨none, .store (.loc 5) [some 2, none, none, some 2, none, none] (.t 5) (.t 32), none⟩] ⟨[1, 5, 27, 28, 29], [1, 5], []⟩) (
 .seq (
 .region [] [] [
 ⟨some 33, .load (.loc 5) (some 6) (.t 5), none⟩,
 ⟨some 34, .call true (.c (.fn 47 [])) [([some 2, none, none, some 2, none, none], (.t 33))] [], none⟩,
 ⟨some 6, .mv (.t 34), none⟩] ⟨[1, 6, 27, 28, 29], [1], []⟩) (
 .seq (
 .region [] [] [
 ⟨some 35, .mv (.t 6), none⟩,
 ⟨some 36, .bin .neq (.t 35) (.c (.int .i64 0)), none⟩] ⟨[1, 6, 27, 28, 29, 36], [1], []⟩) (
 .cond (.t 36) (
 .seq (
 .region [] [] [
 ⟨some 37, .mv (.t 6), none⟩,
 ⟨some 2, .mv (.t 37), none⟩] ⟨[2], [], []⟩) (
 .ret)) (
 .skip)))))) (
 .region [] [] [
 ⟨some 38, .bin .add (.t 29) (.c (.int .i64 1)), none⟩,
 ⟨some 29, .mv (.t 38), none⟩] ⟨[1, 27, 28, 29], [1], []⟩)))

def v_dam_Check_l0 : VC := .loop [] ⟨[1, 27, 28, 29], [1], []⟩ v_dam_Check_b0

abbrev v_dam_Check_s0 (x27 : V) (x28 : Int) (x29 : Int) (o1 : List V) (G : List GObj) : St := ⟨[(1, .lptr 1 0), (27, x27), (28, .int .i64 x28), (29, .int .i64 x29)], [(1, o1)], [], G⟩

def v_dam_Check_b1 : VC :=
 .seq (
 .region [] [] [
 ⟨some 43, .bin .lss (.t 42) (.t 41), none⟩] ⟨[1, 40, 41, 42, 43], [1], []⟩) (
 .seq (
 .cond (.t 43) (
 .skip) (
 .exit 2)) (
 .seq (
 .block 3 (
 .seq (
 .region [] [8] [
 ⟨some 44, .iaddr none 3 (.t 40) (.t 42), none⟩,
 ⟨some 45, .load .imm (some 3) (.t 44), none⟩,
 ⟨some 8, .obj 8 [.nils, .int .i64 0, .int .i64 0], none⟩,
 ⟨none, .store (.loc 8) [some 2, none, none] (.t 8) (.t 45), none⟩] ⟨[1, 8, 40, 41, 42], [1, 8], []⟩) (
 .seq (
 .region [] [] [
 ⟨some 46, .load (.loc 8) (some 3) (.t 8), none⟩,
 ⟨some 47, .call true (.c (.fn 48 [])) [([some 2, none, none], (.t 46))] [], none⟩,
 ⟨some 9, .mv (.t 47), none⟩] ⟨[1, 9, 40, 41, 42], [1], []⟩) (
 .seq (
 .region [] [] [
 ⟨some 48, .mv (.t 9), none⟩,
 ⟨some 49, .bin .neq (.t 48) (.c (.int .i64 0)), none⟩] ⟨[1, 9, 40, 41, 42, 49], [1], []⟩) (
 .cond (.t 49) (
 .seq (
 .region [] [] [
 ⟨some 50, .mv (.t 9), none⟩,
 ⟨some 2, .mv (.t 50), none⟩] ⟨[2], [], []⟩) (
 .ret)) (
 .skip)))))) (
 .region [] [] [
 ⟨some 51, .bin .add (.t 42) (.c (.int .i64 1)), none⟩,
 ⟨some 42, .mv (.t 51), none⟩] ⟨[1, 40, 41, 42], [1], []⟩)))

def v_dam_Check_l1 : VC := .loop [] ⟨[1, 40, 41, 42], [1], []⟩ v_dam_Check_b1

abbrev v_dam_Check_s1 (x40 : V) (x41 : Int) (x42 : Int) (o1 : List V) (G : List GObj) : St := ⟨[(1, .lptr 1 0), (40, x40), (41, .int .i64 x41), (42, .int .i64 x42)], [(1, o1)], [], G⟩

def v_dam_Check : VFunc where
  nparams := 1
  results := [.t 2 [none]]
  body :=
 .seq (
 .region [] [1] [
 ⟨some 1, .box 1 (.t 0), none⟩,
 ⟨some 2, .mv (.c (.int .i64 0)), none⟩] ⟨[1], [1], []⟩) (
 .seq (
 .seq (
 .region [] [] [
 ⟨some 10, .faddr 0 (.t 1), none⟩,
 ⟨some 11, .load (.loc 1) (some 6) (.t 10), none⟩,
 ⟨some 12, .call true (.c (.fn 46 [])) [([some 2, none, none, none, none, none], (.t 11))] [], none⟩,
 ⟨some 3, .mv (.t 12), none⟩] ⟨[1, 3], [1], []⟩) (
 .seq (
 .region [] [] [
 ⟨some 13, .mv (.t 3), none⟩,
 ⟨some 14, .bin .neq (.t 13) (.c (.int .i64 0)), none⟩] ⟨[1, 3, 14], [1], []⟩) (
 .cond (.t 14) (
 .seq (
 .region [] [] [
 ⟨some 15, .mv (.t 3), none⟩,
 ⟨some 2, .mv (.t 15), none⟩] ⟨[2], [], []⟩) (
 .ret)) (
 .skip)))) (
 .seq (
 .seq (
 .region [] [] [
 ⟨some 16, .faddr 6 (.t 1), none⟩,
 ⟨some 17, .load (.loc 1) none (.t 16), none⟩,
 ⟨some 18, .len (.t 17), none⟩,
 ⟨some 19, .bin .gtr (.t 18) (.c (.int .i64 6)), none⟩,
 ⟨some 20, .mv (.t 19), none⟩,
 ⟨some 21, .faddr 7 (.t 1), some (20, false)⟩,
 ⟨some 22, .load (.loc 1) none (.t 21), some (20, false)⟩,
 ⟨some 23, .len (.t 22), some (20, false)⟩,
 ⟨some 24, .bin .gtr (.t 23) (.c (.int .i64 8)), some (20, false)⟩,
 ⟨some 25, .pick (.t 20) (.c (.bool true)) (.t 24), none⟩] ⟨[1, 25], [1], []⟩) (
 .cond (.t 25) (
 .seq (
 .region [] [] [
 ⟨some 2, .mv (.c (.int .i64 10)), none⟩] ⟨[2], [], []⟩) (
 .ret)) (
 .skip))) (
 .seq (
 .seq (
 .region [] [] [
 ⟨some 26, .faddr 6 (.t 1), none⟩,
 ⟨some 27, .load (.loc 1) none (.t 26), none⟩,
 ⟨some 28, .len (.t 27), none⟩,
 ⟨some 29, .mv (.c (.int .i64 0)), none⟩] ⟨[1, 27, 28, 29], [1], []⟩) (
 .block 0 (
 v_dam_Check_l0))) (
 .seq (
 .seq (
 .region [] [] [
 ⟨some 39, .faddr 7 (.t 1), none⟩,
 ⟨some 40, .load (.loc 1) none (.t 39), none⟩,
 ⟨some 41, .len (.t 40), none⟩,
 ⟨some 42, .mv (.c (.int .i64 0)), none⟩] ⟨[1, 40, 41, 42], [1], []⟩) (
 .block 2 (
 v_dam_Check_l1))) (
 .seq (
 .seq (
 .region [] [] [
 ⟨some 52, .faddr 8 (.t 1), none⟩,
 ⟨some 53, .load (.loc 1) none (.t 52), none⟩,
 ⟨some 54, .bin .lss (.t 53) (.c (.int .i64 1)), none⟩,
 ⟨some 55, .mv (.t 54), none⟩,
 ⟨some 56, .faddr 8 (.t 1), some (55, false)⟩,
 ⟨some 57, .load (.loc 1) none (.t 56), some (55, false)⟩,
 ⟨some 58, .bin .gtr (.t 57) (.c (.int .i64 1073741824)), some (55, false)⟩,
 ⟨some 59, .pick (.t 55) (.c (.bool true)) (.t 58), none⟩] ⟨[59], [], []⟩) (
 .cond (.t 59) (
 .seq (
 .region [] [] [
 ⟨some 2, .mv (.c (.int .i64 1)), none⟩] ⟨[2], [], []⟩) (
 .ret)) (
 .skip))) (
 .seq (
 .region [] [] [
 ⟨some 2, .mv (.c (.int .i64 0)), none⟩] ⟨[2], [], []⟩) (
 .ret)))))))

/- 20 -/

def v_dam_Level : VFunc where
  nparams := 2
  results := [.t 4 [none], .t 5 [none]]
  body :=
 .seq (
 .region [] [2, 3] [
 ⟨some 2, .box 2 (.t 0), none⟩,
 ⟨some 3, .box 3 (.t 1), none⟩,
 ⟨some 4, .mv (.c (.int .i64 0)), none⟩,
 ⟨some 5, .mv (.c (.int .i64 0)), none⟩] ⟨[2, 3], [2, 3], []⟩) (
 .seq (
 .seq (
 .region [] [] [
 ⟨some 7, .load (.loc 2) (some 9) (.t 2), none⟩,
 ⟨some 8, .load (.loc 3) (some 4) (.t 3), none⟩,
 ⟨some 9, .call true (.c (.fn 53 [])) [([some 2, none, none, none, none, none, some 6, some 3, none], (.t 7)), ([none, none, some 3, some 2], (.t 8))] [], none⟩,
 ⟨some 6, .mv (.t 9), none⟩] ⟨[2, 3, 6], [2, 3], []⟩) (
 .seq (
 .region [] [] [
 ⟨some 10, .mv (.t 6), none⟩,
 ⟨some 11, .bin .neq (.t 10) (.c (.int .i64 0)), none⟩] ⟨[2, 3, 6, 11], [2, 3], []⟩) (
 .cond (.t 11) (
 .seq (
 .region [] [] [
 ⟨some 12, .mv (.t 6), none⟩,
 ⟨some 4, .mv (.c (.int .i64 0)), none⟩,
 ⟨some 5, .mv (.t 12), none⟩] ⟨[4, 5], [], []⟩) (
 .ret)) (
 .skip)))) (
 .seq (
 .region [] [] [
 ⟨some 13, .faddr 0 (.t 2), none⟩,
 ⟨some 14, .load (.loc 2) (some 6) (.t 13), none⟩,
 ⟨some 15, .faddr 0 (.t 3), none⟩,
 ⟨some 16, .load (.loc 3) none (.t 15), none⟩,
 ⟨some 17, .call true (.c (.fn 54 [])) [([some 2, none, none, none, none, none], (.t 14)), ([none], (.t 16))] [], none⟩,
 ⟨some 4, .mv (.t 17), none⟩,
 ⟨some 5, .mv (.c (.int .i64 0)), none⟩] ⟨[4, 5], [], []⟩) (
 .ret)))

/- 25 -/

def v_mk_Mod : VFunc where
  nparams := 2
  results := [.t 4 [none]]
  body :=
 .seq (
 .region [] [] [
 ⟨some 4, .mv (.c (.int .i64 0)), none⟩] ⟨[0, 1], [], []⟩) (
 .seq (
 .region [] [] [
 ⟨some 5, .mv (.t 0), none⟩,
 ⟨some 6, .mv (.t 1), none⟩,
 ⟨some 7, .bin .rem (.t 5) (.t 6), none⟩,
 ⟨some 8, .mv (.t 1), none⟩,
 ⟨some 9, .bin .add (.t 7) (.t 8), none⟩,
 ⟨some 10, .mv (.t 1), none⟩,
 ⟨some 11, .bin .rem (.t 9) (.t 10), none⟩,
 ⟨some 4, .mv (.t 11), none⟩] ⟨[4], [], []⟩) (
 .ret))

/- 27 -/
def v_r22_Same_b0 : VC :=
 .seq (
 .region [] [] [
 ⟨some 39, .bin .lss (.t 38) (.t 37), none⟩] ⟨[2, 3, 37, 38, 39], [2, 3], []⟩) (
 .seq (
 .cond (.t 39) (
 .skip) (
 .exit 0)) (
 .seq (
 .block 1 (
 .seq (
 .region [] [] [
 ⟨some 40, .mv (.t 38), none⟩,
 ⟨some 5, .mv (.t 40), none⟩] ⟨[2, 3, 5, 37, 38], [2, 3], []⟩) (
 .seq (
 .region [] [] [
 ⟨some 41, .faddr 2 (.t 2), none⟩,
 ⟨some 42, .load (.loc 2) none (.t 41), none⟩,
 ⟨some 43, .mv (.t 5), none⟩,
 ⟨some 44, .iaddr none 3 (.t 42) (.t 43), none⟩,
 ⟨some 45, .load .imm (some 3) (.t 44), none⟩,
 ⟨some 46, .faddr 2 (.t 3), none⟩,
 ⟨some 47, .load (.loc 3) none (.t 46), none⟩,
 ⟨some 48, .mv (.t 5), none⟩,
 ⟨some 49, .iaddr none 3 (.t 47) (.t 48), none⟩,
 ⟨some 50, .load .imm (some 3) (.t 49), none⟩,
 ⟨some 51, .aeq true [0, 0, 1] (.t 45) (.t 50), none⟩] ⟨[2, 3, 37, 38, 51], [2, 3], []⟩) (
 .cond (.t 51) (
 .seq (
 .region [] [] [
 ⟨some 4, .mv (.c (.bool false)), none⟩] ⟨[4], [], []⟩) (
 .ret)) (
 .skip))))) (
 .region [] [] [
 ⟨some 52, .bin .add (.t 38) (.c (.int .i64 1)), none⟩,
 ⟨some 38, .mv (.t 52), none⟩] ⟨[2, 3, 37, 38], [2, 3], []⟩)))

def v_r22_Same_l0 : VC := .loop [] ⟨[2, 3, 37, 38], [2, 3], []⟩ v_r22_Same_b0

abbrev v_r22_Same_s0 (x37 : Int) (x38 : Int) (o2 : List V) (o3 : List V) (G : List GObj) : St := ⟨[(2, .lptr 2 0), (3, .lptr 3 0), (37, .int .i64 x37), (38, .int .i64 x38)], [(2, o2), (3, o3)], [], G⟩

def v_r22_Same : VFunc where
  nparams := 2
  results := [.t 4 [none]]
  body :=
 .seq (
 .region [] [2, 3] [
 ⟨some 2, .box 2 (.t 0), none⟩,
 ⟨some 3, .box 3 (.t 1), none⟩,
 ⟨some 4, .mv (.c (.bool false)), none⟩] ⟨[2, 3], [2, 3], []⟩) (
 .seq (
 .seq (
 .region [] [] [
 ⟨some 6, .faddr 0 (.t 2), none⟩,
 ⟨some 7, .load (.loc 2) none (.t 6), none⟩,
 ⟨some 8, .faddr 0 (.t 3), none⟩,
 ⟨some 9, .load (.loc 3) none (.t 8), none⟩,
 ⟨some 10, .bin .neq (.t 7) (.t 9), none⟩,
 ⟨some 11, .mv (.t 10), none⟩,
 ⟨some 12, .faddr 1 (.t 2), some (11, false)⟩,
 ⟨some 13, .load (.loc 2) none (.t 12), some (11, false)⟩,
 ⟨some 14, .faddr 1 (.t 3), some (11, false)⟩,
 ⟨some 15, .load (.loc 3) none (.t 14), some (11, false)⟩,
 ⟨some 16, .bin .neq (.t 13) (.t 15), some (11, false)⟩,
 ⟨some 17, .pick (.t 11) (.c (.bool true)) (.t 16), none⟩,
 ⟨some 18, .mv (.t 17), none⟩,
 ⟨some 19, .faddr 2 (.t 2), some (18, false)⟩,
 ⟨some 20, .load (.loc 2) none (.t 19), some (18, false)⟩,
 ⟨some 21, .len (.t 20), some (18, false)⟩,
 ⟨some 22, .faddr 2 (.t 3), some (18, false)⟩,
 ⟨some 23, .load (.loc 3) none (.t 22), some (18, false)⟩,
 ⟨some 24, .len (.t 23), some (18, false)⟩,
 ⟨some 25, .bin .neq (.t 21) (.t 24), some (18, false)⟩,
 ⟨some 26, .pick (.t 18) (.c (.bool true)) (.t 25), none⟩,
 ⟨some 27, .mv (.t 26), none⟩,
 ⟨some 28, .faddr 3 (.t 2), some (27, false)⟩,
 ⟨some 29, .load (.loc 2) none (.t 28), some (27, false)⟩,
 ⟨some 30, .faddr 3 (.t 3), some (27, false)⟩,
 ⟨some 31, .load (.loc 3) none (.t 30), some (27, false)⟩,
 ⟨some 32, .call true (.c (.fn 64 [])) [([some 2], (.t 29)), ([some 2], (.t 31))] [], some (27, false)⟩,
 ⟨some 33, .un .not (.t 32), some (27, false)⟩,
 ⟨some 34, .pick (.t 27) (.c (.bool true)) (.t 33), none⟩] ⟨[2, 3, 34], [2, 3], []⟩) (
 .cond (.t 34) (
 .seq (
 .region [] [] [
 ⟨some 4, .mv (.c (.bool false)), none⟩] ⟨[4], [], []⟩) (
 .ret)) (
 .skip))) (
 .seq (
 .seq (
 .region [] [] [
 ⟨some 35, .faddr 2 (.t 2), none⟩,
 ⟨some 36, .load (.loc 2) none (.t 35), none⟩,
 ⟨some 37, .len (.t 36), none⟩,
 ⟨some 38, .mv (.c (.int .i64 0)), none⟩] ⟨[2, 3, 37, 38], [2, 3], []⟩) (
 .block 0 (
 v_r22_Same_l0))) (
 .seq (
 .region [] [] [
 ⟨some 4, .mv (.c (.bool true)), none⟩] ⟨[4], [], []⟩) (
 .ret))))

/- 28 -/
def v_mk_Flows_b0 : VC :=
 .seq (
 .region [] [] [
 ⟨some 10, .bin .lss (.t 9) (.t 8), none⟩] ⟨[0, 2, 7, 8, 9, 10], [], [1016]⟩) (
 .seq (
 .cond (.t 10) (
 .skip) (
 .exit 0)) (
 .seq (
 .block 1 (
 .region [.norm 7 1016 1] [5016] [
 ⟨some 11, .mv (.t 7), none⟩,
 ⟨some 12, .mv (.t 0), none⟩,
 ⟨some 13, .mv (.t 2), none⟩,
 ⟨some 14, .call false (.c (.fn 10 [])) [([none], (.t 12)), ([none], (.t 13))] [], none⟩,
 ⟨some 15, .lit none [none] [.int .i64 0] 1 [(0, (.t 14))], none⟩,
 ⟨some 16, .app 5016 (some 1016) [none] (.t 11) (.t 15), none⟩,
 ⟨some 7, .mv (.t 16), none⟩] ⟨[0, 2, 7, 8, 9], [], [1016]⟩)) (
 .region [] [] [
 ⟨some 17, .bin .add (.t 9) (.c (.int .i64 1)), none⟩,
 ⟨some 9, .mv (.t 17), none⟩] ⟨[0, 2, 7, 8, 9], [], [1016]⟩)))

def v_mk_Flows_l0 : VC := .loop [.norm 7 1016 1] ⟨[0, 2, 7, 8, 9], [], [1016]⟩ v_mk_Flows_b0

abbrev v_mk_Flows_s0 (x0 : V) (x2 : Int) (x7 : V) (x8 : Int) (x9 : Int) (k1016 : Nat) (G : List GObj) : St := ⟨[(0, x0), (2, .int .i64 x2), (7, x7), (8, .int .i64 x8), (9, .int .i64 x9)], [], [(1016, k1016)], G⟩

def v_mk_Flows : VFunc where
  nparams := 3
  results := [.t 6 [some 1]]
  body :=
 .seq (
 .region [] [] [
 ⟨some 6, .mv (.c (.nils)), none⟩] ⟨[0, 1, 2], [], []⟩) (
 .seq (
 .region [] [] [
 ⟨some 7, .mv (.c (.nils)), none⟩] ⟨[0, 1, 2, 7], [], [1016]⟩) (
 .seq (
 .seq (
 .region [] [] [
 ⟨some 8, .mv (.t 1), none⟩,
 ⟨some 9, .mv (.c (.int .i64 0)), none⟩] ⟨[0, 2, 7, 8, 9], [], [1016]⟩) (
 .block 0 (
 v_mk_Flows_l0))) (
 .seq (
 .region [] [] [
 ⟨some 18, .mv (.t 7), none⟩,
 ⟨some 6, .mv (.t 18), none⟩] ⟨[6], [], [1016]⟩) (
 .ret))))

/- 29 -/
def v_dam_Run_b0 : VC :=
 .seq (
 .region [] [] [
 ⟨some 60, .bin .lss (.t 59) (.t 58), none⟩] ⟨[2, 3, 4, 5, 10, 14, 15, 58, 59, 60], [5, 10, 14], [1089]⟩) (
 .seq (
 .cond (.t 60) (
 .skip) (
 .exit 1)) (
 .seq (
 .block 2 (
 .seq (
 .region [] [] [
 ⟨some 61, .mv (.t 59), none⟩,
 ⟨some 16, .mv (.t 61), none⟩] ⟨[2, 3, 4, 5, 10, 14, 15, 16, 58, 59], [5, 10, 14], [1089]⟩) (
 .seq (
 .region [] [17, 18] [
 ⟨some 63, .load (.loc 5) (some 9) (.t 5), none⟩,
 ⟨some 64, .load (.loc 14) (some 4) (.t 14), none⟩,
 ⟨some 65, .mv (.t 2), none⟩,
 ⟨some 66, .mv (.t 16), none⟩,
 ⟨some 67, .iaddr none 1 (.t 65) (.t 66), none⟩,
 ⟨some 68, .load .imm none (.t 67), none⟩,
 ⟨some 69, .mv (.t 3), none⟩,
 ⟨some 70, .mv (.t 16), none⟩,
 ⟨some 71, .iaddr none 1 (.t 69) (.t 70), none⟩,
 ⟨some 72, .load .imm none (.t 71), none⟩,
 ⟨some 73, .mv (.t 4), none⟩,
 ⟨some 74, .mv (.t 16), none⟩,
 ⟨some 75, .iaddr none 1 (.t 73) (.t 74), none⟩,
 ⟨some 76, .load .imm none (.t 75), none⟩,
 ⟨some 77, .call true (.c (.fn 11 [])) [([some 2, none, none, none, none, none, some 6, some 3, none], (.t 63)), ([none, none, some 3, some 2], (.t 64)), ([none], (.t 68)), ([none], (.t 72)), ([none], (.t 76))] [], none⟩,
 ⟨some 62, .mv (.t 77), none⟩,
 ⟨some 78, .ext (.t 62) 0, none⟩,
 ⟨some 79, .ext (.t 62) 1, none⟩,
 ⟨some 80, .ext (.t 62) 2, none⟩,
 ⟨some 17, .obj 17 [.int .i64 0, .int .i64 0, .nils, .nils], none⟩,
 ⟨some 18, .obj 18 [.int .i64 0, .int .i64 0, .int .i64 0, .int .i64 0, .int .i64 0, .int .i64 0, .int .i64 0], none⟩,
 ⟨none, .store (.loc 17) [none, none, some 3, some 2] (.t 17) (.t 78), none⟩,
 ⟨none, .store (.loc 18) [none, none, none, none, none, none, none] (.t 18) (.t 79), none⟩,
 ⟨some 19, .mv (.t 80), none⟩] ⟨[2, 3, 4, 5, 10, 14, 15, 17, 18, 19, 58, 59], [5, 10, 14, 17, 18], [1089]⟩) (
 .seq (
 .seq (
 .region [] [] [
 ⟨some 81, .mv (.t 19), none⟩,
 ⟨some 82, .bin .neq (.t 81) (.c (.int .i64 0)), none⟩] ⟨[2, 3, 4, 5, 10, 14, 15, 17, 18, 19, 58, 59, 82], [5, 10, 14, 17, 18], [1089]⟩) (
 .cond (.t 82) (
 .seq (
 .region [] [] [
 ⟨some 83, .build [.int .i64 0, .int .i64 0, .nils, .nils] [], none⟩,
 ⟨some 84, .mv (.t 19), none⟩,
 ⟨none, .store (.loc 10) [none, none, some 3, some 2] (.t 10) (.t 83), none⟩,
 ⟨some 11, .mv (.c (.nils)), none⟩,
 ⟨some 12, .mv (.t 84), none⟩] ⟨[10, 11, 12], [10], [1089]⟩) (
 .ret)) (
 .skip))) (
 .region [.norm 15 1089 7] [5089] [
 ⟨some 85, .load (.loc 17) (some 4) (.t 17), none⟩,
 ⟨some 86, .mv (.t 15), none⟩,
 ⟨some 87, .load (.loc 18) (some 7) (.t 18), none⟩,
 ⟨some 88, .lit none [none, none, none, none, none, none, none] [.int .i64 0, .int .i64 0, .int .i64 0, .int .i64 0, .int .i64 0, .int .i64 0, .int .i64 0] 1 [(0, (.t 87))], none⟩,
 ⟨some 89, .app 5089 (some 1089) [none, none, none, none, none, none, none] (.t 86) (.t 88), none⟩,
 ⟨none, .store (.loc 14) [none, none, some 3, some 2] (.t 14) (.t 85), none⟩,
 ⟨some 15, .mv (.t 89), none⟩] ⟨[2, 3, 4, 5, 10, 14, 15, 58, 59], [5, 10, 14], [1089]⟩))))) (
 .region [] [] [
 ⟨some 90, .bin .add (.t 59) (.c (.int .i64 1)), none⟩,
 ⟨some 59, .mv (.t 90), none⟩] ⟨[2, 3, 4, 5, 10, 14, 15, 58, 59], [5, 10, 14], [1089]⟩)))

def v_dam_Run_l0 : VC := .loop [.norm 15 1089 7] ⟨[2, 3, 4, 5, 10, 14, 15, 58, 59], [5, 10, 14], [1089]⟩ v_dam_Run_b0

abbrev v_dam_Run_s0 (x2 : V) (x3 : V) (x4 : V) (x15 : V) (x58 : Int) (x59 : Int) (o5 : List V) (o10 : List V) (o14 : List V) (k1089 : Nat) (G : List GObj) : St := ⟨[(2, x2), (3, x3), (4, x4), (5, .lptr 5 0), (10, .lptr 10 0), (14, .lptr 14 0), (15, x15), (58, .int .i64 x58), (59, .int .i64 x59)], [(5, o5), (10, o10), (14, o14)], [(1089, k1089)], G⟩

def v_dam_Run : VFunc where
  nparams := 5
  results := [.c 10 true [none, none, some 3, some 2], .t 11 [some 7], .t 12 [none]]
  body :=
 .seq (
 .region [] [5, 6, 10] [
 ⟨some 5, .box 5 (.t 0), none⟩,
 ⟨some 6, .box 6 (.t 1), none⟩,
 ⟨some 10, .obj 10 [.int .i64 0, .int .i64 0, .nils, .nils], none⟩,
 ⟨some 11, .mv (.c (.nils)), none⟩,
 ⟨some 12, .mv (.c (.int .i64 0)), none⟩] ⟨[2, 3, 4, 5, 6, 10], [5, 6, 10], []⟩) (
 .seq (
 .block 0 (
 .seq (
 .region [] [] [
 ⟨some 21, .mv (.t 2), none⟩,
 ⟨some 22, .len (.t 21), none⟩,
 ⟨some 23, .mv (.t 3), none⟩,
 ⟨some 24, .len (.t 23), none⟩,
 ⟨some 25, .bin .neq (.t 22) (.t 24), none⟩,
 ⟨some 26, .mv (.t 25), none⟩,
 ⟨some 27, .mv (.t 2), some (26, false)⟩,
 ⟨some 28, .len (.t 27), some (26, false)⟩,
 ⟨some 29, .mv (.t 4), some (26, false)⟩,
 ⟨some 30, .len (.t 29), some (26, false)⟩,
 ⟨some 31, .bin .neq (.t 28) (.t 30), some (26, false)⟩,
 ⟨some 32, .pick (.t 26) (.c (.bool true)) (.t 31), none⟩,
 ⟨some 20, .mv (.t 32), none⟩] ⟨[2, 3, 4, 5, 6, 10, 20], [5, 6, 10], []⟩) (
 .cond (.t 20) (
 .seq (
 .region [] [] [
 ⟨some 33, .build [.int .i64 0, .int .i64 0, .nils, .nils] [], none⟩,
 ⟨none, .store (.loc 10) [none, none, some 3, some 2] (.t 10) (.t 33), none⟩,
 ⟨some 11, .mv (.c (.nils)), none⟩,
 ⟨some 12, .mv (.c (.int .i64 3)), none⟩] ⟨[10, 11, 12], [10], [1089]⟩) (
 .ret)) (
 .seq (
 .region [] [] [
 ⟨some 35, .mv (.t 2), none⟩,
 ⟨some 36, .len (.t 35), none⟩,
 ⟨some 37, .bin .gtr (.t 36) (.c (.int .i64 4096)), none⟩,
 ⟨some 34, .mv (.t 37), none⟩] ⟨[2, 3, 4, 5, 6, 10, 34], [5, 6, 10], []⟩) (
 .cond (.t 34) (
 .seq (
 .region [] [] [
 ⟨some 38, .build [.int .i64 0, .int .i64 0, .nils, .nils] [], none⟩,
 ⟨none, .store (.loc 10) [none, none, some 3, some 2] (.t 10) (.t 38), none⟩,
 ⟨some 11, .mv (.c (.nils)), none⟩,
 ⟨some 12, .mv (.c (.int .i64 10)), none⟩] ⟨[10, 11, 12], [10], [1089]⟩) (
 .ret)) (
 .skip)))))) (
 .seq (
 .seq (
 .region [] [] [
 ⟨some 39, .load (.loc 5) (some 9) (.t 5), none⟩,
 ⟨some 40, .load (.loc 6) (some 4) (.t 6), none⟩,
 ⟨some 41, .call true (.c (.fn 53 [])) [([some 2, none, none, none, none, none, some 6, some 3, none], (.t 39)), ([none, none, some 3, some 2], (.t 40))] [], none⟩,
 ⟨some 13, .mv (.t 41), none⟩] ⟨[2, 3, 4, 5, 6, 10, 13], [5, 6, 10], []⟩) (
 .seq (
 .region [] [] [
 ⟨some 42, .mv (.t 13), none⟩,
 ⟨some 43, .bin .neq (.t 42) (.c (.int .i64 0)), none⟩] ⟨[2, 3, 4, 5, 6, 10, 13, 43], [5, 6, 10], []⟩) (
 .cond (.t 43) (
 .seq (
 .region [] [] [
 ⟨some 44, .build [.int .i64 0, .int .i64 0, .nils, .nils] [], none⟩,
 ⟨some 45, .mv (.t 13), none⟩,
 ⟨none, .store (.loc 10) [none, none, some 3, some 2] (.t 10) (.t 44), none⟩,
 ⟨some 11, .mv (.c (.nils)), none⟩,
 ⟨some 12, .mv (.t 45), none⟩] ⟨[10, 11, 12], [10], [1089]⟩) (
 .ret)) (
 .skip)))) (
 .seq (
 .region [] [14] [
 ⟨some 46, .faddr 0 (.t 6), none⟩,
 ⟨some 47, .load (.loc 6) none (.t 46), none⟩,
 ⟨some 48, .faddr 1 (.t 6), none⟩,
 ⟨some 49, .load (.loc 6) none (.t 48), none⟩,
 ⟨some 50, .faddr 2 (.t 6), none⟩,
 ⟨some 51, .load (.loc 6) none (.t 50), none⟩,
 ⟨some 52, .call true (.c (.fn 65 [])) [([some 3], (.t 51))] [], none⟩,
 ⟨some 53, .faddr 3 (.t 6), none⟩,
 ⟨some 54, .load (.loc 6) none (.t 53), none⟩,
 ⟨some 55, .call true (.c (.fn 66 [])) [([some 2], (.t 54))] [], none⟩,
 ⟨some 56, .build [.int .i64 0, .int .i64 0, .nils, .nils] [(0, 1, (.t 47)), (1, 1, (.t 49)), (2, 1, (.t 52)), (3, 1, (.t 55))], none⟩,
 ⟨some 14, .obj 14 [.int .i64 0, .int .i64 0, .nils, .nils], none⟩,
 ⟨none, .store (.loc 14) [none, none, some 3, some 2] (.t 14) (.t 56), none⟩] ⟨[2, 3, 4, 5, 10, 14], [5, 10, 14], []⟩) (
 .seq (
 .region [] [] [
 ⟨some 15, .mv (.c (.nils)), none⟩] ⟨[2, 3, 4, 5, 10, 14, 15], [5, 10, 14], [1089]⟩) (
 .seq (
 .seq (
 .region [] [] [
 ⟨some 57, .mv (.t 2), none⟩,
 ⟨some 58, .len (.t 57), none⟩,
 ⟨some 59, .mv (.c (.int .i64 0)), none⟩] ⟨[2, 3, 4, 5, 10, 14, 15, 58, 59], [5, 10, 14], [1089]⟩) (
 .block 1 (
 v_dam_Run_l0))) (
 .seq (
 .region [] [] [
 ⟨some 91, .load (.loc 14) (some 4) (.t 14), none⟩,
 ⟨some 92, .mv (.t 15), none⟩,
 ⟨none, .store (.loc 10) [none, none, some 3, some 2] (.t 10) (.t 91), none⟩,
 ⟨some 11, .mv (.t 92), none⟩,
 ⟨some 12, .mv (.c (.int .i64 0)), none⟩] ⟨[10, 11, 12], [10], [1089]⟩) (
 .ret)))))))

/- 30 -/
def v_r22_SameRecords_b0 : VC :=
 .seq (
 .region [] [] [
 ⟨some 14, .bin .lss (.t 13) (.t 12), none⟩] ⟨[0, 1, 12, 13, 14], [], []⟩) (
 .seq (
 .cond (.t 14) (
 .skip) (
 .exit 0)) (
 .seq (
 .block 1 (
 .seq (
 .region [] [] [
 ⟨some 15, .mv (.t 13), none⟩,
 ⟨some 5, .mv (.t 15), none⟩] ⟨[0, 1, 5, 12, 13], [], []⟩) (
 .seq (
 .region [] [] [
 ⟨some 16, .mv (.t 0), none⟩,
 ⟨some 17, .mv (.t 5), none⟩,
 ⟨some 18, .iaddr none 7 (.t 16) (.t 17), none⟩,
 ⟨some 19, .load .imm (some 7) (.t 18), none⟩,
 ⟨some 20, .mv (.t 1), none⟩,
 ⟨some 21, .mv (.t 5), none⟩,
 ⟨some 22, .iaddr none 7 (.t 20) (.t 21), none⟩,
 ⟨some 23, .load .imm (some 7) (.t 22), none⟩,
 ⟨some 24, .aeq true [0, 0, 0, 0, 0, 0, 0] (.t 19) (.t 23), none⟩] ⟨[0, 1, 12, 13, 24], [], []⟩) (
 .cond (.t 24) (
 .seq (
 .region [] [] [
 ⟨some 4, .mv (.c (.bool false)), none⟩] ⟨[4], [], []⟩) (
 .ret)) (
 .skip))))) (
 .region [] [] [
 ⟨some 25, .bin .add (.t 13) (.c (.int .i64 1)), none⟩,
 ⟨some 13, .mv (.t 25), none⟩] ⟨[0, 1, 12, 13], [], []⟩)))

def v_r22_SameRecords_l0 : VC := .loop [] ⟨[0, 1, 12, 13], [], []⟩ v_r22_SameRecords_b0

abbrev v_r22_SameRecords_s0 (x0 : V) (x1 : V) (x12 : Int) (x13 : Int) (G : List GObj) : St := ⟨[(0, x0), (1, x1), (12, .int .i64 x12), (13, .int .i64 x13)], [], [], G⟩

def v_r22_SameRecords : VFunc where
  nparams := 2
  results := [.t 4 [none]]
  body :=
 .seq (
 .region [] [] [
 ⟨some 4, .mv (.c (.bool false)), none⟩] ⟨[0, 1], [], []⟩) (
 .seq (
 .seq (
 .region [] [] [
 ⟨some 6, .mv (.t 0), none⟩,
 ⟨some 7, .len (.t 6), none⟩,
 ⟨some 8, .mv (.t 1), none⟩,
 ⟨some 9, .len (.t 8), none⟩,
 ⟨some 10, .bin .neq (.t 7) (.t 9), none⟩] ⟨[0, 1, 10], [], []⟩) (
 .cond (.t 10) (
 .seq (
 .region [] [] [
 ⟨some 4, .mv (.c (.bool false)), none⟩] ⟨[4], [], []⟩) (
 .ret)) (
 .skip))) (
 .seq (
 .seq (
 .region [] [] [
 ⟨some 11, .mv (.t 0), none⟩,
 ⟨some 12, .len (.t 11), none⟩,
 ⟨some 13, .mv (.c (.int .i64 0)), none⟩] ⟨[0, 1, 12, 13], [], []⟩) (
 .block 0 (
 v_r22_SameRecords_l0))) (
 .seq (
 .region [] [] [
 ⟨some 4, .mv (.c (.bool true)), none⟩] ⟨[4], [], []⟩) (
 .ret))))

/- 34 -/
def v_mk_Reservoir_b0 : VC :=
 .seq (
 .region [] [] [
 ⟨some 31, .bin .lss (.t 30) (.c (.int .i64 5)), none⟩] ⟨[0, 2, 3, 4, 5, 6, 30, 31], [2, 3, 6], []⟩) (
 .seq (
 .cond (.t 31) (
 .skip) (
 .exit 0)) (
 .seq (
 .block 1 (
 .seq (
 .region [] [] [
 ⟨some 32, .mv (.t 30), none⟩,
 ⟨some 7, .mv (.t 32), none⟩] ⟨[0, 2, 3, 4, 5, 6, 7, 30], [2, 3, 6], []⟩) (
 .seq (
 .region [] [] [
 ⟨some 33, .mv (.t 4), none⟩,
 ⟨some 34, .mv (.t 0), none⟩,
 ⟨some 35, .mv (.t 5), none⟩,
 ⟨some 36, .mv (.t 4), none⟩,
 ⟨some 37, .bin .sub (.t 35) (.t 36), none⟩,
 ⟨some 38, .mv (.t 7), none⟩,
 ⟨some 39, .bin .sub (.c (.int .i64 5)) (.t 38), none⟩,
 ⟨some 40, .bin .quo (.t 37) (.t 39), none⟩,
 ⟨some 41, .bin .add (.t 40) (.c (.int .i64 1)), none⟩,
 ⟨some 42, .call false (.c (.fn 10 [])) [([none], (.t 34)), ([none], (.t 41))] [], none⟩,
 ⟨some 43, .bin .add (.t 33) (.t 42), none⟩,
 ⟨some 4, .mv (.t 43), none⟩] ⟨[0, 2, 3, 4, 5, 6, 7, 30], [2, 3, 6], []⟩) (
 .region [] [] [
 ⟨some 44, .mv (.t 7), none⟩,
 ⟨some 45, .mv (.t 4), none⟩,
 ⟨some 46, .iaddr (some 5) 1 (.t 6) (.t 44), none⟩,
 ⟨none, .store (.loc 6) [none] (.t 46) (.t 45), none⟩] ⟨[0, 2, 3, 4, 5, 6, 30], [2, 3, 6], []⟩)))) (
 .region [] [] [
 ⟨some 47, .bin .add (.t 30) (.c (.int .i64 1)), none⟩,
 ⟨some 30, .mv (.t 47), none⟩] ⟨[0, 2, 3, 4, 5, 6, 30], [2, 3, 6], []⟩)))

def v_mk_Reservoir_l0 : VC := .loop [] ⟨[0, 2, 3, 4, 5, 6, 30], [2, 3, 6], []⟩ v_mk_Reservoir_b0

abbrev v_mk_Reservoir_s0 (x0 : V) (x4 : Int) (x5 : Int) (x30 : Int) (o2 : List V) (o3 : List V) (o6 : List V) (G : List GObj) : St := ⟨[(0, x0), (2, .lptr 2 0), (3, .lptr 3 0), (4, .int .i64 x4), (5, .int .i64 x5), (6, .lptr 6 0), (30, .int .i64 x30)], [(2, o2), (3, o3), (6, o6)], [], G⟩

def v_mk_Reservoir : VFunc where
  nparams := 1
  results := [.c 2 true [some 2, none, none, none, none, none]]
  body :=
 .seq (
 .region [] [2] [
 ⟨some 2, .obj 2 [.nils, .int .i64 0, .int .i64 0, .int .i64 0, .int .i64 0, .int .i64 0], none⟩] ⟨[0, 2], [2], []⟩) (
 .seq (
 .region [] [3] [
 ⟨some 8, .mv (.t 0), none⟩,
 ⟨some 9, .mv (.t 0), none⟩,
 ⟨some 10, .call false (.c (.fn 10 [])) [([none], (.t 9)), ([none], (.c (.int .i64 10)))] [], none⟩,
 ⟨some 11, .bin .add (.c (.int .i64 100)) (.t 10), none⟩,
 ⟨some 12, .mv (.t 0), none⟩,
 ⟨some 13, .call false (.c (.fn 10 [])) [([none], (.t 12)), ([none], (.c (.int .i64 20)))] [], none⟩,
 ⟨some 14, .call false (.c (.fn 67 [])) [([none], (.t 8)), ([none], (.t 11)), ([none], (.t 13)), ([none], (.c (.int .i64 40))), ([none], (.c (.int .i64 200))), ([none], (.c (.bool true)))] [], none⟩,
 ⟨some 15, .build [.nils, .int .i64 0, .int .i64 0, .int .i64 0, .int .i64 0, .int .i64 0] [(0, 1, (.t 14))], none⟩,
 ⟨some 3, .obj 3 [.nils, .int .i64 0, .int .i64 0, .int .i64 0, .int .i64 0, .int .i64 0], none⟩,
 ⟨none, .store (.loc 3) [some 2, none, none, none, none, none] (.t 3) (.t 15), none⟩] ⟨[0, 2, 3], [2, 3], []⟩) (
 .seq (
 .region [] [] [
 ⟨some 16, .faddr 0 (.t 3), none⟩,
 ⟨some 17, .load (.loc 3) none (.t 16), none⟩,
 ⟨some 18, .iaddr none 2 (.t 17) (.c (.int .i64 0)), none⟩,
 ⟨some 19, .faddr 0 (.t 18), none⟩,
 ⟨some 20, .load .imm none (.t 19), none⟩,
 ⟨some 4, .mv (.t 20), none⟩] ⟨[0, 2, 3, 4], [2, 3], []⟩) (
 .seq (
 .region [] [] [
 ⟨some 21, .faddr 0 (.t 3), none⟩,
 ⟨some 22, .load (.loc 3) none (.t 21), none⟩,
 ⟨some 23, .faddr 0 (.t 3), none⟩,
 ⟨some 24, .load (.loc 3) none (.t 23), none⟩,
 ⟨some 25, .len (.t 24), none⟩,
 ⟨some 26, .bin .sub (.t 25) (.c (.int .i64 1)), none⟩,
 ⟨some 27, .iaddr none 2 (.t 22) (.t 26), none⟩,
 ⟨some 28, .faddr 0 (.t 27), none⟩,
 ⟨some 29, .load .imm none (.t 28), none⟩,
 ⟨some 5, .mv (.t 29), none⟩] ⟨[0, 2, 3, 4, 5], [2, 3], []⟩) (
 .seq (
 .region [] [6] [
 ⟨some 6, .obj 6 [.int .i64 0, .int .i64 0, .int .i64 0, .int .i64 0, .int .i64 0], none⟩] ⟨[0, 2, 3, 4, 5, 6], [2, 3, 6], []⟩) (
 .seq (
 .seq (
 .region [] [] [
 ⟨some 30, .mv (.c (.int .i64 0)), none⟩] ⟨[0, 2, 3, 4, 5, 6, 30], [2, 3, 6], []⟩) (
 .block 0 (
 v_mk_Reservoir_l0))) (
 .seq (
 .region [] [] [
 ⟨some 48, .iaddr (some 5) 1 (.t 6) (.c (.int .i64 0)), none⟩,
 ⟨some 49, .load (.loc 6) none (.t 48), none⟩,
 ⟨some 50, .iaddr (some 5) 1 (.t 6) (.c (.int .i64 1)), none⟩,
 ⟨some 51, .load (.loc 6) none (.t 50), none⟩,
 ⟨some 52, .iaddr (some 5) 1 (.t 6) (.c (.int .i64 2)), none⟩,
 ⟨some 53, .load (.loc 6) none (.t 52), none⟩,
 ⟨some 54, .iaddr (some 5) 1 (.t 6) (.c (.int .i64 3)), none⟩,
 ⟨some 55, .load (.loc 6) none (.t 54), none⟩,
 ⟨some 56, .iaddr (some 5) 1 (.t 6) (.c (.int .i64 4)), none⟩,
 ⟨some 57, .load (.loc 6) none (.t 56), none⟩,
 ⟨some 58, .faddr 1 (.t 3), none⟩,
 ⟨none, .store (.loc 3) [none] (.t 58) (.t 49), none⟩,
 ⟨some 59, .faddr 2 (.t 3), none⟩,
 ⟨none, .store (.loc 3) [none] (.t 59) (.t 51), none⟩,
 ⟨some 60, .faddr 3 (.t 3), none⟩,
 ⟨none, .store (.loc 3) [none] (.t 60) (.t 53), none⟩,
 ⟨some 61, .faddr 4 (.t 3), none⟩,
 ⟨none, .store (.loc 3) [none] (.t 61) (.t 55), none⟩,
 ⟨some 62, .faddr 5 (.t 3), none⟩,
 ⟨none, .store (.loc 3) [none] (.t 62) (.t 57), none⟩] ⟨[2, 3], [2, 3], []⟩) (
 .seq (
 .region [] [] [
 ⟨some 63, .load (.loc 3) (some 6) (.t 3), none⟩,
 ⟨none, .store (.loc 2) [some 2, none, none, none, none, none] (.t 2) (.t 63), none⟩] ⟨[2], [2], []⟩) (
 .ret))))))))

/- 35 -/
def v_mk_Units_b0 : VC :=
 .seq (
 .seq (
 .region [] [] [
 ⟨some 14, .mv (.t 8), none⟩,
 ⟨some 15, .bin .gtr (.t 14) (.c (.int .i64 0)), none⟩] ⟨[0, 6, 7, 8, 15], [], [1023, 1029]⟩) (
 .cond (.t 15) (
 .skip) (
 .exit 0))) (
 .seq (
 .block 1 (
 .seq (
 .region [] [9] [
 ⟨some 18, .mv (.t 0), none⟩,
 ⟨some 19, .call false (.c (.fn 68 [])) [([none], (.t 18))] [], none⟩,
 ⟨some 9, .obj 9 [.nils, .int .i64 0, .int .i64 0, .nils, .int .i64 0, .int .i64 0], none⟩,
 ⟨none, .store (.loc 9) [some 2, none, none, some 2, none, none] (.t 9) (.t 19), none⟩] ⟨[0, 6, 7, 8, 9], [9], [1023, 1029]⟩) (
 .region [.norm 6 1023 6, .norm 7 1029 3] [5023, 5029] [
 ⟨some 20, .mv (.t 6), none⟩,
 ⟨some 21, .load (.loc 9) (some 6) (.t 9), none⟩,
 ⟨some 22, .lit none [some 2, none, none, some 2, none, none] [.slice none 2 [], .int .i64 0, .int .i64 0, .slice none 2 [], .int .i64 0, .int .i64 0] 1 [(0, (.t 21))], none⟩,
 ⟨some 23, .app 5023 (some 1023) [some 2, none, none, some 2, none, none] (.t 20) (.t 22), none⟩,
 ⟨some 24, .mv (.t 7), none⟩,
 ⟨some 25, .mv (.t 0), none⟩,
 ⟨some 26, .load (.loc 9) (some 6) (.t 9), none⟩,
 ⟨some 27, .call false (.c (.fn 69 [])) [([none], (.t 25)), ([some 2, none, none, some 2, none, none], (.t 26))] [], none⟩,
 ⟨some 28, .lit none [none, none, none] [.int .i64 0, .int .i64 0, .bool false] 1 [(0, (.t 27))], none⟩,
 ⟨some 29, .app 5029 (some 1029) [none, none, none] (.t 24) (.t 28), none⟩,
 ⟨some 6, .mv (.t 23), none⟩,
 ⟨some 7, .mv (.t 29), none⟩] ⟨[0, 6, 7, 8], [], [1023, 1029]⟩))) (
 .region [] [] [
 ⟨some 16, .mv (.t 8), none⟩,
 ⟨some 17, .bin .sub (.t 16) (.c (.int .i64 1)), none⟩,
 ⟨some 8, .mv (.t 17), none⟩] ⟨[0, 6, 7, 8], [], [1023, 1029]⟩))

def v_mk_Units_l0 : VC := .loop [.norm 6 1023 6, .norm 7 1029 3] ⟨[0, 6, 7, 8], [], [1023, 1029]⟩ v_mk_Units_b0

abbrev v_mk_Units_s0 (x0 : V) (x6 : V) (x7 : V) (x8 : Int) (k1023 : Nat) (k1029 : Nat) (G : List GObj) : St := ⟨[(0, x0), (6, x6), (7, x7), (8, .int .i64 x8)], [], [(1023, k1023), (1029, k1029)], G⟩

def v_mk_Units : VFunc where
  nparams := 2
  results := [.t 4 [some 6], .t 5 [some 3]]
  body :=
 .seq (
 .region [] [] [
 ⟨some 4, .mv (.c (.nils)), none⟩,
 ⟨some 5, .mv (.c (.nils)), none⟩] ⟨[0, 1], [], []⟩) (
 .seq (
 .region [] [] [
 ⟨some 6, .mv (.c (.nils)), none⟩] ⟨[0, 1, 6], [], [1023]⟩) (
 .seq (
 .region [] [] [
 ⟨some 7, .mv (.c (.nils)), none⟩] ⟨[0, 1, 6, 7], [], [1023, 1029]⟩) (
 .seq (
 .seq (
 .region [] [] [
 ⟨some 10, .mv (.t 0), none⟩,
 ⟨some 11, .mv (.t 1), none⟩,
 ⟨some 12, .bin .add (.t 11) (.c (.int .i64 1)), none⟩,
 ⟨some 13, .call false (.c (.fn 10 [])) [([none], (.t 10)), ([none], (.t 12))] [], none⟩,
 ⟨some 8, .mv (.t 13), none⟩] ⟨[0, 6, 7, 8], [], [1023, 1029]⟩) (
 .block 0 (
 v_mk_Units_l0))) (
 .seq (
 .region [] [] [
 ⟨some 30, .mv (.t 6), none⟩,
 ⟨some 31, .mv (.t 7), none⟩,
 ⟨some 4, .mv (.t 30), none⟩,
 ⟨some 5, .mv (.t 31), none⟩] ⟨[4, 5], [], [1023, 1029]⟩) (
 .ret)))))

/- 36 -/
def v_mk_Gates_b0 : VC :=
 .seq (
 .seq (
 .region [] [] [
 ⟨some 14, .mv (.t 8), none⟩,
 ⟨some 15, .bin .gtr (.t 14) (.c (.int .i64 0)), none⟩] ⟨[0, 6, 7, 8, 15], [], [1023, 1035]⟩) (
 .cond (.t 15) (
 .skip) (
 .exit 0))) (
 .seq (
 .block 1 (
 .seq (
 .region [] [9] [
 ⟨some 18, .mv (.t 0), none⟩,
 ⟨some 19, .call false (.c (.fn 70 [])) [([none], (.t 18))] [], none⟩,
 ⟨some 9, .obj 9 [.nils, .int .i64 0, .int .i64 0], none⟩,
 ⟨none, .store (.loc 9) [some 2, none, none] (.t 9) (.t 19), none⟩] ⟨[0, 6, 7, 8, 9], [9], [1023, 1035]⟩) (
 .region [.norm 6 1023 3, .norm 7 1035 2] [5023, 5035] [
 ⟨some 20, .mv (.t 6), none⟩,
 ⟨some 21, .load (.loc 9) (some 3) (.t 9), none⟩,
 ⟨some 22, .lit none [some 2, none, none] [.slice none 2 [], .int .i64 0, .int .i64 0] 1 [(0, (.t 21))], none⟩,
 ⟨some 23, .app 5023 (some 1023) [some 2, none, none] (.t 20) (.t 22), none⟩,
 ⟨some 24, .mv (.t 7), none⟩,
 ⟨some 25, .mv (.t 0), none⟩,
 ⟨some 26, .faddr 1 (.t 9), none⟩,
 ⟨some 27, .load (.loc 9) none (.t 26), none⟩,
 ⟨some 28, .bin .add (.t 27) (.c (.int .i64 1)), none⟩,
 ⟨some 29, .call false (.c (.fn 10 [])) [([none], (.t 25)), ([none], (.t 28))] [], none⟩,
 ⟨some 30, .mv (.t 0), none⟩,
 ⟨some 31, .call false (.c (.fn 10 [])) [([none], (.t 30)), ([none], (.c (.int .i64 7)))] [], none⟩,
 ⟨some 32, .bin .eql (.t 31) (.c (.int .i64 6)), none⟩,
 ⟨some 33, .build [.int .i64 0, .bool false] [(0, 1, (.t 29)), (1, 1, (.t 32))], none⟩,
 ⟨some 34, .lit none [none, none] [.int .i64 0, .bool false] 1 [(0, (.t 33))], none⟩,
 ⟨some 35, .app 5035 (some 1035) [none, none] (.t 24) (.t 34), none⟩,
 ⟨some 6, .mv (.t 23), none⟩,
 ⟨some 7, .mv (.t 35), none⟩] ⟨[0, 6, 7, 8], [], [1023, 1035]⟩))) (
 .region [] [] [
 ⟨some 16, .mv (.t 8), none⟩,
 ⟨some 17, .bin .sub (.t 16) (.c (.int .i64 1)), none⟩,
 ⟨some 8, .mv (.t 17), none⟩] ⟨[0, 6, 7, 8], [], [1023, 1035]⟩))

def v_mk_Gates_l0 : VC := .loop [.norm 6 1023 3, .norm 7 1035 2] ⟨[0, 6, 7, 8], [], [1023, 1035]⟩ v_mk_Gates_b0

abbrev v_mk_Gates_s0 (x0 : V) (x6 : V) (x7 : V) (x8 : Int) (k1023 : Nat) (k1035 : Nat) (G : List GObj) : St := ⟨[(0, x0), (6, x6), (7, x7), (8, .int .i64 x8)], [], [(1023, k1023), (1035, k1035)], G⟩

def v_mk_Gates : VFunc where
  nparams := 2
  results := [.t 4 [some 3], .t 5 [some 2]]
  body :=
 .seq (
 .region [] [] [
 ⟨some 4, .mv (.c (.nils)), none⟩,
 ⟨some 5, .mv (.c (.nils)), none⟩] ⟨[0, 1], [], []⟩) (
 .seq (
 .region [] [] [
 ⟨some 6, .mv (.c (.nils)), none⟩] ⟨[0, 1, 6], [], [1023]⟩) (
 .seq (
 .region [] [] [
 ⟨some 7, .mv (.c (.nils)), none⟩] ⟨[0, 1, 6, 7], [], [1023, 1035]⟩) (
 .seq (
 .seq (
 .region [] [] [
 ⟨some 10, .mv (.t 0), none⟩,
 ⟨some 11, .mv (.t 1), none⟩,
 ⟨some 12, .bin .add (.t 11) (.c (.int .i64 1)), none⟩,
 ⟨some 13, .call false (.c (.fn 10 [])) [([none], (.t 10)), ([none], (.t 12))] [], none⟩,
 ⟨some 8, .mv (.t 13), none⟩] ⟨[0, 6, 7, 8], [], [1023, 1035]⟩) (
 .block 0 (
 v_mk_Gates_l0))) (
 .seq (
 .region [] [] [
 ⟨some 36, .mv (.t 6), none⟩,
 ⟨some 37, .mv (.t 7), none⟩,
 ⟨some 4, .mv (.t 36), none⟩,
 ⟨some 5, .mv (.t 37), none⟩] ⟨[4, 5], [], [1023, 1035]⟩) (
 .ret)))))

/- 37 -/

def v_r03_wrong : VFunc where
  nparams := 2
  results := [.t 4 [none]]
  body :=
 .seq (
 .region [] [2] [
 ⟨some 2, .box 2 (.t 0), none⟩,
 ⟨some 4, .mv (.c (.int .i64 0)), none⟩] ⟨[1, 2], [2], []⟩) (
 .seq (
 .seq (
 .region [] [] [
 ⟨some 6, .load (.loc 2) (some 6) (.t 2), none⟩,
 ⟨some 7, .call true (.c (.fn 49 [])) [([some 2, none, none, none, none, none], (.t 6))] [], none⟩,
 ⟨some 5, .mv (.t 7), none⟩] ⟨[1, 5], [], []⟩) (
 .seq (
 .region [] [] [
 ⟨some 8, .mv (.t 5), none⟩,
 ⟨some 9, .bin .neq (.t 8) (.c (.int .i64 0)), none⟩] ⟨[1, 5, 9], [], []⟩) (
 .cond (.t 9) (
 .seq (
 .region [] [] [
 ⟨some 10, .mv (.t 5), none⟩,
 ⟨some 4, .mv (.t 10), none⟩] ⟨[4], [], []⟩) (
 .ret)) (
 .skip)))) (
 .seq (
 .seq (
 .region [] [] [
 ⟨some 11, .mv (.t 1), none⟩,
 ⟨some 12, .call true (.c (.fn 43 [])) [([none], (.t 11)), ([none], (.c (.int .i64 16777216)))] [], none⟩,
 ⟨some 13, .un .not (.t 12), none⟩] ⟨[13], [], []⟩) (
 .cond (.t 13) (
 .seq (
 .region [] [] [
 ⟨some 4, .mv (.c (.int .i64 1)), none⟩] ⟨[4], [], []⟩) (
 .ret)) (
 .skip))) (
 .seq (
 .region [] [] [
 ⟨some 4, .mv (.c (.int .i64 0)), none⟩] ⟨[4], [], []⟩) (
 .ret))))

/- 38 -/

def v_r02_At : VFunc where
  nparams := 2
  results := [.t 4 [none], .t 5 [none]]
  body :=
 .seq (
 .region [] [] [
 ⟨some 4, .mv (.c (.int .i64 0)), none⟩,
 ⟨some 5, .mv (.c (.int .i64 0)), none⟩] ⟨[0, 1], [], []⟩) (
 .seq (
 .seq (
 .region [] [] [
 ⟨some 7, .mv (.t 0), none⟩,
 ⟨some 8, .call true (.c (.fn 71 [])) [([some 2], (.t 7))] [], none⟩,
 ⟨some 6, .mv (.t 8), none⟩] ⟨[0, 1, 6], [], []⟩) (
 .seq (
 .region [] [] [
 ⟨some 9, .mv (.t 6), none⟩,
 ⟨some 10, .bin .neq (.t 9) (.c (.int .i64 0)), none⟩] ⟨[0, 1, 6, 10], [], []⟩) (
 .cond (.t 10) (
 .seq (
 .region [] [] [
 ⟨some 11, .mv (.t 6), none⟩,
 ⟨some 4, .mv (.c (.int .i64 0)), none⟩,
 ⟨some 5, .mv (.t 11), none⟩] ⟨[4, 5], [], []⟩) (
 .ret)) (
 .skip)))) (
 .seq (
 .region [] [] [
 ⟨some 12, .mv (.t 0), none⟩,
 ⟨some 13, .mv (.t 1), none⟩,
 ⟨some 14, .call true (.c (.fn 72 [])) [([some 2], (.t 12)), ([none], (.t 13))] [], none⟩,
 ⟨some 4, .mv (.t 14), none⟩,
 ⟨some 5, .mv (.c (.int .i64 0)), none⟩] ⟨[4, 5], [], []⟩) (
 .ret)))

/- 39 -/

def v_slices_ContainsFunc_int_int : VFunc where
  nparams := 2
  results := [.t 4 [none]]
  body :=
 .seq (
 .region [] [] [
 ⟨some 4, .mv (.c (.bool false)), none⟩] ⟨[0, 1], [], []⟩) (
 .seq (
 .region [] [] [
 ⟨some 5, .mv (.t 0), none⟩,
 ⟨some 6, .mv (.t 1), none⟩,
 ⟨some 7, .call false (.c (.fn 73 [])) [([some 1], (.t 5)), ([none], (.t 6))] [], none⟩,
 ⟨some 8, .bin .geq (.t 7) (.c (.int .i64 0)), none⟩,
 ⟨some 4, .mv (.t 8), none⟩] ⟨[4], [], []⟩) (
 .ret))

/- 40 -/

def v_dam_Step_1 : VFunc where
  nparams := 1
  results := [.t 2 [none]]
  body :=
 .seq (
 .region [] [] [
 ⟨some 2, .mv (.c (.bool false)), none⟩] ⟨[0], [], []⟩) (
 .seq (
 .region [] [] [
 ⟨some 3, .mv (.t 0), none⟩,
 ⟨some 4, .call true (.c (.fn 41 [])) [([none], (.t 3)), ([none], (.c (.int .i64 1073741824)))] [], none⟩,
 ⟨some 5, .un .not (.t 4), none⟩,
 ⟨some 2, .mv (.t 5), none⟩] ⟨[2], [], []⟩) (
 .ret))

/- 41 -/

def v_quantity_Within : VFunc where
  nparams := 2
  results := [.t 4 [none]]
  body :=
 .seq (
 .region [] [] [
 ⟨some 4, .mv (.c (.bool false)), none⟩] ⟨[0, 1], [], []⟩) (
 .seq (
 .region [] [] [
 ⟨some 5, .mv (.t 0), none⟩,
 ⟨some 6, .bin .geq (.t 5) (.c (.int .i64 0)), none⟩,
 ⟨some 7, .mv (.t 6), none⟩,
 ⟨some 8, .mv (.t 0), some (7, true)⟩,
 ⟨some 9, .mv (.t 1), some (7, true)⟩,
 ⟨some 10, .bin .leq (.t 8) (.t 9), some (7, true)⟩,
 ⟨some 11, .pick (.t 7) (.t 10) (.c (.bool false)), none⟩,
 ⟨some 4, .mv (.t 11), none⟩] ⟨[4], [], []⟩) (
 .ret))

/- 42 -/

def v_dam_work_run : VFunc where
  nparams := 1
  results := []
  defs := [74, 75, 76]
  body :=
 .seq (
 .region [] [] [
 ⟨some 5, .mv (.t 0), none⟩,
 ⟨some 6, .mv (.t 0), none⟩,
 ⟨some 7, .nilchk (.t 6), none⟩,
 ⟨some 8, .faddr 9 (.t 7), none⟩,
 ⟨some 9, .faddr 0 (.t 8), none⟩,
 ⟨some 10, .load .glob none (.t 9), none⟩,
 ⟨some 11, .mv (.t 0), none⟩,
 ⟨some 12, .nilchk (.t 11), none⟩,
 ⟨some 13, .faddr 17 (.t 12), none⟩,
 ⟨some 14, .faddr 0 (.t 13), none⟩,
 ⟨some 15, .load .glob none (.t 14), none⟩,
 ⟨some 16, .bin .add (.t 10) (.t 15), none⟩,
 ⟨some 17, .nilchk (.t 5), none⟩,
 ⟨some 18, .faddr 25 (.t 17), none⟩,
 ⟨none, .store .glob [none] (.t 18) (.t 16), none⟩] ⟨[0], [], []⟩) (
 .seq (
 .region [] [] [
 ⟨some 19, .mv (.t 0), none⟩,
 ⟨some 20, .mv (.t 0), none⟩,
 ⟨some 21, .nilchk (.t 20), none⟩,
 ⟨some 22, .faddr 17 (.t 21), none⟩,
 ⟨some 23, .faddr 1 (.t 22), none⟩,
 ⟨some 24, .load .glob none (.t 23), none⟩,
 ⟨some 25, .mv (.t 0), none⟩,
 ⟨some 26, .nilchk (.t 25), none⟩,
 ⟨some 27, .faddr 25 (.t 26), none⟩,
 ⟨some 28, .load .glob none (.t 27), none⟩,
 ⟨some 29, .mm false (.t 24) (.t 28), none⟩,
 ⟨some 30, .nilchk (.t 19), none⟩,
 ⟨some 31, .faddr 17 (.t 30), none⟩,
 ⟨some 32, .faddr 1 (.t 31), none⟩,
 ⟨none, .store .glob [none] (.t 32) (.t 29), none⟩] ⟨[0], [], []⟩) (
 .region [] [] [
 ⟨some 33, .mv (.t 0), none⟩,
 ⟨some 34, .nilchk (.t 33), none⟩,
 ⟨some 35, .faddr 25 (.t 34), none⟩,
 ⟨some 36, .load .glob none (.t 35), none⟩,
 ⟨some 37, .mv (.t 0), none⟩,
 ⟨some 38, .nilchk (.t 37), none⟩,
 ⟨some 39, .faddr 17 (.t 38), none⟩,
 ⟨some 40, .faddr 1 (.t 39), none⟩,
 ⟨some 41, .load .glob none (.t 40), none⟩,
 ⟨some 42, .bin .sub (.t 36) (.t 41), none⟩,
 ⟨some 43, .nilchk (.t 33), none⟩,
 ⟨some 44, .faddr 25 (.t 43), none⟩,
 ⟨none, .store .glob [none] (.t 44) (.t 42), none⟩] ⟨[], [], []⟩))

/- 43 -/

def v_r01_In : VFunc where
  nparams := 2
  results := [.t 4 [none]]
  body :=
 .seq (
 .region [] [] [
 ⟨some 4, .mv (.c (.bool false)), none⟩] ⟨[0, 1], [], []⟩) (
 .seq (
 .region [] [] [
 ⟨some 5, .mv (.t 0), none⟩,
 ⟨some 6, .mv (.t 1), none⟩,
 ⟨some 7, .call true (.c (.fn 77 [])) [([none], (.t 5)), ([none], (.t 6))] [], none⟩,
 ⟨some 4, .mv (.t 7), none⟩] ⟨[4], [], []⟩) (
 .ret))

/- 46 -/
def v_storage_Check_b0 : VC :=
 .seq (
 .seq (
 .region [] [] [
 ⟨some 29, .mv (.t 5), none⟩,
 ⟨some 30, .mv (.t 4), none⟩,
 ⟨some 31, .bin .lss (.t 29) (.t 30), none⟩] ⟨[1, 4, 5, 31], [1], []⟩) (
 .cond (.t 31) (
 .skip) (
 .exit 1))) (
 .seq (
 .block 2 (
 .seq (
 .region [] [] [
 ⟨some 34, .faddr 0 (.t 1), none⟩,
 ⟨some 35, .load (.loc 1) none (.t 34), none⟩,
 ⟨some 36, .mv (.t 5), none⟩,
 ⟨some 37, .iaddr none 2 (.t 35) (.t 36), none⟩,
 ⟨some 38, .faddr 1 (.t 37), none⟩,
 ⟨some 39, .load .imm none (.t 38), none⟩,
 ⟨some 40, .faddr 0 (.t 1), none⟩,
 ⟨some 41, .load (.loc 1) none (.t 40), none⟩,
 ⟨some 42, .mv (.t 5), none⟩,
 ⟨some 43, .bin .sub (.t 42) (.c (.int .i64 1)), none⟩,
 ⟨some 44, .iaddr none 2 (.t 41) (.t 43), none⟩,
 ⟨some 45, .faddr 1 (.t 44), none⟩,
 ⟨some 46, .load .imm none (.t 45), none⟩,
 ⟨some 47, .bin .leq (.t 39) (.t 46), none⟩] ⟨[1, 4, 5, 47], [1], []⟩) (
 .cond (.t 47) (
 .seq (
 .region [] [] [
 ⟨some 2, .mv (.c (.int .i64 4)), none⟩] ⟨[2], [], []⟩) (
 .ret)) (
 .skip)))) (
 .region [] [] [
 ⟨some 32, .mv (.t 5), none⟩,
 ⟨some 33, .bin .add (.t 32) (.c (.int .i64 1)), none⟩,
 ⟨some 5, .mv (.t 33), none⟩] ⟨[1, 4, 5], [1], []⟩))

def v_storage_Check_l0 : VC := .loop [] ⟨[1, 4, 5], [1], []⟩ v_storage_Check_b0

abbrev v_storage_Check_s0 (x4 : Int) (x5 : Int) (o1 : List V) (G : List GObj) : St := ⟨[(1, .lptr 1 0), (4, .int .i64 x4), (5, .int .i64 x5)], [(1, o1)], [], G⟩

def v_storage_Check_b1 : VC :=
 .seq (
 .seq (
 .region [] [] [
 ⟨some 71, .mv (.t 7), none⟩,
 ⟨some 72, .bin .lss (.t 71) (.c (.int .i64 7)), none⟩] ⟨[6, 7, 72], [6], []⟩) (
 .cond (.t 72) (
 .skip) (
 .exit 3))) (
 .seq (
 .block 4 (
 .seq (
 .region [] [] [
 ⟨some 75, .mv (.t 7), none⟩,
 ⟨some 76, .iaddr (some 7) 1 (.t 6) (.t 75), none⟩,
 ⟨some 77, .load (.loc 6) none (.t 76), none⟩,
 ⟨some 78, .mv (.t 7), none⟩,
 ⟨some 79, .bin .sub (.t 78) (.c (.int .i64 1)), none⟩,
 ⟨some 80, .iaddr (some 7) 1 (.t 6) (.t 79), none⟩,
 ⟨some 81, .load (.loc 6) none (.t 80), none⟩,
 ⟨some 82, .bin .lss (.t 77) (.t 81), none⟩] ⟨[6, 7, 82], [6], []⟩) (
 .cond (.t 82) (
 .seq (
 .region [] [] [
 ⟨some 2, .mv (.c (.int .i64 4)), none⟩] ⟨[2], [], []⟩) (
 .ret)) (
 .skip)))) (
 .region [] [] [
 ⟨some 73, .mv (.t 7), none⟩,
 ⟨some 74, .bin .add (.t 73) (.c (.int .i64 1)), none⟩,
 ⟨some 7, .mv (.t 74), none⟩] ⟨[6, 7], [6], []⟩))

def v_storage_Check_l1 : VC := .loop [] ⟨[6, 7], [6], []⟩ v_storage_Check_b1

abbrev v_storage_Check_s1 (x7 : Int) (o6 : List V) (G : List GObj) : St := ⟨[(6, .lptr 6 0), (7, .int .i64 x7)], [(6, o6)], [], G⟩

def v_storage_Check : VFunc where
  nparams := 1
  results := [.t 2 [none]]
  body :=
 .seq (
 .region [] [1] [
 ⟨some 1, .box 1 (.t 0), none⟩,
 ⟨some 2, .mv (.c (.int .i64 0)), none⟩] ⟨[1], [1], []⟩) (
 .seq (
 .seq (
 .region [] [] [
 ⟨some 8, .faddr 0 (.t 1), none⟩,
 ⟨some 9, .load (.loc 1) none (.t 8), none⟩,
 ⟨some 10, .call true (.c (.fn 79 [])) [([some 2], (.t 9))] [], none⟩,
 ⟨some 3, .mv (.t 10), none⟩] ⟨[1, 3], [1], []⟩) (
 .seq (
 .region [] [] [
 ⟨some 11, .mv (.t 3), none⟩,
 ⟨some 12, .bin .neq (.t 11) (.c (.int .i64 0)), none⟩] ⟨[1, 3, 12], [1], []⟩) (
 .cond (.t 12) (
 .seq (
 .region [] [] [
 ⟨some 13, .mv (.t 3), none⟩,
 ⟨some 2, .mv (.t 13), none⟩] ⟨[2], [], []⟩) (
 .ret)) (
 .skip)))) (
 .seq (
 .region [] [] [
 ⟨some 14, .faddr 0 (.t 1), none⟩,
 ⟨some 15, .load (.loc 1) none (.t 14), none⟩,
 ⟨some 16, .len (.t 15), none⟩,
 ⟨some 4, .mv (.t 16), none⟩] ⟨[1, 4], [1], []⟩) (
 .seq (
 .block 0 (
 .seq (
 .region [] [] [
 ⟨some 18, .mv (.t 4), none⟩,
 ⟨some 19, .bin .lss (.t 18) (.c (.int .i64 2)), none⟩,
 ⟨some 17, .mv (.t 19), none⟩] ⟨[1, 4, 17], [1], []⟩) (
 .cond (.t 17) (
 .seq (
 .region [] [] [
 ⟨some 2, .mv (.c (.int .i64 3)), none⟩] ⟨[2], [], []⟩) (
 .ret)) (
 .seq (
 .region [] [] [
 ⟨some 21, .faddr 0 (.t 1), none⟩,
 ⟨some 22, .load (.loc 1) none (.t 21), none⟩,
 ⟨some 23, .mv (.t 4), none⟩,
 ⟨some 24, .bin .sub (.t 23) (.c (.int .i64 1)), none⟩,
 ⟨some 25, .iaddr none 2 (.t 22) (.t 24), none⟩,
 ⟨some 26, .faddr 0 (.t 25), none⟩,
 ⟨some 27, .load .imm none (.t 26), none⟩,
 ⟨some 28, .bin .gtr (.t 27) (.c (.int .i64 16777216)), none⟩,
 ⟨some 20, .mv (.t 28), none⟩] ⟨[1, 4, 20], [1], []⟩) (
 .cond (.t 20) (
 .seq (
 .region [] [] [
 ⟨some 2, .mv (.c (.int .i64 1)), none⟩] ⟨[2], [], []⟩) (
 .ret)) (
 .skip)))))) (
 .seq (
 .seq (
 .region [] [] [
 ⟨some 5, .mv (.c (.int .i64 1)), none⟩] ⟨[1, 4, 5], [1], []⟩) (
 .block 1 (
 v_storage_Check_l0))) (
 .seq (
 .region [] [6] [
 ⟨some 48, .faddr 0 (.t 1), none⟩,
 ⟨some 49, .load (.loc 1) none (.t 48), none⟩,
 ⟨some 50, .iaddr none 2 (.t 49) (.c (.int .i64 0)), none⟩,
 ⟨some 51, .faddr 0 (.t 50), none⟩,
 ⟨some 52, .load .imm none (.t 51), none⟩,
 ⟨some 53, .faddr 1 (.t 1), none⟩,
 ⟨some 54, .load (.loc 1) none (.t 53), none⟩,
 ⟨some 55, .faddr 2 (.t 1), none⟩,
 ⟨some 56, .load (.loc 1) none (.t 55), none⟩,
 ⟨some 57, .faddr 3 (.t 1), none⟩,
 ⟨some 58, .load (.loc 1) none (.t 57), none⟩,
 ⟨some 59, .faddr 4 (.t 1), none⟩,
 ⟨some 60, .load (.loc 1) none (.t 59), none⟩,
 ⟨some 61, .faddr 5 (.t 1), none⟩,
 ⟨some 62, .load (.loc 1) none (.t 61), none⟩,
 ⟨some 63, .faddr 0 (.t 1), none⟩,
 ⟨some 64, .load (.loc 1) none (.t 63), none⟩,
 ⟨some 65, .mv (.t 4), none⟩,
 ⟨some 66, .bin .sub (.t 65) (.c (.int .i64 1)), none⟩,
 ⟨some 67, .iaddr none 2 (.t 64) (.t 66), none⟩,
 ⟨some 68, .faddr 0 (.t 67), none⟩,
 ⟨some 69, .load .imm none (.t 68), none⟩,
 ⟨some 70, .build [.int .i64 0, .int .i64 0, .int .i64 0, .int .i64 0, .int .i64 0, .int .i64 0, .int .i64 0] [(0, 1, (.t 52)), (1, 1, (.t 54)), (2, 1, (.t 56)), (3, 1, (.t 58)), (4, 1, (.t 60)), (5, 1, (.t 62)), (6, 1, (.t 69))], none⟩,
 ⟨some 6, .obj 6 [.int .i64 0, .int .i64 0, .int .i64 0, .int .i64 0, .int .i64 0, .int .i64 0, .int .i64 0], none⟩,
 ⟨none, .store (.loc 6) [none, none, none, none, none, none, none] (.t 6) (.t 70), none⟩] ⟨[6], [6], []⟩) (
 .seq (
 .seq (
 .region [] [] [
 ⟨some 7, .mv (.c (.int .i64 1)), none⟩] ⟨[6, 7], [6], []⟩) (
 .block 3 (
 v_storage_Check_l1))) (
 .seq (
 .region [] [] [
 ⟨some 2, .mv (.c (.int .i64 0)), none⟩] ⟨[2], [], []⟩) (
 .ret))))))))

/- 47 -/
def v_unit_Check_b0 : VC :=
 .seq (
 .region [] [] [
 ⟨some 48, .bin .lss (.t 47) (.t 46), none⟩] ⟨[1, 45, 46, 47, 48], [1], []⟩) (
 .seq (
 .cond (.t 48) (
 .skip) (
 .exit 1)) (
 .seq (
 .block 2 (
 .seq (
 .region [] [5] [
 ⟨some 49, .iaddr none 2 (.t 45) (.t 47), none⟩,
 ⟨some 50, .load .imm (some 2) (.t 49), none⟩,
 ⟨some 5, .obj 5 [.int .i64 0, .int .i64 0], none⟩,
 ⟨none, .store (.loc 5) [none, none] (.t 5) (.t 50), none⟩] ⟨[1, 5, 45, 46, 47], [1, 5], []⟩) (
 .block 3 (
 .seq (
 .region [] [] [
 ⟨some 52, .faddr 0 (.t 5), none⟩,
 ⟨some 53, .load (.loc 5) none (.t 52), none⟩,
 ⟨some 54, .call true (.c (.fn 41 [])) [([none], (.t 53)), ([none], (.c (.int .i64 1073741824)))] [], none⟩,
 ⟨some 55, .un .not (.t 54), none⟩,
 ⟨some 56, .mv (.t 55), none⟩,
 ⟨some 57, .faddr 1 (.t 5), some (56, false)⟩,
 ⟨some 58, .load (.loc 5) none (.t 57), some (56, false)⟩,
 ⟨some 59, .call true (.c (.fn 41 [])) [([none], (.t 58)), ([none], (.c (.int .i64 1073741824)))] [], some (56, false)⟩,
 ⟨some 60, .un .not (.t 59), some (56, false)⟩,
 ⟨some 61, .pick (.t 56) (.c (.bool true)) (.t 60), none⟩,
 ⟨some 51, .mv (.t 61), none⟩] ⟨[1, 5, 45, 46, 47, 51], [1, 5], []⟩) (
 .cond (.t 51) (
 .seq (
 .region [] [] [
 ⟨some 2, .mv (.c (.int .i64 1)), none⟩] ⟨[2], [], []⟩) (
 .ret)) (
 .seq (
 .region [] [] [
 ⟨some 63, .faddr 0 (.t 5), none⟩,
 ⟨some 64, .load (.loc 5) none (.t 63), none⟩,
 ⟨some 65, .faddr 1 (.t 5), none⟩,
 ⟨some 66, .load (.loc 5) none (.t 65), none⟩,
 ⟨some 67, .bin .geq (.t 64) (.t 66), none⟩,
 ⟨some 62, .mv (.t 67), none⟩] ⟨[1, 45, 46, 47, 62], [1], []⟩) (
 .cond (.t 62) (
 .seq (
 .region [] [] [
 ⟨some 2, .mv (.c (.int .i64 4)), none⟩] ⟨[2], [], []⟩) (
 .ret)) (
 .skip)))))))) (
 .region [] [] [
 ⟨some 68, .bin .add (.t 47) (.c (.int .i64 1)), none⟩,
 ⟨some 47, .mv (.t 68), none⟩] ⟨[1, 45, 46, 47], [1], []⟩)))

def v_unit_Check_l0 : VC := .loop [] ⟨[1, 45, 46, 47], [1], []⟩ v_unit_Check_b0

abbrev v_unit_Check_s0 (x45 : V) (x46 : Int) (x47 : Int) (o1 : List V) (G : List GObj) : St := ⟨[(1, .lptr 1 0), (45, x45), (46, .int .i64 x46), (47, .int .i64 x47)], [(1, o1)], [], G⟩

def v_unit_Check : VFunc where
  nparams := 1
  results := [.t 2 [none]]
  body :=
 .seq (
 .region [] [1] [
 ⟨some 1, .box 1 (.t 0), none⟩,
 ⟨some 2, .mv (.c (.int .i64 0)), none⟩] ⟨[1], [1], []⟩) (
 .seq (
 .seq (
 .region [] [] [
 ⟨some 6, .faddr 0 (.t 1), none⟩,
 ⟨some 7, .load (.loc 1) none (.t 6), none⟩,
 ⟨some 8, .call true (.c (.fn 79 [])) [([some 2], (.t 7))] [], none⟩,
 ⟨some 3, .mv (.t 8), none⟩] ⟨[1, 3], [1], []⟩) (
 .seq (
 .region [] [] [
 ⟨some 9, .mv (.t 3), none⟩,
 ⟨some 10, .bin .neq (.t 9) (.c (.int .i64 0)), none⟩] ⟨[1, 3, 10], [1], []⟩) (
 .cond (.t 10) (
 .seq (
 .region [] [] [
 ⟨some 11, .mv (.t 3), none⟩,
 ⟨some 2, .mv (.t 11), none⟩] ⟨[2], [], []⟩) (
 .ret)) (
 .skip)))) (
 .seq (
 .block 0 (
 .seq (
 .region [] [] [
 ⟨some 13, .faddr 0 (.t 1), none⟩,
 ⟨some 14, .load (.loc 1) none (.t 13), none⟩,
 ⟨some 15, .faddr 0 (.t 1), none⟩,
 ⟨some 16, .load (.loc 1) none (.t 15), none⟩,
 ⟨some 17, .len (.t 16), none⟩,
 ⟨some 18, .bin .sub (.t 17) (.c (.int .i64 1)), none⟩,
 ⟨some 19, .iaddr none 2 (.t 14) (.t 18), none⟩,
 ⟨some 20, .faddr 1 (.t 19), none⟩,
 ⟨some 21, .load .imm none (.t 20), none⟩,
 ⟨some 22, .bin .gtr (.t 21) (.c (.int .i64 1073741824)), none⟩,
 ⟨some 12, .mv (.t 22), none⟩] ⟨[1, 12], [1], []⟩) (
 .cond (.t 12) (
 .seq (
 .region [] [] [
 ⟨some 2, .mv (.c (.int .i64 1)), none⟩] ⟨[2], [], []⟩) (
 .ret)) (
 .seq (
 .region [] [] [
 ⟨some 24, .faddr 1 (.t 1), none⟩,
 ⟨some 25, .load (.loc 1) none (.t 24), none⟩,
 ⟨some 26, .bin .lss (.t 25) (.c (.int .i64 1)), none⟩,
 ⟨some 27, .mv (.t 26), none⟩,
 ⟨some 28, .faddr 1 (.t 1), some (27, false)⟩,
 ⟨some 29, .load (.loc 1) none (.t 28), some (27, false)⟩,
 ⟨some 30, .faddr 2 (.t 1), some (27, false)⟩,
 ⟨some 31, .load (.loc 1) none (.t 30), some (27, false)⟩,
 ⟨some 32, .bin .gtr (.t 29) (.t 31), some (27, false)⟩,
 ⟨some 33, .pick (.t 27) (.c (.bool true)) (.t 32), none⟩,
 ⟨some 34, .mv (.t 33), none⟩,
 ⟨some 35, .faddr 2 (.t 1), some (34, false)⟩,
 ⟨some 36, .load (.loc 1) none (.t 35), some (34, false)⟩,
 ⟨some 37, .bin .gtr (.t 36) (.c (.int .i64 1073741824)), some (34, false)⟩,
 ⟨some 38, .pick (.t 34) (.c (.bool true)) (.t 37), none⟩,
 ⟨some 23, .mv (.t 38), none⟩] ⟨[1, 23], [1], []⟩) (
 .cond (.t 23) (
 .seq (
 .region [] [] [
 ⟨some 2, .mv (.c (.int .i64 1)), none⟩] ⟨[2], [], []⟩) (
 .ret)) (
 .seq (
 .region [] [] [
 ⟨some 40, .faddr 3 (.t 1), none⟩,
 ⟨some 41, .load (.loc 1) none (.t 40), none⟩,
 ⟨some 42, .len (.t 41), none⟩,
 ⟨some 43, .bin .gtr (.t 42) (.c (.int .i64 10)), none⟩,
 ⟨some 39, .mv (.t 43), none⟩] ⟨[1, 39], [1], []⟩) (
 .cond (.t 39) (
 .seq (
 .region [] [] [
 ⟨some 2, .mv (.c (.int .i64 10)), none⟩] ⟨[2], [], []⟩) (
 .ret)) (
 .skip)))))))) (
 .seq (
 .seq (
 .region [] [] [
 ⟨some 44, .faddr 3 (.t 1), none⟩,
 ⟨some 45, .load (.loc 1) none (.t 44), none⟩,
 ⟨some 46, .len (.t 45), none⟩,
 ⟨some 47, .mv (.c (.int .i64 0)), none⟩] ⟨[1, 45, 46, 47], [1], []⟩) (
 .block 1 (
 v_unit_Check_l0))) (
 .seq (
 .seq (
 .region [] [] [
 ⟨some 69, .faddr 4 (.t 1), none⟩,
 ⟨some 70, .load (.loc 1) none (.t 69), none⟩,
 ⟨some 71, .call true (.c (.fn 41 [])) [([none], (.t 70)), ([none], (.c (.int .i64 1000)))] [], none⟩,
 ⟨some 72, .un .not (.t 71), none⟩,
 ⟨some 73, .mv (.t 72), none⟩,
 ⟨some 74, .faddr 5 (.t 1), some (73, false)⟩,
 ⟨some 75, .load (.loc 1) none (.t 74), some (73, false)⟩,
 ⟨some 76, .call true (.c (.fn 41 [])) [([none], (.t 75)), ([none], (.c (.int .i64 1000)))] [], some (73, false)⟩,
 ⟨some 77, .un .not (.t 76), some (73, false)⟩,
 ⟨some 78, .pick (.t 73) (.c (.bool true)) (.t 77), none⟩] ⟨[78], [], []⟩) (
 .cond (.t 78) (
 .seq (
 .region [] [] [
 ⟨some 2, .mv (.c (.int .i64 1)), none⟩] ⟨[2], [], []⟩) (
 .ret)) (
 .skip))) (
 .seq (
 .region [] [] [
 ⟨some 2, .mv (.c (.int .i64 0)), none⟩] ⟨[2], [], []⟩) (
 .ret))))))

/- 48 -/
def v_gate_Check_b0 : VC :=
 .seq (
 .region [] [] [
 ⟨some 20, .bin .lss (.t 19) (.t 18), none⟩] ⟨[1, 17, 18, 19, 20], [1], []⟩) (
 .seq (
 .cond (.t 20) (
 .skip) (
 .exit 1)) (
 .seq (
 .block 2 (
 .seq (
 .region [] [4] [
 ⟨some 21, .mv (.t 19), none⟩,
 ⟨some 22, .iaddr none 2 (.t 17) (.t 19), none⟩,
 ⟨some 23, .load .imm (some 2) (.t 22), none⟩,
 ⟨some 4, .obj 4 [.int .i64 0, .nils], none⟩,
 ⟨some 3, .mv (.t 21), none⟩,
 ⟨none, .store (.loc 4) [none, some 2] (.t 4) (.t 23), none⟩] ⟨[1, 3, 4, 17, 18, 19], [1, 4], []⟩) (
 .seq (
 .block 3 (
 .seq (
 .region [] [] [
 ⟨some 25, .faddr 0 (.t 4), none⟩,
 ⟨some 26, .load (.loc 4) none (.t 25), none⟩,
 ⟨some 27, .call true (.c (.fn 41 [])) [([none], (.t 26)), ([none], (.c (.int .i64 16777216)))] [], none⟩,
 ⟨some 28, .un .not (.t 27), none⟩,
 ⟨some 24, .mv (.t 28), none⟩] ⟨[1, 3, 4, 17, 18, 19, 24], [1, 4], []⟩) (
 .cond (.t 24) (
 .seq (
 .region [] [] [
 ⟨some 2, .mv (.c (.int .i64 1)), none⟩] ⟨[2], [], []⟩) (
 .ret)) (
 .seq (
 .region [] [] [
 ⟨some 30, .mv (.t 3), none⟩,
 ⟨some 31, .bin .gtr (.t 30) (.c (.int .i64 0)), none⟩,
 ⟨some 32, .mv (.t 31), none⟩,
 ⟨some 33, .faddr 0 (.t 4), some (32, true)⟩,
 ⟨some 34, .load (.loc 4) none (.t 33), some (32, true)⟩,
 ⟨some 35, .faddr 0 (.t 1), some (32, true)⟩,
 ⟨some 36, .load (.loc 1) none (.t 35), some (32, true)⟩,
 ⟨some 37, .mv (.t 3), some (32, true)⟩,
 ⟨some 38, .bin .sub (.t 37) (.c (.int .i64 1)), some (32, true)⟩,
 ⟨some 39, .iaddr none 2 (.t 36) (.t 38), some (32, true)⟩,
 ⟨some 40, .faddr 0 (.t 39), some (32, true)⟩,
 ⟨some 41, .load .imm none (.t 40), some (32, true)⟩,
 ⟨some 42, .bin .leq (.t 34) (.t 41), some (32, true)⟩,
 ⟨some 43, .pick (.t 32) (.t 42) (.c (.bool false)), none⟩,
 ⟨some 29, .mv (.t 43), none⟩] ⟨[1, 4, 17, 18, 19, 29], [1, 4], []⟩) (
 .cond (.t 29) (
 .seq (
 .region [] [] [
 ⟨some 2, .mv (.c (.int .i64 4)), none⟩] ⟨[2], [], []⟩) (
 .ret)) (
 .skip)))))) (
 .seq (
 .seq (
 .region [] [] [
 ⟨some 44, .faddr 1 (.t 4), none⟩,
 ⟨some 45, .load (.loc 4) none (.t 44), none⟩,
 ⟨some 46, .call true (.c (.fn 79 [])) [([some 2], (.t 45))] [], none⟩,
 ⟨some 5, .mv (.t 46), none⟩] ⟨[1, 4, 5, 17, 18, 19], [1, 4], []⟩) (
 .seq (
 .region [] [] [
 ⟨some 47, .mv (.t 5), none⟩,
 ⟨some 48, .bin .neq (.t 47) (.c (.int .i64 0)), none⟩] ⟨[1, 4, 5, 17, 18, 19, 48], [1, 4], []⟩) (
 .cond (.t 48) (
 .seq (
 .region [] [] [
 ⟨some 49, .mv (.t 5), none⟩,
 ⟨some 2, .mv (.t 49), none⟩] ⟨[2], [], []⟩) (
 .ret)) (
 .skip)))) (
 .block 4 (
 .seq (
 .region [] [] [
 ⟨some 51, .faddr 1 (.t 4), none⟩,
 ⟨some 52, .load (.loc 4) none (.t 51), none⟩,
 ⟨some 53, .iaddr none 2 (.t 52) (.c (.int .i64 0)), none⟩,
 ⟨some 54, .load .imm (some 2) (.t 53), none⟩,
 ⟨some 55, .build [.int .i64 0, .int .i64 0] [], none⟩,
 ⟨some 56, .aeq true [0, 0] (.t 54) (.t 55), none⟩,
 ⟨some 50, .mv (.t 56), none⟩] ⟨[1, 4, 17, 18, 19, 50], [1, 4], []⟩) (
 .cond (.t 50) (
 .seq (
 .region [] [] [
 ⟨some 2, .mv (.c (.int .i64 3)), none⟩] ⟨[2], [], []⟩) (
 .ret)) (
 .seq (
 .region [] [] [
 ⟨some 58, .faddr 1 (.t 4), none⟩,
 ⟨some 59, .load (.loc 4) none (.t 58), none⟩,
 ⟨some 60, .faddr 1 (.t 4), none⟩,
 ⟨some 61, .load (.loc 4) none (.t 60), none⟩,
 ⟨some 62, .len (.t 61), none⟩,
 ⟨some 63, .bin .sub (.t 62) (.c (.int .i64 1)), none⟩,
 ⟨some 64, .iaddr none 2 (.t 59) (.t 63), none⟩,
 ⟨some 65, .faddr 1 (.t 64), none⟩,
 ⟨some 66, .load .imm none (.t 65), none⟩,
 ⟨some 67, .bin .gtr (.t 66) (.c (.int .i64 1073741824)), none⟩,
 ⟨some 57, .mv (.t 67), none⟩] ⟨[1, 17, 18, 19, 57], [1], []⟩) (
 .cond (.t 57) (
 .seq (
 .region [] [] [
 ⟨some 2, .mv (.c (.int .i64 1)), none⟩] ⟨[2], [], []⟩) (
 .ret)) (
 .skip)))))))))) (
 .region [] [] [
 ⟨some 68, .bin .add (.t 19) (.c (.int .i64 1)), none⟩,
 ⟨some 19, .mv (.t 68), none⟩] ⟨[1, 17, 18, 19], [1], []⟩)))

def v_gate_Check_l0 : VC := .loop [] ⟨[1, 17, 18, 19], [1], []⟩ v_gate_Check_b0

abbrev v_gate_Check_s0 (x17 : V) (x18 : Int) (x19 : Int) (o1 : List V) (G : List GObj) : St := ⟨[(1, .lptr 1 0), (17, x17), (18, .int .i64 x18), (19, .int .i64 x19)], [(1, o1)], [], G⟩

def v_gate_Check : VFunc where
  nparams := 1
  results := [.t 2 [none]]
  body :=
 .seq (
 .region [] [1] [
 ⟨some 1, .box 1 (.t 0), none⟩,
 ⟨some 2, .mv (.c (.int .i64 0)), none⟩] ⟨[1], [1], []⟩) (
 .seq (
 .block 0 (
 .seq (
 .region [] [] [
 ⟨some 7, .faddr 0 (.t 1), none⟩,
 ⟨some 8, .load (.loc 1) none (.t 7), none⟩,
 ⟨some 9, .len (.t 8), none⟩,
 ⟨some 10, .bin .eql (.t 9) (.c (.int .i64 0)), none⟩,
 ⟨some 6, .mv (.t 10), none⟩] ⟨[1, 6], [1], []⟩) (
 .cond (.t 6) (
 .seq (
 .region [] [] [
 ⟨some 2, .mv (.c (.int .i64 3)), none⟩] ⟨[2], [], []⟩) (
 .ret)) (
 .seq (
 .region [] [] [
 ⟨some 12, .faddr 0 (.t 1), none⟩,
 ⟨some 13, .load (.loc 1) none (.t 12), none⟩,
 ⟨some 14, .len (.t 13), none⟩,
 ⟨some 15, .bin .gtr (.t 14) (.c (.int .i64 10)), none⟩,
 ⟨some 11, .mv (.t 15), none⟩] ⟨[1, 11], [1], []⟩) (
 .cond (.t 11) (
 .seq (
 .region [] [] [
 ⟨some 2, .mv (.c (.int .i64 10)), none⟩] ⟨[2], [], []⟩) (
 .ret)) (
 .skip)))))) (
 .seq (
 .seq (
 .region [] [] [
 ⟨some 16, .faddr 0 (.t 1), none⟩,
 ⟨some 17, .load (.loc 1) none (.t 16), none⟩,
 ⟨some 18, .len (.t 17), none⟩,
 ⟨some 19, .mv (.c (.int .i64 0)), none⟩] ⟨[1, 17, 18, 19], [1], []⟩) (
 .block 1 (
 v_gate_Check_l0))) (
 .seq (
 .seq (
 .region [] [] [
 ⟨some 69, .faddr 1 (.t 1), none⟩,
 ⟨some 70, .load (.loc 1) none (.t 69), none⟩,
 ⟨some 71, .call true (.c (.fn 41 [])) [([none], (.t 70)), ([none], (.c (.int .i64 1000)))] [], none⟩,
 ⟨some 72, .un .not (.t 71), none⟩,
 ⟨some 73, .mv (.t 72), none⟩,
 ⟨some 74, .faddr 2 (.t 1), some (73, false)⟩,
 ⟨some 75, .load (.loc 1) none (.t 74), some (73, false)⟩,
 ⟨some 76, .call true (.c (.fn 41 [])) [([none], (.t 75)), ([none], (.c (.int .i64 1000)))] [], some (73, false)⟩,
 ⟨some 77, .un .not (.t 76), some (73, false)⟩,
 ⟨some 78, .pick (.t 73) (.c (.bool true)) (.t 77), none⟩] ⟨[78], [], []⟩) (
 .cond (.t 78) (
 .seq (
 .region [] [] [
 ⟨some 2, .mv (.c (.int .i64 1)), none⟩] ⟨[2], [], []⟩) (
 .ret)) (
 .skip))) (
 .seq (
 .region [] [] [
 ⟨some 2, .mv (.c (.int .i64 0)), none⟩] ⟨[2], [], []⟩) (
 .ret)))))

/- 49 -/
def v_r03_Check_b0 : VC :=
 .seq (
 .region [] [] [
 ⟨some 25, .bin .lss (.t 24) (.t 23), none⟩] ⟨[1, 4, 22, 23, 24, 25], [1], []⟩) (
 .seq (
 .cond (.t 25) (
 .skip) (
 .exit 0)) (
 .seq (
 .block 1 (
 .seq (
 .region [] [6] [
 ⟨some 26, .iaddr none 2 (.t 22) (.t 24), none⟩,
 ⟨some 27, .load .imm (some 2) (.t 26), none⟩,
 ⟨some 6, .obj 6 [.int .i64 0, .int .i64 0], none⟩,
 ⟨none, .store (.loc 6) [none, none] (.t 6) (.t 27), none⟩] ⟨[1, 4, 6, 22, 23, 24], [1, 6], []⟩) (
 .seq (
 .region [] [] [
 ⟨some 28, .faddr 0 (.t 6), none⟩,
 ⟨some 29, .load (.loc 6) none (.t 28), none⟩,
 ⟨some 30, .bin .gtr (.t 29) (.c (.int .i64 16777216)), none⟩] ⟨[1, 4, 22, 23, 24, 30], [1], []⟩) (
 .cond (.t 30) (
 .seq (
 .region [] [] [
 ⟨some 2, .mv (.c (.int .i64 1)), none⟩] ⟨[2], [], []⟩) (
 .ret)) (
 .skip))))) (
 .region [] [] [
 ⟨some 31, .bin .add (.t 24) (.c (.int .i64 1)), none⟩,
 ⟨some 24, .mv (.t 31), none⟩] ⟨[1, 4, 22, 23, 24], [1], []⟩)))

def v_r03_Check_l0 : VC := .loop [] ⟨[1, 4, 22, 23, 24], [1], []⟩ v_r03_Check_b0

abbrev v_r03_Check_s0 (x4 : Int) (x22 : V) (x23 : Int) (x24 : Int) (o1 : List V) (G : List GObj) : St := ⟨[(1, .lptr 1 0), (4, .int .i64 x4), (22, x22), (23, .int .i64 x23), (24, .int .i64 x24)], [(1, o1)], [], G⟩

def v_r03_Check_b1 : VC :=
 .seq (
 .seq (
 .region [] [] [
 ⟨some 32, .mv (.t 7), none⟩,
 ⟨some 33, .mv (.t 4), none⟩,
 ⟨some 34, .bin .lss (.t 32) (.t 33), none⟩] ⟨[1, 4, 7, 34], [1], []⟩) (
 .cond (.t 34) (
 .skip) (
 .exit 2))) (
 .seq (
 .block 3 (
 .seq (
 .region [] [] [
 ⟨some 37, .faddr 0 (.t 1), none⟩,
 ⟨some 38, .load (.loc 1) none (.t 37), none⟩,
 ⟨some 39, .mv (.t 7), none⟩,
 ⟨some 40, .iaddr none 2 (.t 38) (.t 39), none⟩,
 ⟨some 41, .faddr 1 (.t 40), none⟩,
 ⟨some 42, .load .imm none (.t 41), none⟩,
 ⟨some 43, .faddr 0 (.t 1), none⟩,
 ⟨some 44, .load (.loc 1) none (.t 43), none⟩,
 ⟨some 45, .mv (.t 7), none⟩,
 ⟨some 46, .bin .sub (.t 45) (.c (.int .i64 1)), none⟩,
 ⟨some 47, .iaddr none 2 (.t 44) (.t 46), none⟩,
 ⟨some 48, .faddr 1 (.t 47), none⟩,
 ⟨some 49, .load .imm none (.t 48), none⟩,
 ⟨some 50, .bin .leq (.t 42) (.t 49), none⟩] ⟨[1, 4, 7, 50], [1], []⟩) (
 .cond (.t 50) (
 .seq (
 .region [] [] [
 ⟨some 2, .mv (.c (.int .i64 4)), none⟩] ⟨[2], [], []⟩) (
 .ret)) (
 .skip)))) (
 .region [] [] [
 ⟨some 35, .mv (.t 7), none⟩,
 ⟨some 36, .bin .add (.t 35) (.c (.int .i64 1)), none⟩,
 ⟨some 7, .mv (.t 36), none⟩] ⟨[1, 4, 7], [1], []⟩))

def v_r03_Check_l1 : VC := .loop [] ⟨[1, 4, 7], [1], []⟩ v_r03_Check_b1

abbrev v_r03_Check_s1 (x4 : Int) (x7 : Int) (o1 : List V) (G : List GObj) : St := ⟨[(1, .lptr 1 0), (4, .int .i64 x4), (7, .int .i64 x7)], [(1, o1)], [], G⟩

def v_r03_Check_b2 : VC :=
 .seq (
 .seq (
 .region [] [] [
 ⟨some 74, .mv (.t 9), none⟩,
 ⟨some 75, .mv (.t 8), none⟩,
 ⟨some 76, .len (.t 75), none⟩,
 ⟨some 77, .bin .lss (.t 74) (.t 76), none⟩] ⟨[8, 9, 77], [], []⟩) (
 .cond (.t 77) (
 .skip) (
 .exit 4))) (
 .seq (
 .block 5 (
 .seq (
 .region [] [] [
 ⟨some 80, .mv (.t 8), none⟩,
 ⟨some 81, .mv (.t 9), none⟩,
 ⟨some 82, .iaddr none 1 (.t 80) (.t 81), none⟩,
 ⟨some 83, .load .imm none (.t 82), none⟩,
 ⟨some 84, .mv (.t 8), none⟩,
 ⟨some 85, .mv (.t 9), none⟩,
 ⟨some 86, .bin .sub (.t 85) (.c (.int .i64 1)), none⟩,
 ⟨some 87, .iaddr none 1 (.t 84) (.t 86), none⟩,
 ⟨some 88, .load .imm none (.t 87), none⟩,
 ⟨some 89, .bin .lss (.t 83) (.t 88), none⟩] ⟨[8, 9, 89], [], []⟩) (
 .cond (.t 89) (
 .seq (
 .region [] [] [
 ⟨some 2, .mv (.c (.int .i64 4)), none⟩] ⟨[2], [], []⟩) (
 .ret)) (
 .skip)))) (
 .region [] [] [
 ⟨some 78, .mv (.t 9), none⟩,
 ⟨some 79, .bin .add (.t 78) (.c (.int .i64 1)), none⟩,
 ⟨some 9, .mv (.t 79), none⟩] ⟨[8, 9], [], []⟩))

def v_r03_Check_l2 : VC := .loop [] ⟨[8, 9], [], []⟩ v_r03_Check_b2

abbrev v_r03_Check_s2 (x8 : V) (x9 : Int) (G : List GObj) : St := ⟨[(8, x8), (9, .int .i64 x9)], [], [], G⟩

def v_r03_Check : VFunc where
  nparams := 1
  results := [.t 2 [none]]
  body :=
 .seq (
 .region [] [1] [
 ⟨some 1, .box 1 (.t 0), none⟩,
 ⟨some 2, .mv (.c (.int .i64 0)), none⟩] ⟨[1], [1], []⟩) (
 .seq (
 .seq (
 .region [] [] [
 ⟨some 10, .faddr 0 (.t 1), none⟩,
 ⟨some 11, .load (.loc 1) none (.t 10), none⟩,
 ⟨some 12, .call true (.c (.fn 71 [])) [([some 2], (.t 11))] [], none⟩,
 ⟨some 3, .mv (.t 12), none⟩] ⟨[1, 3], [1], []⟩) (
 .seq (
 .region [] [] [
 ⟨some 13, .mv (.t 3), none⟩,
 ⟨some 14, .bin .neq (.t 13) (.c (.int .i64 0)), none⟩] ⟨[1, 3, 14], [1], []⟩) (
 .cond (.t 14) (
 .seq (
 .region [] [] [
 ⟨some 15, .mv (.t 3), none⟩,
 ⟨some 2, .mv (.t 15), none⟩] ⟨[2], [], []⟩) (
 .ret)) (
 .skip)))) (
 .seq (
 .region [] [] [
 ⟨some 16, .faddr 0 (.t 1), none⟩,
 ⟨some 17, .load (.loc 1) none (.t 16), none⟩,
 ⟨some 18, .len (.t 17), none⟩,
 ⟨some 4, .mv (.t 18), none⟩] ⟨[1, 4], [1], []⟩) (
 .seq (
 .seq (
 .region [] [] [
 ⟨some 19, .mv (.t 4), none⟩,
 ⟨some 20, .bin .lss (.t 19) (.c (.int .i64 2)), none⟩] ⟨[1, 4, 20], [1], []⟩) (
 .cond (.t 20) (
 .seq (
 .region [] [] [
 ⟨some 2, .mv (.c (.int .i64 3)), none⟩] ⟨[2], [], []⟩) (
 .ret)) (
 .skip))) (
 .seq (
 .seq (
 .region [] [] [
 ⟨some 21, .faddr 0 (.t 1), none⟩,
 ⟨some 22, .load (.loc 1) none (.t 21), none⟩,
 ⟨some 23, .len (.t 22), none⟩,
 ⟨some 24, .mv (.c (.int .i64 0)), none⟩] ⟨[1, 4, 22, 23, 24], [1], []⟩) (
 .block 0 (
 v_r03_Check_l0))) (
 .seq (
 .seq (
 .region [] [] [
 ⟨some 7, .mv (.c (.int .i64 1)), none⟩] ⟨[1, 4, 7], [1], []⟩) (
 .block 2 (
 v_r03_Check_l1))) (
 .seq (
 .region [] [] [
 ⟨some 51, .faddr 0 (.t 1), none⟩,
 ⟨some 52, .load (.loc 1) none (.t 51), none⟩,
 ⟨some 53, .iaddr none 2 (.t 52) (.c (.int .i64 0)), none⟩,
 ⟨some 54, .faddr 0 (.t 53), none⟩,
 ⟨some 55, .load .imm none (.t 54), none⟩,
 ⟨some 56, .faddr 1 (.t 1), none⟩,
 ⟨some 57, .load (.loc 1) none (.t 56), none⟩,
 ⟨some 58, .faddr 2 (.t 1), none⟩,
 ⟨some 59, .load (.loc 1) none (.t 58), none⟩,
 ⟨some 60, .faddr 3 (.t 1), none⟩,
 ⟨some 61, .load (.loc 1) none (.t 60), none⟩,
 ⟨some 62, .faddr 4 (.t 1), none⟩,
 ⟨some 63, .load (.loc 1) none (.t 62), none⟩,
 ⟨some 64, .faddr 5 (.t 1), none⟩,
 ⟨some 65, .load (.loc 1) none (.t 64), none⟩,
 ⟨some 66, .faddr 0 (.t 1), none⟩,
 ⟨some 67, .load (.loc 1) none (.t 66), none⟩,
 ⟨some 68, .mv (.t 4), none⟩,
 ⟨some 69, .bin .sub (.t 68) (.c (.int .i64 1)), none⟩,
 ⟨some 70, .iaddr none 2 (.t 67) (.t 69), none⟩,
 ⟨some 71, .faddr 0 (.t 70), none⟩,
 ⟨some 72, .load .imm none (.t 71), none⟩,
 ⟨some 73, .lit none [none] [.int .i64 0] 7 [(0, (.t 55)), (1, (.t 57)), (2, (.t 59)), (3, (.t 61)), (4, (.t 63)), (5, (.t 65)), (6, (.t 72))], none⟩,
 ⟨some 8, .mv (.t 73), none⟩] ⟨[8], [], []⟩) (
 .seq (
 .seq (
 .region [] [] [
 ⟨some 9, .mv (.c (.int .i64 1)), none⟩] ⟨[8, 9], [], []⟩) (
 .block 4 (
 v_r03_Check_l2))) (
 .seq (
 .region [] [] [
 ⟨some 2, .mv (.c (.int .i64 0)), none⟩] ⟨[2], [], []⟩) (
 .ret)))))))))

/- 50 -/
def v_r18_Check_b0 : VC :=
 .seq (
 .region [] [] [
 ⟨some 47, .bin .lss (.t 46) (.t 45), none⟩] ⟨[1, 44, 45, 46, 47], [1], []⟩) (
 .seq (
 .cond (.t 47) (
 .skip) (
 .exit 0)) (
 .seq (
 .block 1 (
 .seq (
 .region [] [5] [
 ⟨some 48, .iaddr none 2 (.t 44) (.t 46), none⟩,
 ⟨some 49, .load .imm (some 2) (.t 48), none⟩,
 ⟨some 5, .obj 5 [.int .i64 0, .int .i64 0], none⟩,
 ⟨none, .store (.loc 5) [none, none] (.t 5) (.t 49), none⟩] ⟨[1, 5, 44, 45, 46], [1, 5], []⟩) (
 .seq (
 .seq (
 .region [] [] [
 ⟨some 50, .faddr 0 (.t 5), none⟩,
 ⟨some 51, .load (.loc 5) none (.t 50), none⟩,
 ⟨some 52, .call true (.c (.fn 43 [])) [([none], (.t 51)), ([none], (.c (.int .i64 1073741824)))] [], none⟩,
 ⟨some 53, .un .not (.t 52), none⟩,
 ⟨some 54, .mv (.t 53), none⟩,
 ⟨some 55, .faddr 1 (.t 5), some (54, false)⟩,
 ⟨some 56, .load (.loc 5) none (.t 55), some (54, false)⟩,
 ⟨some 57, .call true (.c (.fn 43 [])) [([none], (.t 56)), ([none], (.c (.int .i64 1073741824)))] [], some (54, false)⟩,
 ⟨some 58, .un .not (.t 57), some (54, false)⟩,
 ⟨some 59, .pick (.t 54) (.c (.bool true)) (.t 58), none⟩] ⟨[1, 5, 44, 45, 46, 59], [1, 5], []⟩) (
 .cond (.t 59) (
 .seq (
 .region [] [] [
 ⟨some 2, .mv (.c (.int .i64 1)), none⟩] ⟨[2], [], []⟩) (
 .ret)) (
 .skip))) (
 .seq (
 .region [] [] [
 ⟨some 60, .faddr 0 (.t 5), none⟩,
 ⟨some 61, .load (.loc 5) none (.t 60), none⟩,
 ⟨some 62, .faddr 1 (.t 5), none⟩,
 ⟨some 63, .load (.loc 5) none (.t 62), none⟩,
 ⟨some 64, .bin .geq (.t 61) (.t 63), none⟩] ⟨[1, 44, 45, 46, 64], [1], []⟩) (
 .cond (.t 64) (
 .seq (
 .region [] [] [
 ⟨some 2, .mv (.c (.int .i64 4)), none⟩] ⟨[2], [], []⟩) (
 .ret)) (
 .skip)))))) (
 .region [] [] [
 ⟨some 65, .bin .add (.t 46) (.c (.int .i64 1)), none⟩,
 ⟨some 46, .mv (.t 65), none⟩] ⟨[1, 44, 45, 46], [1], []⟩)))

def v_r18_Check_l0 : VC := .loop [] ⟨[1, 44, 45, 46], [1], []⟩ v_r18_Check_b0

abbrev v_r18_Check_s0 (x44 : V) (x45 : Int) (x46 : Int) (o1 : List V) (G : List GObj) : St := ⟨[(1, .lptr 1 0), (44, x44), (45, .int .i64 x45), (46, .int .i64 x46)], [(1, o1)], [], G⟩

def v_r18_Check : VFunc where
  nparams := 1
  results := [.t 2 [none]]
  body :=
 .seq (
 .region [] [1] [
 ⟨some 1, .box 1 (.t 0), none⟩,
 ⟨some 2, .mv (.c (.int .i64 0)), none⟩] ⟨[1], [1], []⟩) (
 .seq (
 .seq (
 .region [] [] [
 ⟨some 6, .faddr 0 (.t 1), none⟩,
 ⟨some 7, .load (.loc 1) none (.t 6), none⟩,
 ⟨some 8, .call true (.c (.fn 71 [])) [([some 2], (.t 7))] [], none⟩,
 ⟨some 3, .mv (.t 8), none⟩] ⟨[1, 3], [1], []⟩) (
 .seq (
 .region [] [] [
 ⟨some 9, .mv (.t 3), none⟩,
 ⟨some 10, .bin .neq (.t 9) (.c (.int .i64 0)), none⟩] ⟨[1, 3, 10], [1], []⟩) (
 .cond (.t 10) (
 .seq (
 .region [] [] [
 ⟨some 11, .mv (.t 3), none⟩,
 ⟨some 2, .mv (.t 11), none⟩] ⟨[2], [], []⟩) (
 .ret)) (
 .skip)))) (
 .seq (
 .seq (
 .region [] [] [
 ⟨some 12, .faddr 0 (.t 1), none⟩,
 ⟨some 13, .load (.loc 1) none (.t 12), none⟩,
 ⟨some 14, .faddr 0 (.t 1), none⟩,
 ⟨some 15, .load (.loc 1) none (.t 14), none⟩,
 ⟨some 16, .len (.t 15), none⟩,
 ⟨some 17, .bin .sub (.t 16) (.c (.int .i64 1)), none⟩,
 ⟨some 18, .iaddr none 2 (.t 13) (.t 17), none⟩,
 ⟨some 19, .faddr 1 (.t 18), none⟩,
 ⟨some 20, .load .imm none (.t 19), none⟩,
 ⟨some 21, .bin .gtr (.t 20) (.c (.int .i64 1073741824)), none⟩,
 ⟨some 22, .mv (.t 21), none⟩,
 ⟨some 23, .faddr 1 (.t 1), some (22, false)⟩,
 ⟨some 24, .load (.loc 1) none (.t 23), some (22, false)⟩,
 ⟨some 25, .bin .lss (.t 24) (.c (.int .i64 1)), some (22, false)⟩,
 ⟨some 26, .pick (.t 22) (.c (.bool true)) (.t 25), none⟩,
 ⟨some 27, .mv (.t 26), none⟩,
 ⟨some 28, .faddr 1 (.t 1), some (27, false)⟩,
 ⟨some 29, .load (.loc 1) none (.t 28), some (27, false)⟩,
 ⟨some 30, .faddr 2 (.t 1), some (27, false)⟩,
 ⟨some 31, .load (.loc 1) none (.t 30), some (27, false)⟩,
 ⟨some 32, .bin .gtr (.t 29) (.t 31), some (27, false)⟩,
 ⟨some 33, .pick (.t 27) (.c (.bool true)) (.t 32), none⟩,
 ⟨some 34, .mv (.t 33), none⟩,
 ⟨some 35, .faddr 2 (.t 1), some (34, false)⟩,
 ⟨some 36, .load (.loc 1) none (.t 35), some (34, false)⟩,
 ⟨some 37, .bin .gtr (.t 36) (.c (.int .i64 1073741824)), some (34, false)⟩,
 ⟨some 38, .pick (.t 34) (.c (.bool true)) (.t 37), none⟩] ⟨[1, 38], [1], []⟩) (
 .cond (.t 38) (
 .seq (
 .region [] [] [
 ⟨some 2, .mv (.c (.int .i64 1)), none⟩] ⟨[2], [], []⟩) (
 .ret)) (
 .skip))) (
 .seq (
 .seq (
 .region [] [] [
 ⟨some 39, .faddr 3 (.t 1), none⟩,
 ⟨some 40, .load (.loc 1) none (.t 39), none⟩,
 ⟨some 41, .len (.t 40), none⟩,
 ⟨some 42, .bin .gtr (.t 41) (.c (.int .i64 10)), none⟩] ⟨[1, 42], [1], []⟩) (
 .cond (.t 42) (
 .seq (
 .region [] [] [
 ⟨some 2, .mv (.c (.int .i64 10)), none⟩] ⟨[2], [], []⟩) (
 .ret)) (
 .skip))) (
 .seq (
 .seq (
 .region [] [] [
 ⟨some 43, .faddr 3 (.t 1), none⟩,
 ⟨some 44, .load (.loc 1) none (.t 43), none⟩,
 ⟨some 45, .len (.t 44), none⟩,
 ⟨some 46, .mv (.c (.int .i64 0)), none⟩] ⟨[1, 44, 45, 46], [1], []⟩) (
 .block 0 (
 v_r18_Check_l0))) (
 .seq (
 .seq (
 .region [] [] [
 ⟨some 66, .faddr 4 (.t 1), none⟩,
 ⟨some 67, .load (.loc 1) none (.t 66), none⟩,
 ⟨some 68, .call true (.c (.fn 43 [])) [([none], (.t 67)), ([none], (.c (.int .i64 1000)))] [], none⟩,
 ⟨some 69, .un .not (.t 68), none⟩,
 ⟨some 70, .mv (.t 69), none⟩,
 ⟨some 71, .faddr 5 (.t 1), some (70, false)⟩,
 ⟨some 72, .load (.loc 1) none (.t 71), some (70, false)⟩,
 ⟨some 73, .call true (.c (.fn 43 [])) [([none], (.t 72)), ([none], (.c (.int .i64 1000)))] [], some (70, false)⟩,
 ⟨some 74, .un .not (.t 73), some (70, false)⟩,
 ⟨some 75, .pick (.t 70) (.c (.bool true)) (.t 74), none⟩] ⟨[75], [], []⟩) (
 .cond (.t 75) (
 .seq (
 .region [] [] [
 ⟨some 2, .mv (.c (.int .i64 1)), none⟩] ⟨[2], [], []⟩) (
 .ret)) (
 .skip))) (
 .seq (
 .region [] [] [
 ⟨some 2, .mv (.c (.int .i64 0)), none⟩] ⟨[2], [], []⟩) (
 .ret)))))))

/- 53 -/

def v_dam_asked : VFunc where
  nparams := 2
  results := [.t 4 [none]]
  body :=
 .seq (
 .region [] [2, 3] [
 ⟨some 2, .box 2 (.t 0), none⟩,
 ⟨some 3, .box 3 (.t 1), none⟩,
 ⟨some 4, .mv (.c (.int .i64 0)), none⟩] ⟨[2, 3], [2, 3], []⟩) (
 .seq (
 .seq (
 .region [] [] [
 ⟨some 6, .load (.loc 2) (some 9) (.t 2), none⟩,
 ⟨some 7, .call true (.c (.fn 16 [])) [([some 2, none, none, none, none, none, some 6, some 3, none], (.t 6))] [], none⟩,
 ⟨some 5, .mv (.t 7), none⟩] ⟨[2, 3, 5], [2, 3], []⟩) (
 .seq (
 .region [] [] [
 ⟨some 8, .mv (.t 5), none⟩,
 ⟨some 9, .bin .neq (.t 8) (.c (.int .i64 0)), none⟩] ⟨[2, 3, 5, 9], [2, 3], []⟩) (
 .cond (.t 9) (
 .seq (
 .region [] [] [
 ⟨some 10, .mv (.t 5), none⟩,
 ⟨some 4, .mv (.t 10), none⟩] ⟨[4], [], []⟩) (
 .ret)) (
 .skip)))) (
 .seq (
 .seq (
 .region [] [] [
 ⟨some 11, .load (.loc 2) (some 9) (.t 2), none⟩,
 ⟨some 12, .load (.loc 3) (some 4) (.t 3), none⟩,
 ⟨some 13, .call true (.c (.fn 61 [])) [([some 2, none, none, none, none, none, some 6, some 3, none], (.t 11)), ([none, none, some 3, some 2], (.t 12))] [], none⟩,
 ⟨some 14, .un .not (.t 13), none⟩] ⟨[14], [], []⟩) (
 .cond (.t 14) (
 .seq (
 .region [] [] [
 ⟨some 4, .mv (.c (.int .i64 3)), none⟩] ⟨[4], [], []⟩) (
 .ret)) (
 .skip))) (
 .seq (
 .region [] [] [
 ⟨some 4, .mv (.c (.int .i64 0)), none⟩] ⟨[4], [], []⟩) (
 .ret))))

/- 54 -/

def v_storage_Height : VFunc where
  nparams := 2
  results := [.t 4 [none]]
  body :=
 .seq (
 .region [] [2] [
 ⟨some 2, .box 2 (.t 0), none⟩,
 ⟨some 4, .mv (.c (.int .i64 0)), none⟩] ⟨[1, 2], [2], []⟩) (
 .seq (
 .region [] [] [
 ⟨some 9, .faddr 0 (.t 2), none⟩,
 ⟨some 10, .load (.loc 2) none (.t 9), none⟩,
 ⟨some 11, .mv (.t 1), none⟩,
 ⟨some 12, .call true (.c (.fn 81 [])) [([some 2], (.t 10)), ([none], (.t 11))] [], none⟩,
 ⟨some 8, .mv (.t 12), none⟩,
 ⟨some 13, .ext (.t 8) 0, none⟩,
 ⟨some 14, .ext (.t 8) 1, none⟩,
 ⟨some 15, .ext (.t 8) 2, none⟩,
 ⟨some 5, .mv (.t 13), none⟩,
 ⟨some 6, .mv (.t 14), none⟩,
 ⟨some 7, .mv (.t 15), none⟩] ⟨[2, 5, 6], [2], []⟩) (
 .seq (
 .seq (
 .region [] [] [
 ⟨some 16, .mv (.t 6), none⟩,
 ⟨some 17, .un .not (.t 16), none⟩] ⟨[2, 5, 17], [2], []⟩) (
 .cond (.t 17) (
 .seq (
 .region [] [] [
 ⟨some 18, .faddr 0 (.t 2), none⟩,
 ⟨some 19, .load (.loc 2) none (.t 18), none⟩,
 ⟨some 20, .iaddr none 2 (.t 19) (.c (.int .i64 0)), none⟩,
 ⟨some 21, .faddr 0 (.t 20), none⟩,
 ⟨some 22, .load .imm none (.t 21), none⟩,
 ⟨some 4, .mv (.t 22), none⟩] ⟨[4], [], []⟩) (
 .ret)) (
 .skip))) (
 .seq (
 .region [] [] [
 ⟨some 23, .mv (.t 5), none⟩,
 ⟨some 4, .mv (.t 23), none⟩] ⟨[4], [], []⟩) (
 .ret))))

/- 58 -/
def v_gate_Range_b0 : VC :=
 .seq (
 .region [] [] [
 ⟨some 25, .bin .lss (.t 24) (.t 23), none⟩] ⟨[1, 2, 6, 9, 22, 23, 24, 25], [6, 9], []⟩) (
 .seq (
 .cond (.t 25) (
 .skip) (
 .exit 0)) (
 .seq (
 .block 1 (
 .seq (
 .region [] [11] [
 ⟨some 26, .mv (.t 24), none⟩,
 ⟨some 27, .iaddr none 3 (.t 22) (.t 24), none⟩,
 ⟨some 28, .load .imm (some 3) (.t 27), none⟩,
 ⟨some 11, .obj 11 [.nils, .int .i64 0, .int .i64 0], none⟩,
 ⟨some 10, .mv (.t 26), none⟩,
 ⟨none, .store (.loc 11) [some 2, none, none] (.t 11) (.t 28), none⟩] ⟨[1, 2, 6, 9, 10, 11, 22, 23, 24], [6, 9, 11], []⟩) (
 .seq (
 .region [] [12, 13] [
 ⟨some 29, .load (.loc 11) (some 3) (.t 11), none⟩,
 ⟨some 30, .mv (.t 2), none⟩,
 ⟨some 31, .call true (.c (.fn 85 [])) [([some 2, none, none], (.t 29)), ([none], (.t 30))] [], none⟩,
 ⟨some 32, .load (.loc 11) (some 3) (.t 11), none⟩,
 ⟨some 33, .mv (.t 1), none⟩,
 ⟨some 34, .mv (.t 10), none⟩,
 ⟨some 35, .iaddr none 2 (.t 33) (.t 34), none⟩,
 ⟨some 36, .load .imm (some 2) (.t 35), none⟩,
 ⟨some 37, .call true (.c (.fn 86 [])) [([some 2, none, none], (.t 32)), ([none, none], (.t 36))] [], none⟩,
 ⟨some 12, .obj 12 [.nils, .int .i64 0], none⟩,
 ⟨some 13, .obj 13 [.int .i64 0, .int .i64 0], none⟩,
 ⟨none, .store (.loc 12) [some 2, none] (.t 12) (.t 31), none⟩,
 ⟨none, .store (.loc 13) [none, none] (.t 13) (.t 37), none⟩] ⟨[1, 2, 6, 9, 12, 13, 22, 23, 24], [6, 9, 12, 13], []⟩) (
 .region [] [] [
 ⟨some 38, .faddr 0 (.t 9), none⟩,
 ⟨some 39, .load (.loc 9) none (.t 38), none⟩,
 ⟨some 40, .load (.loc 12) (some 2) (.t 12), none⟩,
 ⟨some 41, .faddr 0 (.t 13), none⟩,
 ⟨some 42, .load (.loc 13) none (.t 41), none⟩,
 ⟨some 43, .call true (.c (.fn 87 [])) [([some 2, none], (.t 40)), ([none], (.t 42))] [], none⟩,
 ⟨some 44, .bin .add (.t 39) (.t 43), none⟩,
 ⟨some 45, .faddr 1 (.t 9), none⟩,
 ⟨some 46, .load (.loc 9) none (.t 45), none⟩,
 ⟨some 47, .load (.loc 12) (some 2) (.t 12), none⟩,
 ⟨some 48, .faddr 1 (.t 13), none⟩,
 ⟨some 49, .load (.loc 13) none (.t 48), none⟩,
 ⟨some 50, .call true (.c (.fn 87 [])) [([some 2, none], (.t 47)), ([none], (.t 49))] [], none⟩,
 ⟨some 51, .bin .add (.t 46) (.t 50), none⟩,
 ⟨some 52, .faddr 0 (.t 9), none⟩,
 ⟨none, .store (.loc 9) [none] (.t 52) (.t 44), none⟩,
 ⟨some 53, .faddr 1 (.t 9), none⟩,
 ⟨none, .store (.loc 9) [none] (.t 53) (.t 51), none⟩] ⟨[1, 2, 6, 9, 22, 23, 24], [6, 9], []⟩)))) (
 .region [] [] [
 ⟨some 54, .bin .add (.t 24) (.c (.int .i64 1)), none⟩,
 ⟨some 24, .mv (.t 54), none⟩] ⟨[1, 2, 6, 9, 22, 23, 24], [6, 9], []⟩)))

def v_gate_Range_l0 : VC := .loop [] ⟨[1, 2, 6, 9, 22, 23, 24], [6, 9], []⟩ v_gate_Range_b0

abbrev v_gate_Range_s0 (x1 : V) (x2 : Int) (x22 : V) (x23 : Int) (x24 : Int) (o6 : List V) (o9 : List V) (G : List GObj) : St := ⟨[(1, x1), (2, .int .i64 x2), (6, .lptr 6 0), (9, .lptr 9 0), (22, x22), (23, .int .i64 x23), (24, .int .i64 x24)], [(6, o6), (9, o9)], [], G⟩

def v_gate_Range : VFunc where
  nparams := 3
  results := [.c 6 true [none, none], .t 7 [none]]
  body :=
 .seq (
 .region [] [6] [
 ⟨some 6, .obj 6 [.int .i64 0, .int .i64 0], none⟩,
 ⟨some 7, .mv (.c (.int .i64 0)), none⟩] ⟨[0, 1, 2, 6], [6], []⟩) (
 .seq (
 .seq (
 .region [] [] [
 ⟨some 14, .mv (.t 0), none⟩,
 ⟨some 15, .mv (.t 1), none⟩,
 ⟨some 16, .mv (.t 2), none⟩,
 ⟨some 17, .call true (.c (.fn 84 [])) [([some 3], (.t 14)), ([some 2], (.t 15)), ([none], (.t 16))] [], none⟩,
 ⟨some 8, .mv (.t 17), none⟩] ⟨[0, 1, 2, 6, 8], [6], []⟩) (
 .seq (
 .region [] [] [
 ⟨some 18, .mv (.t 8), none⟩,
 ⟨some 19, .bin .neq (.t 18) (.c (.int .i64 0)), none⟩] ⟨[0, 1, 2, 6, 8, 19], [6], []⟩) (
 .cond (.t 19) (
 .seq (
 .region [] [] [
 ⟨some 20, .build [.int .i64 0, .int .i64 0] [], none⟩,
 ⟨some 21, .mv (.t 8), none⟩,
 ⟨none, .store (.loc 6) [none, none] (.t 6) (.t 20), none⟩,
 ⟨some 7, .mv (.t 21), none⟩] ⟨[6, 7], [6], []⟩) (
 .ret)) (
 .skip)))) (
 .seq (
 .region [] [9] [
 ⟨some 9, .obj 9 [.int .i64 0, .int .i64 0], none⟩] ⟨[0, 1, 2, 6, 9], [6, 9], []⟩) (
 .seq (
 .seq (
 .region [] [] [
 ⟨some 22, .mv (.t 0), none⟩,
 ⟨some 23, .len (.t 22), none⟩,
 ⟨some 24, .mv (.c (.int .i64 0)), none⟩] ⟨[1, 2, 6, 9, 22, 23, 24], [6, 9], []⟩) (
 .block 0 (
 v_gate_Range_l0))) (
 .seq (
 .region [] [] [
 ⟨some 55, .load (.loc 9) (some 2) (.t 9), none⟩,
 ⟨none, .store (.loc 6) [none, none] (.t 6) (.t 55), none⟩,
 ⟨some 7, .mv (.c (.int .i64 0)), none⟩] ⟨[6, 7], [6], []⟩) (
 .ret)))))

/- 61 -/
def v_dam_fits_b0 : VC :=
 .seq (
 .region [] [] [
 ⟨some 43, .bin .lss (.t 42) (.t 41), none⟩] ⟨[2, 3, 40, 41, 42, 43], [2, 3], []⟩) (
 .seq (
 .cond (.t 43) (
 .skip) (
 .exit 0)) (
 .seq (
 .block 1 (
 .seq (
 .region [] [6] [
 ⟨some 44, .mv (.t 42), none⟩,
 ⟨some 45, .iaddr none 6 (.t 40) (.t 42), none⟩,
 ⟨some 46, .load .imm (some 6) (.t 45), none⟩,
 ⟨some 6, .obj 6 [.nils, .int .i64 0, .int .i64 0, .nils, .int .i64 0, .int .i64 0], none⟩,
 ⟨some 5, .mv (.t 44), none⟩,
 ⟨none, .store (.loc 6) [some 2, none, none, some 2, none, none] (.t 6) (.t 46), none⟩] ⟨[2, 3, 5, 6, 40, 41, 42], [2, 3, 6], []⟩) (
 .seq (
 .region [] [] [
 ⟨some 47, .load (.loc 6) (some 6) (.t 6), none⟩,
 ⟨some 48, .faddr 2 (.t 3), none⟩,
 ⟨some 49, .load (.loc 3) none (.t 48), none⟩,
 ⟨some 50, .mv (.t 5), none⟩,
 ⟨some 51, .iaddr none 3 (.t 49) (.t 50), none⟩,
 ⟨some 52, .load .imm (some 3) (.t 51), none⟩,
 ⟨some 53, .call true (.c (.fn 93 [])) [([some 2, none, none, some 2, none, none], (.t 47)), ([none, none, none], (.t 52))] [], none⟩,
 ⟨some 54, .un .not (.t 53), none⟩] ⟨[2, 3, 40, 41, 42, 54], [2, 3], []⟩) (
 .cond (.t 54) (
 .seq (
 .region [] [] [
 ⟨some 4, .mv (.c (.bool false)), none⟩] ⟨[4], [], []⟩) (
 .ret)) (
 .skip))))) (
 .region [] [] [
 ⟨some 55, .bin .add (.t 42) (.c (.int .i64 1)), none⟩,
 ⟨some 42, .mv (.t 55), none⟩] ⟨[2, 3, 40, 41, 42], [2, 3], []⟩)))

def v_dam_fits_l0 : VC := .loop [] ⟨[2, 3, 40, 41, 42], [2, 3], []⟩ v_dam_fits_b0

abbrev v_dam_fits_s0 (x40 : V) (x41 : Int) (x42 : Int) (o2 : List V) (o3 : List V) (G : List GObj) : St := ⟨[(2, .lptr 2 0), (3, .lptr 3 0), (40, x40), (41, .int .i64 x41), (42, .int .i64 x42)], [(2, o2), (3, o3)], [], G⟩

def v_dam_fits_b1 : VC :=
 .seq (
 .region [] [] [
 ⟨some 60, .bin .lss (.t 59) (.t 58), none⟩] ⟨[3, 57, 58, 59, 60], [3], []⟩) (
 .seq (
 .cond (.t 60) (
 .skip) (
 .exit 2)) (
 .seq (
 .block 3 (
 .seq (
 .region [] [8] [
 ⟨some 61, .mv (.t 59), none⟩,
 ⟨some 62, .iaddr none 3 (.t 57) (.t 59), none⟩,
 ⟨some 63, .load .imm (some 3) (.t 62), none⟩,
 ⟨some 8, .obj 8 [.nils, .int .i64 0, .int .i64 0], none⟩,
 ⟨some 7, .mv (.t 61), none⟩,
 ⟨none, .store (.loc 8) [some 2, none, none] (.t 8) (.t 63), none⟩] ⟨[3, 7, 8, 57, 58, 59], [3, 8], []⟩) (
 .seq (
 .region [] [] [
 ⟨some 64, .faddr 3 (.t 3), none⟩,
 ⟨some 65, .load (.loc 3) none (.t 64), none⟩,
 ⟨some 66, .mv (.t 7), none⟩,
 ⟨some 67, .iaddr none 2 (.t 65) (.t 66), none⟩,
 ⟨some 68, .faddr 0 (.t 67), none⟩,
 ⟨some 69, .load .imm none (.t 68), none⟩,
 ⟨some 70, .faddr 1 (.t 8), none⟩,
 ⟨some 71, .load (.loc 8) none (.t 70), none⟩,
 ⟨some 72, .call true (.c (.fn 41 [])) [([none], (.t 69)), ([none], (.t 71))] [], none⟩,
 ⟨some 73, .un .not (.t 72), none⟩] ⟨[3, 57, 58, 59, 73], [3], []⟩) (
 .cond (.t 73) (
 .seq (
 .region [] [] [
 ⟨some 4, .mv (.c (.bool false)), none⟩] ⟨[4], [], []⟩) (
 .ret)) (
 .skip))))) (
 .region [] [] [
 ⟨some 74, .bin .add (.t 59) (.c (.int .i64 1)), none⟩,
 ⟨some 59, .mv (.t 74), none⟩] ⟨[3, 57, 58, 59], [3], []⟩)))

def v_dam_fits_l1 : VC := .loop [] ⟨[3, 57, 58, 59], [3], []⟩ v_dam_fits_b1

abbrev v_dam_fits_s1 (x57 : V) (x58 : Int) (x59 : Int) (o3 : List V) (G : List GObj) : St := ⟨[(3, .lptr 3 0), (57, x57), (58, .int .i64 x58), (59, .int .i64 x59)], [(3, o3)], [], G⟩

def v_dam_fits : VFunc where
  nparams := 2
  results := [.t 4 [none]]
  body :=
 .seq (
 .region [] [2, 3] [
 ⟨some 2, .box 2 (.t 0), none⟩,
 ⟨some 3, .box 3 (.t 1), none⟩,
 ⟨some 4, .mv (.c (.bool false)), none⟩] ⟨[2, 3], [2, 3], []⟩) (
 .seq (
 .seq (
 .region [] [] [
 ⟨some 9, .faddr 0 (.t 3), none⟩,
 ⟨some 10, .load (.loc 3) none (.t 9), none⟩,
 ⟨some 11, .load (.loc 2) (some 9) (.t 2), none⟩,
 ⟨some 12, .call true (.c (.fn 92 [])) [([some 2, none, none, none, none, none, some 6, some 3, none], (.t 11))] [], none⟩,
 ⟨some 13, .call true (.c (.fn 41 [])) [([none], (.t 10)), ([none], (.t 12))] [], none⟩,
 ⟨some 14, .un .not (.t 13), none⟩,
 ⟨some 15, .mv (.t 14), none⟩,
 ⟨some 16, .faddr 1 (.t 3), some (15, false)⟩,
 ⟨some 17, .load (.loc 3) none (.t 16), some (15, false)⟩,
 ⟨some 18, .call true (.c (.fn 41 [])) [([none], (.t 17)), ([none], (.c (.int .i64 1073741824)))] [], some (15, false)⟩,
 ⟨some 19, .un .not (.t 18), some (15, false)⟩,
 ⟨some 20, .pick (.t 15) (.c (.bool true)) (.t 19), none⟩,
 ⟨some 21, .mv (.t 20), none⟩,
 ⟨some 22, .faddr 2 (.t 3), some (21, false)⟩,
 ⟨some 23, .load (.loc 3) none (.t 22), some (21, false)⟩,
 ⟨some 24, .len (.t 23), some (21, false)⟩,
 ⟨some 25, .faddr 6 (.t 2), some (21, false)⟩,
 ⟨some 26, .load (.loc 2) none (.t 25), some (21, false)⟩,
 ⟨some 27, .len (.t 26), some (21, false)⟩,
 ⟨some 28, .bin .neq (.t 24) (.t 27), some (21, false)⟩,
 ⟨some 29, .pick (.t 21) (.c (.bool true)) (.t 28), none⟩,
 ⟨some 30, .mv (.t 29), none⟩,
 ⟨some 31, .faddr 3 (.t 3), some (30, false)⟩,
 ⟨some 32, .load (.loc 3) none (.t 31), some (30, false)⟩,
 ⟨some 33, .len (.t 32), some (30, false)⟩,
 ⟨some 34, .faddr 7 (.t 2), some (30, false)⟩,
 ⟨some 35, .load (.loc 2) none (.t 34), some (30, false)⟩,
 ⟨some 36, .len (.t 35), some (30, false)⟩,
 ⟨some 37, .bin .neq (.t 33) (.t 36), some (30, false)⟩,
 ⟨some 38, .pick (.t 30) (.c (.bool true)) (.t 37), none⟩] ⟨[2, 3, 38], [2, 3], []⟩) (
 .cond (.t 38) (
 .seq (
 .region [] [] [
 ⟨some 4, .mv (.c (.bool false)), none⟩] ⟨[4], [], []⟩) (
 .ret)) (
 .skip))) (
 .seq (
 .seq (
 .region [] [] [
 ⟨some 39, .faddr 6 (.t 2), none⟩,
 ⟨some 40, .load (.loc 2) none (.t 39), none⟩,
 ⟨some 41, .len (.t 40), none⟩,
 ⟨some 42, .mv (.c (.int .i64 0)), none⟩] ⟨[2, 3, 40, 41, 42], [2, 3], []⟩) (
 .block 0 (
 v_dam_fits_l0))) (
 .seq (
 .seq (
 .region [] [] [
 ⟨some 56, .faddr 7 (.t 2), none⟩,
 ⟨some 57, .load (.loc 2) none (.t 56), none⟩,
 ⟨some 58, .len (.t 57), none⟩,
 ⟨some 59, .mv (.c (.int .i64 0)), none⟩] ⟨[3, 57, 58, 59], [3], []⟩) (
 .block 2 (
 v_dam_fits_l1))) (
 .seq (
 .region [] [] [
 ⟨some 4, .mv (.c (.bool true)), none⟩] ⟨[4], [], []⟩) (
 .ret)))))

/- 64 -/
def v_r20_Same_b0 : VC :=
 .seq (
 .region [] [] [
 ⟨some 14, .bin .lss (.t 13) (.t 12), none⟩] ⟨[0, 1, 12, 13, 14], [], []⟩) (
 .seq (
 .cond (.t 14) (
 .skip) (
 .exit 0)) (
 .seq (
 .block 1 (
 .seq (
 .region [] [] [
 ⟨some 15, .mv (.t 13), none⟩,
 ⟨some 5, .mv (.t 15), none⟩] ⟨[0, 1, 5, 12, 13], [], []⟩) (
 .seq (
 .region [] [] [
 ⟨some 16, .mv (.t 0), none⟩,
 ⟨some 17, .mv (.t 5), none⟩,
 ⟨some 18, .iaddr none 2 (.t 16) (.t 17), none⟩,
 ⟨some 19, .load .imm (some 2) (.t 18), none⟩,
 ⟨some 20, .mv (.t 1), none⟩,
 ⟨some 21, .mv (.t 5), none⟩,
 ⟨some 22, .iaddr none 2 (.t 20) (.t 21), none⟩,
 ⟨some 23, .load .imm (some 2) (.t 22), none⟩,
 ⟨some 24, .aeq true [0, 1] (.t 19) (.t 23), none⟩] ⟨[0, 1, 12, 13, 24], [], []⟩) (
 .cond (.t 24) (
 .seq (
 .region [] [] [
 ⟨some 4, .mv (.c (.bool false)), none⟩] ⟨[4], [], []⟩) (
 .ret)) (
 .skip))))) (
 .region [] [] [
 ⟨some 25, .bin .add (.t 13) (.c (.int .i64 1)), none⟩,
 ⟨some 13, .mv (.t 25), none⟩] ⟨[0, 1, 12, 13], [], []⟩)))

def v_r20_Same_l0 : VC := .loop [] ⟨[0, 1, 12, 13], [], []⟩ v_r20_Same_b0

abbrev v_r20_Same_s0 (x0 : V) (x1 : V) (x12 : Int) (x13 : Int) (G : List GObj) : St := ⟨[(0, x0), (1, x1), (12, .int .i64 x12), (13, .int .i64 x13)], [], [], G⟩

def v_r20_Same : VFunc where
  nparams := 2
  results := [.t 4 [none]]
  body :=
 .seq (
 .region [] [] [
 ⟨some 4, .mv (.c (.bool false)), none⟩] ⟨[0, 1], [], []⟩) (
 .seq (
 .seq (
 .region [] [] [
 ⟨some 6, .mv (.t 0), none⟩,
 ⟨some 7, .len (.t 6), none⟩,
 ⟨some 8, .mv (.t 1), none⟩,
 ⟨some 9, .len (.t 8), none⟩,
 ⟨some 10, .bin .neq (.t 7) (.t 9), none⟩] ⟨[0, 1, 10], [], []⟩) (
 .cond (.t 10) (
 .seq (
 .region [] [] [
 ⟨some 4, .mv (.c (.bool false)), none⟩] ⟨[4], [], []⟩) (
 .ret)) (
 .skip))) (
 .seq (
 .seq (
 .region [] [] [
 ⟨some 11, .mv (.t 0), none⟩,
 ⟨some 12, .len (.t 11), none⟩,
 ⟨some 13, .mv (.c (.int .i64 0)), none⟩] ⟨[0, 1, 12, 13], [], []⟩) (
 .block 0 (
 v_r20_Same_l0))) (
 .seq (
 .region [] [] [
 ⟨some 4, .mv (.c (.bool true)), none⟩] ⟨[4], [], []⟩) (
 .ret))))

/- 65 -/

def v_slices_Clone_api_UnitState_api_UnitState : VFunc where
  nparams := 1
  results := [.t 2 [some 3]]
  split := some 0
  body :=
 .seq (
 .region [] [] [
 ⟨some 2, .mv (.c (.nils)), none⟩] ⟨[0], [], []⟩) (
 .seq (
 .seq (
 .region [] [] [
 ⟨some 3, .mv (.t 0), none⟩,
 ⟨some 4, .isnil false (.t 3), none⟩] ⟨[0, 4], [], []⟩) (
 .cond (.t 4) (
 .seq (
 .region [] [] [
 ⟨some 2, .mv (.c (.nils)), none⟩] ⟨[2], [], [1007]⟩) (
 .ret)) (
 .skip))) (
 .seq (
 .region [] [1007] [
 ⟨some 5, .zlit 3, none⟩,
 ⟨some 6, .mv (.t 0), none⟩,
 ⟨some 7, .app 1007 none [none, none, none] (.t 5) (.t 6), none⟩,
 ⟨some 2, .mv (.t 7), none⟩] ⟨[2], [], [1007]⟩) (
 .ret)))

/- 66 -/

def v_slices_Clone_api_GateState_api_GateState : VFunc where
  nparams := 1
  results := [.t 2 [some 2]]
  split := some 0
  body :=
 .seq (
 .region [] [] [
 ⟨some 2, .mv (.c (.nils)), none⟩] ⟨[0], [], []⟩) (
 .seq (
 .seq (
 .region [] [] [
 ⟨some 3, .mv (.t 0), none⟩,
 ⟨some 4, .isnil false (.t 3), none⟩] ⟨[0, 4], [], []⟩) (
 .cond (.t 4) (
 .seq (
 .region [] [] [
 ⟨some 2, .mv (.c (.nils)), none⟩] ⟨[2], [], [1007]⟩) (
 .ret)) (
 .skip))) (
 .seq (
 .region [] [1007] [
 ⟨some 5, .zlit 2, none⟩,
 ⟨some 6, .mv (.t 0), none⟩,
 ⟨some 7, .app 1007 none [none, none] (.t 5) (.t 6), none⟩,
 ⟨some 2, .mv (.t 7), none⟩] ⟨[2], [], [1007]⟩) (
 .ret)))

/- 67 -/
def v_mk_Curve_b0 : VC :=
 .seq (
 .seq (
 .region [] [] [
 ⟨some 24, .mv (.t 15), none⟩,
 ⟨some 25, .bin .gtr (.t 24) (.c (.int .i64 0)), none⟩] ⟨[0, 1, 2, 3, 4, 13, 14, 15, 25], [], [1020]⟩) (
 .cond (.t 25) (
 .skip) (
 .exit 0))) (
 .seq (
 .block 1 (
 .seq (
 .region [] [] [
 ⟨some 28, .mv (.t 1), none⟩,
 ⟨some 29, .bin .add (.t 28) (.c (.int .i64 1)), none⟩,
 ⟨some 30, .mv (.t 0), none⟩,
 ⟨some 31, .mv (.t 3), none⟩,
 ⟨some 32, .call false (.c (.fn 10 [])) [([none], (.t 30)), ([none], (.t 31))] [], none⟩,
 ⟨some 33, .bin .add (.t 29) (.t 32), none⟩,
 ⟨some 34, .mv (.t 2), none⟩,
 ⟨some 35, .mv (.t 13), none⟩,
 ⟨some 36, .bin .add (.t 34) (.t 35), none⟩,
 ⟨some 37, .mv (.t 0), none⟩,
 ⟨some 38, .mv (.t 4), none⟩,
 ⟨some 39, .call false (.c (.fn 10 [])) [([none], (.t 37)), ([none], (.t 38))] [], none⟩,
 ⟨some 40, .bin .add (.t 36) (.t 39), none⟩,
 ⟨some 1, .mv (.t 33), none⟩,
 ⟨some 2, .mv (.t 40), none⟩] ⟨[0, 1, 2, 3, 4, 13, 14, 15], [], [1020]⟩) (
 .region [.norm 14 1020 2] [5046] [
 ⟨some 41, .mv (.t 14), none⟩,
 ⟨some 42, .mv (.t 1), none⟩,
 ⟨some 43, .mv (.t 2), none⟩,
 ⟨some 44, .build [.int .i64 0, .int .i64 0] [(0, 1, (.t 42)), (1, 1, (.t 43))], none⟩,
 ⟨some 45, .lit none [none, none] [.int .i64 0, .int .i64 0] 1 [(0, (.t 44))], none⟩,
 ⟨some 46, .app 5046 (some 1020) [none, none] (.t 41) (.t 45), none⟩,
 ⟨some 14, .mv (.t 46), none⟩] ⟨[0, 1, 2, 3, 4, 13, 14, 15], [], [1020]⟩))) (
 .region [] [] [
 ⟨some 26, .mv (.t 15), none⟩,
 ⟨some 27, .bin .sub (.t 26) (.c (.int .i64 1)), none⟩,
 ⟨some 15, .mv (.t 27), none⟩] ⟨[0, 1, 2, 3, 4, 13, 14, 15], [], [1020]⟩))

def v_mk_Curve_l0 : VC := .loop [.norm 14 1020 2] ⟨[0, 1, 2, 3, 4, 13, 14, 15], [], [1020]⟩ v_mk_Curve_b0

abbrev v_mk_Curve_s0 (x0 : V) (x1 : Int) (x2 : Int) (x3 : Int) (x4 : Int) (x13 : Int) (x14 : V) (x15 : Int) (k1020 : Nat) (G : List GObj) : St := ⟨[(0, x0), (1, .int .i64 x1), (2, .int .i64 x2), (3, .int .i64 x3), (4, .int .i64 x4), (13, .int .i64 x13), (14, x14), (15, .int .i64 x15)], [], [(1020, k1020)], G⟩

def v_mk_Curve : VFunc where
  nparams := 6
  results := [.t 12 [some 2]]
  body :=
 .seq (
 .region [] [] [
 ⟨some 12, .mv (.c (.nils)), none⟩] ⟨[0, 1, 2, 3, 4, 5], [], []⟩) (
 .seq (
 .region [] [] [
 ⟨some 13, .mv (.c (.int .i64 0)), none⟩] ⟨[0, 1, 2, 3, 4, 5, 13], [], []⟩) (
 .seq (
 .seq (
 .region [] [] [
 ⟨some 16, .mv (.t 5), none⟩] ⟨[0, 1, 2, 3, 4, 13, 16], [], []⟩) (
 .cond (.t 16) (
 .region [] [] [
 ⟨some 13, .mv (.c (.int .i64 1)), none⟩] ⟨[0, 1, 2, 3, 4, 13], [], []⟩) (
 .skip))) (
 .seq (
 .region [] [1020] [
 ⟨some 17, .mv (.t 1), none⟩,
 ⟨some 18, .mv (.t 2), none⟩,
 ⟨some 19, .build [.int .i64 0, .int .i64 0] [(0, 1, (.t 17)), (1, 1, (.t 18))], none⟩,
 ⟨some 20, .lit (some 1020) [none, none] [.int .i64 0, .int .i64 0] 1 [(0, (.t 19))], none⟩,
 ⟨some 14, .mv (.t 20), none⟩] ⟨[0, 1, 2, 3, 4, 13, 14], [], [1020]⟩) (
 .seq (
 .seq (
 .region [] [] [
 ⟨some 21, .mv (.t 0), none⟩,
 ⟨some 22, .call false (.c (.fn 10 [])) [([none], (.t 21)), ([none], (.c (.int .i64 4)))] [], none⟩,
 ⟨some 23, .bin .add (.c (.int .i64 1)) (.t 22), none⟩,
 ⟨some 15, .mv (.t 23), none⟩] ⟨[0, 1, 2, 3, 4, 13, 14, 15], [], [1020]⟩) (
 .block 0 (
 v_mk_Curve_l0))) (
 .seq (
 .region [] [] [
 ⟨some 47, .mv (.t 14), none⟩,
 ⟨some 12, .mv (.t 47), none⟩] ⟨[12], [], [1020]⟩) (
 .ret))))))

/- 68 -/
def v_mk_Unit_b0 : VC :=
 .seq (
 .seq (
 .region [] [] [
 ⟨some 24, .mv (.t 4), none⟩,
 ⟨some 25, .bin .gtr (.t 24) (.c (.int .i64 0)), none⟩] ⟨[0, 2, 3, 4, 25], [2, 3], [1040]⟩) (
 .cond (.t 25) (
 .skip) (
 .exit 0))) (
 .seq (
 .block 1 (
 .seq (
 .region [] [] [
 ⟨some 28, .mv (.t 0), none⟩,
 ⟨some 29, .call false (.c (.fn 10 [])) [([none], (.t 28)), ([none], (.c (.int .i64 16)))] [], none⟩,
 ⟨some 5, .mv (.t 29), none⟩] ⟨[0, 2, 3, 4, 5], [2, 3], [1040]⟩) (
 .region [.normCell 3 3 1040 2] [5040] [
 ⟨some 30, .faddr 3 (.t 3), none⟩,
 ⟨some 31, .load (.loc 3) none (.t 30), none⟩,
 ⟨some 32, .mv (.t 5), none⟩,
 ⟨some 33, .mv (.t 5), none⟩,
 ⟨some 34, .bin .add (.t 33) (.c (.int .i64 1)), none⟩,
 ⟨some 35, .mv (.t 0), none⟩,
 ⟨some 36, .call false (.c (.fn 10 [])) [([none], (.t 35)), ([none], (.c (.int .i64 5)))] [], none⟩,
 ⟨some 37, .bin .add (.t 34) (.t 36), none⟩,
 ⟨some 38, .build [.int .i64 0, .int .i64 0] [(0, 1, (.t 32)), (1, 1, (.t 37))], none⟩,
 ⟨some 39, .lit none [none, none] [.int .i64 0, .int .i64 0] 1 [(0, (.t 38))], none⟩,
 ⟨some 40, .app 5040 (some 1040) [none, none] (.t 31) (.t 39), none⟩,
 ⟨some 41, .faddr 3 (.t 3), none⟩,
 ⟨none, .store (.loc 3) [some 2] (.t 41) (.t 40), none⟩] ⟨[0, 2, 3, 4], [2, 3], [1040]⟩))) (
 .region [] [] [
 ⟨some 26, .mv (.t 4), none⟩,
 ⟨some 27, .bin .sub (.t 26) (.c (.int .i64 1)), none⟩,
 ⟨some 4, .mv (.t 27), none⟩] ⟨[0, 2, 3, 4], [2, 3], [1040]⟩))

def v_mk_Unit_l0 : VC := .loop [.normCell 3 3 1040 2] ⟨[0, 2, 3, 4], [2, 3], [1040]⟩ v_mk_Unit_b0

abbrev v_mk_Unit_s0 (x0 : V) (x4 : Int) (o2 : List V) (o3 : List V) (k1040 : Nat) (G : List GObj) : St := ⟨[(0, x0), (2, .lptr 2 0), (3, .lptr 3 0), (4, .int .i64 x4)], [(2, o2), (3, o3)], [(1040, k1040)], G⟩

def v_mk_Unit : VFunc where
  nparams := 1
  results := [.c 2 true [some 2, none, none, some 2, none, none]]
  body :=
 .seq (
 .region [] [2] [
 ⟨some 2, .obj 2 [.nils, .int .i64 0, .int .i64 0, .nils, .int .i64 0, .int .i64 0], none⟩] ⟨[0, 2], [2], [1040]⟩) (
 .seq (
 .region [] [3] [
 ⟨some 6, .mv (.t 0), none⟩,
 ⟨some 7, .call false (.c (.fn 67 [])) [([none], (.t 6)), ([none], (.c (.int .i64 0))), ([none], (.c (.int .i64 0))), ([none], (.c (.int .i64 10))), ([none], (.c (.int .i64 30))), ([none], (.c (.bool false)))] [], none⟩,
 ⟨some 8, .mv (.t 0), none⟩,
 ⟨some 9, .call false (.c (.fn 10 [])) [([none], (.t 8)), ([none], (.c (.int .i64 8)))] [], none⟩,
 ⟨some 10, .bin .add (.c (.int .i64 1)) (.t 9), none⟩,
 ⟨some 11, .mv (.t 0), none⟩,
 ⟨some 12, .call false (.c (.fn 10 [])) [([none], (.t 11)), ([none], (.c (.int .i64 3)))] [], none⟩,
 ⟨some 13, .mv (.t 0), none⟩,
 ⟨some 14, .call false (.c (.fn 10 [])) [([none], (.t 13)), ([none], (.c (.int .i64 3)))] [], none⟩,
 ⟨some 15, .build [.nils, .int .i64 0, .int .i64 0, .nils, .int .i64 0, .int .i64 0] [(0, 1, (.t 7)), (1, 1, (.t 10)), (4, 1, (.t 12)), (5, 1, (.t 14))], none⟩,
 ⟨some 3, .obj 3 [.nils, .int .i64 0, .int .i64 0, .nils, .int .i64 0, .int .i64 0], none⟩,
 ⟨none, .store (.loc 3) [some 2, none, none, some 2, none, none] (.t 3) (.t 15), none⟩] ⟨[0, 2, 3], [2, 3], [1040]⟩) (
 .seq (
 .region [] [] [
 ⟨some 16, .faddr 1 (.t 3), none⟩,
 ⟨some 17, .load (.loc 3) none (.t 16), none⟩,
 ⟨some 18, .mv (.t 0), none⟩,
 ⟨some 19, .call false (.c (.fn 10 [])) [([none], (.t 18)), ([none], (.c (.int .i64 12)))] [], none⟩,
 ⟨some 20, .bin .add (.t 17) (.t 19), none⟩,
 ⟨some 21, .faddr 2 (.t 3), none⟩,
 ⟨none, .store (.loc 3) [none] (.t 21) (.t 20), none⟩] ⟨[0, 2, 3], [2, 3], [1040]⟩) (
 .seq (
 .seq (
 .region [] [] [
 ⟨some 22, .mv (.t 0), none⟩,
 ⟨some 23, .call false (.c (.fn 10 [])) [([none], (.t 22)), ([none], (.c (.int .i64 3)))] [], none⟩,
 ⟨some 4, .mv (.t 23), none⟩] ⟨[0, 2, 3, 4], [2, 3], [1040]⟩) (
 .block 0 (
 v_mk_Unit_l0))) (
 .seq (
 .region [] [] [
 ⟨some 42, .load (.loc 3) (some 6) (.t 3), none⟩,
 ⟨none, .store (.loc 2) [some 2, none, none, some 2, none, none] (.t 2) (.t 42), none⟩] ⟨[2], [2], [1040]⟩) (
 .ret)))))

/- 69 -/

def v_mk_UnitState : VFunc where
  nparams := 2
  results := [.c 4 true [none, none, none]]
  body :=
 .seq (
 .region [] [3, 4] [
 ⟨some 3, .box 3 (.t 1), none⟩,
 ⟨some 4, .obj 4 [.int .i64 0, .int .i64 0, .bool false], none⟩] ⟨[0, 3, 4], [3, 4], []⟩) (
 .seq (
 .region [] [5] [
 ⟨some 8, .mv (.t 0), none⟩,
 ⟨some 9, .call false (.c (.fn 10 [])) [([none], (.t 8)), ([none], (.c (.int .i64 5)))] [], none⟩,
 ⟨some 10, .mv (.t 0), none⟩,
 ⟨some 11, .call false (.c (.fn 10 [])) [([none], (.t 10)), ([none], (.c (.int .i64 7)))] [], none⟩,
 ⟨some 12, .bin .eql (.t 11) (.c (.int .i64 6)), none⟩,
 ⟨some 13, .build [.int .i64 0, .int .i64 0, .bool false] [(1, 1, (.t 9)), (2, 1, (.t 12))], none⟩,
 ⟨some 5, .obj 5 [.int .i64 0, .int .i64 0, .bool false], none⟩,
 ⟨none, .store (.loc 5) [none, none, none] (.t 5) (.t 13), none⟩] ⟨[0, 3, 4, 5], [3, 4, 5], []⟩) (
 .seq (
 .seq (
 .region [] [] [
 ⟨some 15, .load (.loc 3) (some 6) (.t 3), none⟩,
 ⟨some 16, .call true (.c (.fn 97 [])) [([some 2, none, none, some 2, none, none], (.t 15)), ([none], (.c (.int .i64 1)))] [], none⟩,
 ⟨some 14, .mv (.t 16), none⟩,
 ⟨some 17, .ext (.t 14) 0, none⟩,
 ⟨some 18, .ext (.t 14) 1, none⟩,
 ⟨some 6, .mv (.t 17), none⟩,
 ⟨some 7, .mv (.t 18), none⟩] ⟨[0, 4, 5, 6], [4, 5], []⟩) (
 .seq (
 .region [] [] [
 ⟨some 19, .mv (.t 6), none⟩,
 ⟨some 20, .len (.t 19), none⟩,
 ⟨some 21, .bin .gtr (.t 20) (.c (.int .i64 0)), none⟩,
 ⟨some 22, .mv (.t 21), none⟩,
 ⟨some 23, .faddr 2 (.t 5), some (22, true)⟩,
 ⟨some 24, .load (.loc 5) none (.t 23), some (22, true)⟩,
 ⟨some 25, .un .not (.t 24), some (22, true)⟩,
 ⟨some 26, .pick (.t 22) (.t 25) (.c (.bool false)), none⟩,
 ⟨some 27, .mv (.t 26), none⟩,
 ⟨some 28, .mv (.t 0), some (27, true)⟩,
 ⟨some 29, .call false (.c (.fn 10 [])) [([none], (.t 28)), ([none], (.c (.int .i64 2)))] [], some (27, true)⟩,
 ⟨some 30, .bin .eql (.t 29) (.c (.int .i64 0)), some (27, true)⟩,
 ⟨some 31, .pick (.t 27) (.t 30) (.c (.bool false)), none⟩] ⟨[0, 4, 5, 6, 31], [4, 5], []⟩) (
 .cond (.t 31) (
 .region [] [] [
 ⟨some 32, .mv (.t 6), none⟩,
 ⟨some 33, .mv (.t 0), none⟩,
 ⟨some 34, .mv (.t 6), none⟩,
 ⟨some 35, .len (.t 34), none⟩,
 ⟨some 36, .call false (.c (.fn 10 [])) [([none], (.t 33)), ([none], (.t 35))] [], none⟩,
 ⟨some 37, .iaddr none 1 (.t 32) (.t 36), none⟩,
 ⟨some 38, .load .imm none (.t 37), none⟩,
 ⟨some 39, .faddr 0 (.t 5), none⟩,
 ⟨none, .store (.loc 5) [none] (.t 39) (.t 38), none⟩] ⟨[4, 5], [4, 5], []⟩) (
 .skip)))) (
 .seq (
 .region [] [] [
 ⟨some 40, .load (.loc 5) (some 3) (.t 5), none⟩,
 ⟨none, .store (.loc 4) [none, none, none] (.t 4) (.t 40), none⟩] ⟨[4], [4], []⟩) (
 .ret))))

/- 70 -/
def v_mk_Gate_b0 : VC :=
 .seq (
 .seq (
 .region [] [] [
 ⟨some 16, .mv (.t 5), none⟩,
 ⟨some 17, .bin .geq (.t 16) (.c (.int .i64 0)), none⟩] ⟨[0, 2, 3, 4, 5, 17], [2, 3], [1027]⟩) (
 .cond (.t 17) (
 .skip) (
 .exit 0))) (
 .seq (
 .block 1 (
 .seq (
 .region [.normCell 3 0 1027 2] [5027] [
 ⟨some 20, .faddr 0 (.t 3), none⟩,
 ⟨some 21, .load (.loc 3) none (.t 20), none⟩,
 ⟨some 22, .mv (.t 4), none⟩,
 ⟨some 23, .mv (.t 0), none⟩,
 ⟨some 24, .call false (.c (.fn 67 [])) [([none], (.t 23)), ([none], (.c (.int .i64 0))), ([none], (.c (.int .i64 0))), ([none], (.c (.int .i64 6))), ([none], (.c (.int .i64 20))), ([none], (.c (.bool false)))] [], none⟩,
 ⟨some 25, .build [.int .i64 0, .nils] [(0, 1, (.t 22)), (1, 1, (.t 24))], none⟩,
 ⟨some 26, .lit none [none, some 2] [.int .i64 0, .slice none 2 []] 1 [(0, (.t 25))], none⟩,
 ⟨some 27, .app 5027 (some 1027) [none, some 2] (.t 21) (.t 26), none⟩,
 ⟨some 28, .faddr 0 (.t 3), none⟩,
 ⟨none, .store (.loc 3) [some 2] (.t 28) (.t 27), none⟩] ⟨[0, 2, 3, 4, 5], [2, 3], [1027]⟩) (
 .region [] [] [
 ⟨some 29, .mv (.t 4), none⟩,
 ⟨some 30, .mv (.t 0), none⟩,
 ⟨some 31, .call false (.c (.fn 10 [])) [([none], (.t 30)), ([none], (.c (.int .i64 40)))] [], none⟩,
 ⟨some 32, .bin .add (.c (.int .i64 1)) (.t 31), none⟩,
 ⟨some 33, .bin .add (.t 29) (.t 32), none⟩,
 ⟨some 4, .mv (.t 33), none⟩] ⟨[0, 2, 3, 4, 5], [2, 3], [1027]⟩))) (
 .region [] [] [
 ⟨some 18, .mv (.t 5), none⟩,
 ⟨some 19, .bin .sub (.t 18) (.c (.int .i64 1)), none⟩,
 ⟨some 5, .mv (.t 19), none⟩] ⟨[0, 2, 3, 4, 5], [2, 3], [1027]⟩))

def v_mk_Gate_l0 : VC := .loop [.normCell 3 0 1027 2] ⟨[0, 2, 3, 4, 5], [2, 3], [1027]⟩ v_mk_Gate_b0

abbrev v_mk_Gate_s0 (x0 : V) (x4 : Int) (x5 : Int) (o2 : List V) (o3 : List V) (k1027 : Nat) (G : List GObj) : St := ⟨[(0, x0), (2, .lptr 2 0), (3, .lptr 3 0), (4, .int .i64 x4), (5, .int .i64 x5)], [(2, o2), (3, o3)], [(1027, k1027)], G⟩

def v_mk_Gate : VFunc where
  nparams := 1
  results := [.c 2 true [some 2, none, none]]
  body :=
 .seq (
 .region [] [2] [
 ⟨some 2, .obj 2 [.nils, .int .i64 0, .int .i64 0], none⟩] ⟨[0, 2], [2], [1027]⟩) (
 .seq (
 .region [] [3] [
 ⟨some 6, .mv (.t 0), none⟩,
 ⟨some 7, .call false (.c (.fn 10 [])) [([none], (.t 6)), ([none], (.c (.int .i64 12)))] [], none⟩,
 ⟨some 8, .mv (.t 0), none⟩,
 ⟨some 9, .call false (.c (.fn 10 [])) [([none], (.t 8)), ([none], (.c (.int .i64 6)))] [], none⟩,
 ⟨some 10, .build [.nils, .int .i64 0, .int .i64 0] [(1, 1, (.t 7)), (2, 1, (.t 9))], none⟩,
 ⟨some 3, .obj 3 [.nils, .int .i64 0, .int .i64 0], none⟩,
 ⟨none, .store (.loc 3) [some 2, none, none] (.t 3) (.t 10), none⟩] ⟨[0, 2, 3], [2, 3], [1027]⟩) (
 .seq (
 .region [] [] [
 ⟨some 11, .mv (.t 0), none⟩,
 ⟨some 12, .call false (.c (.fn 10 [])) [([none], (.t 11)), ([none], (.c (.int .i64 40)))] [], none⟩,
 ⟨some 13, .bin .add (.c (.int .i64 90)) (.t 12), none⟩,
 ⟨some 4, .mv (.t 13), none⟩] ⟨[0, 2, 3, 4], [2, 3], [1027]⟩) (
 .seq (
 .seq (
 .region [] [] [
 ⟨some 14, .mv (.t 0), none⟩,
 ⟨some 15, .call false (.c (.fn 10 [])) [([none], (.t 14)), ([none], (.c (.int .i64 3)))] [], none⟩,
 ⟨some 5, .mv (.t 15), none⟩] ⟨[0, 2, 3, 4, 5], [2, 3], [1027]⟩) (
 .block 0 (
 v_mk_Gate_l0))) (
 .seq (
 .region [] [] [
 ⟨some 34, .load (.loc 3) (some 3) (.t 3), none⟩,
 ⟨none, .store (.loc 2) [some 2, none, none] (.t 2) (.t 34), none⟩] ⟨[2], [2], [1027]⟩) (
 .ret)))))

/- 71 -/
def v_r02_Check_b0 : VC :=
 .seq (
 .region [] [] [
 ⟨some 16, .bin .lss (.t 15) (.t 14), none⟩] ⟨[0, 13, 14, 15, 16], [], []⟩) (
 .seq (
 .cond (.t 16) (
 .skip) (
 .exit 0)) (
 .seq (
 .block 1 (
 .seq (
 .region [] [4] [
 ⟨some 17, .mv (.t 15), none⟩,
 ⟨some 18, .iaddr none 2 (.t 13) (.t 15), none⟩,
 ⟨some 19, .load .imm (some 2) (.t 18), none⟩,
 ⟨some 4, .obj 4 [.int .i64 0, .int .i64 0], none⟩,
 ⟨some 3, .mv (.t 17), none⟩,
 ⟨none, .store (.loc 4) [none, none] (.t 4) (.t 19), none⟩] ⟨[0, 3, 4, 13, 14, 15], [4], []⟩) (
 .seq (
 .seq (
 .region [] [] [
 ⟨some 20, .faddr 0 (.t 4), none⟩,
 ⟨some 21, .load (.loc 4) none (.t 20), none⟩,
 ⟨some 22, .call true (.c (.fn 43 [])) [([none], (.t 21)), ([none], (.c (.int .i64 1073741824)))] [], none⟩,
 ⟨some 23, .un .not (.t 22), none⟩,
 ⟨some 24, .mv (.t 23), none⟩,
 ⟨some 25, .faddr 1 (.t 4), some (24, false)⟩,
 ⟨some 26, .load (.loc 4) none (.t 25), some (24, false)⟩,
 ⟨some 27, .call true (.c (.fn 43 [])) [([none], (.t 26)), ([none], (.c (.int .i64 274877906944)))] [], some (24, false)⟩,
 ⟨some 28, .un .not (.t 27), some (24, false)⟩,
 ⟨some 29, .pick (.t 24) (.c (.bool true)) (.t 28), none⟩] ⟨[0, 3, 4, 13, 14, 15, 29], [4], []⟩) (
 .cond (.t 29) (
 .seq (
 .region [] [] [
 ⟨some 2, .mv (.c (.int .i64 1)), none⟩] ⟨[2], [], []⟩) (
 .ret)) (
 .skip))) (
 .seq (
 .seq (
 .region [] [] [
 ⟨some 30, .mv (.t 3), none⟩,
 ⟨some 31, .bin .eql (.t 30) (.c (.int .i64 0)), none⟩] ⟨[0, 3, 4, 13, 14, 15, 31], [4], []⟩) (
 .cond (.t 31) (
 .exit 1) (
 .skip))) (
 .seq (
 .region [] [] [
 ⟨some 32, .faddr 0 (.t 4), none⟩,
 ⟨some 33, .load (.loc 4) none (.t 32), none⟩,
 ⟨some 34, .mv (.t 0), none⟩,
 ⟨some 35, .mv (.t 3), none⟩,
 ⟨some 36, .bin .sub (.t 35) (.c (.int .i64 1)), none⟩,
 ⟨some 37, .iaddr none 2 (.t 34) (.t 36), none⟩,
 ⟨some 38, .faddr 0 (.t 37), none⟩,
 ⟨some 39, .load .imm none (.t 38), none⟩,
 ⟨some 40, .bin .sub (.t 33) (.t 39), none⟩,
 ⟨some 41, .faddr 1 (.t 4), none⟩,
 ⟨some 42, .load (.loc 4) none (.t 41), none⟩,
 ⟨some 43, .mv (.t 0), none⟩,
 ⟨some 44, .mv (.t 3), none⟩,
 ⟨some 45, .bin .sub (.t 44) (.c (.int .i64 1)), none⟩,
 ⟨some 46, .iaddr none 2 (.t 43) (.t 45), none⟩,
 ⟨some 47, .faddr 1 (.t 46), none⟩,
 ⟨some 48, .load .imm none (.t 47), none⟩,
 ⟨some 49, .bin .sub (.t 42) (.t 48), none⟩,
 ⟨some 5, .mv (.t 40), none⟩,
 ⟨some 6, .mv (.t 49), none⟩] ⟨[0, 5, 6, 13, 14, 15], [], []⟩) (
 .seq (
 .seq (
 .region [] [] [
 ⟨some 50, .mv (.t 5), none⟩,
 ⟨some 51, .bin .leq (.t 50) (.c (.int .i64 0)), none⟩,
 ⟨some 52, .mv (.t 51), none⟩,
 ⟨some 53, .mv (.t 6), some (52, false)⟩,
 ⟨some 54, .bin .lss (.t 53) (.c (.int .i64 0)), some (52, false)⟩,
 ⟨some 55, .pick (.t 52) (.c (.bool true)) (.t 54), none⟩] ⟨[0, 5, 6, 13, 14, 15, 55], [], []⟩) (
 .cond (.t 55) (
 .seq (
 .region [] [] [
 ⟨some 2, .mv (.c (.int .i64 4)), none⟩] ⟨[2], [], []⟩) (
 .ret)) (
 .skip))) (
 .seq (
 .region [] [] [
 ⟨some 56, .mv (.t 6), none⟩,
 ⟨some 57, .mv (.t 5), none⟩,
 ⟨some 58, .bin .quo (.c (.int .i64 4611686018427387904)) (.t 57), none⟩,
 ⟨some 59, .bin .gtr (.t 56) (.t 58), none⟩] ⟨[0, 13, 14, 15, 59], [], []⟩) (
 .cond (.t 59) (
 .seq (
 .region [] [] [
 ⟨some 2, .mv (.c (.int .i64 1)), none⟩] ⟨[2], [], []⟩) (
 .ret)) (
 .skip))))))))) (
 .region [] [] [
 ⟨some 60, .bin .add (.t 15) (.c (.int .i64 1)), none⟩,
 ⟨some 15, .mv (.t 60), none⟩] ⟨[0, 13, 14, 15], [], []⟩)))

def v_r02_Check_l0 : VC := .loop [] ⟨[0, 13, 14, 15], [], []⟩ v_r02_Check_b0

abbrev v_r02_Check_s0 (x0 : V) (x13 : V) (x14 : Int) (x15 : Int) (G : List GObj) : St := ⟨[(0, x0), (13, x13), (14, .int .i64 x14), (15, .int .i64 x15)], [], [], G⟩

def v_r02_Check : VFunc where
  nparams := 1
  results := [.t 2 [none]]
  body :=
 .seq (
 .region [] [] [
 ⟨some 2, .mv (.c (.int .i64 0)), none⟩] ⟨[0], [], []⟩) (
 .seq (
 .seq (
 .region [] [] [
 ⟨some 7, .mv (.t 0), none⟩,
 ⟨some 8, .len (.t 7), none⟩,
 ⟨some 9, .bin .eql (.t 8) (.c (.int .i64 0)), none⟩] ⟨[0, 9], [], []⟩) (
 .cond (.t 9) (
 .seq (
 .region [] [] [
 ⟨some 2, .mv (.c (.int .i64 3)), none⟩] ⟨[2], [], []⟩) (
 .ret)) (
 .skip))) (
 .seq (
 .seq (
 .region [] [] [
 ⟨some 10, .mv (.t 0), none⟩,
 ⟨some 11, .len (.t 10), none⟩,
 ⟨some 12, .bin .gtr (.t 11) (.c (.int .i64 100)), none⟩] ⟨[0, 12], [], []⟩) (
 .cond (.t 12) (
 .seq (
 .region [] [] [
 ⟨some 2, .mv (.c (.int .i64 10)), none⟩] ⟨[2], [], []⟩) (
 .ret)) (
 .skip))) (
 .seq (
 .seq (
 .region [] [] [
 ⟨some 13, .mv (.t 0), none⟩,
 ⟨some 14, .len (.t 13), none⟩,
 ⟨some 15, .mv (.c (.int .i64 0)), none⟩] ⟨[0, 13, 14, 15], [], []⟩) (
 .block 0 (
 v_r02_Check_l0))) (
 .seq (
 .region [] [] [
 ⟨some 2, .mv (.c (.int .i64 0)), none⟩] ⟨[2], [], []⟩) (
 .ret)))))

/- 72 -/
def v_r02_at_b0 : VC :=
 .seq (
 .seq (
 .region [] [] [
 ⟨some 18, .mv (.t 5), none⟩,
 ⟨some 19, .mv (.t 0), none⟩,
 ⟨some 20, .len (.t 19), none⟩,
 ⟨some 21, .bin .lss (.t 18) (.t 20), none⟩] ⟨[0, 1, 5, 21], [], []⟩) (
 .cond (.t 21) (
 .skip) (
 .exit 0))) (
 .seq (
 .block 1 (
 .seq (
 .region [] [] [
 ⟨some 24, .mv (.t 1), none⟩,
 ⟨some 25, .mv (.t 0), none⟩,
 ⟨some 26, .mv (.t 5), none⟩,
 ⟨some 27, .iaddr none 2 (.t 25) (.t 26), none⟩,
 ⟨some 28, .faddr 0 (.t 27), none⟩,
 ⟨some 29, .load .imm none (.t 28), none⟩,
 ⟨some 30, .bin .lss (.t 24) (.t 29), none⟩] ⟨[0, 1, 5, 30], [], []⟩) (
 .cond (.t 30) (
 .seq (
 .region [] [6, 7] [
 ⟨some 31, .mv (.t 0), none⟩,
 ⟨some 32, .mv (.t 5), none⟩,
 ⟨some 33, .bin .sub (.t 32) (.c (.int .i64 1)), none⟩,
 ⟨some 34, .iaddr none 2 (.t 31) (.t 33), none⟩,
 ⟨some 35, .load .imm (some 2) (.t 34), none⟩,
 ⟨some 36, .mv (.t 0), none⟩,
 ⟨some 37, .mv (.t 5), none⟩,
 ⟨some 38, .iaddr none 2 (.t 36) (.t 37), none⟩,
 ⟨some 39, .load .imm (some 2) (.t 38), none⟩,
 ⟨some 6, .obj 6 [.int .i64 0, .int .i64 0], none⟩,
 ⟨some 7, .obj 7 [.int .i64 0, .int .i64 0], none⟩,
 ⟨none, .store (.loc 6) [none, none] (.t 6) (.t 35), none⟩,
 ⟨none, .store (.loc 7) [none, none] (.t 7) (.t 39), none⟩] ⟨[1, 6, 7], [6, 7], []⟩) (
 .seq (
 .region [] [] [
 ⟨some 40, .faddr 1 (.t 6), none⟩,
 ⟨some 41, .load (.loc 6) none (.t 40), none⟩,
 ⟨some 42, .faddr 1 (.t 7), none⟩,
 ⟨some 43, .load (.loc 7) none (.t 42), none⟩,
 ⟨some 44, .faddr 1 (.t 6), none⟩,
 ⟨some 45, .load (.loc 6) none (.t 44), none⟩,
 ⟨some 46, .bin .sub (.t 43) (.t 45), none⟩,
 ⟨some 47, .mv (.t 1), none⟩,
 ⟨some 48, .faddr 0 (.t 6), none⟩,
 ⟨some 49, .load (.loc 6) none (.t 48), none⟩,
 ⟨some 50, .bin .sub (.t 47) (.t 49), none⟩,
 ⟨some 51, .bin .mul (.t 46) (.t 50), none⟩,
 ⟨some 52, .faddr 0 (.t 7), none⟩,
 ⟨some 53, .load (.loc 7) none (.t 52), none⟩,
 ⟨some 54, .faddr 0 (.t 6), none⟩,
 ⟨some 55, .load (.loc 6) none (.t 54), none⟩,
 ⟨some 56, .bin .sub (.t 53) (.t 55), none⟩,
 ⟨some 57, .bin .quo (.t 51) (.t 56), none⟩,
 ⟨some 58, .bin .add (.t 41) (.t 57), none⟩,
 ⟨some 4, .mv (.t 58), none⟩] ⟨[4], [], []⟩) (
 .ret))) (
 .skip)))) (
 .region [] [] [
 ⟨some 22, .mv (.t 5), none⟩,
 ⟨some 23, .bin .add (.t 22) (.c (.int .i64 1)), none⟩,
 ⟨some 5, .mv (.t 23), none⟩] ⟨[0, 1, 5], [], []⟩))

def v_r02_at_l0 : VC := .loop [] ⟨[0, 1, 5], [], []⟩ v_r02_at_b0

abbrev v_r02_at_s0 (x0 : V) (x1 : Int) (x5 : Int) (G : List GObj) : St := ⟨[(0, x0), (1, .int .i64 x1), (5, .int .i64 x5)], [], [], G⟩

def v_r02_at : VFunc where
  nparams := 2
  results := [.t 4 [none]]
  body :=
 .seq (
 .region [] [] [
 ⟨some 4, .mv (.c (.int .i64 0)), none⟩] ⟨[0, 1], [], []⟩) (
 .seq (
 .seq (
 .region [] [] [
 ⟨some 8, .mv (.t 1), none⟩,
 ⟨some 9, .mv (.t 0), none⟩,
 ⟨some 10, .iaddr none 2 (.t 9) (.c (.int .i64 0)), none⟩,
 ⟨some 11, .faddr 0 (.t 10), none⟩,
 ⟨some 12, .load .imm none (.t 11), none⟩,
 ⟨some 13, .bin .leq (.t 8) (.t 12), none⟩] ⟨[0, 1, 13], [], []⟩) (
 .cond (.t 13) (
 .seq (
 .region [] [] [
 ⟨some 14, .mv (.t 0), none⟩,
 ⟨some 15, .iaddr none 2 (.t 14) (.c (.int .i64 0)), none⟩,
 ⟨some 16, .faddr 1 (.t 15), none⟩,
 ⟨some 17, .load .imm none (.t 16), none⟩,
 ⟨some 4, .mv (.t 17), none⟩] ⟨[4], [], []⟩) (
 .ret)) (
 .skip))) (
 .seq (
 .seq (
 .region [] [] [
 ⟨some 5, .mv (.c (.int .i64 1)), none⟩] ⟨[0, 1, 5], [], []⟩) (
 .block 0 (
 v_r02_at_l0))) (
 .seq (
 .region [] [] [
 ⟨some 59, .mv (.t 0), none⟩,
 ⟨some 60, .mv (.t 0), none⟩,
 ⟨some 61, .len (.t 60), none⟩,
 ⟨some 62, .bin .sub (.t 61) (.c (.int .i64 1)), none⟩,
 ⟨some 63, .iaddr none 2 (.t 59) (.t 62), none⟩,
 ⟨some 64, .faddr 1 (.t 63), none⟩,
 ⟨some 65, .load .imm none (.t 64), none⟩,
 ⟨some 4, .mv (.t 65), none⟩] ⟨[4], [], []⟩) (
 .ret))))

/- 73 -/
def v_slices_IndexFunc_int_int_b0 : VC :=
 .seq (
 .region [] [] [
 ⟨some 9, .bin .lss (.t 8) (.t 7), none⟩] ⟨[0, 1, 7, 8, 9], [], []⟩) (
 .seq (
 .cond (.t 9) (
 .skip) (
 .exit 0)) (
 .seq (
 .block 1 (
 .seq (
 .region [] [] [
 ⟨some 10, .mv (.t 8), none⟩,
 ⟨some 5, .mv (.t 10), none⟩] ⟨[0, 1, 5, 7, 8], [], []⟩) (
 .seq (
 .region [] [] [
 ⟨some 11, .mv (.t 1), none⟩,
 ⟨some 12, .mv (.t 0), none⟩,
 ⟨some 13, .mv (.t 5), none⟩,
 ⟨some 14, .iaddr none 1 (.t 12) (.t 13), none⟩,
 ⟨some 15, .load .imm none (.t 14), none⟩,
 ⟨some 16, .call false (.t 11) [([none], (.t 15))] [], none⟩] ⟨[0, 1, 5, 7, 8, 16], [], []⟩) (
 .cond (.t 16) (
 .seq (
 .region [] [] [
 ⟨some 17, .mv (.t 5), none⟩,
 ⟨some 4, .mv (.t 17), none⟩] ⟨[4], [], []⟩) (
 .ret)) (
 .skip))))) (
 .region [] [] [
 ⟨some 18, .bin .add (.t 8) (.c (.int .i64 1)), none⟩,
 ⟨some 8, .mv (.t 18), none⟩] ⟨[0, 1, 7, 8], [], []⟩)))

def v_slices_IndexFunc_int_int_l0 : VC := .loop [] ⟨[0, 1, 7, 8], [], []⟩ v_slices_IndexFunc_int_int_b0

abbrev v_slices_IndexFunc_int_int_s0 (x0 : V) (x1 : V) (x7 : Int) (x8 : Int) (G : List GObj) : St := ⟨[(0, x0), (1, x1), (7, .int .i64 x7), (8, .int .i64 x8)], [], [], G⟩

def v_slices_IndexFunc_int_int : VFunc where
  nparams := 2
  results := [.t 4 [none]]
  body :=
 .seq (
 .region [] [] [
 ⟨some 4, .mv (.c (.int .i64 0)), none⟩] ⟨[0, 1], [], []⟩) (
 .seq (
 .seq (
 .region [] [] [
 ⟨some 6, .mv (.t 0), none⟩,
 ⟨some 7, .len (.t 6), none⟩,
 ⟨some 8, .mv (.c (.int .i64 0)), none⟩] ⟨[0, 1, 7, 8], [], []⟩) (
 .block 0 (
 v_slices_IndexFunc_int_int_l0))) (
 .seq (
 .region [] [] [
 ⟨some 4, .mv (.c (.int .i64 (-1))), none⟩] ⟨[4], [], []⟩) (
 .ret)))

/- 74 -/

def v_dam_work_over : VFunc where
  nparams := 1
  results := []
  body :=
 .seq (
 .region [] [] [
 ⟨some 2, .mv (.t 0), none⟩,
 ⟨some 3, .nilchk (.t 2), none⟩,
 ⟨some 4, .faddr 25 (.t 3), none⟩,
 ⟨some 5, .load .glob none (.t 4), none⟩,
 ⟨some 6, .mv (.t 0), none⟩,
 ⟨some 7, .nilchk (.t 6), none⟩,
 ⟨some 8, .faddr 17 (.t 7), none⟩,
 ⟨some 9, .faddr 2 (.t 8), none⟩,
 ⟨some 10, .load .glob none (.t 9), none⟩,
 ⟨some 11, .mv (.t 0), none⟩,
 ⟨some 12, .nilchk (.t 11), none⟩,
 ⟨some 13, .faddr 17 (.t 12), none⟩,
 ⟨some 14, .faddr 3 (.t 13), none⟩,
 ⟨some 15, .load .glob none (.t 14), none⟩,
 ⟨some 16, .bin .add (.t 10) (.t 15), none⟩,
 ⟨some 17, .bin .sub (.t 5) (.t 16), none⟩,
 ⟨some 18, .nilchk (.t 2), none⟩,
 ⟨some 19, .faddr 25 (.t 18), none⟩,
 ⟨none, .store .glob [none] (.t 19) (.t 17), none⟩] ⟨[0], [], []⟩) (
 .seq (
 .region [] [] [
 ⟨some 20, .mv (.t 0), none⟩,
 ⟨some 21, .mv (.t 0), none⟩,
 ⟨some 22, .nilchk (.t 21), none⟩,
 ⟨some 23, .faddr 25 (.t 22), none⟩,
 ⟨some 24, .load .glob none (.t 23), none⟩,
 ⟨some 25, .mv (.t 0), none⟩,
 ⟨some 26, .nilchk (.t 25), none⟩,
 ⟨some 27, .faddr 0 (.t 26), none⟩,
 ⟨some 28, .load .glob (some 9) (.t 27), none⟩,
 ⟨some 29, .call true (.c (.fn 92 [])) [([some 2, none, none, none, none, none, some 6, some 3, none], (.t 28))] [], none⟩,
 ⟨some 30, .bin .sub (.t 24) (.t 29), none⟩,
 ⟨some 31, .mm true (.t 30) (.c (.int .i64 0)), none⟩,
 ⟨some 32, .nilchk (.t 20), none⟩,
 ⟨some 33, .faddr 17 (.t 32), none⟩,
 ⟨some 34, .faddr 4 (.t 33), none⟩,
 ⟨none, .store .glob [none] (.t 34) (.t 31), none⟩] ⟨[0], [], []⟩) (
 .seq (
 .region [] [] [
 ⟨some 35, .mv (.t 0), none⟩,
 ⟨some 36, .mv (.t 0), none⟩,
 ⟨some 37, .nilchk (.t 36), none⟩,
 ⟨some 38, .faddr 25 (.t 37), none⟩,
 ⟨some 39, .load .glob none (.t 38), none⟩,
 ⟨some 40, .mv (.t 0), none⟩,
 ⟨some 41, .nilchk (.t 40), none⟩,
 ⟨some 42, .faddr 17 (.t 41), none⟩,
 ⟨some 43, .faddr 4 (.t 42), none⟩,
 ⟨some 44, .load .glob none (.t 43), none⟩,
 ⟨some 45, .bin .sub (.t 39) (.t 44), none⟩,
 ⟨some 46, .nilchk (.t 35), none⟩,
 ⟨some 47, .faddr 13 (.t 46), none⟩,
 ⟨some 48, .faddr 0 (.t 47), none⟩,
 ⟨none, .store .glob [none] (.t 48) (.t 45), none⟩] ⟨[0], [], []⟩) (
 .region [] [] [
 ⟨some 49, .mv (.t 0), none⟩,
 ⟨some 50, .mv (.t 0), none⟩,
 ⟨some 51, .nilchk (.t 50), none⟩,
 ⟨some 52, .faddr 17 (.t 51), none⟩,
 ⟨some 53, .faddr 2 (.t 52), none⟩,
 ⟨some 54, .load .glob none (.t 53), none⟩,
 ⟨some 55, .mv (.t 0), none⟩,
 ⟨some 56, .nilchk (.t 55), none⟩,
 ⟨some 57, .faddr 17 (.t 56), none⟩,
 ⟨some 58, .faddr 3 (.t 57), none⟩,
 ⟨some 59, .load .glob none (.t 58), none⟩,
 ⟨some 60, .bin .add (.t 54) (.t 59), none⟩,
 ⟨some 61, .mm false (.t 60) (.c (.int .i64 1073741824)), none⟩,
 ⟨some 62, .nilchk (.t 49), none⟩,
 ⟨some 63, .faddr 13 (.t 62), none⟩,
 ⟨some 64, .faddr 1 (.t 63), none⟩,
 ⟨none, .store .glob [none] (.t 64) (.t 61), none⟩] ⟨[], [], []⟩)))

/- 75 -/

def v_dam_work_gates : VFunc where
  nparams := 1
  results := []
  body :=
 .seq (
 .region [] [] [
 ⟨some 6, .mv (.t 0), none⟩,
 ⟨some 7, .nilchk (.t 6), none⟩,
 ⟨some 8, .faddr 0 (.t 7), none⟩,
 ⟨some 9, .faddr 7 (.t 8), none⟩,
 ⟨some 10, .load .glob none (.t 9), none⟩,
 ⟨some 11, .mv (.t 0), none⟩,
 ⟨some 12, .nilchk (.t 11), none⟩,
 ⟨some 13, .faddr 9 (.t 12), none⟩,
 ⟨some 14, .faddr 3 (.t 13), none⟩,
 ⟨some 15, .load .glob none (.t 14), none⟩,
 ⟨some 16, .mv (.t 0), none⟩,
 ⟨some 17, .nilchk (.t 16), none⟩,
 ⟨some 18, .faddr 26 (.t 17), none⟩,
 ⟨some 19, .load .glob none (.t 18), none⟩,
 ⟨some 20, .mv (.t 0), none⟩,
 ⟨some 21, .nilchk (.t 20), none⟩,
 ⟨some 22, .faddr 24 (.t 21), none⟩,
 ⟨some 23, .load .glob none (.t 22), none⟩,
 ⟨some 24, .mv (.t 0), none⟩,
 ⟨some 25, .rcall (.c (.fn 99 [])) [([none], (.t 24))], none⟩,
 ⟨some 26, .mm false (.t 23) (.t 25), none⟩,
 ⟨some 27, .mv (.t 0), none⟩,
 ⟨some 28, .nilchk (.t 27), none⟩,
 ⟨some 29, .faddr 17 (.t 28), none⟩,
 ⟨some 30, .faddr 2 (.t 29), none⟩,
 ⟨some 31, .load .glob none (.t 30), none⟩,
 ⟨some 32, .bin .sub (.t 26) (.t 31), none⟩,
 ⟨some 33, .call true (.c (.fn 98 [])) [([some 3], (.t 10)), ([some 2], (.t 15)), ([none], (.t 19)), ([none], (.t 32))] [], none⟩,
 ⟨some 5, .mv (.t 33), none⟩,
 ⟨some 34, .ext (.t 5) 0, none⟩,
 ⟨some 35, .ext (.t 5) 1, none⟩,
 ⟨some 36, .ext (.t 5) 2, none⟩,
 ⟨some 2, .mv (.t 34), none⟩,
 ⟨some 3, .mv (.t 35), none⟩,
 ⟨some 4, .mv (.t 36), none⟩] ⟨[0, 2, 3], [], []⟩) (
 .seq (
 .region [] [] [
 ⟨some 37, .mv (.t 0), none⟩,
 ⟨some 38, .mv (.t 2), none⟩,
 ⟨some 39, .nilchk (.t 37), none⟩,
 ⟨some 40, .faddr 13 (.t 39), none⟩,
 ⟨some 41, .faddr 3 (.t 40), none⟩,
 ⟨none, .store .glob [some 2] (.t 41) (.t 38), none⟩] ⟨[0, 3], [], []⟩) (
 .region [] [] [
 ⟨some 42, .mv (.t 0), none⟩,
 ⟨some 43, .mv (.t 3), none⟩,
 ⟨some 44, .mv (.t 0), none⟩,
 ⟨some 45, .rcall (.c (.fn 99 [])) [([none], (.t 44))], none⟩,
 ⟨some 46, .mv (.t 0), none⟩,
 ⟨some 47, .nilchk (.t 46), none⟩,
 ⟨some 48, .faddr 17 (.t 47), none⟩,
 ⟨some 49, .faddr 2 (.t 48), none⟩,
 ⟨some 50, .load .glob none (.t 49), none⟩,
 ⟨some 51, .bin .sub (.t 45) (.t 50), none⟩,
 ⟨some 52, .mm false (.t 43) (.t 51), none⟩,
 ⟨some 53, .nilchk (.t 42), none⟩,
 ⟨some 54, .faddr 17 (.t 53), none⟩,
 ⟨some 55, .faddr 3 (.t 54), none⟩,
 ⟨none, .store .glob [none] (.t 55) (.t 52), none⟩] ⟨[], [], []⟩))

/- 76 -/
def v_dam_work_turbines_b0 : VC :=
 .seq (
 .region [] [] [
 ⟨some 53, .bin .lss (.t 52) (.t 51), none⟩] ⟨[0, 3, 4, 50, 51, 52, 53], [], []⟩) (
 .seq (
 .cond (.t 53) (
 .skip) (
 .exit 0)) (
 .seq (
 .block 1 (
 .seq (
 .region [] [6] [
 ⟨some 54, .mv (.t 52), none⟩,
 ⟨some 55, .iaddr none 6 (.t 50) (.t 52), none⟩,
 ⟨some 56, .load .imm (some 6) (.t 55), none⟩,
 ⟨some 6, .obj 6 [.nils, .int .i64 0, .int .i64 0, .nils, .int .i64 0, .int .i64 0], none⟩,
 ⟨some 5, .mv (.t 54), none⟩,
 ⟨none, .store (.loc 6) [some 2, none, none, some 2, none, none] (.t 6) (.t 56), none⟩] ⟨[0, 3, 4, 5, 6, 50, 51, 52], [6], []⟩) (
 .seq (
 .region [] [] [
 ⟨some 7, .mv (.c (.int .i64 0)), none⟩] ⟨[0, 3, 4, 5, 6, 7, 50, 51, 52], [6], []⟩) (
 .seq (
 .seq (
 .region [] [] [
 ⟨some 57, .mv (.t 4), none⟩,
 ⟨some 58, .bin .eql (.t 57) (.c (.int .i64 0)), none⟩] ⟨[0, 3, 4, 5, 6, 7, 50, 51, 52, 58], [6], []⟩) (
 .cond (.t 58) (
 .region [] [] [
 ⟨some 59, .mv (.t 3), none⟩,
 ⟨some 60, .mv (.t 5), none⟩,
 ⟨some 61, .iaddr none 1 (.t 59) (.t 60), none⟩,
 ⟨some 62, .load .imm none (.t 61), none⟩,
 ⟨some 7, .mv (.t 62), none⟩] ⟨[0, 3, 4, 5, 6, 7, 50, 51, 52], [6], []⟩) (
 .skip))) (
 .seq (
 .region [] [8] [
 ⟨some 64, .load (.loc 6) (some 6) (.t 6), none⟩,
 ⟨some 65, .mv (.t 0), none⟩,
 ⟨some 66, .nilchk (.t 65), none⟩,
 ⟨some 67, .faddr 9 (.t 66), none⟩,
 ⟨some 68, .faddr 2 (.t 67), none⟩,
 ⟨some 69, .load .glob none (.t 68), none⟩,
 ⟨some 70, .mv (.t 5), none⟩,
 ⟨some 71, .iaddr none 3 (.t 69) (.t 70), none⟩,
 ⟨some 72, .load .imm (some 3) (.t 71), none⟩,
 ⟨some 73, .mv (.t 7), none⟩,
 ⟨some 74, .call true (.c (.fn 101 [])) [([some 2, none, none, some 2, none, none], (.t 64)), ([none, none, none], (.t 72)), ([none], (.t 73))] [], none⟩,
 ⟨some 63, .mv (.t 74), none⟩,
 ⟨some 75, .ext (.t 63) 0, none⟩,
 ⟨some 76, .ext (.t 63) 1, none⟩,
 ⟨some 77, .ext (.t 63) 2, none⟩,
 ⟨some 8, .obj 8 [.int .i64 0, .int .i64 0, .bool false], none⟩,
 ⟨none, .store (.loc 8) [none, none, none] (.t 8) (.t 75), none⟩,
 ⟨some 9, .mv (.t 76), none⟩,
 ⟨some 10, .mv (.t 77), none⟩] ⟨[0, 3, 4, 5, 6, 7, 8, 9, 10, 50, 51, 52], [6, 8], []⟩) (
 .seq (
 .seq (
 .region [] [] [
 ⟨some 78, .mv (.t 10), none⟩,
 ⟨some 79, .bin .neq (.t 78) (.c (.int .i64 0)), none⟩] ⟨[0, 3, 4, 5, 6, 7, 8, 9, 50, 51, 52, 79], [6, 8], []⟩) (
 .cond (.t 79) (
 .region [] [] [
 ⟨some 80, .mv (.t 0), none⟩,
 ⟨some 81, .nilchk (.t 80), none⟩,
 ⟨some 82, .faddr 9 (.t 81), none⟩,
 ⟨some 83, .faddr 2 (.t 82), none⟩,
 ⟨some 84, .load .glob none (.t 83), none⟩,
 ⟨some 85, .mv (.t 5), none⟩,
 ⟨some 86, .iaddr none 3 (.t 84) (.t 85), none⟩,
 ⟨some 87, .faddr 2 (.t 86), none⟩,
 ⟨some 88, .load .imm none (.t 87), none⟩,
 ⟨some 89, .build [.int .i64 0, .int .i64 0, .bool false] [(1, 1, (.c (.int .i64 1))), (2, 1, (.t 88))], none⟩,
 ⟨none, .store (.loc 8) [none, none, none] (.t 8) (.t 89), none⟩] ⟨[0, 3, 4, 6, 7, 8, 9, 50, 51, 52], [6, 8], []⟩) (
 .skip))) (
 .seq (
 .region [] [] [
 ⟨some 91, .load (.loc 6) (some 6) (.t 6), none⟩,
 ⟨some 92, .mv (.t 7), none⟩,
 ⟨some 93, .call true (.c (.fn 102 [])) [([some 2, none, none, some 2, none, none], (.t 91)), ([none], (.t 92))] [], none⟩,
 ⟨some 90, .mv (.t 93), none⟩,
 ⟨some 94, .ext (.t 90) 0, none⟩,
 ⟨some 95, .ext (.t 90) 1, none⟩,
 ⟨some 11, .mv (.t 94), none⟩,
 ⟨some 12, .mv (.t 95), none⟩] ⟨[0, 3, 4, 7, 8, 9, 11, 50, 51, 52], [8], []⟩) (
 .seq (
 .region [] [] [
 ⟨some 96, .mv (.t 0), none⟩,
 ⟨some 97, .mv (.t 0), none⟩,
 ⟨some 98, .mv (.t 0), none⟩,
 ⟨some 99, .nilchk (.t 98), none⟩,
 ⟨some 100, .faddr 17 (.t 99), none⟩,
 ⟨some 101, .faddr 2 (.t 100), none⟩,
 ⟨some 102, .load .glob none (.t 101), none⟩,
 ⟨some 103, .mv (.t 7), none⟩,
 ⟨some 104, .bin .add (.t 102) (.t 103), none⟩,
 ⟨some 105, .mv (.t 0), none⟩,
 ⟨some 106, .nilchk (.t 105), none⟩,
 ⟨some 107, .faddr 17 (.t 106), none⟩,
 ⟨some 108, .faddr 5 (.t 107), none⟩,
 ⟨some 109, .load .glob none (.t 108), none⟩,
 ⟨some 110, .mv (.t 11), none⟩,
 ⟨some 111, .bin .add (.t 109) (.t 110), none⟩,
 ⟨some 112, .nilchk (.t 96), none⟩,
 ⟨some 113, .faddr 17 (.t 112), none⟩,
 ⟨some 114, .faddr 2 (.t 113), none⟩,
 ⟨none, .store .glob [none] (.t 114) (.t 104), none⟩,
 ⟨some 115, .nilchk (.t 97), none⟩,
 ⟨some 116, .faddr 17 (.t 115), none⟩,
 ⟨some 117, .faddr 5 (.t 116), none⟩,
 ⟨none, .store .glob [none] (.t 117) (.t 111), none⟩] ⟨[0, 3, 4, 8, 9, 50, 51, 52], [8], []⟩) (
 .seq (
 .seq (
 .region [] [] [
 ⟨some 118, .mv (.t 9), none⟩] ⟨[0, 3, 4, 8, 50, 51, 52, 118], [8], []⟩) (
 .cond (.t 118) (
 .region [] [] [
 ⟨some 119, .mv (.t 0), none⟩,
 ⟨some 120, .nilchk (.t 119), none⟩,
 ⟨some 121, .faddr 17 (.t 120), none⟩,
 ⟨some 122, .faddr 6 (.t 121), none⟩,
 ⟨some 123, .load .glob none (.t 122), none⟩,
 ⟨some 124, .bin .add (.t 123) (.c (.int .i64 1)), none⟩,
 ⟨some 125, .nilchk (.t 119), none⟩,
 ⟨some 126, .faddr 17 (.t 125), none⟩,
 ⟨some 127, .faddr 6 (.t 126), none⟩,
 ⟨none, .store .glob [none] (.t 127) (.t 124), none⟩] ⟨[0, 3, 4, 8, 50, 51, 52], [8], []⟩) (
 .skip))) (
 .region [] [30133, 5136] [
 ⟨some 128, .mv (.t 0), none⟩,
 ⟨some 129, .mv (.t 0), none⟩,
 ⟨some 130, .nilchk (.t 129), none⟩,
 ⟨some 131, .faddr 13 (.t 130), none⟩,
 ⟨some 132, .faddr 2 (.t 131), none⟩,
 ⟨some 133, .gtake 30133 (.t 132), none⟩,
 ⟨some 134, .load (.loc 8) (some 3) (.t 8), none⟩,
 ⟨some 135, .lit none [none, none, none] [.int .i64 0, .int .i64 0, .bool false] 1 [(0, (.t 134))], none⟩,
 ⟨some 136, .app 5136 (some 30133) [none, none, none] (.t 133) (.t 135), none⟩,
 ⟨some 137, .nilchk (.t 128), none⟩,
 ⟨some 138, .faddr 13 (.t 137), none⟩,
 ⟨some 139, .faddr 2 (.t 138), none⟩,
 ⟨none, .gput 30133 (.t 139) (.t 136), none⟩] ⟨[0, 3, 4, 50, 51, 52], [], []⟩)))))))))) (
 .region [] [] [
 ⟨some 140, .bin .add (.t 52) (.c (.int .i64 1)), none⟩,
 ⟨some 52, .mv (.t 140), none⟩] ⟨[0, 3, 4, 50, 51, 52], [], []⟩)))

def v_dam_work_turbines_l0 : VC := .loop [] ⟨[0, 3, 4, 50, 51, 52], [], []⟩ v_dam_work_turbines_b0

abbrev v_dam_work_turbines_s0 (x0 : V) (x3 : V) (x4 : Int) (x50 : V) (x51 : Int) (x52 : Int) (G : List GObj) : St := ⟨[(0, x0), (3, x3), (4, .int .i64 x4), (50, x50), (51, .int .i64 x51), (52, .int .i64 x52)], [], [], G⟩

def v_dam_work_turbines : VFunc where
  nparams := 1
  results := []
  body :=
 .seq (
 .region [] [] [
 ⟨some 13, .mv (.t 0), none⟩,
 ⟨some 14, .nilchk (.t 13), none⟩,
 ⟨some 15, .faddr 24 (.t 14), none⟩,
 ⟨some 16, .load .glob none (.t 15), none⟩,
 ⟨some 17, .mv (.t 0), none⟩,
 ⟨some 18, .rcall (.c (.fn 99 [])) [([none], (.t 17))], none⟩,
 ⟨some 19, .mv (.t 0), none⟩,
 ⟨some 20, .nilchk (.t 19), none⟩,
 ⟨some 21, .faddr 0 (.t 20), none⟩,
 ⟨some 22, .faddr 8 (.t 21), none⟩,
 ⟨some 23, .load .glob none (.t 22), none⟩,
 ⟨some 24, .bin .mul (.c (.int .i64 200)) (.t 23), none⟩,
 ⟨some 25, .mm3 false (.t 16) (.t 18) (.t 24), none⟩,
 ⟨some 2, .mv (.t 25), none⟩] ⟨[0, 2], [], []⟩) (
 .seq (
 .region [] [] [
 ⟨some 27, .mv (.t 0), none⟩,
 ⟨some 28, .nilchk (.t 27), none⟩,
 ⟨some 29, .faddr 0 (.t 28), none⟩,
 ⟨some 30, .faddr 6 (.t 29), none⟩,
 ⟨some 31, .load .glob none (.t 30), none⟩,
 ⟨some 32, .mv (.t 0), none⟩,
 ⟨some 33, .nilchk (.t 32), none⟩,
 ⟨some 34, .faddr 9 (.t 33), none⟩,
 ⟨some 35, .faddr 2 (.t 34), none⟩,
 ⟨some 36, .load .glob none (.t 35), none⟩,
 ⟨some 37, .mv (.t 0), none⟩,
 ⟨some 38, .nilchk (.t 37), none⟩,
 ⟨some 39, .faddr 0 (.t 38), none⟩,
 ⟨some 40, .faddr 8 (.t 39), none⟩,
 ⟨some 41, .load .glob none (.t 40), none⟩,
 ⟨some 42, .mv (.t 2), none⟩,
 ⟨some 43, .call true (.c (.fn 100 [])) [([some 6], (.t 31)), ([some 3], (.t 36)), ([none], (.t 41)), ([none], (.t 42))] [], none⟩,
 ⟨some 26, .mv (.t 43), none⟩,
 ⟨some 44, .ext (.t 26) 0, none⟩,
 ⟨some 45, .ext (.t 26) 1, none⟩,
 ⟨some 3, .mv (.t 44), none⟩,
 ⟨some 4, .mv (.t 45), none⟩] ⟨[0, 3, 4], [], []⟩) (
 .seq (
 .region [] [] [
 ⟨some 46, .mv (.t 0), none⟩,
 ⟨some 47, .nilchk (.t 46), none⟩,
 ⟨some 48, .faddr 0 (.t 47), none⟩,
 ⟨some 49, .faddr 6 (.t 48), none⟩,
 ⟨some 50, .load .glob none (.t 49), none⟩,
 ⟨some 51, .len (.t 50), none⟩,
 ⟨some 52, .mv (.c (.int .i64 0)), none⟩] ⟨[0, 3, 4, 50, 51, 52], [], []⟩) (
 .block 0 (
 v_dam_work_turbines_l0))))

/- 77 -/

def v_r01_in : VFunc where
  nparams := 2
  results := [.t 4 [none]]
  body :=
 .seq (
 .region [] [] [
 ⟨some 4, .mv (.c (.bool false)), none⟩] ⟨[0, 1], [], []⟩) (
 .seq (
 .region [] [] [
 ⟨some 5, .mv (.t 0), none⟩,
 ⟨some 6, .bin .geq (.t 5) (.c (.int .i64 0)), none⟩,
 ⟨some 7, .mv (.t 6), none⟩,
 ⟨some 8, .mv (.t 0), some (7, true)⟩,
 ⟨some 9, .mv (.t 1), some (7, true)⟩,
 ⟨some 10, .bin .leq (.t 8) (.t 9), some (7, true)⟩,
 ⟨some 11, .pick (.t 7) (.t 10) (.c (.bool false)), none⟩,
 ⟨some 4, .mv (.t 11), none⟩] ⟨[4], [], []⟩) (
 .ret))

/- 79 -/
def v_curve_Check_b0 : VC :=
 .seq (
 .region [] [] [
 ⟨some 17, .bin .lss (.t 16) (.t 15), none⟩] ⟨[0, 14, 15, 16, 17], [], []⟩) (
 .seq (
 .cond (.t 17) (
 .skip) (
 .exit 1)) (
 .seq (
 .block 2 (
 .seq (
 .region [] [4] [
 ⟨some 18, .mv (.t 16), none⟩,
 ⟨some 19, .iaddr none 2 (.t 14) (.t 16), none⟩,
 ⟨some 20, .load .imm (some 2) (.t 19), none⟩,
 ⟨some 4, .obj 4 [.int .i64 0, .int .i64 0], none⟩,
 ⟨some 3, .mv (.t 18), none⟩,
 ⟨none, .store (.loc 4) [none, none] (.t 4) (.t 20), none⟩] ⟨[0, 3, 4, 14, 15, 16], [4], []⟩) (
 .seq (
 .seq (
 .region [] [] [
 ⟨some 21, .faddr 0 (.t 4), none⟩,
 ⟨some 22, .load (.loc 4) none (.t 21), none⟩,
 ⟨some 23, .call true (.c (.fn 41 [])) [([none], (.t 22)), ([none], (.c (.int .i64 1073741824)))] [], none⟩,
 ⟨some 24, .un .not (.t 23), none⟩,
 ⟨some 25, .mv (.t 24), none⟩,
 ⟨some 26, .faddr 1 (.t 4), some (25, false)⟩,
 ⟨some 27, .load (.loc 4) none (.t 26), some (25, false)⟩,
 ⟨some 28, .call true (.c (.fn 41 [])) [([none], (.t 27)), ([none], (.c (.int .i64 274877906944)))] [], some (25, false)⟩,
 ⟨some 29, .un .not (.t 28), some (25, false)⟩,
 ⟨some 30, .pick (.t 25) (.c (.bool true)) (.t 29), none⟩] ⟨[0, 3, 4, 14, 15, 16, 30], [4], []⟩) (
 .cond (.t 30) (
 .seq (
 .region [] [] [
 ⟨some 2, .mv (.c (.int .i64 1)), none⟩] ⟨[2], [], []⟩) (
 .ret)) (
 .skip))) (
 .seq (
 .seq (
 .region [] [] [
 ⟨some 31, .mv (.t 3), none⟩,
 ⟨some 32, .bin .eql (.t 31) (.c (.int .i64 0)), none⟩] ⟨[0, 3, 4, 14, 15, 16, 32], [4], []⟩) (
 .cond (.t 32) (
 .exit 2) (
 .skip))) (
 .seq (
 .region [] [5] [
 ⟨some 33, .mv (.t 0), none⟩,
 ⟨some 34, .mv (.t 3), none⟩,
 ⟨some 35, .bin .sub (.t 34) (.c (.int .i64 1)), none⟩,
 ⟨some 36, .iaddr none 2 (.t 33) (.t 35), none⟩,
 ⟨some 37, .load .imm (some 2) (.t 36), none⟩,
 ⟨some 5, .obj 5 [.int .i64 0, .int .i64 0], none⟩,
 ⟨none, .store (.loc 5) [none, none] (.t 5) (.t 37), none⟩] ⟨[0, 4, 5, 14, 15, 16], [4, 5], []⟩) (
 .block 3 (
 .seq (
 .region [] [] [
 ⟨some 39, .faddr 0 (.t 4), none⟩,
 ⟨some 40, .load (.loc 4) none (.t 39), none⟩,
 ⟨some 41, .faddr 0 (.t 5), none⟩,
 ⟨some 42, .load (.loc 5) none (.t 41), none⟩,
 ⟨some 43, .bin .leq (.t 40) (.t 42), none⟩,
 ⟨some 44, .mv (.t 43), none⟩,
 ⟨some 45, .faddr 1 (.t 4), some (44, false)⟩,
 ⟨some 46, .load (.loc 4) none (.t 45), some (44, false)⟩,
 ⟨some 47, .faddr 1 (.t 5), some (44, false)⟩,
 ⟨some 48, .load (.loc 5) none (.t 47), some (44, false)⟩,
 ⟨some 49, .bin .lss (.t 46) (.t 48), some (44, false)⟩,
 ⟨some 50, .pick (.t 44) (.c (.bool true)) (.t 49), none⟩,
 ⟨some 38, .mv (.t 50), none⟩] ⟨[0, 4, 5, 14, 15, 16, 38], [4, 5], []⟩) (
 .cond (.t 38) (
 .seq (
 .region [] [] [
 ⟨some 2, .mv (.c (.int .i64 4)), none⟩] ⟨[2], [], []⟩) (
 .ret)) (
 .seq (
 .region [] [] [
 ⟨some 52, .faddr 0 (.t 4), none⟩,
 ⟨some 53, .load (.loc 4) none (.t 52), none⟩,
 ⟨some 54, .faddr 0 (.t 5), none⟩,
 ⟨some 55, .load (.loc 5) none (.t 54), none⟩,
 ⟨some 56, .bin .sub (.t 53) (.t 55), none⟩,
 ⟨some 57, .faddr 1 (.t 4), none⟩,
 ⟨some 58, .load (.loc 4) none (.t 57), none⟩,
 ⟨some 59, .faddr 1 (.t 5), none⟩,
 ⟨some 60, .load (.loc 5) none (.t 59), none⟩,
 ⟨some 61, .bin .sub (.t 58) (.t 60), none⟩,
 ⟨some 62, .call true (.c (.fn 104 [])) [([none], (.t 56)), ([none], (.t 61))] [], none⟩,
 ⟨some 51, .mv (.t 62), none⟩] ⟨[0, 14, 15, 16, 51], [], []⟩) (
 .cond (.t 51) (
 .seq (
 .region [] [] [
 ⟨some 2, .mv (.c (.int .i64 1)), none⟩] ⟨[2], [], []⟩) (
 .ret)) (
 .skip))))))))))) (
 .region [] [] [
 ⟨some 63, .bin .add (.t 16) (.c (.int .i64 1)), none⟩,
 ⟨some 16, .mv (.t 63), none⟩] ⟨[0, 14, 15, 16], [], []⟩)))

def v_curve_Check_l0 : VC := .loop [] ⟨[0, 14, 15, 16], [], []⟩ v_curve_Check_b0

abbrev v_curve_Check_s0 (x0 : V) (x14 : V) (x15 : Int) (x16 : Int) (G : List GObj) : St := ⟨[(0, x0), (14, x14), (15, .int .i64 x15), (16, .int .i64 x16)], [], [], G⟩

def v_curve_Check : VFunc where
  nparams := 1
  results := [.t 2 [none]]
  body :=
 .seq (
 .region [] [] [
 ⟨some 2, .mv (.c (.int .i64 0)), none⟩] ⟨[0], [], []⟩) (
 .seq (
 .block 0 (
 .seq (
 .region [] [] [
 ⟨some 7, .mv (.t 0), none⟩,
 ⟨some 8, .len (.t 7), none⟩,
 ⟨some 9, .bin .eql (.t 8) (.c (.int .i64 0)), none⟩,
 ⟨some 6, .mv (.t 9), none⟩] ⟨[0, 6], [], []⟩) (
 .cond (.t 6) (
 .seq (
 .region [] [] [
 ⟨some 2, .mv (.c (.int .i64 3)), none⟩] ⟨[2], [], []⟩) (
 .ret)) (
 .seq (
 .region [] [] [
 ⟨some 11, .mv (.t 0), none⟩,
 ⟨some 12, .len (.t 11), none⟩,
 ⟨some 13, .bin .gtr (.t 12) (.c (.int .i64 100)), none⟩,
 ⟨some 10, .mv (.t 13), none⟩] ⟨[0, 10], [], []⟩) (
 .cond (.t 10) (
 .seq (
 .region [] [] [
 ⟨some 2, .mv (.c (.int .i64 10)), none⟩] ⟨[2], [], []⟩) (
 .ret)) (
 .skip)))))) (
 .seq (
 .seq (
 .region [] [] [
 ⟨some 14, .mv (.t 0), none⟩,
 ⟨some 15, .len (.t 14), none⟩,
 ⟨some 16, .mv (.c (.int .i64 0)), none⟩] ⟨[0, 14, 15, 16], [], []⟩) (
 .block 1 (
 v_curve_Check_l0))) (
 .seq (
 .region [] [] [
 ⟨some 2, .mv (.c (.int .i64 0)), none⟩] ⟨[2], [], []⟩) (
 .ret))))

/- 81 -/
def v_curve_Last_b0 : VC :=
 .seq (
 .region [] [] [
 ⟨some 26, .bin .lss (.t 25) (.t 24), none⟩] ⟨[0, 1, 23, 24, 25, 26], [], []⟩) (
 .seq (
 .cond (.t 26) (
 .skip) (
 .exit 0)) (
 .seq (
 .block 1 (
 .seq (
 .region [] [9] [
 ⟨some 27, .mv (.t 25), none⟩,
 ⟨some 28, .iaddr none 2 (.t 23) (.t 25), none⟩,
 ⟨some 29, .load .imm (some 2) (.t 28), none⟩,
 ⟨some 9, .obj 9 [.int .i64 0, .int .i64 0], none⟩,
 ⟨some 8, .mv (.t 27), none⟩,
 ⟨none, .store (.loc 9) [none, none] (.t 9) (.t 29), none⟩] ⟨[0, 1, 8, 9, 23, 24, 25], [9], []⟩) (
 .seq (
 .region [] [10] [
 ⟨some 30, .mv (.t 0), none⟩,
 ⟨some 31, .mv (.t 8), none⟩,
 ⟨some 32, .iaddr none 2 (.t 30) (.t 31), none⟩,
 ⟨some 33, .load .imm (some 2) (.t 32), none⟩,
 ⟨some 10, .obj 10 [.int .i64 0, .int .i64 0], none⟩,
 ⟨none, .store (.loc 10) [none, none] (.t 10) (.t 33), none⟩] ⟨[0, 1, 9, 10, 23, 24, 25], [9, 10], []⟩) (
 .seq (
 .region [] [] [
 ⟨some 34, .faddr 1 (.t 9), none⟩,
 ⟨some 35, .load (.loc 9) none (.t 34), none⟩,
 ⟨some 36, .mv (.t 1), none⟩,
 ⟨some 37, .bin .gtr (.t 35) (.t 36), none⟩] ⟨[0, 1, 9, 10, 23, 24, 25, 37], [9, 10], []⟩) (
 .cond (.t 37) (
 .seq (
 .region [] [] [
 ⟨some 38, .faddr 0 (.t 10), none⟩,
 ⟨some 39, .load (.loc 10) none (.t 38), none⟩,
 ⟨some 40, .mv (.t 1), none⟩,
 ⟨some 41, .faddr 1 (.t 10), none⟩,
 ⟨some 42, .load (.loc 10) none (.t 41), none⟩,
 ⟨some 43, .bin .sub (.t 40) (.t 42), none⟩,
 ⟨some 44, .bin .add (.t 43) (.c (.int .i64 1)), none⟩,
 ⟨some 45, .faddr 0 (.t 9), none⟩,
 ⟨some 46, .load (.loc 9) none (.t 45), none⟩,
 ⟨some 47, .faddr 0 (.t 10), none⟩,
 ⟨some 48, .load (.loc 10) none (.t 47), none⟩,
 ⟨some 49, .bin .sub (.t 46) (.t 48), none⟩,
 ⟨some 50, .bin .mul (.t 44) (.t 49), none⟩,
 ⟨some 51, .bin .sub (.t 50) (.c (.int .i64 1)), none⟩,
 ⟨some 52, .faddr 1 (.t 9), none⟩,
 ⟨some 53, .load (.loc 9) none (.t 52), none⟩,
 ⟨some 54, .faddr 1 (.t 10), none⟩,
 ⟨some 55, .load (.loc 10) none (.t 54), none⟩,
 ⟨some 56, .bin .sub (.t 53) (.t 55), none⟩,
 ⟨some 57, .bin .quo (.t 51) (.t 56), none⟩,
 ⟨some 58, .bin .add (.t 39) (.t 57), none⟩,
 ⟨some 4, .mv (.t 58), none⟩,
 ⟨some 5, .mv (.c (.bool true)), none⟩,
 ⟨some 6, .mv (.c (.int .i64 0)), none⟩] ⟨[4, 5, 6], [], []⟩) (
 .ret)) (
 .skip)))))) (
 .region [] [] [
 ⟨some 59, .bin .add (.t 25) (.c (.int .i64 1)), none⟩,
 ⟨some 25, .mv (.t 59), none⟩] ⟨[0, 1, 23, 24, 25], [], []⟩)))

def v_curve_Last_l0 : VC := .loop [] ⟨[0, 1, 23, 24, 25], [], []⟩ v_curve_Last_b0

abbrev v_curve_Last_s0 (x0 : V) (x1 : Int) (x23 : V) (x24 : Int) (x25 : Int) (G : List GObj) : St := ⟨[(0, x0), (1, .int .i64 x1), (23, x23), (24, .int .i64 x24), (25, .int .i64 x25)], [], [], G⟩

def v_curve_Last : VFunc where
  nparams := 2
  results := [.t 4 [none], .t 5 [none], .t 6 [none]]
  body :=
 .seq (
 .region [] [] [
 ⟨some 4, .mv (.c (.int .i64 0)), none⟩,
 ⟨some 5, .mv (.c (.bool false)), none⟩,
 ⟨some 6, .mv (.c (.int .i64 0)), none⟩] ⟨[0, 1], [], []⟩) (
 .seq (
 .seq (
 .region [] [] [
 ⟨some 11, .mv (.t 0), none⟩,
 ⟨some 12, .call true (.c (.fn 79 [])) [([some 2], (.t 11))] [], none⟩,
 ⟨some 7, .mv (.t 12), none⟩] ⟨[0, 1, 7], [], []⟩) (
 .seq (
 .region [] [] [
 ⟨some 13, .mv (.t 7), none⟩,
 ⟨some 14, .bin .neq (.t 13) (.c (.int .i64 0)), none⟩] ⟨[0, 1, 7, 14], [], []⟩) (
 .cond (.t 14) (
 .seq (
 .region [] [] [
 ⟨some 15, .mv (.t 7), none⟩,
 ⟨some 4, .mv (.c (.int .i64 0)), none⟩,
 ⟨some 5, .mv (.c (.bool false)), none⟩,
 ⟨some 6, .mv (.t 15), none⟩] ⟨[4, 5, 6], [], []⟩) (
 .ret)) (
 .skip)))) (
 .seq (
 .seq (
 .region [] [] [
 ⟨some 16, .mv (.t 0), none⟩,
 ⟨some 17, .iaddr none 2 (.t 16) (.c (.int .i64 0)), none⟩,
 ⟨some 18, .faddr 1 (.t 17), none⟩,
 ⟨some 19, .load .imm none (.t 18), none⟩,
 ⟨some 20, .mv (.t 1), none⟩,
 ⟨some 21, .bin .gtr (.t 19) (.t 20), none⟩] ⟨[0, 1, 21], [], []⟩) (
 .cond (.t 21) (
 .seq (
 .region [] [] [
 ⟨some 4, .mv (.c (.int .i64 0)), none⟩,
 ⟨some 5, .mv (.c (.bool false)), none⟩,
 ⟨some 6, .mv (.c (.int .i64 0)), none⟩] ⟨[4, 5, 6], [], []⟩) (
 .ret)) (
 .skip))) (
 .seq (
 .seq (
 .region [] [] [
 ⟨some 22, .mv (.t 0), none⟩,
 ⟨some 23, .slc 2 (.t 22) (some (.c (.int .i64 1))) none, none⟩,
 ⟨some 24, .len (.t 23), none⟩,
 ⟨some 25, .mv (.c (.int .i64 0)), none⟩] ⟨[0, 1, 23, 24, 25], [], []⟩) (
 .block 0 (
 v_curve_Last_l0))) (
 .seq (
 .region [] [] [
 ⟨some 60, .mv (.t 0), none⟩,
 ⟨some 61, .mv (.t 0), none⟩,
 ⟨some 62, .len (.t 61), none⟩,
 ⟨some 63, .bin .sub (.t 62) (.c (.int .i64 1)), none⟩,
 ⟨some 64, .iaddr none 2 (.t 60) (.t 63), none⟩,
 ⟨some 65, .faddr 0 (.t 64), none⟩,
 ⟨some 66, .load .imm none (.t 65), none⟩,
 ⟨some 4, .mv (.t 66), none⟩,
 ⟨some 5, .mv (.c (.bool true)), none⟩,
 ⟨some 6, .mv (.c (.int .i64 0)), none⟩] ⟨[4, 5, 6], [], []⟩) (
 .ret)))))

/- 83 -/
def v_dispatch_station_b0 : VC :=
 .seq (
 .region [] [] [
 ⟨some 28, .bin .lss (.t 27) (.t 26), none⟩] ⟨[0, 1, 2, 3, 25, 26, 27, 28], [], []⟩) (
 .seq (
 .cond (.t 28) (
 .skip) (
 .exit 0)) (
 .seq (
 .block 1 (
 .seq (
 .region [] [11] [
 ⟨some 29, .mv (.t 27), none⟩,
 ⟨some 30, .iaddr none 6 (.t 25) (.t 27), none⟩,
 ⟨some 31, .load .imm (some 6) (.t 30), none⟩,
 ⟨some 11, .obj 11 [.nils, .int .i64 0, .int .i64 0, .nils, .int .i64 0, .int .i64 0], none⟩,
 ⟨some 10, .mv (.t 29), none⟩,
 ⟨none, .store (.loc 11) [some 2, none, none, some 2, none, none] (.t 11) (.t 31), none⟩] ⟨[0, 1, 2, 3, 10, 11, 25, 26, 27], [11], []⟩) (
 .seq (
 .region [] [] [
 ⟨some 32, .load (.loc 11) (some 6) (.t 11), none⟩,
 ⟨some 33, .mv (.t 1), none⟩,
 ⟨some 34, .mv (.t 10), none⟩,
 ⟨some 35, .iaddr none 3 (.t 33) (.t 34), none⟩,
 ⟨some 36, .load .imm (some 3) (.t 35), none⟩,
 ⟨some 37, .call true (.c (.fn 93 [])) [([some 2, none, none, some 2, none, none], (.t 32)), ([none, none, none], (.t 36))] [], none⟩,
 ⟨some 38, .un .not (.t 37), none⟩] ⟨[0, 1, 2, 3, 25, 26, 27, 38], [], []⟩) (
 .cond (.t 38) (
 .seq (
 .region [] [] [
 ⟨some 8, .mv (.c (.nils)), none⟩,
 ⟨some 9, .mv (.c (.int .i64 3)), none⟩] ⟨[8, 9], [], [1079]⟩) (
 .ret)) (
 .skip))))) (
 .region [] [] [
 ⟨some 39, .bin .add (.t 27) (.c (.int .i64 1)), none⟩,
 ⟨some 27, .mv (.t 39), none⟩] ⟨[0, 1, 2, 3, 25, 26, 27], [], []⟩)))

def v_dispatch_station_l0 : VC := .loop [] ⟨[0, 1, 2, 3, 25, 26, 27], [], []⟩ v_dispatch_station_b0

abbrev v_dispatch_station_s0 (x0 : V) (x1 : V) (x2 : Int) (x3 : Int) (x25 : V) (x26 : Int) (x27 : Int) (G : List GObj) : St := ⟨[(0, x0), (1, x1), (2, .int .i64 x2), (3, .int .i64 x3), (25, x25), (26, .int .i64 x26), (27, .int .i64 x27)], [], [], G⟩

def v_dispatch_station_b1 : VC :=
 .seq (
 .region [] [] [
 ⟨some 60, .bin .lss (.t 59) (.t 58), none⟩] ⟨[1, 2, 12, 57, 58, 59, 60], [], [1079]⟩) (
 .seq (
 .cond (.t 60) (
 .skip) (
 .exit 3)) (
 .seq (
 .block 4 (
 .seq (
 .region [] [14] [
 ⟨some 61, .mv (.t 59), none⟩,
 ⟨some 62, .iaddr none 6 (.t 57) (.t 59), none⟩,
 ⟨some 63, .load .imm (some 6) (.t 62), none⟩,
 ⟨some 14, .obj 14 [.nils, .int .i64 0, .int .i64 0, .nils, .int .i64 0, .int .i64 0], none⟩,
 ⟨some 13, .mv (.t 61), none⟩,
 ⟨none, .store (.loc 14) [some 2, none, none, some 2, none, none] (.t 14) (.t 63), none⟩] ⟨[1, 2, 12, 13, 14, 57, 58, 59], [14], [1079]⟩) (
 .seq (
 .region [] [] [
 ⟨some 65, .load (.loc 14) (some 6) (.t 14), none⟩,
 ⟨some 66, .mv (.t 1), none⟩,
 ⟨some 67, .mv (.t 13), none⟩,
 ⟨some 68, .iaddr none 3 (.t 66) (.t 67), none⟩,
 ⟨some 69, .load .imm (some 3) (.t 68), none⟩,
 ⟨some 70, .mv (.t 2), none⟩,
 ⟨some 71, .call true (.c (.fn 106 [])) [([some 2, none, none, some 2, none, none], (.t 65)), ([none, none, none], (.t 69)), ([none], (.t 70))] [], none⟩,
 ⟨some 64, .mv (.t 71), none⟩,
 ⟨some 72, .ext (.t 64) 0, none⟩,
 ⟨some 73, .ext (.t 64) 1, none⟩,
 ⟨some 15, .mv (.t 72), none⟩,
 ⟨some 16, .mv (.t 73), none⟩] ⟨[1, 2, 12, 15, 16, 57, 58, 59], [], [1079]⟩) (
 .seq (
 .seq (
 .region [] [] [
 ⟨some 74, .mv (.t 16), none⟩,
 ⟨some 75, .un .not (.t 74), none⟩] ⟨[1, 2, 12, 15, 57, 58, 59, 75], [], [1079]⟩) (
 .cond (.t 75) (
 .seq (
 .region [] [] [
 ⟨some 8, .mv (.c (.nils)), none⟩,
 ⟨some 9, .mv (.c (.int .i64 10)), none⟩] ⟨[8, 9], [], [1079]⟩) (
 .ret)) (
 .skip))) (
 .region [.norm 12 1079 1] [5079] [
 ⟨some 76, .mv (.t 12), none⟩,
 ⟨some 77, .mv (.t 15), none⟩,
 ⟨some 78, .lit none [some 3] [.slice none 3 []] 1 [(0, (.t 77))], none⟩,
 ⟨some 79, .app 5079 (some 1079) [some 3] (.t 76) (.t 78), none⟩,
 ⟨some 12, .mv (.t 79), none⟩] ⟨[1, 2, 12, 57, 58, 59], [], [1079]⟩))))) (
 .region [] [] [
 ⟨some 80, .bin .add (.t 59) (.c (.int .i64 1)), none⟩,
 ⟨some 59, .mv (.t 80), none⟩] ⟨[1, 2, 12, 57, 58, 59], [], [1079]⟩)))

def v_dispatch_station_l1 : VC := .loop [.norm 12 1079 1] ⟨[1, 2, 12, 57, 58, 59], [], [1079]⟩ v_dispatch_station_b1

abbrev v_dispatch_station_s1 (x1 : V) (x2 : Int) (x12 : V) (x57 : V) (x58 : Int) (x59 : Int) (k1079 : Nat) (G : List GObj) : St := ⟨[(1, x1), (2, .int .i64 x2), (12, x12), (57, x57), (58, .int .i64 x58), (59, .int .i64 x59)], [], [(1079, k1079)], G⟩

def v_dispatch_station : VFunc where
  nparams := 4
  results := [.t 8 [some 1], .t 9 [none]]
  body :=
 .seq (
 .region [] [] [
 ⟨some 8, .mv (.c (.nils)), none⟩,
 ⟨some 9, .mv (.c (.int .i64 0)), none⟩] ⟨[0, 1, 2, 3], [], []⟩) (
 .seq (
 .seq (
 .region [] [] [
 ⟨some 17, .mv (.t 0), none⟩,
 ⟨some 18, .len (.t 17), none⟩,
 ⟨some 19, .bin .gtr (.t 18) (.c (.int .i64 6)), none⟩] ⟨[0, 1, 2, 3, 19], [], []⟩) (
 .cond (.t 19) (
 .seq (
 .region [] [] [
 ⟨some 8, .mv (.c (.nils)), none⟩,
 ⟨some 9, .mv (.c (.int .i64 10)), none⟩] ⟨[8, 9], [], [1079]⟩) (
 .ret)) (
 .skip))) (
 .seq (
 .seq (
 .region [] [] [
 ⟨some 20, .mv (.t 0), none⟩,
 ⟨some 21, .len (.t 20), none⟩,
 ⟨some 22, .mv (.t 1), none⟩,
 ⟨some 23, .len (.t 22), none⟩,
 ⟨some 24, .bin .neq (.t 21) (.t 23), none⟩] ⟨[0, 1, 2, 3, 24], [], []⟩) (
 .cond (.t 24) (
 .seq (
 .region [] [] [
 ⟨some 8, .mv (.c (.nils)), none⟩,
 ⟨some 9, .mv (.c (.int .i64 3)), none⟩] ⟨[8, 9], [], [1079]⟩) (
 .ret)) (
 .skip))) (
 .seq (
 .seq (
 .region [] [] [
 ⟨some 25, .mv (.t 0), none⟩,
 ⟨some 26, .len (.t 25), none⟩,
 ⟨some 27, .mv (.c (.int .i64 0)), none⟩] ⟨[0, 1, 2, 3, 25, 26, 27], [], []⟩) (
 .block 0 (
 v_dispatch_station_l0))) (
 .seq (
 .block 2 (
 .seq (
 .region [] [] [
 ⟨some 41, .mv (.t 2), none⟩,
 ⟨some 42, .bin .lss (.t 41) (.c (.int .i64 1)), none⟩,
 ⟨some 43, .mv (.t 42), none⟩,
 ⟨some 44, .mv (.t 2), some (43, false)⟩,
 ⟨some 45, .bin .gtr (.t 44) (.c (.int .i64 1073741824)), some (43, false)⟩,
 ⟨some 46, .pick (.t 43) (.c (.bool true)) (.t 45), none⟩,
 ⟨some 47, .mv (.t 46), none⟩,
 ⟨some 48, .mv (.t 3), some (47, false)⟩,
 ⟨some 49, .call true (.c (.fn 41 [])) [([none], (.t 48)), ([none], (.c (.int .i64 1073741824)))] [], some (47, false)⟩,
 ⟨some 50, .un .not (.t 49), some (47, false)⟩,
 ⟨some 51, .pick (.t 47) (.c (.bool true)) (.t 50), none⟩,
 ⟨some 40, .mv (.t 51), none⟩] ⟨[0, 1, 2, 3, 40], [], []⟩) (
 .cond (.t 40) (
 .seq (
 .region [] [] [
 ⟨some 8, .mv (.c (.nils)), none⟩,
 ⟨some 9, .mv (.c (.int .i64 1)), none⟩] ⟨[8, 9], [], [1079]⟩) (
 .ret)) (
 .seq (
 .region [] [] [
 ⟨some 53, .mv (.t 3), none⟩,
 ⟨some 54, .mv (.t 2), none⟩,
 ⟨some 55, .bin .mul (.c (.int .i64 200)) (.t 54), none⟩,
 ⟨some 56, .bin .gtr (.t 53) (.t 55), none⟩,
 ⟨some 52, .mv (.t 56), none⟩] ⟨[0, 1, 2, 52], [], []⟩) (
 .cond (.t 52) (
 .seq (
 .region [] [] [
 ⟨some 8, .mv (.c (.nils)), none⟩,
 ⟨some 9, .mv (.c (.int .i64 10)), none⟩] ⟨[8, 9], [], [1079]⟩) (
 .ret)) (
 .skip)))))) (
 .seq (
 .region [] [] [
 ⟨some 12, .mv (.c (.nils)), none⟩] ⟨[0, 1, 2, 12], [], [1079]⟩) (
 .seq (
 .seq (
 .region [] [] [
 ⟨some 57, .mv (.t 0), none⟩,
 ⟨some 58, .len (.t 57), none⟩,
 ⟨some 59, .mv (.c (.int .i64 0)), none⟩] ⟨[1, 2, 12, 57, 58, 59], [], [1079]⟩) (
 .block 3 (
 v_dispatch_station_l1))) (
 .seq (
 .region [] [] [
 ⟨some 81, .mv (.t 12), none⟩,
 ⟨some 8, .mv (.t 81), none⟩,
 ⟨some 9, .mv (.c (.int .i64 0)), none⟩] ⟨[8, 9], [], [1079]⟩) (
 .ret))))))))

/- 84 -/
def v_gate_asked_b0 : VC :=
 .seq (
 .region [] [] [
 ⟨some 25, .bin .lss (.t 24) (.t 23), none⟩] ⟨[0, 1, 2, 22, 23, 24, 25], [], []⟩) (
 .seq (
 .cond (.t 25) (
 .skip) (
 .exit 1)) (
 .seq (
 .block 2 (
 .seq (
 .region [] [8] [
 ⟨some 26, .mv (.t 24), none⟩,
 ⟨some 27, .iaddr none 3 (.t 22) (.t 24), none⟩,
 ⟨some 28, .load .imm (some 3) (.t 27), none⟩,
 ⟨some 8, .obj 8 [.nils, .int .i64 0, .int .i64 0], none⟩,
 ⟨some 7, .mv (.t 26), none⟩,
 ⟨none, .store (.loc 8) [some 2, none, none] (.t 8) (.t 28), none⟩] ⟨[0, 1, 2, 7, 8, 22, 23, 24], [8], []⟩) (
 .seq (
 .region [] [] [
 ⟨some 29, .load (.loc 8) (some 3) (.t 8), none⟩,
 ⟨some 30, .mv (.t 1), none⟩,
 ⟨some 31, .mv (.t 7), none⟩,
 ⟨some 32, .iaddr none 2 (.t 30) (.t 31), none⟩,
 ⟨some 33, .load .imm (some 2) (.t 32), none⟩,
 ⟨some 34, .call true (.c (.fn 107 [])) [([some 2, none, none], (.t 29)), ([none, none], (.t 33))] [], none⟩,
 ⟨some 35, .un .not (.t 34), none⟩] ⟨[0, 1, 2, 22, 23, 24, 35], [], []⟩) (
 .cond (.t 35) (
 .seq (
 .region [] [] [
 ⟨some 6, .mv (.c (.int .i64 3)), none⟩] ⟨[6], [], []⟩) (
 .ret)) (
 .skip))))) (
 .region [] [] [
 ⟨some 36, .bin .add (.t 24) (.c (.int .i64 1)), none⟩,
 ⟨some 24, .mv (.t 36), none⟩] ⟨[0, 1, 2, 22, 23, 24], [], []⟩)))

def v_gate_asked_l0 : VC := .loop [] ⟨[0, 1, 2, 22, 23, 24], [], []⟩ v_gate_asked_b0

abbrev v_gate_asked_s0 (x0 : V) (x1 : V) (x2 : Int) (x22 : V) (x23 : Int) (x24 : Int) (G : List GObj) : St := ⟨[(0, x0), (1, x1), (2, .int .i64 x2), (22, x22), (23, .int .i64 x23), (24, .int .i64 x24)], [], [], G⟩

def v_gate_asked_b1 : VC :=
 .seq (
 .region [] [] [
 ⟨some 40, .bin .lss (.t 39) (.t 38), none⟩] ⟨[2, 37, 38, 39, 40], [], []⟩) (
 .seq (
 .cond (.t 40) (
 .skip) (
 .exit 3)) (
 .seq (
 .block 4 (
 .seq (
 .region [] [10] [
 ⟨some 41, .iaddr none 3 (.t 37) (.t 39), none⟩,
 ⟨some 42, .load .imm (some 3) (.t 41), none⟩,
 ⟨some 10, .obj 10 [.nils, .int .i64 0, .int .i64 0], none⟩,
 ⟨none, .store (.loc 10) [some 2, none, none] (.t 10) (.t 42), none⟩] ⟨[2, 10, 37, 38, 39], [10], []⟩) (
 .seq (
 .region [] [] [
 ⟨some 43, .load (.loc 10) (some 3) (.t 10), none⟩,
 ⟨some 44, .call true (.c (.fn 48 [])) [([some 2, none, none], (.t 43))] [], none⟩,
 ⟨some 11, .mv (.t 44), none⟩] ⟨[2, 11, 37, 38, 39], [], []⟩) (
 .seq (
 .region [] [] [
 ⟨some 45, .mv (.t 11), none⟩,
 ⟨some 46, .bin .neq (.t 45) (.c (.int .i64 0)), none⟩] ⟨[2, 11, 37, 38, 39, 46], [], []⟩) (
 .cond (.t 46) (
 .seq (
 .region [] [] [
 ⟨some 47, .mv (.t 11), none⟩,
 ⟨some 6, .mv (.t 47), none⟩] ⟨[6], [], []⟩) (
 .ret)) (
 .skip)))))) (
 .region [] [] [
 ⟨some 48, .bin .add (.t 39) (.c (.int .i64 1)), none⟩,
 ⟨some 39, .mv (.t 48), none⟩] ⟨[2, 37, 38, 39], [], []⟩)))

def v_gate_asked_l1 : VC := .loop [] ⟨[2, 37, 38, 39], [], []⟩ v_gate_asked_b1

abbrev v_gate_asked_s1 (x2 : Int) (x37 : V) (x38 : Int) (x39 : Int) (G : List GObj) : St := ⟨[(2, .int .i64 x2), (37, x37), (38, .int .i64 x38), (39, .int .i64 x39)], [], [], G⟩

def v_gate_asked : VFunc where
  nparams := 3
  results := [.t 6 [none]]
  body :=
 .seq (
 .region [] [] [
 ⟨some 6, .mv (.c (.int .i64 0)), none⟩] ⟨[0, 1, 2], [], []⟩) (
 .seq (
 .block 0 (
 .seq (
 .region [] [] [
 ⟨some 13, .mv (.t 0), none⟩,
 ⟨some 14, .len (.t 13), none⟩,
 ⟨some 15, .bin .gtr (.t 14) (.c (.int .i64 8)), none⟩,
 ⟨some 12, .mv (.t 15), none⟩] ⟨[0, 1, 2, 12], [], []⟩) (
 .cond (.t 12) (
 .seq (
 .region [] [] [
 ⟨some 6, .mv (.c (.int .i64 10)), none⟩] ⟨[6], [], []⟩) (
 .ret)) (
 .seq (
 .region [] [] [
 ⟨some 17, .mv (.t 0), none⟩,
 ⟨some 18, .len (.t 17), none⟩,
 ⟨some 19, .mv (.t 1), none⟩,
 ⟨some 20, .len (.t 19), none⟩,
 ⟨some 21, .bin .neq (.t 18) (.t 20), none⟩,
 ⟨some 16, .mv (.t 21), none⟩] ⟨[0, 1, 2, 16], [], []⟩) (
 .cond (.t 16) (
 .seq (
 .region [] [] [
 ⟨some 6, .mv (.c (.int .i64 3)), none⟩] ⟨[6], [], []⟩) (
 .ret)) (
 .skip)))))) (
 .seq (
 .seq (
 .region [] [] [
 ⟨some 22, .mv (.t 0), none⟩,
 ⟨some 23, .len (.t 22), none⟩,
 ⟨some 24, .mv (.c (.int .i64 0)), none⟩] ⟨[0, 1, 2, 22, 23, 24], [], []⟩) (
 .block 1 (
 v_gate_asked_l0))) (
 .seq (
 .seq (
 .region [] [] [
 ⟨some 37, .mv (.t 0), none⟩,
 ⟨some 38, .len (.t 37), none⟩,
 ⟨some 39, .mv (.c (.int .i64 0)), none⟩] ⟨[2, 37, 38, 39], [], []⟩) (
 .block 3 (
 v_gate_asked_l1))) (
 .seq (
 .seq (
 .region [] [] [
 ⟨some 49, .mv (.t 2), none⟩,
 ⟨some 50, .call true (.c (.fn 41 [])) [([none], (.t 49)), ([none], (.c (.int .i64 16777216)))] [], none⟩,
 ⟨some 51, .un .not (.t 50), none⟩] ⟨[51], [], []⟩) (
 .cond (.t 51) (
 .seq (
 .region [] [] [
 ⟨some 6, .mv (.c (.int .i64 1)), none⟩] ⟨[6], [], []⟩) (
 .ret)) (
 .skip))) (
 .seq (
 .region [] [] [
 ⟨some 6, .mv (.c (.int .i64 0)), none⟩] ⟨[6], [], []⟩) (
 .ret))))))

/- 85 -/
def v_gate_at_b0 : VC :=
 .seq (
 .region [] [] [
 ⟨some 12, .bin .lss (.t 11) (.t 10), none⟩] ⟨[1, 4, 5, 9, 10, 11, 12], [4, 5], []⟩) (
 .seq (
 .cond (.t 12) (
 .skip) (
 .exit 0)) (
 .seq (
 .block 1 (
 .seq (
 .region [] [7] [
 ⟨some 13, .iaddr none 2 (.t 9) (.t 11), none⟩,
 ⟨some 14, .load .imm (some 2) (.t 13), none⟩,
 ⟨some 7, .obj 7 [.int .i64 0, .nils], none⟩,
 ⟨none, .store (.loc 7) [none, some 2] (.t 7) (.t 14), none⟩] ⟨[1, 4, 5, 7, 9, 10, 11], [4, 5, 7], []⟩) (
 .seq (
 .region [] [] [
 ⟨some 15, .faddr 0 (.t 7), none⟩,
 ⟨some 16, .load (.loc 7) none (.t 15), none⟩,
 ⟨some 17, .mv (.t 1), none⟩,
 ⟨some 18, .bin .leq (.t 16) (.t 17), none⟩] ⟨[1, 4, 5, 7, 9, 10, 11, 18], [4, 5, 7], []⟩) (
 .cond (.t 18) (
 .region [] [] [
 ⟨some 19, .faddr 1 (.t 7), none⟩,
 ⟨some 20, .load (.loc 7) none (.t 19), none⟩,
 ⟨some 21, .faddr 0 (.t 5), none⟩,
 ⟨none, .store (.loc 5) [some 2] (.t 21) (.t 20), none⟩] ⟨[1, 4, 5, 9, 10, 11], [4, 5], []⟩) (
 .skip))))) (
 .region [] [] [
 ⟨some 22, .bin .add (.t 11) (.c (.int .i64 1)), none⟩,
 ⟨some 11, .mv (.t 22), none⟩] ⟨[1, 4, 5, 9, 10, 11], [4, 5], []⟩)))

def v_gate_at_l0 : VC := .loop [] ⟨[1, 4, 5, 9, 10, 11], [4, 5], []⟩ v_gate_at_b0

abbrev v_gate_at_s0 (x1 : Int) (x9 : V) (x10 : Int) (x11 : Int) (o4 : List V) (o5 : List V) (G : List GObj) : St := ⟨[(1, .int .i64 x1), (4, .lptr 4 0), (5, .lptr 5 0), (9, x9), (10, .int .i64 x10), (11, .int .i64 x11)], [(4, o4), (5, o5)], [], G⟩

def v_gate_at : VFunc where
  nparams := 2
  results := [.c 4 true [some 2, none]]
  body :=
 .seq (
 .region [] [2, 4] [
 ⟨some 2, .box 2 (.t 0), none⟩,
 ⟨some 4, .obj 4 [.nils, .int .i64 0], none⟩] ⟨[1, 2, 4], [2, 4], []⟩) (
 .seq (
 .region [] [5] [
 ⟨some 5, .obj 5 [.nils, .int .i64 0], none⟩] ⟨[1, 2, 4, 5], [2, 4, 5], []⟩) (
 .seq (
 .seq (
 .region [] [] [
 ⟨some 8, .faddr 0 (.t 2), none⟩,
 ⟨some 9, .load (.loc 2) none (.t 8), none⟩,
 ⟨some 10, .len (.t 9), none⟩,
 ⟨some 11, .mv (.c (.int .i64 0)), none⟩] ⟨[1, 4, 5, 9, 10, 11], [4, 5], []⟩) (
 .block 0 (
 v_gate_at_l0))) (
 .seq (
 .region [] [] [
 ⟨some 23, .load (.loc 5) (some 2) (.t 5), none⟩,
 ⟨none, .store (.loc 4) [some 2, none] (.t 4) (.t 23), none⟩] ⟨[4], [4], []⟩) (
 .ret))))

/- 86 -/

def v_gate_reach : VFunc where
  nparams := 2
  results := [.c 4 true [none, none]]
  body :=
 .seq (
 .region [] [2, 3, 4] [
 ⟨some 2, .box 2 (.t 0), none⟩,
 ⟨some 3, .box 3 (.t 1), none⟩,
 ⟨some 4, .obj 4 [.int .i64 0, .int .i64 0], none⟩] ⟨[2, 3, 4], [2, 3, 4], []⟩) (
 .seq (
 .seq (
 .region [] [] [
 ⟨some 5, .faddr 1 (.t 3), none⟩,
 ⟨some 6, .load (.loc 3) none (.t 5), none⟩] ⟨[2, 3, 4, 6], [2, 3, 4], []⟩) (
 .cond (.t 6) (
 .seq (
 .region [] [] [
 ⟨some 7, .faddr 0 (.t 3), none⟩,
 ⟨some 8, .load (.loc 3) none (.t 7), none⟩,
 ⟨some 9, .faddr 0 (.t 3), none⟩,
 ⟨some 10, .load (.loc 3) none (.t 9), none⟩,
 ⟨some 11, .build [.int .i64 0, .int .i64 0] [(0, 1, (.t 8)), (1, 1, (.t 10))], none⟩,
 ⟨none, .store (.loc 4) [none, none] (.t 4) (.t 11), none⟩] ⟨[4], [4], []⟩) (
 .ret)) (
 .skip))) (
 .seq (
 .region [] [] [
 ⟨some 12, .faddr 0 (.t 3), none⟩,
 ⟨some 13, .load (.loc 3) none (.t 12), none⟩,
 ⟨some 14, .faddr 2 (.t 2), none⟩,
 ⟨some 15, .load (.loc 2) none (.t 14), none⟩,
 ⟨some 16, .bin .sub (.t 13) (.t 15), none⟩,
 ⟨some 17, .mm true (.t 16) (.c (.int .i64 0)), none⟩,
 ⟨some 18, .faddr 0 (.t 3), none⟩,
 ⟨some 19, .load (.loc 3) none (.t 18), none⟩,
 ⟨some 20, .faddr 2 (.t 2), none⟩,
 ⟨some 21, .load (.loc 2) none (.t 20), none⟩,
 ⟨some 22, .bin .add (.t 19) (.t 21), none⟩,
 ⟨some 23, .faddr 1 (.t 2), none⟩,
 ⟨some 24, .load (.loc 2) none (.t 23), none⟩,
 ⟨some 25, .mm false (.t 22) (.t 24), none⟩,
 ⟨some 26, .build [.int .i64 0, .int .i64 0] [(0, 1, (.t 17)), (1, 1, (.t 25))], none⟩,
 ⟨none, .store (.loc 4) [none, none] (.t 4) (.t 26), none⟩] ⟨[4], [4], []⟩) (
 .ret)))

/- 87 -/

def v_gate_view_flow : VFunc where
  nparams := 2
  results := [.t 4 [none]]
  body :=
 .seq (
 .region [] [2] [
 ⟨some 2, .box 2 (.t 0), none⟩,
 ⟨some 4, .mv (.c (.int .i64 0)), none⟩] ⟨[1, 2], [2], []⟩) (
 .seq (
 .seq (
 .region [] [] [
 ⟨some 5, .faddr 0 (.t 2), none⟩,
 ⟨some 6, .load (.loc 2) none (.t 5), none⟩,
 ⟨some 7, .len (.t 6), none⟩,
 ⟨some 8, .bin .eql (.t 7) (.c (.int .i64 0)), none⟩] ⟨[1, 2, 8], [2], []⟩) (
 .cond (.t 8) (
 .seq (
 .region [] [] [
 ⟨some 4, .mv (.c (.int .i64 0)), none⟩] ⟨[4], [], []⟩) (
 .ret)) (
 .skip))) (
 .seq (
 .region [] [] [
 ⟨some 9, .faddr 0 (.t 2), none⟩,
 ⟨some 10, .load (.loc 2) none (.t 9), none⟩,
 ⟨some 11, .mv (.t 1), none⟩,
 ⟨some 12, .call true (.c (.fn 108 [])) [([some 2], (.t 10)), ([none], (.t 11))] [], none⟩,
 ⟨some 4, .mv (.t 12), none⟩] ⟨[4], [], []⟩) (
 .ret)))

/- 92 -/

def v_dam_crest : VFunc where
  nparams := 1
  results := [.t 2 [none]]
  body :=
 .seq (
 .region [] [1] [
 ⟨some 1, .box 1 (.t 0), none⟩,
 ⟨some 2, .mv (.c (.int .i64 0)), none⟩] ⟨[1], [1], []⟩) (
 .seq (
 .region [] [] [
 ⟨some 3, .faddr 0 (.t 1), none⟩,
 ⟨some 4, .faddr 0 (.t 3), none⟩,
 ⟨some 5, .load (.loc 1) none (.t 4), none⟩,
 ⟨some 6, .faddr 0 (.t 1), none⟩,
 ⟨some 7, .faddr 5 (.t 6), none⟩,
 ⟨some 8, .load (.loc 1) none (.t 7), none⟩,
 ⟨some 9, .call true (.c (.fn 108 [])) [([some 2], (.t 5)), ([none], (.t 8))] [], none⟩,
 ⟨some 2, .mv (.t 9), none⟩] ⟨[2], [], []⟩) (
 .ret))

/- 93 -/

def v_unit_Valid : VFunc where
  nparams := 2
  results := [.t 4 [none]]
  body :=
 .seq (
 .region [] [2, 3] [
 ⟨some 2, .box 2 (.t 0), none⟩,
 ⟨some 3, .box 3 (.t 1), none⟩,
 ⟨some 4, .mv (.c (.bool false)), none⟩] ⟨[2, 3], [2, 3], []⟩) (
 .seq (
 .region [] [] [
 ⟨some 5, .load (.loc 2) (some 6) (.t 2), none⟩,
 ⟨some 6, .call true (.c (.fn 47 [])) [([some 2, none, none, some 2, none, none], (.t 5))] [], none⟩,
 ⟨some 7, .bin .eql (.t 6) (.c (.int .i64 0)), none⟩,
 ⟨some 8, .mv (.t 7), none⟩,
 ⟨some 9, .load (.loc 2) (some 6) (.t 2), some (8, true)⟩,
 ⟨some 10, .load (.loc 3) (some 3) (.t 3), some (8, true)⟩,
 ⟨some 11, .call true (.c (.fn 111 [])) [([some 2, none, none, some 2, none, none], (.t 9)), ([none, none, none], (.t 10))] [], some (8, true)⟩,
 ⟨some 12, .pick (.t 8) (.t 11) (.c (.bool false)), none⟩,
 ⟨some 4, .mv (.t 12), none⟩] ⟨[4], [], []⟩) (
 .ret))

/- 97 -/
def v_r18_Flows_b0 : VC :=
 .seq (
 .seq (
 .region [] [] [
 ⟨some 31, .mv (.t 8), none⟩,
 ⟨some 32, .faddr 2 (.t 2), none⟩,
 ⟨some 33, .load (.loc 2) none (.t 32), none⟩,
 ⟨some 34, .bin .leq (.t 31) (.t 33), none⟩] ⟨[1, 2, 7, 8, 34], [2], [1056]⟩) (
 .cond (.t 34) (
 .skip) (
 .exit 0))) (
 .block 1 (
 .seq (
 .seq (
 .region [] [] [
 ⟨some 36, .load (.loc 2) (some 6) (.t 2), none⟩,
 ⟨some 37, .mv (.t 8), none⟩,
 ⟨some 38, .call true (.c (.fn 103 [])) [([some 2, none, none, some 2, none, none], (.t 36)), ([none], (.t 37))] [], none⟩,
 ⟨some 35, .mv (.t 38), none⟩,
 ⟨some 39, .ext (.t 35) 0, none⟩,
 ⟨some 40, .ext (.t 35) 1, none⟩,
 ⟨some 9, .mv (.t 39), none⟩,
 ⟨some 10, .mv (.t 40), none⟩] ⟨[1, 2, 7, 8, 9, 10], [2], [1056]⟩) (
 .seq (
 .region [] [] [
 ⟨some 41, .mv (.t 10), none⟩] ⟨[1, 2, 7, 8, 9, 41], [2], [1056]⟩) (
 .cond (.t 41) (
 .seq (
 .region [] [] [
 ⟨some 42, .mv (.t 9), none⟩,
 ⟨some 43, .mv (.t 1), none⟩,
 ⟨some 44, .bin .add (.t 42) (.t 43), none⟩,
 ⟨some 45, .bin .sub (.t 44) (.c (.int .i64 1)), none⟩,
 ⟨some 46, .mv (.t 1), none⟩,
 ⟨some 47, .bin .quo (.t 45) (.t 46), none⟩,
 ⟨some 48, .mv (.t 1), none⟩,
 ⟨some 49, .bin .mul (.t 47) (.t 48), none⟩,
 ⟨some 8, .mv (.t 49), none⟩] ⟨[1, 2, 7, 8], [2], [1056]⟩) (
 .exit 1)) (
 .skip)))) (
 .seq (
 .seq (
 .region [] [] [
 ⟨some 50, .mv (.t 7), none⟩,
 ⟨some 51, .len (.t 50), none⟩,
 ⟨some 52, .bin .eql (.t 51) (.c (.int .i64 200)), none⟩] ⟨[1, 2, 7, 8, 52], [2], [1056]⟩) (
 .cond (.t 52) (
 .seq (
 .region [] [] [
 ⟨some 4, .mv (.c (.nils)), none⟩,
 ⟨some 5, .mv (.c (.int .i64 10)), none⟩] ⟨[4, 5], [], [1056]⟩) (
 .ret)) (
 .skip))) (
 .seq (
 .region [.norm 7 1056 1] [5056] [
 ⟨some 53, .mv (.t 7), none⟩,
 ⟨some 54, .mv (.t 8), none⟩,
 ⟨some 55, .lit none [none] [.int .i64 0] 1 [(0, (.t 54))], none⟩,
 ⟨some 56, .app 5056 (some 1056) [none] (.t 53) (.t 55), none⟩,
 ⟨some 7, .mv (.t 56), none⟩] ⟨[1, 2, 7, 8], [2], [1056]⟩) (
 .region [] [] [
 ⟨some 57, .mv (.t 8), none⟩,
 ⟨some 58, .mv (.t 1), none⟩,
 ⟨some 59, .bin .add (.t 57) (.t 58), none⟩,
 ⟨some 8, .mv (.t 59), none⟩] ⟨[1, 2, 7, 8], [2], [1056]⟩)))))

def v_r18_Flows_l0 : VC := .loop [.norm 7 1056 1] ⟨[1, 2, 7, 8], [2], [1056]⟩ v_r18_Flows_b0

abbrev v_r18_Flows_s0 (x1 : Int) (x7 : V) (x8 : Int) (o2 : List V) (k1056 : Nat) (G : List GObj) : St := ⟨[(1, .int .i64 x1), (2, .lptr 2 0), (7, x7), (8, .int .i64 x8)], [(2, o2)], [(1056, k1056)], G⟩

def v_r18_Flows : VFunc where
  nparams := 2
  results := [.t 4 [some 1], .t 5 [none]]
  body :=
 .seq (
 .region [] [2] [
 ⟨some 2, .box 2 (.t 0), none⟩,
 ⟨some 4, .mv (.c (.nils)), none⟩,
 ⟨some 5, .mv (.c (.int .i64 0)), none⟩] ⟨[1, 2], [2], []⟩) (
 .seq (
 .seq (
 .region [] [] [
 ⟨some 11, .load (.loc 2) (some 6) (.t 2), none⟩,
 ⟨some 12, .call true (.c (.fn 50 [])) [([some 2, none, none, some 2, none, none], (.t 11))] [], none⟩,
 ⟨some 6, .mv (.t 12), none⟩] ⟨[1, 2, 6], [2], []⟩) (
 .seq (
 .region [] [] [
 ⟨some 13, .mv (.t 6), none⟩,
 ⟨some 14, .bin .neq (.t 13) (.c (.int .i64 0)), none⟩] ⟨[1, 2, 6, 14], [2], []⟩) (
 .cond (.t 14) (
 .seq (
 .region [] [] [
 ⟨some 15, .mv (.t 6), none⟩,
 ⟨some 4, .mv (.c (.nils)), none⟩,
 ⟨some 5, .mv (.t 15), none⟩] ⟨[4, 5], [], [1056]⟩) (
 .ret)) (
 .skip)))) (
 .seq (
 .seq (
 .region [] [] [
 ⟨some 16, .mv (.t 1), none⟩,
 ⟨some 17, .bin .lss (.t 16) (.c (.int .i64 1)), none⟩,
 ⟨some 18, .mv (.t 17), none⟩,
 ⟨some 19, .mv (.t 1), some (18, false)⟩,
 ⟨some 20, .bin .gtr (.t 19) (.c (.int .i64 1073741824)), some (18, false)⟩,
 ⟨some 21, .pick (.t 18) (.c (.bool true)) (.t 20), none⟩] ⟨[1, 2, 21], [2], []⟩) (
 .cond (.t 21) (
 .seq (
 .region [] [] [
 ⟨some 4, .mv (.c (.nils)), none⟩,
 ⟨some 5, .mv (.c (.int .i64 1)), none⟩] ⟨[4, 5], [], [1056]⟩) (
 .ret)) (
 .skip))) (
 .seq (
 .region [] [] [
 ⟨some 7, .mv (.c (.nils)), none⟩] ⟨[1, 2, 7], [2], [1056]⟩) (
 .seq (
 .seq (
 .region [] [] [
 ⟨some 22, .faddr 1 (.t 2), none⟩,
 ⟨some 23, .load (.loc 2) none (.t 22), none⟩,
 ⟨some 24, .mv (.t 1), none⟩,
 ⟨some 25, .bin .add (.t 23) (.t 24), none⟩,
 ⟨some 26, .bin .sub (.t 25) (.c (.int .i64 1)), none⟩,
 ⟨some 27, .mv (.t 1), none⟩,
 ⟨some 28, .bin .quo (.t 26) (.t 27), none⟩,
 ⟨some 29, .mv (.t 1), none⟩,
 ⟨some 30, .bin .mul (.t 28) (.t 29), none⟩,
 ⟨some 8, .mv (.t 30), none⟩] ⟨[1, 2, 7, 8], [2], [1056]⟩) (
 .block 0 (
 v_r18_Flows_l0))) (
 .seq (
 .region [] [] [
 ⟨some 60, .mv (.t 7), none⟩,
 ⟨some 4, .mv (.t 60), none⟩,
 ⟨some 5, .mv (.c (.int .i64 0)), none⟩] ⟨[4, 5], [], [1056]⟩) (
 .ret))))))

/- 98 -/
def v_gate_Set_b0 : VC :=
 .seq (
 .region [] [] [
 ⟨some 39, .bin .lss (.t 38) (.t 37), none⟩] ⟨[1, 2, 3, 13, 14, 15, 36, 37, 38, 39], [], [1083]⟩) (
 .seq (
 .cond (.t 39) (
 .skip) (
 .exit 0)) (
 .seq (
 .block 1 (
 .seq (
 .region [] [17] [
 ⟨some 40, .mv (.t 38), none⟩,
 ⟨some 41, .iaddr none 3 (.t 36) (.t 38), none⟩,
 ⟨some 42, .load .imm (some 3) (.t 41), none⟩,
 ⟨some 17, .obj 17 [.nils, .int .i64 0, .int .i64 0], none⟩,
 ⟨some 16, .mv (.t 40), none⟩,
 ⟨none, .store (.loc 17) [some 2, none, none] (.t 17) (.t 42), none⟩] ⟨[1, 2, 3, 13, 14, 15, 16, 17, 36, 37, 38], [17], [1083]⟩) (
 .seq (
 .region [] [19] [
 ⟨some 43, .load (.loc 17) (some 3) (.t 17), none⟩,
 ⟨some 44, .mv (.t 2), none⟩,
 ⟨some 45, .call true (.c (.fn 85 [])) [([some 2, none, none], (.t 43)), ([none], (.t 44))] [], none⟩,
 ⟨some 46, .load (.loc 17) (some 3) (.t 17), none⟩,
 ⟨some 47, .mv (.t 1), none⟩,
 ⟨some 48, .mv (.t 16), none⟩,
 ⟨some 49, .iaddr none 2 (.t 47) (.t 48), none⟩,
 ⟨some 50, .load .imm (some 2) (.t 49), none⟩,
 ⟨some 51, .call true (.c (.fn 86 [])) [([some 2, none, none], (.t 46)), ([none, none], (.t 50))] [], none⟩,
 ⟨some 18, .galloc [some 2, none] [.nils, .int .i64 0], none⟩,
 ⟨some 19, .obj 19 [.int .i64 0, .int .i64 0], none⟩,
 ⟨none, .store .glob [some 2, none] (.t 18) (.t 45), none⟩,
 ⟨none, .store (.loc 19) [none, none] (.t 19) (.t 51), none⟩] ⟨[1, 2, 3, 13, 14, 15, 16, 18, 19, 36, 37, 38], [19], [1083]⟩) (
 .seq (
 .region [] [] [
 ⟨some 52, .faddr 0 (.t 19), none⟩,
 ⟨some 53, .load (.loc 19) none (.t 52), none⟩,
 ⟨some 20, .mv (.t 53), none⟩] ⟨[1, 2, 3, 13, 14, 15, 16, 18, 19, 20, 36, 37, 38], [19], [1083]⟩) (
 .seq (
 .seq (
 .region [] [] [
 ⟨some 54, .mv (.t 13), none⟩,
 ⟨some 55, .mv (.t 3), none⟩,
 ⟨some 56, .bin .lss (.t 54) (.t 55), none⟩] ⟨[1, 2, 3, 13, 14, 15, 16, 18, 19, 20, 36, 37, 38, 56], [19], [1083]⟩) (
 .cond (.t 56) (
 .seq (
 .region [] [] [
 ⟨some 57, .mv (.t 13), none⟩,
 ⟨some 58, .load .glob (some 2) (.t 18), none⟩,
 ⟨some 59, .mv (.t 20), none⟩,
 ⟨some 60, .call true (.c (.fn 87 [])) [([some 2, none], (.t 58)), ([none], (.t 59))] [], none⟩,
 ⟨some 61, .bin .sub (.t 57) (.t 60), none⟩,
 ⟨some 13, .mv (.t 61), none⟩] ⟨[1, 2, 3, 13, 14, 15, 16, 18, 19, 36, 37, 38], [19], [1083]⟩) (
 .seq (
 .region [] [] [
 ⟨some 62, .mv (.t 3), none⟩,
 ⟨some 63, .mv (.t 13), none⟩,
 ⟨some 64, .bin .sub (.t 62) (.t 63), none⟩,
 ⟨some 65, .faddr 1 (.t 18), none⟩,
 ⟨none, .store .glob [none] (.t 65) (.t 64), none⟩] ⟨[1, 2, 3, 13, 14, 15, 16, 18, 19, 36, 37, 38], [19], [1083]⟩) (
 .seq (
 .region [] [] [
 ⟨some 66, .load (.loc 19) (some 2) (.t 19), none⟩,
 ⟨some 67, .mkfn 117 [(.t 14), (.t 18)], none⟩,
 ⟨some 68, .call false (.c (.fn 116 [])) [([none, none], (.t 66)), ([none], (.t 67))] [], none⟩,
 ⟨some 20, .mv (.t 68), none⟩] ⟨[1, 2, 3, 13, 14, 15, 16, 18, 20, 36, 37, 38], [], [1083]⟩) (
 .region [] [] [
 ⟨some 69, .mv (.t 13), none⟩,
 ⟨some 70, .load .glob (some 2) (.t 18), none⟩,
 ⟨some 71, .mv (.t 20), none⟩,
 ⟨some 72, .call true (.c (.fn 87 [])) [([some 2, none], (.t 70)), ([none], (.t 71))] [], none⟩,
 ⟨some 73, .bin .add (.t 69) (.t 72), none⟩,
 ⟨some 13, .mv (.t 73), none⟩] ⟨[1, 2, 3, 13, 14, 15, 16, 20, 36, 37, 38], [], [1083]⟩)))) (
 .skip))) (
 .region [.norm 15 1083 2] [5083] [
 ⟨some 74, .mv (.t 15), none⟩,
 ⟨some 75, .mv (.t 20), none⟩,
 ⟨some 76, .mv (.t 1), none⟩,
 ⟨some 77, .mv (.t 16), none⟩,
 ⟨some 78, .iaddr none 2 (.t 76) (.t 77), none⟩,
 ⟨some 79, .faddr 1 (.t 78), none⟩,
 ⟨some 80, .load .imm none (.t 79), none⟩,
 ⟨some 81, .build [.int .i64 0, .bool false] [(0, 1, (.t 75)), (1, 1, (.t 80))], none⟩,
 ⟨some 82, .lit none [none, none] [.int .i64 0, .bool false] 1 [(0, (.t 81))], none⟩,
 ⟨some 83, .app 5083 (some 1083) [none, none] (.t 74) (.t 82), none⟩,
 ⟨some 15, .mv (.t 83), none⟩] ⟨[1, 2, 3, 13, 14, 15, 36, 37, 38], [], [1083]⟩)))))) (
 .region [] [] [
 ⟨some 84, .bin .add (.t 38) (.c (.int .i64 1)), none⟩,
 ⟨some 38, .mv (.t 84), none⟩] ⟨[1, 2, 3, 13, 14, 15, 36, 37, 38], [], [1083]⟩)))

def v_gate_Set_l0 : VC := .loop [.norm 15 1083 2] ⟨[1, 2, 3, 13, 14, 15, 36, 37, 38], [], [1083]⟩ v_gate_Set_b0

abbrev v_gate_Set_s0 (x1 : V) (x2 : Int) (x3 : Int) (x13 : Int) (x14 : V) (x15 : V) (x36 : V) (x37 : Int) (x38 : Int) (k1083 : Nat) (G : List GObj) : St := ⟨[(1, x1), (2, .int .i64 x2), (3, .int .i64 x3), (13, .int .i64 x13), (14, x14), (15, x15), (36, x36), (37, .int .i64 x37), (38, .int .i64 x38)], [], [(1083, k1083)], G⟩

def v_gate_Set : VFunc where
  nparams := 4
  results := [.t 8 [some 2], .t 9 [none], .t 10 [none]]
  body :=
 .seq (
 .region [] [] [
 ⟨some 8, .mv (.c (.nils)), none⟩,
 ⟨some 9, .mv (.c (.int .i64 0)), none⟩,
 ⟨some 10, .mv (.c (.int .i64 0)), none⟩] ⟨[0, 1, 2, 3], [], []⟩) (
 .seq (
 .region [] [11] [
 ⟨some 22, .mv (.t 0), none⟩,
 ⟨some 23, .mv (.t 1), none⟩,
 ⟨some 24, .mv (.t 2), none⟩,
 ⟨some 25, .call true (.c (.fn 58 [])) [([some 3], (.t 22)), ([some 2], (.t 23)), ([none], (.t 24))] [], none⟩,
 ⟨some 21, .mv (.t 25), none⟩,
 ⟨some 26, .ext (.t 21) 0, none⟩,
 ⟨some 27, .ext (.t 21) 1, none⟩,
 ⟨some 11, .obj 11 [.int .i64 0, .int .i64 0], none⟩,
 ⟨none, .store (.loc 11) [none, none] (.t 11) (.t 26), none⟩,
 ⟨some 12, .mv (.t 27), none⟩] ⟨[0, 1, 2, 3, 11, 12], [11], []⟩) (
 .seq (
 .seq (
 .region [] [] [
 ⟨some 28, .mv (.t 12), none⟩,
 ⟨some 29, .bin .neq (.t 28) (.c (.int .i64 0)), none⟩] ⟨[0, 1, 2, 3, 11, 12, 29], [11], []⟩) (
 .cond (.t 29) (
 .seq (
 .region [] [] [
 ⟨some 30, .mv (.t 12), none⟩,
 ⟨some 8, .mv (.c (.nils)), none⟩,
 ⟨some 9, .mv (.c (.int .i64 0)), none⟩,
 ⟨some 10, .mv (.t 30), none⟩] ⟨[8, 9, 10], [], [1083]⟩) (
 .ret)) (
 .skip))) (
 .seq (
 .seq (
 .region [] [] [
 ⟨some 31, .mv (.t 3), none⟩,
 ⟨some 32, .call true (.c (.fn 41 [])) [([none], (.t 31)), ([none], (.c (.int .i64 1073741824)))] [], none⟩,
 ⟨some 33, .un .not (.t 32), none⟩] ⟨[0, 1, 2, 3, 11, 33], [11], []⟩) (
 .cond (.t 33) (
 .seq (
 .region [] [] [
 ⟨some 8, .mv (.c (.nils)), none⟩,
 ⟨some 9, .mv (.c (.int .i64 0)), none⟩,
 ⟨some 10, .mv (.c (.int .i64 1)), none⟩] ⟨[8, 9, 10], [], [1083]⟩) (
 .ret)) (
 .skip))) (
 .seq (
 .region [] [] [
 ⟨some 34, .faddr 0 (.t 11), none⟩,
 ⟨some 35, .load (.loc 11) none (.t 34), none⟩,
 ⟨some 13, .mv (.t 35), none⟩] ⟨[0, 1, 2, 3, 13], [], []⟩) (
 .seq (
 .region [] [] [
 ⟨some 14, .galloc [none] [.nilfn], none⟩,
 ⟨none, .store .glob [none] (.t 14) (.c (.fn 115 [])), none⟩] ⟨[0, 1, 2, 3, 13, 14], [], []⟩) (
 .seq (
 .region [] [] [
 ⟨some 15, .mv (.c (.nils)), none⟩] ⟨[0, 1, 2, 3, 13, 14, 15], [], [1083]⟩) (
 .seq (
 .seq (
 .region [] [] [
 ⟨some 36, .mv (.t 0), none⟩,
 ⟨some 37, .len (.t 36), none⟩,
 ⟨some 38, .mv (.c (.int .i64 0)), none⟩] ⟨[1, 2, 3, 13, 14, 15, 36, 37, 38], [], [1083]⟩) (
 .block 0 (
 v_gate_Set_l0))) (
 .seq (
 .region [] [] [
 ⟨some 85, .mv (.t 15), none⟩,
 ⟨some 86, .mv (.t 13), none⟩,
 ⟨some 8, .mv (.t 85), none⟩,
 ⟨some 9, .mv (.t 86), none⟩,
 ⟨some 10, .mv (.c (.int .i64 0)), none⟩] ⟨[8, 9, 10], [], [1083]⟩) (
 .ret)))))))))

/- 99 -/

def v_dam_work_free : VFunc where
  nparams := 1
  results := [.t 2 [none]]
  body :=
 .seq (
 .region [] [] [
 ⟨some 2, .mv (.c (.int .i64 0)), none⟩] ⟨[0], [], []⟩) (
 .seq (
 .region [] [] [
 ⟨some 3, .mv (.t 0), none⟩,
 ⟨some 4, .nilchk (.t 3), none⟩,
 ⟨some 5, .faddr 25 (.t 4), none⟩,
 ⟨some 6, .load .glob none (.t 5), none⟩,
 ⟨some 7, .mv (.t 0), none⟩,
 ⟨some 8, .nilchk (.t 7), none⟩,
 ⟨some 9, .faddr 0 (.t 8), none⟩,
 ⟨some 10, .faddr 0 (.t 9), none⟩,
 ⟨some 11, .faddr 0 (.t 10), none⟩,
 ⟨some 12, .load .glob none (.t 11), none⟩,
 ⟨some 13, .mv (.t 0), none⟩,
 ⟨some 14, .nilchk (.t 13), none⟩,
 ⟨some 15, .faddr 0 (.t 14), none⟩,
 ⟨some 16, .faddr 0 (.t 15), none⟩,
 ⟨some 17, .faddr 1 (.t 16), none⟩,
 ⟨some 18, .load .glob none (.t 17), none⟩,
 ⟨some 19, .call true (.c (.fn 108 [])) [([some 2], (.t 12)), ([none], (.t 18))] [], none⟩,
 ⟨some 20, .bin .sub (.t 6) (.t 19), none⟩,
 ⟨some 21, .mm true (.t 20) (.c (.int .i64 0)), none⟩,
 ⟨some 2, .mv (.t 21), none⟩] ⟨[2], [], []⟩) (
 .ret))

/- 100 -/
def v_dispatch_Best_b0 : VC :=
 .seq (
 .seq (
 .region [] [] [
 ⟨some 31, .mv (.t 14), none⟩,
 ⟨some 32, .len (.t 31), none⟩,
 ⟨some 33, .load .glob none (.t 10), none⟩,
 ⟨some 34, .len (.t 33), none⟩,
 ⟨some 35, .bin .lss (.t 32) (.t 34), none⟩] ⟨[10, 13, 14, 15, 35], [], [1048]⟩) (
 .cond (.t 35) (
 .skip) (
 .exit 0))) (
 .block 1 (
 .seq (
 .region [] [16] [
 ⟨some 36, .load .glob none (.t 13), none⟩,
 ⟨some 37, .mv (.t 14), none⟩,
 ⟨some 38, .len (.t 37), none⟩,
 ⟨some 39, .mv (.t 15), none⟩,
 ⟨some 40, .call false (.t 36) [([none], (.t 38)), ([none], (.t 39))] [], none⟩,
 ⟨some 16, .obj 16 [.bool false, .int .i64 0, .int .i64 0, .int .i64 0], none⟩,
 ⟨none, .store (.loc 16) [none, none, none, none] (.t 16) (.t 40), none⟩] ⟨[10, 13, 14, 15, 16], [16], [1048]⟩) (
 .seq (
 .seq (
 .region [] [] [
 ⟨some 41, .faddr 0 (.t 16), none⟩,
 ⟨some 42, .load (.loc 16) none (.t 41), none⟩,
 ⟨some 43, .un .not (.t 42), none⟩] ⟨[10, 13, 14, 15, 16, 43], [16], [1048]⟩) (
 .cond (.t 43) (
 .seq (
 .region [] [] [
 ⟨some 8, .mv (.c (.nils)), none⟩,
 ⟨some 9, .mv (.c (.int .i64 9)), none⟩] ⟨[8, 9], [], [1048]⟩) (
 .ret)) (
 .skip))) (
 .seq (
 .region [.norm 14 1048 1] [5048] [
 ⟨some 44, .mv (.t 14), none⟩,
 ⟨some 45, .faddr 3 (.t 16), none⟩,
 ⟨some 46, .load (.loc 16) none (.t 45), none⟩,
 ⟨some 47, .lit none [none] [.int .i64 0] 1 [(0, (.t 46))], none⟩,
 ⟨some 48, .app 5048 (some 1048) [none] (.t 44) (.t 47), none⟩,
 ⟨some 14, .mv (.t 48), none⟩] ⟨[10, 13, 14, 15, 16], [16], [1048]⟩) (
 .region [] [] [
 ⟨some 49, .mv (.t 15), none⟩,
 ⟨some 50, .faddr 3 (.t 16), none⟩,
 ⟨some 51, .load (.loc 16) none (.t 50), none⟩,
 ⟨some 52, .bin .sub (.t 49) (.t 51), none⟩,
 ⟨some 15, .mv (.t 52), none⟩] ⟨[10, 13, 14, 15], [], [1048]⟩)))))

def v_dispatch_Best_l0 : VC := .loop [.norm 14 1048 1] ⟨[10, 13, 14, 15], [], [1048]⟩ v_dispatch_Best_b0

abbrev v_dispatch_Best_s0 (x10 : V) (x13 : V) (x14 : V) (x15 : Int) (k1048 : Nat) (G : List GObj) : St := ⟨[(10, x10), (13, x13), (14, x14), (15, .int .i64 x15)], [], [(1048, k1048)], G⟩

def v_dispatch_Best : VFunc where
  nparams := 4
  results := [.t 8 [some 1], .t 9 [none]]
  body :=
 .seq (
 .region [] [] [
 ⟨some 8, .mv (.c (.nils)), none⟩,
 ⟨some 9, .mv (.c (.int .i64 0)), none⟩] ⟨[0, 1, 2, 3], [], []⟩) (
 .seq (
 .region [] [] [
 ⟨some 18, .mv (.t 0), none⟩,
 ⟨some 19, .mv (.t 1), none⟩,
 ⟨some 20, .mv (.t 2), none⟩,
 ⟨some 21, .mv (.t 3), none⟩,
 ⟨some 22, .call true (.c (.fn 83 [])) [([some 6], (.t 18)), ([some 3], (.t 19)), ([none], (.t 20)), ([none], (.t 21))] [], none⟩,
 ⟨some 17, .mv (.t 22), none⟩,
 ⟨some 23, .ext (.t 17) 0, none⟩,
 ⟨some 24, .ext (.t 17) 1, none⟩,
 ⟨some 10, .galloc [some 1] [.nils], none⟩,
 ⟨none, .store .glob [some 1] (.t 10) (.t 23), none⟩,
 ⟨some 11, .mv (.t 24), none⟩] ⟨[3, 10, 11], [], []⟩) (
 .seq (
 .seq (
 .region [] [] [
 ⟨some 25, .mv (.t 11), none⟩,
 ⟨some 26, .bin .neq (.t 25) (.c (.int .i64 0)), none⟩] ⟨[3, 10, 11, 26], [], []⟩) (
 .cond (.t 26) (
 .seq (
 .region [] [] [
 ⟨some 27, .mv (.t 11), none⟩,
 ⟨some 8, .mv (.c (.nils)), none⟩,
 ⟨some 9, .mv (.t 27), none⟩] ⟨[8, 9], [], [1048]⟩) (
 .ret)) (
 .skip))) (
 .seq (
 .region [] [] [
 ⟨some 28, .mkmap, none⟩,
 ⟨some 12, .galloc [none] [.nilmap], none⟩,
 ⟨none, .store .glob [none] (.t 12) (.t 28), none⟩] ⟨[3, 10, 12], [], []⟩) (
 .seq (
 .region [] [] [
 ⟨some 13, .galloc [none] [.nilfn], none⟩] ⟨[3, 10, 12, 13], [], []⟩) (
 .seq (
 .region [] [] [
 ⟨some 29, .mkfn 118 [(.t 10), (.t 12), (.t 13)], none⟩,
 ⟨none, .store .glob [none] (.t 13) (.t 29), none⟩] ⟨[3, 10, 13], [], []⟩) (
 .seq (
 .region [] [] [
 ⟨some 14, .mv (.c (.nils)), none⟩] ⟨[3, 10, 13, 14], [], [1048]⟩) (
 .seq (
 .seq (
 .region [] [] [
 ⟨some 30, .mv (.t 3), none⟩,
 ⟨some 15, .mv (.t 30), none⟩] ⟨[10, 13, 14, 15], [], [1048]⟩) (
 .block 0 (
 v_dispatch_Best_l0))) (
 .seq (
 .region [] [] [
 ⟨some 53, .mv (.t 14), none⟩,
 ⟨some 8, .mv (.t 53), none⟩,
 ⟨some 9, .mv (.c (.int .i64 0)), none⟩] ⟨[8, 9], [], [1048]⟩) (
 .ret)))))))))

/- 101 -/

def v_unit_Next : VFunc where
  nparams := 3
  results := [.c 6 true [none, none, none], .t 7 [none], .t 8 [none]]
  body :=
 .seq (
 .region [] [3, 4, 6] [
 ⟨some 3, .box 3 (.t 0), none⟩,
 ⟨some 4, .box 4 (.t 1), none⟩,
 ⟨some 6, .obj 6 [.int .i64 0, .int .i64 0, .bool false], none⟩,
 ⟨some 7, .mv (.c (.bool false)), none⟩,
 ⟨some 8, .mv (.c (.int .i64 0)), none⟩] ⟨[2, 3, 4, 6], [3, 4, 6], []⟩) (
 .seq (
 .region [] [] [
 ⟨some 11, .load (.loc 3) (some 6) (.t 3), none⟩,
 ⟨some 12, .call true (.c (.fn 47 [])) [([some 2, none, none, some 2, none, none], (.t 11))] [], none⟩,
 ⟨some 9, .mv (.t 12), none⟩] ⟨[2, 3, 4, 6, 9], [3, 4, 6], []⟩) (
 .seq (
 .block 0 (
 .seq (
 .region [] [] [
 ⟨some 14, .mv (.t 9), none⟩,
 ⟨some 15, .bin .neq (.t 14) (.c (.int .i64 0)), none⟩,
 ⟨some 13, .mv (.t 15), none⟩] ⟨[2, 3, 4, 6, 9, 13], [3, 4, 6], []⟩) (
 .cond (.t 13) (
 .seq (
 .region [] [] [
 ⟨some 16, .build [.int .i64 0, .int .i64 0, .bool false] [], none⟩,
 ⟨some 17, .mv (.t 9), none⟩,
 ⟨none, .store (.loc 6) [none, none, none] (.t 6) (.t 16), none⟩,
 ⟨some 7, .mv (.c (.bool false)), none⟩,
 ⟨some 8, .mv (.t 17), none⟩] ⟨[6, 7, 8], [6], []⟩) (
 .ret)) (
 .seq (
 .region [] [] [
 ⟨some 19, .load (.loc 3) (some 6) (.t 3), none⟩,
 ⟨some 20, .load (.loc 4) (some 3) (.t 4), none⟩,
 ⟨some 21, .call true (.c (.fn 111 [])) [([some 2, none, none, some 2, none, none], (.t 19)), ([none, none, none], (.t 20))] [], none⟩,
 ⟨some 22, .un .not (.t 21), none⟩,
 ⟨some 18, .mv (.t 22), none⟩] ⟨[2, 3, 4, 6, 18], [3, 4, 6], []⟩) (
 .cond (.t 18) (
 .seq (
 .region [] [] [
 ⟨some 23, .build [.int .i64 0, .int .i64 0, .bool false] [], none⟩,
 ⟨none, .store (.loc 6) [none, none, none] (.t 6) (.t 23), none⟩,
 ⟨some 7, .mv (.c (.bool false)), none⟩,
 ⟨some 8, .mv (.c (.int .i64 3)), none⟩] ⟨[6, 7, 8], [6], []⟩) (
 .ret)) (
 .seq (
 .region [] [] [
 ⟨some 25, .load (.loc 3) (some 6) (.t 3), none⟩,
 ⟨some 26, .load (.loc 4) (some 3) (.t 4), none⟩,
 ⟨some 27, .mv (.t 2), none⟩,
 ⟨some 28, .call true (.c (.fn 120 [])) [([some 2, none, none, some 2, none, none], (.t 25)), ([none, none, none], (.t 26)), ([none], (.t 27))] [], none⟩,
 ⟨some 29, .un .not (.t 28), none⟩,
 ⟨some 24, .mv (.t 29), none⟩] ⟨[2, 4, 6, 24], [4, 6], []⟩) (
 .cond (.t 24) (
 .seq (
 .region [] [] [
 ⟨some 30, .build [.int .i64 0, .int .i64 0, .bool false] [], none⟩,
 ⟨none, .store (.loc 6) [none, none, none] (.t 6) (.t 30), none⟩,
 ⟨some 7, .mv (.c (.bool false)), none⟩,
 ⟨some 8, .mv (.c (.int .i64 15)), none⟩] ⟨[6, 7, 8], [6], []⟩) (
 .ret)) (
 .skip)))))))) (
 .seq (
 .region [] [10] [
 ⟨some 31, .mv (.t 2), none⟩,
 ⟨some 32, .faddr 1 (.t 4), none⟩,
 ⟨some 33, .load (.loc 4) none (.t 32), none⟩,
 ⟨some 34, .bin .add (.t 33) (.c (.int .i64 1)), none⟩,
 ⟨some 35, .mm false (.t 34) (.c (.int .i64 1000)), none⟩,
 ⟨some 36, .faddr 2 (.t 4), none⟩,
 ⟨some 37, .load (.loc 4) none (.t 36), none⟩,
 ⟨some 38, .build [.int .i64 0, .int .i64 0, .bool false] [(0, 1, (.t 31)), (1, 1, (.t 35)), (2, 1, (.t 37))], none⟩,
 ⟨some 10, .obj 10 [.int .i64 0, .int .i64 0, .bool false], none⟩,
 ⟨none, .store (.loc 10) [none, none, none] (.t 10) (.t 38), none⟩] ⟨[2, 4, 6, 10], [4, 6, 10], []⟩) (
 .seq (
 .seq (
 .region [] [] [
 ⟨some 39, .mv (.t 2), none⟩,
 ⟨some 40, .bin .gtr (.t 39) (.c (.int .i64 0)), none⟩,
 ⟨some 41, .faddr 0 (.t 4), none⟩,
 ⟨some 42, .load (.loc 4) none (.t 41), none⟩,
 ⟨some 43, .bin .gtr (.t 42) (.c (.int .i64 0)), none⟩,
 ⟨some 44, .beq true (.t 40) (.t 43), none⟩] ⟨[2, 4, 6, 10, 44], [4, 6, 10], []⟩) (
 .cond (.t 44) (
 .region [] [] [
 ⟨some 45, .faddr 1 (.t 10), none⟩,
 ⟨none, .store (.loc 10) [none] (.t 45) (.c (.int .i64 1)), none⟩] ⟨[2, 4, 6, 10], [4, 6, 10], []⟩) (
 .skip))) (
 .seq (
 .region [] [] [
 ⟨some 46, .load (.loc 10) (some 3) (.t 10), none⟩,
 ⟨some 47, .mv (.t 2), none⟩,
 ⟨some 48, .bin .gtr (.t 47) (.c (.int .i64 0)), none⟩,
 ⟨some 49, .mv (.t 48), none⟩,
 ⟨some 50, .faddr 0 (.t 4), some (49, true)⟩,
 ⟨some 51, .load (.loc 4) none (.t 50), some (49, true)⟩,
 ⟨some 52, .bin .eql (.t 51) (.c (.int .i64 0)), some (49, true)⟩,
 ⟨some 53, .pick (.t 49) (.t 52) (.c (.bool false)), none⟩,
 ⟨none, .store (.loc 6) [none, none, none] (.t 6) (.t 46), none⟩,
 ⟨some 7, .mv (.t 53), none⟩,
 ⟨some 8, .mv (.c (.int .i64 0)), none⟩] ⟨[6, 7, 8], [6], []⟩) (
 .ret))))))

/- 102 -/

def v_unit_Power : VFunc where
  nparams := 2
  results := [.t 4 [none], .t 5 [none]]
  body :=
 .seq (
 .region [] [2] [
 ⟨some 2, .box 2 (.t 0), none⟩,
 ⟨some 4, .mv (.c (.int .i64 0)), none⟩,
 ⟨some 5, .mv (.c (.int .i64 0)), none⟩] ⟨[1, 2], [2], []⟩) (
 .seq (
 .seq (
 .region [] [] [
 ⟨some 7, .load (.loc 2) (some 6) (.t 2), none⟩,
 ⟨some 8, .call true (.c (.fn 47 [])) [([some 2, none, none, some 2, none, none], (.t 7))] [], none⟩,
 ⟨some 6, .mv (.t 8), none⟩] ⟨[1, 2, 6], [2], []⟩) (
 .seq (
 .region [] [] [
 ⟨some 9, .mv (.t 6), none⟩,
 ⟨some 10, .bin .neq (.t 9) (.c (.int .i64 0)), none⟩] ⟨[1, 2, 6, 10], [2], []⟩) (
 .cond (.t 10) (
 .seq (
 .region [] [] [
 ⟨some 11, .mv (.t 6), none⟩,
 ⟨some 4, .mv (.c (.int .i64 0)), none⟩,
 ⟨some 5, .mv (.t 11), none⟩] ⟨[4, 5], [], []⟩) (
 .ret)) (
 .skip)))) (
 .seq (
 .block 0 (
 .seq (
 .region [] [] [
 ⟨some 13, .mv (.t 1), none⟩,
 ⟨some 14, .bin .eql (.t 13) (.c (.int .i64 0)), none⟩,
 ⟨some 12, .mv (.t 14), none⟩] ⟨[1, 2, 12], [2], []⟩) (
 .cond (.t 12) (
 .seq (
 .region [] [] [
 ⟨some 4, .mv (.c (.int .i64 0)), none⟩,
 ⟨some 5, .mv (.c (.int .i64 0)), none⟩] ⟨[4, 5], [], []⟩) (
 .ret)) (
 .seq (
 .region [] [] [
 ⟨some 16, .load (.loc 2) (some 6) (.t 2), none⟩,
 ⟨some 17, .mv (.t 1), none⟩,
 ⟨some 18, .call true (.c (.fn 121 [])) [([some 2, none, none, some 2, none, none], (.t 16)), ([none], (.t 17))] [], none⟩,
 ⟨some 19, .un .not (.t 18), none⟩,
 ⟨some 15, .mv (.t 19), none⟩] ⟨[1, 2, 15], [2], []⟩) (
 .cond (.t 15) (
 .seq (
 .region [] [] [
 ⟨some 4, .mv (.c (.int .i64 0)), none⟩,
 ⟨some 5, .mv (.c (.int .i64 1)), none⟩] ⟨[4, 5], [], []⟩) (
 .ret)) (
 .skip)))))) (
 .seq (
 .region [] [] [
 ⟨some 20, .faddr 0 (.t 2), none⟩,
 ⟨some 21, .load (.loc 2) none (.t 20), none⟩,
 ⟨some 22, .mv (.t 1), none⟩,
 ⟨some 23, .call true (.c (.fn 108 [])) [([some 2], (.t 21)), ([none], (.t 22))] [], none⟩,
 ⟨some 4, .mv (.t 23), none⟩,
 ⟨some 5, .mv (.c (.int .i64 0)), none⟩] ⟨[4, 5], [], []⟩) (
 .ret))))

/- 103 -/
def v_r18_inside_b0 : VC :=
 .seq (
 .region [] [] [
 ⟨some 12, .bin .lss (.t 11) (.t 10), none⟩] ⟨[1, 9, 10, 11, 12], [], []⟩) (
 .seq (
 .cond (.t 12) (
 .skip) (
 .exit 0)) (
 .seq (
 .block 1 (
 .seq (
 .region [] [7] [
 ⟨some 13, .iaddr none 2 (.t 9) (.t 11), none⟩,
 ⟨some 14, .load .imm (some 2) (.t 13), none⟩,
 ⟨some 7, .obj 7 [.int .i64 0, .int .i64 0], none⟩,
 ⟨none, .store (.loc 7) [none, none] (.t 7) (.t 14), none⟩] ⟨[1, 7, 9, 10, 11], [7], []⟩) (
 .seq (
 .region [] [] [
 ⟨some 15, .mv (.t 1), none⟩,
 ⟨some 16, .faddr 0 (.t 7), none⟩,
 ⟨some 17, .load (.loc 7) none (.t 16), none⟩,
 ⟨some 18, .bin .gtr (.t 15) (.t 17), none⟩,
 ⟨some 19, .mv (.t 18), none⟩,
 ⟨some 20, .mv (.t 1), some (19, true)⟩,
 ⟨some 21, .faddr 1 (.t 7), some (19, true)⟩,
 ⟨some 22, .load (.loc 7) none (.t 21), some (19, true)⟩,
 ⟨some 23, .bin .lss (.t 20) (.t 22), some (19, true)⟩,
 ⟨some 24, .pick (.t 19) (.t 23) (.c (.bool false)), none⟩] ⟨[1, 7, 9, 10, 11, 24], [7], []⟩) (
 .cond (.t 24) (
 .seq (
 .region [] [] [
 ⟨some 25, .faddr 1 (.t 7), none⟩,
 ⟨some 26, .load (.loc 7) none (.t 25), none⟩,
 ⟨some 4, .mv (.t 26), none⟩,
 ⟨some 5, .mv (.c (.bool true)), none⟩] ⟨[4, 5], [], []⟩) (
 .ret)) (
 .skip))))) (
 .region [] [] [
 ⟨some 27, .bin .add (.t 11) (.c (.int .i64 1)), none⟩,
 ⟨some 11, .mv (.t 27), none⟩] ⟨[1, 9, 10, 11], [], []⟩)))

def v_r18_inside_l0 : VC := .loop [] ⟨[1, 9, 10, 11], [], []⟩ v_r18_inside_b0

abbrev v_r18_inside_s0 (x1 : Int) (x9 : V) (x10 : Int) (x11 : Int) (G : List GObj) : St := ⟨[(1, .int .i64 x1), (9, x9), (10, .int .i64 x10), (11, .int .i64 x11)], [], [], G⟩

def v_r18_inside : VFunc where
  nparams := 2
  results := [.t 4 [none], .t 5 [none]]
  body :=
 .seq (
 .region [] [2] [
 ⟨some 2, .box 2 (.t 0), none⟩,
 ⟨some 4, .mv (.c (.int .i64 0)), none⟩,
 ⟨some 5, .mv (.c (.bool false)), none⟩] ⟨[1, 2], [2], []⟩) (
 .seq (
 .seq (
 .region [] [] [
 ⟨some 8, .faddr 3 (.t 2), none⟩,
 ⟨some 9, .load (.loc 2) none (.t 8), none⟩,
 ⟨some 10, .len (.t 9), none⟩,
 ⟨some 11, .mv (.c (.int .i64 0)), none⟩] ⟨[1, 9, 10, 11], [], []⟩) (
 .block 0 (
 v_r18_inside_l0))) (
 .seq (
 .region [] [] [
 ⟨some 4, .mv (.c (.int .i64 0)), none⟩,
 ⟨some 5, .mv (.c (.bool false)), none⟩] ⟨[4, 5], [], []⟩) (
 .ret)))

/- 104 -/

def v_curve_steep : VFunc where
  nparams := 2
  results := [.t 4 [none]]
  body :=
 .seq (
 .region [] [] [
 ⟨some 4, .mv (.c (.bool false)), none⟩] ⟨[0, 1], [], []⟩) (
 .seq (
 .region [] [] [
 ⟨some 5, .mv (.t 0), none⟩,
 ⟨some 6, .bin .gtr (.t 5) (.c (.int .i64 0)), none⟩,
 ⟨some 7, .mv (.t 6), none⟩,
 ⟨some 8, .mv (.t 1), some (7, true)⟩,
 ⟨some 9, .mv (.t 0), some (7, true)⟩,
 ⟨some 10, .bin .quo (.c (.int .i64 4611686018427387904)) (.t 9), some (7, true)⟩,
 ⟨some 11, .bin .gtr (.t 8) (.t 10), some (7, true)⟩,
 ⟨some 12, .pick (.t 7) (.t 11) (.c (.bool false)), none⟩,
 ⟨some 4, .mv (.t 12), none⟩] ⟨[4], [], []⟩) (
 .ret))

/- 106 -/
def v_dispatch_choices_b0 : VC :=
 .seq (
 .region [] [] [
 ⟨some 33, .bin .lss (.t 32) (.t 31), none⟩] ⟨[3, 4, 10, 30, 31, 32, 33], [3, 4, 20026], [1061]⟩) (
 .seq (
 .cond (.t 33) (
 .skip) (
 .exit 0)) (
 .seq (
 .block 1 (
 .seq (
 .region [] [] [
 ⟨some 34, .iaddr none 1 (.t 30) (.t 32), none⟩,
 ⟨some 35, .load (.loc 20026) none (.t 34), none⟩,
 ⟨some 12, .mv (.t 35), none⟩] ⟨[3, 4, 10, 12, 30, 31, 32], [3, 4, 20026], [1061]⟩) (
 .seq (
 .seq (
 .region [] [] [
 ⟨some 36, .load (.loc 3) (some 6) (.t 3), none⟩,
 ⟨some 37, .load (.loc 4) (some 3) (.t 4), none⟩,
 ⟨some 38, .mv (.t 12), none⟩,
 ⟨some 39, .call true (.c (.fn 125 [])) [([some 2, none, none, some 2, none, none], (.t 36)), ([none, none, none], (.t 37)), ([none], (.t 38))] [], none⟩,
 ⟨some 40, .un .not (.t 39), none⟩] ⟨[3, 4, 10, 12, 30, 31, 32, 40], [3, 4, 20026], [1061]⟩) (
 .cond (.t 40) (
 .exit 1) (
 .skip))) (
 .seq (
 .region [] [13] [
 ⟨some 41, .mv (.t 12), none⟩,
 ⟨some 42, .build [.int .i64 0, .int .i64 0, .int .i64 0] [(0, 1, (.t 41))], none⟩,
 ⟨some 13, .obj 13 [.int .i64 0, .int .i64 0, .int .i64 0], none⟩,
 ⟨none, .store (.loc 13) [none, none, none] (.t 13) (.t 42), none⟩] ⟨[3, 4, 10, 12, 13, 30, 31, 32], [3, 4, 13, 20026], [1061]⟩) (
 .seq (
 .region [] [] [
 ⟨some 44, .load (.loc 3) (some 6) (.t 3), none⟩,
 ⟨some 45, .mv (.t 12), none⟩,
 ⟨some 46, .call true (.c (.fn 102 [])) [([some 2, none, none, some 2, none, none], (.t 44)), ([none], (.t 45))] [], none⟩,
 ⟨some 43, .mv (.t 46), none⟩,
 ⟨some 47, .ext (.t 43) 0, none⟩,
 ⟨some 48, .ext (.t 43) 1, none⟩,
 ⟨some 49, .faddr 1 (.t 13), none⟩,
 ⟨none, .store (.loc 13) [none] (.t 49) (.t 47), none⟩] ⟨[3, 4, 10, 12, 13, 30, 31, 32], [3, 4, 13, 20026], [1061]⟩) (
 .seq (
 .seq (
 .region [] [] [
 ⟨some 50, .mv (.t 12), none⟩,
 ⟨some 51, .bin .gtr (.t 50) (.c (.int .i64 0)), none⟩,
 ⟨some 52, .mv (.t 51), none⟩,
 ⟨some 53, .faddr 0 (.t 4), some (52, true)⟩,
 ⟨some 54, .load (.loc 4) none (.t 53), some (52, true)⟩,
 ⟨some 55, .bin .eql (.t 54) (.c (.int .i64 0)), some (52, true)⟩,
 ⟨some 56, .pick (.t 52) (.t 55) (.c (.bool false)), none⟩] ⟨[3, 4, 10, 13, 30, 31, 32, 56], [3, 4, 13, 20026], [1061]⟩) (
 .cond (.t 56) (
 .region [] [] [
 ⟨some 57, .faddr 2 (.t 13), none⟩,
 ⟨none, .store (.loc 13) [none] (.t 57) (.c (.int .i64 1)), none⟩] ⟨[3, 4, 10, 13, 30, 31, 32], [3, 4, 13, 20026], [1061]⟩) (
 .skip))) (
 .region [.norm 10 1061 3] [5061] [
 ⟨some 58, .mv (.t 10), none⟩,
 ⟨some 59, .load (.loc 13) (some 3) (.t 13), none⟩,
 ⟨some 60, .lit none [none, none, none] [.int .i64 0, .int .i64 0, .int .i64 0] 1 [(0, (.t 59))], none⟩,
 ⟨some 61, .app 5061 (some 1061) [none, none, none] (.t 58) (.t 60), none⟩,
 ⟨some 10, .mv (.t 61), none⟩] ⟨[3, 4, 10, 30, 31, 32], [3, 4, 20026], [1061]⟩))))))) (
 .region [] [] [
 ⟨some 62, .bin .add (.t 32) (.c (.int .i64 1)), none⟩,
 ⟨some 32, .mv (.t 62), none⟩] ⟨[3, 4, 10, 30, 31, 32], [3, 4, 20026], [1061]⟩)))

def v_dispatch_choices_l0 : VC := .loop [.norm 10 1061 3] ⟨[3, 4, 10, 30, 31, 32], [3, 4, 20026], [1061]⟩ v_dispatch_choices_b0

abbrev v_dispatch_choices_s0 (x10 : V) (n30 : Nat) (x31 : Int) (x32 : Int) (o3 : List V) (o4 : List V) (o20026 : List V) (k1061 : Nat) (G : List GObj) : St := ⟨[(3, .lptr 3 0), (4, .lptr 4 0), (10, x10), (30, .lref 20026 1 n30), (31, .int .i64 x31), (32, .int .i64 x32)], [(3, o3), (4, o4), (20026, o20026)], [(1061, k1061)], G⟩

def v_dispatch_choices : VFunc where
  nparams := 3
  results := [.t 6 [some 3], .t 7 [none]]
  body :=
 .seq (
 .region [] [3, 4] [
 ⟨some 3, .box 3 (.t 0), none⟩,
 ⟨some 4, .box 4 (.t 1), none⟩,
 ⟨some 6, .mv (.c (.nils)), none⟩,
 ⟨some 7, .mv (.c (.bool false)), none⟩] ⟨[2, 3, 4], [3, 4], []⟩) (
 .seq (
 .region [] [20026] [
 ⟨some 15, .load (.loc 3) (some 6) (.t 3), none⟩,
 ⟨some 16, .mv (.t 2), none⟩,
 ⟨some 17, .own (.c (.fn 122 [])) [([some 2, none, none, some 2, none, none], (.t 15)), ([none], (.t 16))] 20026 0, none⟩,
 ⟨some 14, .mv (.t 17), none⟩,
 ⟨some 18, .ext (.t 14) 0, none⟩,
 ⟨some 19, .ext (.t 14) 1, none⟩,
 ⟨some 8, .mv (.t 18), none⟩,
 ⟨some 9, .mv (.t 19), none⟩] ⟨[3, 4, 8, 9], [3, 4, 20026], []⟩) (
 .seq (
 .seq (
 .region [] [] [
 ⟨some 20, .mv (.t 9), none⟩,
 ⟨some 21, .bin .neq (.t 20) (.c (.int .i64 0)), none⟩] ⟨[3, 4, 8, 21], [3, 4, 20026], []⟩) (
 .cond (.t 21) (
 .seq (
 .region [] [] [
 ⟨some 6, .mv (.c (.nils)), none⟩,
 ⟨some 7, .mv (.c (.bool false)), none⟩] ⟨[6, 7], [], [1061]⟩) (
 .ret)) (
 .skip))) (
 .seq (
 .region [.ren 20026 21026] [20026] [
 ⟨some 22, .mv (.t 8), none⟩,
 ⟨some 23, .faddr 0 (.t 4), none⟩,
 ⟨some 24, .load (.loc 4) none (.t 23), none⟩,
 ⟨some 25, .lit none [none] [.int .i64 0] 2 [(0, (.c (.int .i64 0))), (1, (.t 24))], none⟩,
 ⟨some 26, .appo 20026 21026 [none] (.t 22) (.t 25), none⟩,
 ⟨some 8, .mv (.t 26), none⟩] ⟨[3, 4, 8], [3, 4, 20026], []⟩) (
 .seq (
 .region [] [] [
 ⟨some 27, .mv (.t 8), none⟩,
 ⟨some 28, .wrt 0 123 20026 (.t 27), none⟩] ⟨[3, 4, 8], [3, 4, 20026], []⟩) (
 .seq (
 .region [] [] [
 ⟨some 10, .mv (.c (.nils)), none⟩] ⟨[3, 4, 8, 10], [3, 4, 20026], [1061]⟩) (
 .seq (
 .seq (
 .region [] [] [
 ⟨some 29, .mv (.t 8), none⟩,
 ⟨some 30, .wrt 1 124 20026 (.t 29), none⟩,
 ⟨some 31, .len (.t 30), none⟩,
 ⟨some 32, .mv (.c (.int .i64 0)), none⟩] ⟨[3, 4, 10, 30, 31, 32], [3, 4, 20026], [1061]⟩) (
 .block 0 (
 v_dispatch_choices_l0))) (
 .seq (
 .region [] [] [
 ⟨some 63, .mv (.t 10), none⟩,
 ⟨some 6, .mv (.t 63), none⟩,
 ⟨some 7, .mv (.c (.bool true)), none⟩] ⟨[6, 7], [], [1061]⟩) (
 .ret))))))))

/- 107 -/

def v_gate_valid : VFunc where
  nparams := 2
  results := [.t 4 [none]]
  body :=
 .seq (
 .region [] [2, 3] [
 ⟨some 2, .box 2 (.t 0), none⟩,
 ⟨some 3, .box 3 (.t 1), none⟩,
 ⟨some 4, .mv (.c (.bool false)), none⟩] ⟨[2, 3], [2, 3], []⟩) (
 .seq (
 .region [] [] [
 ⟨some 5, .faddr 0 (.t 3), none⟩,
 ⟨some 6, .load (.loc 3) none (.t 5), none⟩,
 ⟨some 7, .faddr 1 (.t 2), none⟩,
 ⟨some 8, .load (.loc 2) none (.t 7), none⟩,
 ⟨some 9, .call true (.c (.fn 41 [])) [([none], (.t 6)), ([none], (.t 8))] [], none⟩,
 ⟨some 4, .mv (.t 9), none⟩] ⟨[4], [], []⟩) (
 .ret))

/- 108 -/
def v_curve_Value_b0 : VC :=
 .seq (
 .region [] [] [
 ⟨some 11, .bin .lss (.t 10) (.t 9), none⟩] ⟨[0, 1, 8, 9, 10, 11], [], []⟩) (
 .seq (
 .cond (.t 11) (
 .skip) (
 .exit 0)) (
 .seq (
 .block 1 (
 .seq (
 .region [] [6] [
 ⟨some 12, .mv (.t 10), none⟩,
 ⟨some 13, .iaddr none 2 (.t 8) (.t 10), none⟩,
 ⟨some 14, .load .imm (some 2) (.t 13), none⟩,
 ⟨some 6, .obj 6 [.int .i64 0, .int .i64 0], none⟩,
 ⟨some 5, .mv (.t 12), none⟩,
 ⟨none, .store (.loc 6) [none, none] (.t 6) (.t 14), none⟩] ⟨[0, 1, 5, 6, 8, 9, 10], [6], []⟩) (
 .block 2 (
 .seq (
 .region [] [] [
 ⟨some 16, .mv (.t 1), none⟩,
 ⟨some 17, .faddr 0 (.t 6), none⟩,
 ⟨some 18, .load (.loc 6) none (.t 17), none⟩,
 ⟨some 19, .bin .leq (.t 16) (.t 18), none⟩,
 ⟨some 20, .mv (.t 19), none⟩,
 ⟨some 21, .mv (.t 5), some (20, true)⟩,
 ⟨some 22, .bin .eql (.t 21) (.c (.int .i64 0)), some (20, true)⟩,
 ⟨some 23, .pick (.t 20) (.t 22) (.c (.bool false)), none⟩,
 ⟨some 15, .mv (.t 23), none⟩] ⟨[0, 1, 5, 6, 8, 9, 10, 15], [6], []⟩) (
 .cond (.t 15) (
 .seq (
 .region [] [] [
 ⟨some 24, .faddr 1 (.t 6), none⟩,
 ⟨some 25, .load (.loc 6) none (.t 24), none⟩,
 ⟨some 4, .mv (.t 25), none⟩] ⟨[4], [], []⟩) (
 .ret)) (
 .seq (
 .region [] [] [
 ⟨some 27, .mv (.t 1), none⟩,
 ⟨some 28, .faddr 0 (.t 6), none⟩,
 ⟨some 29, .load (.loc 6) none (.t 28), none⟩,
 ⟨some 30, .bin .leq (.t 27) (.t 29), none⟩,
 ⟨some 26, .mv (.t 30), none⟩] ⟨[0, 1, 5, 6, 8, 9, 10, 26], [6], []⟩) (
 .cond (.t 26) (
 .seq (
 .region [] [7] [
 ⟨some 31, .mv (.t 0), none⟩,
 ⟨some 32, .mv (.t 5), none⟩,
 ⟨some 33, .bin .sub (.t 32) (.c (.int .i64 1)), none⟩,
 ⟨some 34, .iaddr none 2 (.t 31) (.t 33), none⟩,
 ⟨some 35, .load .imm (some 2) (.t 34), none⟩,
 ⟨some 7, .obj 7 [.int .i64 0, .int .i64 0], none⟩,
 ⟨none, .store (.loc 7) [none, none] (.t 7) (.t 35), none⟩] ⟨[1, 6, 7], [6, 7], []⟩) (
 .seq (
 .region [] [] [
 ⟨some 36, .faddr 1 (.t 7), none⟩,
 ⟨some 37, .load (.loc 7) none (.t 36), none⟩,
 ⟨some 38, .faddr 1 (.t 6), none⟩,
 ⟨some 39, .load (.loc 6) none (.t 38), none⟩,
 ⟨some 40, .faddr 1 (.t 7), none⟩,
 ⟨some 41, .load (.loc 7) none (.t 40), none⟩,
 ⟨some 42, .bin .sub (.t 39) (.t 41), none⟩,
 ⟨some 43, .mv (.t 1), none⟩,
 ⟨some 44, .faddr 0 (.t 7), none⟩,
 ⟨some 45, .load (.loc 7) none (.t 44), none⟩,
 ⟨some 46, .bin .sub (.t 43) (.t 45), none⟩,
 ⟨some 47, .bin .mul (.t 42) (.t 46), none⟩,
 ⟨some 48, .faddr 0 (.t 6), none⟩,
 ⟨some 49, .load (.loc 6) none (.t 48), none⟩,
 ⟨some 50, .faddr 0 (.t 7), none⟩,
 ⟨some 51, .load (.loc 7) none (.t 50), none⟩,
 ⟨some 52, .bin .sub (.t 49) (.t 51), none⟩,
 ⟨some 53, .bin .quo (.t 47) (.t 52), none⟩,
 ⟨some 54, .bin .add (.t 37) (.t 53), none⟩,
 ⟨some 4, .mv (.t 54), none⟩] ⟨[4], [], []⟩) (
 .ret))) (
 .skip)))))))) (
 .region [] [] [
 ⟨some 55, .bin .add (.t 10) (.c (.int .i64 1)), none⟩,
 ⟨some 10, .mv (.t 55), none⟩] ⟨[0, 1, 8, 9, 10], [], []⟩)))

def v_curve_Value_l0 : VC := .loop [] ⟨[0, 1, 8, 9, 10], [], []⟩ v_curve_Value_b0

abbrev v_curve_Value_s0 (x0 : V) (x1 : Int) (x8 : V) (x9 : Int) (x10 : Int) (G : List GObj) : St := ⟨[(0, x0), (1, .int .i64 x1), (8, x8), (9, .int .i64 x9), (10, .int .i64 x10)], [], [], G⟩

def v_curve_Value : VFunc where
  nparams := 2
  results := [.t 4 [none]]
  body :=
 .seq (
 .region [] [] [
 ⟨some 4, .mv (.c (.int .i64 0)), none⟩] ⟨[0, 1], [], []⟩) (
 .seq (
 .seq (
 .region [] [] [
 ⟨some 8, .mv (.t 0), none⟩,
 ⟨some 9, .len (.t 8), none⟩,
 ⟨some 10, .mv (.c (.int .i64 0)), none⟩] ⟨[0, 1, 8, 9, 10], [], []⟩) (
 .block 0 (
 v_curve_Value_l0))) (
 .seq (
 .region [] [] [
 ⟨some 56, .mv (.t 0), none⟩,
 ⟨some 57, .mv (.t 0), none⟩,
 ⟨some 58, .len (.t 57), none⟩,
 ⟨some 59, .bin .sub (.t 58) (.c (.int .i64 1)), none⟩,
 ⟨some 60, .iaddr none 2 (.t 56) (.t 59), none⟩,
 ⟨some 61, .faddr 1 (.t 60), none⟩,
 ⟨some 62, .load .imm none (.t 61), none⟩,
 ⟨some 4, .mv (.t 62), none⟩] ⟨[4], [], []⟩) (
 .ret)))

/- 111 -/

def v_unit_fits : VFunc where
  nparams := 2
  results := [.t 4 [none]]
  body :=
 .seq (
 .region [] [2, 3] [
 ⟨some 2, .box 2 (.t 0), none⟩,
 ⟨some 3, .box 3 (.t 1), none⟩,
 ⟨some 4, .mv (.c (.bool false)), none⟩] ⟨[2, 3], [2, 3], []⟩) (
 .seq (
 .region [] [] [
 ⟨some 5, .faddr 1 (.t 3), none⟩,
 ⟨some 6, .load (.loc 3) none (.t 5), none⟩,
 ⟨some 7, .call true (.c (.fn 41 [])) [([none], (.t 6)), ([none], (.c (.int .i64 1000)))] [], none⟩,
 ⟨some 8, .mv (.t 7), none⟩,
 ⟨some 9, .faddr 0 (.t 3), some (8, true)⟩,
 ⟨some 10, .load (.loc 3) none (.t 9), some (8, true)⟩,
 ⟨some 11, .bin .eql (.t 10) (.c (.int .i64 0)), some (8, true)⟩,
 ⟨some 12, .mv (.t 11), some (8, true)⟩,
 ⟨some 13, .faddr 2 (.t 3), some (12, false)⟩,
 ⟨some 14, .load (.loc 3) none (.t 13), some (12, false)⟩,
 ⟨some 15, .un .not (.t 14), some (12, false)⟩,
 ⟨some 16, .mv (.t 15), some (12, false)⟩,
 ⟨some 17, .load (.loc 2) (some 6) (.t 2), some (16, true)⟩,
 ⟨some 18, .faddr 0 (.t 3), some (16, true)⟩,
 ⟨some 19, .load (.loc 3) none (.t 18), some (16, true)⟩,
 ⟨some 20, .call true (.c (.fn 121 [])) [([some 2, none, none, some 2, none, none], (.t 17)), ([none], (.t 19))] [], some (16, true)⟩,
 ⟨some 21, .pick (.t 16) (.t 20) (.c (.bool false)), some (12, false)⟩,
 ⟨some 22, .pick (.t 12) (.c (.bool true)) (.t 21), some (8, true)⟩,
 ⟨some 23, .pick (.t 8) (.t 22) (.c (.bool false)), none⟩,
 ⟨some 4, .mv (.t 23), none⟩] ⟨[4], [], []⟩) (
 .ret))

/- 115 -/

def v_gate_view_enough : VFunc where
  nparams := 2
  results := [.t 4 [none]]
  body :=
 .seq (
 .region [] [2] [
 ⟨some 2, .box 2 (.t 0), none⟩,
 ⟨some 4, .mv (.c (.bool false)), none⟩] ⟨[1, 2], [2], []⟩) (
 .seq (
 .region [] [] [
 ⟨some 5, .load (.loc 2) (some 2) (.t 2), none⟩,
 ⟨some 6, .mv (.t 1), none⟩,
 ⟨some 7, .call true (.c (.fn 87 [])) [([some 2, none], (.t 5)), ([none], (.t 6))] [], none⟩,
 ⟨some 8, .faddr 1 (.t 2), none⟩,
 ⟨some 9, .load (.loc 2) none (.t 8), none⟩,
 ⟨some 10, .bin .geq (.t 7) (.t 9), none⟩,
 ⟨some 4, .mv (.t 10), none⟩] ⟨[4], [], []⟩) (
 .ret))

/- 116 -/

def v_gate_least : VFunc where
  nparams := 2
  results := [.t 4 [none]]
  body :=
 .seq (
 .region [] [] [
 ⟨some 2, .gbox [none, none] (.t 0), none⟩,
 ⟨some 3, .gbox [none] (.t 1), none⟩,
 ⟨some 4, .mv (.c (.int .i64 0)), none⟩] ⟨[2, 3], [], []⟩) (
 .seq (
 .region [] [] [
 ⟨some 5, .faddr 0 (.t 2), none⟩,
 ⟨some 6, .load .glob none (.t 5), none⟩,
 ⟨some 7, .faddr 1 (.t 2), none⟩,
 ⟨some 8, .load .glob none (.t 7), none⟩,
 ⟨some 9, .faddr 0 (.t 2), none⟩,
 ⟨some 10, .load .glob none (.t 9), none⟩,
 ⟨some 11, .bin .sub (.t 8) (.t 10), none⟩,
 ⟨some 12, .bin .add (.t 11) (.c (.int .i64 1)), none⟩,
 ⟨some 13, .mkfn 128 [(.t 3), (.t 2)], none⟩,
 ⟨some 14, .rcall (.c (.fn 127 [])) [([none], (.t 12)), ([none], (.t 13))], none⟩,
 ⟨some 15, .bin .add (.t 6) (.t 14), none⟩,
 ⟨some 16, .faddr 1 (.t 2), none⟩,
 ⟨some 17, .load .glob none (.t 16), none⟩,
 ⟨some 18, .mm false (.t 15) (.t 17), none⟩,
 ⟨some 4, .mv (.t 18), none⟩] ⟨[4], [], []⟩) (
 .ret))

/- 117 -/

def v_gate_Set_1 : VFunc where
  nparams := 3
  results := [.t 4 [none]]
  body :=
 .seq (
 .region [] [] [
 ⟨some 4, .mv (.c (.bool false)), none⟩] ⟨[0, 1, 2], [], []⟩) (
 .seq (
 .region [] [] [
 ⟨some 5, .load .glob none (.t 1), none⟩,
 ⟨some 6, .load .glob (some 2) (.t 2), none⟩,
 ⟨some 7, .mv (.t 0), none⟩,
 ⟨some 8, .call false (.t 5) [([some 2, none], (.t 6)), ([none], (.t 7))] [], none⟩,
 ⟨some 4, .mv (.t 8), none⟩] ⟨[4], [], []⟩) (
 .ret))

/- 118 -/
def v_dispatch_Best_1_b0 : VC :=
 .seq (
 .region [] [] [
 ⟨some 36, .bin .lss (.t 35) (.t 34), none⟩] ⟨[0, 1, 3, 4, 7, 10, 33, 34, 35, 36], [7, 10], []⟩) (
 .seq (
 .cond (.t 36) (
 .skip) (
 .exit 0)) (
 .seq (
 .block 1 (
 .seq (
 .region [] [12] [
 ⟨some 37, .iaddr none 3 (.t 33) (.t 35), none⟩,
 ⟨some 38, .load .imm (some 3) (.t 37), none⟩,
 ⟨some 12, .obj 12 [.int .i64 0, .int .i64 0, .int .i64 0], none⟩,
 ⟨none, .store (.loc 12) [none, none, none] (.t 12) (.t 38), none⟩] ⟨[0, 1, 3, 4, 7, 10, 12, 33, 34, 35], [7, 10, 12], []⟩) (
 .seq (
 .seq (
 .region [] [] [
 ⟨some 39, .faddr 0 (.t 12), none⟩,
 ⟨some 40, .load (.loc 12) none (.t 39), none⟩,
 ⟨some 41, .mv (.t 1), none⟩,
 ⟨some 42, .bin .gtr (.t 40) (.t 41), none⟩] ⟨[0, 1, 3, 4, 7, 10, 12, 33, 34, 35, 42], [7, 10, 12], []⟩) (
 .cond (.t 42) (
 .exit 0) (
 .skip))) (
 .seq (
 .region [] [13] [
 ⟨some 43, .load .glob none (.t 4), none⟩,
 ⟨some 44, .mv (.t 0), none⟩,
 ⟨some 45, .bin .add (.t 44) (.c (.int .i64 1)), none⟩,
 ⟨some 46, .mv (.t 1), none⟩,
 ⟨some 47, .faddr 0 (.t 12), none⟩,
 ⟨some 48, .load (.loc 12) none (.t 47), none⟩,
 ⟨some 49, .bin .sub (.t 46) (.t 48), none⟩,
 ⟨some 50, .call false (.t 43) [([none], (.t 45)), ([none], (.t 49))] [], none⟩,
 ⟨some 13, .obj 13 [.bool false, .int .i64 0, .int .i64 0, .int .i64 0], none⟩,
 ⟨none, .store (.loc 13) [none, none, none, none] (.t 13) (.t 50), none⟩] ⟨[0, 1, 3, 4, 7, 10, 12, 13, 33, 34, 35], [7, 10, 12, 13], []⟩) (
 .seq (
 .region [] [14] [
 ⟨some 51, .faddr 1 (.t 13), none⟩,
 ⟨some 52, .iaddr (some 2) 1 (.t 51) (.c (.int .i64 0)), none⟩,
 ⟨some 53, .load (.loc 13) none (.t 52), none⟩,
 ⟨some 54, .faddr 1 (.t 12), none⟩,
 ⟨some 55, .load (.loc 12) none (.t 54), none⟩,
 ⟨some 56, .bin .add (.t 53) (.t 55), none⟩,
 ⟨some 57, .faddr 1 (.t 13), none⟩,
 ⟨some 58, .iaddr (some 2) 1 (.t 57) (.c (.int .i64 1)), none⟩,
 ⟨some 59, .load (.loc 13) none (.t 58), none⟩,
 ⟨some 60, .faddr 2 (.t 12), none⟩,
 ⟨some 61, .load (.loc 12) none (.t 60), none⟩,
 ⟨some 62, .bin .add (.t 59) (.t 61), none⟩,
 ⟨some 63, .build [.int .i64 0, .int .i64 0] [(0, 1, (.t 56)), (1, 1, (.t 62))], none⟩,
 ⟨some 14, .obj 14 [.int .i64 0, .int .i64 0], none⟩,
 ⟨none, .store (.loc 14) [none, none] (.t 14) (.t 63), none⟩] ⟨[0, 1, 3, 4, 7, 10, 12, 13, 14, 33, 34, 35], [7, 10, 12, 13, 14], []⟩) (
 .seq (
 .region [] [] [
 ⟨some 64, .faddr 0 (.t 13), none⟩,
 ⟨some 65, .load (.loc 13) none (.t 64), none⟩,
 ⟨some 66, .mv (.t 65), none⟩,
 ⟨some 67, .faddr 0 (.t 10), some (66, true)⟩,
 ⟨some 68, .load (.loc 10) none (.t 67), some (66, true)⟩,
 ⟨some 69, .un .not (.t 68), some (66, true)⟩,
 ⟨some 70, .mv (.t 69), some (66, true)⟩,
 ⟨some 71, .load (.loc 14) (some 2) (.t 14), some (70, false)⟩,
 ⟨some 72, .faddr 1 (.t 10), some (70, false)⟩,
 ⟨some 73, .load (.loc 10) (some 2) (.t 72), some (70, false)⟩,
 ⟨some 74, .call true (.c (.fn 119 [])) [([none, none], (.t 71)), ([none, none], (.t 73)), ([some 1], (.c (.nils))), ([some 1], (.c (.nils)))] [], some (70, false)⟩,
 ⟨some 75, .pick (.t 70) (.c (.bool true)) (.t 74), some (66, true)⟩,
 ⟨some 76, .pick (.t 66) (.t 75) (.c (.bool false)), none⟩] ⟨[0, 1, 3, 4, 7, 10, 12, 14, 33, 34, 35, 76], [7, 10, 12, 14], []⟩) (
 .cond (.t 76) (
 .region [] [] [
 ⟨some 77, .load (.loc 14) (some 2) (.t 14), none⟩,
 ⟨some 78, .faddr 0 (.t 12), none⟩,
 ⟨some 79, .load (.loc 12) none (.t 78), none⟩,
 ⟨some 80, .build [.bool false, .int .i64 0, .int .i64 0, .int .i64 0] [(0, 1, (.c (.bool true))), (1, 2, (.t 77)), (3, 1, (.t 79))], none⟩,
 ⟨none, .store (.loc 10) [none, none, none, none] (.t 10) (.t 80), none⟩] ⟨[0, 1, 3, 4, 7, 10, 33, 34, 35], [7, 10], []⟩) (
 .skip)))))))) (
 .region [] [] [
 ⟨some 81, .bin .add (.t 35) (.c (.int .i64 1)), none⟩,
 ⟨some 35, .mv (.t 81), none⟩] ⟨[0, 1, 3, 4, 7, 10, 33, 34, 35], [7, 10], []⟩)))

def v_dispatch_Best_1_l0 : VC := .loop [] ⟨[0, 1, 3, 4, 7, 10, 33, 34, 35], [7, 10], []⟩ v_dispatch_Best_1_b0

abbrev v_dispatch_Best_1_s0 (x0 : Int) (x1 : Int) (x3 : V) (x4 : V) (x33 : V) (x34 : Int) (x35 : Int) (o7 : List V) (o10 : List V) (G : List GObj) : St := ⟨[(0, .int .i64 x0), (1, .int .i64 x1), (3, x3), (4, x4), (7, .lptr 7 0), (10, .lptr 10 0), (33, x33), (34, .int .i64 x34), (35, .int .i64 x35)], [(7, o7), (10, o10)], [], G⟩

def v_dispatch_Best_1 : VFunc where
  nparams := 5
  results := [.c 7 true [none, none, none, none]]
  body :=
 .seq (
 .region [] [7] [
 ⟨some 7, .obj 7 [.bool false, .int .i64 0, .int .i64 0, .int .i64 0], none⟩] ⟨[0, 1, 2, 3, 4, 7], [7], []⟩) (
 .seq (
 .seq (
 .region [] [] [
 ⟨some 15, .mv (.t 0), none⟩,
 ⟨some 16, .load .glob none (.t 2), none⟩,
 ⟨some 17, .len (.t 16), none⟩,
 ⟨some 18, .bin .eql (.t 15) (.t 17), none⟩] ⟨[0, 1, 2, 3, 4, 7, 18], [7], []⟩) (
 .cond (.t 18) (
 .seq (
 .region [] [] [
 ⟨some 19, .build [.bool false, .int .i64 0, .int .i64 0, .int .i64 0] [(0, 1, (.c (.bool true)))], none⟩,
 ⟨none, .store (.loc 7) [none, none, none, none] (.t 7) (.t 19), none⟩] ⟨[7], [7], []⟩) (
 .ret)) (
 .skip))) (
 .seq (
 .seq (
 .region [] [8] [
 ⟨some 21, .load .glob none (.t 3), none⟩,
 ⟨some 22, .mv (.t 0), none⟩,
 ⟨some 23, .mv (.t 1), none⟩,
 ⟨some 24, .build [.int .i64 0, .int .i64 0] [(0, 1, (.t 22)), (1, 1, (.t 23))], none⟩,
 ⟨some 25, .mapget true [0, 0] (.agg [.bool false, .int .i64 0, .int .i64 0, .int .i64 0]) true (.t 21) (.t 24), none⟩,
 ⟨some 20, .mv (.t 25), none⟩,
 ⟨some 26, .ext (.t 20) 0, none⟩,
 ⟨some 27, .ext (.t 20) 1, none⟩,
 ⟨some 8, .obj 8 [.bool false, .int .i64 0, .int .i64 0, .int .i64 0], none⟩,
 ⟨none, .store (.loc 8) [none, none, none, none] (.t 8) (.t 26), none⟩,
 ⟨some 9, .mv (.t 27), none⟩] ⟨[0, 1, 2, 3, 4, 7, 8, 9], [7, 8], []⟩) (
 .seq (
 .region [] [] [
 ⟨some 28, .mv (.t 9), none⟩] ⟨[0, 1, 2, 3, 4, 7, 8, 28], [7, 8], []⟩) (
 .cond (.t 28) (
 .seq (
 .region [] [] [
 ⟨some 29, .load (.loc 8) (some 4) (.t 8), none⟩,
 ⟨none, .store (.loc 7) [none, none, none, none] (.t 7) (.t 29), none⟩] ⟨[7], [7], []⟩) (
 .ret)) (
 .skip)))) (
 .seq (
 .region [] [10] [
 ⟨some 10, .obj 10 [.bool false, .int .i64 0, .int .i64 0, .int .i64 0], none⟩] ⟨[0, 1, 2, 3, 4, 7, 10], [7, 10], []⟩) (
 .seq (
 .seq (
 .region [] [] [
 ⟨some 30, .load .glob none (.t 2), none⟩,
 ⟨some 31, .mv (.t 0), none⟩,
 ⟨some 32, .iaddr none 1 (.t 30) (.t 31), none⟩,
 ⟨some 33, .load .imm none (.t 32), none⟩,
 ⟨some 34, .len (.t 33), none⟩,
 ⟨some 35, .mv (.c (.int .i64 0)), none⟩] ⟨[0, 1, 3, 4, 7, 10, 33, 34, 35], [7, 10], []⟩) (
 .block 0 (
 v_dispatch_Best_1_l0))) (
 .seq (
 .region [] [] [
 ⟨some 82, .load .glob none (.t 3), none⟩,
 ⟨some 83, .mv (.t 0), none⟩,
 ⟨some 84, .mv (.t 1), none⟩,
 ⟨some 85, .build [.int .i64 0, .int .i64 0] [(0, 1, (.t 83)), (1, 1, (.t 84))], none⟩,
 ⟨some 86, .load (.loc 10) (some 4) (.t 10), none⟩,
 ⟨none, .mapset true [0, 0] [none, none, none, none] (.t 82) (.t 85) (.t 86), none⟩] ⟨[7, 10], [7, 10], []⟩) (
 .seq (
 .region [] [] [
 ⟨some 87, .load (.loc 10) (some 4) (.t 10), none⟩,
 ⟨none, .store (.loc 7) [none, none, none, none] (.t 7) (.t 87), none⟩] ⟨[7], [7], []⟩) (
 .ret)))))))

/- 119 -/

def v_dispatch_Better : VFunc where
  nparams := 4
  results := [.t 8 [none]]
  body :=
 .seq (
 .region [] [4, 5] [
 ⟨some 4, .box 4 (.t 0), none⟩,
 ⟨some 5, .box 5 (.t 1), none⟩,
 ⟨some 8, .mv (.c (.bool false)), none⟩] ⟨[2, 3, 4, 5], [4, 5], []⟩) (
 .seq (
 .block 0 (
 .seq (
 .region [] [] [
 ⟨some 10, .iaddr (some 2) 1 (.t 4) (.c (.int .i64 0)), none⟩,
 ⟨some 11, .load (.loc 4) none (.t 10), none⟩,
 ⟨some 12, .iaddr (some 2) 1 (.t 5) (.c (.int .i64 0)), none⟩,
 ⟨some 13, .load (.loc 5) none (.t 12), none⟩,
 ⟨some 14, .bin .neq (.t 11) (.t 13), none⟩,
 ⟨some 9, .mv (.t 14), none⟩] ⟨[2, 3, 4, 5, 9], [4, 5], []⟩) (
 .cond (.t 9) (
 .seq (
 .region [] [] [
 ⟨some 15, .iaddr (some 2) 1 (.t 4) (.c (.int .i64 0)), none⟩,
 ⟨some 16, .load (.loc 4) none (.t 15), none⟩,
 ⟨some 17, .iaddr (some 2) 1 (.t 5) (.c (.int .i64 0)), none⟩,
 ⟨some 18, .load (.loc 5) none (.t 17), none⟩,
 ⟨some 19, .bin .gtr (.t 16) (.t 18), none⟩,
 ⟨some 8, .mv (.t 19), none⟩] ⟨[8], [], []⟩) (
 .ret)) (
 .seq (
 .region [] [] [
 ⟨some 21, .iaddr (some 2) 1 (.t 4) (.c (.int .i64 1)), none⟩,
 ⟨some 22, .load (.loc 4) none (.t 21), none⟩,
 ⟨some 23, .iaddr (some 2) 1 (.t 5) (.c (.int .i64 1)), none⟩,
 ⟨some 24, .load (.loc 5) none (.t 23), none⟩,
 ⟨some 25, .bin .neq (.t 22) (.t 24), none⟩,
 ⟨some 20, .mv (.t 25), none⟩] ⟨[2, 3, 4, 5, 20], [4, 5], []⟩) (
 .cond (.t 20) (
 .seq (
 .region [] [] [
 ⟨some 26, .iaddr (some 2) 1 (.t 4) (.c (.int .i64 1)), none⟩,
 ⟨some 27, .load (.loc 4) none (.t 26), none⟩,
 ⟨some 28, .iaddr (some 2) 1 (.t 5) (.c (.int .i64 1)), none⟩,
 ⟨some 29, .load (.loc 5) none (.t 28), none⟩,
 ⟨some 30, .bin .lss (.t 27) (.t 29), none⟩,
 ⟨some 8, .mv (.t 30), none⟩] ⟨[8], [], []⟩) (
 .ret)) (
 .skip)))))) (
 .seq (
 .region [] [] [
 ⟨some 31, .mv (.t 2), none⟩,
 ⟨some 32, .mv (.t 3), none⟩,
 ⟨some 33, .call true (.c (.fn 129 [])) [([some 1], (.t 31)), ([some 1], (.t 32))] [], none⟩,
 ⟨some 34, .bin .lss (.t 33) (.c (.int .i64 0)), none⟩,
 ⟨some 8, .mv (.t 34), none⟩] ⟨[8], [], []⟩) (
 .ret)))

/- 120 -/

def v_unit_may : VFunc where
  nparams := 3
  results := [.t 6 [none]]
  body :=
 .seq (
 .region [] [3, 4] [
 ⟨some 3, .box 3 (.t 0), none⟩,
 ⟨some 4, .box 4 (.t 1), none⟩,
 ⟨some 6, .mv (.c (.bool false)), none⟩] ⟨[2, 3, 4], [3, 4], []⟩) (
 .seq (
 .block 0 (
 .seq (
 .region [] [] [
 ⟨some 8, .mv (.t 2), none⟩,
 ⟨some 9, .bin .eql (.t 8) (.c (.int .i64 0)), none⟩,
 ⟨some 10, .mv (.t 9), none⟩,
 ⟨some 11, .faddr 0 (.t 4), some (10, true)⟩,
 ⟨some 12, .load (.loc 4) none (.t 11), some (10, true)⟩,
 ⟨some 13, .bin .gtr (.t 12) (.c (.int .i64 0)), some (10, true)⟩,
 ⟨some 14, .pick (.t 10) (.t 13) (.c (.bool false)), none⟩,
 ⟨some 7, .mv (.t 14), none⟩] ⟨[2, 3, 4, 7], [3, 4], []⟩) (
 .cond (.t 7) (
 .seq (
 .region [] [] [
 ⟨some 15, .faddr 1 (.t 4), none⟩,
 ⟨some 16, .load (.loc 4) none (.t 15), none⟩,
 ⟨some 17, .faddr 4 (.t 3), none⟩,
 ⟨some 18, .load (.loc 3) none (.t 17), none⟩,
 ⟨some 19, .bin .geq (.t 16) (.t 18), none⟩,
 ⟨some 6, .mv (.t 19), none⟩] ⟨[6], [], []⟩) (
 .ret)) (
 .seq (
 .region [] [] [
 ⟨some 21, .mv (.t 2), none⟩,
 ⟨some 22, .bin .eql (.t 21) (.c (.int .i64 0)), none⟩,
 ⟨some 20, .mv (.t 22), none⟩] ⟨[2, 3, 4, 20], [3, 4], []⟩) (
 .cond (.t 20) (
 .seq (
 .region [] [] [
 ⟨some 6, .mv (.c (.bool true)), none⟩] ⟨[6], [], []⟩) (
 .ret)) (
 .seq (
 .region [] [] [
 ⟨some 24, .faddr 2 (.t 4), none⟩,
 ⟨some 25, .load (.loc 4) none (.t 24), none⟩,
 ⟨some 26, .mv (.t 25), none⟩,
 ⟨some 27, .faddr 0 (.t 4), some (26, false)⟩,
 ⟨some 28, .load (.loc 4) none (.t 27), some (26, false)⟩,
 ⟨some 29, .bin .eql (.t 28) (.c (.int .i64 0)), some (26, false)⟩,
 ⟨some 30, .mv (.t 29), some (26, false)⟩,
 ⟨some 31, .faddr 1 (.t 4), some (30, true)⟩,
 ⟨some 32, .load (.loc 4) none (.t 31), some (30, true)⟩,
 ⟨some 33, .faddr 5 (.t 3), some (30, true)⟩,
 ⟨some 34, .load (.loc 3) none (.t 33), some (30, true)⟩,
 ⟨some 35, .bin .lss (.t 32) (.t 34), some (30, true)⟩,
 ⟨some 36, .pick (.t 30) (.t 35) (.c (.bool false)), some (26, false)⟩,
 ⟨some 37, .pick (.t 26) (.c (.bool true)) (.t 36), none⟩,
 ⟨some 23, .mv (.t 37), none⟩] ⟨[2, 3, 23], [3], []⟩) (
 .cond (.t 23) (
 .seq (
 .region [] [] [
 ⟨some 6, .mv (.c (.bool false)), none⟩] ⟨[6], [], []⟩) (
 .ret)) (
 .skip)))))))) (
 .seq (
 .region [] [] [
 ⟨some 38, .load (.loc 3) (some 6) (.t 3), none⟩,
 ⟨some 39, .mv (.t 2), none⟩,
 ⟨some 40, .call true (.c (.fn 121 [])) [([some 2, none, none, some 2, none, none], (.t 38)), ([none], (.t 39))] [], none⟩,
 ⟨some 6, .mv (.t 40), none⟩] ⟨[6], [], []⟩) (
 .ret)))

/- 121 -/

def v_unit_runs : VFunc where
  nparams := 2
  results := [.t 4 [none]]
  body :=
 .seq (
 .region [] [2] [
 ⟨some 2, .box 2 (.t 0), none⟩,
 ⟨some 4, .mv (.c (.bool false)), none⟩] ⟨[1, 2], [2], []⟩) (
 .seq (
 .region [] [] [
 ⟨some 5, .mv (.t 1), none⟩,
 ⟨some 6, .faddr 1 (.t 2), none⟩,
 ⟨some 7, .load (.loc 2) none (.t 6), none⟩,
 ⟨some 8, .bin .geq (.t 5) (.t 7), none⟩,
 ⟨some 9, .mv (.t 8), none⟩,
 ⟨some 10, .mv (.t 1), some (9, true)⟩,
 ⟨some 11, .faddr 2 (.t 2), some (9, true)⟩,
 ⟨some 12, .load (.loc 2) none (.t 11), some (9, true)⟩,
 ⟨some 13, .bin .leq (.t 10) (.t 12), some (9, true)⟩,
 ⟨some 14, .pick (.t 9) (.t 13) (.c (.bool false)), none⟩,
 ⟨some 15, .mv (.t 14), none⟩,
 ⟨some 16, .load (.loc 2) (some 6) (.t 2), some (15, true)⟩,
 ⟨some 17, .mv (.t 1), some (15, true)⟩,
 ⟨some 18, .call true (.c (.fn 130 [])) [([some 2, none, none, some 2, none, none], (.t 16)), ([none], (.t 17))] [], some (15, true)⟩,
 ⟨some 19, .mv (.t 1), some (15, true)⟩,
 ⟨some 20, .bin .eql (.t 18) (.t 19), some (15, true)⟩,
 ⟨some 21, .pick (.t 15) (.t 20) (.c (.bool false)), none⟩,
 ⟨some 4, .mv (.t 21), none⟩] ⟨[4], [], []⟩) (
 .ret))

/- 122 -/
def v_unit_Flows_b0 : VC :=
 .block 1 (
 .seq (
 .region [] [] [
 ⟨some 23, .mv (.t 8), none⟩,
 ⟨some 24, .mv (.t 1), none⟩,
 ⟨some 25, .bin .add (.t 23) (.t 24), none⟩,
 ⟨some 26, .bin .sub (.t 25) (.c (.int .i64 1)), none⟩,
 ⟨some 27, .mv (.t 1), none⟩,
 ⟨some 28, .bin .quo (.t 26) (.t 27), none⟩,
 ⟨some 29, .mv (.t 1), none⟩,
 ⟨some 30, .bin .mul (.t 28) (.t 29), none⟩,
 ⟨some 8, .mv (.t 30), none⟩] ⟨[1, 2, 7, 8], [2], [1049]⟩) (
 .seq (
 .seq (
 .region [] [] [
 ⟨some 31, .mv (.t 8), none⟩,
 ⟨some 32, .faddr 2 (.t 2), none⟩,
 ⟨some 33, .load (.loc 2) none (.t 32), none⟩,
 ⟨some 34, .bin .gtr (.t 31) (.t 33), none⟩] ⟨[1, 2, 7, 8, 34], [2], [1049]⟩) (
 .cond (.t 34) (
 .seq (
 .region [] [] [
 ⟨some 35, .mv (.t 7), none⟩,
 ⟨some 4, .mv (.t 35), none⟩,
 ⟨some 5, .mv (.c (.int .i64 0)), none⟩] ⟨[4, 5], [], [1049]⟩) (
 .ret)) (
 .skip))) (
 .seq (
 .seq (
 .region [] [] [
 ⟨some 36, .load (.loc 2) (some 6) (.t 2), none⟩,
 ⟨some 37, .mv (.t 8), none⟩,
 ⟨some 38, .call true (.c (.fn 130 [])) [([some 2, none, none, some 2, none, none], (.t 36)), ([none], (.t 37))] [], none⟩,
 ⟨some 9, .mv (.t 38), none⟩] ⟨[1, 2, 7, 8, 9], [2], [1049]⟩) (
 .seq (
 .region [] [] [
 ⟨some 39, .mv (.t 9), none⟩,
 ⟨some 40, .mv (.t 8), none⟩,
 ⟨some 41, .bin .neq (.t 39) (.t 40), none⟩] ⟨[1, 2, 7, 8, 9, 41], [2], [1049]⟩) (
 .cond (.t 41) (
 .seq (
 .region [] [] [
 ⟨some 42, .mv (.t 9), none⟩,
 ⟨some 8, .mv (.t 42), none⟩] ⟨[1, 2, 7, 8], [2], [1049]⟩) (
 .exit 1)) (
 .skip)))) (
 .seq (
 .seq (
 .region [] [] [
 ⟨some 43, .mv (.t 7), none⟩,
 ⟨some 44, .len (.t 43), none⟩,
 ⟨some 45, .bin .eql (.t 44) (.c (.int .i64 200)), none⟩] ⟨[1, 2, 7, 8, 45], [2], [1049]⟩) (
 .cond (.t 45) (
 .seq (
 .region [] [] [
 ⟨some 4, .mv (.c (.nils)), none⟩,
 ⟨some 5, .mv (.c (.int .i64 10)), none⟩] ⟨[4, 5], [], [1049]⟩) (
 .ret)) (
 .skip))) (
 .seq (
 .region [.norm 7 1049 1] [5049] [
 ⟨some 46, .mv (.t 7), none⟩,
 ⟨some 47, .mv (.t 8), none⟩,
 ⟨some 48, .lit none [none] [.int .i64 0] 1 [(0, (.t 47))], none⟩,
 ⟨some 49, .app 5049 (some 1049) [none] (.t 46) (.t 48), none⟩,
 ⟨some 7, .mv (.t 49), none⟩] ⟨[1, 2, 7, 8], [2], [1049]⟩) (
 .region [] [] [
 ⟨some 50, .mv (.t 8), none⟩,
 ⟨some 51, .bin .add (.t 50) (.c (.int .i64 1)), none⟩,
 ⟨some 8, .mv (.t 51), none⟩] ⟨[1, 2, 7, 8], [2], [1049]⟩))))))

def v_unit_Flows_l0 : VC := .loop [.norm 7 1049 1] ⟨[1, 2, 7, 8], [2], [1049]⟩ v_unit_Flows_b0

abbrev v_unit_Flows_s0 (x1 : Int) (x7 : V) (x8 : Int) (o2 : List V) (k1049 : Nat) (G : List GObj) : St := ⟨[(1, .int .i64 x1), (2, .lptr 2 0), (7, x7), (8, .int .i64 x8)], [(2, o2)], [(1049, k1049)], G⟩

def v_unit_Flows : VFunc where
  nparams := 2
  results := [.t 4 [some 1], .t 5 [none]]
  body :=
 .seq (
 .region [] [2] [
 ⟨some 2, .box 2 (.t 0), none⟩,
 ⟨some 4, .mv (.c (.nils)), none⟩,
 ⟨some 5, .mv (.c (.int .i64 0)), none⟩] ⟨[1, 2], [2], []⟩) (
 .seq (
 .seq (
 .region [] [] [
 ⟨some 10, .load (.loc 2) (some 6) (.t 2), none⟩,
 ⟨some 11, .call true (.c (.fn 47 [])) [([some 2, none, none, some 2, none, none], (.t 10))] [], none⟩,
 ⟨some 6, .mv (.t 11), none⟩] ⟨[1, 2, 6], [2], []⟩) (
 .seq (
 .region [] [] [
 ⟨some 12, .mv (.t 6), none⟩,
 ⟨some 13, .bin .neq (.t 12) (.c (.int .i64 0)), none⟩] ⟨[1, 2, 6, 13], [2], []⟩) (
 .cond (.t 13) (
 .seq (
 .region [] [] [
 ⟨some 14, .mv (.t 6), none⟩,
 ⟨some 4, .mv (.c (.nils)), none⟩,
 ⟨some 5, .mv (.t 14), none⟩] ⟨[4, 5], [], [1049]⟩) (
 .ret)) (
 .skip)))) (
 .seq (
 .seq (
 .region [] [] [
 ⟨some 15, .mv (.t 1), none⟩,
 ⟨some 16, .bin .lss (.t 15) (.c (.int .i64 1)), none⟩,
 ⟨some 17, .mv (.t 16), none⟩,
 ⟨some 18, .mv (.t 1), some (17, false)⟩,
 ⟨some 19, .bin .gtr (.t 18) (.c (.int .i64 1073741824)), some (17, false)⟩,
 ⟨some 20, .pick (.t 17) (.c (.bool true)) (.t 19), none⟩] ⟨[1, 2, 20], [2], []⟩) (
 .cond (.t 20) (
 .seq (
 .region [] [] [
 ⟨some 4, .mv (.c (.nils)), none⟩,
 ⟨some 5, .mv (.c (.int .i64 1)), none⟩] ⟨[4, 5], [], [1049]⟩) (
 .ret)) (
 .skip))) (
 .seq (
 .region [] [] [
 ⟨some 7, .mv (.c (.nils)), none⟩] ⟨[1, 2, 7], [2], [1049]⟩) (
 .seq (
 .region [] [] [
 ⟨some 21, .faddr 1 (.t 2), none⟩,
 ⟨some 22, .load (.loc 2) none (.t 21), none⟩,
 ⟨some 8, .mv (.t 22), none⟩] ⟨[1, 2, 7, 8], [2], [1049]⟩) (
 .block 0 (
 v_unit_Flows_l0))))))
end Go.Proofs.YtfjdfnegookkcaaGreat
