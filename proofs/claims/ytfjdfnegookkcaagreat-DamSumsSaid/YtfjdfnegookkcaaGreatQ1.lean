/-
  The functions of the program, as the value machine has them, by program.
-/
import Derived.Test.YtfjdfnegookkcaaGreatVmT
namespace Go.Proofs.YtfjdfnegookkcaaGreat
open Go.Vm
set_option maxRecDepth 100000
/- 125 -/

def v_unit_May : VFunc where
  nparams := 3
  results := [.t 6 [none]]
  body :=
 .seq (
 .region [] [3, 4] [
 ⟨some 3, .box 3 (.t 0), none⟩,
 ⟨some 4, .box 4 (.t 1), none⟩,
 ⟨some 6, .mv (.c (.bool false)), none⟩] ⟨[2, 3, 4], [3, 4], []⟩) (
 .seq (
 .region [] [] [
 ⟨some 7, .load (.loc 3) (some 6) (.t 3), none⟩,
 ⟨some 8, .load (.loc 4) (some 3) (.t 4), none⟩,
 ⟨some 9, .call true (.c (.fn 93 [])) [([some 2, none, none, some 2, none, none], (.t 7)), ([none, none, none], (.t 8))] [], none⟩,
 ⟨some 10, .mv (.t 9), none⟩,
 ⟨some 11, .load (.loc 3) (some 6) (.t 3), some (10, true)⟩,
 ⟨some 12, .load (.loc 4) (some 3) (.t 4), some (10, true)⟩,
 ⟨some 13, .mv (.t 2), some (10, true)⟩,
 ⟨some 14, .call true (.c (.fn 120 [])) [([some 2, none, none, some 2, none, none], (.t 11)), ([none, none, none], (.t 12)), ([none], (.t 13))] [], some (10, true)⟩,
 ⟨some 15, .pick (.t 10) (.t 14) (.c (.bool false)), none⟩,
 ⟨some 6, .mv (.t 15), none⟩] ⟨[6], [], []⟩) (
 .ret))

/- 127 -/
def v_sort_Search_b0 : VC :=
 .seq (
 .seq (
 .region [] [] [
 ⟨some 9, .mv (.t 5), none⟩,
 ⟨some 10, .mv (.t 6), none⟩,
 ⟨some 11, .bin .lss (.t 9) (.t 10), none⟩] ⟨[1, 5, 6, 11], [], []⟩) (
 .cond (.t 11) (
 .skip) (
 .exit 0))) (
 .block 1 (
 .seq (
 .region [] [] [
 ⟨some 12, .mv (.t 5), none⟩,
 ⟨some 13, .mv (.t 6), none⟩,
 ⟨some 14, .bin .add (.t 12) (.t 13), none⟩,
 ⟨some 15, .conv .u64 (.t 14), none⟩,
 ⟨some 16, .bin .shr (.t 15) (.c (.int .u64 1)), none⟩,
 ⟨some 17, .conv .i64 (.t 16), none⟩,
 ⟨some 7, .mv (.t 17), none⟩] ⟨[1, 5, 6, 7], [], []⟩) (
 .seq (
 .region [] [] [
 ⟨some 18, .mv (.t 1), none⟩,
 ⟨some 19, .mv (.t 7), none⟩,
 ⟨some 20, .call false (.t 18) [([none], (.t 19))] [], none⟩,
 ⟨some 21, .un .not (.t 20), none⟩] ⟨[1, 5, 6, 7, 21], [], []⟩) (
 .cond (.t 21) (
 .region [] [] [
 ⟨some 22, .mv (.t 7), none⟩,
 ⟨some 23, .bin .add (.t 22) (.c (.int .i64 1)), none⟩,
 ⟨some 5, .mv (.t 23), none⟩] ⟨[1, 5, 6], [], []⟩) (
 .region [] [] [
 ⟨some 24, .mv (.t 7), none⟩,
 ⟨some 6, .mv (.t 24), none⟩] ⟨[1, 5, 6], [], []⟩)))))

def v_sort_Search_l0 : VC := .loop [] ⟨[1, 5, 6], [], []⟩ v_sort_Search_b0

abbrev v_sort_Search_s0 (x1 : V) (x5 : Int) (x6 : Int) (G : List GObj) : St := ⟨[(1, x1), (5, .int .i64 x5), (6, .int .i64 x6)], [], [], G⟩

def v_sort_Search : VFunc where
  nparams := 2
  results := [.t 4 [none]]
  body :=
 .seq (
 .region [] [] [
 ⟨some 4, .mv (.c (.int .i64 0)), none⟩] ⟨[0, 1], [], []⟩) (
 .seq (
 .region [] [] [
 ⟨some 8, .mv (.t 0), none⟩,
 ⟨some 5, .mv (.c (.int .i64 0)), none⟩,
 ⟨some 6, .mv (.t 8), none⟩] ⟨[1, 5, 6], [], []⟩) (
 .seq (
 .block 0 (
 v_sort_Search_l0)) (
 .seq (
 .region [] [] [
 ⟨some 25, .mv (.t 5), none⟩,
 ⟨some 4, .mv (.t 25), none⟩] ⟨[4], [], []⟩) (
 .ret))))

/- 128 -/

def v_gate_least_1 : VFunc where
  nparams := 3
  results := [.t 4 [none]]
  body :=
 .seq (
 .region [] [] [
 ⟨some 4, .mv (.c (.bool false)), none⟩] ⟨[0, 1, 2], [], []⟩) (
 .seq (
 .region [] [] [
 ⟨some 5, .load .glob none (.t 1), none⟩,
 ⟨some 6, .faddr 0 (.t 2), none⟩,
 ⟨some 7, .load .glob none (.t 6), none⟩,
 ⟨some 8, .mv (.t 0), none⟩,
 ⟨some 9, .bin .add (.t 7) (.t 8), none⟩,
 ⟨some 10, .call false (.t 5) [([none], (.t 9))] [], none⟩,
 ⟨some 4, .mv (.t 10), none⟩] ⟨[4], [], []⟩) (
 .ret))

/- 129 -/
def v_slices_Compare_int_int_b0 : VC :=
 .seq (
 .region [] [] [
 ⟨some 12, .bin .lss (.t 11) (.t 10), none⟩] ⟨[0, 1, 9, 10, 11, 12], [], []⟩) (
 .seq (
 .cond (.t 12) (
 .skip) (
 .exit 0)) (
 .seq (
 .block 1 (
 .seq (
 .region [] [] [
 ⟨some 13, .mv (.t 11), none⟩,
 ⟨some 14, .iaddr none 1 (.t 9) (.t 11), none⟩,
 ⟨some 15, .load .imm none (.t 14), none⟩,
 ⟨some 5, .mv (.t 13), none⟩,
 ⟨some 6, .mv (.t 15), none⟩] ⟨[0, 1, 5, 6, 9, 10, 11], [], []⟩) (
 .seq (
 .seq (
 .region [] [] [
 ⟨some 16, .mv (.t 5), none⟩,
 ⟨some 17, .mv (.t 1), none⟩,
 ⟨some 18, .len (.t 17), none⟩,
 ⟨some 19, .bin .geq (.t 16) (.t 18), none⟩] ⟨[0, 1, 5, 6, 9, 10, 11, 19], [], []⟩) (
 .cond (.t 19) (
 .seq (
 .region [] [] [
 ⟨some 4, .mv (.c (.int .i64 1)), none⟩] ⟨[4], [], []⟩) (
 .ret)) (
 .skip))) (
 .seq (
 .region [] [] [
 ⟨some 20, .mv (.t 1), none⟩,
 ⟨some 21, .mv (.t 5), none⟩,
 ⟨some 22, .iaddr none 1 (.t 20) (.t 21), none⟩,
 ⟨some 23, .load .imm none (.t 22), none⟩,
 ⟨some 7, .mv (.t 23), none⟩] ⟨[0, 1, 6, 7, 9, 10, 11], [], []⟩) (
 .seq (
 .region [] [] [
 ⟨some 24, .mv (.t 6), none⟩,
 ⟨some 25, .mv (.t 7), none⟩,
 ⟨some 26, .call true (.c (.fn 133 [])) [([none], (.t 24)), ([none], (.t 25))] [], none⟩,
 ⟨some 8, .mv (.t 26), none⟩] ⟨[0, 1, 8, 9, 10, 11], [], []⟩) (
 .seq (
 .region [] [] [
 ⟨some 27, .mv (.t 8), none⟩,
 ⟨some 28, .bin .neq (.t 27) (.c (.int .i64 0)), none⟩] ⟨[0, 1, 8, 9, 10, 11, 28], [], []⟩) (
 .cond (.t 28) (
 .seq (
 .region [] [] [
 ⟨some 29, .mv (.t 8), none⟩,
 ⟨some 4, .mv (.t 29), none⟩] ⟨[4], [], []⟩) (
 .ret)) (
 .skip)))))))) (
 .region [] [] [
 ⟨some 30, .bin .add (.t 11) (.c (.int .i64 1)), none⟩,
 ⟨some 11, .mv (.t 30), none⟩] ⟨[0, 1, 9, 10, 11], [], []⟩)))

def v_slices_Compare_int_int_l0 : VC := .loop [] ⟨[0, 1, 9, 10, 11], [], []⟩ v_slices_Compare_int_int_b0

abbrev v_slices_Compare_int_int_s0 (x0 : V) (x1 : V) (x9 : V) (x10 : Int) (x11 : Int) (G : List GObj) : St := ⟨[(0, x0), (1, x1), (9, x9), (10, .int .i64 x10), (11, .int .i64 x11)], [], [], G⟩

def v_slices_Compare_int_int : VFunc where
  nparams := 2
  results := [.t 4 [none]]
  body :=
 .seq (
 .region [] [] [
 ⟨some 4, .mv (.c (.int .i64 0)), none⟩] ⟨[0, 1], [], []⟩) (
 .seq (
 .seq (
 .region [] [] [
 ⟨some 9, .mv (.t 0), none⟩,
 ⟨some 10, .len (.t 9), none⟩,
 ⟨some 11, .mv (.c (.int .i64 0)), none⟩] ⟨[0, 1, 9, 10, 11], [], []⟩) (
 .block 0 (
 v_slices_Compare_int_int_l0))) (
 .seq (
 .seq (
 .region [] [] [
 ⟨some 31, .mv (.t 0), none⟩,
 ⟨some 32, .len (.t 31), none⟩,
 ⟨some 33, .mv (.t 1), none⟩,
 ⟨some 34, .len (.t 33), none⟩,
 ⟨some 35, .bin .lss (.t 32) (.t 34), none⟩] ⟨[35], [], []⟩) (
 .cond (.t 35) (
 .seq (
 .region [] [] [
 ⟨some 4, .mv (.c (.int .i64 (-1))), none⟩] ⟨[4], [], []⟩) (
 .ret)) (
 .skip))) (
 .seq (
 .region [] [] [
 ⟨some 4, .mv (.c (.int .i64 0)), none⟩] ⟨[4], [], []⟩) (
 .ret))))

/- 130 -/
def v_unit_beyond_b0 : VC :=
 .seq (
 .region [] [] [
 ⟨some 11, .bin .lss (.t 10) (.t 9), none⟩] ⟨[1, 2, 8, 9, 10, 11], [2], []⟩) (
 .seq (
 .cond (.t 11) (
 .skip) (
 .exit 2)) (
 .seq (
 .block 3 (
 .seq (
 .region [] [6] [
 ⟨some 12, .iaddr none 2 (.t 8) (.t 10), none⟩,
 ⟨some 13, .load .imm (some 2) (.t 12), none⟩,
 ⟨some 6, .obj 6 [.int .i64 0, .int .i64 0], none⟩,
 ⟨none, .store (.loc 6) [none, none] (.t 6) (.t 13), none⟩] ⟨[1, 2, 6, 8, 9, 10], [2, 6], []⟩) (
 .seq (
 .region [] [] [
 ⟨some 14, .mv (.t 1), none⟩,
 ⟨some 15, .faddr 0 (.t 6), none⟩,
 ⟨some 16, .load (.loc 6) none (.t 15), none⟩,
 ⟨some 17, .bin .gtr (.t 14) (.t 16), none⟩,
 ⟨some 18, .mv (.t 17), none⟩,
 ⟨some 19, .mv (.t 1), some (18, true)⟩,
 ⟨some 20, .faddr 1 (.t 6), some (18, true)⟩,
 ⟨some 21, .load (.loc 6) none (.t 20), some (18, true)⟩,
 ⟨some 22, .bin .lss (.t 19) (.t 21), some (18, true)⟩,
 ⟨some 23, .pick (.t 18) (.t 22) (.c (.bool false)), none⟩] ⟨[1, 2, 6, 8, 9, 10, 23], [2, 6], []⟩) (
 .cond (.t 23) (
 .seq (
 .region [] [] [
 ⟨some 24, .faddr 1 (.t 6), none⟩,
 ⟨some 25, .load (.loc 6) none (.t 24), none⟩,
 ⟨some 1, .mv (.t 25), none⟩] ⟨[1, 2], [2], []⟩) (
 .exit 1)) (
 .skip))))) (
 .region [] [] [
 ⟨some 26, .bin .add (.t 10) (.c (.int .i64 1)), none⟩,
 ⟨some 10, .mv (.t 26), none⟩] ⟨[1, 2, 8, 9, 10], [2], []⟩)))

def v_unit_beyond_l0 : VC := .loop [] ⟨[1, 2, 8, 9, 10], [2], []⟩ v_unit_beyond_b0

abbrev v_unit_beyond_s0 (x1 : Int) (x8 : V) (x9 : Int) (x10 : Int) (o2 : List V) (G : List GObj) : St := ⟨[(1, .int .i64 x1), (2, .lptr 2 0), (8, x8), (9, .int .i64 x9), (10, .int .i64 x10)], [(2, o2)], [], G⟩

def v_unit_beyond_b1 : VC :=
 .block 1 (
 .seq (
 .seq (
 .region [] [] [
 ⟨some 7, .faddr 3 (.t 2), none⟩,
 ⟨some 8, .load (.loc 2) none (.t 7), none⟩,
 ⟨some 9, .len (.t 8), none⟩,
 ⟨some 10, .mv (.c (.int .i64 0)), none⟩] ⟨[1, 2, 8, 9, 10], [2], []⟩) (
 .block 2 (
 v_unit_beyond_l0))) (
 .exit 0))

def v_unit_beyond_l1 : VC := .loop [] ⟨[1, 2], [2], []⟩ v_unit_beyond_b1

abbrev v_unit_beyond_s1 (x1 : Int) (o2 : List V) (G : List GObj) : St := ⟨[(1, .int .i64 x1), (2, .lptr 2 0)], [(2, o2)], [], G⟩

def v_unit_beyond : VFunc where
  nparams := 2
  results := [.t 4 [none]]
  body :=
 .seq (
 .region [] [2] [
 ⟨some 2, .box 2 (.t 0), none⟩,
 ⟨some 4, .mv (.c (.int .i64 0)), none⟩] ⟨[1, 2], [2], []⟩) (
 .seq (
 .skip) (
 .seq (
 .block 0 (
 v_unit_beyond_l1)) (
 .seq (
 .region [] [] [
 ⟨some 27, .mv (.t 1), none⟩,
 ⟨some 4, .mv (.t 27), none⟩] ⟨[4], [], []⟩) (
 .ret))))

/- 133 -/

def v_cmp_Compare_int : VFunc where
  nparams := 2
  results := [.t 4 [none]]
  body :=
 .seq (
 .region [] [] [
 ⟨some 4, .mv (.c (.int .i64 0)), none⟩] ⟨[0, 1], [], []⟩) (
 .seq (
 .region [] [] [
 ⟨some 7, .mv (.t 0), none⟩,
 ⟨some 8, .call true (.c (.fn 145 [])) [([none], (.t 7))] [], none⟩,
 ⟨some 5, .mv (.t 8), none⟩] ⟨[0, 1, 5], [], []⟩) (
 .seq (
 .region [] [] [
 ⟨some 9, .mv (.t 1), none⟩,
 ⟨some 10, .call true (.c (.fn 145 [])) [([none], (.t 9))] [], none⟩,
 ⟨some 6, .mv (.t 10), none⟩] ⟨[0, 1, 5, 6], [], []⟩) (
 .seq (
 .seq (
 .region [] [] [
 ⟨some 11, .mv (.t 5), none⟩] ⟨[0, 1, 6, 11], [], []⟩) (
 .cond (.t 11) (
 .seq (
 .seq (
 .region [] [] [
 ⟨some 12, .mv (.t 6), none⟩] ⟨[12], [], []⟩) (
 .cond (.t 12) (
 .seq (
 .region [] [] [
 ⟨some 4, .mv (.c (.int .i64 0)), none⟩] ⟨[4], [], []⟩) (
 .ret)) (
 .skip))) (
 .seq (
 .region [] [] [
 ⟨some 4, .mv (.c (.int .i64 (-1))), none⟩] ⟨[4], [], []⟩) (
 .ret))) (
 .skip))) (
 .seq (
 .seq (
 .region [] [] [
 ⟨some 13, .mv (.t 6), none⟩] ⟨[0, 1, 13], [], []⟩) (
 .cond (.t 13) (
 .seq (
 .region [] [] [
 ⟨some 4, .mv (.c (.int .i64 1)), none⟩] ⟨[4], [], []⟩) (
 .ret)) (
 .skip))) (
 .seq (
 .seq (
 .region [] [] [
 ⟨some 14, .mv (.t 0), none⟩,
 ⟨some 15, .mv (.t 1), none⟩,
 ⟨some 16, .bin .lss (.t 14) (.t 15), none⟩] ⟨[0, 1, 16], [], []⟩) (
 .cond (.t 16) (
 .seq (
 .region [] [] [
 ⟨some 4, .mv (.c (.int .i64 (-1))), none⟩] ⟨[4], [], []⟩) (
 .ret)) (
 .skip))) (
 .seq (
 .seq (
 .region [] [] [
 ⟨some 17, .mv (.t 0), none⟩,
 ⟨some 18, .mv (.t 1), none⟩,
 ⟨some 19, .bin .gtr (.t 17) (.t 18), none⟩] ⟨[19], [], []⟩) (
 .cond (.t 19) (
 .seq (
 .region [] [] [
 ⟨some 4, .mv (.c (.int .i64 1)), none⟩] ⟨[4], [], []⟩) (
 .ret)) (
 .skip))) (
 .seq (
 .region [] [] [
 ⟨some 4, .mv (.c (.int .i64 0)), none⟩] ⟨[4], [], []⟩) (
 .ret))))))))

/- 145 -/

def v_cmp_isNaN_int : VFunc where
  nparams := 1
  results := [.t 2 [none]]
  body :=
 .seq (
 .region [] [] [
 ⟨some 2, .mv (.c (.bool false)), none⟩] ⟨[0], [], []⟩) (
 .seq (
 .region [] [] [
 ⟨some 3, .mv (.t 0), none⟩,
 ⟨some 4, .mv (.t 0), none⟩,
 ⟨some 5, .bin .neq (.t 3) (.t 4), none⟩,
 ⟨some 2, .mv (.t 5), none⟩] ⟨[2], [], []⟩) (
 .ret))
end Go.Proofs.YtfjdfnegookkcaaGreat
