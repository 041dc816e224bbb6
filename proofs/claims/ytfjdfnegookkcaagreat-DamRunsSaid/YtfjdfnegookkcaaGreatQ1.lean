/- The functions of the program, as the value machine has them, by program. -/
import Derived.Test.YtfjdfnegookkcaaGreatVmT
namespace Go.Proofs.YtfjdfnegookkcaaGreat
open Go.Vm
set_option maxRecDepth 100000
def v_r19_all_b0:VC :=
 .seq (
 zr [
 zo 16 (.bin .lss (.t 15) (.t 14))] ⟨[1,2,8,13,14,15,16],[],[1035]⟩) (
 .seq (
 .cond (.t 16) (
 .skip) (
 .exit 0)) (
 .seq (
 .block 1 (
 .seq (
 .region [] [10] [
 zm 17 15,
 za 18 6 13 15,
 zo 19 (.load .imm (some 6) (.t 18)),
 zo 10 (.obj 10 [.nils,z0,z0,.nils,z0,z0]),
 zm 9 17,
 zn (.store (.loc 10) [some 2,none,none,some 2,none,none] (.t 10) (.t 19))] ⟨[1,2,8,9,10,13,14,15],[10],[1035]⟩) (
 .seq (
 zr [
 zs 21 10 6 10,
 zm 22 1,
 zm 23 9,
 za 24 3 22 23,
 zo 25 (.load .imm (some 3) (.t 24)),
 zm 26 2,
 zo 27 (.call true (.c (.fn 105 [])) [([some 2,none,none,some 2,none,none],(.t 21)),([none,none,none],(.t 25)),([none],(.t 26))] []),
 zm 20 27,
 ze 28 20 0,
 ze 29 20 1,
 zm 11 28,
 zm 12 29] ⟨[1,2,8,11,12,13,14,15],[],[1035]⟩) (
 .seq (
 .seq (
 zr [
 zm 30 12,
 zo 31 (.bin .neq (.t 30) (zc 0))] ⟨[1,2,8,11,13,14,15,31],[],[1035]⟩) (
 .cond (.t 31) (
 .seq (
 zr [
 zo 6 (.mv (.c (.nils))),
 zo 7 (.mv (zc 10))] ⟨[6,7],[],[1035]⟩) (
 .ret)) (
 .skip))) (
 .region [.norm 8 1035 1] [5035] [
 zm 32 8,
 zm 33 11,
 zo 34 (.lit none [some 1] [.slice none 1 []] 1 [(0,(.t 33))]),
 zo 35 (.app 5035 (some 1035) [some 1] 5864062014805 (.t 32) (.t 34)),
 zm 8 35] ⟨[1,2,8,13,14,15],[],[1035]⟩))))) (
 zr [
 zo 36 (.bin .add (.t 15) (zc 1)),
 zm 15 36] ⟨[1,2,8,13,14,15],[],[1035]⟩)))
def v_r19_all_l0:VC:=.loop [.norm 8 1035 1] ⟨[1,2,8,13,14,15],[],[1035]⟩ v_r19_all_b0
abbrev v_r19_all_s0 (x1:V) (x2:Int) (x8:V) (x13:V) (x14:Int) (x15:Int) (k1035:Nat) (G:List GObj):St:=⟨[(1,x1),(2,.int .i64 x2),(8,x8),(13,x13),(14,.int .i64 x14),(15,.int .i64 x15)],[],[(1035,k1035)],G⟩
def v_r19_all:VFunc where
 nparams:=3
 results:=[.t 6 [some 1],.t 7 [none]]
 body :=
 .seq (
 zr [
 zo 6 (.mv (.c (.nils))),
 zo 7 (.mv (zc 0))] ⟨[0,1,2],[],[]⟩) (
 .seq (
 zr [
 zo 8 (.mv (.c (.nils)))] ⟨[0,1,2,8],[],[1035]⟩) (
 .seq (
 .seq (
 zr [
 zm 13 0,
 zl 14 13,
 zo 15 (.mv (zc 0))] ⟨[1,2,8,13,14,15],[],[1035]⟩) (
 .block 0 (
 v_r19_all_l0))) (
 .seq (
 zr [
 zm 37 8,
 zm 6 37,
 zo 7 (.mv (zc 0))] ⟨[6,7],[],[1035]⟩) (
 .ret))))
def v_curve_Last_b0:VC :=
 .seq (
 zr [
 zo 26 (.bin .lss (.t 25) (.t 24))] ⟨[0,1,23,24,25,26],[],[]⟩) (
 .seq (
 .cond (.t 26) (
 .skip) (
 .exit 0)) (
 .seq (
 .block 1 (
 .seq (
 .region [] [9] [
 zm 27 25,
 za 28 2 23 25,
 zo 29 (.load .imm (some 2) (.t 28)),
 zo 9 (.obj 9 [z0,z0]),
 zm 8 27,
 zn (.store (.loc 9) [none,none] (.t 9) (.t 29))] ⟨[0,1,8,9,23,24,25],[9],[]⟩) (
 .seq (
 .region [] [10] [
 zm 30 0,
 zm 31 8,
 za 32 2 30 31,
 zo 33 (.load .imm (some 2) (.t 32)),
 zo 10 (.obj 10 [z0,z0]),
 zn (.store (.loc 10) [none,none] (.t 10) (.t 33))] ⟨[0,1,9,10,23,24,25],[9,10],[]⟩) (
 .seq (
 zr [
 zf 34 1 9,
 zj 35 9 34,
 zm 36 1,
 zo 37 (.bin .gtr (.t 35) (.t 36))] ⟨[0,1,9,10,23,24,25,37],[9,10],[]⟩) (
 .cond (.t 37) (
 .seq (
 zr [
 zf 38 0 10,
 zj 39 10 38,
 zm 40 1,
 zf 41 1 10,
 zj 42 10 41,
 zo 43 (.bin .sub (.t 40) (.t 42)),
 zo 44 (.bin .add (.t 43) (zc 1)),
 zf 45 0 9,
 zj 46 9 45,
 zf 47 0 10,
 zj 48 10 47,
 zo 49 (.bin .sub (.t 46) (.t 48)),
 zo 50 (.bin .mul (.t 44) (.t 49)),
 zo 51 (.bin .sub (.t 50) (zc 1)),
 zf 52 1 9,
 zj 53 9 52,
 zf 54 1 10,
 zj 55 10 54,
 zo 56 (.bin .sub (.t 53) (.t 55)),
 zo 57 (.bin .quo (.t 51) (.t 56)),
 zo 58 (.bin .add (.t 39) (.t 57)),
 zm 4 58,
 zo 5 (.mv (.c (.bool true))),
 zo 6 (.mv (zc 0))] ⟨[4,5,6],[],[]⟩) (
 .ret)) (
 .skip)))))) (
 zr [
 zo 59 (.bin .add (.t 25) (zc 1)),
 zm 25 59] ⟨[0,1,23,24,25],[],[]⟩)))
def v_curve_Last_l0:VC:=.loop [] ⟨[0,1,23,24,25],[],[]⟩ v_curve_Last_b0
abbrev v_curve_Last_s0 (x0:V) (x1:Int) (x23:V) (x24:Int) (x25:Int) (G:List GObj):St:=⟨[(0,x0),(1,.int .i64 x1),(23,x23),(24,.int .i64 x24),(25,.int .i64 x25)],[],[],G⟩
def v_curve_Last:VFunc where
 nparams:=2
 results:=[.t 4 [none],.t 5 [none],.t 6 [none]]
 body :=
 .seq (
 zr [
 zo 4 (.mv (zc 0)),
 zo 5 (.mv (.c (.bool false))),
 zo 6 (.mv (zc 0))] ⟨[0,1],[],[]⟩) (
 .seq (
 .seq (
 zr [
 zm 11 0,
 zo 12 (.call true (.c (.fn 79 [])) [([some 2],(.t 11))] []),
 zm 7 12] ⟨[0,1,7],[],[]⟩) (
 .seq (
 zr [
 zm 13 7,
 zo 14 (.bin .neq (.t 13) (zc 0))] ⟨[0,1,7,14],[],[]⟩) (
 .cond (.t 14) (
 .seq (
 zr [
 zm 15 7,
 zo 4 (.mv (zc 0)),
 zo 5 (.mv (.c (.bool false))),
 zm 6 15] ⟨[4,5,6],[],[]⟩) (
 .ret)) (
 .skip)))) (
 .seq (
 .seq (
 zr [
 zm 16 0,
 zo 17 (.iaddr none 2 (.t 16) (zc 0)),
 zf 18 1 17,
 zi 19 18,
 zm 20 1,
 zo 21 (.bin .gtr (.t 19) (.t 20))] ⟨[0,1,21],[],[]⟩) (
 .cond (.t 21) (
 .seq (
 zr [
 zo 4 (.mv (zc 0)),
 zo 5 (.mv (.c (.bool false))),
 zo 6 (.mv (zc 0))] ⟨[4,5,6],[],[]⟩) (
 .ret)) (
 .skip))) (
 .seq (
 .seq (
 zr [
 zm 22 0,
 zo 23 (.slc 2 (.t 22) (some (zc 1)) none),
 zl 24 23,
 zo 25 (.mv (zc 0))] ⟨[0,1,23,24,25],[],[]⟩) (
 .block 0 (
 v_curve_Last_l0))) (
 .seq (
 zr [
 zm 60 0,
 zm 61 0,
 zl 62 61,
 zo 63 (.bin .sub (.t 62) (zc 1)),
 za 64 2 60 63,
 zf 65 0 64,
 zi 66 65,
 zm 4 66,
 zo 5 (.mv (.c (.bool true))),
 zo 6 (.mv (zc 0))] ⟨[4,5,6],[],[]⟩) (
 .ret)))))
def v_r02_Last_b0:VC :=
 .seq (
 .seq (
 zr [
 zm 32 8,
 zm 33 9,
 zo 34 (.bin .lss (.t 32) (.t 33))] ⟨[0,1,8,9,34],[],[]⟩) (
 .cond (.t 34) (
 .skip) (
 .exit 0))) (
 .block 1 (
 .seq (
 zr [
 zm 35 9,
 zm 36 9,
 zm 37 8,
 zo 38 (.bin .sub (.t 36) (.t 37)),
 zo 39 (.bin .quo (.t 38) (zc 2)),
 zo 40 (.bin .sub (.t 35) (.t 39)),
 zm 10 40] ⟨[0,1,8,9,10],[],[]⟩) (
 .seq (
 zr [
 zm 41 0,
 zm 42 10,
 zo 43 (.call true (.c (.fn 72 [])) [([some 2],(.t 41)),([none],(.t 42))] []),
 zm 44 1,
 zo 45 (.bin .leq (.t 43) (.t 44))] ⟨[0,1,8,9,10,45],[],[]⟩) (
 .cond (.t 45) (
 zr [
 zm 46 10,
 zm 8 46] ⟨[0,1,8,9],[],[]⟩) (
 zr [
 zm 47 10,
 zo 48 (.bin .sub (.t 47) (zc 1)),
 zm 9 48] ⟨[0,1,8,9],[],[]⟩)))))
def v_r02_Last_l0:VC:=.loop [] ⟨[0,1,8,9],[],[]⟩ v_r02_Last_b0
abbrev v_r02_Last_s0 (x0:V) (x1:Int) (x8:Int) (x9:Int) (G:List GObj):St:=⟨[(0,x0),(1,.int .i64 x1),(8,.int .i64 x8),(9,.int .i64 x9)],[],[],G⟩
def v_r02_Last:VFunc where
 nparams:=2
 results:=[.t 4 [none],.t 5 [none],.t 6 [none]]
 body :=
 .seq (
 zr [
 zo 4 (.mv (zc 0)),
 zo 5 (.mv (.c (.bool false))),
 zo 6 (.mv (zc 0))] ⟨[0,1],[],[]⟩) (
 .seq (
 .seq (
 zr [
 zm 11 0,
 zo 12 (.call true (.c (.fn 71 [])) [([some 2],(.t 11))] []),
 zm 7 12] ⟨[0,1,7],[],[]⟩) (
 .seq (
 zr [
 zm 13 7,
 zo 14 (.bin .neq (.t 13) (zc 0))] ⟨[0,1,7,14],[],[]⟩) (
 .cond (.t 14) (
 .seq (
 zr [
 zm 15 7,
 zo 4 (.mv (zc 0)),
 zo 5 (.mv (.c (.bool false))),
 zm 6 15] ⟨[4,5,6],[],[]⟩) (
 .ret)) (
 .skip)))) (
 .seq (
 zr [
 zm 16 0,
 zo 17 (.iaddr none 2 (.t 16) (zc 0)),
 zf 18 0 17,
 zi 19 18,
 zm 20 0,
 zm 21 0,
 zl 22 21,
 zo 23 (.bin .sub (.t 22) (zc 1)),
 za 24 2 20 23,
 zf 25 0 24,
 zi 26 25,
 zm 8 19,
 zm 9 26] ⟨[0,1,8,9],[],[]⟩) (
 .seq (
 .seq (
 zr [
 zm 27 0,
 zm 28 8,
 zo 29 (.call true (.c (.fn 72 [])) [([some 2],(.t 27)),([none],(.t 28))] []),
 zm 30 1,
 zo 31 (.bin .gtr (.t 29) (.t 30))] ⟨[0,1,8,9,31],[],[]⟩) (
 .cond (.t 31) (
 .seq (
 zr [
 zo 4 (.mv (zc 0)),
 zo 5 (.mv (.c (.bool false))),
 zo 6 (.mv (zc 0))] ⟨[4,5,6],[],[]⟩) (
 .ret)) (
 .skip))) (
 .seq (
 .block 0 (
 v_r02_Last_l0)) (
 .seq (
 zr [
 zm 49 8,
 zm 4 49,
 zo 5 (.mv (.c (.bool true))),
 zo 6 (.mv (zc 0))] ⟨[4,5,6],[],[]⟩) (
 .ret))))))
def v_dispatch_station_b0:VC :=
 .seq (
 zr [
 zo 28 (.bin .lss (.t 27) (.t 26))] ⟨[0,1,2,3,25,26,27,28],[],[]⟩) (
 .seq (
 .cond (.t 28) (
 .skip) (
 .exit 0)) (
 .seq (
 .block 1 (
 .seq (
 .region [] [11] [
 zm 29 27,
 za 30 6 25 27,
 zo 31 (.load .imm (some 6) (.t 30)),
 zo 11 (.obj 11 [.nils,z0,z0,.nils,z0,z0]),
 zm 10 29,
 zn (.store (.loc 11) [some 2,none,none,some 2,none,none] (.t 11) (.t 31))] ⟨[0,1,2,3,10,11,25,26,27],[11],[]⟩) (
 .seq (
 zr [
 zs 32 11 6 11,
 zm 33 1,
 zm 34 10,
 za 35 3 33 34,
 zo 36 (.load .imm (some 3) (.t 35)),
 zo 37 (.call true (.c (.fn 93 [])) [([some 2,none,none,some 2,none,none],(.t 32)),([none,none,none],(.t 36))] []),
 zo 38 (.un .not (.t 37))] ⟨[0,1,2,3,25,26,27,38],[],[]⟩) (
 .cond (.t 38) (
 .seq (
 zr [
 zo 8 (.mv (.c (.nils))),
 zo 9 (.mv (zc 3))] ⟨[8,9],[],[1079]⟩) (
 .ret)) (
 .skip))))) (
 zr [
 zo 39 (.bin .add (.t 27) (zc 1)),
 zm 27 39] ⟨[0,1,2,3,25,26,27],[],[]⟩)))
def v_dispatch_station_l0:VC:=.loop [] ⟨[0,1,2,3,25,26,27],[],[]⟩ v_dispatch_station_b0
abbrev v_dispatch_station_s0 (x0:V) (x1:V) (x2:Int) (x3:Int) (x25:V) (x26:Int) (x27:Int) (G:List GObj):St:=⟨[(0,x0),(1,x1),(2,.int .i64 x2),(3,.int .i64 x3),(25,x25),(26,.int .i64 x26),(27,.int .i64 x27)],[],[],G⟩
def v_dispatch_station_b1:VC :=
 .seq (
 zr [
 zo 60 (.bin .lss (.t 59) (.t 58))] ⟨[1,2,12,57,58,59,60],[],[1079]⟩) (
 .seq (
 .cond (.t 60) (
 .skip) (
 .exit 3)) (
 .seq (
 .block 4 (
 .seq (
 .region [] [14] [
 zm 61 59,
 za 62 6 57 59,
 zo 63 (.load .imm (some 6) (.t 62)),
 zo 14 (.obj 14 [.nils,z0,z0,.nils,z0,z0]),
 zm 13 61,
 zn (.store (.loc 14) [some 2,none,none,some 2,none,none] (.t 14) (.t 63))] ⟨[1,2,12,13,14,57,58,59],[14],[1079]⟩) (
 .seq (
 zr [
 zs 65 14 6 14,
 zm 66 1,
 zm 67 13,
 za 68 3 66 67,
 zo 69 (.load .imm (some 3) (.t 68)),
 zm 70 2,
 zo 71 (.call true (.c (.fn 106 [])) [([some 2,none,none,some 2,none,none],(.t 65)),([none,none,none],(.t 69)),([none],(.t 70))] []),
 zm 64 71,
 ze 72 64 0,
 ze 73 64 1,
 zm 15 72,
 zm 16 73] ⟨[1,2,12,15,16,57,58,59],[],[1079]⟩) (
 .seq (
 .seq (
 zr [
 zm 74 16,
 zo 75 (.un .not (.t 74))] ⟨[1,2,12,15,57,58,59,75],[],[1079]⟩) (
 .cond (.t 75) (
 .seq (
 zr [
 zo 8 (.mv (.c (.nils))),
 zo 9 (.mv (zc 10))] ⟨[8,9],[],[1079]⟩) (
 .ret)) (
 .skip))) (
 .region [.norm 12 1079 1] [5079] [
 zm 76 12,
 zm 77 15,
 zo 78 (.lit none [some 3] [.slice none 3 []] 1 [(0,(.t 77))]),
 zo 79 (.app 5079 (some 1079) [some 3] 5864062014805 (.t 76) (.t 78)),
 zm 12 79] ⟨[1,2,12,57,58,59],[],[1079]⟩))))) (
 zr [
 zo 80 (.bin .add (.t 59) (zc 1)),
 zm 59 80] ⟨[1,2,12,57,58,59],[],[1079]⟩)))
def v_dispatch_station_l1:VC:=.loop [.norm 12 1079 1] ⟨[1,2,12,57,58,59],[],[1079]⟩ v_dispatch_station_b1
abbrev v_dispatch_station_s1 (x1:V) (x2:Int) (x12:V) (x57:V) (x58:Int) (x59:Int) (k1079:Nat) (G:List GObj):St:=⟨[(1,x1),(2,.int .i64 x2),(12,x12),(57,x57),(58,.int .i64 x58),(59,.int .i64 x59)],[],[(1079,k1079)],G⟩
def v_dispatch_station:VFunc where
 nparams:=4
 results:=[.t 8 [some 1],.t 9 [none]]
 body :=
 .seq (
 zr [
 zo 8 (.mv (.c (.nils))),
 zo 9 (.mv (zc 0))] ⟨[0,1,2,3],[],[]⟩) (
 .seq (
 .seq (
 zr [
 zm 17 0,
 zl 18 17,
 zo 19 (.bin .gtr (.t 18) (zc 6))] ⟨[0,1,2,3,19],[],[]⟩) (
 .cond (.t 19) (
 .seq (
 zr [
 zo 8 (.mv (.c (.nils))),
 zo 9 (.mv (zc 10))] ⟨[8,9],[],[1079]⟩) (
 .ret)) (
 .skip))) (
 .seq (
 .seq (
 zr [
 zm 20 0,
 zl 21 20,
 zm 22 1,
 zl 23 22,
 zo 24 (.bin .neq (.t 21) (.t 23))] ⟨[0,1,2,3,24],[],[]⟩) (
 .cond (.t 24) (
 .seq (
 zr [
 zo 8 (.mv (.c (.nils))),
 zo 9 (.mv (zc 3))] ⟨[8,9],[],[1079]⟩) (
 .ret)) (
 .skip))) (
 .seq (
 .seq (
 zr [
 zm 25 0,
 zl 26 25,
 zo 27 (.mv (zc 0))] ⟨[0,1,2,3,25,26,27],[],[]⟩) (
 .block 0 (
 v_dispatch_station_l0))) (
 .seq (
 .block 2 (
 .seq (
 zr [
 zm 41 2,
 zo 42 (.bin .lss (.t 41) (zc 1)),
 zm 43 42,
 zq 44 43 false (.mv (.t 2)),
 zq 45 43 false (.bin .gtr (.t 44) (zc 1073741824)),
 zo 46 (.pick (.t 43) (.c (.bool true)) (.t 45)),
 zm 47 46,
 zq 48 47 false (.mv (.t 3)),
 zq 49 47 false (.call true (.c (.fn 41 [])) [([none],(.t 48)),([none],(zc 1073741824))] []),
 zq 50 47 false (.un .not (.t 49)),
 zo 51 (.pick (.t 47) (.c (.bool true)) (.t 50)),
 zm 40 51] ⟨[0,1,2,3,40],[],[]⟩) (
 .cond (.t 40) (
 .seq (
 zr [
 zo 8 (.mv (.c (.nils))),
 zo 9 (.mv (zc 1))] ⟨[8,9],[],[1079]⟩) (
 .ret)) (
 .seq (
 zr [
 zm 53 3,
 zm 54 2,
 zo 55 (.bin .mul (zc 200) (.t 54)),
 zo 56 (.bin .gtr (.t 53) (.t 55)),
 zm 52 56] ⟨[0,1,2,52],[],[]⟩) (
 .cond (.t 52) (
 .seq (
 zr [
 zo 8 (.mv (.c (.nils))),
 zo 9 (.mv (zc 10))] ⟨[8,9],[],[1079]⟩) (
 .ret)) (
 .skip)))))) (
 .seq (
 zr [
 zo 12 (.mv (.c (.nils)))] ⟨[0,1,2,12],[],[1079]⟩) (
 .seq (
 .seq (
 zr [
 zm 57 0,
 zl 58 57,
 zo 59 (.mv (zc 0))] ⟨[1,2,12,57,58,59],[],[1079]⟩) (
 .block 3 (
 v_dispatch_station_l1))) (
 .seq (
 zr [
 zm 81 12,
 zm 8 81,
 zo 9 (.mv (zc 0))] ⟨[8,9],[],[1079]⟩) (
 .ret))))))))
def v_gate_asked_b0:VC :=
 .seq (
 zr [
 zo 25 (.bin .lss (.t 24) (.t 23))] ⟨[0,1,2,22,23,24,25],[],[]⟩) (
 .seq (
 .cond (.t 25) (
 .skip) (
 .exit 1)) (
 .seq (
 .block 2 (
 .seq (
 .region [] [8] [
 zm 26 24,
 za 27 3 22 24,
 zo 28 (.load .imm (some 3) (.t 27)),
 zo 8 (.obj 8 [.nils,z0,z0]),
 zm 7 26,
 zn (.store (.loc 8) [some 2,none,none] (.t 8) (.t 28))] ⟨[0,1,2,7,8,22,23,24],[8],[]⟩) (
 .seq (
 zr [
 zs 29 8 3 8,
 zm 30 1,
 zm 31 7,
 za 32 2 30 31,
 zo 33 (.load .imm (some 2) (.t 32)),
 zo 34 (.call true (.c (.fn 107 [])) [([some 2,none,none],(.t 29)),([none,none],(.t 33))] []),
 zo 35 (.un .not (.t 34))] ⟨[0,1,2,22,23,24,35],[],[]⟩) (
 .cond (.t 35) (
 .seq (
 zr [
 zo 6 (.mv (zc 3))] ⟨[6],[],[]⟩) (
 .ret)) (
 .skip))))) (
 zr [
 zo 36 (.bin .add (.t 24) (zc 1)),
 zm 24 36] ⟨[0,1,2,22,23,24],[],[]⟩)))
def v_gate_asked_l0:VC:=.loop [] ⟨[0,1,2,22,23,24],[],[]⟩ v_gate_asked_b0
abbrev v_gate_asked_s0 (x0:V) (x1:V) (x2:Int) (x22:V) (x23:Int) (x24:Int) (G:List GObj):St:=⟨[(0,x0),(1,x1),(2,.int .i64 x2),(22,x22),(23,.int .i64 x23),(24,.int .i64 x24)],[],[],G⟩
def v_gate_asked_b1:VC :=
 .seq (
 zr [
 zo 40 (.bin .lss (.t 39) (.t 38))] ⟨[2,37,38,39,40],[],[]⟩) (
 .seq (
 .cond (.t 40) (
 .skip) (
 .exit 3)) (
 .seq (
 .block 4 (
 .seq (
 .region [] [10] [
 za 41 3 37 39,
 zo 42 (.load .imm (some 3) (.t 41)),
 zo 10 (.obj 10 [.nils,z0,z0]),
 zn (.store (.loc 10) [some 2,none,none] (.t 10) (.t 42))] ⟨[2,10,37,38,39],[10],[]⟩) (
 .seq (
 zr [
 zs 43 10 3 10,
 zo 44 (.call true (.c (.fn 48 [])) [([some 2,none,none],(.t 43))] []),
 zm 11 44] ⟨[2,11,37,38,39],[],[]⟩) (
 .seq (
 zr [
 zm 45 11,
 zo 46 (.bin .neq (.t 45) (zc 0))] ⟨[2,11,37,38,39,46],[],[]⟩) (
 .cond (.t 46) (
 .seq (
 zr [
 zm 47 11,
 zm 6 47] ⟨[6],[],[]⟩) (
 .ret)) (
 .skip)))))) (
 zr [
 zo 48 (.bin .add (.t 39) (zc 1)),
 zm 39 48] ⟨[2,37,38,39],[],[]⟩)))
def v_gate_asked_l1:VC:=.loop [] ⟨[2,37,38,39],[],[]⟩ v_gate_asked_b1
abbrev v_gate_asked_s1 (x2:Int) (x37:V) (x38:Int) (x39:Int) (G:List GObj):St:=⟨[(2,.int .i64 x2),(37,x37),(38,.int .i64 x38),(39,.int .i64 x39)],[],[],G⟩
def v_gate_asked:VFunc where
 nparams:=3
 results:=[.t 6 [none]]
 body :=
 .seq (
 zr [
 zo 6 (.mv (zc 0))] ⟨[0,1,2],[],[]⟩) (
 .seq (
 .block 0 (
 .seq (
 zr [
 zm 13 0,
 zl 14 13,
 zo 15 (.bin .gtr (.t 14) (zc 8)),
 zm 12 15] ⟨[0,1,2,12],[],[]⟩) (
 .cond (.t 12) (
 .seq (
 zr [
 zo 6 (.mv (zc 10))] ⟨[6],[],[]⟩) (
 .ret)) (
 .seq (
 zr [
 zm 17 0,
 zl 18 17,
 zm 19 1,
 zl 20 19,
 zo 21 (.bin .neq (.t 18) (.t 20)),
 zm 16 21] ⟨[0,1,2,16],[],[]⟩) (
 .cond (.t 16) (
 .seq (
 zr [
 zo 6 (.mv (zc 3))] ⟨[6],[],[]⟩) (
 .ret)) (
 .skip)))))) (
 .seq (
 .seq (
 zr [
 zm 22 0,
 zl 23 22,
 zo 24 (.mv (zc 0))] ⟨[0,1,2,22,23,24],[],[]⟩) (
 .block 1 (
 v_gate_asked_l0))) (
 .seq (
 .seq (
 zr [
 zm 37 0,
 zl 38 37,
 zo 39 (.mv (zc 0))] ⟨[2,37,38,39],[],[]⟩) (
 .block 3 (
 v_gate_asked_l1))) (
 .seq (
 .seq (
 zr [
 zm 49 2,
 zo 50 (.call true (.c (.fn 41 [])) [([none],(.t 49)),([none],(zc 16777216))] []),
 zo 51 (.un .not (.t 50))] ⟨[51],[],[]⟩) (
 .cond (.t 51) (
 .seq (
 zr [
 zo 6 (.mv (zc 1))] ⟨[6],[],[]⟩) (
 .ret)) (
 .skip))) (
 .seq (
 zr [
 zo 6 (.mv (zc 0))] ⟨[6],[],[]⟩) (
 .ret))))))
def v_gate_at_b0:VC :=
 .seq (
 zr [
 zo 12 (.bin .lss (.t 11) (.t 10))] ⟨[1,4,5,9,10,11,12],[4,5],[]⟩) (
 .seq (
 .cond (.t 12) (
 .skip) (
 .exit 0)) (
 .seq (
 .block 1 (
 .seq (
 .region [] [7] [
 za 13 2 9 11,
 zo 14 (.load .imm (some 2) (.t 13)),
 zo 7 (.obj 7 [z0,.nils]),
 zn (.store (.loc 7) [none,some 2] (.t 7) (.t 14))] ⟨[1,4,5,7,9,10,11],[4,5,7],[]⟩) (
 .seq (
 zr [
 zf 15 0 7,
 zj 16 7 15,
 zm 17 1,
 zo 18 (.bin .leq (.t 16) (.t 17))] ⟨[1,4,5,7,9,10,11,18],[4,5,7],[]⟩) (
 .cond (.t 18) (
 zr [
 zf 19 1 7,
 zj 20 7 19,
 zf 21 0 5,
 zn (.store (.loc 5) [some 2] (.t 21) (.t 20))] ⟨[1,4,5,9,10,11],[4,5],[]⟩) (
 .skip))))) (
 zr [
 zo 22 (.bin .add (.t 11) (zc 1)),
 zm 11 22] ⟨[1,4,5,9,10,11],[4,5],[]⟩)))
def v_gate_at_l0:VC:=.loop [] ⟨[1,4,5,9,10,11],[4,5],[]⟩ v_gate_at_b0
abbrev v_gate_at_s0 (x1:Int) (x9:V) (x10:Int) (x11:Int) (o4:List V) (o5:List V) (G:List GObj):St:=⟨[(1,.int .i64 x1),(4,.lptr 4 0),(5,.lptr 5 0),(9,x9),(10,.int .i64 x10),(11,.int .i64 x11)],[(4,o4),(5,o5)],[],G⟩
def v_gate_at:VFunc where
 nparams:=2
 results:=[.c 4 true [some 2,none]]
 body :=
 .seq (
 .region [] [2,4] [
 zo 2 (.box 2 (.t 0)),
 zo 4 (.obj 4 [.nils,z0])] ⟨[1,2,4],[2,4],[]⟩) (
 .seq (
 .region [] [5] [
 zo 5 (.obj 5 [.nils,z0])] ⟨[1,2,4,5],[2,4,5],[]⟩) (
 .seq (
 .seq (
 zr [
 zf 8 0 2,
 zj 9 2 8,
 zl 10 9,
 zo 11 (.mv (zc 0))] ⟨[1,4,5,9,10,11],[4,5],[]⟩) (
 .block 0 (
 v_gate_at_l0))) (
 .seq (
 zr [
 zs 23 5 2 5,
 zn (.store (.loc 4) [some 2,none] (.t 4) (.t 23))] ⟨[4],[4],[]⟩) (
 .ret))))
def v_gate_reach:VFunc where
 nparams:=2
 results:=[.c 4 true [none,none]]
 body :=
 .seq (
 .region [] [2,3,4] [
 zo 2 (.box 2 (.t 0)),
 zo 3 (.box 3 (.t 1)),
 zo 4 (.obj 4 [z0,z0])] ⟨[2,3,4],[2,3,4],[]⟩) (
 .seq (
 .seq (
 zr [
 zf 5 1 3,
 zj 6 3 5] ⟨[2,3,4,6],[2,3,4],[]⟩) (
 .cond (.t 6) (
 .seq (
 zr [
 zf 7 0 3,
 zj 8 3 7,
 zf 9 0 3,
 zj 10 3 9,
 zo 11 (.build [z0,z0] [(0,1,(.t 8)),(1,1,(.t 10))]),
 zn (.store (.loc 4) [none,none] (.t 4) (.t 11))] ⟨[4],[4],[]⟩) (
 .ret)) (
 .skip))) (
 .seq (
 zr [
 zf 12 0 3,
 zj 13 3 12,
 zf 14 2 2,
 zj 15 2 14,
 zo 16 (.bin .sub (.t 13) (.t 15)),
 zo 17 (.mm true (.t 16) (zc 0)),
 zf 18 0 3,
 zj 19 3 18,
 zf 20 2 2,
 zj 21 2 20,
 zo 22 (.bin .add (.t 19) (.t 21)),
 zf 23 1 2,
 zj 24 2 23,
 zo 25 (.mm false (.t 22) (.t 24)),
 zo 26 (.build [z0,z0] [(0,1,(.t 17)),(1,1,(.t 25))]),
 zn (.store (.loc 4) [none,none] (.t 4) (.t 26))] ⟨[4],[4],[]⟩) (
 .ret)))
def v_gate_view_flow:VFunc where
 nparams:=2
 results:=[.t 4 [none]]
 body :=
 .seq (
 .region [] [2] [
 zo 2 (.box 2 (.t 0)),
 zo 4 (.mv (zc 0))] ⟨[1,2],[2],[]⟩) (
 .seq (
 .seq (
 zr [
 zf 5 0 2,
 zj 6 2 5,
 zl 7 6,
 zo 8 (.bin .eql (.t 7) (zc 0))] ⟨[1,2,8],[2],[]⟩) (
 .cond (.t 8) (
 .seq (
 zr [
 zo 4 (.mv (zc 0))] ⟨[4],[],[]⟩) (
 .ret)) (
 .skip))) (
 .seq (
 zr [
 zf 9 0 2,
 zj 10 2 9,
 zm 11 1,
 zo 12 (.call true (.c (.fn 108 [])) [([some 2],(.t 10)),([none],(.t 11))] []),
 zm 4 12] ⟨[4],[],[]⟩) (
 .ret)))
def v_r19_wrong_b0:VC :=
 .seq (
 zr [
 zo 20 (.bin .lss (.t 19) (.t 18))] ⟨[1,2,17,18,19,20],[],[]⟩) (
 .seq (
 .cond (.t 20) (
 .skip) (
 .exit 0)) (
 .seq (
 .block 1 (
 .seq (
 .region [] [8] [
 zm 21 19,
 za 22 6 17 19,
 zo 23 (.load .imm (some 6) (.t 22)),
 zo 8 (.obj 8 [.nils,z0,z0,.nils,z0,z0]),
 zm 7 21,
 zn (.store (.loc 8) [some 2,none,none,some 2,none,none] (.t 8) (.t 23))] ⟨[1,2,7,8,17,18,19],[8],[]⟩) (
 .seq (
 zr [
 zs 24 8 6 8,
 zm 25 1,
 zm 26 7,
 za 27 3 25 26,
 zo 28 (.load .imm (some 3) (.t 27)),
 zo 29 (.call true (.c (.fn 44 [])) [([some 2,none,none,some 2,none,none],(.t 24)),([none,none,none],(.t 28))] []),
 zo 30 (.un .not (.t 29))] ⟨[1,2,17,18,19,30],[],[]⟩) (
 .cond (.t 30) (
 .seq (
 zr [
 zo 6 (.mv (zc 3))] ⟨[6],[],[]⟩) (
 .ret)) (
 .skip))))) (
 zr [
 zo 31 (.bin .add (.t 19) (zc 1)),
 zm 19 31] ⟨[1,2,17,18,19],[],[]⟩)))
def v_r19_wrong_l0:VC:=.loop [] ⟨[1,2,17,18,19],[],[]⟩ v_r19_wrong_b0
abbrev v_r19_wrong_s0 (x1:V) (x2:Int) (x17:V) (x18:Int) (x19:Int) (G:List GObj):St:=⟨[(1,x1),(2,.int .i64 x2),(17,x17),(18,.int .i64 x18),(19,.int .i64 x19)],[],[],G⟩
def v_r19_wrong:VFunc where
 nparams:=3
 results:=[.t 6 [none]]
 body :=
 .seq (
 zr [
 zo 6 (.mv (zc 0))] ⟨[0,1,2],[],[]⟩) (
 .seq (
 .seq (
 zr [
 zm 9 0,
 zl 10 9,
 zo 11 (.bin .gtr (.t 10) (zc 6))] ⟨[0,1,2,11],[],[]⟩) (
 .cond (.t 11) (
 .seq (
 zr [
 zo 6 (.mv (zc 10))] ⟨[6],[],[]⟩) (
 .ret)) (
 .skip))) (
 .seq (
 .seq (
 zr [
 zm 12 0,
 zl 13 12,
 zm 14 1,
 zl 15 14,
 zo 16 (.bin .neq (.t 13) (.t 15))] ⟨[0,1,2,16],[],[]⟩) (
 .cond (.t 16) (
 .seq (
 zr [
 zo 6 (.mv (zc 3))] ⟨[6],[],[]⟩) (
 .ret)) (
 .skip))) (
 .seq (
 .seq (
 zr [
 zm 17 0,
 zl 18 17,
 zo 19 (.mv (zc 0))] ⟨[1,2,17,18,19],[],[]⟩) (
 .block 0 (
 v_r19_wrong_l0))) (
 .seq (
 .seq (
 zr [
 zm 32 2,
 zo 33 (.bin .lss (.t 32) (zc 1)),
 zm 34 33,
 zq 35 34 false (.mv (.t 2)),
 zq 36 34 false (.bin .gtr (.t 35) (zc 1073741824)),
 zo 37 (.pick (.t 34) (.c (.bool true)) (.t 36))] ⟨[37],[],[]⟩) (
 .cond (.t 37) (
 .seq (
 zr [
 zo 6 (.mv (zc 1))] ⟨[6],[],[]⟩) (
 .ret)) (
 .skip))) (
 .seq (
 zr [
 zo 6 (.mv (zc 0))] ⟨[6],[],[]⟩) (
 .ret))))))
def v_r20_wrong_b0:VC :=
 .seq (
 zr [
 zo 23 (.bin .lss (.t 22) (.t 21))] ⟨[0,1,2,20,21,22,23],[],[]⟩) (
 .seq (
 .cond (.t 23) (
 .skip) (
 .exit 0)) (
 .seq (
 .block 1 (
 .seq (
 .region [] [8] [
 zm 24 22,
 za 25 3 20 22,
 zo 26 (.load .imm (some 3) (.t 25)),
 zo 8 (.obj 8 [.nils,z0,z0]),
 zm 7 24,
 zn (.store (.loc 8) [some 2,none,none] (.t 8) (.t 26))] ⟨[0,1,2,7,8,20,21,22],[8],[]⟩) (
 .seq (
 zr [
 zs 27 8 3 8,
 zm 28 1,
 zm 29 7,
 za 30 2 28 29,
 zo 31 (.load .imm (some 2) (.t 30)),
 zo 32 (.call true (.c (.fn 45 [])) [([some 2,none,none],(.t 27)),([none,none],(.t 31))] []),
 zo 33 (.un .not (.t 32))] ⟨[0,1,2,20,21,22,33],[],[]⟩) (
 .cond (.t 33) (
 .seq (
 zr [
 zo 6 (.mv (zc 3))] ⟨[6],[],[]⟩) (
 .ret)) (
 .skip))))) (
 zr [
 zo 34 (.bin .add (.t 22) (zc 1)),
 zm 22 34] ⟨[0,1,2,20,21,22],[],[]⟩)))
def v_r20_wrong_l0:VC:=.loop [] ⟨[0,1,2,20,21,22],[],[]⟩ v_r20_wrong_b0
abbrev v_r20_wrong_s0 (x0:V) (x1:V) (x2:Int) (x20:V) (x21:Int) (x22:Int) (G:List GObj):St:=⟨[(0,x0),(1,x1),(2,.int .i64 x2),(20,x20),(21,.int .i64 x21),(22,.int .i64 x22)],[],[],G⟩
def v_r20_wrong_b1:VC :=
 .seq (
 zr [
 zo 38 (.bin .lss (.t 37) (.t 36))] ⟨[2,35,36,37,38],[],[]⟩) (
 .seq (
 .cond (.t 38) (
 .skip) (
 .exit 2)) (
 .seq (
 .block 3 (
 .seq (
 .region [] [10] [
 za 39 3 35 37,
 zo 40 (.load .imm (some 3) (.t 39)),
 zo 10 (.obj 10 [.nils,z0,z0]),
 zn (.store (.loc 10) [some 2,none,none] (.t 10) (.t 40))] ⟨[2,10,35,36,37],[10],[]⟩) (
 .seq (
 zr [
 zs 41 10 3 10,
 zo 42 (.call true (.c (.fn 51 [])) [([some 2,none,none],(.t 41))] []),
 zm 11 42] ⟨[2,11,35,36,37],[],[]⟩) (
 .seq (
 zr [
 zm 43 11,
 zo 44 (.bin .neq (.t 43) (zc 0))] ⟨[2,11,35,36,37,44],[],[]⟩) (
 .cond (.t 44) (
 .seq (
 zr [
 zm 45 11,
 zm 6 45] ⟨[6],[],[]⟩) (
 .ret)) (
 .skip)))))) (
 zr [
 zo 46 (.bin .add (.t 37) (zc 1)),
 zm 37 46] ⟨[2,35,36,37],[],[]⟩)))
def v_r20_wrong_l1:VC:=.loop [] ⟨[2,35,36,37],[],[]⟩ v_r20_wrong_b1
abbrev v_r20_wrong_s1 (x2:Int) (x35:V) (x36:Int) (x37:Int) (G:List GObj):St:=⟨[(2,.int .i64 x2),(35,x35),(36,.int .i64 x36),(37,.int .i64 x37)],[],[],G⟩
def v_r20_wrong:VFunc where
 nparams:=3
 results:=[.t 6 [none]]
 body :=
 .seq (
 zr [
 zo 6 (.mv (zc 0))] ⟨[0,1,2],[],[]⟩) (
 .seq (
 .seq (
 zr [
 zm 12 0,
 zl 13 12,
 zo 14 (.bin .gtr (.t 13) (zc 8))] ⟨[0,1,2,14],[],[]⟩) (
 .cond (.t 14) (
 .seq (
 zr [
 zo 6 (.mv (zc 10))] ⟨[6],[],[]⟩) (
 .ret)) (
 .skip))) (
 .seq (
 .seq (
 zr [
 zm 15 0,
 zl 16 15,
 zm 17 1,
 zl 18 17,
 zo 19 (.bin .neq (.t 16) (.t 18))] ⟨[0,1,2,19],[],[]⟩) (
 .cond (.t 19) (
 .seq (
 zr [
 zo 6 (.mv (zc 3))] ⟨[6],[],[]⟩) (
 .ret)) (
 .skip))) (
 .seq (
 .seq (
 zr [
 zm 20 0,
 zl 21 20,
 zo 22 (.mv (zc 0))] ⟨[0,1,2,20,21,22],[],[]⟩) (
 .block 0 (
 v_r20_wrong_l0))) (
 .seq (
 .seq (
 zr [
 zm 35 0,
 zl 36 35,
 zo 37 (.mv (zc 0))] ⟨[2,35,36,37],[],[]⟩) (
 .block 2 (
 v_r20_wrong_l1))) (
 .seq (
 .seq (
 zr [
 zm 47 2,
 zo 48 (.call true (.c (.fn 43 [])) [([none],(.t 47)),([none],(zc 16777216))] []),
 zo 49 (.un .not (.t 48))] ⟨[49],[],[]⟩) (
 .cond (.t 49) (
 .seq (
 zr [
 zo 6 (.mv (zc 1))] ⟨[6],[],[]⟩) (
 .ret)) (
 .skip))) (
 .seq (
 zr [
 zo 6 (.mv (zc 0))] ⟨[6],[],[]⟩) (
 .ret)))))))
def v_r20_ends_b0:VC :=
 .seq (
 zr [
 zo 14 (.bin .lss (.t 13) (.t 12))] ⟨[1,6,7,11,12,13,14],[],[1028,1033]⟩) (
 .seq (
 .cond (.t 14) (
 .skip) (
 .exit 0)) (
 .seq (
 .block 1 (
 .seq (
 .region [] [9] [
 zm 15 13,
 za 16 3 11 13,
 zo 17 (.load .imm (some 3) (.t 16)),
 zo 9 (.obj 9 [.nils,z0,z0]),
 zm 8 15,
 zn (.store (.loc 9) [some 2,none,none] (.t 9) (.t 17))] ⟨[1,6,7,8,9,11,12,13],[9],[1028,1033]⟩) (
 .seq (
 .region [] [10] [
 zs 18 9 3 9,
 zm 19 1,
 zm 20 8,
 za 21 2 19 20,
 zo 22 (.load .imm (some 2) (.t 21)),
 zo 23 (.call true (.c (.fn 109 [])) [([some 2,none,none],(.t 18)),([none,none],(.t 22))] []),
 zo 10 (.obj 10 [z0,z0]),
 zn (.store (.loc 10) [none,none] (.t 10) (.t 23))] ⟨[1,6,7,10,11,12,13],[10],[1028,1033]⟩) (
 .region [.norm 6 1028 1,.norm 7 1033 1] [5028,5033] [
 zm 24 6,
 zf 25 0 10,
 zj 26 10 25,
 zo 27 (.lit none [none] [z0] 1 [(0,(.t 26))]),
 zo 28 (.app 5028 (some 1028) [none] 17592186044416 (.t 24) (.t 27)),
 zm 29 7,
 zf 30 1 10,
 zj 31 10 30,
 zo 32 (.lit none [none] [z0] 1 [(0,(.t 31))]),
 zo 33 (.app 5033 (some 1033) [none] 17592186044416 (.t 29) (.t 32)),
 zm 6 28,
 zm 7 33] ⟨[1,6,7,11,12,13],[],[1028,1033]⟩)))) (
 zr [
 zo 34 (.bin .add (.t 13) (zc 1)),
 zm 13 34] ⟨[1,6,7,11,12,13],[],[1028,1033]⟩)))
def v_r20_ends_l0:VC:=.loop [.norm 6 1028 1,.norm 7 1033 1] ⟨[1,6,7,11,12,13],[],[1028,1033]⟩ v_r20_ends_b0
abbrev v_r20_ends_s0 (x1:V) (x6:V) (x7:V) (x11:V) (x12:Int) (x13:Int) (k1028:Nat) (k1033:Nat) (G:List GObj):St:=⟨[(1,x1),(6,x6),(7,x7),(11,x11),(12,.int .i64 x12),(13,.int .i64 x13)],[],[(1028,k1028),(1033,k1033)],G⟩
def v_r20_ends:VFunc where
 nparams:=2
 results:=[.t 4 [some 1],.t 5 [some 1]]
 body :=
 .seq (
 zr [
 zo 4 (.mv (.c (.nils))),
 zo 5 (.mv (.c (.nils)))] ⟨[0,1],[],[]⟩) (
 .seq (
 zr [
 zo 6 (.mv (.c (.nils))),
 zo 7 (.mv (.c (.nils)))] ⟨[0,1,6,7],[],[1028,1033]⟩) (
 .seq (
 .seq (
 zr [
 zm 11 0,
 zl 12 11,
 zo 13 (.mv (zc 0))] ⟨[1,6,7,11,12,13],[],[1028,1033]⟩) (
 .block 0 (
 v_r20_ends_l0))) (
 .seq (
 zr [
 zm 35 6,
 zm 36 7,
 zm 4 35,
 zm 5 36] ⟨[4,5],[],[1028,1033]⟩) (
 .ret))))
def v_r20_total_b0:VC :=
 .seq (
 zr [
 zo 13 (.bin .lss (.t 12) (.t 11))] ⟨[1,2,7,10,11,12,13],[],[]⟩) (
 .seq (
 .cond (.t 13) (
 .skip) (
 .exit 0)) (
 .seq (
 .block 1 (
 .seq (
 .region [] [9] [
 zm 14 12,
 za 15 3 10 12,
 zo 16 (.load .imm (some 3) (.t 15)),
 zo 9 (.obj 9 [.nils,z0,z0]),
 zm 8 14,
 zn (.store (.loc 9) [some 2,none,none] (.t 9) (.t 16))] ⟨[1,2,7,8,9,10,11,12],[9],[]⟩) (
 zr [
 zm 17 7,
 zs 18 9 3 9,
 zm 19 1,
 zm 20 8,
 za 21 1 19 20,
 zi 22 21,
 zm 23 2,
 zo 24 (.call true (.c (.fn 110 [])) [([some 2,none,none],(.t 18)),([none],(.t 22)),([none],(.t 23))] []),
 zo 25 (.bin .add (.t 17) (.t 24)),
 zm 7 25] ⟨[1,2,7,10,11,12],[],[]⟩))) (
 zr [
 zo 26 (.bin .add (.t 12) (zc 1)),
 zm 12 26] ⟨[1,2,7,10,11,12],[],[]⟩)))
def v_r20_total_l0:VC:=.loop [] ⟨[1,2,7,10,11,12],[],[]⟩ v_r20_total_b0
abbrev v_r20_total_s0 (x1:V) (x2:Int) (x7:Int) (x10:V) (x11:Int) (x12:Int) (G:List GObj):St:=⟨[(1,x1),(2,.int .i64 x2),(7,.int .i64 x7),(10,x10),(11,.int .i64 x11),(12,.int .i64 x12)],[],[],G⟩
def v_r20_total:VFunc where
 nparams:=3
 results:=[.t 6 [none]]
 body :=
 .seq (
 zr [
 zo 6 (.mv (zc 0))] ⟨[0,1,2],[],[]⟩) (
 .seq (
 zr [
 zo 7 (.mv (zc 0))] ⟨[0,1,2,7],[],[]⟩) (
 .seq (
 .seq (
 zr [
 zm 10 0,
 zl 11 10,
 zo 12 (.mv (zc 0))] ⟨[1,2,7,10,11,12],[],[]⟩) (
 .block 0 (
 v_r20_total_l0))) (
 .seq (
 zr [
 zm 27 7,
 zm 6 27] ⟨[6],[],[]⟩) (
 .ret))))
def v_dam_crest:VFunc where
 nparams:=1
 results:=[.t 2 [none]]
 body :=
 .seq (
 .region [] [1] [
 zo 1 (.box 1 (.t 0)),
 zo 2 (.mv (zc 0))] ⟨[1],[1],[]⟩) (
 .seq (
 zr [
 zf 3 0 1,
 zf 4 0 3,
 zj 5 1 4,
 zf 6 0 1,
 zf 7 5 6,
 zj 8 1 7,
 zo 9 (.call true (.c (.fn 108 [])) [([some 2],(.t 5)),([none],(.t 8))] []),
 zm 2 9] ⟨[2],[],[]⟩) (
 .ret))
def v_unit_Valid:VFunc where
 nparams:=2
 results:=[.t 4 [none]]
 body :=
 .seq (
 .region [] [2,3] [
 zo 2 (.box 2 (.t 0)),
 zo 3 (.box 3 (.t 1)),
 zo 4 (.mv (.c (.bool false)))] ⟨[2,3],[2,3],[]⟩) (
 .seq (
 zr [
 zs 5 2 6 2,
 zo 6 (.call true (.c (.fn 47 [])) [([some 2,none,none,some 2,none,none],(.t 5))] []),
 zo 7 (.bin .eql (.t 6) (zc 0)),
 zm 8 7,
 zq 9 8 true (.load (.loc 2) (some 6) (.t 2)),
 zq 10 8 true (.load (.loc 3) (some 3) (.t 3)),
 zq 11 8 true (.call true (.c (.fn 111 [])) [([some 2,none,none,some 2,none,none],(.t 9)),([none,none,none],(.t 10))] []),
 zo 12 (.pick (.t 8) (.t 11) (.c (.bool false))),
 zm 4 12] ⟨[4],[],[]⟩) (
 .ret))
def v_r19_Best_b0:VC :=
 .seq (
 zr [
 zo 60 (.bin .lss (.t 59) (.t 58))] ⟨[0,1,3,11,13,14,15,16,17,18,57,58,59,60],[15,53,56],[]⟩) (
 .seq (
 .cond (.t 60) (
 .skip) (
 .exit 2)) (
 .seq (
 .block 3 (
 .seq (
 zr [
 zm 61 59,
 za 62 1 57 59,
 zj 63 53 62,
 zm 19 61,
 zm 20 63] ⟨[0,1,3,11,13,14,15,16,17,18,19,20,57,58,59],[15,53,56],[]⟩) (
 .seq (
 zr [
 zm 64 17,
 zm 65 19,
 zm 66 11,
 zm 67 19,
 za 68 1 66 67,
 zi 69 68,
 zm 70 20,
 za 71 1 69 70,
 zi 72 71,
 za 73 1 64 65,
 zn (.store (.loc 56) [none] (.t 73) (.t 72))] ⟨[0,1,3,11,13,14,15,16,17,18,19,57,58,59],[15,53,56],[]⟩) (
 zr [
 zm 74 18,
 zm 75 17,
 zm 76 19,
 za 77 1 75 76,
 zj 78 56 77,
 zo 79 (.bin .add (.t 74) (.t 78)),
 zm 18 79] ⟨[0,1,3,11,13,14,15,16,17,18,57,58,59],[15,53,56],[]⟩)))) (
 zr [
 zo 80 (.bin .add (.t 59) (zc 1)),
 zm 59 80] ⟨[0,1,3,11,13,14,15,16,17,18,57,58,59],[15,53,56],[]⟩)))
def v_r19_Best_l0:VC:=.loop [] ⟨[0,1,3,11,13,14,15,16,17,18,57,58,59],[15,53,56],[]⟩ v_r19_Best_b0
abbrev v_r19_Best_s0 (x0:V) (x1:V) (x3:Int) (x11:V) (x13:Bool) (x14:V) (n16:Nat) (n17:Nat) (x18:Int) (n57:Nat) (x58:Int) (x59:Int) (o15:List V) (o53:List V) (o56:List V) (G:List GObj):St:=⟨[(0,x0),(1,x1),(3,.int .i64 x3),(11,x11),(13,.bool x13),(14,x14),(15,.lptr 15 0),(16,.lref 53 1 n16),(17,.lref 56 1 n17),(18,.int .i64 x18),(57,.lref 53 1 n57),(58,.int .i64 x58),(59,.int .i64 x59)],[(15,o15),(53,o53),(56,o56)],[],G⟩
def v_r19_Best_b1:VC :=
 .seq (
 .seq (
 zr [
 zm 110 26,
 zo 111 (.bin .geq (.t 110) (zc 0)),
 zm 112 111,
 zq 113 112 true (.mv (.t 16)),
 zq 114 112 true (.mv (.t 26)),
 zq 115 112 true (.iaddr none 1 (.t 113) (.t 114)),
 zq 116 112 true (.load (.loc 53) none (.t 115)),
 zq 117 112 true (.mv (.t 11)),
 zq 118 112 true (.mv (.t 26)),
 zq 119 112 true (.iaddr none 1 (.t 117) (.t 118)),
 zq 120 112 true (.load .imm none (.t 119)),
 zq 121 112 true (.len (.t 120)),
 zq 122 112 true (.bin .sub (.t 121) (zc 1)),
 zq 123 112 true (.bin .eql (.t 116) (.t 122)),
 zo 124 (.pick (.t 112) (.t 123) (.c (.bool false)))] ⟨[0,1,3,11,13,14,15,16,26,124],[15,53,56],[]⟩) (
 .cond (.t 124) (
 .skip) (
 .exit 4))) (
 .block 5 (
 .seq (
 zr [
 zm 125 16,
 zm 126 26,
 za 127 1 125 126,
 zn (.store (.loc 53) [none] (.t 127) (zc 0))] ⟨[0,1,3,11,13,14,15,16,26],[15,53,56],[]⟩) (
 zr [
 zm 128 26,
 zo 129 (.bin .sub (.t 128) (zc 1)),
 zm 26 129] ⟨[0,1,3,11,13,14,15,16,26],[15,53,56],[]⟩)))
def v_r19_Best_l1:VC:=.loop [] ⟨[0,1,3,11,13,14,15,16,26],[15,53,56],[]⟩ v_r19_Best_b1
abbrev v_r19_Best_s1 (x0:V) (x1:V) (x3:Int) (x11:V) (x13:Bool) (x14:V) (n16:Nat) (x26:Int) (o15:List V) (o53:List V) (o56:List V) (G:List GObj):St:=⟨[(0,x0),(1,x1),(3,.int .i64 x3),(11,x11),(13,.bool x13),(14,x14),(15,.lptr 15 0),(16,.lref 53 1 n16),(26,.int .i64 x26)],[(15,o15),(53,o53),(56,o56)],[],G⟩
def v_r19_Best_b2:VC :=
 .block 1 (
 .seq (
 .region [] [56] [
 zm 54 11,
 zl 55 54,
 zo 56 (.mkobj 56 [z0] (.t 55)),
 zm 17 56] ⟨[0,1,3,11,13,14,15,16,17],[15,53,56],[]⟩) (
 .seq (
 zr [
 zo 18 (.mv (zc 0))] ⟨[0,1,3,11,13,14,15,16,17,18],[15,53,56],[]⟩) (
 .seq (
 .seq (
 zr [
 zm 57 16,
 zl 58 57,
 zo 59 (.mv (zc 0))] ⟨[0,1,3,11,13,14,15,16,17,18,57,58,59],[15,53,56],[]⟩) (
 .block 2 (
 v_r19_Best_l0))) (
 .seq (
 .seq (
 zr [
 zm 81 18,
 zm 82 3,
 zo 83 (.bin .leq (.t 81) (.t 82))] ⟨[0,1,3,11,13,14,15,16,17,83],[15,53,56],[]⟩) (
 .cond (.t 83) (
 .seq (
 .region [.freeze 17 [none]] [] [
 zm 85 0,
 zm 86 1,
 zm 87 17,
 zo 88 (.call true (.c (.fn 95 [])) [([some 6],(.t 85)),([some 3],(.t 86)),([some 1],(.t 87))] []),
 zm 84 88,
 ze 89 84 0,
 ze 90 84 1,
 ze 91 84 2,
 ze 92 84 3,
 zm 21 89,
 zm 22 90,
 zm 23 91,
 zm 24 92] ⟨[0,1,3,11,13,14,15,16,17,22,23],[15,53,56],[]⟩) (
 .seq (
 .region [] [25] [
 zm 93 22,
 zm 94 23,
 zo 95 (.build [z0,z0] [(0,1,(.t 93)),(1,1,(.t 94))]),
 zo 25 (.obj 25 [z0,z0]),
 zn (.store (.loc 25) [none,none] (.t 25) (.t 95))] ⟨[0,1,3,11,13,14,15,16,17,25],[15,25,53,56],[]⟩) (
 .seq (
 .region [.freeze 17 [none],.freeze 14 [none]] [] [
 zm 96 13,
 zo 97 (.un .not (.t 96)),
 zm 98 97,
 zq 99 98 false (.load (.loc 25) (some 2) (.t 25)),
 zq 100 98 false (.load (.loc 15) (some 2) (.t 15)),
 zq 101 98 false (.mv (.t 17)),
 zq 102 98 false (.mv (.t 14)),
 zq 103 98 false (.call true (.c (.fn 112 [])) [([none,none],(.t 99)),([none,none],(.t 100)),([some 1],(.t 101)),([some 1],(.t 102))] []),
 zo 104 (.pick (.t 98) (.c (.bool true)) (.t 103))] ⟨[0,1,3,11,13,14,15,16,17,25,104],[15,25,53,56],[]⟩) (
 .cond (.t 104) (
 zr [
 zm 105 17,
 zs 106 25 2 25,
 zo 13 (.mv (.c (.bool true))),
 zm 14 105,
 zn (.store (.loc 15) [none,none] (.t 15) (.t 106))] ⟨[0,1,3,11,13,14,15,16],[15,53,56],[]⟩) (
 .skip))))) (
 .skip))) (
 .seq (
 zr [
 zm 107 16,
 zl 108 107,
 zo 109 (.bin .sub (.t 108) (zc 1)),
 zm 26 109] ⟨[0,1,3,11,13,14,15,16,26],[15,53,56],[]⟩) (
 .seq (
 .block 4 (
 v_r19_Best_l1)) (
 .seq (
 .seq (
 zr [
 zm 130 26,
 zo 131 (.bin .lss (.t 130) (zc 0))] ⟨[0,1,3,11,13,14,15,16,26,131],[15,53,56],[]⟩) (
 .cond (.t 131) (
 .exit 0) (
 .skip))) (
 zr [
 zm 132 16,
 zm 133 26,
 za 134 1 132 133,
 zj 135 53 134,
 zo 136 (.bin .add (.t 135) (zc 1)),
 za 137 1 132 133,
 zn (.store (.loc 53) [none] (.t 137) (.t 136))] ⟨[0,1,3,11,13,14,15,16],[15,53,56],[]⟩))))))))
def v_r19_Best_l2:VC:=.loop [.freeze 14 [none]] ⟨[0,1,3,11,13,14,15,16],[15,53,56],[]⟩ v_r19_Best_b2
abbrev v_r19_Best_s2 (x0:V) (x1:V) (x3:Int) (x11:V) (x13:Bool) (x14:V) (n16:Nat) (o15:List V) (o53:List V) (o56:List V) (G:List GObj):St:=⟨[(0,x0),(1,x1),(3,.int .i64 x3),(11,x11),(13,.bool x13),(14,x14),(15,.lptr 15 0),(16,.lref 53 1 n16)],[(15,o15),(53,o53),(56,o56)],[],G⟩
def v_r19_Best:VFunc where
 nparams:=4
 results:=[.t 8 [some 1],.t 9 [none]]
 body :=
 .seq (
 zr [
 zo 8 (.mv (.c (.nils))),
 zo 9 (.mv (zc 0))] ⟨[0,1,2,3],[],[]⟩) (
 .seq (
 .seq (
 zr [
 zm 27 0,
 zm 28 1,
 zm 29 2,
 zo 30 (.call true (.c (.fn 88 [])) [([some 6],(.t 27)),([some 3],(.t 28)),([none],(.t 29))] []),
 zm 10 30] ⟨[0,1,2,3,10],[],[]⟩) (
 .seq (
 zr [
 zm 31 10,
 zo 32 (.bin .neq (.t 31) (zc 0))] ⟨[0,1,2,3,10,32],[],[]⟩) (
 .cond (.t 32) (
 .seq (
 zr [
 zm 33 10,
 zo 8 (.mv (.c (.nils))),
 zm 9 33] ⟨[8,9],[56],[]⟩) (
 .ret)) (
 .skip)))) (
 .seq (
 .seq (
 zr [
 zm 34 3,
 zo 35 (.call true (.c (.fn 43 [])) [([none],(.t 34)),([none],(zc 1073741824))] []),
 zo 36 (.un .not (.t 35))] ⟨[0,1,2,3,36],[],[]⟩) (
 .cond (.t 36) (
 .seq (
 zr [
 zo 8 (.mv (.c (.nils))),
 zo 9 (.mv (zc 1))] ⟨[8,9],[56],[]⟩) (
 .ret)) (
 .skip))) (
 .seq (
 .seq (
 zr [
 zm 37 3,
 zm 38 2,
 zo 39 (.bin .mul (zc 200) (.t 38)),
 zo 40 (.bin .gtr (.t 37) (.t 39))] ⟨[0,1,2,3,40],[],[]⟩) (
 .cond (.t 40) (
 .seq (
 zr [
 zo 8 (.mv (.c (.nils))),
 zo 9 (.mv (zc 10))] ⟨[8,9],[56],[]⟩) (
 .ret)) (
 .skip))) (
 .seq (
 zr [
 zm 42 0,
 zm 43 1,
 zm 44 2,
 zo 45 (.call true (.c (.fn 80 [])) [([some 6],(.t 42)),([some 3],(.t 43)),([none],(.t 44))] []),
 zm 41 45,
 ze 46 41 0,
 ze 47 41 1,
 zm 11 46,
 zm 12 47] ⟨[0,1,3,11,12],[],[]⟩) (
 .seq (
 .seq (
 zr [
 zm 48 12,
 zo 49 (.bin .neq (.t 48) (zc 0))] ⟨[0,1,3,11,12,49],[],[]⟩) (
 .cond (.t 49) (
 .seq (
 zr [
 zm 50 12,
 zo 8 (.mv (.c (.nils))),
 zm 9 50] ⟨[8,9],[56],[]⟩) (
 .ret)) (
 .skip))) (
 .seq (
 zr [
 zo 13 (.mv (.c (.bool false)))] ⟨[0,1,3,11,13],[],[]⟩) (
 .seq (
 zr [
 zo 14 (.mv (.c (.nils)))] ⟨[0,1,3,11,13,14],[56],[]⟩) (
 .seq (
 .region [] [15] [
 zo 15 (.obj 15 [z0,z0])] ⟨[0,1,3,11,13,14,15],[15,56],[]⟩) (
 .seq (
 .region [] [53] [
 zm 51 11,
 zl 52 51,
 zo 53 (.mkobj 53 [z0] (.t 52)),
 zm 16 53] ⟨[0,1,3,11,13,14,15,16],[15,53,56],[]⟩) (
 .seq (
 .block 0 (
 v_r19_Best_l2)) (
 .seq (
 .seq (
 zr [
 zm 138 13,
 zo 139 (.un .not (.t 138))] ⟨[14,139],[56],[]⟩) (
 .cond (.t 139) (
 .seq (
 zr [
 zo 8 (.mv (.c (.nils))),
 zo 9 (.mv (zc 9))] ⟨[8,9],[56],[]⟩) (
 .ret)) (
 .skip))) (
 .seq (
 .region [.freeze 14 [none]] [] [
 zm 140 14,
 zm 8 140,
 zo 9 (.mv (zc 0))] ⟨[8,9],[56],[]⟩) (
 .ret)))))))))))))
def v_r19_Value_b0:VC :=
 .seq (
 zr [
 zo 35 (.bin .lss (.t 34) (.t 33))] ⟨[1,2,10,11,12,32,33,34,35],[],[]⟩) (
 .seq (
 .cond (.t 35) (
 .skip) (
 .exit 0)) (
 .seq (
 .block 1 (
 .seq (
 .region [] [14] [
 zm 36 34,
 za 37 6 32 34,
 zo 38 (.load .imm (some 6) (.t 37)),
 zo 14 (.obj 14 [.nils,z0,z0,.nils,z0,z0]),
 zm 13 36,
 zn (.store (.loc 14) [some 2,none,none,some 2,none,none] (.t 14) (.t 38))] ⟨[1,2,10,11,12,13,14,32,33,34],[14],[]⟩) (
 .seq (
 .region [] [15] [
 zs 40 14 6 14,
 zm 41 1,
 zm 42 13,
 za 43 3 41 42,
 zo 44 (.load .imm (some 3) (.t 43)),
 zm 45 2,
 zm 46 13,
 za 47 1 45 46,
 zi 48 47,
 zo 49 (.call true (.c (.fn 96 [])) [([some 2,none,none,some 2,none,none],(.t 40)),([none,none,none],(.t 44)),([none],(.t 48))] []),
 zm 39 49,
 ze 50 39 0,
 ze 51 39 1,
 ze 52 39 2,
 zo 15 (.obj 15 [z0,z0,.bool false]),
 zn (.store (.loc 15) [none,none,none] (.t 15) (.t 50)),
 zm 16 51,
 zm 17 52] ⟨[1,2,10,11,12,13,14,16,17,32,33,34],[14],[]⟩) (
 .seq (
 .seq (
 zr [
 zm 53 17,
 zo 54 (.bin .neq (.t 53) (zc 0))] ⟨[1,2,10,11,12,13,14,16,32,33,34,54],[14],[]⟩) (
 .cond (.t 54) (
 .seq (
 zr [
 zo 6 (.mv (zc 0)),
 zo 7 (.mv (zc 0)),
 zo 8 (.mv (zc 0)),
 zo 9 (.mv (.c (.bool false)))] ⟨[6,7,8,9],[],[]⟩) (
 .ret)) (
 .skip))) (
 .seq (
 zr [
 zs 56 14 6 14,
 zm 57 2,
 zm 58 13,
 za 59 1 57 58,
 zi 60 59,
 zo 61 (.call true (.c (.fn 113 [])) [([some 2,none,none,some 2,none,none],(.t 56)),([none],(.t 60))] []),
 zm 55 61,
 ze 62 55 0,
 ze 63 55 1,
 zm 18 62,
 zm 19 63] ⟨[1,2,10,11,12,13,16,18,32,33,34],[],[]⟩) (
 .seq (
 zr [
 zm 64 10,
 zm 65 2,
 zm 66 13,
 za 67 1 65 66,
 zi 68 67,
 zo 69 (.bin .add (.t 64) (.t 68)),
 zm 70 11,
 zm 71 18,
 zo 72 (.bin .add (.t 70) (.t 71)),
 zm 10 69,
 zm 11 72] ⟨[1,2,10,11,12,16,32,33,34],[],[]⟩) (
 .seq (
 zr [
 zm 73 16] ⟨[1,2,10,11,12,32,33,34,73],[],[]⟩) (
 .cond (.t 73) (
 zr [
 zm 74 12,
 zo 75 (.bin .add (.t 74) (zc 1)),
 zm 12 75] ⟨[1,2,10,11,12,32,33,34],[],[]⟩) (
 .skip))))))))) (
 zr [
 zo 76 (.bin .add (.t 34) (zc 1)),
 zm 34 76] ⟨[1,2,10,11,12,32,33,34],[],[]⟩)))
def v_r19_Value_l0:VC:=.loop [] ⟨[1,2,10,11,12,32,33,34],[],[]⟩ v_r19_Value_b0
abbrev v_r19_Value_s0 (x1:V) (x2:V) (x10:Int) (x11:Int) (x12:Int) (x32:V) (x33:Int) (x34:Int) (G:List GObj):St:=⟨[(1,x1),(2,x2),(10,.int .i64 x10),(11,.int .i64 x11),(12,.int .i64 x12),(32,x32),(33,.int .i64 x33),(34,.int .i64 x34)],[],[],G⟩
def v_r19_Value:VFunc where
 nparams:=3
 results:=[.t 6 [none],.t 7 [none],.t 8 [none],.t 9 [none]]
 body :=
 .seq (
 zr [
 zo 6 (.mv (zc 0)),
 zo 7 (.mv (zc 0)),
 zo 8 (.mv (zc 0)),
 zo 9 (.mv (.c (.bool false)))] ⟨[0,1,2],[],[]⟩) (
 .seq (
 .seq (
 zr [
 zm 20 0,
 zl 21 20,
 zm 22 1,
 zl 23 22,
 zo 24 (.bin .neq (.t 21) (.t 23)),
 zm 25 24,
 zq 26 25 false (.mv (.t 0)),
 zq 27 25 false (.len (.t 26)),
 zq 28 25 false (.mv (.t 2)),
 zq 29 25 false (.len (.t 28)),
 zq 30 25 false (.bin .neq (.t 27) (.t 29)),
 zo 31 (.pick (.t 25) (.c (.bool true)) (.t 30))] ⟨[0,1,2,31],[],[]⟩) (
 .cond (.t 31) (
 .seq (
 zr [
 zo 6 (.mv (zc 0)),
 zo 7 (.mv (zc 0)),
 zo 8 (.mv (zc 0)),
 zo 9 (.mv (.c (.bool false)))] ⟨[6,7,8,9],[],[]⟩) (
 .ret)) (
 .skip))) (
 .seq (
 zr [
 zo 10 (.mv (zc 0)),
 zo 11 (.mv (zc 0)),
 zo 12 (.mv (zc 0))] ⟨[0,1,2,10,11,12],[],[]⟩) (
 .seq (
 .seq (
 zr [
 zm 32 0,
 zl 33 32,
 zo 34 (.mv (zc 0))] ⟨[1,2,10,11,12,32,33,34],[],[]⟩) (
 .block 0 (
 v_r19_Value_l0))) (
 .seq (
 zr [
 zm 77 10,
 zm 78 11,
 zm 79 12,
 zm 6 77,
 zm 7 78,
 zm 8 79,
 zo 9 (.mv (.c (.bool true)))] ⟨[6,7,8,9],[],[]⟩) (
 .ret)))))
def v_r18_Next:VFunc where
 nparams:=3
 results:=[.c 6 true [none,none,none],.t 7 [none],.t 8 [none]]
 body :=
 .seq (
 .region [] [3,4,6] [
 zo 3 (.box 3 (.t 0)),
 zo 4 (.box 4 (.t 1)),
 zo 6 (.obj 6 [z0,z0,.bool false]),
 zo 7 (.mv (.c (.bool false))),
 zo 8 (.mv (zc 0))] ⟨[2,3,4,6],[3,4,6],[]⟩) (
 .seq (
 .seq (
 zr [
 zs 11 3 6 3,
 zo 12 (.call true (.c (.fn 50 [])) [([some 2,none,none,some 2,none,none],(.t 11))] []),
 zm 9 12] ⟨[2,3,4,6,9],[3,4,6],[]⟩) (
 .seq (
 zr [
 zm 13 9,
 zo 14 (.bin .neq (.t 13) (zc 0))] ⟨[2,3,4,6,9,14],[3,4,6],[]⟩) (
 .cond (.t 14) (
 .seq (
 zr [
 zo 15 (.build [z0,z0,.bool false] []),
 zm 16 9,
 zn (.store (.loc 6) [none,none,none] (.t 6) (.t 15)),
 zo 7 (.mv (.c (.bool false))),
 zm 8 16] ⟨[6,7,8],[6],[]⟩) (
 .ret)) (
 .skip)))) (
 .seq (
 .seq (
 zr [
 zs 17 3 6 3,
 zs 18 4 3 4,
 zo 19 (.call true (.c (.fn 44 [])) [([some 2,none,none,some 2,none,none],(.t 17)),([none,none,none],(.t 18))] []),
 zo 20 (.un .not (.t 19))] ⟨[2,3,4,6,20],[3,4,6],[]⟩) (
 .cond (.t 20) (
 .seq (
 zr [
 zo 21 (.build [z0,z0,.bool false] []),
 zn (.store (.loc 6) [none,none,none] (.t 6) (.t 21)),
 zo 7 (.mv (.c (.bool false))),
 zo 8 (.mv (zc 3))] ⟨[6,7,8],[6],[]⟩) (
 .ret)) (
 .skip))) (
 .seq (
 .seq (
 zr [
 zs 22 3 6 3,
 zs 23 4 3 4,
 zm 24 2,
 zo 25 (.call true (.c (.fn 114 [])) [([some 2,none,none,some 2,none,none],(.t 22)),([none,none,none],(.t 23)),([none],(.t 24))] []),
 zo 26 (.un .not (.t 25))] ⟨[2,4,6,26],[4,6],[]⟩) (
 .cond (.t 26) (
 .seq (
 zr [
 zo 27 (.build [z0,z0,.bool false] []),
 zn (.store (.loc 6) [none,none,none] (.t 6) (.t 27)),
 zo 7 (.mv (.c (.bool false))),
 zo 8 (.mv (zc 15))] ⟨[6,7,8],[6],[]⟩) (
 .ret)) (
 .skip))) (
 .seq (
 .region [] [10] [
 zm 28 2,
 zf 29 1 4,
 zj 30 4 29,
 zo 31 (.bin .add (.t 30) (zc 1)),
 zo 32 (.mm false (zc 1000) (.t 31)),
 zf 33 2 4,
 zj 34 4 33,
 zo 35 (.build [z0,z0,.bool false] [(0,1,(.t 28)),(1,1,(.t 32)),(2,1,(.t 34))]),
 zo 10 (.obj 10 [z0,z0,.bool false]),
 zn (.store (.loc 10) [none,none,none] (.t 10) (.t 35))] ⟨[2,4,6,10],[4,6,10],[]⟩) (
 .seq (
 .seq (
 zr [
 zf 36 0 4,
 zj 37 4 36,
 zo 38 (.bin .gtr (.t 37) (zc 0)),
 zm 39 2,
 zo 40 (.bin .gtr (.t 39) (zc 0)),
 zo 41 (.beq true (.t 38) (.t 40))] ⟨[2,4,6,10,41],[4,6,10],[]⟩) (
 .cond (.t 41) (
 zr [
 zf 42 1 10,
 zn (.store (.loc 10) [none] (.t 42) (zc 1))] ⟨[2,4,6,10],[4,6,10],[]⟩) (
 .skip))) (
 .seq (
 zr [
 zs 43 10 3 10,
 zf 44 0 4,
 zj 45 4 44,
 zo 46 (.bin .eql (.t 45) (zc 0)),
 zm 47 46,
 zq 48 47 true (.mv (.t 2)),
 zq 49 47 true (.bin .gtr (.t 48) (zc 0)),
 zo 50 (.pick (.t 47) (.t 49) (.c (.bool false))),
 zn (.store (.loc 6) [none,none,none] (.t 6) (.t 43)),
 zm 7 50,
 zo 8 (.mv (zc 0))] ⟨[6,7,8],[6],[]⟩) (
 .ret)))))))
def v_r18_Flows_b0:VC :=
 .seq (
 .seq (
 zr [
 zm 31 8,
 zf 32 2 2,
 zj 33 2 32,
 zo 34 (.bin .leq (.t 31) (.t 33))] ⟨[1,2,7,8,34],[2],[1056]⟩) (
 .cond (.t 34) (
 .skip) (
 .exit 0))) (
 .block 1 (
 .seq (
 .seq (
 zr [
 zs 36 2 6 2,
 zm 37 8,
 zo 38 (.call true (.c (.fn 103 [])) [([some 2,none,none,some 2,none,none],(.t 36)),([none],(.t 37))] []),
 zm 35 38,
 ze 39 35 0,
 ze 40 35 1,
 zm 9 39,
 zm 10 40] ⟨[1,2,7,8,9,10],[2],[1056]⟩) (
 .seq (
 zr [
 zm 41 10] ⟨[1,2,7,8,9,41],[2],[1056]⟩) (
 .cond (.t 41) (
 .seq (
 zr [
 zm 42 9,
 zm 43 1,
 zo 44 (.bin .add (.t 42) (.t 43)),
 zo 45 (.bin .sub (.t 44) (zc 1)),
 zm 46 1,
 zo 47 (.bin .quo (.t 45) (.t 46)),
 zm 48 1,
 zo 49 (.bin .mul (.t 47) (.t 48)),
 zm 8 49] ⟨[1,2,7,8],[2],[1056]⟩) (
 .exit 1)) (
 .skip)))) (
 .seq (
 .seq (
 zr [
 zm 50 7,
 zl 51 50,
 zo 52 (.bin .eql (.t 51) (zc 200))] ⟨[1,2,7,8,52],[2],[1056]⟩) (
 .cond (.t 52) (
 .seq (
 zr [
 zo 4 (.mv (.c (.nils))),
 zo 5 (.mv (zc 10))] ⟨[4,5],[],[1056]⟩) (
 .ret)) (
 .skip))) (
 .seq (
 .region [.norm 7 1056 1] [5056] [
 zm 53 7,
 zm 54 8,
 zo 55 (.lit none [none] [z0] 1 [(0,(.t 54))]),
 zo 56 (.app 5056 (some 1056) [none] 17592186044416 (.t 53) (.t 55)),
 zm 7 56] ⟨[1,2,7,8],[2],[1056]⟩) (
 zr [
 zm 57 8,
 zm 58 1,
 zo 59 (.bin .add (.t 57) (.t 58)),
 zm 8 59] ⟨[1,2,7,8],[2],[1056]⟩)))))
def v_r18_Flows_l0:VC:=.loop [.norm 7 1056 1] ⟨[1,2,7,8],[2],[1056]⟩ v_r18_Flows_b0
abbrev v_r18_Flows_s0 (x1:Int) (x7:V) (x8:Int) (o2:List V) (k1056:Nat) (G:List GObj):St:=⟨[(1,.int .i64 x1),(2,.lptr 2 0),(7,x7),(8,.int .i64 x8)],[(2,o2)],[(1056,k1056)],G⟩
def v_r18_Flows:VFunc where
 nparams:=2
 results:=[.t 4 [some 1],.t 5 [none]]
 body :=
 .seq (
 .region [] [2] [
 zo 2 (.box 2 (.t 0)),
 zo 4 (.mv (.c (.nils))),
 zo 5 (.mv (zc 0))] ⟨[1,2],[2],[]⟩) (
 .seq (
 .seq (
 zr [
 zs 11 2 6 2,
 zo 12 (.call true (.c (.fn 50 [])) [([some 2,none,none,some 2,none,none],(.t 11))] []),
 zm 6 12] ⟨[1,2,6],[2],[]⟩) (
 .seq (
 zr [
 zm 13 6,
 zo 14 (.bin .neq (.t 13) (zc 0))] ⟨[1,2,6,14],[2],[]⟩) (
 .cond (.t 14) (
 .seq (
 zr [
 zm 15 6,
 zo 4 (.mv (.c (.nils))),
 zm 5 15] ⟨[4,5],[],[1056]⟩) (
 .ret)) (
 .skip)))) (
 .seq (
 .seq (
 zr [
 zm 16 1,
 zo 17 (.bin .lss (.t 16) (zc 1)),
 zm 18 17,
 zq 19 18 false (.mv (.t 1)),
 zq 20 18 false (.bin .gtr (.t 19) (zc 1073741824)),
 zo 21 (.pick (.t 18) (.c (.bool true)) (.t 20))] ⟨[1,2,21],[2],[]⟩) (
 .cond (.t 21) (
 .seq (
 zr [
 zo 4 (.mv (.c (.nils))),
 zo 5 (.mv (zc 1))] ⟨[4,5],[],[1056]⟩) (
 .ret)) (
 .skip))) (
 .seq (
 zr [
 zo 7 (.mv (.c (.nils)))] ⟨[1,2,7],[2],[1056]⟩) (
 .seq (
 .seq (
 zr [
 zf 22 1 2,
 zj 23 2 22,
 zm 24 1,
 zo 25 (.bin .add (.t 23) (.t 24)),
 zo 26 (.bin .sub (.t 25) (zc 1)),
 zm 27 1,
 zo 28 (.bin .quo (.t 26) (.t 27)),
 zm 29 1,
 zo 30 (.bin .mul (.t 28) (.t 29)),
 zm 8 30] ⟨[1,2,7,8],[2],[1056]⟩) (
 .block 0 (
 v_r18_Flows_l0))) (
 .seq (
 zr [
 zm 60 7,
 zm 4 60,
 zo 5 (.mv (zc 0))] ⟨[4,5],[],[1056]⟩) (
 .ret))))))
def v_gate_Set_b0:VC :=
 .seq (
 zr [
 zo 39 (.bin .lss (.t 38) (.t 37))] ⟨[1,2,3,13,14,15,36,37,38,39],[],[1083]⟩) (
 .seq (
 .cond (.t 39) (
 .skip) (
 .exit 0)) (
 .seq (
 .block 1 (
 .seq (
 .region [] [17] [
 zm 40 38,
 za 41 3 36 38,
 zo 42 (.load .imm (some 3) (.t 41)),
 zo 17 (.obj 17 [.nils,z0,z0]),
 zm 16 40,
 zn (.store (.loc 17) [some 2,none,none] (.t 17) (.t 42))] ⟨[1,2,3,13,14,15,16,17,36,37,38],[17],[1083]⟩) (
 .seq (
 .region [] [19] [
 zs 43 17 3 17,
 zm 44 2,
 zo 45 (.call true (.c (.fn 85 [])) [([some 2,none,none],(.t 43)),([none],(.t 44))] []),
 zs 46 17 3 17,
 zm 47 1,
 zm 48 16,
 za 49 2 47 48,
 zo 50 (.load .imm (some 2) (.t 49)),
 zo 51 (.call true (.c (.fn 86 [])) [([some 2,none,none],(.t 46)),([none,none],(.t 50))] []),
 zo 18 (.galloc [some 2,none] [.nils,z0]),
 zo 19 (.obj 19 [z0,z0]),
 zn (.store .glob [some 2,none] (.t 18) (.t 45)),
 zn (.store (.loc 19) [none,none] (.t 19) (.t 51))] ⟨[1,2,3,13,14,15,16,18,19,36,37,38],[19],[1083]⟩) (
 .seq (
 zr [
 zf 52 0 19,
 zj 53 19 52,
 zm 20 53] ⟨[1,2,3,13,14,15,16,18,19,20,36,37,38],[19],[1083]⟩) (
 .seq (
 .seq (
 zr [
 zm 54 13,
 zm 55 3,
 zo 56 (.bin .lss (.t 54) (.t 55))] ⟨[1,2,3,13,14,15,16,18,19,20,36,37,38,56],[19],[1083]⟩) (
 .cond (.t 56) (
 .seq (
 zr [
 zm 57 13,
 zo 58 (.load .glob (some 2) (.t 18)),
 zm 59 20,
 zo 60 (.call true (.c (.fn 87 [])) [([some 2,none],(.t 58)),([none],(.t 59))] []),
 zo 61 (.bin .sub (.t 57) (.t 60)),
 zm 13 61] ⟨[1,2,3,13,14,15,16,18,19,36,37,38],[19],[1083]⟩) (
 .seq (
 zr [
 zm 62 3,
 zm 63 13,
 zo 64 (.bin .sub (.t 62) (.t 63)),
 zf 65 1 18,
 zn (.store .glob [none] (.t 65) (.t 64))] ⟨[1,2,3,13,14,15,16,18,19,36,37,38],[19],[1083]⟩) (
 .seq (
 zr [
 zs 66 19 2 19,
 zo 67 (.mkfn 117 [(.t 14),(.t 18)]),
 zo 68 (.call false (.c (.fn 116 [])) [([none,none],(.t 66)),([none],(.t 67))] []),
 zm 20 68] ⟨[1,2,3,13,14,15,16,18,20,36,37,38],[],[1083]⟩) (
 zr [
 zm 69 13,
 zo 70 (.load .glob (some 2) (.t 18)),
 zm 71 20,
 zo 72 (.call true (.c (.fn 87 [])) [([some 2,none],(.t 70)),([none],(.t 71))] []),
 zo 73 (.bin .add (.t 69) (.t 72)),
 zm 13 73] ⟨[1,2,3,13,14,15,16,20,36,37,38],[],[1083]⟩)))) (
 .skip))) (
 .region [.norm 15 1083 2] [5083] [
 zm 74 15,
 zm 75 20,
 zm 76 1,
 zm 77 16,
 za 78 2 76 77,
 zf 79 1 78,
 zi 80 79,
 zo 81 (.build [z0,.bool false] [(0,1,(.t 75)),(1,1,(.t 80))]),
 zo 82 (.lit none [none,none] [z0,.bool false] 1 [(0,(.t 81))]),
 zo 83 (.app 5083 (some 1083) [none,none] 8796093022208 (.t 74) (.t 82)),
 zm 15 83] ⟨[1,2,3,13,14,15,36,37,38],[],[1083]⟩)))))) (
 zr [
 zo 84 (.bin .add (.t 38) (zc 1)),
 zm 38 84] ⟨[1,2,3,13,14,15,36,37,38],[],[1083]⟩)))
def v_gate_Set_l0:VC:=.loop [.norm 15 1083 2] ⟨[1,2,3,13,14,15,36,37,38],[],[1083]⟩ v_gate_Set_b0
abbrev v_gate_Set_s0 (x1:V) (x2:Int) (x3:Int) (x13:Int) (x14:V) (x15:V) (x36:V) (x37:Int) (x38:Int) (k1083:Nat) (G:List GObj):St:=⟨[(1,x1),(2,.int .i64 x2),(3,.int .i64 x3),(13,.int .i64 x13),(14,x14),(15,x15),(36,x36),(37,.int .i64 x37),(38,.int .i64 x38)],[],[(1083,k1083)],G⟩
def v_gate_Set:VFunc where
 nparams:=4
 results:=[.t 8 [some 2],.t 9 [none],.t 10 [none]]
 body :=
 .seq (
 zr [
 zo 8 (.mv (.c (.nils))),
 zo 9 (.mv (zc 0)),
 zo 10 (.mv (zc 0))] ⟨[0,1,2,3],[],[]⟩) (
 .seq (
 .region [] [11] [
 zm 22 0,
 zm 23 1,
 zm 24 2,
 zo 25 (.call true (.c (.fn 58 [])) [([some 3],(.t 22)),([some 2],(.t 23)),([none],(.t 24))] []),
 zm 21 25,
 ze 26 21 0,
 ze 27 21 1,
 zo 11 (.obj 11 [z0,z0]),
 zn (.store (.loc 11) [none,none] (.t 11) (.t 26)),
 zm 12 27] ⟨[0,1,2,3,11,12],[11],[]⟩) (
 .seq (
 .seq (
 zr [
 zm 28 12,
 zo 29 (.bin .neq (.t 28) (zc 0))] ⟨[0,1,2,3,11,12,29],[11],[]⟩) (
 .cond (.t 29) (
 .seq (
 zr [
 zm 30 12,
 zo 8 (.mv (.c (.nils))),
 zo 9 (.mv (zc 0)),
 zm 10 30] ⟨[8,9,10],[],[1083]⟩) (
 .ret)) (
 .skip))) (
 .seq (
 .seq (
 zr [
 zm 31 3,
 zo 32 (.call true (.c (.fn 41 [])) [([none],(.t 31)),([none],(zc 1073741824))] []),
 zo 33 (.un .not (.t 32))] ⟨[0,1,2,3,11,33],[11],[]⟩) (
 .cond (.t 33) (
 .seq (
 zr [
 zo 8 (.mv (.c (.nils))),
 zo 9 (.mv (zc 0)),
 zo 10 (.mv (zc 1))] ⟨[8,9,10],[],[1083]⟩) (
 .ret)) (
 .skip))) (
 .seq (
 zr [
 zf 34 0 11,
 zj 35 11 34,
 zm 13 35] ⟨[0,1,2,3,13],[],[]⟩) (
 .seq (
 zr [
 zo 14 (.galloc [none] [.nilfn]),
 zn (.store .glob [none] (.t 14) (.c (.fn 115 [])))] ⟨[0,1,2,3,13,14],[],[]⟩) (
 .seq (
 zr [
 zo 15 (.mv (.c (.nils)))] ⟨[0,1,2,3,13,14,15],[],[1083]⟩) (
 .seq (
 .seq (
 zr [
 zm 36 0,
 zl 37 36,
 zo 38 (.mv (zc 0))] ⟨[1,2,3,13,14,15,36,37,38],[],[1083]⟩) (
 .block 0 (
 v_gate_Set_l0))) (
 .seq (
 zr [
 zm 85 15,
 zm 86 13,
 zm 8 85,
 zm 9 86,
 zo 10 (.mv (zc 0))] ⟨[8,9,10],[],[1083]⟩) (
 .ret)))))))))
def v_dam_work_free:VFunc where
 nparams:=1
 results:=[.t 2 [none]]
 body :=
 .seq (
 zr [
 zo 2 (.mv (zc 0))] ⟨[0],[],[]⟩) (
 .seq (
 zr [
 zm 3 0,
 zk 4 3,
 zf 5 25 4,
 zg 6 5,
 zm 7 0,
 zk 8 7,
 zf 9 0 8,
 zf 10 0 9,
 zf 11 0 10,
 zg 12 11,
 zm 13 0,
 zk 14 13,
 zf 15 0 14,
 zf 16 0 15,
 zf 17 1 16,
 zg 18 17,
 zo 19 (.call true (.c (.fn 108 [])) [([some 2],(.t 12)),([none],(.t 18))] []),
 zo 20 (.bin .sub (.t 6) (.t 19)),
 zo 21 (.mm true (.t 20) (zc 0)),
 zm 2 21] ⟨[2],[],[]⟩) (
 .ret))
def v_dispatch_Best_b0:VC :=
 .seq (
 .seq (
 zr [
 zm 31 14,
 zl 32 31,
 zg 33 10,
 zl 34 33,
 zo 35 (.bin .lss (.t 32) (.t 34))] ⟨[10,13,14,15,35],[],[1048]⟩) (
 .cond (.t 35) (
 .skip) (
 .exit 0))) (
 .block 1 (
 .seq (
 .region [] [16] [
 zg 36 13,
 zm 37 14,
 zl 38 37,
 zm 39 15,
 zo 40 (.call false (.t 36) [([none],(.t 38)),([none],(.t 39))] []),
 zo 16 (.obj 16 [.bool false,z0,z0,z0]),
 zn (.store (.loc 16) [none,none,none,none] (.t 16) (.t 40))] ⟨[10,13,14,15,16],[16],[1048]⟩) (
 .seq (
 .seq (
 zr [
 zf 41 0 16,
 zj 42 16 41,
 zo 43 (.un .not (.t 42))] ⟨[10,13,14,15,16,43],[16],[1048]⟩) (
 .cond (.t 43) (
 .seq (
 zr [
 zo 8 (.mv (.c (.nils))),
 zo 9 (.mv (zc 9))] ⟨[8,9],[],[1048]⟩) (
 .ret)) (
 .skip))) (
 .seq (
 .region [.norm 14 1048 1] [5048] [
 zm 44 14,
 zf 45 3 16,
 zj 46 16 45,
 zo 47 (.lit none [none] [z0] 1 [(0,(.t 46))]),
 zo 48 (.app 5048 (some 1048) [none] 17592186044416 (.t 44) (.t 47)),
 zm 14 48] ⟨[10,13,14,15,16],[16],[1048]⟩) (
 zr [
 zm 49 15,
 zf 50 3 16,
 zj 51 16 50,
 zo 52 (.bin .sub (.t 49) (.t 51)),
 zm 15 52] ⟨[10,13,14,15],[],[1048]⟩)))))
def v_dispatch_Best_l0:VC:=.loop [.norm 14 1048 1] ⟨[10,13,14,15],[],[1048]⟩ v_dispatch_Best_b0
abbrev v_dispatch_Best_s0 (x10:V) (x13:V) (x14:V) (x15:Int) (k1048:Nat) (G:List GObj):St:=⟨[(10,x10),(13,x13),(14,x14),(15,.int .i64 x15)],[],[(1048,k1048)],G⟩
def v_dispatch_Best:VFunc where
 nparams:=4
 results:=[.t 8 [some 1],.t 9 [none]]
 body :=
 .seq (
 zr [
 zo 8 (.mv (.c (.nils))),
 zo 9 (.mv (zc 0))] ⟨[0,1,2,3],[],[]⟩) (
 .seq (
 zr [
 zm 18 0,
 zm 19 1,
 zm 20 2,
 zm 21 3,
 zo 22 (.call true (.c (.fn 83 [])) [([some 6],(.t 18)),([some 3],(.t 19)),([none],(.t 20)),([none],(.t 21))] []),
 zm 17 22,
 ze 23 17 0,
 ze 24 17 1,
 zo 10 (.galloc [some 1] [.nils]),
 zn (.store .glob [some 1] (.t 10) (.t 23)),
 zm 11 24] ⟨[3,10,11],[],[]⟩) (
 .seq (
 .seq (
 zr [
 zm 25 11,
 zo 26 (.bin .neq (.t 25) (zc 0))] ⟨[3,10,11,26],[],[]⟩) (
 .cond (.t 26) (
 .seq (
 zr [
 zm 27 11,
 zo 8 (.mv (.c (.nils))),
 zm 9 27] ⟨[8,9],[],[1048]⟩) (
 .ret)) (
 .skip))) (
 .seq (
 zr [
 zo 28 (.mkmap),
 zo 12 (.galloc [none] [.nilmap]),
 zn (.store .glob [none] (.t 12) (.t 28))] ⟨[3,10,12],[],[]⟩) (
 .seq (
 zr [
 zo 13 (.galloc [none] [.nilfn])] ⟨[3,10,12,13],[],[]⟩) (
 .seq (
 zr [
 zo 29 (.mkfn 118 [(.t 10),(.t 12),(.t 13)]),
 zn (.store .glob [none] (.t 13) (.t 29))] ⟨[3,10,13],[],[]⟩) (
 .seq (
 zr [
 zo 14 (.mv (.c (.nils)))] ⟨[3,10,13,14],[],[1048]⟩) (
 .seq (
 .seq (
 zr [
 zm 30 3,
 zm 15 30] ⟨[10,13,14,15],[],[1048]⟩) (
 .block 0 (
 v_dispatch_Best_l0))) (
 .seq (
 zr [
 zm 53 14,
 zm 8 53,
 zo 9 (.mv (zc 0))] ⟨[8,9],[],[1048]⟩) (
 .ret)))))))))
def v_unit_Next:VFunc where
 nparams:=3
 results:=[.c 6 true [none,none,none],.t 7 [none],.t 8 [none]]
 body :=
 .seq (
 .region [] [3,4,6] [
 zo 3 (.box 3 (.t 0)),
 zo 4 (.box 4 (.t 1)),
 zo 6 (.obj 6 [z0,z0,.bool false]),
 zo 7 (.mv (.c (.bool false))),
 zo 8 (.mv (zc 0))] ⟨[2,3,4,6],[3,4,6],[]⟩) (
 .seq (
 zr [
 zs 11 3 6 3,
 zo 12 (.call true (.c (.fn 47 [])) [([some 2,none,none,some 2,none,none],(.t 11))] []),
 zm 9 12] ⟨[2,3,4,6,9],[3,4,6],[]⟩) (
 .seq (
 .block 0 (
 .seq (
 zr [
 zm 14 9,
 zo 15 (.bin .neq (.t 14) (zc 0)),
 zm 13 15] ⟨[2,3,4,6,9,13],[3,4,6],[]⟩) (
 .cond (.t 13) (
 .seq (
 zr [
 zo 16 (.build [z0,z0,.bool false] []),
 zm 17 9,
 zn (.store (.loc 6) [none,none,none] (.t 6) (.t 16)),
 zo 7 (.mv (.c (.bool false))),
 zm 8 17] ⟨[6,7,8],[6],[]⟩) (
 .ret)) (
 .seq (
 zr [
 zs 19 3 6 3,
 zs 20 4 3 4,
 zo 21 (.call true (.c (.fn 111 [])) [([some 2,none,none,some 2,none,none],(.t 19)),([none,none,none],(.t 20))] []),
 zo 22 (.un .not (.t 21)),
 zm 18 22] ⟨[2,3,4,6,18],[3,4,6],[]⟩) (
 .cond (.t 18) (
 .seq (
 zr [
 zo 23 (.build [z0,z0,.bool false] []),
 zn (.store (.loc 6) [none,none,none] (.t 6) (.t 23)),
 zo 7 (.mv (.c (.bool false))),
 zo 8 (.mv (zc 3))] ⟨[6,7,8],[6],[]⟩) (
 .ret)) (
 .seq (
 zr [
 zs 25 3 6 3,
 zs 26 4 3 4,
 zm 27 2,
 zo 28 (.call true (.c (.fn 120 [])) [([some 2,none,none,some 2,none,none],(.t 25)),([none,none,none],(.t 26)),([none],(.t 27))] []),
 zo 29 (.un .not (.t 28)),
 zm 24 29] ⟨[2,4,6,24],[4,6],[]⟩) (
 .cond (.t 24) (
 .seq (
 zr [
 zo 30 (.build [z0,z0,.bool false] []),
 zn (.store (.loc 6) [none,none,none] (.t 6) (.t 30)),
 zo 7 (.mv (.c (.bool false))),
 zo 8 (.mv (zc 15))] ⟨[6,7,8],[6],[]⟩) (
 .ret)) (
 .skip)))))))) (
 .seq (
 .region [] [10] [
 zm 31 2,
 zf 32 1 4,
 zj 33 4 32,
 zo 34 (.bin .add (.t 33) (zc 1)),
 zo 35 (.mm false (.t 34) (zc 1000)),
 zf 36 2 4,
 zj 37 4 36,
 zo 38 (.build [z0,z0,.bool false] [(0,1,(.t 31)),(1,1,(.t 35)),(2,1,(.t 37))]),
 zo 10 (.obj 10 [z0,z0,.bool false]),
 zn (.store (.loc 10) [none,none,none] (.t 10) (.t 38))] ⟨[2,4,6,10],[4,6,10],[]⟩) (
 .seq (
 .seq (
 zr [
 zm 39 2,
 zo 40 (.bin .gtr (.t 39) (zc 0)),
 zf 41 0 4,
 zj 42 4 41,
 zo 43 (.bin .gtr (.t 42) (zc 0)),
 zo 44 (.beq true (.t 40) (.t 43))] ⟨[2,4,6,10,44],[4,6,10],[]⟩) (
 .cond (.t 44) (
 zr [
 zf 45 1 10,
 zn (.store (.loc 10) [none] (.t 45) (zc 1))] ⟨[2,4,6,10],[4,6,10],[]⟩) (
 .skip))) (
 .seq (
 zr [
 zs 46 10 3 10,
 zm 47 2,
 zo 48 (.bin .gtr (.t 47) (zc 0)),
 zm 49 48,
 zq 50 49 true (.faddr 0 (.t 4)),
 zq 51 49 true (.load (.loc 4) none (.t 50)),
 zq 52 49 true (.bin .eql (.t 51) (zc 0)),
 zo 53 (.pick (.t 49) (.t 52) (.c (.bool false))),
 zn (.store (.loc 6) [none,none,none] (.t 6) (.t 46)),
 zm 7 53,
 zo 8 (.mv (zc 0))] ⟨[6,7,8],[6],[]⟩) (
 .ret))))))
def v_unit_Power:VFunc where
 nparams:=2
 results:=[.t 4 [none],.t 5 [none]]
 body :=
 .seq (
 .region [] [2] [
 zo 2 (.box 2 (.t 0)),
 zo 4 (.mv (zc 0)),
 zo 5 (.mv (zc 0))] ⟨[1,2],[2],[]⟩) (
 .seq (
 .seq (
 zr [
 zs 7 2 6 2,
 zo 8 (.call true (.c (.fn 47 [])) [([some 2,none,none,some 2,none,none],(.t 7))] []),
 zm 6 8] ⟨[1,2,6],[2],[]⟩) (
 .seq (
 zr [
 zm 9 6,
 zo 10 (.bin .neq (.t 9) (zc 0))] ⟨[1,2,6,10],[2],[]⟩) (
 .cond (.t 10) (
 .seq (
 zr [
 zm 11 6,
 zo 4 (.mv (zc 0)),
 zm 5 11] ⟨[4,5],[],[]⟩) (
 .ret)) (
 .skip)))) (
 .seq (
 .block 0 (
 .seq (
 zr [
 zm 13 1,
 zo 14 (.bin .eql (.t 13) (zc 0)),
 zm 12 14] ⟨[1,2,12],[2],[]⟩) (
 .cond (.t 12) (
 .seq (
 zr [
 zo 4 (.mv (zc 0)),
 zo 5 (.mv (zc 0))] ⟨[4,5],[],[]⟩) (
 .ret)) (
 .seq (
 zr [
 zs 16 2 6 2,
 zm 17 1,
 zo 18 (.call true (.c (.fn 121 [])) [([some 2,none,none,some 2,none,none],(.t 16)),([none],(.t 17))] []),
 zo 19 (.un .not (.t 18)),
 zm 15 19] ⟨[1,2,15],[2],[]⟩) (
 .cond (.t 15) (
 .seq (
 zr [
 zo 4 (.mv (zc 0)),
 zo 5 (.mv (zc 1))] ⟨[4,5],[],[]⟩) (
 .ret)) (
 .skip)))))) (
 .seq (
 zr [
 zf 20 0 2,
 zj 21 2 20,
 zm 22 1,
 zo 23 (.call true (.c (.fn 108 [])) [([some 2],(.t 21)),([none],(.t 22))] []),
 zm 4 23,
 zo 5 (.mv (zc 0))] ⟨[4,5],[],[]⟩) (
 .ret))))
def v_r18_inside_b0:VC :=
 .seq (
 zr [
 zo 12 (.bin .lss (.t 11) (.t 10))] ⟨[1,9,10,11,12],[],[]⟩) (
 .seq (
 .cond (.t 12) (
 .skip) (
 .exit 0)) (
 .seq (
 .block 1 (
 .seq (
 .region [] [7] [
 za 13 2 9 11,
 zo 14 (.load .imm (some 2) (.t 13)),
 zo 7 (.obj 7 [z0,z0]),
 zn (.store (.loc 7) [none,none] (.t 7) (.t 14))] ⟨[1,7,9,10,11],[7],[]⟩) (
 .seq (
 zr [
 zm 15 1,
 zf 16 0 7,
 zj 17 7 16,
 zo 18 (.bin .gtr (.t 15) (.t 17)),
 zm 19 18,
 zq 20 19 true (.mv (.t 1)),
 zq 21 19 true (.faddr 1 (.t 7)),
 zq 22 19 true (.load (.loc 7) none (.t 21)),
 zq 23 19 true (.bin .lss (.t 20) (.t 22)),
 zo 24 (.pick (.t 19) (.t 23) (.c (.bool false)))] ⟨[1,7,9,10,11,24],[7],[]⟩) (
 .cond (.t 24) (
 .seq (
 zr [
 zf 25 1 7,
 zj 26 7 25,
 zm 4 26,
 zo 5 (.mv (.c (.bool true)))] ⟨[4,5],[],[]⟩) (
 .ret)) (
 .skip))))) (
 zr [
 zo 27 (.bin .add (.t 11) (zc 1)),
 zm 11 27] ⟨[1,9,10,11],[],[]⟩)))
def v_r18_inside_l0:VC:=.loop [] ⟨[1,9,10,11],[],[]⟩ v_r18_inside_b0
abbrev v_r18_inside_s0 (x1:Int) (x9:V) (x10:Int) (x11:Int) (G:List GObj):St:=⟨[(1,.int .i64 x1),(9,x9),(10,.int .i64 x10),(11,.int .i64 x11)],[],[],G⟩
def v_r18_inside:VFunc where
 nparams:=2
 results:=[.t 4 [none],.t 5 [none]]
 body :=
 .seq (
 .region [] [2] [
 zo 2 (.box 2 (.t 0)),
 zo 4 (.mv (zc 0)),
 zo 5 (.mv (.c (.bool false)))] ⟨[1,2],[2],[]⟩) (
 .seq (
 .seq (
 zr [
 zf 8 3 2,
 zj 9 2 8,
 zl 10 9,
 zo 11 (.mv (zc 0))] ⟨[1,9,10,11],[],[]⟩) (
 .block 0 (
 v_r18_inside_l0))) (
 .seq (
 zr [
 zo 4 (.mv (zc 0)),
 zo 5 (.mv (.c (.bool false)))] ⟨[4,5],[],[]⟩) (
 .ret)))
def v_curve_steep:VFunc where
 nparams:=2
 results:=[.t 4 [none]]
 body :=
 .seq (
 zr [
 zo 4 (.mv (.c (.bool false)))] ⟨[0,1],[],[]⟩) (
 .seq (
 zr [
 zm 5 0,
 zo 6 (.bin .gtr (.t 5) (zc 0)),
 zm 7 6,
 zq 8 7 true (.mv (.t 1)),
 zq 9 7 true (.mv (.t 0)),
 zq 10 7 true (.bin .quo (zc 4611686018427387904) (.t 9)),
 zq 11 7 true (.bin .gtr (.t 8) (.t 10)),
 zo 12 (.pick (.t 7) (.t 11) (.c (.bool false))),
 zm 4 12] ⟨[4],[],[]⟩) (
 .ret))
def v_r19_options_b0:VC :=
 .seq (
 zr [
 zo 29 (.bin .lss (.t 28) (.t 27))] ⟨[3,4,10,26,27,28,29],[3,4],[1024,1039]⟩) (
 .seq (
 .cond (.t 29) (
 .skip) (
 .exit 0)) (
 .seq (
 .block 1 (
 .seq (
 zr [
 za 30 1 26 28,
 zi 31 30,
 zm 12 31] ⟨[3,4,10,12,26,27,28],[3,4],[1024,1039]⟩) (
 .seq (
 zr [
 zs 32 3 6 3,
 zs 33 4 3 4,
 zm 34 12,
 zo 35 (.call true (.c (.fn 114 [])) [([some 2,none,none,some 2,none,none],(.t 32)),([none,none,none],(.t 33)),([none],(.t 34))] [])] ⟨[3,4,10,12,26,27,28,35],[3,4],[1024,1039]⟩) (
 .cond (.t 35) (
 .region [.norm 10 1039 1] [5039] [
 zm 36 10,
 zm 37 12,
 zo 38 (.lit none [none] [z0] 1 [(0,(.t 37))]),
 zo 39 (.app 5039 (some 1039) [none] 17592186044416 (.t 36) (.t 38)),
 zm 10 39] ⟨[3,4,10,26,27,28],[3,4],[1024,1039]⟩) (
 .skip))))) (
 zr [
 zo 40 (.bin .add (.t 28) (zc 1)),
 zm 28 40] ⟨[3,4,10,26,27,28],[3,4],[1024,1039]⟩)))
def v_r19_options_l0:VC:=.loop [.norm 10 1039 1] ⟨[3,4,10,26,27,28],[3,4],[1024,1039]⟩ v_r19_options_b0
abbrev v_r19_options_s0 (x10:V) (x26:V) (x27:Int) (x28:Int) (o3:List V) (o4:List V) (k1024:Nat) (k1039:Nat) (G:List GObj):St:=⟨[(3,.lptr 3 0),(4,.lptr 4 0),(10,x10),(26,x26),(27,.int .i64 x27),(28,.int .i64 x28)],[(3,o3),(4,o4)],[(1024,k1024),(1039,k1039)],G⟩
def v_r19_options:VFunc where
 nparams:=3
 results:=[.t 6 [some 1],.t 7 [none]]
 body :=
 .seq (
 .region [] [3,4] [
 zo 3 (.box 3 (.t 0)),
 zo 4 (.box 4 (.t 1)),
 zo 6 (.mv (.c (.nils))),
 zo 7 (.mv (zc 0))] ⟨[2,3,4],[3,4],[]⟩) (
 .seq (
 zr [
 zs 14 3 6 3,
 zm 15 2,
 zo 16 (.call true (.c (.fn 97 [])) [([some 2,none,none,some 2,none,none],(.t 14)),([none],(.t 15))] []),
 zm 13 16,
 ze 17 13 0,
 ze 18 13 1,
 zm 8 17,
 zm 9 18] ⟨[3,4,8,9],[3,4],[]⟩) (
 .seq (
 .seq (
 zr [
 zm 19 9,
 zo 20 (.bin .neq (.t 19) (zc 0))] ⟨[3,4,8,9,20],[3,4],[]⟩) (
 .cond (.t 20) (
 .seq (
 zr [
 zm 21 9,
 zo 6 (.mv (.c (.nils))),
 zm 7 21] ⟨[6,7],[],[1039]⟩) (
 .ret)) (
 .skip))) (
 .seq (
 zr [
 zo 10 (.mv (.c (.nils)))] ⟨[3,4,8,10],[3,4],[1039]⟩) (
 .seq (
 .seq (
 .region [] [1024,5026] [
 zf 22 0 4,
 zj 23 4 22,
 zo 24 (.lit (some 1024) [none] [z0] 2 [(0,(zc 0)),(1,(.t 23))]),
 zm 25 8,
 zo 26 (.app 5026 (some 1024) [none] 17592186044416 (.t 24) (.t 25)),
 zl 27 26,
 zo 28 (.mv (zc 0))] ⟨[3,4,10,26,27,28],[3,4],[1024,1039]⟩) (
 .block 0 (
 v_r19_options_l0))) (
 .seq (
 zr [
 zm 41 10,
 zm 6 41,
 zo 7 (.mv (zc 0))] ⟨[6,7],[],[1039]⟩) (
 .ret))))))
def v_dispatch_choices_b0:VC :=
 .seq (
 zr [
 zo 33 (.bin .lss (.t 32) (.t 31))] ⟨[3,4,10,30,31,32,33],[3,4,20026],[1061]⟩) (
 .seq (
 .cond (.t 33) (
 .skip) (
 .exit 0)) (
 .seq (
 .block 1 (
 .seq (
 zr [
 za 34 1 30 32,
 zj 35 20026 34,
 zm 12 35] ⟨[3,4,10,12,30,31,32],[3,4,20026],[1061]⟩) (
 .seq (
 .seq (
 zr [
 zs 36 3 6 3,
 zs 37 4 3 4,
 zm 38 12,
 zo 39 (.call true (.c (.fn 125 [])) [([some 2,none,none,some 2,none,none],(.t 36)),([none,none,none],(.t 37)),([none],(.t 38))] []),
 zo 40 (.un .not (.t 39))] ⟨[3,4,10,12,30,31,32,40],[3,4,20026],[1061]⟩) (
 .cond (.t 40) (
 .exit 1) (
 .skip))) (
 .seq (
 .region [] [13] [
 zm 41 12,
 zo 42 (.build [z0,z0,z0] [(0,1,(.t 41))]),
 zo 13 (.obj 13 [z0,z0,z0]),
 zn (.store (.loc 13) [none,none,none] (.t 13) (.t 42))] ⟨[3,4,10,12,13,30,31,32],[3,4,13,20026],[1061]⟩) (
 .seq (
 zr [
 zs 44 3 6 3,
 zm 45 12,
 zo 46 (.call true (.c (.fn 102 [])) [([some 2,none,none,some 2,none,none],(.t 44)),([none],(.t 45))] []),
 zm 43 46,
 ze 47 43 0,
 ze 48 43 1,
 zf 49 1 13,
 zn (.store (.loc 13) [none] (.t 49) (.t 47))] ⟨[3,4,10,12,13,30,31,32],[3,4,13,20026],[1061]⟩) (
 .seq (
 .seq (
 zr [
 zm 50 12,
 zo 51 (.bin .gtr (.t 50) (zc 0)),
 zm 52 51,
 zq 53 52 true (.faddr 0 (.t 4)),
 zq 54 52 true (.load (.loc 4) none (.t 53)),
 zq 55 52 true (.bin .eql (.t 54) (zc 0)),
 zo 56 (.pick (.t 52) (.t 55) (.c (.bool false)))] ⟨[3,4,10,13,30,31,32,56],[3,4,13,20026],[1061]⟩) (
 .cond (.t 56) (
 zr [
 zf 57 2 13,
 zn (.store (.loc 13) [none] (.t 57) (zc 1))] ⟨[3,4,10,13,30,31,32],[3,4,13,20026],[1061]⟩) (
 .skip))) (
 .region [.norm 10 1061 3] [5061] [
 zm 58 10,
 zs 59 13 3 13,
 zo 60 (.lit none [none,none,none] [z0,z0,z0] 1 [(0,(.t 59))]),
 zo 61 (.app 5061 (some 1061) [none,none,none] 5864062014805 (.t 58) (.t 60)),
 zm 10 61] ⟨[3,4,10,30,31,32],[3,4,20026],[1061]⟩))))))) (
 zr [
 zo 62 (.bin .add (.t 32) (zc 1)),
 zm 32 62] ⟨[3,4,10,30,31,32],[3,4,20026],[1061]⟩)))
def v_dispatch_choices_l0:VC:=.loop [.norm 10 1061 3] ⟨[3,4,10,30,31,32],[3,4,20026],[1061]⟩ v_dispatch_choices_b0
abbrev v_dispatch_choices_s0 (x10:V) (n30:Nat) (x31:Int) (x32:Int) (o3:List V) (o4:List V) (o20026:List V) (k1061:Nat) (G:List GObj):St:=⟨[(3,.lptr 3 0),(4,.lptr 4 0),(10,x10),(30,.lref 20026 1 n30),(31,.int .i64 x31),(32,.int .i64 x32)],[(3,o3),(4,o4),(20026,o20026)],[(1061,k1061)],G⟩
def v_dispatch_choices:VFunc where
 nparams:=3
 results:=[.t 6 [some 3],.t 7 [none]]
 body :=
 .seq (
 .region [] [3,4] [
 zo 3 (.box 3 (.t 0)),
 zo 4 (.box 4 (.t 1)),
 zo 6 (.mv (.c (.nils))),
 zo 7 (.mv (.c (.bool false)))] ⟨[2,3,4],[3,4],[]⟩) (
 .seq (
 .region [] [20026] [
 zs 15 3 6 3,
 zm 16 2,
 zo 17 (.own (.c (.fn 122 [])) [([some 2,none,none,some 2,none,none],(.t 15)),([none],(.t 16))] 20026 0),
 zm 14 17,
 ze 18 14 0,
 ze 19 14 1,
 zm 8 18,
 zm 9 19] ⟨[3,4,8,9],[3,4,20026],[]⟩) (
 .seq (
 .seq (
 zr [
 zm 20 9,
 zo 21 (.bin .neq (.t 20) (zc 0))] ⟨[3,4,8,21],[3,4,20026],[]⟩) (
 .cond (.t 21) (
 .seq (
 zr [
 zo 6 (.mv (.c (.nils))),
 zo 7 (.mv (.c (.bool false)))] ⟨[6,7],[],[1061]⟩) (
 .ret)) (
 .skip))) (
 .seq (
 .region [.ren 20026 21026] [20026] [
 zm 22 8,
 zf 23 0 4,
 zj 24 4 23,
 zo 25 (.lit none [none] [z0] 2 [(0,(zc 0)),(1,(.t 24))]),
 zo 26 (.appo 20026 21026 [none] (.t 22) (.t 25)),
 zm 8 26] ⟨[3,4,8],[3,4,20026],[]⟩) (
 .seq (
 zr [
 zm 27 8,
 zo 28 (.wrt 0 123 20026 (.t 27))] ⟨[3,4,8],[3,4,20026],[]⟩) (
 .seq (
 zr [
 zo 10 (.mv (.c (.nils)))] ⟨[3,4,8,10],[3,4,20026],[1061]⟩) (
 .seq (
 .seq (
 zr [
 zm 29 8,
 zo 30 (.wrt 1 124 20026 (.t 29)),
 zl 31 30,
 zo 32 (.mv (zc 0))] ⟨[3,4,10,30,31,32],[3,4,20026],[1061]⟩) (
 .block 0 (
 v_dispatch_choices_l0))) (
 .seq (
 zr [
 zm 63 10,
 zm 6 63,
 zo 7 (.mv (.c (.bool true)))] ⟨[6,7],[],[1061]⟩) (
 .ret))))))))
def v_gate_valid:VFunc where
 nparams:=2
 results:=[.t 4 [none]]
 body :=
 .seq (
 .region [] [2,3] [
 zo 2 (.box 2 (.t 0)),
 zo 3 (.box 3 (.t 1)),
 zo 4 (.mv (.c (.bool false)))] ⟨[2,3],[2,3],[]⟩) (
 .seq (
 zr [
 zf 5 0 3,
 zj 6 3 5,
 zf 7 1 2,
 zj 8 2 7,
 zo 9 (.call true (.c (.fn 41 [])) [([none],(.t 6)),([none],(.t 8))] []),
 zm 4 9] ⟨[4],[],[]⟩) (
 .ret))
def v_curve_Value_b0:VC :=
 .seq (
 zr [
 zo 11 (.bin .lss (.t 10) (.t 9))] ⟨[0,1,8,9,10,11],[],[]⟩) (
 .seq (
 .cond (.t 11) (
 .skip) (
 .exit 0)) (
 .seq (
 .block 1 (
 .seq (
 .region [] [6] [
 zm 12 10,
 za 13 2 8 10,
 zo 14 (.load .imm (some 2) (.t 13)),
 zo 6 (.obj 6 [z0,z0]),
 zm 5 12,
 zn (.store (.loc 6) [none,none] (.t 6) (.t 14))] ⟨[0,1,5,6,8,9,10],[6],[]⟩) (
 .block 2 (
 .seq (
 zr [
 zm 16 1,
 zf 17 0 6,
 zj 18 6 17,
 zo 19 (.bin .leq (.t 16) (.t 18)),
 zm 20 19,
 zq 21 20 true (.mv (.t 5)),
 zq 22 20 true (.bin .eql (.t 21) (zc 0)),
 zo 23 (.pick (.t 20) (.t 22) (.c (.bool false))),
 zm 15 23] ⟨[0,1,5,6,8,9,10,15],[6],[]⟩) (
 .cond (.t 15) (
 .seq (
 zr [
 zf 24 1 6,
 zj 25 6 24,
 zm 4 25] ⟨[4],[],[]⟩) (
 .ret)) (
 .seq (
 zr [
 zm 27 1,
 zf 28 0 6,
 zj 29 6 28,
 zo 30 (.bin .leq (.t 27) (.t 29)),
 zm 26 30] ⟨[0,1,5,6,8,9,10,26],[6],[]⟩) (
 .cond (.t 26) (
 .seq (
 .region [] [7] [
 zm 31 0,
 zm 32 5,
 zo 33 (.bin .sub (.t 32) (zc 1)),
 za 34 2 31 33,
 zo 35 (.load .imm (some 2) (.t 34)),
 zo 7 (.obj 7 [z0,z0]),
 zn (.store (.loc 7) [none,none] (.t 7) (.t 35))] ⟨[1,6,7],[6,7],[]⟩) (
 .seq (
 zr [
 zf 36 1 7,
 zj 37 7 36,
 zf 38 1 6,
 zj 39 6 38,
 zf 40 1 7,
 zj 41 7 40,
 zo 42 (.bin .sub (.t 39) (.t 41)),
 zm 43 1,
 zf 44 0 7,
 zj 45 7 44,
 zo 46 (.bin .sub (.t 43) (.t 45)),
 zo 47 (.bin .mul (.t 42) (.t 46)),
 zf 48 0 6,
 zj 49 6 48,
 zf 50 0 7,
 zj 51 7 50,
 zo 52 (.bin .sub (.t 49) (.t 51)),
 zo 53 (.bin .quo (.t 47) (.t 52)),
 zo 54 (.bin .add (.t 37) (.t 53)),
 zm 4 54] ⟨[4],[],[]⟩) (
 .ret))) (
 .skip)))))))) (
 zr [
 zo 55 (.bin .add (.t 10) (zc 1)),
 zm 10 55] ⟨[0,1,8,9,10],[],[]⟩)))
def v_curve_Value_l0:VC:=.loop [] ⟨[0,1,8,9,10],[],[]⟩ v_curve_Value_b0
abbrev v_curve_Value_s0 (x0:V) (x1:Int) (x8:V) (x9:Int) (x10:Int) (G:List GObj):St:=⟨[(0,x0),(1,.int .i64 x1),(8,x8),(9,.int .i64 x9),(10,.int .i64 x10)],[],[],G⟩
def v_curve_Value:VFunc where
 nparams:=2
 results:=[.t 4 [none]]
 body :=
 .seq (
 zr [
 zo 4 (.mv (zc 0))] ⟨[0,1],[],[]⟩) (
 .seq (
 .seq (
 zr [
 zm 8 0,
 zl 9 8,
 zo 10 (.mv (zc 0))] ⟨[0,1,8,9,10],[],[]⟩) (
 .block 0 (
 v_curve_Value_l0))) (
 .seq (
 zr [
 zm 56 0,
 zm 57 0,
 zl 58 57,
 zo 59 (.bin .sub (.t 58) (zc 1)),
 za 60 2 56 59,
 zf 61 1 60,
 zi 62 61,
 zm 4 62] ⟨[4],[],[]⟩) (
 .ret)))
def v_r20_reach:VFunc where
 nparams:=2
 results:=[.c 4 true [none,none]]
 body :=
 .seq (
 .region [] [2,3,4] [
 zo 2 (.box 2 (.t 0)),
 zo 3 (.box 3 (.t 1)),
 zo 4 (.obj 4 [z0,z0])] ⟨[2,3,4],[2,3,4],[]⟩) (
 .seq (
 .seq (
 zr [
 zf 5 1 3,
 zj 6 3 5] ⟨[2,3,4,6],[2,3,4],[]⟩) (
 .cond (.t 6) (
 .seq (
 zr [
 zf 7 0 3,
 zj 8 3 7,
 zf 9 0 3,
 zj 10 3 9,
 zo 11 (.build [z0,z0] [(0,1,(.t 8)),(1,1,(.t 10))]),
 zn (.store (.loc 4) [none,none] (.t 4) (.t 11))] ⟨[4],[4],[]⟩) (
 .ret)) (
 .skip))) (
 .seq (
 zr [
 zf 12 0 3,
 zj 13 3 12,
 zf 14 2 2,
 zj 15 2 14,
 zo 16 (.bin .sub (.t 13) (.t 15)),
 zo 17 (.mm true (zc 0) (.t 16)),
 zf 18 1 2,
 zj 19 2 18,
 zf 20 0 3,
 zj 21 3 20,
 zf 22 2 2,
 zj 23 2 22,
 zo 24 (.bin .add (.t 21) (.t 23)),
 zo 25 (.mm false (.t 19) (.t 24)),
 zo 26 (.build [z0,z0] [(0,1,(.t 17)),(1,1,(.t 25))]),
 zn (.store (.loc 4) [none,none] (.t 4) (.t 26))] ⟨[4],[4],[]⟩) (
 .ret)))
def v_r20_flow_b0:VC :=
 .seq (
 zr [
 zo 14 (.bin .lss (.t 13) (.t 12))] ⟨[1,2,7,11,12,13,14],[],[]⟩) (
 .seq (
 .cond (.t 14) (
 .skip) (
 .exit 0)) (
 .seq (
 .block 1 (
 .seq (
 .region [] [9] [
 za 15 2 11 13,
 zo 16 (.load .imm (some 2) (.t 15)),
 zo 9 (.obj 9 [z0,.nils]),
 zn (.store (.loc 9) [none,some 2] (.t 9) (.t 16))] ⟨[1,2,7,9,11,12,13],[9],[]⟩) (
 .seq (
 zr [
 zf 17 0 9,
 zj 18 9 17,
 zm 19 2,
 zo 20 (.bin .leq (.t 18) (.t 19))] ⟨[1,2,7,9,11,12,13,20],[9],[]⟩) (
 .cond (.t 20) (
 zr [
 zf 22 1 9,
 zj 23 9 22,
 zm 24 1,
 zo 25 (.call true (.c (.fn 38 [])) [([some 2],(.t 23)),([none],(.t 24))] []),
 zm 21 25,
 ze 26 21 0,
 ze 27 21 1,
 zm 7 26] ⟨[1,2,7,11,12,13],[],[]⟩) (
 .skip))))) (
 zr [
 zo 28 (.bin .add (.t 13) (zc 1)),
 zm 13 28] ⟨[1,2,7,11,12,13],[],[]⟩)))
def v_r20_flow_l0:VC:=.loop [] ⟨[1,2,7,11,12,13],[],[]⟩ v_r20_flow_b0
abbrev v_r20_flow_s0 (x1:Int) (x2:Int) (x7:Int) (x11:V) (x12:Int) (x13:Int) (G:List GObj):St:=⟨[(1,.int .i64 x1),(2,.int .i64 x2),(7,.int .i64 x7),(11,x11),(12,.int .i64 x12),(13,.int .i64 x13)],[],[],G⟩
def v_r20_flow:VFunc where
 nparams:=3
 results:=[.t 6 [none]]
 body :=
 .seq (
 .region [] [3] [
 zo 3 (.box 3 (.t 0)),
 zo 6 (.mv (zc 0))] ⟨[1,2,3],[3],[]⟩) (
 .seq (
 zr [
 zo 7 (.mv (zc 0))] ⟨[1,2,3,7],[3],[]⟩) (
 .seq (
 .seq (
 zr [
 zf 10 0 3,
 zj 11 3 10,
 zl 12 11,
 zo 13 (.mv (zc 0))] ⟨[1,2,7,11,12,13],[],[]⟩) (
 .block 0 (
 v_r20_flow_l0))) (
 .seq (
 zr [
 zm 29 7,
 zm 6 29] ⟨[6],[],[]⟩) (
 .ret))))
def v_unit_fits:VFunc where
 nparams:=2
 results:=[.t 4 [none]]
 body :=
 .seq (
 .region [] [2,3] [
 zo 2 (.box 2 (.t 0)),
 zo 3 (.box 3 (.t 1)),
 zo 4 (.mv (.c (.bool false)))] ⟨[2,3],[2,3],[]⟩) (
 .seq (
 zr [
 zf 5 1 3,
 zj 6 3 5,
 zo 7 (.call true (.c (.fn 41 [])) [([none],(.t 6)),([none],(zc 1000))] []),
 zm 8 7,
 zq 9 8 true (.faddr 0 (.t 3)),
 zq 10 8 true (.load (.loc 3) none (.t 9)),
 zq 11 8 true (.bin .eql (.t 10) (zc 0)),
 zq 12 8 true (.mv (.t 11)),
 zq 13 12 false (.faddr 2 (.t 3)),
 zq 14 12 false (.load (.loc 3) none (.t 13)),
 zq 15 12 false (.un .not (.t 14)),
 zq 16 12 false (.mv (.t 15)),
 zq 17 16 true (.load (.loc 2) (some 6) (.t 2)),
 zq 18 16 true (.faddr 0 (.t 3)),
 zq 19 16 true (.load (.loc 3) none (.t 18)),
 zq 20 16 true (.call true (.c (.fn 121 [])) [([some 2,none,none,some 2,none,none],(.t 17)),([none],(.t 19))] []),
 zq 21 12 false (.pick (.t 16) (.t 20) (.c (.bool false))),
 zq 22 8 true (.pick (.t 12) (.c (.bool true)) (.t 21)),
 zo 23 (.pick (.t 8) (.t 22) (.c (.bool false))),
 zm 4 23] ⟨[4],[],[]⟩) (
 .ret))
def v_r19_Better:VFunc where
 nparams:=4
 results:=[.t 8 [none]]
 body :=
 .seq (
 .region [] [4,5] [
 zo 4 (.box 4 (.t 0)),
 zo 5 (.box 5 (.t 1)),
 zo 8 (.mv (.c (.bool false)))] ⟨[2,3,4,5],[4,5],[]⟩) (
 .seq (
 .seq (
 zr [
 zo 9 (.iaddr (some 2) 1 (.t 4) (zc 0)),
 zj 10 4 9,
 zo 11 (.iaddr (some 2) 1 (.t 5) (zc 0)),
 zj 12 5 11,
 zo 13 (.bin .neq (.t 10) (.t 12))] ⟨[2,3,4,5,13],[4,5],[]⟩) (
 .cond (.t 13) (
 .seq (
 zr [
 zo 14 (.iaddr (some 2) 1 (.t 4) (zc 0)),
 zj 15 4 14,
 zo 16 (.iaddr (some 2) 1 (.t 5) (zc 0)),
 zj 17 5 16,
 zo 18 (.bin .gtr (.t 15) (.t 17)),
 zm 8 18] ⟨[8],[],[]⟩) (
 .ret)) (
 .skip))) (
 .seq (
 .seq (
 zr [
 zo 19 (.iaddr (some 2) 1 (.t 4) (zc 1)),
 zj 20 4 19,
 zo 21 (.iaddr (some 2) 1 (.t 5) (zc 1)),
 zj 22 5 21,
 zo 23 (.bin .neq (.t 20) (.t 22))] ⟨[2,3,4,5,23],[4,5],[]⟩) (
 .cond (.t 23) (
 .seq (
 zr [
 zo 24 (.iaddr (some 2) 1 (.t 4) (zc 1)),
 zj 25 4 24,
 zo 26 (.iaddr (some 2) 1 (.t 5) (zc 1)),
 zj 27 5 26,
 zo 28 (.bin .lss (.t 25) (.t 27)),
 zm 8 28] ⟨[8],[],[]⟩) (
 .ret)) (
 .skip))) (
 .seq (
 zr [
 zm 29 2,
 zm 30 3,
 zo 31 (.call true (.c (.fn 126 [])) [([some 1],(.t 29)),([some 1],(.t 30))] []),
 zm 8 31] ⟨[8],[],[]⟩) (
 .ret))))
def v_r18_Power:VFunc where
 nparams:=2
 results:=[.t 4 [none],.t 5 [none]]
 body :=
 .seq (
 .region [] [2] [
 zo 2 (.box 2 (.t 0)),
 zo 4 (.mv (zc 0)),
 zo 5 (.mv (zc 0))] ⟨[1,2],[2],[]⟩) (
 .seq (
 .seq (
 zr [
 zs 9 2 6 2,
 zo 10 (.call true (.c (.fn 50 [])) [([some 2,none,none,some 2,none,none],(.t 9))] []),
 zm 6 10] ⟨[1,2,6],[2],[]⟩) (
 .seq (
 zr [
 zm 11 6,
 zo 12 (.bin .neq (.t 11) (zc 0))] ⟨[1,2,6,12],[2],[]⟩) (
 .cond (.t 12) (
 .seq (
 zr [
 zm 13 6,
 zo 4 (.mv (zc 0)),
 zm 5 13] ⟨[4,5],[],[]⟩) (
 .ret)) (
 .skip)))) (
 .seq (
 .seq (
 zr [
 zm 14 1,
 zo 15 (.bin .eql (.t 14) (zc 0))] ⟨[1,2,15],[2],[]⟩) (
 .cond (.t 15) (
 .seq (
 zr [
 zo 4 (.mv (zc 0)),
 zo 5 (.mv (zc 0))] ⟨[4,5],[],[]⟩) (
 .ret)) (
 .skip))) (
 .seq (
 .seq (
 zr [
 zs 16 2 6 2,
 zm 17 1,
 zo 18 (.call true (.c (.fn 78 [])) [([some 2,none,none,some 2,none,none],(.t 16)),([none],(.t 17))] []),
 zo 19 (.un .not (.t 18))] ⟨[1,2,19],[2],[]⟩) (
 .cond (.t 19) (
 .seq (
 zr [
 zo 4 (.mv (zc 0)),
 zo 5 (.mv (zc 1))] ⟨[4,5],[],[]⟩) (
 .ret)) (
 .skip))) (
 .seq (
 zr [
 zf 21 0 2,
 zj 22 2 21,
 zm 23 1,
 zo 24 (.call true (.c (.fn 38 [])) [([some 2],(.t 22)),([none],(.t 23))] []),
 zm 20 24,
 ze 25 20 0,
 ze 26 20 1,
 zm 7 25,
 zm 8 26] ⟨[7],[],[]⟩) (
 .seq (
 zr [
 zm 27 7,
 zm 4 27,
 zo 5 (.mv (zc 0))] ⟨[4,5],[],[]⟩) (
 .ret))))))
def v_r18_May:VFunc where
 nparams:=3
 results:=[.t 6 [none]]
 body :=
 .seq (
 .region [] [3,4] [
 zo 3 (.box 3 (.t 0)),
 zo 4 (.box 4 (.t 1)),
 zo 6 (.mv (.c (.bool false)))] ⟨[2,3,4],[3,4],[]⟩) (
 .seq (
 .seq (
 zr [
 zs 7 3 6 3,
 zs 8 4 3 4,
 zo 9 (.call true (.c (.fn 44 [])) [([some 2,none,none,some 2,none,none],(.t 7)),([none,none,none],(.t 8))] []),
 zo 10 (.un .not (.t 9)),
 zm 11 10,
 zq 12 11 false (.mv (.t 2)),
 zq 13 11 false (.bin .neq (.t 12) (zc 0)),
 zq 14 11 false (.mv (.t 13)),
 zq 15 14 true (.faddr 2 (.t 4)),
 zq 16 14 true (.load (.loc 4) none (.t 15)),
 zq 17 14 true (.mv (.t 16)),
 zq 18 17 false (.load (.loc 3) (some 6) (.t 3)),
 zq 19 17 false (.mv (.t 2)),
 zq 20 17 false (.call true (.c (.fn 78 [])) [([some 2,none,none,some 2,none,none],(.t 18)),([none],(.t 19))] []),
 zq 21 17 false (.un .not (.t 20)),
 zq 22 14 true (.pick (.t 17) (.c (.bool true)) (.t 21)),
 zq 23 11 false (.pick (.t 14) (.t 22) (.c (.bool false))),
 zo 24 (.pick (.t 11) (.c (.bool true)) (.t 23))] ⟨[2,3,4,24],[3,4],[]⟩) (
 .cond (.t 24) (
 .seq (
 zr [
 zo 6 (.mv (.c (.bool false)))] ⟨[6],[],[]⟩) (
 .ret)) (
 .skip))) (
 .seq (
 .seq (
 zr [
 zf 25 0 4,
 zj 26 4 25,
 zo 27 (.bin .gtr (.t 26) (zc 0)),
 zm 28 27,
 zq 29 28 true (.mv (.t 2)),
 zq 30 28 true (.bin .eql (.t 29) (zc 0)),
 zo 31 (.pick (.t 28) (.t 30) (.c (.bool false)))] ⟨[2,3,4,31],[3,4],[]⟩) (
 .cond (.t 31) (
 .seq (
 zr [
 zf 32 1 4,
 zj 33 4 32,
 zf 34 4 3,
 zj 35 3 34,
 zo 36 (.bin .geq (.t 33) (.t 35)),
 zm 6 36] ⟨[6],[],[]⟩) (
 .ret)) (
 .skip))) (
 .seq (
 .seq (
 zr [
 zf 37 0 4,
 zj 38 4 37,
 zo 39 (.bin .eql (.t 38) (zc 0)),
 zm 40 39,
 zq 41 40 true (.mv (.t 2)),
 zq 42 40 true (.bin .gtr (.t 41) (zc 0)),
 zo 43 (.pick (.t 40) (.t 42) (.c (.bool false)))] ⟨[3,4,43],[3,4],[]⟩) (
 .cond (.t 43) (
 .seq (
 zr [
 zf 44 1 4,
 zj 45 4 44,
 zf 46 5 3,
 zj 47 3 46,
 zo 48 (.bin .geq (.t 45) (.t 47)),
 zm 6 48] ⟨[6],[],[]⟩) (
 .ret)) (
 .skip))) (
 .seq (
 zr [
 zo 6 (.mv (.c (.bool true)))] ⟨[6],[],[]⟩) (
 .ret)))))
def v_gate_view_enough:VFunc where
 nparams:=2
 results:=[.t 4 [none]]
 body :=
 .seq (
 .region [] [2] [
 zo 2 (.box 2 (.t 0)),
 zo 4 (.mv (.c (.bool false)))] ⟨[1,2],[2],[]⟩) (
 .seq (
 zr [
 zs 5 2 2 2,
 zm 6 1,
 zo 7 (.call true (.c (.fn 87 [])) [([some 2,none],(.t 5)),([none],(.t 6))] []),
 zf 8 1 2,
 zj 9 2 8,
 zo 10 (.bin .geq (.t 7) (.t 9)),
 zm 4 10] ⟨[4],[],[]⟩) (
 .ret))
def v_gate_least:VFunc where
 nparams:=2
 results:=[.t 4 [none]]
 body :=
 .seq (
 zr [
 zo 2 (.gbox [none,none] (.t 0)),
 zo 3 (.gbox [none] (.t 1)),
 zo 4 (.mv (zc 0))] ⟨[2,3],[],[]⟩) (
 .seq (
 zr [
 zf 5 0 2,
 zg 6 5,
 zf 7 1 2,
 zg 8 7,
 zf 9 0 2,
 zg 10 9,
 zo 11 (.bin .sub (.t 8) (.t 10)),
 zo 12 (.bin .add (.t 11) (zc 1)),
 zo 13 (.mkfn 128 [(.t 3),(.t 2)]),
 zo 14 (.rcall (.c (.fn 127 [])) [([none],(.t 12)),([none],(.t 13))]),
 zo 15 (.bin .add (.t 6) (.t 14)),
 zf 16 1 2,
 zg 17 16,
 zo 18 (.mm false (.t 15) (.t 17)),
 zm 4 18] ⟨[4],[],[]⟩) (
 .ret))
def v_gate_Set_1:VFunc where
 nparams:=3
 results:=[.t 4 [none]]
 body :=
 .seq (
 zr [
 zo 4 (.mv (.c (.bool false)))] ⟨[0,1,2],[],[]⟩) (
 .seq (
 zr [
 zg 5 1,
 zo 6 (.load .glob (some 2) (.t 2)),
 zm 7 0,
 zo 8 (.call false (.t 5) [([some 2,none],(.t 6)),([none],(.t 7))] []),
 zm 4 8] ⟨[4],[],[]⟩) (
 .ret))
def v_dispatch_Best_1_b0:VC :=
 .seq (
 zr [
 zo 36 (.bin .lss (.t 35) (.t 34))] ⟨[0,1,3,4,7,10,33,34,35,36],[7,10],[]⟩) (
 .seq (
 .cond (.t 36) (
 .skip) (
 .exit 0)) (
 .seq (
 .block 1 (
 .seq (
 .region [] [12] [
 za 37 3 33 35,
 zo 38 (.load .imm (some 3) (.t 37)),
 zo 12 (.obj 12 [z0,z0,z0]),
 zn (.store (.loc 12) [none,none,none] (.t 12) (.t 38))] ⟨[0,1,3,4,7,10,12,33,34,35],[7,10,12],[]⟩) (
 .seq (
 .seq (
 zr [
 zf 39 0 12,
 zj 40 12 39,
 zm 41 1,
 zo 42 (.bin .gtr (.t 40) (.t 41))] ⟨[0,1,3,4,7,10,12,33,34,35,42],[7,10,12],[]⟩) (
 .cond (.t 42) (
 .exit 0) (
 .skip))) (
 .seq (
 .region [] [13] [
 zg 43 4,
 zm 44 0,
 zo 45 (.bin .add (.t 44) (zc 1)),
 zm 46 1,
 zf 47 0 12,
 zj 48 12 47,
 zo 49 (.bin .sub (.t 46) (.t 48)),
 zo 50 (.call false (.t 43) [([none],(.t 45)),([none],(.t 49))] []),
 zo 13 (.obj 13 [.bool false,z0,z0,z0]),
 zn (.store (.loc 13) [none,none,none,none] (.t 13) (.t 50))] ⟨[0,1,3,4,7,10,12,13,33,34,35],[7,10,12,13],[]⟩) (
 .seq (
 .region [] [14] [
 zf 51 1 13,
 zo 52 (.iaddr (some 2) 1 (.t 51) (zc 0)),
 zj 53 13 52,
 zf 54 1 12,
 zj 55 12 54,
 zo 56 (.bin .add (.t 53) (.t 55)),
 zf 57 1 13,
 zo 58 (.iaddr (some 2) 1 (.t 57) (zc 1)),
 zj 59 13 58,
 zf 60 2 12,
 zj 61 12 60,
 zo 62 (.bin .add (.t 59) (.t 61)),
 zo 63 (.build [z0,z0] [(0,1,(.t 56)),(1,1,(.t 62))]),
 zo 14 (.obj 14 [z0,z0]),
 zn (.store (.loc 14) [none,none] (.t 14) (.t 63))] ⟨[0,1,3,4,7,10,12,13,14,33,34,35],[7,10,12,13,14],[]⟩) (
 .seq (
 zr [
 zf 64 0 13,
 zj 65 13 64,
 zm 66 65,
 zq 67 66 true (.faddr 0 (.t 10)),
 zq 68 66 true (.load (.loc 10) none (.t 67)),
 zq 69 66 true (.un .not (.t 68)),
 zq 70 66 true (.mv (.t 69)),
 zq 71 70 false (.load (.loc 14) (some 2) (.t 14)),
 zq 72 70 false (.faddr 1 (.t 10)),
 zq 73 70 false (.load (.loc 10) (some 2) (.t 72)),
 zq 74 70 false (.call true (.c (.fn 119 [])) [([none,none],(.t 71)),([none,none],(.t 73)),([some 1],(.c (.nils))),([some 1],(.c (.nils)))] []),
 zq 75 66 true (.pick (.t 70) (.c (.bool true)) (.t 74)),
 zo 76 (.pick (.t 66) (.t 75) (.c (.bool false)))] ⟨[0,1,3,4,7,10,12,14,33,34,35,76],[7,10,12,14],[]⟩) (
 .cond (.t 76) (
 zr [
 zs 77 14 2 14,
 zf 78 0 12,
 zj 79 12 78,
 zo 80 (.build [.bool false,z0,z0,z0] [(0,1,(.c (.bool true))),(1,2,(.t 77)),(3,1,(.t 79))]),
 zn (.store (.loc 10) [none,none,none,none] (.t 10) (.t 80))] ⟨[0,1,3,4,7,10,33,34,35],[7,10],[]⟩) (
 .skip)))))))) (
 zr [
 zo 81 (.bin .add (.t 35) (zc 1)),
 zm 35 81] ⟨[0,1,3,4,7,10,33,34,35],[7,10],[]⟩)))
def v_dispatch_Best_1_l0:VC:=.loop [] ⟨[0,1,3,4,7,10,33,34,35],[7,10],[]⟩ v_dispatch_Best_1_b0
abbrev v_dispatch_Best_1_s0 (x0:Int) (x1:Int) (x3:V) (x4:V) (x33:V) (x34:Int) (x35:Int) (o7:List V) (o10:List V) (G:List GObj):St:=⟨[(0,.int .i64 x0),(1,.int .i64 x1),(3,x3),(4,x4),(7,.lptr 7 0),(10,.lptr 10 0),(33,x33),(34,.int .i64 x34),(35,.int .i64 x35)],[(7,o7),(10,o10)],[],G⟩
def v_dispatch_Best_1:VFunc where
 nparams:=5
 results:=[.c 7 true [none,none,none,none]]
 body :=
 .seq (
 .region [] [7] [
 zo 7 (.obj 7 [.bool false,z0,z0,z0])] ⟨[0,1,2,3,4,7],[7],[]⟩) (
 .seq (
 .seq (
 zr [
 zm 15 0,
 zg 16 2,
 zl 17 16,
 zo 18 (.bin .eql (.t 15) (.t 17))] ⟨[0,1,2,3,4,7,18],[7],[]⟩) (
 .cond (.t 18) (
 .seq (
 zr [
 zo 19 (.build [.bool false,z0,z0,z0] [(0,1,(.c (.bool true)))]),
 zn (.store (.loc 7) [none,none,none,none] (.t 7) (.t 19))] ⟨[7],[7],[]⟩) (
 .ret)) (
 .skip))) (
 .seq (
 .seq (
 .region [] [8] [
 zg 21 3,
 zm 22 0,
 zm 23 1,
 zo 24 (.build [z0,z0] [(0,1,(.t 22)),(1,1,(.t 23))]),
 zo 25 (.mapget true [0,0] (.agg [.bool false,z0,z0,z0]) true (.t 21) (.t 24)),
 zm 20 25,
 ze 26 20 0,
 ze 27 20 1,
 zo 8 (.obj 8 [.bool false,z0,z0,z0]),
 zn (.store (.loc 8) [none,none,none,none] (.t 8) (.t 26)),
 zm 9 27] ⟨[0,1,2,3,4,7,8,9],[7,8],[]⟩) (
 .seq (
 zr [
 zm 28 9] ⟨[0,1,2,3,4,7,8,28],[7,8],[]⟩) (
 .cond (.t 28) (
 .seq (
 zr [
 zs 29 8 4 8,
 zn (.store (.loc 7) [none,none,none,none] (.t 7) (.t 29))] ⟨[7],[7],[]⟩) (
 .ret)) (
 .skip)))) (
 .seq (
 .region [] [10] [
 zo 10 (.obj 10 [.bool false,z0,z0,z0])] ⟨[0,1,2,3,4,7,10],[7,10],[]⟩) (
 .seq (
 .seq (
 zr [
 zg 30 2,
 zm 31 0,
 za 32 1 30 31,
 zi 33 32,
 zl 34 33,
 zo 35 (.mv (zc 0))] ⟨[0,1,3,4,7,10,33,34,35],[7,10],[]⟩) (
 .block 0 (
 v_dispatch_Best_1_l0))) (
 .seq (
 zr [
 zg 82 3,
 zm 83 0,
 zm 84 1,
 zo 85 (.build [z0,z0] [(0,1,(.t 83)),(1,1,(.t 84))]),
 zs 86 10 4 10,
 zn (.mapset true [0,0] [none,none,none,none] (.t 82) (.t 85) (.t 86))] ⟨[7,10],[7,10],[]⟩) (
 .seq (
 zr [
 zs 87 10 4 10,
 zn (.store (.loc 7) [none,none,none,none] (.t 7) (.t 87))] ⟨[7],[7],[]⟩) (
 .ret)))))))
def v_dispatch_Better:VFunc where
 nparams:=4
 results:=[.t 8 [none]]
 body :=
 .seq (
 .region [] [4,5] [
 zo 4 (.box 4 (.t 0)),
 zo 5 (.box 5 (.t 1)),
 zo 8 (.mv (.c (.bool false)))] ⟨[2,3,4,5],[4,5],[]⟩) (
 .seq (
 .block 0 (
 .seq (
 zr [
 zo 10 (.iaddr (some 2) 1 (.t 4) (zc 0)),
 zj 11 4 10,
 zo 12 (.iaddr (some 2) 1 (.t 5) (zc 0)),
 zj 13 5 12,
 zo 14 (.bin .neq (.t 11) (.t 13)),
 zm 9 14] ⟨[2,3,4,5,9],[4,5],[]⟩) (
 .cond (.t 9) (
 .seq (
 zr [
 zo 15 (.iaddr (some 2) 1 (.t 4) (zc 0)),
 zj 16 4 15,
 zo 17 (.iaddr (some 2) 1 (.t 5) (zc 0)),
 zj 18 5 17,
 zo 19 (.bin .gtr (.t 16) (.t 18)),
 zm 8 19] ⟨[8],[],[]⟩) (
 .ret)) (
 .seq (
 zr [
 zo 21 (.iaddr (some 2) 1 (.t 4) (zc 1)),
 zj 22 4 21,
 zo 23 (.iaddr (some 2) 1 (.t 5) (zc 1)),
 zj 24 5 23,
 zo 25 (.bin .neq (.t 22) (.t 24)),
 zm 20 25] ⟨[2,3,4,5,20],[4,5],[]⟩) (
 .cond (.t 20) (
 .seq (
 zr [
 zo 26 (.iaddr (some 2) 1 (.t 4) (zc 1)),
 zj 27 4 26,
 zo 28 (.iaddr (some 2) 1 (.t 5) (zc 1)),
 zj 29 5 28,
 zo 30 (.bin .lss (.t 27) (.t 29)),
 zm 8 30] ⟨[8],[],[]⟩) (
 .ret)) (
 .skip)))))) (
 .seq (
 zr [
 zm 31 2,
 zm 32 3,
 zo 33 (.call true (.c (.fn 129 [])) [([some 1],(.t 31)),([some 1],(.t 32))] []),
 zo 34 (.bin .lss (.t 33) (zc 0)),
 zm 8 34] ⟨[8],[],[]⟩) (
 .ret)))
def v_unit_may:VFunc where
 nparams:=3
 results:=[.t 6 [none]]
 body :=
 .seq (
 .region [] [3,4] [
 zo 3 (.box 3 (.t 0)),
 zo 4 (.box 4 (.t 1)),
 zo 6 (.mv (.c (.bool false)))] ⟨[2,3,4],[3,4],[]⟩) (
 .seq (
 .block 0 (
 .seq (
 zr [
 zm 8 2,
 zo 9 (.bin .eql (.t 8) (zc 0)),
 zm 10 9,
 zq 11 10 true (.faddr 0 (.t 4)),
 zq 12 10 true (.load (.loc 4) none (.t 11)),
 zq 13 10 true (.bin .gtr (.t 12) (zc 0)),
 zo 14 (.pick (.t 10) (.t 13) (.c (.bool false))),
 zm 7 14] ⟨[2,3,4,7],[3,4],[]⟩) (
 .cond (.t 7) (
 .seq (
 zr [
 zf 15 1 4,
 zj 16 4 15,
 zf 17 4 3,
 zj 18 3 17,
 zo 19 (.bin .geq (.t 16) (.t 18)),
 zm 6 19] ⟨[6],[],[]⟩) (
 .ret)) (
 .seq (
 zr [
 zm 21 2,
 zo 22 (.bin .eql (.t 21) (zc 0)),
 zm 20 22] ⟨[2,3,4,20],[3,4],[]⟩) (
 .cond (.t 20) (
 .seq (
 zr [
 zo 6 (.mv (.c (.bool true)))] ⟨[6],[],[]⟩) (
 .ret)) (
 .seq (
 zr [
 zf 24 2 4,
 zj 25 4 24,
 zm 26 25,
 zq 27 26 false (.faddr 0 (.t 4)),
 zq 28 26 false (.load (.loc 4) none (.t 27)),
 zq 29 26 false (.bin .eql (.t 28) (zc 0)),
 zq 30 26 false (.mv (.t 29)),
 zq 31 30 true (.faddr 1 (.t 4)),
 zq 32 30 true (.load (.loc 4) none (.t 31)),
 zq 33 30 true (.faddr 5 (.t 3)),
 zq 34 30 true (.load (.loc 3) none (.t 33)),
 zq 35 30 true (.bin .lss (.t 32) (.t 34)),
 zq 36 26 false (.pick (.t 30) (.t 35) (.c (.bool false))),
 zo 37 (.pick (.t 26) (.c (.bool true)) (.t 36)),
 zm 23 37] ⟨[2,3,23],[3],[]⟩) (
 .cond (.t 23) (
 .seq (
 zr [
 zo 6 (.mv (.c (.bool false)))] ⟨[6],[],[]⟩) (
 .ret)) (
 .skip)))))))) (
 .seq (
 zr [
 zs 38 3 6 3,
 zm 39 2,
 zo 40 (.call true (.c (.fn 121 [])) [([some 2,none,none,some 2,none,none],(.t 38)),([none],(.t 39))] []),
 zm 6 40] ⟨[6],[],[]⟩) (
 .ret)))
def v_unit_runs:VFunc where
 nparams:=2
 results:=[.t 4 [none]]
 body :=
 .seq (
 .region [] [2] [
 zo 2 (.box 2 (.t 0)),
 zo 4 (.mv (.c (.bool false)))] ⟨[1,2],[2],[]⟩) (
 .seq (
 zr [
 zm 5 1,
 zf 6 1 2,
 zj 7 2 6,
 zo 8 (.bin .geq (.t 5) (.t 7)),
 zm 9 8,
 zq 10 9 true (.mv (.t 1)),
 zq 11 9 true (.faddr 2 (.t 2)),
 zq 12 9 true (.load (.loc 2) none (.t 11)),
 zq 13 9 true (.bin .leq (.t 10) (.t 12)),
 zo 14 (.pick (.t 9) (.t 13) (.c (.bool false))),
 zm 15 14,
 zq 16 15 true (.load (.loc 2) (some 6) (.t 2)),
 zq 17 15 true (.mv (.t 1)),
 zq 18 15 true (.call true (.c (.fn 130 [])) [([some 2,none,none,some 2,none,none],(.t 16)),([none],(.t 17))] []),
 zq 19 15 true (.mv (.t 1)),
 zq 20 15 true (.bin .eql (.t 18) (.t 19)),
 zo 21 (.pick (.t 15) (.t 20) (.c (.bool false))),
 zm 4 21] ⟨[4],[],[]⟩) (
 .ret))
def v_unit_Flows_b0:VC :=
 .block 1 (
 .seq (
 zr [
 zm 23 8,
 zm 24 1,
 zo 25 (.bin .add (.t 23) (.t 24)),
 zo 26 (.bin .sub (.t 25) (zc 1)),
 zm 27 1,
 zo 28 (.bin .quo (.t 26) (.t 27)),
 zm 29 1,
 zo 30 (.bin .mul (.t 28) (.t 29)),
 zm 8 30] ⟨[1,2,7,8],[2],[1049]⟩) (
 .seq (
 .seq (
 zr [
 zm 31 8,
 zf 32 2 2,
 zj 33 2 32,
 zo 34 (.bin .gtr (.t 31) (.t 33))] ⟨[1,2,7,8,34],[2],[1049]⟩) (
 .cond (.t 34) (
 .seq (
 zr [
 zm 35 7,
 zm 4 35,
 zo 5 (.mv (zc 0))] ⟨[4,5],[],[1049]⟩) (
 .ret)) (
 .skip))) (
 .seq (
 .seq (
 zr [
 zs 36 2 6 2,
 zm 37 8,
 zo 38 (.call true (.c (.fn 130 [])) [([some 2,none,none,some 2,none,none],(.t 36)),([none],(.t 37))] []),
 zm 9 38] ⟨[1,2,7,8,9],[2],[1049]⟩) (
 .seq (
 zr [
 zm 39 9,
 zm 40 8,
 zo 41 (.bin .neq (.t 39) (.t 40))] ⟨[1,2,7,8,9,41],[2],[1049]⟩) (
 .cond (.t 41) (
 .seq (
 zr [
 zm 42 9,
 zm 8 42] ⟨[1,2,7,8],[2],[1049]⟩) (
 .exit 1)) (
 .skip)))) (
 .seq (
 .seq (
 zr [
 zm 43 7,
 zl 44 43,
 zo 45 (.bin .eql (.t 44) (zc 200))] ⟨[1,2,7,8,45],[2],[1049]⟩) (
 .cond (.t 45) (
 .seq (
 zr [
 zo 4 (.mv (.c (.nils))),
 zo 5 (.mv (zc 10))] ⟨[4,5],[],[1049]⟩) (
 .ret)) (
 .skip))) (
 .seq (
 .region [.norm 7 1049 1] [5049] [
 zm 46 7,
 zm 47 8,
 zo 48 (.lit none [none] [z0] 1 [(0,(.t 47))]),
 zo 49 (.app 5049 (some 1049) [none] 17592186044416 (.t 46) (.t 48)),
 zm 7 49] ⟨[1,2,7,8],[2],[1049]⟩) (
 zr [
 zm 50 8,
 zo 51 (.bin .add (.t 50) (zc 1)),
 zm 8 51] ⟨[1,2,7,8],[2],[1049]⟩))))))
def v_unit_Flows_l0:VC:=.loop [.norm 7 1049 1] ⟨[1,2,7,8],[2],[1049]⟩ v_unit_Flows_b0
abbrev v_unit_Flows_s0 (x1:Int) (x7:V) (x8:Int) (o2:List V) (k1049:Nat) (G:List GObj):St:=⟨[(1,.int .i64 x1),(2,.lptr 2 0),(7,x7),(8,.int .i64 x8)],[(2,o2)],[(1049,k1049)],G⟩
def v_unit_Flows:VFunc where
 nparams:=2
 results:=[.t 4 [some 1],.t 5 [none]]
 body :=
 .seq (
 .region [] [2] [
 zo 2 (.box 2 (.t 0)),
 zo 4 (.mv (.c (.nils))),
 zo 5 (.mv (zc 0))] ⟨[1,2],[2],[]⟩) (
 .seq (
 .seq (
 zr [
 zs 10 2 6 2,
 zo 11 (.call true (.c (.fn 47 [])) [([some 2,none,none,some 2,none,none],(.t 10))] []),
 zm 6 11] ⟨[1,2,6],[2],[]⟩) (
 .seq (
 zr [
 zm 12 6,
 zo 13 (.bin .neq (.t 12) (zc 0))] ⟨[1,2,6,13],[2],[]⟩) (
 .cond (.t 13) (
 .seq (
 zr [
 zm 14 6,
 zo 4 (.mv (.c (.nils))),
 zm 5 14] ⟨[4,5],[],[1049]⟩) (
 .ret)) (
 .skip)))) (
 .seq (
 .seq (
 zr [
 zm 15 1,
 zo 16 (.bin .lss (.t 15) (zc 1)),
 zm 17 16,
 zq 18 17 false (.mv (.t 1)),
 zq 19 17 false (.bin .gtr (.t 18) (zc 1073741824)),
 zo 20 (.pick (.t 17) (.c (.bool true)) (.t 19))] ⟨[1,2,20],[2],[]⟩) (
 .cond (.t 20) (
 .seq (
 zr [
 zo 4 (.mv (.c (.nils))),
 zo 5 (.mv (zc 1))] ⟨[4,5],[],[1049]⟩) (
 .ret)) (
 .skip))) (
 .seq (
 zr [
 zo 7 (.mv (.c (.nils)))] ⟨[1,2,7],[2],[1049]⟩) (
 .seq (
 zr [
 zf 21 1 2,
 zj 22 2 21,
 zm 8 22] ⟨[1,2,7,8],[2],[1049]⟩) (
 .block 0 (
 v_unit_Flows_l0))))))
def v_unit_May:VFunc where
 nparams:=3
 results:=[.t 6 [none]]
 body :=
 .seq (
 .region [] [3,4] [
 zo 3 (.box 3 (.t 0)),
 zo 4 (.box 4 (.t 1)),
 zo 6 (.mv (.c (.bool false)))] ⟨[2,3,4],[3,4],[]⟩) (
 .seq (
 zr [
 zs 7 3 6 3,
 zs 8 4 3 4,
 zo 9 (.call true (.c (.fn 93 [])) [([some 2,none,none,some 2,none,none],(.t 7)),([none,none,none],(.t 8))] []),
 zm 10 9,
 zq 11 10 true (.load (.loc 3) (some 6) (.t 3)),
 zq 12 10 true (.load (.loc 4) (some 3) (.t 4)),
 zq 13 10 true (.mv (.t 2)),
 zq 14 10 true (.call true (.c (.fn 120 [])) [([some 2,none,none,some 2,none,none],(.t 11)),([none,none,none],(.t 12)),([none],(.t 13))] []),
 zo 15 (.pick (.t 10) (.t 14) (.c (.bool false))),
 zm 6 15] ⟨[6],[],[]⟩) (
 .ret))
def v_r19_before_b0:VC :=
 .seq (
 zr [
 zo 9 (.bin .lss (.t 8) (.t 7))] ⟨[0,1,7,8,9],[],[]⟩) (
 .seq (
 .cond (.t 9) (
 .skip) (
 .exit 0)) (
 .seq (
 .block 1 (
 .seq (
 zr [
 zm 10 8,
 zm 5 10] ⟨[0,1,5,7,8],[],[]⟩) (
 .seq (
 zr [
 zm 11 5,
 zm 12 1,
 zl 13 12,
 zo 14 (.bin .geq (.t 11) (.t 13)),
 zm 15 14,
 zq 16 15 false (.mv (.t 0)),
 zq 17 15 false (.mv (.t 5)),
 zq 18 15 false (.iaddr none 1 (.t 16) (.t 17)),
 zq 19 15 false (.load .imm none (.t 18)),
 zq 20 15 false (.mv (.t 1)),
 zq 21 15 false (.mv (.t 5)),
 zq 22 15 false (.iaddr none 1 (.t 20) (.t 21)),
 zq 23 15 false (.load .imm none (.t 22)),
 zq 24 15 false (.bin .neq (.t 19) (.t 23)),
 zo 25 (.pick (.t 15) (.c (.bool true)) (.t 24))] ⟨[0,1,5,7,8,25],[],[]⟩) (
 .cond (.t 25) (
 .seq (
 zr [
 zm 26 5,
 zm 27 1,
 zl 28 27,
 zo 29 (.bin .lss (.t 26) (.t 28)),
 zm 30 29,
 zq 31 30 true (.mv (.t 0)),
 zq 32 30 true (.mv (.t 5)),
 zq 33 30 true (.iaddr none 1 (.t 31) (.t 32)),
 zq 34 30 true (.load .imm none (.t 33)),
 zq 35 30 true (.mv (.t 1)),
 zq 36 30 true (.mv (.t 5)),
 zq 37 30 true (.iaddr none 1 (.t 35) (.t 36)),
 zq 38 30 true (.load .imm none (.t 37)),
 zq 39 30 true (.bin .lss (.t 34) (.t 38)),
 zo 40 (.pick (.t 30) (.t 39) (.c (.bool false))),
 zm 4 40] ⟨[4],[],[]⟩) (
 .ret)) (
 .skip))))) (
 zr [
 zo 41 (.bin .add (.t 8) (zc 1)),
 zm 8 41] ⟨[0,1,7,8],[],[]⟩)))
def v_r19_before_l0:VC:=.loop [] ⟨[0,1,7,8],[],[]⟩ v_r19_before_b0
abbrev v_r19_before_s0 (x0:V) (x1:V) (x7:Int) (x8:Int) (G:List GObj):St:=⟨[(0,x0),(1,x1),(7,.int .i64 x7),(8,.int .i64 x8)],[],[],G⟩
def v_r19_before:VFunc where
 nparams:=2
 results:=[.t 4 [none]]
 body :=
 .seq (
 zr [
 zo 4 (.mv (.c (.bool false)))] ⟨[0,1],[],[]⟩) (
 .seq (
 .seq (
 zr [
 zm 6 0,
 zl 7 6,
 zo 8 (.mv (zc 0))] ⟨[0,1,7,8],[],[]⟩) (
 .block 0 (
 v_r19_before_l0))) (
 .seq (
 zr [
 zm 42 0,
 zl 43 42,
 zm 44 1,
 zl 45 44,
 zo 46 (.bin .lss (.t 43) (.t 45)),
 zm 4 46] ⟨[4],[],[]⟩) (
 .ret)))
def v_sort_Search_b0:VC :=
 .seq (
 .seq (
 zr [
 zm 9 5,
 zm 10 6,
 zo 11 (.bin .lss (.t 9) (.t 10))] ⟨[1,5,6,11],[],[]⟩) (
 .cond (.t 11) (
 .skip) (
 .exit 0))) (
 .block 1 (
 .seq (
 zr [
 zm 12 5,
 zm 13 6,
 zo 14 (.bin .add (.t 12) (.t 13)),
 zo 15 (.conv .u64 (.t 14)),
 zo 16 (.bin .shr (.t 15) (.c (.int .u64 1))),
 zo 17 (.conv .i64 (.t 16)),
 zm 7 17] ⟨[1,5,6,7],[],[]⟩) (
 .seq (
 zr [
 zm 18 1,
 zm 19 7,
 zo 20 (.call false (.t 18) [([none],(.t 19))] []),
 zo 21 (.un .not (.t 20))] ⟨[1,5,6,7,21],[],[]⟩) (
 .cond (.t 21) (
 zr [
 zm 22 7,
 zo 23 (.bin .add (.t 22) (zc 1)),
 zm 5 23] ⟨[1,5,6],[],[]⟩) (
 zr [
 zm 24 7,
 zm 6 24] ⟨[1,5,6],[],[]⟩)))))
def v_sort_Search_l0:VC:=.loop [] ⟨[1,5,6],[],[]⟩ v_sort_Search_b0
abbrev v_sort_Search_s0 (x1:V) (x5:Int) (x6:Int) (G:List GObj):St:=⟨[(1,x1),(5,.int .i64 x5),(6,.int .i64 x6)],[],[],G⟩
def v_sort_Search:VFunc where
 nparams:=2
 results:=[.t 4 [none]]
 body :=
 .seq (
 zr [
 zo 4 (.mv (zc 0))] ⟨[0,1],[],[]⟩) (
 .seq (
 zr [
 zm 8 0,
 zo 5 (.mv (zc 0)),
 zm 6 8] ⟨[1,5,6],[],[]⟩) (
 .seq (
 .block 0 (
 v_sort_Search_l0)) (
 .seq (
 zr [
 zm 25 5,
 zm 4 25] ⟨[4],[],[]⟩) (
 .ret))))
def v_gate_least_1:VFunc where
 nparams:=3
 results:=[.t 4 [none]]
 body :=
 .seq (
 zr [
 zo 4 (.mv (.c (.bool false)))] ⟨[0,1,2],[],[]⟩) (
 .seq (
 zr [
 zg 5 1,
 zf 6 0 2,
 zg 7 6,
 zm 8 0,
 zo 9 (.bin .add (.t 7) (.t 8)),
 zo 10 (.call false (.t 5) [([none],(.t 9))] []),
 zm 4 10] ⟨[4],[],[]⟩) (
 .ret))
def v_slices_Compare_int_int_b0:VC :=
 .seq (
 zr [
 zo 12 (.bin .lss (.t 11) (.t 10))] ⟨[0,1,9,10,11,12],[],[]⟩) (
 .seq (
 .cond (.t 12) (
 .skip) (
 .exit 0)) (
 .seq (
 .block 1 (
 .seq (
 zr [
 zm 13 11,
 za 14 1 9 11,
 zi 15 14,
 zm 5 13,
 zm 6 15] ⟨[0,1,5,6,9,10,11],[],[]⟩) (
 .seq (
 .seq (
 zr [
 zm 16 5,
 zm 17 1,
 zl 18 17,
 zo 19 (.bin .geq (.t 16) (.t 18))] ⟨[0,1,5,6,9,10,11,19],[],[]⟩) (
 .cond (.t 19) (
 .seq (
 zr [
 zo 4 (.mv (zc 1))] ⟨[4],[],[]⟩) (
 .ret)) (
 .skip))) (
 .seq (
 zr [
 zm 20 1,
 zm 21 5,
 za 22 1 20 21,
 zi 23 22,
 zm 7 23] ⟨[0,1,6,7,9,10,11],[],[]⟩) (
 .seq (
 zr [
 zm 24 6,
 zm 25 7,
 zo 26 (.call true (.c (.fn 133 [])) [([none],(.t 24)),([none],(.t 25))] []),
 zm 8 26] ⟨[0,1,8,9,10,11],[],[]⟩) (
 .seq (
 zr [
 zm 27 8,
 zo 28 (.bin .neq (.t 27) (zc 0))] ⟨[0,1,8,9,10,11,28],[],[]⟩) (
 .cond (.t 28) (
 .seq (
 zr [
 zm 29 8,
 zm 4 29] ⟨[4],[],[]⟩) (
 .ret)) (
 .skip)))))))) (
 zr [
 zo 30 (.bin .add (.t 11) (zc 1)),
 zm 11 30] ⟨[0,1,9,10,11],[],[]⟩)))
def v_slices_Compare_int_int_l0:VC:=.loop [] ⟨[0,1,9,10,11],[],[]⟩ v_slices_Compare_int_int_b0
abbrev v_slices_Compare_int_int_s0 (x0:V) (x1:V) (x9:V) (x10:Int) (x11:Int) (G:List GObj):St:=⟨[(0,x0),(1,x1),(9,x9),(10,.int .i64 x10),(11,.int .i64 x11)],[],[],G⟩
def v_slices_Compare_int_int:VFunc where
 nparams:=2
 results:=[.t 4 [none]]
 body :=
 .seq (
 zr [
 zo 4 (.mv (zc 0))] ⟨[0,1],[],[]⟩) (
 .seq (
 .seq (
 zr [
 zm 9 0,
 zl 10 9,
 zo 11 (.mv (zc 0))] ⟨[0,1,9,10,11],[],[]⟩) (
 .block 0 (
 v_slices_Compare_int_int_l0))) (
 .seq (
 .seq (
 zr [
 zm 31 0,
 zl 32 31,
 zm 33 1,
 zl 34 33,
 zo 35 (.bin .lss (.t 32) (.t 34))] ⟨[35],[],[]⟩) (
 .cond (.t 35) (
 .seq (
 zr [
 zo 4 (.mv (zc (-1)))] ⟨[4],[],[]⟩) (
 .ret)) (
 .skip))) (
 .seq (
 zr [
 zo 4 (.mv (zc 0))] ⟨[4],[],[]⟩) (
 .ret))))
def v_unit_beyond_b0:VC :=
 .seq (
 zr [
 zo 11 (.bin .lss (.t 10) (.t 9))] ⟨[1,2,8,9,10,11],[2],[]⟩) (
 .seq (
 .cond (.t 11) (
 .skip) (
 .exit 2)) (
 .seq (
 .block 3 (
 .seq (
 .region [] [6] [
 za 12 2 8 10,
 zo 13 (.load .imm (some 2) (.t 12)),
 zo 6 (.obj 6 [z0,z0]),
 zn (.store (.loc 6) [none,none] (.t 6) (.t 13))] ⟨[1,2,6,8,9,10],[2,6],[]⟩) (
 .seq (
 zr [
 zm 14 1,
 zf 15 0 6,
 zj 16 6 15,
 zo 17 (.bin .gtr (.t 14) (.t 16)),
 zm 18 17,
 zq 19 18 true (.mv (.t 1)),
 zq 20 18 true (.faddr 1 (.t 6)),
 zq 21 18 true (.load (.loc 6) none (.t 20)),
 zq 22 18 true (.bin .lss (.t 19) (.t 21)),
 zo 23 (.pick (.t 18) (.t 22) (.c (.bool false)))] ⟨[1,2,6,8,9,10,23],[2,6],[]⟩) (
 .cond (.t 23) (
 .seq (
 zr [
 zf 24 1 6,
 zj 25 6 24,
 zm 1 25] ⟨[1,2],[2],[]⟩) (
 .exit 1)) (
 .skip))))) (
 zr [
 zo 26 (.bin .add (.t 10) (zc 1)),
 zm 10 26] ⟨[1,2,8,9,10],[2],[]⟩)))
def v_unit_beyond_l0:VC:=.loop [] ⟨[1,2,8,9,10],[2],[]⟩ v_unit_beyond_b0
abbrev v_unit_beyond_s0 (x1:Int) (x8:V) (x9:Int) (x10:Int) (o2:List V) (G:List GObj):St:=⟨[(1,.int .i64 x1),(2,.lptr 2 0),(8,x8),(9,.int .i64 x9),(10,.int .i64 x10)],[(2,o2)],[],G⟩
def v_unit_beyond_b1:VC :=
 .block 1 (
 .seq (
 .seq (
 zr [
 zf 7 3 2,
 zj 8 2 7,
 zl 9 8,
 zo 10 (.mv (zc 0))] ⟨[1,2,8,9,10],[2],[]⟩) (
 .block 2 (
 v_unit_beyond_l0))) (
 .exit 0))
def v_unit_beyond_l1:VC:=.loop [] ⟨[1,2],[2],[]⟩ v_unit_beyond_b1
abbrev v_unit_beyond_s1 (x1:Int) (o2:List V) (G:List GObj):St:=⟨[(1,.int .i64 x1),(2,.lptr 2 0)],[(2,o2)],[],G⟩
def v_unit_beyond:VFunc where
 nparams:=2
 results:=[.t 4 [none]]
 body :=
 .seq (
 .region [] [2] [
 zo 2 (.box 2 (.t 0)),
 zo 4 (.mv (zc 0))] ⟨[1,2],[2],[]⟩) (
 .seq (
 .skip) (
 .seq (
 .block 0 (
 v_unit_beyond_l1)) (
 .seq (
 zr [
 zm 27 1,
 zm 4 27] ⟨[4],[],[]⟩) (
 .ret))))
def v_cmp_Compare_int:VFunc where
 nparams:=2
 results:=[.t 4 [none]]
 body :=
 .seq (
 zr [
 zo 4 (.mv (zc 0))] ⟨[0,1],[],[]⟩) (
 .seq (
 zr [
 zm 7 0,
 zo 8 (.call true (.c (.fn 145 [])) [([none],(.t 7))] []),
 zm 5 8] ⟨[0,1,5],[],[]⟩) (
 .seq (
 zr [
 zm 9 1,
 zo 10 (.call true (.c (.fn 145 [])) [([none],(.t 9))] []),
 zm 6 10] ⟨[0,1,5,6],[],[]⟩) (
 .seq (
 .seq (
 zr [
 zm 11 5] ⟨[0,1,6,11],[],[]⟩) (
 .cond (.t 11) (
 .seq (
 .seq (
 zr [
 zm 12 6] ⟨[12],[],[]⟩) (
 .cond (.t 12) (
 .seq (
 zr [
 zo 4 (.mv (zc 0))] ⟨[4],[],[]⟩) (
 .ret)) (
 .skip))) (
 .seq (
 zr [
 zo 4 (.mv (zc (-1)))] ⟨[4],[],[]⟩) (
 .ret))) (
 .skip))) (
 .seq (
 .seq (
 zr [
 zm 13 6] ⟨[0,1,13],[],[]⟩) (
 .cond (.t 13) (
 .seq (
 zr [
 zo 4 (.mv (zc 1))] ⟨[4],[],[]⟩) (
 .ret)) (
 .skip))) (
 .seq (
 .seq (
 zr [
 zm 14 0,
 zm 15 1,
 zo 16 (.bin .lss (.t 14) (.t 15))] ⟨[0,1,16],[],[]⟩) (
 .cond (.t 16) (
 .seq (
 zr [
 zo 4 (.mv (zc (-1)))] ⟨[4],[],[]⟩) (
 .ret)) (
 .skip))) (
 .seq (
 .seq (
 zr [
 zm 17 0,
 zm 18 1,
 zo 19 (.bin .gtr (.t 17) (.t 18))] ⟨[19],[],[]⟩) (
 .cond (.t 19) (
 .seq (
 zr [
 zo 4 (.mv (zc 1))] ⟨[4],[],[]⟩) (
 .ret)) (
 .skip))) (
 .seq (
 zr [
 zo 4 (.mv (zc 0))] ⟨[4],[],[]⟩) (
 .ret))))))))
def v_cmp_isNaN_int:VFunc where
 nparams:=1
 results:=[.t 2 [none]]
 body :=
 .seq (
 zr [
 zo 2 (.mv (.c (.bool false)))] ⟨[0],[],[]⟩) (
 .seq (
 zr [
 zm 3 0,
 zm 4 0,
 zo 5 (.bin .neq (.t 3) (.t 4)),
 zm 2 5] ⟨[2],[],[]⟩) (
 .ret))
end Go.Proofs.YtfjdfnegookkcaaGreat
