/- The functions of the program, as the value machine has them, by program. -/
import Derived.Test.YtfjdfnegookkcaaGreatVmT
namespace Go.Proofs.YtfjdfnegookkcaaGreat
open Go.Vm
set_option maxRecDepth 100000
def v_w22_DamRuns_b0:VC :=
 .seq (
 zr [
 zo 78 (.bin .lss (.t 77) (.t 76))] ⟨[5,6,7,11,12,13,19,63,64,65,75,76,77,78],[5,6,7,12,13,19],[]⟩) (
 .seq (
 .cond (.t 78) (
 .skip) (
 .exit 2)) (
 .seq (
 .block 3 (
 .seq (
 .region [] [21] [
 za 79 4 75 77,
 zo 80 (.load .imm (some 4) (.t 79)),
 zo 21 (.obj 21 [z0,z0,.nils,.nils]),
 zn (.store (.loc 21) [none,none,some 3,some 2] (.t 21) (.t 80))] ⟨[5,6,7,11,12,13,19,21,63,64,65,75,76,77],[5,6,7,12,13,19,21],[]⟩) (
 .seq (
 .region [] [22] [
 zs 82 12 9 12,
 zs 83 21 4 21,
 zo 84 (.iaddr (some 3) 1 (.t 19) (zc 0)),
 zj 85 19 84,
 zo 86 (.iaddr (some 3) 1 (.t 19) (zc 1)),
 zj 87 19 86,
 zo 88 (.iaddr (some 3) 1 (.t 19) (zc 2)),
 zj 89 19 88,
 zo 90 (.call true (.c (.fn 29 [])) [([some 2,none,none,none,none,none,some 6,some 3,none],(.t 82)),([none,none,some 3,some 2],(.t 83)),([some 1],(.t 85)),([some 1],(.t 87)),([some 1],(.t 89))] []),
 zm 81 90,
 ze 91 81 0,
 ze 92 81 1,
 ze 93 81 2,
 zo 22 (.obj 22 [z0,z0,.nils,.nils]),
 zn (.store (.loc 22) [none,none,some 3,some 2] (.t 22) (.t 91)),
 zm 23 92,
 zm 24 93] ⟨[5,6,7,11,12,13,19,21,22,23,24,63,64,65,75,76,77],[5,6,7,12,13,19,21,22],[]⟩) (
 .seq (
 .region [] [25] [
 zs 95 12 9 12,
 zs 96 21 4 21,
 zo 97 (.iaddr (some 3) 1 (.t 19) (zc 0)),
 zj 98 19 97,
 zo 99 (.iaddr (some 3) 1 (.t 19) (zc 1)),
 zj 100 19 99,
 zo 101 (.iaddr (some 3) 1 (.t 19) (zc 2)),
 zj 102 19 101,
 zo 103 (.call true (.c (.fn 31 [])) [([some 2,none,none,none,none,none,some 6,some 3,none],(.t 95)),([none,none,some 3,some 2],(.t 96)),([some 1],(.t 98)),([some 1],(.t 100)),([some 1],(.t 102))] []),
 zm 94 103,
 ze 104 94 0,
 ze 105 94 1,
 ze 106 94 2,
 zo 25 (.obj 25 [z0,z0,.nils,.nils]),
 zn (.store (.loc 25) [none,none,some 3,some 2] (.t 25) (.t 104)),
 zm 26 105,
 zm 27 106] ⟨[5,6,7,11,12,13,19,22,23,24,25,26,27,63,64,65,75,76,77],[5,6,7,12,13,19,22,25],[]⟩) (
 .seq (
 zr [
 zm 107 24,
 zm 108 27,
 zo 109 (.bin .neq (.t 107) (.t 108)),
 zm 110 109,
 zq 111 110 false (.load (.loc 22) (some 4) (.t 22)),
 zq 112 110 false (.load (.loc 25) (some 4) (.t 25)),
 zq 113 110 false (.call true (.c (.fn 27 [])) [([none,none,some 3,some 2],(.t 111)),([none,none,some 3,some 2],(.t 112))] []),
 zq 114 110 false (.un .not (.t 113)),
 zo 115 (.pick (.t 110) (.c (.bool true)) (.t 114)),
 zm 116 115,
 zq 117 116 false (.mv (.t 23)),
 zq 118 116 false (.mv (.t 26)),
 zq 119 116 false (.call true (.c (.fn 30 [])) [([some 7],(.t 117)),([some 7],(.t 118))] []),
 zq 120 116 false (.un .not (.t 119)),
 zo 121 (.pick (.t 116) (.c (.bool true)) (.t 120))] ⟨[5,6,7,11,12,13,19,63,64,65,75,76,77,121],[5,6,7,12,13,19],[]⟩) (
 .cond (.t 121) (
 .seq (
 zr [
 zo 10 (.mv (.c (.bool false)))] ⟨[10],[],[]⟩) (
 .ret)) (
 .skip))))))) (
 zr [
 zo 122 (.bin .add (.t 77) (zc 1)),
 zm 77 122] ⟨[5,6,7,11,12,13,19,63,64,65,75,76,77],[5,6,7,12,13,19],[]⟩)))
def v_w22_DamRuns_l0:VC:=.loop [] ⟨[5,6,7,11,12,13,19,63,64,65,75,76,77],[5,6,7,12,13,19],[]⟩ v_w22_DamRuns_b0
abbrev v_w22_DamRuns_s0 (x11:V) (x63:V) (x64:Int) (x65:Int) (x75:V) (x76:Int) (x77:Int) (o5:List V) (o6:List V) (o7:List V) (o12:List V) (o13:List V) (o19:List V) (G:List GObj):St:=⟨[(5,.lptr 5 0),(6,.lptr 6 0),(7,.lptr 7 0),(11,x11),(12,.lptr 12 0),(13,.lptr 13 0),(19,.lptr 19 0),(63,x63),(64,.int .i64 x64),(65,.int .i64 x65),(75,x75),(76,.int .i64 x76),(77,.int .i64 x77)],[(5,o5),(6,o6),(7,o7),(12,o12),(13,o13),(19,o19)],[],G⟩
def v_w22_DamRuns_b1:VC :=
 .seq (
 zr [
 zo 66 (.bin .lss (.t 65) (.t 64))] ⟨[5,6,7,11,12,13,63,64,65,66],[5,6,7,12,13],[]⟩) (
 .seq (
 .cond (.t 66) (
 .skip) (
 .exit 0)) (
 .seq (
 .block 1 (
 .seq (
 .region [] [19] [
 za 67 3 63 65,
 zo 68 (.load .imm (some 3) (.t 67)),
 zo 19 (.obj 19 [.nils,.nils,.nils]),
 zn (.store (.loc 19) [some 1,some 1,some 1] (.t 19) (.t 68))] ⟨[5,6,7,11,12,13,19,63,64,65],[5,6,7,12,13,19],[]⟩) (
 .seq (
 zr [
 zs 69 13 4 13,
 zs 70 6 4 6,
 zm 71 11,
 zs 72 12 9 12,
 zs 73 13 4 13,
 zo 74 (.call false (.c (.fn 18 [])) [([none],(.t 71)),([some 2,none,none,none,none,none,some 6,some 3,none],(.t 72)),([none,none,some 3,some 2],(.t 73))] []),
 zo 75 (.lit none [none,none,some 3,some 2] [z0,z0,.slice none 3 [],.slice none 2 []] 3 [(0,(.t 69)),(1,(.t 70)),(2,(.t 74))]),
 zl 76 75,
 zo 77 (.mv (zc 0))] ⟨[5,6,7,11,12,13,19,63,64,65,75,76,77],[5,6,7,12,13,19],[]⟩) (
 .block 2 (
 v_w22_DamRuns_l0))))) (
 zr [
 zo 123 (.bin .add (.t 65) (zc 1)),
 zm 65 123] ⟨[5,6,7,11,12,13,63,64,65],[5,6,7,12,13],[]⟩)))
def v_w22_DamRuns_l1:VC:=.loop [] ⟨[5,6,7,11,12,13,63,64,65],[5,6,7,12,13],[]⟩ v_w22_DamRuns_b1
abbrev v_w22_DamRuns_s1 (x11:V) (x63:V) (x64:Int) (x65:Int) (o5:List V) (o6:List V) (o7:List V) (o12:List V) (o13:List V) (G:List GObj):St:=⟨[(5,.lptr 5 0),(6,.lptr 6 0),(7,.lptr 7 0),(11,x11),(12,.lptr 12 0),(13,.lptr 13 0),(63,x63),(64,.int .i64 x64),(65,.int .i64 x65)],[(5,o5),(6,o6),(7,o7),(12,o12),(13,o13)],[],G⟩
def v_w22_DamRuns:VFunc where
 nparams:=5
 results:=[.t 10 [none]]
 body :=
 .seq (
 .region [] [5,6,7] [
 zo 5 (.box 5 (.t 0)),
 zo 6 (.box 6 (.t 1)),
 zo 7 (.box 7 (.t 2)),
 zo 10 (.mv (.c (.bool false)))] ⟨[3,4,5,6,7],[5,6,7],[]⟩) (
 .seq (
 .seq (
 zr [
 zm 29 4,
 zl 30 29,
 zo 31 (.bin .gtr (.t 30) (zc 20))] ⟨[3,4,5,6,7,31],[5,6,7],[]⟩) (
 .cond (.t 31) (
 .seq (
 zr [
 zo 32 (.call true (.c (.fn 15 [])) [] []),
 zm 10 32] ⟨[10],[],[]⟩) (
 .ret)) (
 .skip))) (
 .seq (
 zr [
 zm 33 3,
 zo 34 (.call false (.c (.fn 7 [])) [([some 1],(.t 33))] []),
 zm 11 34] ⟨[4,5,6,7,11],[5,6,7],[]⟩) (
 .seq (
 .region [] [12,13] [
 zm 36 11,
 zo 37 (.call false (.c (.fn 8 [])) [([none],(.t 36))] []),
 zm 35 37,
 ze 38 35 0,
 ze 39 35 1,
 zo 12 (.obj 12 [.nils,z0,z0,z0,z0,z0,.nils,.nils,z0]),
 zo 13 (.obj 13 [z0,z0,.nils,.nils]),
 zn (.store (.loc 12) [some 2,none,none,none,none,none,some 6,some 3,none] (.t 12) (.t 38)),
 zn (.store (.loc 13) [none,none,some 3,some 2] (.t 13) (.t 39))] ⟨[4,5,6,7,11,12,13],[5,6,7,12,13],[]⟩) (
 .seq (
 zr [
 zm 40 11,
 zo 41 (.call false (.c (.fn 10 [])) [([none],(.t 40)),([none],(zc 8))] []),
 zm 14 41] ⟨[4,5,6,7,11,12,13,14],[5,6,7,12,13],[]⟩) (
 .seq (
 zr [
 zm 42 11,
 zm 43 14,
 zo 44 (.call false (.c (.fn 28 [])) [([none],(.t 42)),([none],(.t 43)),([none],(zc 60))] []),
 zm 45 11,
 zm 46 14,
 zo 47 (.call false (.c (.fn 28 [])) [([none],(.t 45)),([none],(.t 46)),([none],(zc 20))] []),
 zm 48 11,
 zm 49 14,
 zo 50 (.call false (.c (.fn 28 [])) [([none],(.t 48)),([none],(.t 49)),([none],(zc 60))] []),
 zm 15 44,
 zm 16 47,
 zm 17 50] ⟨[4,5,6,7,11,12,13,15,16,17],[5,6,7,12,13],[]⟩) (
 .seq (
 .seq (
 zr [
 zm 51 15,
 zm 52 16,
 zm 53 17,
 zo 54 (.build [.nils,.nils,.nils] [(0,1,(.t 51)),(1,1,(.t 52)),(2,1,(.t 53))]),
 zm 55 4,
 zm 56 16,
 zm 57 17,
 zo 58 (.build [.nils,.nils,.nils] [(0,1,(.t 55)),(1,1,(.t 56)),(2,1,(.t 57))]),
 zm 59 15,
 zm 60 16,
 zm 61 4,
 zo 62 (.build [.nils,.nils,.nils] [(0,1,(.t 59)),(1,1,(.t 60)),(2,1,(.t 61))]),
 zo 63 (.lit none [some 1,some 1,some 1] [.slice none 1 [],.slice none 1 [],.slice none 1 []] 3 [(0,(.t 54)),(1,(.t 58)),(2,(.t 62))]),
 zl 64 63,
 zo 65 (.mv (zc 0))] ⟨[5,6,7,11,12,13,63,64,65],[5,6,7,12,13],[]⟩) (
 .block 0 (
 v_w22_DamRuns_l1))) (
 .seq (
 .region [] [28] [
 zf 124 2 5,
 zj 125 5 124,
 zo 126 (.call true (.c (.fn 25 [])) [([none],(.t 125)),([none],(zc 274877906945))] []),
 zf 127 3 5,
 zj 128 5 127,
 zo 129 (.call true (.c (.fn 25 [])) [([none],(.t 128)),([none],(zc 274877906945))] []),
 zf 130 4 5,
 zj 131 5 130,
 zo 132 (.call true (.c (.fn 25 [])) [([none],(.t 131)),([none],(zc 274877906945))] []),
 zo 133 (.build [z0,z0,z0,z0,z0,z0,z0] [(2,1,(.t 126)),(3,1,(.t 129)),(4,1,(.t 132))]),
 zo 28 (.obj 28 [z0,z0,z0,z0,z0,z0,z0]),
 zn (.store (.loc 28) [none,none,none,none,none,none,none] (.t 28) (.t 133))] ⟨[5,6,7,28],[5,6,7,28],[]⟩) (
 .seq (
 zr [
 zs 134 28 7 28,
 zo 135 (.call true (.c (.fn 14 [])) [([none,none,none,none,none,none,none],(.t 134))] []),
 zs 136 28 7 28,
 zo 137 (.call true (.c (.fn 32 [])) [([none,none,none,none,none,none,none],(.t 136))] []),
 zo 138 (.bin .eql (.t 135) (.t 137)),
 zm 139 138,
 zq 140 139 true (.load (.loc 6) (some 4) (.t 6)),
 zq 141 139 true (.load (.loc 7) (some 4) (.t 7)),
 zq 142 139 true (.load (.loc 5) (some 7) (.t 5)),
 zq 143 139 true (.call true (.c (.fn 12 [])) [([none,none,some 3,some 2],(.t 140)),([none,none,some 3,some 2],(.t 141)),([none,none,none,none,none,none,none],(.t 142))] []),
 zq 144 139 true (.load (.loc 6) (some 4) (.t 6)),
 zq 145 139 true (.load (.loc 7) (some 4) (.t 7)),
 zq 146 139 true (.load (.loc 5) (some 7) (.t 5)),
 zq 147 139 true (.call true (.c (.fn 33 [])) [([none,none,some 3,some 2],(.t 144)),([none,none,some 3,some 2],(.t 145)),([none,none,none,none,none,none,none],(.t 146))] []),
 zq 148 139 true (.beq false (.t 143) (.t 147)),
 zo 149 (.pick (.t 139) (.t 148) (.c (.bool false))),
 zm 150 149,
 zq 151 150 true (.call true (.c (.fn 15 [])) [] []),
 zo 152 (.pick (.t 150) (.t 151) (.c (.bool false))),
 zm 10 152] ⟨[10],[],[]⟩) (
 .ret)))))))))
def v_mk_New:VFunc where
 nparams:=1
 results:=[.t 2 [none]]
 body :=
 .seq (
 zr [
 zo 2 (.mv (.c (.nilptr)))] ⟨[0],[],[]⟩) (
 .seq (
 zr [
 zm 3 0,
 zo 4 (.build [.nils,z0] [(0,1,(.t 3))]),
 zo 5 (.gbox [some 1,none] (.t 4)),
 zm 2 5] ⟨[2],[],[]⟩) (
 .ret))
def v_mk_Dam:VFunc where
 nparams:=1
 results:=[.c 2 true [some 2,none,none,none,none,none,some 6,some 3,none],.c 3 true [none,none,some 3,some 2]]
 body :=
 .seq (
 .region [] [2,3] [
 zo 2 (.obj 2 [.nils,z0,z0,z0,z0,z0,.nils,.nils,z0]),
 zo 3 (.obj 3 [z0,z0,.nils,.nils])] ⟨[0,2,3],[2,3],[]⟩) (
 .seq (
 .region [] [4] [
 zm 8 0,
 zo 9 (.call false (.c (.fn 34 [])) [([none],(.t 8))] []),
 zm 10 0,
 zo 11 (.call false (.c (.fn 10 [])) [([none],(.t 10)),([none],(zc 4))] []),
 zo 12 (.bin .add (zc 1) (.t 11)),
 zo 13 (.build [.nils,z0,z0,z0,z0,z0,.nils,.nils,z0] [(0,6,(.t 9)),(8,1,(.t 12))]),
 zo 4 (.obj 4 [.nils,z0,z0,z0,z0,z0,.nils,.nils,z0]),
 zn (.store (.loc 4) [some 2,none,none,none,none,none,some 6,some 3,none] (.t 4) (.t 13))] ⟨[0,2,3,4],[2,3,4],[]⟩) (
 .seq (
 .region [] [5] [
 zo 5 (.obj 5 [z0,z0,.nils,.nils])] ⟨[0,2,3,4,5],[2,3,4,5],[]⟩) (
 .seq (
 zr [
 zm 15 0,
 zo 16 (.call false (.c (.fn 35 [])) [([none],(.t 15)),([none],(zc 2))] []),
 zm 14 16,
 ze 17 14 0,
 ze 18 14 1,
 zf 19 6 4,
 zn (.store (.loc 4) [some 6] (.t 19) (.t 17)),
 zf 20 2 5,
 zn (.store (.loc 5) [some 3] (.t 20) (.t 18))] ⟨[0,2,3,4,5],[2,3,4,5],[]⟩) (
 .seq (
 zr [
 zm 22 0,
 zo 23 (.call false (.c (.fn 36 [])) [([none],(.t 22)),([none],(zc 2))] []),
 zm 21 23,
 ze 24 21 0,
 ze 25 21 1,
 zf 26 7 4,
 zn (.store (.loc 4) [some 3] (.t 26) (.t 24)),
 zf 27 3 5,
 zn (.store (.loc 5) [some 2] (.t 27) (.t 25))] ⟨[0,2,3,4,5],[2,3,4,5],[]⟩) (
 .seq (
 zr [
 zf 29 0 4,
 zs 30 4 6 29,
 zf 31 0 4,
 zf 32 5 31,
 zj 33 4 32,
 zo 34 (.call true (.c (.fn 9 [])) [([some 2,none,none,none,none,none],(.t 30)),([none],(.t 33))] []),
 zm 28 34,
 ze 35 28 0,
 ze 36 28 1,
 zm 6 35,
 zm 7 36] ⟨[0,2,3,4,5,6],[2,3,4,5],[]⟩) (
 .seq (
 zr [
 zm 37 0,
 zm 38 6,
 zo 39 (.bin .add (.t 38) (zc 1)),
 zo 40 (.call false (.c (.fn 10 [])) [([none],(.t 37)),([none],(.t 39))] []),
 zf 41 0 5,
 zn (.store (.loc 5) [none] (.t 41) (.t 40))] ⟨[0,2,3,4,5],[2,3,4,5],[]⟩) (
 .seq (
 zr [
 zm 42 0,
 zo 43 (.call false (.c (.fn 10 [])) [([none],(.t 42)),([none],(zc 30))] []),
 zf 44 1 5,
 zn (.store (.loc 5) [none] (.t 44) (.t 43))] ⟨[2,3,4,5],[2,3,4,5],[]⟩) (
 .seq (
 zr [
 zs 45 4 9 4,
 zs 46 5 4 5,
 zn (.store (.loc 2) [some 2,none,none,none,none,none,some 6,some 3,none] (.t 2) (.t 45)),
 zn (.store (.loc 3) [none,none,some 3,some 2] (.t 3) (.t 46))] ⟨[2,3],[2,3],[]⟩) (
 .ret)))))))))
def v_r03_Volume:VFunc where
 nparams:=2
 results:=[.t 4 [none],.t 5 [none]]
 body :=
 .seq (
 .region [] [2] [
 zo 2 (.box 2 (.t 0)),
 zo 4 (.mv (zc 0)),
 zo 5 (.mv (zc 0))] ⟨[1,2],[2],[]⟩) (
 .seq (
 .seq (
 zr [
 zs 9 2 6 2,
 zm 10 1,
 zo 11 (.call true (.c (.fn 37 [])) [([some 2,none,none,none,none,none],(.t 9)),([none],(.t 10))] []),
 zm 6 11] ⟨[1,2,6],[2],[]⟩) (
 .seq (
 zr [
 zm 12 6,
 zo 13 (.bin .neq (.t 12) (zc 0))] ⟨[1,2,6,13],[2],[]⟩) (
 .cond (.t 13) (
 .seq (
 zr [
 zm 14 6,
 zo 4 (.mv (zc 0)),
 zm 5 14] ⟨[4,5],[],[]⟩) (
 .ret)) (
 .skip)))) (
 .seq (
 zr [
 zf 16 0 2,
 zj 17 2 16,
 zm 18 1,
 zo 19 (.call true (.c (.fn 38 [])) [([some 2],(.t 17)),([none],(.t 18))] []),
 zm 15 19,
 ze 20 15 0,
 ze 21 15 1,
 zm 7 20,
 zm 8 21] ⟨[7],[],[]⟩) (
 .seq (
 zr [
 zm 22 7,
 zm 4 22,
 zo 5 (.mv (zc 0))] ⟨[4,5],[],[]⟩) (
 .ret))))
def v_mk_Deck_Next:VFunc where
 nparams:=2
 results:=[.t 4 [none]]
 body :=
 .seq (
 zr [
 zo 4 (.mv (zc 0))] ⟨[0,1],[],[]⟩) (
 .seq (
 .seq (
 zr [
 zm 6 1,
 zo 7 (.bin .lss (.t 6) (zc 1)),
 zm 8 7,
 zq 9 8 false (.mv (.t 0)),
 zq 10 8 false (.nilchk (.t 9)),
 zq 11 8 false (.faddr 1 (.t 10)),
 zq 12 8 false (.load .glob none (.t 11)),
 zq 13 8 false (.mv (.t 0)),
 zq 14 8 false (.nilchk (.t 13)),
 zq 15 8 false (.faddr 0 (.t 14)),
 zq 16 8 false (.load .glob none (.t 15)),
 zq 17 8 false (.len (.t 16)),
 zq 18 8 false (.bin .geq (.t 12) (.t 17)),
 zo 19 (.pick (.t 8) (.c (.bool true)) (.t 18))] ⟨[0,1,19],[],[]⟩) (
 .cond (.t 19) (
 .seq (
 zr [
 zo 4 (.mv (zc 0))] ⟨[4],[],[]⟩) (
 .ret)) (
 .skip))) (
 .seq (
 zr [
 zm 20 0,
 zk 21 20,
 zf 22 0 21,
 zg 23 22,
 zm 24 0,
 zk 25 24,
 zf 26 1 25,
 zg 27 26,
 za 28 1 23 27,
 zi 29 28,
 zm 5 29] ⟨[0,1,5],[],[]⟩) (
 .seq (
 zr [
 zm 30 0,
 zk 31 30,
 zf 32 1 31,
 zg 33 32,
 zo 34 (.bin .add (.t 33) (zc 1)),
 zk 35 30,
 zf 36 1 35,
 zn (.store .glob [none] (.t 36) (.t 34))] ⟨[1,5],[],[]⟩) (
 .seq (
 zr [
 zm 37 5,
 zm 38 1,
 zo 39 (.call true (.c (.fn 25 [])) [([none],(.t 37)),([none],(.t 38))] []),
 zm 4 39] ⟨[4],[],[]⟩) (
 .ret)))))
def v_dam_Step:VFunc where
 nparams:=5
 results:=[.c 10 true [none,none,some 3,some 2],.c 11 true [none,none,none,none,none,none,none],.t 12 [none]]
 body :=
 .seq (
 .region [] [5,6,10,11] [
 zo 5 (.box 5 (.t 0)),
 zo 6 (.box 6 (.t 1)),
 zo 10 (.obj 10 [z0,z0,.nils,.nils]),
 zo 11 (.obj 11 [z0,z0,z0,z0,z0,z0,z0]),
 zo 12 (.mv (zc 0))] ⟨[2,3,4,5,6,10,11],[5,6,10,11],[]⟩) (
 .seq (
 zr [
 zs 17 5 9 5,
 zs 18 6 4 6,
 zo 19 (.call true (.c (.fn 20 [])) [([some 2,none,none,none,none,none,some 6,some 3,none],(.t 17)),([none,none,some 3,some 2],(.t 18))] []),
 zm 16 19,
 ze 20 16 0,
 ze 21 16 1,
 zm 13 20,
 zm 14 21] ⟨[2,3,4,5,6,10,11,13,14],[5,6,10,11],[]⟩) (
 .seq (
 .seq (
 zr [
 zm 22 14,
 zo 23 (.bin .neq (.t 22) (zc 0))] ⟨[2,3,4,5,6,10,11,13,14,23],[5,6,10,11],[]⟩) (
 .cond (.t 23) (
 .seq (
 zr [
 zo 24 (.build [z0,z0,.nils,.nils] []),
 zo 25 (.build [z0,z0,z0,z0,z0,z0,z0] []),
 zm 26 14,
 zn (.store (.loc 10) [none,none,some 3,some 2] (.t 10) (.t 24)),
 zn (.store (.loc 11) [none,none,none,none,none,none,none] (.t 11) (.t 25)),
 zm 12 26] ⟨[10,11,12],[10,11],[]⟩) (
 .ret)) (
 .skip))) (
 .seq (
 .seq (
 zr [
 zm 27 2,
 zm 28 3,
 zm 29 4,
 zo 30 (.lit none [none] [z0] 3 [(0,(.t 27)),(1,(.t 28)),(2,(.t 29))]),
 zo 31 (.call false (.c (.fn 39 [])) [([some 1],(.t 30)),([none],(.c (.fn 40 [])))] [])] ⟨[2,3,4,5,6,10,11,13,31],[5,6,10,11],[]⟩) (
 .cond (.t 31) (
 .seq (
 zr [
 zo 32 (.build [z0,z0,.nils,.nils] []),
 zo 33 (.build [z0,z0,z0,z0,z0,z0,z0] []),
 zn (.store (.loc 10) [none,none,some 3,some 2] (.t 10) (.t 32)),
 zn (.store (.loc 11) [none,none,none,none,none,none,none] (.t 11) (.t 33)),
 zo 12 (.mv (zc 1))] ⟨[10,11,12],[10,11],[]⟩) (
 .ret)) (
 .skip))) (
 .seq (
 zr [
 zs 34 5 9 5,
 zs 35 6 4 6,
 zm 36 2,
 zm 37 3,
 zo 38 (.build [z0,z0,z0,z0,z0,z0,z0] [(0,1,(.t 36)),(1,1,(.t 37))]),
 zm 39 4,
 zm 40 13,
 zo 41 (.build [.nils,z0,z0,z0,z0,z0,.nils,.nils,z0,z0,z0,.nils,.nils,z0,z0,.nils,.nils,z0,z0,z0,z0,z0,z0,z0,z0,z0,z0] [(0,9,(.t 34)),(9,4,(.t 35)),(17,7,(.t 38)),(24,1,(.t 39)),(26,1,(.t 40))]),
 zo 42 (.gbox [some 2,none,none,none,none,none,some 6,some 3,none,none,none,some 3,some 2,none,none,some 3,some 2,none,none,none,none,none,none,none,none,none,none] (.t 41)),
 zm 15 42] ⟨[10,11,15],[10,11],[]⟩) (
 .seq (
 zr [
 zm 43 15,
 zo 44 (.call false (.c (.fn 42 [])) [([none],(.t 43))] [])] ⟨[10,11,15],[10,11],[]⟩) (
 .seq (
 zr [
 zm 45 15,
 zk 46 45,
 zf 47 13 46,
 zo 48 (.load .glob (some 4) (.t 47)),
 zm 49 15,
 zk 50 49,
 zf 51 17 50,
 zo 52 (.load .glob (some 7) (.t 51)),
 zn (.store (.loc 10) [none,none,some 3,some 2] (.t 10) (.t 48)),
 zn (.store (.loc 11) [none,none,none,none,none,none,none] (.t 11) (.t 52)),
 zo 12 (.mv (zc 0))] ⟨[10,11,12],[10,11],[]⟩) (
 .ret)))))))
def v_dam_Balance_b0:VC :=
 .seq (
 zr [
 zo 25 (.bin .lss (.t 24) (zc 7))] ⟨[3,4,5,23,24,25],[3,4,5],[]⟩) (
 .seq (
 .cond (.t 25) (
 .skip) (
 .exit 0)) (
 .seq (
 .block 1 (
 .seq (
 zr [
 zo 26 (.idx 7 1 false (.t 23) (.t 24)),
 zm 8 26] ⟨[3,4,5,8,23,24],[3,4,5],[]⟩) (
 .seq (
 zr [
 zm 27 8,
 zo 28 (.call true (.c (.fn 41 [])) [([none],(.t 27)),([none],(zc 274877906944))] []),
 zo 29 (.un .not (.t 28))] ⟨[3,4,5,23,24,29],[3,4,5],[]⟩) (
 .cond (.t 29) (
 .seq (
 zr [
 zo 6 (.mv (.c (.bool false)))] ⟨[6],[],[]⟩) (
 .ret)) (
 .skip))))) (
 zr [
 zo 30 (.bin .add (.t 24) (zc 1)),
 zm 24 30] ⟨[3,4,5,23,24],[3,4,5],[]⟩)))
def v_dam_Balance_l0:VC:=.loop [] ⟨[3,4,5,23,24],[3,4,5],[]⟩ v_dam_Balance_b0
abbrev v_dam_Balance_s0 (x23:V) (x24:Int) (o3:List V) (o4:List V) (o5:List V) (G:List GObj):St:=⟨[(3,.lptr 3 0),(4,.lptr 4 0),(5,.lptr 5 0),(23,x23),(24,.int .i64 x24)],[(3,o3),(4,o4),(5,o5)],[],G⟩
def v_dam_Balance:VFunc where
 nparams:=3
 results:=[.t 6 [none]]
 body :=
 .seq (
 .region [] [3,4,5] [
 zo 3 (.box 3 (.t 0)),
 zo 4 (.box 4 (.t 1)),
 zo 5 (.box 5 (.t 2)),
 zo 6 (.mv (.c (.bool false)))] ⟨[3,4,5],[3,4,5],[]⟩) (
 .seq (
 .seq (
 zr [
 zf 9 0 3,
 zj 10 3 9,
 zf 11 0 4,
 zj 12 4 11,
 zf 13 0 5,
 zj 14 5 13,
 zf 15 1 5,
 zj 16 5 15,
 zf 17 2 5,
 zj 18 5 17,
 zf 19 3 5,
 zj 20 5 19,
 zf 21 4 5,
 zj 22 5 21,
 zo 23 (.build [z0,z0,z0,z0,z0,z0,z0] [(0,1,(.t 10)),(1,1,(.t 12)),(2,1,(.t 14)),(3,1,(.t 16)),(4,1,(.t 18)),(5,1,(.t 20)),(6,1,(.t 22))]),
 zo 24 (.mv (zc 0))] ⟨[3,4,5,23,24],[3,4,5],[]⟩) (
 .block 0 (
 v_dam_Balance_l0))) (
 .seq (
 zr [
 zf 31 0 4,
 zj 32 4 31,
 zf 33 0 3,
 zj 34 3 33,
 zf 35 0 5,
 zj 36 5 35,
 zo 37 (.bin .add (.t 34) (.t 36)),
 zf 38 1 5,
 zj 39 5 38,
 zo 40 (.bin .sub (.t 37) (.t 39)),
 zf 41 2 5,
 zj 42 5 41,
 zo 43 (.bin .sub (.t 40) (.t 42)),
 zf 44 3 5,
 zj 45 5 44,
 zo 46 (.bin .sub (.t 43) (.t 45)),
 zf 47 4 5,
 zj 48 5 47,
 zo 49 (.bin .sub (.t 46) (.t 48)),
 zo 50 (.bin .eql (.t 32) (.t 49)),
 zm 6 50] ⟨[6],[],[]⟩) (
 .ret)))
def v_r22_Valid_b0:VC :=
 .seq (
 zr [
 zo 56 (.bin .lss (.t 55) (.t 54))] ⟨[2,3,53,54,55,56],[2,3],[]⟩) (
 .seq (
 .cond (.t 56) (
 .skip) (
 .exit 0)) (
 .seq (
 .block 1 (
 .seq (
 .region [] [8] [
 zm 57 55,
 za 58 6 53 55,
 zo 59 (.load .imm (some 6) (.t 58)),
 zo 8 (.obj 8 [.nils,z0,z0,.nils,z0,z0]),
 zm 7 57,
 zn (.store (.loc 8) [some 2,none,none,some 2,none,none] (.t 8) (.t 59))] ⟨[2,3,7,8,53,54,55],[2,3,8],[]⟩) (
 .seq (
 zr [
 zs 60 8 6 8,
 zf 61 2 3,
 zj 62 3 61,
 zm 63 7,
 za 64 3 62 63,
 zo 65 (.load .imm (some 3) (.t 64)),
 zo 66 (.call true (.c (.fn 44 [])) [([some 2,none,none,some 2,none,none],(.t 60)),([none,none,none],(.t 65))] []),
 zo 67 (.un .not (.t 66))] ⟨[2,3,53,54,55,67],[2,3],[]⟩) (
 .cond (.t 67) (
 .seq (
 zr [
 zo 4 (.mv (.c (.bool false)))] ⟨[4],[],[]⟩) (
 .ret)) (
 .skip))))) (
 zr [
 zo 68 (.bin .add (.t 55) (zc 1)),
 zm 55 68] ⟨[2,3,53,54,55],[2,3],[]⟩)))
def v_r22_Valid_l0:VC:=.loop [] ⟨[2,3,53,54,55],[2,3],[]⟩ v_r22_Valid_b0
abbrev v_r22_Valid_s0 (x53:V) (x54:Int) (x55:Int) (o2:List V) (o3:List V) (G:List GObj):St:=⟨[(2,.lptr 2 0),(3,.lptr 3 0),(53,x53),(54,.int .i64 x54),(55,.int .i64 x55)],[(2,o2),(3,o3)],[],G⟩
def v_r22_Valid_b1:VC :=
 .seq (
 zr [
 zo 73 (.bin .lss (.t 72) (.t 71))] ⟨[3,70,71,72,73],[3],[]⟩) (
 .seq (
 .cond (.t 73) (
 .skip) (
 .exit 2)) (
 .seq (
 .block 3 (
 .seq (
 .region [] [10] [
 zm 74 72,
 za 75 3 70 72,
 zo 76 (.load .imm (some 3) (.t 75)),
 zo 10 (.obj 10 [.nils,z0,z0]),
 zm 9 74,
 zn (.store (.loc 10) [some 2,none,none] (.t 10) (.t 76))] ⟨[3,9,10,70,71,72],[3,10],[]⟩) (
 .seq (
 zr [
 zs 77 10 3 10,
 zf 78 3 3,
 zj 79 3 78,
 zm 80 9,
 za 81 2 79 80,
 zo 82 (.load .imm (some 2) (.t 81)),
 zo 83 (.call true (.c (.fn 45 [])) [([some 2,none,none],(.t 77)),([none,none],(.t 82))] []),
 zo 84 (.un .not (.t 83))] ⟨[3,70,71,72,84],[3],[]⟩) (
 .cond (.t 84) (
 .seq (
 zr [
 zo 4 (.mv (.c (.bool false)))] ⟨[4],[],[]⟩) (
 .ret)) (
 .skip))))) (
 zr [
 zo 85 (.bin .add (.t 72) (zc 1)),
 zm 72 85] ⟨[3,70,71,72],[3],[]⟩)))
def v_r22_Valid_l1:VC:=.loop [] ⟨[3,70,71,72],[3],[]⟩ v_r22_Valid_b1
abbrev v_r22_Valid_s1 (x70:V) (x71:Int) (x72:Int) (o3:List V) (G:List GObj):St:=⟨[(3,.lptr 3 0),(70,x70),(71,.int .i64 x71),(72,.int .i64 x72)],[(3,o3)],[],G⟩
def v_r22_Valid:VFunc where
 nparams:=2
 results:=[.t 4 [none]]
 body :=
 .seq (
 .region [] [2,3] [
 zo 2 (.box 2 (.t 0)),
 zo 3 (.box 3 (.t 1)),
 zo 4 (.mv (.c (.bool false)))] ⟨[2,3],[2,3],[]⟩) (
 .seq (
 .seq (
 zr [
 zs 11 2 9 2,
 zo 12 (.call true (.c (.fn 17 [])) [([some 2,none,none,none,none,none,some 6,some 3,none],(.t 11))] []),
 zo 13 (.bin .neq (.t 12) (zc 0)),
 zm 14 13,
 zq 15 14 false (.faddr 2 (.t 3)),
 zq 16 14 false (.load (.loc 3) none (.t 15)),
 zq 17 14 false (.len (.t 16)),
 zq 18 14 false (.faddr 6 (.t 2)),
 zq 19 14 false (.load (.loc 2) none (.t 18)),
 zq 20 14 false (.len (.t 19)),
 zq 21 14 false (.bin .neq (.t 17) (.t 20)),
 zo 22 (.pick (.t 14) (.c (.bool true)) (.t 21)),
 zm 23 22,
 zq 24 23 false (.faddr 3 (.t 3)),
 zq 25 23 false (.load (.loc 3) none (.t 24)),
 zq 26 23 false (.len (.t 25)),
 zq 27 23 false (.faddr 7 (.t 2)),
 zq 28 23 false (.load (.loc 2) none (.t 27)),
 zq 29 23 false (.len (.t 28)),
 zq 30 23 false (.bin .neq (.t 26) (.t 29)),
 zo 31 (.pick (.t 23) (.c (.bool true)) (.t 30)),
 zm 32 31,
 zq 33 32 false (.faddr 1 (.t 3)),
 zq 34 32 false (.load (.loc 3) none (.t 33)),
 zq 35 32 false (.call true (.c (.fn 43 [])) [([none],(.t 34)),([none],(zc 1073741824))] []),
 zq 36 32 false (.un .not (.t 35)),
 zo 37 (.pick (.t 32) (.c (.bool true)) (.t 36))] ⟨[2,3,37],[2,3],[]⟩) (
 .cond (.t 37) (
 .seq (
 zr [
 zo 4 (.mv (.c (.bool false)))] ⟨[4],[],[]⟩) (
 .ret)) (
 .skip))) (
 .seq (
 zr [
 zf 39 0 2,
 zs 40 2 6 39,
 zf 41 0 2,
 zf 42 5 41,
 zj 43 2 42,
 zo 44 (.call true (.c (.fn 9 [])) [([some 2,none,none,none,none,none],(.t 40)),([none],(.t 43))] []),
 zm 38 44,
 ze 45 38 0,
 ze 46 38 1,
 zm 5 45,
 zm 6 46] ⟨[2,3,5],[2,3],[]⟩) (
 .seq (
 .seq (
 zr [
 zf 47 0 3,
 zj 48 3 47,
 zm 49 5,
 zo 50 (.call true (.c (.fn 43 [])) [([none],(.t 48)),([none],(.t 49))] []),
 zo 51 (.un .not (.t 50))] ⟨[2,3,51],[2,3],[]⟩) (
 .cond (.t 51) (
 .seq (
 zr [
 zo 4 (.mv (.c (.bool false)))] ⟨[4],[],[]⟩) (
 .ret)) (
 .skip))) (
 .seq (
 .seq (
 zr [
 zf 52 6 2,
 zj 53 2 52,
 zl 54 53,
 zo 55 (.mv (zc 0))] ⟨[2,3,53,54,55],[2,3],[]⟩) (
 .block 0 (
 v_r22_Valid_l0))) (
 .seq (
 .seq (
 zr [
 zf 69 7 2,
 zj 70 2 69,
 zl 71 70,
 zo 72 (.mv (zc 0))] ⟨[3,70,71,72],[3],[]⟩) (
 .block 2 (
 v_r22_Valid_l1))) (
 .seq (
 zr [
 zo 4 (.mv (.c (.bool true)))] ⟨[4],[],[]⟩) (
 .ret)))))))
def v_dam_Flow:VFunc where
 nparams:=1
 results:=[.t 2 [none]]
 body :=
 .seq (
 .region [] [1] [
 zo 1 (.box 1 (.t 0)),
 zo 2 (.mv (zc 0))] ⟨[1],[1],[]⟩) (
 .seq (
 zr [
 zf 3 2 1,
 zj 4 1 3,
 zf 5 3 1,
 zj 6 1 5,
 zo 7 (.bin .add (.t 4) (.t 6)),
 zf 8 4 1,
 zj 9 1 8,
 zo 10 (.bin .add (.t 7) (.t 9)),
 zm 2 10] ⟨[2],[],[]⟩) (
 .ret))
def v_w22_awake:VFunc where
 nparams:=0
 results:=[.t 0 [none]]
 body :=
 .seq (
 zr [
 zo 0 (.mv (.c (.bool false)))] ⟨[],[],[]⟩) (
 .seq (
 .region [] [1] [
 zo 5 (.build [z0,z0] [(0,1,(zc 100))]),
 zo 6 (.build [z0,z0] [(0,1,(zc 200)),(1,1,(zc 1000))]),
 zo 7 (.lit none [none,none] [z0,z0] 2 [(0,(.t 5)),(1,(.t 6))]),
 zo 8 (.build [.nils,z0,z0,z0,z0,z0] [(0,1,(.t 7)),(1,1,(zc 100)),(2,1,(zc 120)),(3,1,(zc 150)),(4,1,(zc 180)),(5,1,(zc 200))]),
 zo 9 (.build [.nils,z0,z0,z0,z0,z0,.nils,.nils,z0] [(0,6,(.t 8)),(8,1,(zc 1))]),
 zo 1 (.obj 1 [.nils,z0,z0,z0,z0,z0,.nils,.nils,z0]),
 zn (.store (.loc 1) [some 2,none,none,none,none,none,some 6,some 3,none] (.t 1) (.t 9))] ⟨[1],[1],[]⟩) (
 .seq (
 .region [] [2,3] [
 zs 11 1 9 1,
 zo 12 (.build [z0,z0,.nils,.nils] [(0,1,(zc 900))]),
 zo 13 (.call true (.c (.fn 11 [])) [([some 2,none,none,none,none,none,some 6,some 3,none],(.t 11)),([none,none,some 3,some 2],(.t 12)),([none],(zc 300)),([none],(zc 50)),([none],(zc 10))] []),
 zm 10 13,
 ze 14 10 0,
 ze 15 10 1,
 ze 16 10 2,
 zo 2 (.obj 2 [z0,z0,.nils,.nils]),
 zo 3 (.obj 3 [z0,z0,z0,z0,z0,z0,z0]),
 zn (.store (.loc 2) [none,none,some 3,some 2] (.t 2) (.t 14)),
 zn (.store (.loc 3) [none,none,none,none,none,none,none] (.t 3) (.t 15)),
 zm 4 16] ⟨[2,3,4],[2,3],[]⟩) (
 .seq (
 zr [
 zm 17 4,
 zo 18 (.bin .eql (.t 17) (zc 0)),
 zm 19 18,
 zq 20 19 true (.faddr 0 (.t 2)),
 zq 21 19 true (.load (.loc 2) none (.t 20)),
 zq 22 19 true (.bin .eql (.t 21) (zc 1000)),
 zo 23 (.pick (.t 19) (.t 22) (.c (.bool false))),
 zm 24 23,
 zq 25 24 true (.load (.loc 3) (some 7) (.t 3)),
 zq 26 24 true (.build [z0,z0,z0,z0,z0,z0,z0] [(0,1,(zc 300)),(1,1,(zc 50)),(4,1,(zc 150))]),
 zq 27 24 true (.aeq false [0,0,0,0,0,0,0] (.t 25) (.t 26)),
 zo 28 (.pick (.t 24) (.t 27) (.c (.bool false))),
 zm 29 28,
 zq 30 29 true (.load (.loc 3) (some 7) (.t 3)),
 zq 31 29 true (.call true (.c (.fn 14 [])) [([none,none,none,none,none,none,none],(.t 30))] []),
 zq 32 29 true (.bin .eql (.t 31) (zc 150)),
 zo 33 (.pick (.t 29) (.t 32) (.c (.bool false))),
 zm 0 33] ⟨[0],[],[]⟩) (
 .ret))))
def v_dam_Check_b0:VC :=
 .seq (
 zr [
 zo 30 (.bin .lss (.t 29) (.t 28))] ⟨[1,27,28,29,30],[1],[]⟩) (
 .seq (
 .cond (.t 30) (
 .skip) (
 .exit 0)) (
 .seq (
 .block 1 (
 .seq (
 .region [] [5] [
 za 31 6 27 29,
 zo 32 (.load .imm (some 6) (.t 31)),
 zo 5 (.obj 5 [.nils,z0,z0,.nils,z0,z0]),
 zn (.store (.loc 5) [some 2,none,none,some 2,none,none] (.t 5) (.t 32))] ⟨[1,5,27,28,29],[1,5],[]⟩) (
 .seq (
 zr [
 zs 33 5 6 5,
 zo 34 (.call true (.c (.fn 47 [])) [([some 2,none,none,some 2,none,none],(.t 33))] []),
 zm 6 34] ⟨[1,6,27,28,29],[1],[]⟩) (
 .seq (
 zr [
 zm 35 6,
 zo 36 (.bin .neq (.t 35) (zc 0))] ⟨[1,6,27,28,29,36],[1],[]⟩) (
 .cond (.t 36) (
 .seq (
 zr [
 zm 37 6,
 zm 2 37] ⟨[2],[],[]⟩) (
 .ret)) (
 .skip)))))) (
 zr [
 zo 38 (.bin .add (.t 29) (zc 1)),
 zm 29 38] ⟨[1,27,28,29],[1],[]⟩)))
def v_dam_Check_l0:VC:=.loop [] ⟨[1,27,28,29],[1],[]⟩ v_dam_Check_b0
abbrev v_dam_Check_s0 (x27:V) (x28:Int) (x29:Int) (o1:List V) (G:List GObj):St:=⟨[(1,.lptr 1 0),(27,x27),(28,.int .i64 x28),(29,.int .i64 x29)],[(1,o1)],[],G⟩
def v_dam_Check_b1:VC :=
 .seq (
 zr [
 zo 43 (.bin .lss (.t 42) (.t 41))] ⟨[1,40,41,42,43],[1],[]⟩) (
 .seq (
 .cond (.t 43) (
 .skip) (
 .exit 2)) (
 .seq (
 .block 3 (
 .seq (
 .region [] [8] [
 za 44 3 40 42,
 zo 45 (.load .imm (some 3) (.t 44)),
 zo 8 (.obj 8 [.nils,z0,z0]),
 zn (.store (.loc 8) [some 2,none,none] (.t 8) (.t 45))] ⟨[1,8,40,41,42],[1,8],[]⟩) (
 .seq (
 zr [
 zs 46 8 3 8,
 zo 47 (.call true (.c (.fn 48 [])) [([some 2,none,none],(.t 46))] []),
 zm 9 47] ⟨[1,9,40,41,42],[1],[]⟩) (
 .seq (
 zr [
 zm 48 9,
 zo 49 (.bin .neq (.t 48) (zc 0))] ⟨[1,9,40,41,42,49],[1],[]⟩) (
 .cond (.t 49) (
 .seq (
 zr [
 zm 50 9,
 zm 2 50] ⟨[2],[],[]⟩) (
 .ret)) (
 .skip)))))) (
 zr [
 zo 51 (.bin .add (.t 42) (zc 1)),
 zm 42 51] ⟨[1,40,41,42],[1],[]⟩)))
def v_dam_Check_l1:VC:=.loop [] ⟨[1,40,41,42],[1],[]⟩ v_dam_Check_b1
abbrev v_dam_Check_s1 (x40:V) (x41:Int) (x42:Int) (o1:List V) (G:List GObj):St:=⟨[(1,.lptr 1 0),(40,x40),(41,.int .i64 x41),(42,.int .i64 x42)],[(1,o1)],[],G⟩
def v_dam_Check:VFunc where
 nparams:=1
 results:=[.t 2 [none]]
 body :=
 .seq (
 .region [] [1] [
 zo 1 (.box 1 (.t 0)),
 zo 2 (.mv (zc 0))] ⟨[1],[1],[]⟩) (
 .seq (
 .seq (
 zr [
 zf 10 0 1,
 zs 11 1 6 10,
 zo 12 (.call true (.c (.fn 46 [])) [([some 2,none,none,none,none,none],(.t 11))] []),
 zm 3 12] ⟨[1,3],[1],[]⟩) (
 .seq (
 zr [
 zm 13 3,
 zo 14 (.bin .neq (.t 13) (zc 0))] ⟨[1,3,14],[1],[]⟩) (
 .cond (.t 14) (
 .seq (
 zr [
 zm 15 3,
 zm 2 15] ⟨[2],[],[]⟩) (
 .ret)) (
 .skip)))) (
 .seq (
 .seq (
 zr [
 zf 16 6 1,
 zj 17 1 16,
 zl 18 17,
 zo 19 (.bin .gtr (.t 18) (zc 6)),
 zm 20 19,
 zq 21 20 false (.faddr 7 (.t 1)),
 zq 22 20 false (.load (.loc 1) none (.t 21)),
 zq 23 20 false (.len (.t 22)),
 zq 24 20 false (.bin .gtr (.t 23) (zc 8)),
 zo 25 (.pick (.t 20) (.c (.bool true)) (.t 24))] ⟨[1,25],[1],[]⟩) (
 .cond (.t 25) (
 .seq (
 zr [
 zo 2 (.mv (zc 10))] ⟨[2],[],[]⟩) (
 .ret)) (
 .skip))) (
 .seq (
 .seq (
 zr [
 zf 26 6 1,
 zj 27 1 26,
 zl 28 27,
 zo 29 (.mv (zc 0))] ⟨[1,27,28,29],[1],[]⟩) (
 .block 0 (
 v_dam_Check_l0))) (
 .seq (
 .seq (
 zr [
 zf 39 7 1,
 zj 40 1 39,
 zl 41 40,
 zo 42 (.mv (zc 0))] ⟨[1,40,41,42],[1],[]⟩) (
 .block 2 (
 v_dam_Check_l1))) (
 .seq (
 .seq (
 zr [
 zf 52 8 1,
 zj 53 1 52,
 zo 54 (.bin .lss (.t 53) (zc 1)),
 zm 55 54,
 zq 56 55 false (.faddr 8 (.t 1)),
 zq 57 55 false (.load (.loc 1) none (.t 56)),
 zq 58 55 false (.bin .gtr (.t 57) (zc 1073741824)),
 zo 59 (.pick (.t 55) (.c (.bool true)) (.t 58))] ⟨[59],[],[]⟩) (
 .cond (.t 59) (
 .seq (
 zr [
 zo 2 (.mv (zc 1))] ⟨[2],[],[]⟩) (
 .ret)) (
 .skip))) (
 .seq (
 zr [
 zo 2 (.mv (zc 0))] ⟨[2],[],[]⟩) (
 .ret)))))))
def v_r22_Check_b0:VC :=
 .seq (
 zr [
 zo 30 (.bin .lss (.t 29) (.t 28))] ⟨[1,27,28,29,30],[1],[]⟩) (
 .seq (
 .cond (.t 30) (
 .skip) (
 .exit 0)) (
 .seq (
 .block 1 (
 .seq (
 .region [] [5] [
 za 31 6 27 29,
 zo 32 (.load .imm (some 6) (.t 31)),
 zo 5 (.obj 5 [.nils,z0,z0,.nils,z0,z0]),
 zn (.store (.loc 5) [some 2,none,none,some 2,none,none] (.t 5) (.t 32))] ⟨[1,5,27,28,29],[1,5],[]⟩) (
 .seq (
 zr [
 zs 33 5 6 5,
 zo 34 (.call true (.c (.fn 50 [])) [([some 2,none,none,some 2,none,none],(.t 33))] []),
 zm 6 34] ⟨[1,6,27,28,29],[1],[]⟩) (
 .seq (
 zr [
 zm 35 6,
 zo 36 (.bin .neq (.t 35) (zc 0))] ⟨[1,6,27,28,29,36],[1],[]⟩) (
 .cond (.t 36) (
 .seq (
 zr [
 zm 37 6,
 zm 2 37] ⟨[2],[],[]⟩) (
 .ret)) (
 .skip)))))) (
 zr [
 zo 38 (.bin .add (.t 29) (zc 1)),
 zm 29 38] ⟨[1,27,28,29],[1],[]⟩)))
def v_r22_Check_l0:VC:=.loop [] ⟨[1,27,28,29],[1],[]⟩ v_r22_Check_b0
abbrev v_r22_Check_s0 (x27:V) (x28:Int) (x29:Int) (o1:List V) (G:List GObj):St:=⟨[(1,.lptr 1 0),(27,x27),(28,.int .i64 x28),(29,.int .i64 x29)],[(1,o1)],[],G⟩
def v_r22_Check_b1:VC :=
 .seq (
 zr [
 zo 43 (.bin .lss (.t 42) (.t 41))] ⟨[1,40,41,42,43],[1],[]⟩) (
 .seq (
 .cond (.t 43) (
 .skip) (
 .exit 2)) (
 .seq (
 .block 3 (
 .seq (
 .region [] [8] [
 za 44 3 40 42,
 zo 45 (.load .imm (some 3) (.t 44)),
 zo 8 (.obj 8 [.nils,z0,z0]),
 zn (.store (.loc 8) [some 2,none,none] (.t 8) (.t 45))] ⟨[1,8,40,41,42],[1,8],[]⟩) (
 .seq (
 zr [
 zs 46 8 3 8,
 zo 47 (.call true (.c (.fn 51 [])) [([some 2,none,none],(.t 46))] []),
 zm 9 47] ⟨[1,9,40,41,42],[1],[]⟩) (
 .seq (
 zr [
 zm 48 9,
 zo 49 (.bin .neq (.t 48) (zc 0))] ⟨[1,9,40,41,42,49],[1],[]⟩) (
 .cond (.t 49) (
 .seq (
 zr [
 zm 50 9,
 zm 2 50] ⟨[2],[],[]⟩) (
 .ret)) (
 .skip)))))) (
 zr [
 zo 51 (.bin .add (.t 42) (zc 1)),
 zm 42 51] ⟨[1,40,41,42],[1],[]⟩)))
def v_r22_Check_l1:VC:=.loop [] ⟨[1,40,41,42],[1],[]⟩ v_r22_Check_b1
abbrev v_r22_Check_s1 (x40:V) (x41:Int) (x42:Int) (o1:List V) (G:List GObj):St:=⟨[(1,.lptr 1 0),(40,x40),(41,.int .i64 x41),(42,.int .i64 x42)],[(1,o1)],[],G⟩
def v_r22_Check:VFunc where
 nparams:=1
 results:=[.t 2 [none]]
 body :=
 .seq (
 .region [] [1] [
 zo 1 (.box 1 (.t 0)),
 zo 2 (.mv (zc 0))] ⟨[1],[1],[]⟩) (
 .seq (
 .seq (
 zr [
 zf 10 0 1,
 zs 11 1 6 10,
 zo 12 (.call true (.c (.fn 49 [])) [([some 2,none,none,none,none,none],(.t 11))] []),
 zm 3 12] ⟨[1,3],[1],[]⟩) (
 .seq (
 zr [
 zm 13 3,
 zo 14 (.bin .neq (.t 13) (zc 0))] ⟨[1,3,14],[1],[]⟩) (
 .cond (.t 14) (
 .seq (
 zr [
 zm 15 3,
 zm 2 15] ⟨[2],[],[]⟩) (
 .ret)) (
 .skip)))) (
 .seq (
 .seq (
 zr [
 zf 16 6 1,
 zj 17 1 16,
 zl 18 17,
 zo 19 (.bin .gtr (.t 18) (zc 6)),
 zm 20 19,
 zq 21 20 false (.faddr 7 (.t 1)),
 zq 22 20 false (.load (.loc 1) none (.t 21)),
 zq 23 20 false (.len (.t 22)),
 zq 24 20 false (.bin .gtr (.t 23) (zc 8)),
 zo 25 (.pick (.t 20) (.c (.bool true)) (.t 24))] ⟨[1,25],[1],[]⟩) (
 .cond (.t 25) (
 .seq (
 zr [
 zo 2 (.mv (zc 10))] ⟨[2],[],[]⟩) (
 .ret)) (
 .skip))) (
 .seq (
 .seq (
 zr [
 zf 26 6 1,
 zj 27 1 26,
 zl 28 27,
 zo 29 (.mv (zc 0))] ⟨[1,27,28,29],[1],[]⟩) (
 .block 0 (
 v_r22_Check_l0))) (
 .seq (
 .seq (
 zr [
 zf 39 7 1,
 zj 40 1 39,
 zl 41 40,
 zo 42 (.mv (zc 0))] ⟨[1,40,41,42],[1],[]⟩) (
 .block 2 (
 v_r22_Check_l1))) (
 .seq (
 .seq (
 zr [
 zf 52 8 1,
 zj 53 1 52,
 zo 54 (.bin .lss (.t 53) (zc 1)),
 zm 55 54,
 zq 56 55 false (.faddr 8 (.t 1)),
 zq 57 55 false (.load (.loc 1) none (.t 56)),
 zq 58 55 false (.bin .gtr (.t 57) (zc 1073741824)),
 zo 59 (.pick (.t 55) (.c (.bool true)) (.t 58))] ⟨[59],[],[]⟩) (
 .cond (.t 59) (
 .seq (
 zr [
 zo 2 (.mv (zc 1))] ⟨[2],[],[]⟩) (
 .ret)) (
 .skip))) (
 .seq (
 zr [
 zo 2 (.mv (zc 0))] ⟨[2],[],[]⟩) (
 .ret)))))))
def v_w22_odd:VFunc where
 nparams:=3
 results:=[.c 6 true [none,none,some 3,some 2]]
 body :=
 .seq (
 .region [] [4,5,6] [
 zo 4 (.box 4 (.t 1)),
 zo 5 (.box 5 (.t 2)),
 zo 6 (.obj 6 [z0,z0,.nils,.nils])] ⟨[0,4,5,6],[4,5,6],[1043,1052]⟩) (
 .seq (
 zr [
 zf 10 0 4,
 zs 11 4 6 10,
 zf 12 0 4,
 zf 13 5 12,
 zj 14 4 13,
 zo 15 (.call true (.c (.fn 9 [])) [([some 2,none,none,none,none,none],(.t 11)),([none],(.t 14))] []),
 zm 9 15,
 ze 16 9 0,
 ze 17 9 1,
 zm 7 16,
 zm 8 17] ⟨[0,5,6,7],[5,6],[1043,1052]⟩) (
 .seq (
 .seq (
 zr [
 zm 18 0,
 zo 19 (.call false (.c (.fn 10 [])) [([none],(.t 18)),([none],(zc 5))] [])] ⟨[0,5,6,7,19],[5,6],[1043,1052]⟩) (
 .block 0 (
 .seq (
 zr [
 zo 21 (.bin .eql (.t 19) (zc 0)),
 zm 20 21] ⟨[0,5,6,7,19,20],[5,6],[1043,1052]⟩) (
 .cond (.t 20) (
 zr [
 zm 22 7,
 zm 23 7,
 zo 24 (.bin .add (.t 23) (zc 1)),
 zo 25 (.lit none [none] [z0] 4 [(0,(zc (-1))),(1,(zc 0)),(2,(.t 22)),(3,(.t 24))]),
 zm 26 0,
 zo 27 (.call false (.c (.fn 10 [])) [([none],(.t 26)),([none],(zc 4))] []),
 za 28 1 25 27,
 zi 29 28,
 zf 30 0 5,
 zn (.store (.loc 5) [none] (.t 30) (.t 29))] ⟨[5,6],[5,6],[1043,1052]⟩) (
 .seq (
 zr [
 zo 32 (.bin .eql (.t 19) (zc 1)),
 zm 31 32] ⟨[0,5,6,19,31],[5,6],[1043,1052]⟩) (
 .cond (.t 31) (
 zr [
 zo 33 (.lit none [none] [z0] 3 [(0,(zc (-1))),(1,(zc 1073741824)),(2,(zc 1073741825))]),
 zm 34 0,
 zo 35 (.call false (.c (.fn 10 [])) [([none],(.t 34)),([none],(zc 3))] []),
 za 36 1 33 35,
 zi 37 36,
 zf 38 1 5,
 zn (.store (.loc 5) [none] (.t 38) (.t 37))] ⟨[5,6],[5,6],[1043,1052]⟩) (
 .seq (
 zr [
 zo 40 (.bin .eql (.t 19) (zc 2)),
 zm 39 40] ⟨[5,6,19,39],[5,6],[1043,1052]⟩) (
 .cond (.t 39) (
 .region [] [1043,5046] [
 zf 41 2 5,
 zj 42 5 41,
 zo 43 (.app 1043 none [none,none,none] 5864062014805 (.c (.nils)) (.t 42)),
 zo 44 (.build [z0,z0,.bool false] []),
 zo 45 (.lit none [none,none,none] [z0,z0,.bool false] 1 [(0,(.t 44))]),
 zo 46 (.app 5046 (some 1043) [none,none,none] 5864062014805 (.t 43) (.t 45)),
 zf 47 2 5,
 zn (.store (.loc 5) [some 3] (.t 47) (.t 46))] ⟨[5,6],[5,6],[1043,1052]⟩) (
 .seq (
 zr [
 zo 49 (.bin .eql (.t 19) (zc 3)),
 zm 48 49] ⟨[5,6,48],[5,6],[1043,1052]⟩) (
 .cond (.t 48) (
 .region [] [1052,5055] [
 zf 50 3 5,
 zj 51 5 50,
 zo 52 (.app 1052 none [none,none] 8796093022208 (.c (.nils)) (.t 51)),
 zo 53 (.build [z0,.bool false] []),
 zo 54 (.lit none [none,none] [z0,.bool false] 1 [(0,(.t 53))]),
 zo 55 (.app 5055 (some 1052) [none,none] 8796093022208 (.t 52) (.t 54)),
 zf 56 3 5,
 zn (.store (.loc 5) [some 2] (.t 56) (.t 55))] ⟨[5,6],[5,6],[1043,1052]⟩) (
 .skip))))))))))) (
 .seq (
 zr [
 zs 57 5 4 5,
 zn (.store (.loc 6) [none,none,some 3,some 2] (.t 6) (.t 57))] ⟨[6],[6],[1043,1052]⟩) (
 .ret))))
def v_dam_Level:VFunc where
 nparams:=2
 results:=[.t 4 [none],.t 5 [none]]
 body :=
 .seq (
 .region [] [2,3] [
 zo 2 (.box 2 (.t 0)),
 zo 3 (.box 3 (.t 1)),
 zo 4 (.mv (zc 0)),
 zo 5 (.mv (zc 0))] ⟨[2,3],[2,3],[]⟩) (
 .seq (
 .seq (
 zr [
 zs 7 2 9 2,
 zs 8 3 4 3,
 zo 9 (.call true (.c (.fn 53 [])) [([some 2,none,none,none,none,none,some 6,some 3,none],(.t 7)),([none,none,some 3,some 2],(.t 8))] []),
 zm 6 9] ⟨[2,3,6],[2,3],[]⟩) (
 .seq (
 zr [
 zm 10 6,
 zo 11 (.bin .neq (.t 10) (zc 0))] ⟨[2,3,6,11],[2,3],[]⟩) (
 .cond (.t 11) (
 .seq (
 zr [
 zm 12 6,
 zo 4 (.mv (zc 0)),
 zm 5 12] ⟨[4,5],[],[]⟩) (
 .ret)) (
 .skip)))) (
 .seq (
 zr [
 zf 13 0 2,
 zs 14 2 6 13,
 zf 15 0 3,
 zj 16 3 15,
 zo 17 (.call true (.c (.fn 54 [])) [([some 2,none,none,none,none,none],(.t 14)),([none],(.t 16))] []),
 zm 4 17,
 zo 5 (.mv (zc 0))] ⟨[4,5],[],[]⟩) (
 .ret)))
def v_r22_Level:VFunc where
 nparams:=2
 results:=[.t 4 [none],.t 5 [none]]
 body :=
 .seq (
 .region [] [2,3] [
 zo 2 (.box 2 (.t 0)),
 zo 3 (.box 3 (.t 1)),
 zo 4 (.mv (zc 0)),
 zo 5 (.mv (zc 0))] ⟨[2,3],[2,3],[]⟩) (
 .seq (
 .seq (
 zr [
 zs 7 2 9 2,
 zs 8 3 4 3,
 zo 9 (.call true (.c (.fn 55 [])) [([some 2,none,none,none,none,none,some 6,some 3,none],(.t 7)),([none,none,some 3,some 2],(.t 8))] []),
 zm 6 9] ⟨[2,3,6],[2,3],[]⟩) (
 .seq (
 zr [
 zm 10 6,
 zo 11 (.bin .neq (.t 10) (zc 0))] ⟨[2,3,6,11],[2,3],[]⟩) (
 .cond (.t 11) (
 .seq (
 zr [
 zm 12 6,
 zo 4 (.mv (zc 0)),
 zm 5 12] ⟨[4,5],[],[]⟩) (
 .ret)) (
 .skip)))) (
 .seq (
 zr [
 zf 13 0 2,
 zs 14 2 6 13,
 zf 15 0 3,
 zj 16 3 15,
 zo 17 (.call true (.c (.fn 56 [])) [([some 2,none,none,none,none,none],(.t 14)),([none],(.t 16))] []),
 ze 18 17 0,
 ze 19 17 1,
 zm 4 18,
 zm 5 19] ⟨[4,5],[],[]⟩) (
 .ret)))
def v_mk_Mod:VFunc where
 nparams:=2
 results:=[.t 4 [none]]
 body :=
 .seq (
 zr [
 zo 4 (.mv (zc 0))] ⟨[0,1],[],[]⟩) (
 .seq (
 zr [
 zm 5 0,
 zm 6 1,
 zo 7 (.bin .rem (.t 5) (.t 6)),
 zm 8 1,
 zo 9 (.bin .add (.t 7) (.t 8)),
 zm 10 1,
 zo 11 (.bin .rem (.t 9) (.t 10)),
 zm 4 11] ⟨[4],[],[]⟩) (
 .ret))
def v_r22_Step:VFunc where
 nparams:=5
 results:=[.c 10 true [none,none,some 3,some 2],.c 11 true [none,none,none,none,none,none,none],.t 12 [none]]
 body :=
 .seq (
 .region [] [5,6,10,11] [
 zo 5 (.box 5 (.t 0)),
 zo 6 (.box 6 (.t 1)),
 zo 10 (.obj 10 [z0,z0,.nils,.nils]),
 zo 11 (.obj 11 [z0,z0,z0,z0,z0,z0,z0]),
 zo 12 (.mv (zc 0))] ⟨[2,3,4,5,6,10,11],[5,6,10,11],[]⟩) (
 .seq (
 zr [
 zs 28 5 9 5,
 zs 29 6 4 6,
 zo 30 (.call true (.c (.fn 21 [])) [([some 2,none,none,none,none,none,some 6,some 3,none],(.t 28)),([none,none,some 3,some 2],(.t 29))] []),
 zm 27 30,
 ze 31 27 0,
 ze 32 27 1,
 zm 13 31,
 zm 14 32] ⟨[2,3,4,5,6,10,11,13,14],[5,6,10,11],[]⟩) (
 .seq (
 .seq (
 zr [
 zm 33 14,
 zo 34 (.bin .neq (.t 33) (zc 0))] ⟨[2,3,4,5,6,10,11,13,14,34],[5,6,10,11],[]⟩) (
 .cond (.t 34) (
 .seq (
 zr [
 zo 35 (.build [z0,z0,.nils,.nils] []),
 zo 36 (.build [z0,z0,z0,z0,z0,z0,z0] []),
 zm 37 14,
 zn (.store (.loc 10) [none,none,some 3,some 2] (.t 10) (.t 35)),
 zn (.store (.loc 11) [none,none,none,none,none,none,none] (.t 11) (.t 36)),
 zm 12 37] ⟨[10,11,12],[10,11],[]⟩) (
 .ret)) (
 .skip))) (
 .seq (
 .seq (
 zr [
 zm 38 2,
 zo 39 (.call true (.c (.fn 43 [])) [([none],(.t 38)),([none],(zc 1073741824))] []),
 zo 40 (.un .not (.t 39)),
 zm 41 40,
 zq 42 41 false (.mv (.t 3)),
 zq 43 41 false (.call true (.c (.fn 43 [])) [([none],(.t 42)),([none],(zc 1073741824))] []),
 zq 44 41 false (.un .not (.t 43)),
 zo 45 (.pick (.t 41) (.c (.bool true)) (.t 44)),
 zm 46 45,
 zq 47 46 false (.mv (.t 4)),
 zq 48 46 false (.call true (.c (.fn 43 [])) [([none],(.t 47)),([none],(zc 1073741824))] []),
 zq 49 46 false (.un .not (.t 48)),
 zo 50 (.pick (.t 46) (.c (.bool true)) (.t 49))] ⟨[2,3,4,5,6,10,11,13,50],[5,6,10,11],[]⟩) (
 .cond (.t 50) (
 .seq (
 zr [
 zo 51 (.build [z0,z0,.nils,.nils] []),
 zo 52 (.build [z0,z0,z0,z0,z0,z0,z0] []),
 zn (.store (.loc 10) [none,none,some 3,some 2] (.t 10) (.t 51)),
 zn (.store (.loc 11) [none,none,none,none,none,none,none] (.t 11) (.t 52)),
 zo 12 (.mv (zc 1))] ⟨[10,11,12],[10,11],[]⟩) (
 .ret)) (
 .skip))) (
 .seq (
 .region [] [15] [
 zm 53 2,
 zm 54 3,
 zf 55 0 6,
 zj 56 6 55,
 zm 57 2,
 zo 58 (.bin .add (.t 56) (.t 57)),
 zo 59 (.mm false (.t 54) (.t 58)),
 zo 60 (.build [z0,z0,z0,z0,z0,z0,z0] [(0,1,(.t 53)),(1,1,(.t 59))]),
 zo 15 (.obj 15 [z0,z0,z0,z0,z0,z0,z0]),
 zn (.store (.loc 15) [none,none,none,none,none,none,none] (.t 15) (.t 60))] ⟨[2,4,5,6,10,11,13,15],[5,6,10,11,15],[]⟩) (
 .seq (
 zr [
 zf 61 0 6,
 zj 62 6 61,
 zm 63 2,
 zo 64 (.bin .add (.t 62) (.t 63)),
 zf 65 1 15,
 zj 66 15 65,
 zo 67 (.bin .sub (.t 64) (.t 66)),
 zm 16 67] ⟨[4,5,6,10,11,13,15,16],[5,6,10,11,15],[]⟩) (
 .seq (
 zr [
 zf 69 0 5,
 zs 70 5 6 69,
 zf 71 0 5,
 zf 72 1 71,
 zj 73 5 72,
 zo 74 (.call true (.c (.fn 9 [])) [([some 2,none,none,none,none,none],(.t 70)),([none],(.t 73))] []),
 zm 68 74,
 ze 75 68 0,
 ze 76 68 1,
 zm 17 75,
 zm 18 76] ⟨[4,5,6,10,11,13,15,16,17],[5,6,10,11,15],[]⟩) (
 .seq (
 zr [
 zf 78 0 5,
 zs 79 5 6 78,
 zf 80 0 5,
 zf 81 5 80,
 zj 82 5 81,
 zo 83 (.call true (.c (.fn 9 [])) [([some 2,none,none,none,none,none],(.t 79)),([none],(.t 82))] []),
 zm 77 83,
 ze 84 77 0,
 ze 85 77 1,
 zm 19 84,
 zm 20 85] ⟨[4,5,6,10,11,13,15,16,17,19],[5,6,10,11,15],[]⟩) (
 .seq (
 zr [
 zm 86 16,
 zm 87 17,
 zo 88 (.bin .sub (.t 86) (.t 87)),
 zo 89 (.mm true (zc 0) (.t 88)),
 zm 21 89] ⟨[4,5,6,10,11,13,15,16,19,21],[5,6,10,11,15],[]⟩) (
 .seq (
 .region [] [22] [
 zo 22 (.obj 22 [z0,z0,.nils,.nils])] ⟨[4,5,6,10,11,13,15,16,19,21,22],[5,6,10,11,15,22],[]⟩) (
 .seq (
 zr [
 zs 91 5 9 5,
 zs 92 6 4 6,
 zm 93 4,
 zm 94 21,
 zo 95 (.mm false (.t 93) (.t 94)),
 zo 96 (.call true (.c (.fn 62 [])) [([some 2,none,none,none,none,none,some 6,some 3,none],(.t 91)),([none,none,some 3,some 2],(.t 92)),([none],(.t 95))] []),
 zm 90 96,
 ze 97 90 0,
 ze 98 90 1,
 ze 99 90 2,
 ze 100 90 3,
 zf 101 2 22,
 zn (.store (.loc 22) [some 3] (.t 101) (.t 97)),
 zf 102 2 15,
 zn (.store (.loc 15) [none] (.t 102) (.t 98)),
 zf 103 5 15,
 zn (.store (.loc 15) [none] (.t 103) (.t 99)),
 zf 104 6 15,
 zn (.store (.loc 15) [none] (.t 104) (.t 100))] ⟨[4,5,6,10,11,13,15,16,19,21,22],[5,6,10,11,15,22],[]⟩) (
 .seq (
 zr [
 zm 105 4,
 zm 106 21,
 zo 107 (.mm false (.t 105) (.t 106)),
 zf 108 2 15,
 zj 109 15 108,
 zo 110 (.bin .sub (.t 107) (.t 109)),
 zm 23 110] ⟨[5,6,10,11,13,15,16,19,21,22,23],[5,6,10,11,15,22],[]⟩) (
 .seq (
 zr [
 zf 112 7 5,
 zj 113 5 112,
 zf 114 3 6,
 zj 115 6 114,
 zm 116 13,
 zm 117 23,
 zo 118 (.call true (.c (.fn 63 [])) [([some 3],(.t 113)),([some 2],(.t 115)),([none],(.t 116)),([none],(.t 117))] []),
 zm 111 118,
 ze 119 111 0,
 ze 120 111 1,
 ze 121 111 2,
 zm 24 119,
 zm 25 120,
 zm 26 121] ⟨[10,11,15,16,19,21,22,24,25],[10,11,15,22],[]⟩) (
 .seq (
 zr [
 zm 122 24,
 zf 123 3 22,
 zn (.store (.loc 22) [some 2] (.t 123) (.t 122))] ⟨[10,11,15,16,19,21,22,25],[10,11,15,22],[]⟩) (
 .seq (
 zr [
 zm 124 25,
 zm 125 21,
 zf 126 2 15,
 zj 127 15 126,
 zo 128 (.bin .sub (.t 125) (.t 127)),
 zo 129 (.mm false (.t 124) (.t 128)),
 zf 130 3 15,
 zn (.store (.loc 15) [none] (.t 130) (.t 129))] ⟨[10,11,15,16,19,22],[10,11,15,22],[]⟩) (
 .seq (
 zr [
 zm 131 16,
 zf 132 2 15,
 zj 133 15 132,
 zf 134 3 15,
 zj 135 15 134,
 zo 136 (.bin .add (.t 133) (.t 135)),
 zo 137 (.bin .sub (.t 131) (.t 136)),
 zm 16 137] ⟨[10,11,15,16,19,22],[10,11,15,22],[]⟩) (
 .seq (
 zr [
 zm 138 16,
 zm 139 19,
 zo 140 (.bin .sub (.t 138) (.t 139)),
 zo 141 (.mm true (zc 0) (.t 140)),
 zf 142 4 15,
 zn (.store (.loc 15) [none] (.t 142) (.t 141))] ⟨[10,11,15,16,22],[10,11,15,22],[]⟩) (
 .seq (
 zr [
 zm 143 16,
 zf 144 4 15,
 zj 145 15 144,
 zo 146 (.bin .sub (.t 143) (.t 145)),
 zf 147 2 15,
 zj 148 15 147,
 zf 149 3 15,
 zj 150 15 149,
 zo 151 (.bin .add (.t 148) (.t 150)),
 zo 152 (.mm false (zc 1073741824) (.t 151)),
 zf 153 0 22,
 zn (.store (.loc 22) [none] (.t 153) (.t 146)),
 zf 154 1 22,
 zn (.store (.loc 22) [none] (.t 154) (.t 152))] ⟨[10,11,15,22],[10,11,15,22],[]⟩) (
 .seq (
 zr [
 zs 155 22 4 22,
 zs 156 15 7 15,
 zn (.store (.loc 10) [none,none,some 3,some 2] (.t 10) (.t 155)),
 zn (.store (.loc 11) [none,none,none,none,none,none,none] (.t 11) (.t 156)),
 zo 12 (.mv (zc 0))] ⟨[10,11,12],[10,11],[]⟩) (
 .ret)))))))))))))))))))
def v_r22_Same_b0:VC :=
 .seq (
 zr [
 zo 39 (.bin .lss (.t 38) (.t 37))] ⟨[2,3,37,38,39],[2,3],[]⟩) (
 .seq (
 .cond (.t 39) (
 .skip) (
 .exit 0)) (
 .seq (
 .block 1 (
 .seq (
 zr [
 zm 40 38,
 zm 5 40] ⟨[2,3,5,37,38],[2,3],[]⟩) (
 .seq (
 zr [
 zf 41 2 2,
 zj 42 2 41,
 zm 43 5,
 za 44 3 42 43,
 zo 45 (.load .imm (some 3) (.t 44)),
 zf 46 2 3,
 zj 47 3 46,
 zm 48 5,
 za 49 3 47 48,
 zo 50 (.load .imm (some 3) (.t 49)),
 zo 51 (.aeq true [0,0,1] (.t 45) (.t 50))] ⟨[2,3,37,38,51],[2,3],[]⟩) (
 .cond (.t 51) (
 .seq (
 zr [
 zo 4 (.mv (.c (.bool false)))] ⟨[4],[],[]⟩) (
 .ret)) (
 .skip))))) (
 zr [
 zo 52 (.bin .add (.t 38) (zc 1)),
 zm 38 52] ⟨[2,3,37,38],[2,3],[]⟩)))
def v_r22_Same_l0:VC:=.loop [] ⟨[2,3,37,38],[2,3],[]⟩ v_r22_Same_b0
abbrev v_r22_Same_s0 (x37:Int) (x38:Int) (o2:List V) (o3:List V) (G:List GObj):St:=⟨[(2,.lptr 2 0),(3,.lptr 3 0),(37,.int .i64 x37),(38,.int .i64 x38)],[(2,o2),(3,o3)],[],G⟩
def v_r22_Same:VFunc where
 nparams:=2
 results:=[.t 4 [none]]
 body :=
 .seq (
 .region [] [2,3] [
 zo 2 (.box 2 (.t 0)),
 zo 3 (.box 3 (.t 1)),
 zo 4 (.mv (.c (.bool false)))] ⟨[2,3],[2,3],[]⟩) (
 .seq (
 .seq (
 zr [
 zf 6 0 2,
 zj 7 2 6,
 zf 8 0 3,
 zj 9 3 8,
 zo 10 (.bin .neq (.t 7) (.t 9)),
 zm 11 10,
 zq 12 11 false (.faddr 1 (.t 2)),
 zq 13 11 false (.load (.loc 2) none (.t 12)),
 zq 14 11 false (.faddr 1 (.t 3)),
 zq 15 11 false (.load (.loc 3) none (.t 14)),
 zq 16 11 false (.bin .neq (.t 13) (.t 15)),
 zo 17 (.pick (.t 11) (.c (.bool true)) (.t 16)),
 zm 18 17,
 zq 19 18 false (.faddr 2 (.t 2)),
 zq 20 18 false (.load (.loc 2) none (.t 19)),
 zq 21 18 false (.len (.t 20)),
 zq 22 18 false (.faddr 2 (.t 3)),
 zq 23 18 false (.load (.loc 3) none (.t 22)),
 zq 24 18 false (.len (.t 23)),
 zq 25 18 false (.bin .neq (.t 21) (.t 24)),
 zo 26 (.pick (.t 18) (.c (.bool true)) (.t 25)),
 zm 27 26,
 zq 28 27 false (.faddr 3 (.t 2)),
 zq 29 27 false (.load (.loc 2) none (.t 28)),
 zq 30 27 false (.faddr 3 (.t 3)),
 zq 31 27 false (.load (.loc 3) none (.t 30)),
 zq 32 27 false (.call true (.c (.fn 64 [])) [([some 2],(.t 29)),([some 2],(.t 31))] []),
 zq 33 27 false (.un .not (.t 32)),
 zo 34 (.pick (.t 27) (.c (.bool true)) (.t 33))] ⟨[2,3,34],[2,3],[]⟩) (
 .cond (.t 34) (
 .seq (
 zr [
 zo 4 (.mv (.c (.bool false)))] ⟨[4],[],[]⟩) (
 .ret)) (
 .skip))) (
 .seq (
 .seq (
 zr [
 zf 35 2 2,
 zj 36 2 35,
 zl 37 36,
 zo 38 (.mv (zc 0))] ⟨[2,3,37,38],[2,3],[]⟩) (
 .block 0 (
 v_r22_Same_l0))) (
 .seq (
 zr [
 zo 4 (.mv (.c (.bool true)))] ⟨[4],[],[]⟩) (
 .ret))))
def v_mk_Flows_b0:VC :=
 .seq (
 zr [
 zo 10 (.bin .lss (.t 9) (.t 8))] ⟨[0,2,7,8,9,10],[],[1016]⟩) (
 .seq (
 .cond (.t 10) (
 .skip) (
 .exit 0)) (
 .seq (
 .block 1 (
 .region [.norm 7 1016 1] [5016] [
 zm 11 7,
 zm 12 0,
 zm 13 2,
 zo 14 (.call false (.c (.fn 10 [])) [([none],(.t 12)),([none],(.t 13))] []),
 zo 15 (.lit none [none] [z0] 1 [(0,(.t 14))]),
 zo 16 (.app 5016 (some 1016) [none] 17592186044416 (.t 11) (.t 15)),
 zm 7 16] ⟨[0,2,7,8,9],[],[1016]⟩)) (
 zr [
 zo 17 (.bin .add (.t 9) (zc 1)),
 zm 9 17] ⟨[0,2,7,8,9],[],[1016]⟩)))
def v_mk_Flows_l0:VC:=.loop [.norm 7 1016 1] ⟨[0,2,7,8,9],[],[1016]⟩ v_mk_Flows_b0
abbrev v_mk_Flows_s0 (x0:V) (x2:Int) (x7:V) (x8:Int) (x9:Int) (k1016:Nat) (G:List GObj):St:=⟨[(0,x0),(2,.int .i64 x2),(7,x7),(8,.int .i64 x8),(9,.int .i64 x9)],[],[(1016,k1016)],G⟩
def v_mk_Flows:VFunc where
 nparams:=3
 results:=[.t 6 [some 1]]
 body :=
 .seq (
 zr [
 zo 6 (.mv (.c (.nils)))] ⟨[0,1,2],[],[]⟩) (
 .seq (
 zr [
 zo 7 (.mv (.c (.nils)))] ⟨[0,1,2,7],[],[1016]⟩) (
 .seq (
 .seq (
 zr [
 zm 8 1,
 zo 9 (.mv (zc 0))] ⟨[0,2,7,8,9],[],[1016]⟩) (
 .block 0 (
 v_mk_Flows_l0))) (
 .seq (
 zr [
 zm 18 7,
 zm 6 18] ⟨[6],[],[1016]⟩) (
 .ret))))
def v_dam_Run_b0:VC :=
 .seq (
 zr [
 zo 60 (.bin .lss (.t 59) (.t 58))] ⟨[2,3,4,5,10,14,15,58,59,60],[5,10,14],[1089]⟩) (
 .seq (
 .cond (.t 60) (
 .skip) (
 .exit 1)) (
 .seq (
 .block 2 (
 .seq (
 zr [
 zm 61 59,
 zm 16 61] ⟨[2,3,4,5,10,14,15,16,58,59],[5,10,14],[1089]⟩) (
 .seq (
 .region [] [17,18] [
 zs 63 5 9 5,
 zs 64 14 4 14,
 zm 65 2,
 zm 66 16,
 za 67 1 65 66,
 zi 68 67,
 zm 69 3,
 zm 70 16,
 za 71 1 69 70,
 zi 72 71,
 zm 73 4,
 zm 74 16,
 za 75 1 73 74,
 zi 76 75,
 zo 77 (.call true (.c (.fn 11 [])) [([some 2,none,none,none,none,none,some 6,some 3,none],(.t 63)),([none,none,some 3,some 2],(.t 64)),([none],(.t 68)),([none],(.t 72)),([none],(.t 76))] []),
 zm 62 77,
 ze 78 62 0,
 ze 79 62 1,
 ze 80 62 2,
 zo 17 (.obj 17 [z0,z0,.nils,.nils]),
 zo 18 (.obj 18 [z0,z0,z0,z0,z0,z0,z0]),
 zn (.store (.loc 17) [none,none,some 3,some 2] (.t 17) (.t 78)),
 zn (.store (.loc 18) [none,none,none,none,none,none,none] (.t 18) (.t 79)),
 zm 19 80] ⟨[2,3,4,5,10,14,15,17,18,19,58,59],[5,10,14,17,18],[1089]⟩) (
 .seq (
 .seq (
 zr [
 zm 81 19,
 zo 82 (.bin .neq (.t 81) (zc 0))] ⟨[2,3,4,5,10,14,15,17,18,19,58,59,82],[5,10,14,17,18],[1089]⟩) (
 .cond (.t 82) (
 .seq (
 zr [
 zo 83 (.build [z0,z0,.nils,.nils] []),
 zm 84 19,
 zn (.store (.loc 10) [none,none,some 3,some 2] (.t 10) (.t 83)),
 zo 11 (.mv (.c (.nils))),
 zm 12 84] ⟨[10,11,12],[10],[1089]⟩) (
 .ret)) (
 .skip))) (
 .region [.norm 15 1089 7] [5089] [
 zs 85 17 4 17,
 zm 86 15,
 zs 87 18 7 18,
 zo 88 (.lit none [none,none,none,none,none,none,none] [z0,z0,z0,z0,z0,z0,z0] 1 [(0,(.t 87))]),
 zo 89 (.app 5089 (some 1089) [none,none,none,none,none,none,none] 2513169434916 (.t 86) (.t 88)),
 zn (.store (.loc 14) [none,none,some 3,some 2] (.t 14) (.t 85)),
 zm 15 89] ⟨[2,3,4,5,10,14,15,58,59],[5,10,14],[1089]⟩))))) (
 zr [
 zo 90 (.bin .add (.t 59) (zc 1)),
 zm 59 90] ⟨[2,3,4,5,10,14,15,58,59],[5,10,14],[1089]⟩)))
def v_dam_Run_l0:VC:=.loop [.norm 15 1089 7] ⟨[2,3,4,5,10,14,15,58,59],[5,10,14],[1089]⟩ v_dam_Run_b0
abbrev v_dam_Run_s0 (x2:V) (x3:V) (x4:V) (x15:V) (x58:Int) (x59:Int) (o5:List V) (o10:List V) (o14:List V) (k1089:Nat) (G:List GObj):St:=⟨[(2,x2),(3,x3),(4,x4),(5,.lptr 5 0),(10,.lptr 10 0),(14,.lptr 14 0),(15,x15),(58,.int .i64 x58),(59,.int .i64 x59)],[(5,o5),(10,o10),(14,o14)],[(1089,k1089)],G⟩
def v_dam_Run:VFunc where
 nparams:=5
 results:=[.c 10 true [none,none,some 3,some 2],.t 11 [some 7],.t 12 [none]]
 body :=
 .seq (
 .region [] [5,6,10] [
 zo 5 (.box 5 (.t 0)),
 zo 6 (.box 6 (.t 1)),
 zo 10 (.obj 10 [z0,z0,.nils,.nils]),
 zo 11 (.mv (.c (.nils))),
 zo 12 (.mv (zc 0))] ⟨[2,3,4,5,6,10],[5,6,10],[]⟩) (
 .seq (
 .block 0 (
 .seq (
 zr [
 zm 21 2,
 zl 22 21,
 zm 23 3,
 zl 24 23,
 zo 25 (.bin .neq (.t 22) (.t 24)),
 zm 26 25,
 zq 27 26 false (.mv (.t 2)),
 zq 28 26 false (.len (.t 27)),
 zq 29 26 false (.mv (.t 4)),
 zq 30 26 false (.len (.t 29)),
 zq 31 26 false (.bin .neq (.t 28) (.t 30)),
 zo 32 (.pick (.t 26) (.c (.bool true)) (.t 31)),
 zm 20 32] ⟨[2,3,4,5,6,10,20],[5,6,10],[]⟩) (
 .cond (.t 20) (
 .seq (
 zr [
 zo 33 (.build [z0,z0,.nils,.nils] []),
 zn (.store (.loc 10) [none,none,some 3,some 2] (.t 10) (.t 33)),
 zo 11 (.mv (.c (.nils))),
 zo 12 (.mv (zc 3))] ⟨[10,11,12],[10],[1089]⟩) (
 .ret)) (
 .seq (
 zr [
 zm 35 2,
 zl 36 35,
 zo 37 (.bin .gtr (.t 36) (zc 4096)),
 zm 34 37] ⟨[2,3,4,5,6,10,34],[5,6,10],[]⟩) (
 .cond (.t 34) (
 .seq (
 zr [
 zo 38 (.build [z0,z0,.nils,.nils] []),
 zn (.store (.loc 10) [none,none,some 3,some 2] (.t 10) (.t 38)),
 zo 11 (.mv (.c (.nils))),
 zo 12 (.mv (zc 10))] ⟨[10,11,12],[10],[1089]⟩) (
 .ret)) (
 .skip)))))) (
 .seq (
 .seq (
 zr [
 zs 39 5 9 5,
 zs 40 6 4 6,
 zo 41 (.call true (.c (.fn 53 [])) [([some 2,none,none,none,none,none,some 6,some 3,none],(.t 39)),([none,none,some 3,some 2],(.t 40))] []),
 zm 13 41] ⟨[2,3,4,5,6,10,13],[5,6,10],[]⟩) (
 .seq (
 zr [
 zm 42 13,
 zo 43 (.bin .neq (.t 42) (zc 0))] ⟨[2,3,4,5,6,10,13,43],[5,6,10],[]⟩) (
 .cond (.t 43) (
 .seq (
 zr [
 zo 44 (.build [z0,z0,.nils,.nils] []),
 zm 45 13,
 zn (.store (.loc 10) [none,none,some 3,some 2] (.t 10) (.t 44)),
 zo 11 (.mv (.c (.nils))),
 zm 12 45] ⟨[10,11,12],[10],[1089]⟩) (
 .ret)) (
 .skip)))) (
 .seq (
 .region [] [14] [
 zf 46 0 6,
 zj 47 6 46,
 zf 48 1 6,
 zj 49 6 48,
 zf 50 2 6,
 zj 51 6 50,
 zo 52 (.call true (.c (.fn 65 [])) [([some 3],(.t 51))] []),
 zf 53 3 6,
 zj 54 6 53,
 zo 55 (.call true (.c (.fn 66 [])) [([some 2],(.t 54))] []),
 zo 56 (.build [z0,z0,.nils,.nils] [(0,1,(.t 47)),(1,1,(.t 49)),(2,1,(.t 52)),(3,1,(.t 55))]),
 zo 14 (.obj 14 [z0,z0,.nils,.nils]),
 zn (.store (.loc 14) [none,none,some 3,some 2] (.t 14) (.t 56))] ⟨[2,3,4,5,10,14],[5,10,14],[]⟩) (
 .seq (
 zr [
 zo 15 (.mv (.c (.nils)))] ⟨[2,3,4,5,10,14,15],[5,10,14],[1089]⟩) (
 .seq (
 .seq (
 zr [
 zm 57 2,
 zl 58 57,
 zo 59 (.mv (zc 0))] ⟨[2,3,4,5,10,14,15,58,59],[5,10,14],[1089]⟩) (
 .block 1 (
 v_dam_Run_l0))) (
 .seq (
 zr [
 zs 91 14 4 14,
 zm 92 15,
 zn (.store (.loc 10) [none,none,some 3,some 2] (.t 10) (.t 91)),
 zm 11 92,
 zo 12 (.mv (zc 0))] ⟨[10,11,12],[10],[1089]⟩) (
 .ret)))))))
def v_r22_SameRecords_b0:VC :=
 .seq (
 zr [
 zo 14 (.bin .lss (.t 13) (.t 12))] ⟨[0,1,12,13,14],[],[]⟩) (
 .seq (
 .cond (.t 14) (
 .skip) (
 .exit 0)) (
 .seq (
 .block 1 (
 .seq (
 zr [
 zm 15 13,
 zm 5 15] ⟨[0,1,5,12,13],[],[]⟩) (
 .seq (
 zr [
 zm 16 0,
 zm 17 5,
 za 18 7 16 17,
 zo 19 (.load .imm (some 7) (.t 18)),
 zm 20 1,
 zm 21 5,
 za 22 7 20 21,
 zo 23 (.load .imm (some 7) (.t 22)),
 zo 24 (.aeq true [0,0,0,0,0,0,0] (.t 19) (.t 23))] ⟨[0,1,12,13,24],[],[]⟩) (
 .cond (.t 24) (
 .seq (
 zr [
 zo 4 (.mv (.c (.bool false)))] ⟨[4],[],[]⟩) (
 .ret)) (
 .skip))))) (
 zr [
 zo 25 (.bin .add (.t 13) (zc 1)),
 zm 13 25] ⟨[0,1,12,13],[],[]⟩)))
def v_r22_SameRecords_l0:VC:=.loop [] ⟨[0,1,12,13],[],[]⟩ v_r22_SameRecords_b0
abbrev v_r22_SameRecords_s0 (x0:V) (x1:V) (x12:Int) (x13:Int) (G:List GObj):St:=⟨[(0,x0),(1,x1),(12,.int .i64 x12),(13,.int .i64 x13)],[],[],G⟩
def v_r22_SameRecords:VFunc where
 nparams:=2
 results:=[.t 4 [none]]
 body :=
 .seq (
 zr [
 zo 4 (.mv (.c (.bool false)))] ⟨[0,1],[],[]⟩) (
 .seq (
 .seq (
 zr [
 zm 6 0,
 zl 7 6,
 zm 8 1,
 zl 9 8,
 zo 10 (.bin .neq (.t 7) (.t 9))] ⟨[0,1,10],[],[]⟩) (
 .cond (.t 10) (
 .seq (
 zr [
 zo 4 (.mv (.c (.bool false)))] ⟨[4],[],[]⟩) (
 .ret)) (
 .skip))) (
 .seq (
 .seq (
 zr [
 zm 11 0,
 zl 12 11,
 zo 13 (.mv (zc 0))] ⟨[0,1,12,13],[],[]⟩) (
 .block 0 (
 v_r22_SameRecords_l0))) (
 .seq (
 zr [
 zo 4 (.mv (.c (.bool true)))] ⟨[4],[],[]⟩) (
 .ret))))
def v_r22_Run_b0:VC :=
 .seq (
 zr [
 zo 57 (.bin .lss (.t 56) (.t 55))] ⟨[2,3,4,5,6,10,14,55,56,57],[5,6,10],[1048,1051,1086]⟩) (
 .seq (
 .cond (.t 57) (
 .skip) (
 .exit 0)) (
 .seq (
 .block 1 (
 .seq (
 zr [
 zm 58 56,
 zm 15 58] ⟨[2,3,4,5,6,10,14,15,55,56],[5,6,10],[1048,1051,1086]⟩) (
 .seq (
 .region [] [16,17] [
 zs 60 5 9 5,
 zs 61 6 4 6,
 zm 62 2,
 zm 63 15,
 za 64 1 62 63,
 zi 65 64,
 zm 66 3,
 zm 67 15,
 za 68 1 66 67,
 zi 69 68,
 zm 70 4,
 zm 71 15,
 za 72 1 70 71,
 zi 73 72,
 zo 74 (.call true (.c (.fn 26 [])) [([some 2,none,none,none,none,none,some 6,some 3,none],(.t 60)),([none,none,some 3,some 2],(.t 61)),([none],(.t 65)),([none],(.t 69)),([none],(.t 73))] []),
 zm 59 74,
 ze 75 59 0,
 ze 76 59 1,
 ze 77 59 2,
 zo 16 (.obj 16 [z0,z0,.nils,.nils]),
 zo 17 (.obj 17 [z0,z0,z0,z0,z0,z0,z0]),
 zn (.store (.loc 16) [none,none,some 3,some 2] (.t 16) (.t 75)),
 zn (.store (.loc 17) [none,none,none,none,none,none,none] (.t 17) (.t 76)),
 zm 18 77] ⟨[2,3,4,5,6,10,14,16,17,18,55,56],[5,6,10,16,17],[1048,1051,1086]⟩) (
 .seq (
 .seq (
 zr [
 zm 78 18,
 zo 79 (.bin .neq (.t 78) (zc 0))] ⟨[2,3,4,5,6,10,14,16,17,18,55,56,79],[5,6,10,16,17],[1048,1051,1086]⟩) (
 .cond (.t 79) (
 .seq (
 zr [
 zo 80 (.build [z0,z0,.nils,.nils] []),
 zm 81 18,
 zn (.store (.loc 10) [none,none,some 3,some 2] (.t 10) (.t 80)),
 zo 11 (.mv (.c (.nils))),
 zm 12 81] ⟨[10,11,12],[10],[1048,1051,1086]⟩) (
 .ret)) (
 .skip))) (
 .region [.norm 14 1086 7] [5086] [
 zs 82 16 4 16,
 zm 83 14,
 zs 84 17 7 17,
 zo 85 (.lit none [none,none,none,none,none,none,none] [z0,z0,z0,z0,z0,z0,z0] 1 [(0,(.t 84))]),
 zo 86 (.app 5086 (some 1086) [none,none,none,none,none,none,none] 2513169434916 (.t 83) (.t 85)),
 zn (.store (.loc 6) [none,none,some 3,some 2] (.t 6) (.t 82)),
 zm 14 86] ⟨[2,3,4,5,6,10,14,55,56],[5,6,10],[1048,1051,1086]⟩))))) (
 zr [
 zo 87 (.bin .add (.t 56) (zc 1)),
 zm 56 87] ⟨[2,3,4,5,6,10,14,55,56],[5,6,10],[1048,1051,1086]⟩)))
def v_r22_Run_l0:VC:=.loop [.norm 14 1086 7] ⟨[2,3,4,5,6,10,14,55,56],[5,6,10],[1048,1051,1086]⟩ v_r22_Run_b0
abbrev v_r22_Run_s0 (x2:V) (x3:V) (x4:V) (x14:V) (x55:Int) (x56:Int) (o5:List V) (o6:List V) (o10:List V) (k1048:Nat) (k1051:Nat) (k1086:Nat) (G:List GObj):St:=⟨[(2,x2),(3,x3),(4,x4),(5,.lptr 5 0),(6,.lptr 6 0),(10,.lptr 10 0),(14,x14),(55,.int .i64 x55),(56,.int .i64 x56)],[(5,o5),(6,o6),(10,o10)],[(1048,k1048),(1051,k1051),(1086,k1086)],G⟩
def v_r22_Run:VFunc where
 nparams:=5
 results:=[.c 10 true [none,none,some 3,some 2],.t 11 [some 7],.t 12 [none]]
 body :=
 .seq (
 .region [] [5,6,10] [
 zo 5 (.box 5 (.t 0)),
 zo 6 (.box 6 (.t 1)),
 zo 10 (.obj 10 [z0,z0,.nils,.nils]),
 zo 11 (.mv (.c (.nils))),
 zo 12 (.mv (zc 0))] ⟨[2,3,4,5,6,10],[5,6,10],[1048,1051]⟩) (
 .seq (
 .seq (
 zr [
 zm 19 2,
 zl 20 19,
 zm 21 3,
 zl 22 21,
 zo 23 (.bin .neq (.t 20) (.t 22)),
 zm 24 23,
 zq 25 24 false (.mv (.t 2)),
 zq 26 24 false (.len (.t 25)),
 zq 27 24 false (.mv (.t 4)),
 zq 28 24 false (.len (.t 27)),
 zq 29 24 false (.bin .neq (.t 26) (.t 28)),
 zo 30 (.pick (.t 24) (.c (.bool true)) (.t 29))] ⟨[2,3,4,5,6,10,30],[5,6,10],[1048,1051]⟩) (
 .cond (.t 30) (
 .seq (
 zr [
 zo 31 (.build [z0,z0,.nils,.nils] []),
 zn (.store (.loc 10) [none,none,some 3,some 2] (.t 10) (.t 31)),
 zo 11 (.mv (.c (.nils))),
 zo 12 (.mv (zc 3))] ⟨[10,11,12],[10],[1048,1051,1086]⟩) (
 .ret)) (
 .skip))) (
 .seq (
 .seq (
 zr [
 zm 32 2,
 zl 33 32,
 zo 34 (.bin .gtr (.t 33) (zc 4096))] ⟨[2,3,4,5,6,10,34],[5,6,10],[1048,1051]⟩) (
 .cond (.t 34) (
 .seq (
 zr [
 zo 35 (.build [z0,z0,.nils,.nils] []),
 zn (.store (.loc 10) [none,none,some 3,some 2] (.t 10) (.t 35)),
 zo 11 (.mv (.c (.nils))),
 zo 12 (.mv (zc 10))] ⟨[10,11,12],[10],[1048,1051,1086]⟩) (
 .ret)) (
 .skip))) (
 .seq (
 .seq (
 zr [
 zm 36 2,
 zl 37 36,
 zo 38 (.bin .eql (.t 37) (zc 0))] ⟨[2,3,4,5,6,10,38],[5,6,10],[1048,1051]⟩) (
 .cond (.t 38) (
 .seq (
 zr [
 zs 39 5 9 5,
 zs 40 6 4 6,
 zo 41 (.call true (.c (.fn 55 [])) [([some 2,none,none,none,none,none,some 6,some 3,none],(.t 39)),([none,none,some 3,some 2],(.t 40))] []),
 zm 13 41] ⟨[2,3,4,5,6,10,13],[5,6,10],[1048,1051]⟩) (
 .seq (
 zr [
 zm 42 13,
 zo 43 (.bin .neq (.t 42) (zc 0))] ⟨[2,3,4,5,6,10,13,43],[5,6,10],[1048,1051]⟩) (
 .cond (.t 43) (
 .seq (
 zr [
 zo 44 (.build [z0,z0,.nils,.nils] []),
 zm 45 13,
 zn (.store (.loc 10) [none,none,some 3,some 2] (.t 10) (.t 44)),
 zo 11 (.mv (.c (.nils))),
 zm 12 45] ⟨[10,11,12],[10],[1048,1051,1086]⟩) (
 .ret)) (
 .skip)))) (
 .skip))) (
 .seq (
 .region [] [1048,1051] [
 zf 46 2 6,
 zj 47 6 46,
 zo 48 (.app 1048 none [none,none,none] 5864062014805 (.c (.nils)) (.t 47)),
 zf 49 3 6,
 zj 50 6 49,
 zo 51 (.app 1051 none [none,none] 8796093022208 (.c (.nils)) (.t 50)),
 zf 52 2 6,
 zn (.store (.loc 6) [some 3] (.t 52) (.t 48)),
 zf 53 3 6,
 zn (.store (.loc 6) [some 2] (.t 53) (.t 51))] ⟨[2,3,4,5,6,10],[5,6,10],[1048,1051]⟩) (
 .seq (
 zr [
 zo 14 (.mv (.c (.nils)))] ⟨[2,3,4,5,6,10,14],[5,6,10],[1048,1051,1086]⟩) (
 .seq (
 .seq (
 zr [
 zm 54 2,
 zl 55 54,
 zo 56 (.mv (zc 0))] ⟨[2,3,4,5,6,10,14,55,56],[5,6,10],[1048,1051,1086]⟩) (
 .block 0 (
 v_r22_Run_l0))) (
 .seq (
 zr [
 zs 88 6 4 6,
 zm 89 14,
 zn (.store (.loc 10) [none,none,some 3,some 2] (.t 10) (.t 88)),
 zm 11 89,
 zo 12 (.mv (zc 0))] ⟨[10,11,12],[10],[1048,1051,1086]⟩) (
 .ret))))))))
def v_r22_Flow:VFunc where
 nparams:=1
 results:=[.t 2 [none]]
 body :=
 .seq (
 .region [] [1] [
 zo 1 (.box 1 (.t 0)),
 zo 2 (.mv (zc 0))] ⟨[1],[1],[]⟩) (
 .seq (
 zr [
 zf 3 2 1,
 zj 4 1 3,
 zf 5 3 1,
 zj 6 1 5,
 zo 7 (.bin .add (.t 4) (.t 6)),
 zf 8 4 1,
 zj 9 1 8,
 zo 10 (.bin .add (.t 7) (.t 9)),
 zm 2 10] ⟨[2],[],[]⟩) (
 .ret))
def v_r22_Balance_b0:VC :=
 .seq (
 zr [
 zo 26 (.bin .lss (.t 25) (.t 24))] ⟨[3,4,5,23,24,25,26],[3,4,5],[]⟩) (
 .seq (
 .cond (.t 26) (
 .skip) (
 .exit 0)) (
 .seq (
 .block 1 (
 .seq (
 zr [
 za 27 1 23 25,
 zi 28 27,
 zm 8 28] ⟨[3,4,5,8,23,24,25],[3,4,5],[]⟩) (
 .seq (
 zr [
 zm 29 8,
 zo 30 (.call true (.c (.fn 43 [])) [([none],(.t 29)),([none],(zc 274877906944))] []),
 zo 31 (.un .not (.t 30))] ⟨[3,4,5,23,24,25,31],[3,4,5],[]⟩) (
 .cond (.t 31) (
 .seq (
 zr [
 zo 6 (.mv (.c (.bool false)))] ⟨[6],[],[]⟩) (
 .ret)) (
 .skip))))) (
 zr [
 zo 32 (.bin .add (.t 25) (zc 1)),
 zm 25 32] ⟨[3,4,5,23,24,25],[3,4,5],[]⟩)))
def v_r22_Balance_l0:VC:=.loop [] ⟨[3,4,5,23,24,25],[3,4,5],[]⟩ v_r22_Balance_b0
abbrev v_r22_Balance_s0 (x23:V) (x24:Int) (x25:Int) (o3:List V) (o4:List V) (o5:List V) (G:List GObj):St:=⟨[(3,.lptr 3 0),(4,.lptr 4 0),(5,.lptr 5 0),(23,x23),(24,.int .i64 x24),(25,.int .i64 x25)],[(3,o3),(4,o4),(5,o5)],[],G⟩
def v_r22_Balance:VFunc where
 nparams:=3
 results:=[.t 6 [none]]
 body :=
 .seq (
 .region [] [3,4,5] [
 zo 3 (.box 3 (.t 0)),
 zo 4 (.box 4 (.t 1)),
 zo 5 (.box 5 (.t 2)),
 zo 6 (.mv (.c (.bool false)))] ⟨[3,4,5],[3,4,5],[]⟩) (
 .seq (
 .seq (
 zr [
 zf 9 0 3,
 zj 10 3 9,
 zf 11 0 4,
 zj 12 4 11,
 zf 13 0 5,
 zj 14 5 13,
 zf 15 1 5,
 zj 16 5 15,
 zf 17 2 5,
 zj 18 5 17,
 zf 19 3 5,
 zj 20 5 19,
 zf 21 4 5,
 zj 22 5 21,
 zo 23 (.lit none [none] [z0] 7 [(0,(.t 10)),(1,(.t 12)),(2,(.t 14)),(3,(.t 16)),(4,(.t 18)),(5,(.t 20)),(6,(.t 22))]),
 zl 24 23,
 zo 25 (.mv (zc 0))] ⟨[3,4,5,23,24,25],[3,4,5],[]⟩) (
 .block 0 (
 v_r22_Balance_l0))) (
 .seq (
 zr [
 zf 33 0 4,
 zj 34 4 33,
 zf 35 0 3,
 zj 36 3 35,
 zf 37 0 5,
 zj 38 5 37,
 zo 39 (.bin .add (.t 36) (.t 38)),
 zf 40 1 5,
 zj 41 5 40,
 zo 42 (.bin .sub (.t 39) (.t 41)),
 zf 43 2 5,
 zj 44 5 43,
 zo 45 (.bin .sub (.t 42) (.t 44)),
 zf 46 3 5,
 zj 47 5 46,
 zo 48 (.bin .sub (.t 45) (.t 47)),
 zf 49 4 5,
 zj 50 5 49,
 zo 51 (.bin .sub (.t 48) (.t 50)),
 zo 52 (.bin .eql (.t 34) (.t 51)),
 zm 6 52] ⟨[6],[],[]⟩) (
 .ret)))
def v_mk_Reservoir_b0:VC :=
 .seq (
 zr [
 zo 31 (.bin .lss (.t 30) (zc 5))] ⟨[0,2,3,4,5,6,30,31],[2,3,6],[]⟩) (
 .seq (
 .cond (.t 31) (
 .skip) (
 .exit 0)) (
 .seq (
 .block 1 (
 .seq (
 zr [
 zm 32 30,
 zm 7 32] ⟨[0,2,3,4,5,6,7,30],[2,3,6],[]⟩) (
 .seq (
 zr [
 zm 33 4,
 zm 34 0,
 zm 35 5,
 zm 36 4,
 zo 37 (.bin .sub (.t 35) (.t 36)),
 zm 38 7,
 zo 39 (.bin .sub (zc 5) (.t 38)),
 zo 40 (.bin .quo (.t 37) (.t 39)),
 zo 41 (.bin .add (.t 40) (zc 1)),
 zo 42 (.call false (.c (.fn 10 [])) [([none],(.t 34)),([none],(.t 41))] []),
 zo 43 (.bin .add (.t 33) (.t 42)),
 zm 4 43] ⟨[0,2,3,4,5,6,7,30],[2,3,6],[]⟩) (
 zr [
 zm 44 7,
 zm 45 4,
 zo 46 (.iaddr (some 5) 1 (.t 6) (.t 44)),
 zn (.store (.loc 6) [none] (.t 46) (.t 45))] ⟨[0,2,3,4,5,6,30],[2,3,6],[]⟩)))) (
 zr [
 zo 47 (.bin .add (.t 30) (zc 1)),
 zm 30 47] ⟨[0,2,3,4,5,6,30],[2,3,6],[]⟩)))
def v_mk_Reservoir_l0:VC:=.loop [] ⟨[0,2,3,4,5,6,30],[2,3,6],[]⟩ v_mk_Reservoir_b0
abbrev v_mk_Reservoir_s0 (x0:V) (x4:Int) (x5:Int) (x30:Int) (o2:List V) (o3:List V) (o6:List V) (G:List GObj):St:=⟨[(0,x0),(2,.lptr 2 0),(3,.lptr 3 0),(4,.int .i64 x4),(5,.int .i64 x5),(6,.lptr 6 0),(30,.int .i64 x30)],[(2,o2),(3,o3),(6,o6)],[],G⟩
def v_mk_Reservoir:VFunc where
 nparams:=1
 results:=[.c 2 true [some 2,none,none,none,none,none]]
 body :=
 .seq (
 .region [] [2] [
 zo 2 (.obj 2 [.nils,z0,z0,z0,z0,z0])] ⟨[0,2],[2],[]⟩) (
 .seq (
 .region [] [3] [
 zm 8 0,
 zm 9 0,
 zo 10 (.call false (.c (.fn 10 [])) [([none],(.t 9)),([none],(zc 10))] []),
 zo 11 (.bin .add (zc 100) (.t 10)),
 zm 12 0,
 zo 13 (.call false (.c (.fn 10 [])) [([none],(.t 12)),([none],(zc 20))] []),
 zo 14 (.call false (.c (.fn 67 [])) [([none],(.t 8)),([none],(.t 11)),([none],(.t 13)),([none],(zc 40)),([none],(zc 200)),([none],(.c (.bool true)))] []),
 zo 15 (.build [.nils,z0,z0,z0,z0,z0] [(0,1,(.t 14))]),
 zo 3 (.obj 3 [.nils,z0,z0,z0,z0,z0]),
 zn (.store (.loc 3) [some 2,none,none,none,none,none] (.t 3) (.t 15))] ⟨[0,2,3],[2,3],[]⟩) (
 .seq (
 zr [
 zf 16 0 3,
 zj 17 3 16,
 zo 18 (.iaddr none 2 (.t 17) (zc 0)),
 zf 19 0 18,
 zi 20 19,
 zm 4 20] ⟨[0,2,3,4],[2,3],[]⟩) (
 .seq (
 zr [
 zf 21 0 3,
 zj 22 3 21,
 zf 23 0 3,
 zj 24 3 23,
 zl 25 24,
 zo 26 (.bin .sub (.t 25) (zc 1)),
 za 27 2 22 26,
 zf 28 0 27,
 zi 29 28,
 zm 5 29] ⟨[0,2,3,4,5],[2,3],[]⟩) (
 .seq (
 .region [] [6] [
 zo 6 (.obj 6 [z0,z0,z0,z0,z0])] ⟨[0,2,3,4,5,6],[2,3,6],[]⟩) (
 .seq (
 .seq (
 zr [
 zo 30 (.mv (zc 0))] ⟨[0,2,3,4,5,6,30],[2,3,6],[]⟩) (
 .block 0 (
 v_mk_Reservoir_l0))) (
 .seq (
 zr [
 zo 48 (.iaddr (some 5) 1 (.t 6) (zc 0)),
 zj 49 6 48,
 zo 50 (.iaddr (some 5) 1 (.t 6) (zc 1)),
 zj 51 6 50,
 zo 52 (.iaddr (some 5) 1 (.t 6) (zc 2)),
 zj 53 6 52,
 zo 54 (.iaddr (some 5) 1 (.t 6) (zc 3)),
 zj 55 6 54,
 zo 56 (.iaddr (some 5) 1 (.t 6) (zc 4)),
 zj 57 6 56,
 zf 58 1 3,
 zn (.store (.loc 3) [none] (.t 58) (.t 49)),
 zf 59 2 3,
 zn (.store (.loc 3) [none] (.t 59) (.t 51)),
 zf 60 3 3,
 zn (.store (.loc 3) [none] (.t 60) (.t 53)),
 zf 61 4 3,
 zn (.store (.loc 3) [none] (.t 61) (.t 55)),
 zf 62 5 3,
 zn (.store (.loc 3) [none] (.t 62) (.t 57))] ⟨[2,3],[2,3],[]⟩) (
 .seq (
 zr [
 zs 63 3 6 3,
 zn (.store (.loc 2) [some 2,none,none,none,none,none] (.t 2) (.t 63))] ⟨[2],[2],[]⟩) (
 .ret))))))))
def v_mk_Units_b0:VC :=
 .seq (
 .seq (
 zr [
 zm 14 8,
 zo 15 (.bin .gtr (.t 14) (zc 0))] ⟨[0,6,7,8,15],[],[1023,1029]⟩) (
 .cond (.t 15) (
 .skip) (
 .exit 0))) (
 .seq (
 .block 1 (
 .seq (
 .region [] [9] [
 zm 18 0,
 zo 19 (.call false (.c (.fn 68 [])) [([none],(.t 18))] []),
 zo 9 (.obj 9 [.nils,z0,z0,.nils,z0,z0]),
 zn (.store (.loc 9) [some 2,none,none,some 2,none,none] (.t 9) (.t 19))] ⟨[0,6,7,8,9],[9],[1023,1029]⟩) (
 .region [.norm 6 1023 6,.norm 7 1029 3] [5023,5029] [
 zm 20 6,
 zs 21 9 6 9,
 zo 22 (.lit none [some 2,none,none,some 2,none,none] [.slice none 2 [],z0,z0,.slice none 2 [],z0,z0] 1 [(0,(.t 21))]),
 zo 23 (.app 5023 (some 1023) [some 2,none,none,some 2,none,none] 1759218604441 (.t 20) (.t 22)),
 zm 24 7,
 zm 25 0,
 zs 26 9 6 9,
 zo 27 (.call false (.c (.fn 69 [])) [([none],(.t 25)),([some 2,none,none,some 2,none,none],(.t 26))] []),
 zo 28 (.lit none [none,none,none] [z0,z0,.bool false] 1 [(0,(.t 27))]),
 zo 29 (.app 5029 (some 1029) [none,none,none] 5864062014805 (.t 24) (.t 28)),
 zm 6 23,
 zm 7 29] ⟨[0,6,7,8],[],[1023,1029]⟩))) (
 zr [
 zm 16 8,
 zo 17 (.bin .sub (.t 16) (zc 1)),
 zm 8 17] ⟨[0,6,7,8],[],[1023,1029]⟩))
def v_mk_Units_l0:VC:=.loop [.norm 6 1023 6,.norm 7 1029 3] ⟨[0,6,7,8],[],[1023,1029]⟩ v_mk_Units_b0
abbrev v_mk_Units_s0 (x0:V) (x6:V) (x7:V) (x8:Int) (k1023:Nat) (k1029:Nat) (G:List GObj):St:=⟨[(0,x0),(6,x6),(7,x7),(8,.int .i64 x8)],[],[(1023,k1023),(1029,k1029)],G⟩
def v_mk_Units:VFunc where
 nparams:=2
 results:=[.t 4 [some 6],.t 5 [some 3]]
 body :=
 .seq (
 zr [
 zo 4 (.mv (.c (.nils))),
 zo 5 (.mv (.c (.nils)))] ⟨[0,1],[],[]⟩) (
 .seq (
 zr [
 zo 6 (.mv (.c (.nils)))] ⟨[0,1,6],[],[1023]⟩) (
 .seq (
 zr [
 zo 7 (.mv (.c (.nils)))] ⟨[0,1,6,7],[],[1023,1029]⟩) (
 .seq (
 .seq (
 zr [
 zm 10 0,
 zm 11 1,
 zo 12 (.bin .add (.t 11) (zc 1)),
 zo 13 (.call false (.c (.fn 10 [])) [([none],(.t 10)),([none],(.t 12))] []),
 zm 8 13] ⟨[0,6,7,8],[],[1023,1029]⟩) (
 .block 0 (
 v_mk_Units_l0))) (
 .seq (
 zr [
 zm 30 6,
 zm 31 7,
 zm 4 30,
 zm 5 31] ⟨[4,5],[],[1023,1029]⟩) (
 .ret)))))
def v_mk_Gates_b0:VC :=
 .seq (
 .seq (
 zr [
 zm 14 8,
 zo 15 (.bin .gtr (.t 14) (zc 0))] ⟨[0,6,7,8,15],[],[1023,1035]⟩) (
 .cond (.t 15) (
 .skip) (
 .exit 0))) (
 .seq (
 .block 1 (
 .seq (
 .region [] [9] [
 zm 18 0,
 zo 19 (.call false (.c (.fn 70 [])) [([none],(.t 18))] []),
 zo 9 (.obj 9 [.nils,z0,z0]),
 zn (.store (.loc 9) [some 2,none,none] (.t 9) (.t 19))] ⟨[0,6,7,8,9],[9],[1023,1035]⟩) (
 .region [.norm 6 1023 3,.norm 7 1035 2] [5023,5035] [
 zm 20 6,
 zs 21 9 3 9,
 zo 22 (.lit none [some 2,none,none] [.slice none 2 [],z0,z0] 1 [(0,(.t 21))]),
 zo 23 (.app 5023 (some 1023) [some 2,none,none] 3518437208883 (.t 20) (.t 22)),
 zm 24 7,
 zm 25 0,
 zf 26 1 9,
 zj 27 9 26,
 zo 28 (.bin .add (.t 27) (zc 1)),
 zo 29 (.call false (.c (.fn 10 [])) [([none],(.t 25)),([none],(.t 28))] []),
 zm 30 0,
 zo 31 (.call false (.c (.fn 10 [])) [([none],(.t 30)),([none],(zc 7))] []),
 zo 32 (.bin .eql (.t 31) (zc 6)),
 zo 33 (.build [z0,.bool false] [(0,1,(.t 29)),(1,1,(.t 32))]),
 zo 34 (.lit none [none,none] [z0,.bool false] 1 [(0,(.t 33))]),
 zo 35 (.app 5035 (some 1035) [none,none] 8796093022208 (.t 24) (.t 34)),
 zm 6 23,
 zm 7 35] ⟨[0,6,7,8],[],[1023,1035]⟩))) (
 zr [
 zm 16 8,
 zo 17 (.bin .sub (.t 16) (zc 1)),
 zm 8 17] ⟨[0,6,7,8],[],[1023,1035]⟩))
def v_mk_Gates_l0:VC:=.loop [.norm 6 1023 3,.norm 7 1035 2] ⟨[0,6,7,8],[],[1023,1035]⟩ v_mk_Gates_b0
abbrev v_mk_Gates_s0 (x0:V) (x6:V) (x7:V) (x8:Int) (k1023:Nat) (k1035:Nat) (G:List GObj):St:=⟨[(0,x0),(6,x6),(7,x7),(8,.int .i64 x8)],[],[(1023,k1023),(1035,k1035)],G⟩
def v_mk_Gates:VFunc where
 nparams:=2
 results:=[.t 4 [some 3],.t 5 [some 2]]
 body :=
 .seq (
 zr [
 zo 4 (.mv (.c (.nils))),
 zo 5 (.mv (.c (.nils)))] ⟨[0,1],[],[]⟩) (
 .seq (
 zr [
 zo 6 (.mv (.c (.nils)))] ⟨[0,1,6],[],[1023]⟩) (
 .seq (
 zr [
 zo 7 (.mv (.c (.nils)))] ⟨[0,1,6,7],[],[1023,1035]⟩) (
 .seq (
 .seq (
 zr [
 zm 10 0,
 zm 11 1,
 zo 12 (.bin .add (.t 11) (zc 1)),
 zo 13 (.call false (.c (.fn 10 [])) [([none],(.t 10)),([none],(.t 12))] []),
 zm 8 13] ⟨[0,6,7,8],[],[1023,1035]⟩) (
 .block 0 (
 v_mk_Gates_l0))) (
 .seq (
 zr [
 zm 36 6,
 zm 37 7,
 zm 4 36,
 zm 5 37] ⟨[4,5],[],[1023,1035]⟩) (
 .ret)))))
def v_r03_wrong:VFunc where
 nparams:=2
 results:=[.t 4 [none]]
 body :=
 .seq (
 .region [] [2] [
 zo 2 (.box 2 (.t 0)),
 zo 4 (.mv (zc 0))] ⟨[1,2],[2],[]⟩) (
 .seq (
 .seq (
 zr [
 zs 6 2 6 2,
 zo 7 (.call true (.c (.fn 49 [])) [([some 2,none,none,none,none,none],(.t 6))] []),
 zm 5 7] ⟨[1,5],[],[]⟩) (
 .seq (
 zr [
 zm 8 5,
 zo 9 (.bin .neq (.t 8) (zc 0))] ⟨[1,5,9],[],[]⟩) (
 .cond (.t 9) (
 .seq (
 zr [
 zm 10 5,
 zm 4 10] ⟨[4],[],[]⟩) (
 .ret)) (
 .skip)))) (
 .seq (
 .seq (
 zr [
 zm 11 1,
 zo 12 (.call true (.c (.fn 43 [])) [([none],(.t 11)),([none],(zc 16777216))] []),
 zo 13 (.un .not (.t 12))] ⟨[13],[],[]⟩) (
 .cond (.t 13) (
 .seq (
 zr [
 zo 4 (.mv (zc 1))] ⟨[4],[],[]⟩) (
 .ret)) (
 .skip))) (
 .seq (
 zr [
 zo 4 (.mv (zc 0))] ⟨[4],[],[]⟩) (
 .ret))))
def v_r02_At:VFunc where
 nparams:=2
 results:=[.t 4 [none],.t 5 [none]]
 body :=
 .seq (
 zr [
 zo 4 (.mv (zc 0)),
 zo 5 (.mv (zc 0))] ⟨[0,1],[],[]⟩) (
 .seq (
 .seq (
 zr [
 zm 7 0,
 zo 8 (.call true (.c (.fn 71 [])) [([some 2],(.t 7))] []),
 zm 6 8] ⟨[0,1,6],[],[]⟩) (
 .seq (
 zr [
 zm 9 6,
 zo 10 (.bin .neq (.t 9) (zc 0))] ⟨[0,1,6,10],[],[]⟩) (
 .cond (.t 10) (
 .seq (
 zr [
 zm 11 6,
 zo 4 (.mv (zc 0)),
 zm 5 11] ⟨[4,5],[],[]⟩) (
 .ret)) (
 .skip)))) (
 .seq (
 zr [
 zm 12 0,
 zm 13 1,
 zo 14 (.call true (.c (.fn 72 [])) [([some 2],(.t 12)),([none],(.t 13))] []),
 zm 4 14,
 zo 5 (.mv (zc 0))] ⟨[4,5],[],[]⟩) (
 .ret)))
def v_slices_ContainsFunc_int_int:VFunc where
 nparams:=2
 results:=[.t 4 [none]]
 body :=
 .seq (
 zr [
 zo 4 (.mv (.c (.bool false)))] ⟨[0,1],[],[]⟩) (
 .seq (
 zr [
 zm 5 0,
 zm 6 1,
 zo 7 (.call false (.c (.fn 73 [])) [([some 1],(.t 5)),([none],(.t 6))] []),
 zo 8 (.bin .geq (.t 7) (zc 0)),
 zm 4 8] ⟨[4],[],[]⟩) (
 .ret))
def v_dam_Step_1:VFunc where
 nparams:=1
 results:=[.t 2 [none]]
 body :=
 .seq (
 zr [
 zo 2 (.mv (.c (.bool false)))] ⟨[0],[],[]⟩) (
 .seq (
 zr [
 zm 3 0,
 zo 4 (.call true (.c (.fn 41 [])) [([none],(.t 3)),([none],(zc 1073741824))] []),
 zo 5 (.un .not (.t 4)),
 zm 2 5] ⟨[2],[],[]⟩) (
 .ret))
def v_quantity_Within:VFunc where
 nparams:=2
 results:=[.t 4 [none]]
 body :=
 .seq (
 zr [
 zo 4 (.mv (.c (.bool false)))] ⟨[0,1],[],[]⟩) (
 .seq (
 zr [
 zm 5 0,
 zo 6 (.bin .geq (.t 5) (zc 0)),
 zm 7 6,
 zq 8 7 true (.mv (.t 0)),
 zq 9 7 true (.mv (.t 1)),
 zq 10 7 true (.bin .leq (.t 8) (.t 9)),
 zo 11 (.pick (.t 7) (.t 10) (.c (.bool false))),
 zm 4 11] ⟨[4],[],[]⟩) (
 .ret))
def v_dam_work_run:VFunc where
 nparams:=1
 results:=[]
 defs:=[74,75,76]
 body :=
 .seq (
 zr [
 zm 5 0,
 zm 6 0,
 zk 7 6,
 zf 8 9 7,
 zf 9 0 8,
 zg 10 9,
 zm 11 0,
 zk 12 11,
 zf 13 17 12,
 zf 14 0 13,
 zg 15 14,
 zo 16 (.bin .add (.t 10) (.t 15)),
 zk 17 5,
 zf 18 25 17,
 zn (.store .glob [none] (.t 18) (.t 16))] ⟨[0],[],[]⟩) (
 .seq (
 zr [
 zm 19 0,
 zm 20 0,
 zk 21 20,
 zf 22 17 21,
 zf 23 1 22,
 zg 24 23,
 zm 25 0,
 zk 26 25,
 zf 27 25 26,
 zg 28 27,
 zo 29 (.mm false (.t 24) (.t 28)),
 zk 30 19,
 zf 31 17 30,
 zf 32 1 31,
 zn (.store .glob [none] (.t 32) (.t 29))] ⟨[0],[],[]⟩) (
 zr [
 zm 33 0,
 zk 34 33,
 zf 35 25 34,
 zg 36 35,
 zm 37 0,
 zk 38 37,
 zf 39 17 38,
 zf 40 1 39,
 zg 41 40,
 zo 42 (.bin .sub (.t 36) (.t 41)),
 zk 43 33,
 zf 44 25 43,
 zn (.store .glob [none] (.t 44) (.t 42))] ⟨[],[],[]⟩))
def v_r01_In:VFunc where
 nparams:=2
 results:=[.t 4 [none]]
 body :=
 .seq (
 zr [
 zo 4 (.mv (.c (.bool false)))] ⟨[0,1],[],[]⟩) (
 .seq (
 zr [
 zm 5 0,
 zm 6 1,
 zo 7 (.call true (.c (.fn 77 [])) [([none],(.t 5)),([none],(.t 6))] []),
 zm 4 7] ⟨[4],[],[]⟩) (
 .ret))
def v_r18_Valid:VFunc where
 nparams:=2
 results:=[.t 4 [none]]
 body :=
 .seq (
 .region [] [2,3] [
 zo 2 (.box 2 (.t 0)),
 zo 3 (.box 3 (.t 1)),
 zo 4 (.mv (.c (.bool false)))] ⟨[2,3],[2,3],[]⟩) (
 .seq (
 zr [
 zs 5 2 6 2,
 zo 6 (.call true (.c (.fn 50 [])) [([some 2,none,none,some 2,none,none],(.t 5))] []),
 zo 7 (.bin .eql (.t 6) (zc 0)),
 zm 8 7,
 zq 9 8 true (.faddr 1 (.t 3)),
 zq 10 8 true (.load (.loc 3) none (.t 9)),
 zq 11 8 true (.call true (.c (.fn 43 [])) [([none],(.t 10)),([none],(zc 1000))] []),
 zo 12 (.pick (.t 8) (.t 11) (.c (.bool false))),
 zm 13 12,
 zq 14 13 true (.faddr 0 (.t 3)),
 zq 15 13 true (.load (.loc 3) none (.t 14)),
 zq 16 13 true (.bin .eql (.t 15) (zc 0)),
 zq 17 13 true (.mv (.t 16)),
 zq 18 17 false (.load (.loc 2) (some 6) (.t 2)),
 zq 19 17 false (.faddr 0 (.t 3)),
 zq 20 17 false (.load (.loc 3) none (.t 19)),
 zq 21 17 false (.call true (.c (.fn 78 [])) [([some 2,none,none,some 2,none,none],(.t 18)),([none],(.t 20))] []),
 zq 22 17 false (.mv (.t 21)),
 zq 23 22 true (.faddr 2 (.t 3)),
 zq 24 22 true (.load (.loc 3) none (.t 23)),
 zq 25 22 true (.un .not (.t 24)),
 zq 26 17 false (.pick (.t 22) (.t 25) (.c (.bool false))),
 zq 27 13 true (.pick (.t 17) (.c (.bool true)) (.t 26)),
 zo 28 (.pick (.t 13) (.t 27) (.c (.bool false))),
 zm 4 28] ⟨[4],[],[]⟩) (
 .ret))
def v_r20_Valid:VFunc where
 nparams:=2
 results:=[.t 4 [none]]
 body :=
 .seq (
 .region [] [2,3] [
 zo 2 (.box 2 (.t 0)),
 zo 3 (.box 3 (.t 1)),
 zo 4 (.mv (.c (.bool false)))] ⟨[2,3],[2,3],[]⟩) (
 .seq (
 zr [
 zf 5 0 3,
 zj 6 3 5,
 zf 7 1 2,
 zj 8 2 7,
 zo 9 (.call true (.c (.fn 43 [])) [([none],(.t 6)),([none],(.t 8))] []),
 zm 4 9] ⟨[4],[],[]⟩) (
 .ret))
def v_storage_Check_b0:VC :=
 .seq (
 .seq (
 zr [
 zm 29 5,
 zm 30 4,
 zo 31 (.bin .lss (.t 29) (.t 30))] ⟨[1,4,5,31],[1],[]⟩) (
 .cond (.t 31) (
 .skip) (
 .exit 1))) (
 .seq (
 .block 2 (
 .seq (
 zr [
 zf 34 0 1,
 zj 35 1 34,
 zm 36 5,
 za 37 2 35 36,
 zf 38 1 37,
 zi 39 38,
 zf 40 0 1,
 zj 41 1 40,
 zm 42 5,
 zo 43 (.bin .sub (.t 42) (zc 1)),
 za 44 2 41 43,
 zf 45 1 44,
 zi 46 45,
 zo 47 (.bin .leq (.t 39) (.t 46))] ⟨[1,4,5,47],[1],[]⟩) (
 .cond (.t 47) (
 .seq (
 zr [
 zo 2 (.mv (zc 4))] ⟨[2],[],[]⟩) (
 .ret)) (
 .skip)))) (
 zr [
 zm 32 5,
 zo 33 (.bin .add (.t 32) (zc 1)),
 zm 5 33] ⟨[1,4,5],[1],[]⟩))
def v_storage_Check_l0:VC:=.loop [] ⟨[1,4,5],[1],[]⟩ v_storage_Check_b0
abbrev v_storage_Check_s0 (x4:Int) (x5:Int) (o1:List V) (G:List GObj):St:=⟨[(1,.lptr 1 0),(4,.int .i64 x4),(5,.int .i64 x5)],[(1,o1)],[],G⟩
def v_storage_Check_b1:VC :=
 .seq (
 .seq (
 zr [
 zm 71 7,
 zo 72 (.bin .lss (.t 71) (zc 7))] ⟨[6,7,72],[6],[]⟩) (
 .cond (.t 72) (
 .skip) (
 .exit 3))) (
 .seq (
 .block 4 (
 .seq (
 zr [
 zm 75 7,
 zo 76 (.iaddr (some 7) 1 (.t 6) (.t 75)),
 zj 77 6 76,
 zm 78 7,
 zo 79 (.bin .sub (.t 78) (zc 1)),
 zo 80 (.iaddr (some 7) 1 (.t 6) (.t 79)),
 zj 81 6 80,
 zo 82 (.bin .lss (.t 77) (.t 81))] ⟨[6,7,82],[6],[]⟩) (
 .cond (.t 82) (
 .seq (
 zr [
 zo 2 (.mv (zc 4))] ⟨[2],[],[]⟩) (
 .ret)) (
 .skip)))) (
 zr [
 zm 73 7,
 zo 74 (.bin .add (.t 73) (zc 1)),
 zm 7 74] ⟨[6,7],[6],[]⟩))
def v_storage_Check_l1:VC:=.loop [] ⟨[6,7],[6],[]⟩ v_storage_Check_b1
abbrev v_storage_Check_s1 (x7:Int) (o6:List V) (G:List GObj):St:=⟨[(6,.lptr 6 0),(7,.int .i64 x7)],[(6,o6)],[],G⟩
def v_storage_Check:VFunc where
 nparams:=1
 results:=[.t 2 [none]]
 body :=
 .seq (
 .region [] [1] [
 zo 1 (.box 1 (.t 0)),
 zo 2 (.mv (zc 0))] ⟨[1],[1],[]⟩) (
 .seq (
 .seq (
 zr [
 zf 8 0 1,
 zj 9 1 8,
 zo 10 (.call true (.c (.fn 79 [])) [([some 2],(.t 9))] []),
 zm 3 10] ⟨[1,3],[1],[]⟩) (
 .seq (
 zr [
 zm 11 3,
 zo 12 (.bin .neq (.t 11) (zc 0))] ⟨[1,3,12],[1],[]⟩) (
 .cond (.t 12) (
 .seq (
 zr [
 zm 13 3,
 zm 2 13] ⟨[2],[],[]⟩) (
 .ret)) (
 .skip)))) (
 .seq (
 zr [
 zf 14 0 1,
 zj 15 1 14,
 zl 16 15,
 zm 4 16] ⟨[1,4],[1],[]⟩) (
 .seq (
 .block 0 (
 .seq (
 zr [
 zm 18 4,
 zo 19 (.bin .lss (.t 18) (zc 2)),
 zm 17 19] ⟨[1,4,17],[1],[]⟩) (
 .cond (.t 17) (
 .seq (
 zr [
 zo 2 (.mv (zc 3))] ⟨[2],[],[]⟩) (
 .ret)) (
 .seq (
 zr [
 zf 21 0 1,
 zj 22 1 21,
 zm 23 4,
 zo 24 (.bin .sub (.t 23) (zc 1)),
 za 25 2 22 24,
 zf 26 0 25,
 zi 27 26,
 zo 28 (.bin .gtr (.t 27) (zc 16777216)),
 zm 20 28] ⟨[1,4,20],[1],[]⟩) (
 .cond (.t 20) (
 .seq (
 zr [
 zo 2 (.mv (zc 1))] ⟨[2],[],[]⟩) (
 .ret)) (
 .skip)))))) (
 .seq (
 .seq (
 zr [
 zo 5 (.mv (zc 1))] ⟨[1,4,5],[1],[]⟩) (
 .block 1 (
 v_storage_Check_l0))) (
 .seq (
 .region [] [6] [
 zf 48 0 1,
 zj 49 1 48,
 zo 50 (.iaddr none 2 (.t 49) (zc 0)),
 zf 51 0 50,
 zi 52 51,
 zf 53 1 1,
 zj 54 1 53,
 zf 55 2 1,
 zj 56 1 55,
 zf 57 3 1,
 zj 58 1 57,
 zf 59 4 1,
 zj 60 1 59,
 zf 61 5 1,
 zj 62 1 61,
 zf 63 0 1,
 zj 64 1 63,
 zm 65 4,
 zo 66 (.bin .sub (.t 65) (zc 1)),
 za 67 2 64 66,
 zf 68 0 67,
 zi 69 68,
 zo 70 (.build [z0,z0,z0,z0,z0,z0,z0] [(0,1,(.t 52)),(1,1,(.t 54)),(2,1,(.t 56)),(3,1,(.t 58)),(4,1,(.t 60)),(5,1,(.t 62)),(6,1,(.t 69))]),
 zo 6 (.obj 6 [z0,z0,z0,z0,z0,z0,z0]),
 zn (.store (.loc 6) [none,none,none,none,none,none,none] (.t 6) (.t 70))] ⟨[6],[6],[]⟩) (
 .seq (
 .seq (
 zr [
 zo 7 (.mv (zc 1))] ⟨[6,7],[6],[]⟩) (
 .block 3 (
 v_storage_Check_l1))) (
 .seq (
 zr [
 zo 2 (.mv (zc 0))] ⟨[2],[],[]⟩) (
 .ret))))))))
def v_unit_Check_b0:VC :=
 .seq (
 zr [
 zo 48 (.bin .lss (.t 47) (.t 46))] ⟨[1,45,46,47,48],[1],[]⟩) (
 .seq (
 .cond (.t 48) (
 .skip) (
 .exit 1)) (
 .seq (
 .block 2 (
 .seq (
 .region [] [5] [
 za 49 2 45 47,
 zo 50 (.load .imm (some 2) (.t 49)),
 zo 5 (.obj 5 [z0,z0]),
 zn (.store (.loc 5) [none,none] (.t 5) (.t 50))] ⟨[1,5,45,46,47],[1,5],[]⟩) (
 .block 3 (
 .seq (
 zr [
 zf 52 0 5,
 zj 53 5 52,
 zo 54 (.call true (.c (.fn 41 [])) [([none],(.t 53)),([none],(zc 1073741824))] []),
 zo 55 (.un .not (.t 54)),
 zm 56 55,
 zq 57 56 false (.faddr 1 (.t 5)),
 zq 58 56 false (.load (.loc 5) none (.t 57)),
 zq 59 56 false (.call true (.c (.fn 41 [])) [([none],(.t 58)),([none],(zc 1073741824))] []),
 zq 60 56 false (.un .not (.t 59)),
 zo 61 (.pick (.t 56) (.c (.bool true)) (.t 60)),
 zm 51 61] ⟨[1,5,45,46,47,51],[1,5],[]⟩) (
 .cond (.t 51) (
 .seq (
 zr [
 zo 2 (.mv (zc 1))] ⟨[2],[],[]⟩) (
 .ret)) (
 .seq (
 zr [
 zf 63 0 5,
 zj 64 5 63,
 zf 65 1 5,
 zj 66 5 65,
 zo 67 (.bin .geq (.t 64) (.t 66)),
 zm 62 67] ⟨[1,45,46,47,62],[1],[]⟩) (
 .cond (.t 62) (
 .seq (
 zr [
 zo 2 (.mv (zc 4))] ⟨[2],[],[]⟩) (
 .ret)) (
 .skip)))))))) (
 zr [
 zo 68 (.bin .add (.t 47) (zc 1)),
 zm 47 68] ⟨[1,45,46,47],[1],[]⟩)))
def v_unit_Check_l0:VC:=.loop [] ⟨[1,45,46,47],[1],[]⟩ v_unit_Check_b0
abbrev v_unit_Check_s0 (x45:V) (x46:Int) (x47:Int) (o1:List V) (G:List GObj):St:=⟨[(1,.lptr 1 0),(45,x45),(46,.int .i64 x46),(47,.int .i64 x47)],[(1,o1)],[],G⟩
def v_unit_Check:VFunc where
 nparams:=1
 results:=[.t 2 [none]]
 body :=
 .seq (
 .region [] [1] [
 zo 1 (.box 1 (.t 0)),
 zo 2 (.mv (zc 0))] ⟨[1],[1],[]⟩) (
 .seq (
 .seq (
 zr [
 zf 6 0 1,
 zj 7 1 6,
 zo 8 (.call true (.c (.fn 79 [])) [([some 2],(.t 7))] []),
 zm 3 8] ⟨[1,3],[1],[]⟩) (
 .seq (
 zr [
 zm 9 3,
 zo 10 (.bin .neq (.t 9) (zc 0))] ⟨[1,3,10],[1],[]⟩) (
 .cond (.t 10) (
 .seq (
 zr [
 zm 11 3,
 zm 2 11] ⟨[2],[],[]⟩) (
 .ret)) (
 .skip)))) (
 .seq (
 .block 0 (
 .seq (
 zr [
 zf 13 0 1,
 zj 14 1 13,
 zf 15 0 1,
 zj 16 1 15,
 zl 17 16,
 zo 18 (.bin .sub (.t 17) (zc 1)),
 za 19 2 14 18,
 zf 20 1 19,
 zi 21 20,
 zo 22 (.bin .gtr (.t 21) (zc 1073741824)),
 zm 12 22] ⟨[1,12],[1],[]⟩) (
 .cond (.t 12) (
 .seq (
 zr [
 zo 2 (.mv (zc 1))] ⟨[2],[],[]⟩) (
 .ret)) (
 .seq (
 zr [
 zf 24 1 1,
 zj 25 1 24,
 zo 26 (.bin .lss (.t 25) (zc 1)),
 zm 27 26,
 zq 28 27 false (.faddr 1 (.t 1)),
 zq 29 27 false (.load (.loc 1) none (.t 28)),
 zq 30 27 false (.faddr 2 (.t 1)),
 zq 31 27 false (.load (.loc 1) none (.t 30)),
 zq 32 27 false (.bin .gtr (.t 29) (.t 31)),
 zo 33 (.pick (.t 27) (.c (.bool true)) (.t 32)),
 zm 34 33,
 zq 35 34 false (.faddr 2 (.t 1)),
 zq 36 34 false (.load (.loc 1) none (.t 35)),
 zq 37 34 false (.bin .gtr (.t 36) (zc 1073741824)),
 zo 38 (.pick (.t 34) (.c (.bool true)) (.t 37)),
 zm 23 38] ⟨[1,23],[1],[]⟩) (
 .cond (.t 23) (
 .seq (
 zr [
 zo 2 (.mv (zc 1))] ⟨[2],[],[]⟩) (
 .ret)) (
 .seq (
 zr [
 zf 40 3 1,
 zj 41 1 40,
 zl 42 41,
 zo 43 (.bin .gtr (.t 42) (zc 10)),
 zm 39 43] ⟨[1,39],[1],[]⟩) (
 .cond (.t 39) (
 .seq (
 zr [
 zo 2 (.mv (zc 10))] ⟨[2],[],[]⟩) (
 .ret)) (
 .skip)))))))) (
 .seq (
 .seq (
 zr [
 zf 44 3 1,
 zj 45 1 44,
 zl 46 45,
 zo 47 (.mv (zc 0))] ⟨[1,45,46,47],[1],[]⟩) (
 .block 1 (
 v_unit_Check_l0))) (
 .seq (
 .seq (
 zr [
 zf 69 4 1,
 zj 70 1 69,
 zo 71 (.call true (.c (.fn 41 [])) [([none],(.t 70)),([none],(zc 1000))] []),
 zo 72 (.un .not (.t 71)),
 zm 73 72,
 zq 74 73 false (.faddr 5 (.t 1)),
 zq 75 73 false (.load (.loc 1) none (.t 74)),
 zq 76 73 false (.call true (.c (.fn 41 [])) [([none],(.t 75)),([none],(zc 1000))] []),
 zq 77 73 false (.un .not (.t 76)),
 zo 78 (.pick (.t 73) (.c (.bool true)) (.t 77))] ⟨[78],[],[]⟩) (
 .cond (.t 78) (
 .seq (
 zr [
 zo 2 (.mv (zc 1))] ⟨[2],[],[]⟩) (
 .ret)) (
 .skip))) (
 .seq (
 zr [
 zo 2 (.mv (zc 0))] ⟨[2],[],[]⟩) (
 .ret))))))
def v_gate_Check_b0:VC :=
 .seq (
 zr [
 zo 20 (.bin .lss (.t 19) (.t 18))] ⟨[1,17,18,19,20],[1],[]⟩) (
 .seq (
 .cond (.t 20) (
 .skip) (
 .exit 1)) (
 .seq (
 .block 2 (
 .seq (
 .region [] [4] [
 zm 21 19,
 za 22 2 17 19,
 zo 23 (.load .imm (some 2) (.t 22)),
 zo 4 (.obj 4 [z0,.nils]),
 zm 3 21,
 zn (.store (.loc 4) [none,some 2] (.t 4) (.t 23))] ⟨[1,3,4,17,18,19],[1,4],[]⟩) (
 .seq (
 .block 3 (
 .seq (
 zr [
 zf 25 0 4,
 zj 26 4 25,
 zo 27 (.call true (.c (.fn 41 [])) [([none],(.t 26)),([none],(zc 16777216))] []),
 zo 28 (.un .not (.t 27)),
 zm 24 28] ⟨[1,3,4,17,18,19,24],[1,4],[]⟩) (
 .cond (.t 24) (
 .seq (
 zr [
 zo 2 (.mv (zc 1))] ⟨[2],[],[]⟩) (
 .ret)) (
 .seq (
 zr [
 zm 30 3,
 zo 31 (.bin .gtr (.t 30) (zc 0)),
 zm 32 31,
 zq 33 32 true (.faddr 0 (.t 4)),
 zq 34 32 true (.load (.loc 4) none (.t 33)),
 zq 35 32 true (.faddr 0 (.t 1)),
 zq 36 32 true (.load (.loc 1) none (.t 35)),
 zq 37 32 true (.mv (.t 3)),
 zq 38 32 true (.bin .sub (.t 37) (zc 1)),
 zq 39 32 true (.iaddr none 2 (.t 36) (.t 38)),
 zq 40 32 true (.faddr 0 (.t 39)),
 zq 41 32 true (.load .imm none (.t 40)),
 zq 42 32 true (.bin .leq (.t 34) (.t 41)),
 zo 43 (.pick (.t 32) (.t 42) (.c (.bool false))),
 zm 29 43] ⟨[1,4,17,18,19,29],[1,4],[]⟩) (
 .cond (.t 29) (
 .seq (
 zr [
 zo 2 (.mv (zc 4))] ⟨[2],[],[]⟩) (
 .ret)) (
 .skip)))))) (
 .seq (
 .seq (
 zr [
 zf 44 1 4,
 zj 45 4 44,
 zo 46 (.call true (.c (.fn 79 [])) [([some 2],(.t 45))] []),
 zm 5 46] ⟨[1,4,5,17,18,19],[1,4],[]⟩) (
 .seq (
 zr [
 zm 47 5,
 zo 48 (.bin .neq (.t 47) (zc 0))] ⟨[1,4,5,17,18,19,48],[1,4],[]⟩) (
 .cond (.t 48) (
 .seq (
 zr [
 zm 49 5,
 zm 2 49] ⟨[2],[],[]⟩) (
 .ret)) (
 .skip)))) (
 .block 4 (
 .seq (
 zr [
 zf 51 1 4,
 zj 52 4 51,
 zo 53 (.iaddr none 2 (.t 52) (zc 0)),
 zo 54 (.load .imm (some 2) (.t 53)),
 zo 55 (.build [z0,z0] []),
 zo 56 (.aeq true [0,0] (.t 54) (.t 55)),
 zm 50 56] ⟨[1,4,17,18,19,50],[1,4],[]⟩) (
 .cond (.t 50) (
 .seq (
 zr [
 zo 2 (.mv (zc 3))] ⟨[2],[],[]⟩) (
 .ret)) (
 .seq (
 zr [
 zf 58 1 4,
 zj 59 4 58,
 zf 60 1 4,
 zj 61 4 60,
 zl 62 61,
 zo 63 (.bin .sub (.t 62) (zc 1)),
 za 64 2 59 63,
 zf 65 1 64,
 zi 66 65,
 zo 67 (.bin .gtr (.t 66) (zc 1073741824)),
 zm 57 67] ⟨[1,17,18,19,57],[1],[]⟩) (
 .cond (.t 57) (
 .seq (
 zr [
 zo 2 (.mv (zc 1))] ⟨[2],[],[]⟩) (
 .ret)) (
 .skip)))))))))) (
 zr [
 zo 68 (.bin .add (.t 19) (zc 1)),
 zm 19 68] ⟨[1,17,18,19],[1],[]⟩)))
def v_gate_Check_l0:VC:=.loop [] ⟨[1,17,18,19],[1],[]⟩ v_gate_Check_b0
abbrev v_gate_Check_s0 (x17:V) (x18:Int) (x19:Int) (o1:List V) (G:List GObj):St:=⟨[(1,.lptr 1 0),(17,x17),(18,.int .i64 x18),(19,.int .i64 x19)],[(1,o1)],[],G⟩
def v_gate_Check:VFunc where
 nparams:=1
 results:=[.t 2 [none]]
 body :=
 .seq (
 .region [] [1] [
 zo 1 (.box 1 (.t 0)),
 zo 2 (.mv (zc 0))] ⟨[1],[1],[]⟩) (
 .seq (
 .block 0 (
 .seq (
 zr [
 zf 7 0 1,
 zj 8 1 7,
 zl 9 8,
 zo 10 (.bin .eql (.t 9) (zc 0)),
 zm 6 10] ⟨[1,6],[1],[]⟩) (
 .cond (.t 6) (
 .seq (
 zr [
 zo 2 (.mv (zc 3))] ⟨[2],[],[]⟩) (
 .ret)) (
 .seq (
 zr [
 zf 12 0 1,
 zj 13 1 12,
 zl 14 13,
 zo 15 (.bin .gtr (.t 14) (zc 10)),
 zm 11 15] ⟨[1,11],[1],[]⟩) (
 .cond (.t 11) (
 .seq (
 zr [
 zo 2 (.mv (zc 10))] ⟨[2],[],[]⟩) (
 .ret)) (
 .skip)))))) (
 .seq (
 .seq (
 zr [
 zf 16 0 1,
 zj 17 1 16,
 zl 18 17,
 zo 19 (.mv (zc 0))] ⟨[1,17,18,19],[1],[]⟩) (
 .block 1 (
 v_gate_Check_l0))) (
 .seq (
 .seq (
 zr [
 zf 69 1 1,
 zj 70 1 69,
 zo 71 (.call true (.c (.fn 41 [])) [([none],(.t 70)),([none],(zc 1000))] []),
 zo 72 (.un .not (.t 71)),
 zm 73 72,
 zq 74 73 false (.faddr 2 (.t 1)),
 zq 75 73 false (.load (.loc 1) none (.t 74)),
 zq 76 73 false (.call true (.c (.fn 41 [])) [([none],(.t 75)),([none],(zc 1000))] []),
 zq 77 73 false (.un .not (.t 76)),
 zo 78 (.pick (.t 73) (.c (.bool true)) (.t 77))] ⟨[78],[],[]⟩) (
 .cond (.t 78) (
 .seq (
 zr [
 zo 2 (.mv (zc 1))] ⟨[2],[],[]⟩) (
 .ret)) (
 .skip))) (
 .seq (
 zr [
 zo 2 (.mv (zc 0))] ⟨[2],[],[]⟩) (
 .ret)))))
def v_r03_Check_b0:VC :=
 .seq (
 zr [
 zo 25 (.bin .lss (.t 24) (.t 23))] ⟨[1,4,22,23,24,25],[1],[]⟩) (
 .seq (
 .cond (.t 25) (
 .skip) (
 .exit 0)) (
 .seq (
 .block 1 (
 .seq (
 .region [] [6] [
 za 26 2 22 24,
 zo 27 (.load .imm (some 2) (.t 26)),
 zo 6 (.obj 6 [z0,z0]),
 zn (.store (.loc 6) [none,none] (.t 6) (.t 27))] ⟨[1,4,6,22,23,24],[1,6],[]⟩) (
 .seq (
 zr [
 zf 28 0 6,
 zj 29 6 28,
 zo 30 (.bin .gtr (.t 29) (zc 16777216))] ⟨[1,4,22,23,24,30],[1],[]⟩) (
 .cond (.t 30) (
 .seq (
 zr [
 zo 2 (.mv (zc 1))] ⟨[2],[],[]⟩) (
 .ret)) (
 .skip))))) (
 zr [
 zo 31 (.bin .add (.t 24) (zc 1)),
 zm 24 31] ⟨[1,4,22,23,24],[1],[]⟩)))
def v_r03_Check_l0:VC:=.loop [] ⟨[1,4,22,23,24],[1],[]⟩ v_r03_Check_b0
abbrev v_r03_Check_s0 (x4:Int) (x22:V) (x23:Int) (x24:Int) (o1:List V) (G:List GObj):St:=⟨[(1,.lptr 1 0),(4,.int .i64 x4),(22,x22),(23,.int .i64 x23),(24,.int .i64 x24)],[(1,o1)],[],G⟩
def v_r03_Check_b1:VC :=
 .seq (
 .seq (
 zr [
 zm 32 7,
 zm 33 4,
 zo 34 (.bin .lss (.t 32) (.t 33))] ⟨[1,4,7,34],[1],[]⟩) (
 .cond (.t 34) (
 .skip) (
 .exit 2))) (
 .seq (
 .block 3 (
 .seq (
 zr [
 zf 37 0 1,
 zj 38 1 37,
 zm 39 7,
 za 40 2 38 39,
 zf 41 1 40,
 zi 42 41,
 zf 43 0 1,
 zj 44 1 43,
 zm 45 7,
 zo 46 (.bin .sub (.t 45) (zc 1)),
 za 47 2 44 46,
 zf 48 1 47,
 zi 49 48,
 zo 50 (.bin .leq (.t 42) (.t 49))] ⟨[1,4,7,50],[1],[]⟩) (
 .cond (.t 50) (
 .seq (
 zr [
 zo 2 (.mv (zc 4))] ⟨[2],[],[]⟩) (
 .ret)) (
 .skip)))) (
 zr [
 zm 35 7,
 zo 36 (.bin .add (.t 35) (zc 1)),
 zm 7 36] ⟨[1,4,7],[1],[]⟩))
def v_r03_Check_l1:VC:=.loop [] ⟨[1,4,7],[1],[]⟩ v_r03_Check_b1
abbrev v_r03_Check_s1 (x4:Int) (x7:Int) (o1:List V) (G:List GObj):St:=⟨[(1,.lptr 1 0),(4,.int .i64 x4),(7,.int .i64 x7)],[(1,o1)],[],G⟩
def v_r03_Check_b2:VC :=
 .seq (
 .seq (
 zr [
 zm 74 9,
 zm 75 8,
 zl 76 75,
 zo 77 (.bin .lss (.t 74) (.t 76))] ⟨[8,9,77],[],[]⟩) (
 .cond (.t 77) (
 .skip) (
 .exit 4))) (
 .seq (
 .block 5 (
 .seq (
 zr [
 zm 80 8,
 zm 81 9,
 za 82 1 80 81,
 zi 83 82,
 zm 84 8,
 zm 85 9,
 zo 86 (.bin .sub (.t 85) (zc 1)),
 za 87 1 84 86,
 zi 88 87,
 zo 89 (.bin .lss (.t 83) (.t 88))] ⟨[8,9,89],[],[]⟩) (
 .cond (.t 89) (
 .seq (
 zr [
 zo 2 (.mv (zc 4))] ⟨[2],[],[]⟩) (
 .ret)) (
 .skip)))) (
 zr [
 zm 78 9,
 zo 79 (.bin .add (.t 78) (zc 1)),
 zm 9 79] ⟨[8,9],[],[]⟩))
def v_r03_Check_l2:VC:=.loop [] ⟨[8,9],[],[]⟩ v_r03_Check_b2
abbrev v_r03_Check_s2 (x8:V) (x9:Int) (G:List GObj):St:=⟨[(8,x8),(9,.int .i64 x9)],[],[],G⟩
def v_r03_Check:VFunc where
 nparams:=1
 results:=[.t 2 [none]]
 body :=
 .seq (
 .region [] [1] [
 zo 1 (.box 1 (.t 0)),
 zo 2 (.mv (zc 0))] ⟨[1],[1],[]⟩) (
 .seq (
 .seq (
 zr [
 zf 10 0 1,
 zj 11 1 10,
 zo 12 (.call true (.c (.fn 71 [])) [([some 2],(.t 11))] []),
 zm 3 12] ⟨[1,3],[1],[]⟩) (
 .seq (
 zr [
 zm 13 3,
 zo 14 (.bin .neq (.t 13) (zc 0))] ⟨[1,3,14],[1],[]⟩) (
 .cond (.t 14) (
 .seq (
 zr [
 zm 15 3,
 zm 2 15] ⟨[2],[],[]⟩) (
 .ret)) (
 .skip)))) (
 .seq (
 zr [
 zf 16 0 1,
 zj 17 1 16,
 zl 18 17,
 zm 4 18] ⟨[1,4],[1],[]⟩) (
 .seq (
 .seq (
 zr [
 zm 19 4,
 zo 20 (.bin .lss (.t 19) (zc 2))] ⟨[1,4,20],[1],[]⟩) (
 .cond (.t 20) (
 .seq (
 zr [
 zo 2 (.mv (zc 3))] ⟨[2],[],[]⟩) (
 .ret)) (
 .skip))) (
 .seq (
 .seq (
 zr [
 zf 21 0 1,
 zj 22 1 21,
 zl 23 22,
 zo 24 (.mv (zc 0))] ⟨[1,4,22,23,24],[1],[]⟩) (
 .block 0 (
 v_r03_Check_l0))) (
 .seq (
 .seq (
 zr [
 zo 7 (.mv (zc 1))] ⟨[1,4,7],[1],[]⟩) (
 .block 2 (
 v_r03_Check_l1))) (
 .seq (
 zr [
 zf 51 0 1,
 zj 52 1 51,
 zo 53 (.iaddr none 2 (.t 52) (zc 0)),
 zf 54 0 53,
 zi 55 54,
 zf 56 1 1,
 zj 57 1 56,
 zf 58 2 1,
 zj 59 1 58,
 zf 60 3 1,
 zj 61 1 60,
 zf 62 4 1,
 zj 63 1 62,
 zf 64 5 1,
 zj 65 1 64,
 zf 66 0 1,
 zj 67 1 66,
 zm 68 4,
 zo 69 (.bin .sub (.t 68) (zc 1)),
 za 70 2 67 69,
 zf 71 0 70,
 zi 72 71,
 zo 73 (.lit none [none] [z0] 7 [(0,(.t 55)),(1,(.t 57)),(2,(.t 59)),(3,(.t 61)),(4,(.t 63)),(5,(.t 65)),(6,(.t 72))]),
 zm 8 73] ⟨[8],[],[]⟩) (
 .seq (
 .seq (
 zr [
 zo 9 (.mv (zc 1))] ⟨[8,9],[],[]⟩) (
 .block 4 (
 v_r03_Check_l2))) (
 .seq (
 zr [
 zo 2 (.mv (zc 0))] ⟨[2],[],[]⟩) (
 .ret)))))))))
def v_r18_Check_b0:VC :=
 .seq (
 zr [
 zo 47 (.bin .lss (.t 46) (.t 45))] ⟨[1,44,45,46,47],[1],[]⟩) (
 .seq (
 .cond (.t 47) (
 .skip) (
 .exit 0)) (
 .seq (
 .block 1 (
 .seq (
 .region [] [5] [
 za 48 2 44 46,
 zo 49 (.load .imm (some 2) (.t 48)),
 zo 5 (.obj 5 [z0,z0]),
 zn (.store (.loc 5) [none,none] (.t 5) (.t 49))] ⟨[1,5,44,45,46],[1,5],[]⟩) (
 .seq (
 .seq (
 zr [
 zf 50 0 5,
 zj 51 5 50,
 zo 52 (.call true (.c (.fn 43 [])) [([none],(.t 51)),([none],(zc 1073741824))] []),
 zo 53 (.un .not (.t 52)),
 zm 54 53,
 zq 55 54 false (.faddr 1 (.t 5)),
 zq 56 54 false (.load (.loc 5) none (.t 55)),
 zq 57 54 false (.call true (.c (.fn 43 [])) [([none],(.t 56)),([none],(zc 1073741824))] []),
 zq 58 54 false (.un .not (.t 57)),
 zo 59 (.pick (.t 54) (.c (.bool true)) (.t 58))] ⟨[1,5,44,45,46,59],[1,5],[]⟩) (
 .cond (.t 59) (
 .seq (
 zr [
 zo 2 (.mv (zc 1))] ⟨[2],[],[]⟩) (
 .ret)) (
 .skip))) (
 .seq (
 zr [
 zf 60 0 5,
 zj 61 5 60,
 zf 62 1 5,
 zj 63 5 62,
 zo 64 (.bin .geq (.t 61) (.t 63))] ⟨[1,44,45,46,64],[1],[]⟩) (
 .cond (.t 64) (
 .seq (
 zr [
 zo 2 (.mv (zc 4))] ⟨[2],[],[]⟩) (
 .ret)) (
 .skip)))))) (
 zr [
 zo 65 (.bin .add (.t 46) (zc 1)),
 zm 46 65] ⟨[1,44,45,46],[1],[]⟩)))
def v_r18_Check_l0:VC:=.loop [] ⟨[1,44,45,46],[1],[]⟩ v_r18_Check_b0
abbrev v_r18_Check_s0 (x44:V) (x45:Int) (x46:Int) (o1:List V) (G:List GObj):St:=⟨[(1,.lptr 1 0),(44,x44),(45,.int .i64 x45),(46,.int .i64 x46)],[(1,o1)],[],G⟩
def v_r18_Check:VFunc where
 nparams:=1
 results:=[.t 2 [none]]
 body :=
 .seq (
 .region [] [1] [
 zo 1 (.box 1 (.t 0)),
 zo 2 (.mv (zc 0))] ⟨[1],[1],[]⟩) (
 .seq (
 .seq (
 zr [
 zf 6 0 1,
 zj 7 1 6,
 zo 8 (.call true (.c (.fn 71 [])) [([some 2],(.t 7))] []),
 zm 3 8] ⟨[1,3],[1],[]⟩) (
 .seq (
 zr [
 zm 9 3,
 zo 10 (.bin .neq (.t 9) (zc 0))] ⟨[1,3,10],[1],[]⟩) (
 .cond (.t 10) (
 .seq (
 zr [
 zm 11 3,
 zm 2 11] ⟨[2],[],[]⟩) (
 .ret)) (
 .skip)))) (
 .seq (
 .seq (
 zr [
 zf 12 0 1,
 zj 13 1 12,
 zf 14 0 1,
 zj 15 1 14,
 zl 16 15,
 zo 17 (.bin .sub (.t 16) (zc 1)),
 za 18 2 13 17,
 zf 19 1 18,
 zi 20 19,
 zo 21 (.bin .gtr (.t 20) (zc 1073741824)),
 zm 22 21,
 zq 23 22 false (.faddr 1 (.t 1)),
 zq 24 22 false (.load (.loc 1) none (.t 23)),
 zq 25 22 false (.bin .lss (.t 24) (zc 1)),
 zo 26 (.pick (.t 22) (.c (.bool true)) (.t 25)),
 zm 27 26,
 zq 28 27 false (.faddr 1 (.t 1)),
 zq 29 27 false (.load (.loc 1) none (.t 28)),
 zq 30 27 false (.faddr 2 (.t 1)),
 zq 31 27 false (.load (.loc 1) none (.t 30)),
 zq 32 27 false (.bin .gtr (.t 29) (.t 31)),
 zo 33 (.pick (.t 27) (.c (.bool true)) (.t 32)),
 zm 34 33,
 zq 35 34 false (.faddr 2 (.t 1)),
 zq 36 34 false (.load (.loc 1) none (.t 35)),
 zq 37 34 false (.bin .gtr (.t 36) (zc 1073741824)),
 zo 38 (.pick (.t 34) (.c (.bool true)) (.t 37))] ⟨[1,38],[1],[]⟩) (
 .cond (.t 38) (
 .seq (
 zr [
 zo 2 (.mv (zc 1))] ⟨[2],[],[]⟩) (
 .ret)) (
 .skip))) (
 .seq (
 .seq (
 zr [
 zf 39 3 1,
 zj 40 1 39,
 zl 41 40,
 zo 42 (.bin .gtr (.t 41) (zc 10))] ⟨[1,42],[1],[]⟩) (
 .cond (.t 42) (
 .seq (
 zr [
 zo 2 (.mv (zc 10))] ⟨[2],[],[]⟩) (
 .ret)) (
 .skip))) (
 .seq (
 .seq (
 zr [
 zf 43 3 1,
 zj 44 1 43,
 zl 45 44,
 zo 46 (.mv (zc 0))] ⟨[1,44,45,46],[1],[]⟩) (
 .block 0 (
 v_r18_Check_l0))) (
 .seq (
 .seq (
 zr [
 zf 66 4 1,
 zj 67 1 66,
 zo 68 (.call true (.c (.fn 43 [])) [([none],(.t 67)),([none],(zc 1000))] []),
 zo 69 (.un .not (.t 68)),
 zm 70 69,
 zq 71 70 false (.faddr 5 (.t 1)),
 zq 72 70 false (.load (.loc 1) none (.t 71)),
 zq 73 70 false (.call true (.c (.fn 43 [])) [([none],(.t 72)),([none],(zc 1000))] []),
 zq 74 70 false (.un .not (.t 73)),
 zo 75 (.pick (.t 70) (.c (.bool true)) (.t 74))] ⟨[75],[],[]⟩) (
 .cond (.t 75) (
 .seq (
 zr [
 zo 2 (.mv (zc 1))] ⟨[2],[],[]⟩) (
 .ret)) (
 .skip))) (
 .seq (
 zr [
 zo 2 (.mv (zc 0))] ⟨[2],[],[]⟩) (
 .ret)))))))
def v_r20_Check_b0:VC :=
 .seq (
 zr [
 zo 18 (.bin .lss (.t 17) (.t 16))] ⟨[1,15,16,17,18],[1],[]⟩) (
 .seq (
 .cond (.t 18) (
 .skip) (
 .exit 0)) (
 .seq (
 .block 1 (
 .seq (
 .region [] [4] [
 zm 19 17,
 za 20 2 15 17,
 zo 21 (.load .imm (some 2) (.t 20)),
 zo 4 (.obj 4 [z0,.nils]),
 zm 3 19,
 zn (.store (.loc 4) [none,some 2] (.t 4) (.t 21))] ⟨[1,3,4,15,16,17],[1,4],[]⟩) (
 .seq (
 .seq (
 zr [
 zf 22 0 4,
 zj 23 4 22,
 zo 24 (.call true (.c (.fn 43 [])) [([none],(.t 23)),([none],(zc 16777216))] []),
 zo 25 (.un .not (.t 24))] ⟨[1,3,4,15,16,17,25],[1,4],[]⟩) (
 .cond (.t 25) (
 .seq (
 zr [
 zo 2 (.mv (zc 1))] ⟨[2],[],[]⟩) (
 .ret)) (
 .skip))) (
 .seq (
 .seq (
 zr [
 zm 26 3,
 zo 27 (.bin .gtr (.t 26) (zc 0)),
 zm 28 27,
 zq 29 28 true (.faddr 0 (.t 4)),
 zq 30 28 true (.load (.loc 4) none (.t 29)),
 zq 31 28 true (.faddr 0 (.t 1)),
 zq 32 28 true (.load (.loc 1) none (.t 31)),
 zq 33 28 true (.mv (.t 3)),
 zq 34 28 true (.bin .sub (.t 33) (zc 1)),
 zq 35 28 true (.iaddr none 2 (.t 32) (.t 34)),
 zq 36 28 true (.faddr 0 (.t 35)),
 zq 37 28 true (.load .imm none (.t 36)),
 zq 38 28 true (.bin .leq (.t 30) (.t 37)),
 zo 39 (.pick (.t 28) (.t 38) (.c (.bool false)))] ⟨[1,4,15,16,17,39],[1,4],[]⟩) (
 .cond (.t 39) (
 .seq (
 zr [
 zo 2 (.mv (zc 4))] ⟨[2],[],[]⟩) (
 .ret)) (
 .skip))) (
 .seq (
 .seq (
 zr [
 zf 40 1 4,
 zj 41 4 40,
 zo 42 (.call true (.c (.fn 71 [])) [([some 2],(.t 41))] []),
 zm 5 42] ⟨[1,4,5,15,16,17],[1,4],[]⟩) (
 .seq (
 zr [
 zm 43 5,
 zo 44 (.bin .neq (.t 43) (zc 0))] ⟨[1,4,5,15,16,17,44],[1,4],[]⟩) (
 .cond (.t 44) (
 .seq (
 zr [
 zm 45 5,
 zm 2 45] ⟨[2],[],[]⟩) (
 .ret)) (
 .skip)))) (
 .seq (
 .seq (
 zr [
 zf 46 1 4,
 zj 47 4 46,
 zo 48 (.iaddr none 2 (.t 47) (zc 0)),
 zo 49 (.load .imm (some 2) (.t 48)),
 zo 50 (.build [z0,z0] []),
 zo 51 (.aeq true [0,0] (.t 49) (.t 50))] ⟨[1,4,15,16,17,51],[1,4],[]⟩) (
 .cond (.t 51) (
 .seq (
 zr [
 zo 2 (.mv (zc 3))] ⟨[2],[],[]⟩) (
 .ret)) (
 .skip))) (
 .seq (
 zr [
 zf 52 1 4,
 zj 53 4 52,
 zf 54 1 4,
 zj 55 4 54,
 zl 56 55,
 zo 57 (.bin .sub (.t 56) (zc 1)),
 za 58 2 53 57,
 zf 59 1 58,
 zi 60 59,
 zo 61 (.bin .gtr (.t 60) (zc 1073741824))] ⟨[1,15,16,17,61],[1],[]⟩) (
 .cond (.t 61) (
 .seq (
 zr [
 zo 2 (.mv (zc 1))] ⟨[2],[],[]⟩) (
 .ret)) (
 .skip))))))))) (
 zr [
 zo 62 (.bin .add (.t 17) (zc 1)),
 zm 17 62] ⟨[1,15,16,17],[1],[]⟩)))
def v_r20_Check_l0:VC:=.loop [] ⟨[1,15,16,17],[1],[]⟩ v_r20_Check_b0
abbrev v_r20_Check_s0 (x15:V) (x16:Int) (x17:Int) (o1:List V) (G:List GObj):St:=⟨[(1,.lptr 1 0),(15,x15),(16,.int .i64 x16),(17,.int .i64 x17)],[(1,o1)],[],G⟩
def v_r20_Check:VFunc where
 nparams:=1
 results:=[.t 2 [none]]
 body :=
 .seq (
 .region [] [1] [
 zo 1 (.box 1 (.t 0)),
 zo 2 (.mv (zc 0))] ⟨[1],[1],[]⟩) (
 .seq (
 .seq (
 zr [
 zf 6 0 1,
 zj 7 1 6,
 zl 8 7,
 zo 9 (.bin .eql (.t 8) (zc 0))] ⟨[1,9],[1],[]⟩) (
 .cond (.t 9) (
 .seq (
 zr [
 zo 2 (.mv (zc 3))] ⟨[2],[],[]⟩) (
 .ret)) (
 .skip))) (
 .seq (
 .seq (
 zr [
 zf 10 0 1,
 zj 11 1 10,
 zl 12 11,
 zo 13 (.bin .gtr (.t 12) (zc 10))] ⟨[1,13],[1],[]⟩) (
 .cond (.t 13) (
 .seq (
 zr [
 zo 2 (.mv (zc 10))] ⟨[2],[],[]⟩) (
 .ret)) (
 .skip))) (
 .seq (
 .seq (
 zr [
 zf 14 0 1,
 zj 15 1 14,
 zl 16 15,
 zo 17 (.mv (zc 0))] ⟨[1,15,16,17],[1],[]⟩) (
 .block 0 (
 v_r20_Check_l0))) (
 .seq (
 .seq (
 zr [
 zf 63 1 1,
 zj 64 1 63,
 zo 65 (.call true (.c (.fn 43 [])) [([none],(.t 64)),([none],(zc 1000))] []),
 zo 66 (.un .not (.t 65)),
 zm 67 66,
 zq 68 67 false (.faddr 2 (.t 1)),
 zq 69 67 false (.load (.loc 1) none (.t 68)),
 zq 70 67 false (.call true (.c (.fn 43 [])) [([none],(.t 69)),([none],(zc 1000))] []),
 zq 71 67 false (.un .not (.t 70)),
 zo 72 (.pick (.t 67) (.c (.bool true)) (.t 71))] ⟨[72],[],[]⟩) (
 .cond (.t 72) (
 .seq (
 zr [
 zo 2 (.mv (zc 1))] ⟨[2],[],[]⟩) (
 .ret)) (
 .skip))) (
 .seq (
 zr [
 zo 2 (.mv (zc 0))] ⟨[2],[],[]⟩) (
 .ret))))))
def v_dam_asked:VFunc where
 nparams:=2
 results:=[.t 4 [none]]
 body :=
 .seq (
 .region [] [2,3] [
 zo 2 (.box 2 (.t 0)),
 zo 3 (.box 3 (.t 1)),
 zo 4 (.mv (zc 0))] ⟨[2,3],[2,3],[]⟩) (
 .seq (
 .seq (
 zr [
 zs 6 2 9 2,
 zo 7 (.call true (.c (.fn 16 [])) [([some 2,none,none,none,none,none,some 6,some 3,none],(.t 6))] []),
 zm 5 7] ⟨[2,3,5],[2,3],[]⟩) (
 .seq (
 zr [
 zm 8 5,
 zo 9 (.bin .neq (.t 8) (zc 0))] ⟨[2,3,5,9],[2,3],[]⟩) (
 .cond (.t 9) (
 .seq (
 zr [
 zm 10 5,
 zm 4 10] ⟨[4],[],[]⟩) (
 .ret)) (
 .skip)))) (
 .seq (
 .seq (
 zr [
 zs 11 2 9 2,
 zs 12 3 4 3,
 zo 13 (.call true (.c (.fn 61 [])) [([some 2,none,none,none,none,none,some 6,some 3,none],(.t 11)),([none,none,some 3,some 2],(.t 12))] []),
 zo 14 (.un .not (.t 13))] ⟨[14],[],[]⟩) (
 .cond (.t 14) (
 .seq (
 zr [
 zo 4 (.mv (zc 3))] ⟨[4],[],[]⟩) (
 .ret)) (
 .skip))) (
 .seq (
 zr [
 zo 4 (.mv (zc 0))] ⟨[4],[],[]⟩) (
 .ret))))
def v_storage_Height:VFunc where
 nparams:=2
 results:=[.t 4 [none]]
 body :=
 .seq (
 .region [] [2] [
 zo 2 (.box 2 (.t 0)),
 zo 4 (.mv (zc 0))] ⟨[1,2],[2],[]⟩) (
 .seq (
 zr [
 zf 9 0 2,
 zj 10 2 9,
 zm 11 1,
 zo 12 (.call true (.c (.fn 81 [])) [([some 2],(.t 10)),([none],(.t 11))] []),
 zm 8 12,
 ze 13 8 0,
 ze 14 8 1,
 ze 15 8 2,
 zm 5 13,
 zm 6 14,
 zm 7 15] ⟨[2,5,6],[2],[]⟩) (
 .seq (
 .seq (
 zr [
 zm 16 6,
 zo 17 (.un .not (.t 16))] ⟨[2,5,17],[2],[]⟩) (
 .cond (.t 17) (
 .seq (
 zr [
 zf 18 0 2,
 zj 19 2 18,
 zo 20 (.iaddr none 2 (.t 19) (zc 0)),
 zf 21 0 20,
 zi 22 21,
 zm 4 22] ⟨[4],[],[]⟩) (
 .ret)) (
 .skip))) (
 .seq (
 zr [
 zm 23 5,
 zm 4 23] ⟨[4],[],[]⟩) (
 .ret))))
def v_r22_wrong:VFunc where
 nparams:=2
 results:=[.t 4 [none]]
 body :=
 .seq (
 .region [] [2,3] [
 zo 2 (.box 2 (.t 0)),
 zo 3 (.box 3 (.t 1)),
 zo 4 (.mv (zc 0))] ⟨[2,3],[2,3],[]⟩) (
 .seq (
 .seq (
 zr [
 zs 6 2 9 2,
 zo 7 (.call true (.c (.fn 17 [])) [([some 2,none,none,none,none,none,some 6,some 3,none],(.t 6))] []),
 zm 5 7] ⟨[2,3,5],[2,3],[]⟩) (
 .seq (
 zr [
 zm 8 5,
 zo 9 (.bin .neq (.t 8) (zc 0))] ⟨[2,3,5,9],[2,3],[]⟩) (
 .cond (.t 9) (
 .seq (
 zr [
 zm 10 5,
 zm 4 10] ⟨[4],[],[]⟩) (
 .ret)) (
 .skip)))) (
 .seq (
 .seq (
 zr [
 zs 11 2 9 2,
 zs 12 3 4 3,
 zo 13 (.call true (.c (.fn 13 [])) [([some 2,none,none,none,none,none,some 6,some 3,none],(.t 11)),([none,none,some 3,some 2],(.t 12))] []),
 zo 14 (.un .not (.t 13))] ⟨[14],[],[]⟩) (
 .cond (.t 14) (
 .seq (
 zr [
 zo 4 (.mv (zc 3))] ⟨[4],[],[]⟩) (
 .ret)) (
 .skip))) (
 .seq (
 zr [
 zo 4 (.mv (zc 0))] ⟨[4],[],[]⟩) (
 .ret))))
def v_r03_Level:VFunc where
 nparams:=2
 results:=[.t 4 [none],.t 5 [none]]
 body :=
 .seq (
 .region [] [2] [
 zo 2 (.box 2 (.t 0)),
 zo 4 (.mv (zc 0)),
 zo 5 (.mv (zc 0))] ⟨[1,2],[2],[]⟩) (
 .seq (
 .seq (
 zr [
 zs 10 2 6 2,
 zo 11 (.call true (.c (.fn 49 [])) [([some 2,none,none,none,none,none],(.t 10))] []),
 zm 6 11] ⟨[1,2,6],[2],[]⟩) (
 .seq (
 zr [
 zm 12 6,
 zo 13 (.bin .neq (.t 12) (zc 0))] ⟨[1,2,6,13],[2],[]⟩) (
 .cond (.t 13) (
 .seq (
 zr [
 zm 14 6,
 zo 4 (.mv (zc 0)),
 zm 5 14] ⟨[4,5],[],[]⟩) (
 .ret)) (
 .skip)))) (
 .seq (
 .seq (
 zr [
 zm 15 1,
 zo 16 (.call true (.c (.fn 43 [])) [([none],(.t 15)),([none],(zc 274877906944))] []),
 zo 17 (.un .not (.t 16))] ⟨[1,2,17],[2],[]⟩) (
 .cond (.t 17) (
 .seq (
 zr [
 zo 4 (.mv (zc 0)),
 zo 5 (.mv (zc 1))] ⟨[4,5],[],[]⟩) (
 .ret)) (
 .skip))) (
 .seq (
 zr [
 zf 19 0 2,
 zj 20 2 19,
 zm 21 1,
 zo 22 (.call true (.c (.fn 82 [])) [([some 2],(.t 20)),([none],(.t 21))] []),
 zm 18 22,
 ze 23 18 0,
 ze 24 18 1,
 ze 25 18 2,
 zm 7 23,
 zm 8 24,
 zm 9 25] ⟨[2,7,8],[2],[]⟩) (
 .seq (
 .seq (
 zr [
 zm 26 8,
 zo 27 (.un .not (.t 26))] ⟨[2,7,27],[2],[]⟩) (
 .cond (.t 27) (
 .seq (
 zr [
 zf 28 0 2,
 zj 29 2 28,
 zo 30 (.iaddr none 2 (.t 29) (zc 0)),
 zf 31 0 30,
 zi 32 31,
 zm 4 32,
 zo 5 (.mv (zc 0))] ⟨[4,5],[],[]⟩) (
 .ret)) (
 .skip))) (
 .seq (
 zr [
 zm 33 7,
 zm 4 33,
 zo 5 (.mv (zc 0))] ⟨[4,5],[],[]⟩) (
 .ret))))))
def v_gate_Range_b0:VC :=
 .seq (
 zr [
 zo 25 (.bin .lss (.t 24) (.t 23))] ⟨[1,2,6,9,22,23,24,25],[6,9],[]⟩) (
 .seq (
 .cond (.t 25) (
 .skip) (
 .exit 0)) (
 .seq (
 .block 1 (
 .seq (
 .region [] [11] [
 zm 26 24,
 za 27 3 22 24,
 zo 28 (.load .imm (some 3) (.t 27)),
 zo 11 (.obj 11 [.nils,z0,z0]),
 zm 10 26,
 zn (.store (.loc 11) [some 2,none,none] (.t 11) (.t 28))] ⟨[1,2,6,9,10,11,22,23,24],[6,9,11],[]⟩) (
 .seq (
 .region [] [12,13] [
 zs 29 11 3 11,
 zm 30 2,
 zo 31 (.call true (.c (.fn 85 [])) [([some 2,none,none],(.t 29)),([none],(.t 30))] []),
 zs 32 11 3 11,
 zm 33 1,
 zm 34 10,
 za 35 2 33 34,
 zo 36 (.load .imm (some 2) (.t 35)),
 zo 37 (.call true (.c (.fn 86 [])) [([some 2,none,none],(.t 32)),([none,none],(.t 36))] []),
 zo 12 (.obj 12 [.nils,z0]),
 zo 13 (.obj 13 [z0,z0]),
 zn (.store (.loc 12) [some 2,none] (.t 12) (.t 31)),
 zn (.store (.loc 13) [none,none] (.t 13) (.t 37))] ⟨[1,2,6,9,12,13,22,23,24],[6,9,12,13],[]⟩) (
 zr [
 zf 38 0 9,
 zj 39 9 38,
 zs 40 12 2 12,
 zf 41 0 13,
 zj 42 13 41,
 zo 43 (.call true (.c (.fn 87 [])) [([some 2,none],(.t 40)),([none],(.t 42))] []),
 zo 44 (.bin .add (.t 39) (.t 43)),
 zf 45 1 9,
 zj 46 9 45,
 zs 47 12 2 12,
 zf 48 1 13,
 zj 49 13 48,
 zo 50 (.call true (.c (.fn 87 [])) [([some 2,none],(.t 47)),([none],(.t 49))] []),
 zo 51 (.bin .add (.t 46) (.t 50)),
 zf 52 0 9,
 zn (.store (.loc 9) [none] (.t 52) (.t 44)),
 zf 53 1 9,
 zn (.store (.loc 9) [none] (.t 53) (.t 51))] ⟨[1,2,6,9,22,23,24],[6,9],[]⟩)))) (
 zr [
 zo 54 (.bin .add (.t 24) (zc 1)),
 zm 24 54] ⟨[1,2,6,9,22,23,24],[6,9],[]⟩)))
def v_gate_Range_l0:VC:=.loop [] ⟨[1,2,6,9,22,23,24],[6,9],[]⟩ v_gate_Range_b0
abbrev v_gate_Range_s0 (x1:V) (x2:Int) (x22:V) (x23:Int) (x24:Int) (o6:List V) (o9:List V) (G:List GObj):St:=⟨[(1,x1),(2,.int .i64 x2),(6,.lptr 6 0),(9,.lptr 9 0),(22,x22),(23,.int .i64 x23),(24,.int .i64 x24)],[(6,o6),(9,o9)],[],G⟩
def v_gate_Range:VFunc where
 nparams:=3
 results:=[.c 6 true [none,none],.t 7 [none]]
 body :=
 .seq (
 .region [] [6] [
 zo 6 (.obj 6 [z0,z0]),
 zo 7 (.mv (zc 0))] ⟨[0,1,2,6],[6],[]⟩) (
 .seq (
 .seq (
 zr [
 zm 14 0,
 zm 15 1,
 zm 16 2,
 zo 17 (.call true (.c (.fn 84 [])) [([some 3],(.t 14)),([some 2],(.t 15)),([none],(.t 16))] []),
 zm 8 17] ⟨[0,1,2,6,8],[6],[]⟩) (
 .seq (
 zr [
 zm 18 8,
 zo 19 (.bin .neq (.t 18) (zc 0))] ⟨[0,1,2,6,8,19],[6],[]⟩) (
 .cond (.t 19) (
 .seq (
 zr [
 zo 20 (.build [z0,z0] []),
 zm 21 8,
 zn (.store (.loc 6) [none,none] (.t 6) (.t 20)),
 zm 7 21] ⟨[6,7],[6],[]⟩) (
 .ret)) (
 .skip)))) (
 .seq (
 .region [] [9] [
 zo 9 (.obj 9 [z0,z0])] ⟨[0,1,2,6,9],[6,9],[]⟩) (
 .seq (
 .seq (
 zr [
 zm 22 0,
 zl 23 22,
 zo 24 (.mv (zc 0))] ⟨[1,2,6,9,22,23,24],[6,9],[]⟩) (
 .block 0 (
 v_gate_Range_l0))) (
 .seq (
 zr [
 zs 55 9 2 9,
 zn (.store (.loc 6) [none,none] (.t 6) (.t 55)),
 zo 7 (.mv (zc 0))] ⟨[6,7],[6],[]⟩) (
 .ret)))))
def v_dam_fits_b0:VC :=
 .seq (
 zr [
 zo 43 (.bin .lss (.t 42) (.t 41))] ⟨[2,3,40,41,42,43],[2,3],[]⟩) (
 .seq (
 .cond (.t 43) (
 .skip) (
 .exit 0)) (
 .seq (
 .block 1 (
 .seq (
 .region [] [6] [
 zm 44 42,
 za 45 6 40 42,
 zo 46 (.load .imm (some 6) (.t 45)),
 zo 6 (.obj 6 [.nils,z0,z0,.nils,z0,z0]),
 zm 5 44,
 zn (.store (.loc 6) [some 2,none,none,some 2,none,none] (.t 6) (.t 46))] ⟨[2,3,5,6,40,41,42],[2,3,6],[]⟩) (
 .seq (
 zr [
 zs 47 6 6 6,
 zf 48 2 3,
 zj 49 3 48,
 zm 50 5,
 za 51 3 49 50,
 zo 52 (.load .imm (some 3) (.t 51)),
 zo 53 (.call true (.c (.fn 93 [])) [([some 2,none,none,some 2,none,none],(.t 47)),([none,none,none],(.t 52))] []),
 zo 54 (.un .not (.t 53))] ⟨[2,3,40,41,42,54],[2,3],[]⟩) (
 .cond (.t 54) (
 .seq (
 zr [
 zo 4 (.mv (.c (.bool false)))] ⟨[4],[],[]⟩) (
 .ret)) (
 .skip))))) (
 zr [
 zo 55 (.bin .add (.t 42) (zc 1)),
 zm 42 55] ⟨[2,3,40,41,42],[2,3],[]⟩)))
def v_dam_fits_l0:VC:=.loop [] ⟨[2,3,40,41,42],[2,3],[]⟩ v_dam_fits_b0
abbrev v_dam_fits_s0 (x40:V) (x41:Int) (x42:Int) (o2:List V) (o3:List V) (G:List GObj):St:=⟨[(2,.lptr 2 0),(3,.lptr 3 0),(40,x40),(41,.int .i64 x41),(42,.int .i64 x42)],[(2,o2),(3,o3)],[],G⟩
def v_dam_fits_b1:VC :=
 .seq (
 zr [
 zo 60 (.bin .lss (.t 59) (.t 58))] ⟨[3,57,58,59,60],[3],[]⟩) (
 .seq (
 .cond (.t 60) (
 .skip) (
 .exit 2)) (
 .seq (
 .block 3 (
 .seq (
 .region [] [8] [
 zm 61 59,
 za 62 3 57 59,
 zo 63 (.load .imm (some 3) (.t 62)),
 zo 8 (.obj 8 [.nils,z0,z0]),
 zm 7 61,
 zn (.store (.loc 8) [some 2,none,none] (.t 8) (.t 63))] ⟨[3,7,8,57,58,59],[3,8],[]⟩) (
 .seq (
 zr [
 zf 64 3 3,
 zj 65 3 64,
 zm 66 7,
 za 67 2 65 66,
 zf 68 0 67,
 zi 69 68,
 zf 70 1 8,
 zj 71 8 70,
 zo 72 (.call true (.c (.fn 41 [])) [([none],(.t 69)),([none],(.t 71))] []),
 zo 73 (.un .not (.t 72))] ⟨[3,57,58,59,73],[3],[]⟩) (
 .cond (.t 73) (
 .seq (
 zr [
 zo 4 (.mv (.c (.bool false)))] ⟨[4],[],[]⟩) (
 .ret)) (
 .skip))))) (
 zr [
 zo 74 (.bin .add (.t 59) (zc 1)),
 zm 59 74] ⟨[3,57,58,59],[3],[]⟩)))
def v_dam_fits_l1:VC:=.loop [] ⟨[3,57,58,59],[3],[]⟩ v_dam_fits_b1
abbrev v_dam_fits_s1 (x57:V) (x58:Int) (x59:Int) (o3:List V) (G:List GObj):St:=⟨[(3,.lptr 3 0),(57,x57),(58,.int .i64 x58),(59,.int .i64 x59)],[(3,o3)],[],G⟩
def v_dam_fits:VFunc where
 nparams:=2
 results:=[.t 4 [none]]
 body :=
 .seq (
 .region [] [2,3] [
 zo 2 (.box 2 (.t 0)),
 zo 3 (.box 3 (.t 1)),
 zo 4 (.mv (.c (.bool false)))] ⟨[2,3],[2,3],[]⟩) (
 .seq (
 .seq (
 zr [
 zf 9 0 3,
 zj 10 3 9,
 zs 11 2 9 2,
 zo 12 (.call true (.c (.fn 92 [])) [([some 2,none,none,none,none,none,some 6,some 3,none],(.t 11))] []),
 zo 13 (.call true (.c (.fn 41 [])) [([none],(.t 10)),([none],(.t 12))] []),
 zo 14 (.un .not (.t 13)),
 zm 15 14,
 zq 16 15 false (.faddr 1 (.t 3)),
 zq 17 15 false (.load (.loc 3) none (.t 16)),
 zq 18 15 false (.call true (.c (.fn 41 [])) [([none],(.t 17)),([none],(zc 1073741824))] []),
 zq 19 15 false (.un .not (.t 18)),
 zo 20 (.pick (.t 15) (.c (.bool true)) (.t 19)),
 zm 21 20,
 zq 22 21 false (.faddr 2 (.t 3)),
 zq 23 21 false (.load (.loc 3) none (.t 22)),
 zq 24 21 false (.len (.t 23)),
 zq 25 21 false (.faddr 6 (.t 2)),
 zq 26 21 false (.load (.loc 2) none (.t 25)),
 zq 27 21 false (.len (.t 26)),
 zq 28 21 false (.bin .neq (.t 24) (.t 27)),
 zo 29 (.pick (.t 21) (.c (.bool true)) (.t 28)),
 zm 30 29,
 zq 31 30 false (.faddr 3 (.t 3)),
 zq 32 30 false (.load (.loc 3) none (.t 31)),
 zq 33 30 false (.len (.t 32)),
 zq 34 30 false (.faddr 7 (.t 2)),
 zq 35 30 false (.load (.loc 2) none (.t 34)),
 zq 36 30 false (.len (.t 35)),
 zq 37 30 false (.bin .neq (.t 33) (.t 36)),
 zo 38 (.pick (.t 30) (.c (.bool true)) (.t 37))] ⟨[2,3,38],[2,3],[]⟩) (
 .cond (.t 38) (
 .seq (
 zr [
 zo 4 (.mv (.c (.bool false)))] ⟨[4],[],[]⟩) (
 .ret)) (
 .skip))) (
 .seq (
 .seq (
 zr [
 zf 39 6 2,
 zj 40 2 39,
 zl 41 40,
 zo 42 (.mv (zc 0))] ⟨[2,3,40,41,42],[2,3],[]⟩) (
 .block 0 (
 v_dam_fits_l0))) (
 .seq (
 .seq (
 zr [
 zf 56 7 2,
 zj 57 2 56,
 zl 58 57,
 zo 59 (.mv (zc 0))] ⟨[3,57,58,59],[3],[]⟩) (
 .block 2 (
 v_dam_fits_l1))) (
 .seq (
 zr [
 zo 4 (.mv (.c (.bool true)))] ⟨[4],[],[]⟩) (
 .ret)))))
def v_r22_units_b0:VC :=
 .seq (
 zr [
 zo 46 (.bin .lss (.t 45) (.t 44))] ⟨[12,43,44,45,46],[],[1063]⟩) (
 .seq (
 .cond (.t 46) (
 .skip) (
 .exit 0)) (
 .seq (
 .block 1 (
 .seq (
 .region [] [14] [
 za 47 3 43 45,
 zo 48 (.load .imm (some 3) (.t 47)),
 zo 14 (.obj 14 [z0,z0,.bool false]),
 zn (.store (.loc 14) [none,none,none] (.t 14) (.t 48))] ⟨[12,14,43,44,45],[14],[1063]⟩) (
 .seq (
 .region [] [15] [
 zf 49 1 14,
 zj 50 14 49,
 zo 51 (.bin .add (.t 50) (zc 1)),
 zo 52 (.mm false (zc 1000) (.t 51)),
 zf 53 2 14,
 zj 54 14 53,
 zo 55 (.build [z0,z0,.bool false] [(1,1,(.t 52)),(2,1,(.t 54))]),
 zo 15 (.obj 15 [z0,z0,.bool false]),
 zn (.store (.loc 15) [none,none,none] (.t 15) (.t 55))] ⟨[12,14,15,43,44,45],[14,15],[1063]⟩) (
 .seq (
 .seq (
 zr [
 zf 56 0 14,
 zj 57 14 56,
 zo 58 (.bin .gtr (.t 57) (zc 0))] ⟨[12,15,43,44,45,58],[15],[1063]⟩) (
 .cond (.t 58) (
 zr [
 zf 59 1 15,
 zn (.store (.loc 15) [none] (.t 59) (zc 1))] ⟨[12,15,43,44,45],[15],[1063]⟩) (
 .skip))) (
 .region [.norm 12 1063 3] [5063] [
 zm 60 12,
 zs 61 15 3 15,
 zo 62 (.lit none [none,none,none] [z0,z0,.bool false] 1 [(0,(.t 61))]),
 zo 63 (.app 5063 (some 1063) [none,none,none] 5864062014805 (.t 60) (.t 62)),
 zm 12 63] ⟨[12,43,44,45],[],[1063]⟩))))) (
 zr [
 zo 64 (.bin .add (.t 45) (zc 1)),
 zm 45 64] ⟨[12,43,44,45],[],[1063]⟩)))
def v_r22_units_l0:VC:=.loop [.norm 12 1063 3] ⟨[12,43,44,45],[],[1063]⟩ v_r22_units_b0
abbrev v_r22_units_s0 (x12:V) (x43:V) (x44:Int) (x45:Int) (k1063:Nat) (G:List GObj):St:=⟨[(12,x12),(43,x43),(44,.int .i64 x44),(45,.int .i64 x45)],[],[(1063,k1063)],G⟩
def v_r22_units_b1:VC :=
 .seq (
 zr [
 zo 81 (.bin .lss (.t 80) (.t 79))] ⟨[4,10,12,16,17,18,78,79,80,81],[4],[1063]⟩) (
 .seq (
 .cond (.t 81) (
 .skip) (
 .exit 2)) (
 .seq (
 .block 3 (
 .seq (
 .region [] [21] [
 zm 82 80,
 za 83 6 78 80,
 zo 84 (.load .imm (some 6) (.t 83)),
 zo 21 (.obj 21 [.nils,z0,z0,.nils,z0,z0]),
 zm 20 82,
 zn (.store (.loc 21) [some 2,none,none,some 2,none,none] (.t 21) (.t 84))] ⟨[4,10,12,16,17,18,20,21,78,79,80],[4,21],[1063]⟩) (
 .seq (
 .region [] [22] [
 zs 86 21 6 21,
 zf 87 2 4,
 zj 88 4 87,
 zm 89 20,
 za 90 3 88 89,
 zo 91 (.load .imm (some 3) (.t 90)),
 zm 92 10,
 zm 93 20,
 za 94 1 92 93,
 zi 95 94,
 zo 96 (.call true (.c (.fn 96 [])) [([some 2,none,none,some 2,none,none],(.t 86)),([none,none,none],(.t 91)),([none],(.t 95))] []),
 zm 85 96,
 ze 97 85 0,
 ze 98 85 1,
 ze 99 85 2,
 zo 22 (.obj 22 [z0,z0,.bool false]),
 zn (.store (.loc 22) [none,none,none] (.t 22) (.t 97)),
 zm 23 98,
 zm 24 99] ⟨[4,10,12,16,17,18,22,78,79,80],[4,22],[1063]⟩) (
 .region [.norm 12 1063 3] [5103] [
 zm 100 12,
 zs 101 22 3 22,
 zo 102 (.lit none [none,none,none] [z0,z0,.bool false] 1 [(0,(.t 101))]),
 zo 103 (.app 5103 (some 1063) [none,none,none] 5864062014805 (.t 100) (.t 102)),
 zm 12 103] ⟨[4,10,12,16,17,18,78,79,80],[4],[1063]⟩)))) (
 zr [
 zo 104 (.bin .add (.t 80) (zc 1)),
 zm 80 104] ⟨[4,10,12,16,17,18,78,79,80],[4],[1063]⟩)))
def v_r22_units_l1:VC:=.loop [.norm 12 1063 3] ⟨[4,10,12,16,17,18,78,79,80],[4],[1063]⟩ v_r22_units_b1
abbrev v_r22_units_s1 (x10:V) (x12:V) (x16:Int) (x17:Int) (x18:Int) (x78:V) (x79:Int) (x80:Int) (o4:List V) (k1063:Nat) (G:List GObj):St:=⟨[(4,.lptr 4 0),(10,x10),(12,x12),(16,.int .i64 x16),(17,.int .i64 x17),(18,.int .i64 x18),(78,x78),(79,.int .i64 x79),(80,.int .i64 x80)],[(4,o4)],[(1063,k1063)],G⟩
def v_r22_units:VFunc where
 nparams:=3
 results:=[.t 6 [some 3],.t 7 [none],.t 8 [none],.t 9 [none]]
 body :=
 .seq (
 .region [] [3,4] [
 zo 3 (.box 3 (.t 0)),
 zo 4 (.box 4 (.t 1)),
 zo 6 (.mv (.c (.nils))),
 zo 7 (.mv (zc 0)),
 zo 8 (.mv (zc 0)),
 zo 9 (.mv (zc 0))] ⟨[2,3,4],[3,4],[]⟩) (
 .seq (
 zr [
 zf 26 6 3,
 zj 27 3 26,
 zf 28 2 4,
 zj 29 4 28,
 zf 30 8 3,
 zj 31 3 30,
 zm 32 2,
 zf 33 8 3,
 zj 34 3 33,
 zo 35 (.bin .mul (zc 200) (.t 34)),
 zo 36 (.mm false (.t 32) (.t 35)),
 zo 37 (.call true (.c (.fn 94 [])) [([some 6],(.t 27)),([some 3],(.t 29)),([none],(.t 31)),([none],(.t 36))] []),
 zm 25 37,
 ze 38 25 0,
 ze 39 25 1,
 zm 10 38,
 zm 11 39] ⟨[3,4,10,11],[3,4],[]⟩) (
 .seq (
 zr [
 zo 12 (.mv (.c (.nils)))] ⟨[3,4,10,11,12],[3,4],[1063]⟩) (
 .seq (
 .seq (
 zr [
 zm 40 11,
 zo 41 (.bin .neq (.t 40) (zc 0))] ⟨[3,4,10,12,41],[3,4],[1063]⟩) (
 .cond (.t 41) (
 .seq (
 .seq (
 zr [
 zf 42 2 4,
 zj 43 4 42,
 zl 44 43,
 zo 45 (.mv (zc 0))] ⟨[12,43,44,45],[],[1063]⟩) (
 .block 0 (
 v_r22_units_l0))) (
 .seq (
 zr [
 zm 65 12,
 zm 6 65,
 zo 7 (.mv (zc 0)),
 zo 8 (.mv (zc 0)),
 zo 9 (.mv (zc 0))] ⟨[6,7,8,9],[],[1063]⟩) (
 .ret))) (
 .skip))) (
 .seq (
 zr [
 zf 67 6 3,
 zj 68 3 67,
 zf 69 2 4,
 zj 70 4 69,
 zm 71 10,
 zo 72 (.call true (.c (.fn 95 [])) [([some 6],(.t 68)),([some 3],(.t 70)),([some 1],(.t 71))] []),
 zm 66 72,
 ze 73 66 0,
 ze 74 66 1,
 ze 75 66 2,
 ze 76 66 3,
 zm 16 73,
 zm 17 74,
 zm 18 75,
 zm 19 76] ⟨[3,4,10,12,16,17,18],[3,4],[1063]⟩) (
 .seq (
 .seq (
 zr [
 zf 77 6 3,
 zj 78 3 77,
 zl 79 78,
 zo 80 (.mv (zc 0))] ⟨[4,10,12,16,17,18,78,79,80],[4],[1063]⟩) (
 .block 2 (
 v_r22_units_l1))) (
 .seq (
 zr [
 zm 105 12,
 zm 106 16,
 zm 107 17,
 zm 108 18,
 zm 6 105,
 zm 7 106,
 zm 8 107,
 zm 9 108] ⟨[6,7,8,9],[],[1063]⟩) (
 .ret)))))))
def v_r20_Set_b0:VC :=
 .seq (
 .seq (
 zr [
 zm 57 12,
 zm 58 14,
 za 59 1 57 58,
 zj 60 20031 59,
 zm 61 13,
 zm 62 14,
 za 63 1 61 62,
 zi 64 63,
 zo 65 (.bin .lss (.t 60) (.t 64)),
 zm 66 65,
 zq 67 66 true (.mv (.t 0)),
 zq 68 66 true (.mv (.t 12)),
 zq 69 66 true (.mv (.t 2)),
 zq 70 66 true (.lcall (.c (.fn 91 [])) [([some 2,none,none],[some 3],(.t 67)),([none],[some 1],(.t 68)),([],[none],(.t 69))] [20031]),
 zq 71 66 true (.mv (.t 3)),
 zq 72 66 true (.bin .lss (.t 70) (.t 71)),
 zo 73 (.pick (.t 66) (.t 72) (.c (.bool false)))] ⟨[0,1,2,3,12,13,14,73],[20031],[]⟩) (
 .cond (.t 73) (
 .skip) (
 .exit 2))) (
 .block 3 (
 zr [
 zm 74 12,
 zm 75 14,
 za 76 1 74 75,
 zj 77 20031 76,
 zo 78 (.bin .add (.t 77) (zc 1)),
 za 79 1 74 75,
 zn (.store (.loc 20031) [none] (.t 79) (.t 78))] ⟨[0,1,2,3,12,13,14],[20031],[]⟩))
def v_r20_Set_l0:VC:=.loop [] ⟨[0,1,2,3,12,13,14],[20031],[]⟩ v_r20_Set_b0
abbrev v_r20_Set_s0 (x0:V) (x1:V) (x2:Int) (x3:Int) (n12:Nat) (x13:V) (x14:Int) (o20031:List V) (G:List GObj):St:=⟨[(0,x0),(1,x1),(2,.int .i64 x2),(3,.int .i64 x3),(12,.lref 20031 1 n12),(13,x13),(14,.int .i64 x14)],[(20031,o20031)],[],G⟩
def v_r20_Set_b1:VC :=
 .seq (
 .seq (
 zr [
 zm 34 14,
 zm 35 0,
 zl 36 35,
 zo 37 (.bin .lss (.t 34) (.t 36)),
 zm 38 37,
 zq 39 38 true (.mv (.t 0)),
 zq 40 38 true (.mv (.t 12)),
 zq 41 38 true (.mv (.t 2)),
 zq 42 38 true (.lcall (.c (.fn 91 [])) [([some 2,none,none],[some 3],(.t 39)),([none],[some 1],(.t 40)),([],[none],(.t 41))] [20031]),
 zq 43 38 true (.mv (.t 3)),
 zq 44 38 true (.bin .lss (.t 42) (.t 43)),
 zo 45 (.pick (.t 38) (.t 44) (.c (.bool false)))] ⟨[0,1,2,3,12,13,14,45],[20031],[]⟩) (
 .cond (.t 45) (
 .skip) (
 .exit 0))) (
 .block 1 (
 .seq (
 .seq (
 zr [
 zm 46 12,
 zm 47 14,
 za 48 1 46 47,
 zj 49 20031 48,
 zm 50 13,
 zm 51 14,
 za 52 1 50 51,
 zi 53 52,
 zo 54 (.bin .eql (.t 49) (.t 53))] ⟨[0,1,2,3,12,13,14,54],[20031],[]⟩) (
 .cond (.t 54) (
 .seq (
 zr [
 zm 55 14,
 zo 56 (.bin .add (.t 55) (zc 1)),
 zm 14 56] ⟨[0,1,2,3,12,13,14],[20031],[]⟩) (
 .exit 1)) (
 .skip))) (
 .block 2 (
 v_r20_Set_l0))))
def v_r20_Set_l1:VC:=.loop [] ⟨[0,1,2,3,12,13,14],[20031],[]⟩ v_r20_Set_b1
abbrev v_r20_Set_s1 (x0:V) (x1:V) (x2:Int) (x3:Int) (n12:Nat) (x13:V) (x14:Int) (o20031:List V) (G:List GObj):St:=⟨[(0,x0),(1,x1),(2,.int .i64 x2),(3,.int .i64 x3),(12,.lref 20031 1 n12),(13,x13),(14,.int .i64 x14)],[(20031,o20031)],[],G⟩
def v_r20_Set_b2:VC :=
 .seq (
 zr [
 zo 83 (.bin .lss (.t 82) (.t 81))] ⟨[0,2,12,15,80,81,82,83],[20031],[1096]⟩) (
 .seq (
 .cond (.t 83) (
 .skip) (
 .exit 4)) (
 .seq (
 .block 5 (
 .seq (
 .region [] [17] [
 zm 84 82,
 za 85 2 80 82,
 zo 86 (.load .imm (some 2) (.t 85)),
 zo 17 (.obj 17 [z0,.bool false]),
 zm 16 84,
 zn (.store (.loc 17) [none,none] (.t 17) (.t 86))] ⟨[0,2,12,15,16,17,80,81,82],[17,20031],[1096]⟩) (
 .region [.norm 15 1096 2] [5096] [
 zm 87 15,
 zm 88 12,
 zm 89 16,
 za 90 1 88 89,
 zj 91 20031 90,
 zf 92 1 17,
 zj 93 17 92,
 zo 94 (.build [z0,.bool false] [(0,1,(.t 91)),(1,1,(.t 93))]),
 zo 95 (.lit none [none,none] [z0,.bool false] 1 [(0,(.t 94))]),
 zo 96 (.app 5096 (some 1096) [none,none] 8796093022208 (.t 87) (.t 95)),
 zm 15 96] ⟨[0,2,12,15,80,81,82],[20031],[1096]⟩))) (
 zr [
 zo 97 (.bin .add (.t 82) (zc 1)),
 zm 82 97] ⟨[0,2,12,15,80,81,82],[20031],[1096]⟩)))
def v_r20_Set_l2:VC:=.loop [.norm 15 1096 2] ⟨[0,2,12,15,80,81,82],[20031],[1096]⟩ v_r20_Set_b2
abbrev v_r20_Set_s2 (x0:V) (x2:Int) (n12:Nat) (x15:V) (x80:V) (x81:Int) (x82:Int) (o20031:List V) (k1096:Nat) (G:List GObj):St:=⟨[(0,x0),(2,.int .i64 x2),(12,.lref 20031 1 n12),(15,x15),(80,x80),(81,.int .i64 x81),(82,.int .i64 x82)],[(20031,o20031)],[(1096,k1096)],G⟩
def v_r20_Set:VFunc where
 nparams:=4
 results:=[.t 8 [some 2],.t 9 [none],.t 10 [none]]
 body :=
 .seq (
 zr [
 zo 8 (.mv (.c (.nils))),
 zo 9 (.mv (zc 0)),
 zo 10 (.mv (zc 0))] ⟨[0,1,2,3],[],[]⟩) (
 .seq (
 .seq (
 zr [
 zm 18 0,
 zm 19 1,
 zm 20 2,
 zo 21 (.call true (.c (.fn 89 [])) [([some 3],(.t 18)),([some 2],(.t 19)),([none],(.t 20))] []),
 zm 11 21] ⟨[0,1,2,3,11],[],[]⟩) (
 .seq (
 zr [
 zm 22 11,
 zo 23 (.bin .neq (.t 22) (zc 0))] ⟨[0,1,2,3,11,23],[],[]⟩) (
 .cond (.t 23) (
 .seq (
 zr [
 zm 24 11,
 zo 8 (.mv (.c (.nils))),
 zo 9 (.mv (zc 0)),
 zm 10 24] ⟨[8,9,10],[],[1096]⟩) (
 .ret)) (
 .skip)))) (
 .seq (
 .seq (
 zr [
 zm 25 3,
 zo 26 (.call true (.c (.fn 43 [])) [([none],(.t 25)),([none],(zc 1073741824))] []),
 zo 27 (.un .not (.t 26))] ⟨[0,1,2,3,27],[],[]⟩) (
 .cond (.t 27) (
 .seq (
 zr [
 zo 8 (.mv (.c (.nils))),
 zo 9 (.mv (zc 0)),
 zo 10 (.mv (zc 1))] ⟨[8,9,10],[],[1096]⟩) (
 .ret)) (
 .skip))) (
 .seq (
 .region [] [20031] [
 zm 29 0,
 zm 30 1,
 zo 31 (.own (.c (.fn 90 [])) [([some 3],(.t 29)),([some 2],(.t 30))] 20031 0),
 zm 28 31,
 ze 32 28 0,
 ze 33 28 1,
 zm 12 32,
 zm 13 33] ⟨[0,1,2,3,12,13],[20031],[]⟩) (
 .seq (
 .seq (
 zr [
 zo 14 (.mv (zc 0))] ⟨[0,1,2,3,12,13,14],[20031],[]⟩) (
 .block 0 (
 v_r20_Set_l1))) (
 .seq (
 zr [
 zo 15 (.mv (.c (.nils)))] ⟨[0,1,2,12,15],[20031],[1096]⟩) (
 .seq (
 .seq (
 zr [
 zm 80 1,
 zl 81 80,
 zo 82 (.mv (zc 0))] ⟨[0,2,12,15,80,81,82],[20031],[1096]⟩) (
 .block 4 (
 v_r20_Set_l2))) (
 .seq (
 .region [.freeze 12 [none]] [] [
 zm 98 15,
 zm 99 0,
 zm 100 12,
 zm 101 2,
 zo 102 (.call true (.c (.fn 91 [])) [([some 3],(.t 99)),([some 1],(.t 100)),([none],(.t 101))] []),
 zm 8 98,
 zm 9 102,
 zo 10 (.mv (zc 0))] ⟨[8,9,10],[],[1096]⟩) (
 .ret))))))))
def v_r20_Same_b0:VC :=
 .seq (
 zr [
 zo 14 (.bin .lss (.t 13) (.t 12))] ⟨[0,1,12,13,14],[],[]⟩) (
 .seq (
 .cond (.t 14) (
 .skip) (
 .exit 0)) (
 .seq (
 .block 1 (
 .seq (
 zr [
 zm 15 13,
 zm 5 15] ⟨[0,1,5,12,13],[],[]⟩) (
 .seq (
 zr [
 zm 16 0,
 zm 17 5,
 za 18 2 16 17,
 zo 19 (.load .imm (some 2) (.t 18)),
 zm 20 1,
 zm 21 5,
 za 22 2 20 21,
 zo 23 (.load .imm (some 2) (.t 22)),
 zo 24 (.aeq true [0,1] (.t 19) (.t 23))] ⟨[0,1,12,13,24],[],[]⟩) (
 .cond (.t 24) (
 .seq (
 zr [
 zo 4 (.mv (.c (.bool false)))] ⟨[4],[],[]⟩) (
 .ret)) (
 .skip))))) (
 zr [
 zo 25 (.bin .add (.t 13) (zc 1)),
 zm 13 25] ⟨[0,1,12,13],[],[]⟩)))
def v_r20_Same_l0:VC:=.loop [] ⟨[0,1,12,13],[],[]⟩ v_r20_Same_b0
abbrev v_r20_Same_s0 (x0:V) (x1:V) (x12:Int) (x13:Int) (G:List GObj):St:=⟨[(0,x0),(1,x1),(12,.int .i64 x12),(13,.int .i64 x13)],[],[],G⟩
def v_r20_Same:VFunc where
 nparams:=2
 results:=[.t 4 [none]]
 body :=
 .seq (
 zr [
 zo 4 (.mv (.c (.bool false)))] ⟨[0,1],[],[]⟩) (
 .seq (
 .seq (
 zr [
 zm 6 0,
 zl 7 6,
 zm 8 1,
 zl 9 8,
 zo 10 (.bin .neq (.t 7) (.t 9))] ⟨[0,1,10],[],[]⟩) (
 .cond (.t 10) (
 .seq (
 zr [
 zo 4 (.mv (.c (.bool false)))] ⟨[4],[],[]⟩) (
 .ret)) (
 .skip))) (
 .seq (
 .seq (
 zr [
 zm 11 0,
 zl 12 11,
 zo 13 (.mv (zc 0))] ⟨[0,1,12,13],[],[]⟩) (
 .block 0 (
 v_r20_Same_l0))) (
 .seq (
 zr [
 zo 4 (.mv (.c (.bool true)))] ⟨[4],[],[]⟩) (
 .ret))))
def v_slices_Clone_api_UnitState_api_UnitState:VFunc where
 nparams:=1
 results:=[.t 2 [some 3]]
 split:=some 0
 body :=
 .seq (
 zr [
 zo 2 (.mv (.c (.nils)))] ⟨[0],[],[]⟩) (
 .seq (
 .seq (
 zr [
 zm 3 0,
 zo 4 (.isnil false (.t 3))] ⟨[0,4],[],[]⟩) (
 .cond (.t 4) (
 .seq (
 zr [
 zo 2 (.mv (.c (.nils)))] ⟨[2],[],[1007]⟩) (
 .ret)) (
 .skip))) (
 .seq (
 .region [] [1007] [
 zo 5 (.zlit 3),
 zm 6 0,
 zo 7 (.app 1007 none [none,none,none] 5864062014805 (.t 5) (.t 6)),
 zm 2 7] ⟨[2],[],[1007]⟩) (
 .ret)))
def v_slices_Clone_api_GateState_api_GateState:VFunc where
 nparams:=1
 results:=[.t 2 [some 2]]
 split:=some 0
 body :=
 .seq (
 zr [
 zo 2 (.mv (.c (.nils)))] ⟨[0],[],[]⟩) (
 .seq (
 .seq (
 zr [
 zm 3 0,
 zo 4 (.isnil false (.t 3))] ⟨[0,4],[],[]⟩) (
 .cond (.t 4) (
 .seq (
 zr [
 zo 2 (.mv (.c (.nils)))] ⟨[2],[],[1007]⟩) (
 .ret)) (
 .skip))) (
 .seq (
 .region [] [1007] [
 zo 5 (.zlit 2),
 zm 6 0,
 zo 7 (.app 1007 none [none,none] 8796093022208 (.t 5) (.t 6)),
 zm 2 7] ⟨[2],[],[1007]⟩) (
 .ret)))
def v_mk_Curve_b0:VC :=
 .seq (
 .seq (
 zr [
 zm 24 15,
 zo 25 (.bin .gtr (.t 24) (zc 0))] ⟨[0,1,2,3,4,13,14,15,25],[],[1020]⟩) (
 .cond (.t 25) (
 .skip) (
 .exit 0))) (
 .seq (
 .block 1 (
 .seq (
 zr [
 zm 28 1,
 zo 29 (.bin .add (.t 28) (zc 1)),
 zm 30 0,
 zm 31 3,
 zo 32 (.call false (.c (.fn 10 [])) [([none],(.t 30)),([none],(.t 31))] []),
 zo 33 (.bin .add (.t 29) (.t 32)),
 zm 34 2,
 zm 35 13,
 zo 36 (.bin .add (.t 34) (.t 35)),
 zm 37 0,
 zm 38 4,
 zo 39 (.call false (.c (.fn 10 [])) [([none],(.t 37)),([none],(.t 38))] []),
 zo 40 (.bin .add (.t 36) (.t 39)),
 zm 1 33,
 zm 2 40] ⟨[0,1,2,3,4,13,14,15],[],[1020]⟩) (
 .region [.norm 14 1020 2] [5046] [
 zm 41 14,
 zm 42 1,
 zm 43 2,
 zo 44 (.build [z0,z0] [(0,1,(.t 42)),(1,1,(.t 43))]),
 zo 45 (.lit none [none,none] [z0,z0] 1 [(0,(.t 44))]),
 zo 46 (.app 5046 (some 1020) [none,none] 8796093022208 (.t 41) (.t 45)),
 zm 14 46] ⟨[0,1,2,3,4,13,14,15],[],[1020]⟩))) (
 zr [
 zm 26 15,
 zo 27 (.bin .sub (.t 26) (zc 1)),
 zm 15 27] ⟨[0,1,2,3,4,13,14,15],[],[1020]⟩))
def v_mk_Curve_l0:VC:=.loop [.norm 14 1020 2] ⟨[0,1,2,3,4,13,14,15],[],[1020]⟩ v_mk_Curve_b0
abbrev v_mk_Curve_s0 (x0:V) (x1:Int) (x2:Int) (x3:Int) (x4:Int) (x13:Int) (x14:V) (x15:Int) (k1020:Nat) (G:List GObj):St:=⟨[(0,x0),(1,.int .i64 x1),(2,.int .i64 x2),(3,.int .i64 x3),(4,.int .i64 x4),(13,.int .i64 x13),(14,x14),(15,.int .i64 x15)],[],[(1020,k1020)],G⟩
def v_mk_Curve:VFunc where
 nparams:=6
 results:=[.t 12 [some 2]]
 body :=
 .seq (
 zr [
 zo 12 (.mv (.c (.nils)))] ⟨[0,1,2,3,4,5],[],[]⟩) (
 .seq (
 zr [
 zo 13 (.mv (zc 0))] ⟨[0,1,2,3,4,5,13],[],[]⟩) (
 .seq (
 .seq (
 zr [
 zm 16 5] ⟨[0,1,2,3,4,13,16],[],[]⟩) (
 .cond (.t 16) (
 zr [
 zo 13 (.mv (zc 1))] ⟨[0,1,2,3,4,13],[],[]⟩) (
 .skip))) (
 .seq (
 .region [] [1020] [
 zm 17 1,
 zm 18 2,
 zo 19 (.build [z0,z0] [(0,1,(.t 17)),(1,1,(.t 18))]),
 zo 20 (.lit (some 1020) [none,none] [z0,z0] 1 [(0,(.t 19))]),
 zm 14 20] ⟨[0,1,2,3,4,13,14],[],[1020]⟩) (
 .seq (
 .seq (
 zr [
 zm 21 0,
 zo 22 (.call false (.c (.fn 10 [])) [([none],(.t 21)),([none],(zc 4))] []),
 zo 23 (.bin .add (zc 1) (.t 22)),
 zm 15 23] ⟨[0,1,2,3,4,13,14,15],[],[1020]⟩) (
 .block 0 (
 v_mk_Curve_l0))) (
 .seq (
 zr [
 zm 47 14,
 zm 12 47] ⟨[12],[],[1020]⟩) (
 .ret))))))
def v_mk_Unit_b0:VC :=
 .seq (
 .seq (
 zr [
 zm 24 4,
 zo 25 (.bin .gtr (.t 24) (zc 0))] ⟨[0,2,3,4,25],[2,3],[1040]⟩) (
 .cond (.t 25) (
 .skip) (
 .exit 0))) (
 .seq (
 .block 1 (
 .seq (
 zr [
 zm 28 0,
 zo 29 (.call false (.c (.fn 10 [])) [([none],(.t 28)),([none],(zc 16))] []),
 zm 5 29] ⟨[0,2,3,4,5],[2,3],[1040]⟩) (
 .region [.normCell 3 3 1040 2] [5040] [
 zf 30 3 3,
 zj 31 3 30,
 zm 32 5,
 zm 33 5,
 zo 34 (.bin .add (.t 33) (zc 1)),
 zm 35 0,
 zo 36 (.call false (.c (.fn 10 [])) [([none],(.t 35)),([none],(zc 5))] []),
 zo 37 (.bin .add (.t 34) (.t 36)),
 zo 38 (.build [z0,z0] [(0,1,(.t 32)),(1,1,(.t 37))]),
 zo 39 (.lit none [none,none] [z0,z0] 1 [(0,(.t 38))]),
 zo 40 (.app 5040 (some 1040) [none,none] 8796093022208 (.t 31) (.t 39)),
 zf 41 3 3,
 zn (.store (.loc 3) [some 2] (.t 41) (.t 40))] ⟨[0,2,3,4],[2,3],[1040]⟩))) (
 zr [
 zm 26 4,
 zo 27 (.bin .sub (.t 26) (zc 1)),
 zm 4 27] ⟨[0,2,3,4],[2,3],[1040]⟩))
def v_mk_Unit_l0:VC:=.loop [.normCell 3 3 1040 2] ⟨[0,2,3,4],[2,3],[1040]⟩ v_mk_Unit_b0
abbrev v_mk_Unit_s0 (x0:V) (x4:Int) (o2:List V) (o3:List V) (k1040:Nat) (G:List GObj):St:=⟨[(0,x0),(2,.lptr 2 0),(3,.lptr 3 0),(4,.int .i64 x4)],[(2,o2),(3,o3)],[(1040,k1040)],G⟩
def v_mk_Unit:VFunc where
 nparams:=1
 results:=[.c 2 true [some 2,none,none,some 2,none,none]]
 body :=
 .seq (
 .region [] [2] [
 zo 2 (.obj 2 [.nils,z0,z0,.nils,z0,z0])] ⟨[0,2],[2],[1040]⟩) (
 .seq (
 .region [] [3] [
 zm 6 0,
 zo 7 (.call false (.c (.fn 67 [])) [([none],(.t 6)),([none],(zc 0)),([none],(zc 0)),([none],(zc 10)),([none],(zc 30)),([none],(.c (.bool false)))] []),
 zm 8 0,
 zo 9 (.call false (.c (.fn 10 [])) [([none],(.t 8)),([none],(zc 8))] []),
 zo 10 (.bin .add (zc 1) (.t 9)),
 zm 11 0,
 zo 12 (.call false (.c (.fn 10 [])) [([none],(.t 11)),([none],(zc 3))] []),
 zm 13 0,
 zo 14 (.call false (.c (.fn 10 [])) [([none],(.t 13)),([none],(zc 3))] []),
 zo 15 (.build [.nils,z0,z0,.nils,z0,z0] [(0,1,(.t 7)),(1,1,(.t 10)),(4,1,(.t 12)),(5,1,(.t 14))]),
 zo 3 (.obj 3 [.nils,z0,z0,.nils,z0,z0]),
 zn (.store (.loc 3) [some 2,none,none,some 2,none,none] (.t 3) (.t 15))] ⟨[0,2,3],[2,3],[1040]⟩) (
 .seq (
 zr [
 zf 16 1 3,
 zj 17 3 16,
 zm 18 0,
 zo 19 (.call false (.c (.fn 10 [])) [([none],(.t 18)),([none],(zc 12))] []),
 zo 20 (.bin .add (.t 17) (.t 19)),
 zf 21 2 3,
 zn (.store (.loc 3) [none] (.t 21) (.t 20))] ⟨[0,2,3],[2,3],[1040]⟩) (
 .seq (
 .seq (
 zr [
 zm 22 0,
 zo 23 (.call false (.c (.fn 10 [])) [([none],(.t 22)),([none],(zc 3))] []),
 zm 4 23] ⟨[0,2,3,4],[2,3],[1040]⟩) (
 .block 0 (
 v_mk_Unit_l0))) (
 .seq (
 zr [
 zs 42 3 6 3,
 zn (.store (.loc 2) [some 2,none,none,some 2,none,none] (.t 2) (.t 42))] ⟨[2],[2],[1040]⟩) (
 .ret)))))
def v_mk_UnitState:VFunc where
 nparams:=2
 results:=[.c 4 true [none,none,none]]
 body :=
 .seq (
 .region [] [3,4] [
 zo 3 (.box 3 (.t 1)),
 zo 4 (.obj 4 [z0,z0,.bool false])] ⟨[0,3,4],[3,4],[]⟩) (
 .seq (
 .region [] [5] [
 zm 8 0,
 zo 9 (.call false (.c (.fn 10 [])) [([none],(.t 8)),([none],(zc 5))] []),
 zm 10 0,
 zo 11 (.call false (.c (.fn 10 [])) [([none],(.t 10)),([none],(zc 7))] []),
 zo 12 (.bin .eql (.t 11) (zc 6)),
 zo 13 (.build [z0,z0,.bool false] [(1,1,(.t 9)),(2,1,(.t 12))]),
 zo 5 (.obj 5 [z0,z0,.bool false]),
 zn (.store (.loc 5) [none,none,none] (.t 5) (.t 13))] ⟨[0,3,4,5],[3,4,5],[]⟩) (
 .seq (
 .seq (
 zr [
 zs 15 3 6 3,
 zo 16 (.call true (.c (.fn 97 [])) [([some 2,none,none,some 2,none,none],(.t 15)),([none],(zc 1))] []),
 zm 14 16,
 ze 17 14 0,
 ze 18 14 1,
 zm 6 17,
 zm 7 18] ⟨[0,4,5,6],[4,5],[]⟩) (
 .seq (
 zr [
 zm 19 6,
 zl 20 19,
 zo 21 (.bin .gtr (.t 20) (zc 0)),
 zm 22 21,
 zq 23 22 true (.faddr 2 (.t 5)),
 zq 24 22 true (.load (.loc 5) none (.t 23)),
 zq 25 22 true (.un .not (.t 24)),
 zo 26 (.pick (.t 22) (.t 25) (.c (.bool false))),
 zm 27 26,
 zq 28 27 true (.mv (.t 0)),
 zq 29 27 true (.call false (.c (.fn 10 [])) [([none],(.t 28)),([none],(zc 2))] []),
 zq 30 27 true (.bin .eql (.t 29) (zc 0)),
 zo 31 (.pick (.t 27) (.t 30) (.c (.bool false)))] ⟨[0,4,5,6,31],[4,5],[]⟩) (
 .cond (.t 31) (
 zr [
 zm 32 6,
 zm 33 0,
 zm 34 6,
 zl 35 34,
 zo 36 (.call false (.c (.fn 10 [])) [([none],(.t 33)),([none],(.t 35))] []),
 za 37 1 32 36,
 zi 38 37,
 zf 39 0 5,
 zn (.store (.loc 5) [none] (.t 39) (.t 38))] ⟨[4,5],[4,5],[]⟩) (
 .skip)))) (
 .seq (
 zr [
 zs 40 5 3 5,
 zn (.store (.loc 4) [none,none,none] (.t 4) (.t 40))] ⟨[4],[4],[]⟩) (
 .ret))))
def v_mk_Gate_b0:VC :=
 .seq (
 .seq (
 zr [
 zm 16 5,
 zo 17 (.bin .geq (.t 16) (zc 0))] ⟨[0,2,3,4,5,17],[2,3],[1027]⟩) (
 .cond (.t 17) (
 .skip) (
 .exit 0))) (
 .seq (
 .block 1 (
 .seq (
 .region [.normCell 3 0 1027 2] [5027] [
 zf 20 0 3,
 zj 21 3 20,
 zm 22 4,
 zm 23 0,
 zo 24 (.call false (.c (.fn 67 [])) [([none],(.t 23)),([none],(zc 0)),([none],(zc 0)),([none],(zc 6)),([none],(zc 20)),([none],(.c (.bool false)))] []),
 zo 25 (.build [z0,.nils] [(0,1,(.t 22)),(1,1,(.t 24))]),
 zo 26 (.lit none [none,some 2] [z0,.slice none 2 []] 1 [(0,(.t 25))]),
 zo 27 (.app 5027 (some 1027) [none,some 2] 4398046511104 (.t 21) (.t 26)),
 zf 28 0 3,
 zn (.store (.loc 3) [some 2] (.t 28) (.t 27))] ⟨[0,2,3,4,5],[2,3],[1027]⟩) (
 zr [
 zm 29 4,
 zm 30 0,
 zo 31 (.call false (.c (.fn 10 [])) [([none],(.t 30)),([none],(zc 40))] []),
 zo 32 (.bin .add (zc 1) (.t 31)),
 zo 33 (.bin .add (.t 29) (.t 32)),
 zm 4 33] ⟨[0,2,3,4,5],[2,3],[1027]⟩))) (
 zr [
 zm 18 5,
 zo 19 (.bin .sub (.t 18) (zc 1)),
 zm 5 19] ⟨[0,2,3,4,5],[2,3],[1027]⟩))
def v_mk_Gate_l0:VC:=.loop [.normCell 3 0 1027 2] ⟨[0,2,3,4,5],[2,3],[1027]⟩ v_mk_Gate_b0
abbrev v_mk_Gate_s0 (x0:V) (x4:Int) (x5:Int) (o2:List V) (o3:List V) (k1027:Nat) (G:List GObj):St:=⟨[(0,x0),(2,.lptr 2 0),(3,.lptr 3 0),(4,.int .i64 x4),(5,.int .i64 x5)],[(2,o2),(3,o3)],[(1027,k1027)],G⟩
def v_mk_Gate:VFunc where
 nparams:=1
 results:=[.c 2 true [some 2,none,none]]
 body :=
 .seq (
 .region [] [2] [
 zo 2 (.obj 2 [.nils,z0,z0])] ⟨[0,2],[2],[1027]⟩) (
 .seq (
 .region [] [3] [
 zm 6 0,
 zo 7 (.call false (.c (.fn 10 [])) [([none],(.t 6)),([none],(zc 12))] []),
 zm 8 0,
 zo 9 (.call false (.c (.fn 10 [])) [([none],(.t 8)),([none],(zc 6))] []),
 zo 10 (.build [.nils,z0,z0] [(1,1,(.t 7)),(2,1,(.t 9))]),
 zo 3 (.obj 3 [.nils,z0,z0]),
 zn (.store (.loc 3) [some 2,none,none] (.t 3) (.t 10))] ⟨[0,2,3],[2,3],[1027]⟩) (
 .seq (
 zr [
 zm 11 0,
 zo 12 (.call false (.c (.fn 10 [])) [([none],(.t 11)),([none],(zc 40))] []),
 zo 13 (.bin .add (zc 90) (.t 12)),
 zm 4 13] ⟨[0,2,3,4],[2,3],[1027]⟩) (
 .seq (
 .seq (
 zr [
 zm 14 0,
 zo 15 (.call false (.c (.fn 10 [])) [([none],(.t 14)),([none],(zc 3))] []),
 zm 5 15] ⟨[0,2,3,4,5],[2,3],[1027]⟩) (
 .block 0 (
 v_mk_Gate_l0))) (
 .seq (
 zr [
 zs 34 3 3 3,
 zn (.store (.loc 2) [some 2,none,none] (.t 2) (.t 34))] ⟨[2],[2],[1027]⟩) (
 .ret)))))
def v_r02_Check_b0:VC :=
 .seq (
 zr [
 zo 16 (.bin .lss (.t 15) (.t 14))] ⟨[0,13,14,15,16],[],[]⟩) (
 .seq (
 .cond (.t 16) (
 .skip) (
 .exit 0)) (
 .seq (
 .block 1 (
 .seq (
 .region [] [4] [
 zm 17 15,
 za 18 2 13 15,
 zo 19 (.load .imm (some 2) (.t 18)),
 zo 4 (.obj 4 [z0,z0]),
 zm 3 17,
 zn (.store (.loc 4) [none,none] (.t 4) (.t 19))] ⟨[0,3,4,13,14,15],[4],[]⟩) (
 .seq (
 .seq (
 zr [
 zf 20 0 4,
 zj 21 4 20,
 zo 22 (.call true (.c (.fn 43 [])) [([none],(.t 21)),([none],(zc 1073741824))] []),
 zo 23 (.un .not (.t 22)),
 zm 24 23,
 zq 25 24 false (.faddr 1 (.t 4)),
 zq 26 24 false (.load (.loc 4) none (.t 25)),
 zq 27 24 false (.call true (.c (.fn 43 [])) [([none],(.t 26)),([none],(zc 274877906944))] []),
 zq 28 24 false (.un .not (.t 27)),
 zo 29 (.pick (.t 24) (.c (.bool true)) (.t 28))] ⟨[0,3,4,13,14,15,29],[4],[]⟩) (
 .cond (.t 29) (
 .seq (
 zr [
 zo 2 (.mv (zc 1))] ⟨[2],[],[]⟩) (
 .ret)) (
 .skip))) (
 .seq (
 .seq (
 zr [
 zm 30 3,
 zo 31 (.bin .eql (.t 30) (zc 0))] ⟨[0,3,4,13,14,15,31],[4],[]⟩) (
 .cond (.t 31) (
 .exit 1) (
 .skip))) (
 .seq (
 zr [
 zf 32 0 4,
 zj 33 4 32,
 zm 34 0,
 zm 35 3,
 zo 36 (.bin .sub (.t 35) (zc 1)),
 za 37 2 34 36,
 zf 38 0 37,
 zi 39 38,
 zo 40 (.bin .sub (.t 33) (.t 39)),
 zf 41 1 4,
 zj 42 4 41,
 zm 43 0,
 zm 44 3,
 zo 45 (.bin .sub (.t 44) (zc 1)),
 za 46 2 43 45,
 zf 47 1 46,
 zi 48 47,
 zo 49 (.bin .sub (.t 42) (.t 48)),
 zm 5 40,
 zm 6 49] ⟨[0,5,6,13,14,15],[],[]⟩) (
 .seq (
 .seq (
 zr [
 zm 50 5,
 zo 51 (.bin .leq (.t 50) (zc 0)),
 zm 52 51,
 zq 53 52 false (.mv (.t 6)),
 zq 54 52 false (.bin .lss (.t 53) (zc 0)),
 zo 55 (.pick (.t 52) (.c (.bool true)) (.t 54))] ⟨[0,5,6,13,14,15,55],[],[]⟩) (
 .cond (.t 55) (
 .seq (
 zr [
 zo 2 (.mv (zc 4))] ⟨[2],[],[]⟩) (
 .ret)) (
 .skip))) (
 .seq (
 zr [
 zm 56 6,
 zm 57 5,
 zo 58 (.bin .quo (zc 4611686018427387904) (.t 57)),
 zo 59 (.bin .gtr (.t 56) (.t 58))] ⟨[0,13,14,15,59],[],[]⟩) (
 .cond (.t 59) (
 .seq (
 zr [
 zo 2 (.mv (zc 1))] ⟨[2],[],[]⟩) (
 .ret)) (
 .skip))))))))) (
 zr [
 zo 60 (.bin .add (.t 15) (zc 1)),
 zm 15 60] ⟨[0,13,14,15],[],[]⟩)))
def v_r02_Check_l0:VC:=.loop [] ⟨[0,13,14,15],[],[]⟩ v_r02_Check_b0
abbrev v_r02_Check_s0 (x0:V) (x13:V) (x14:Int) (x15:Int) (G:List GObj):St:=⟨[(0,x0),(13,x13),(14,.int .i64 x14),(15,.int .i64 x15)],[],[],G⟩
def v_r02_Check:VFunc where
 nparams:=1
 results:=[.t 2 [none]]
 body :=
 .seq (
 zr [
 zo 2 (.mv (zc 0))] ⟨[0],[],[]⟩) (
 .seq (
 .seq (
 zr [
 zm 7 0,
 zl 8 7,
 zo 9 (.bin .eql (.t 8) (zc 0))] ⟨[0,9],[],[]⟩) (
 .cond (.t 9) (
 .seq (
 zr [
 zo 2 (.mv (zc 3))] ⟨[2],[],[]⟩) (
 .ret)) (
 .skip))) (
 .seq (
 .seq (
 zr [
 zm 10 0,
 zl 11 10,
 zo 12 (.bin .gtr (.t 11) (zc 100))] ⟨[0,12],[],[]⟩) (
 .cond (.t 12) (
 .seq (
 zr [
 zo 2 (.mv (zc 10))] ⟨[2],[],[]⟩) (
 .ret)) (
 .skip))) (
 .seq (
 .seq (
 zr [
 zm 13 0,
 zl 14 13,
 zo 15 (.mv (zc 0))] ⟨[0,13,14,15],[],[]⟩) (
 .block 0 (
 v_r02_Check_l0))) (
 .seq (
 zr [
 zo 2 (.mv (zc 0))] ⟨[2],[],[]⟩) (
 .ret)))))
def v_r02_at_b0:VC :=
 .seq (
 .seq (
 zr [
 zm 18 5,
 zm 19 0,
 zl 20 19,
 zo 21 (.bin .lss (.t 18) (.t 20))] ⟨[0,1,5,21],[],[]⟩) (
 .cond (.t 21) (
 .skip) (
 .exit 0))) (
 .seq (
 .block 1 (
 .seq (
 zr [
 zm 24 1,
 zm 25 0,
 zm 26 5,
 za 27 2 25 26,
 zf 28 0 27,
 zi 29 28,
 zo 30 (.bin .lss (.t 24) (.t 29))] ⟨[0,1,5,30],[],[]⟩) (
 .cond (.t 30) (
 .seq (
 .region [] [6,7] [
 zm 31 0,
 zm 32 5,
 zo 33 (.bin .sub (.t 32) (zc 1)),
 za 34 2 31 33,
 zo 35 (.load .imm (some 2) (.t 34)),
 zm 36 0,
 zm 37 5,
 za 38 2 36 37,
 zo 39 (.load .imm (some 2) (.t 38)),
 zo 6 (.obj 6 [z0,z0]),
 zo 7 (.obj 7 [z0,z0]),
 zn (.store (.loc 6) [none,none] (.t 6) (.t 35)),
 zn (.store (.loc 7) [none,none] (.t 7) (.t 39))] ⟨[1,6,7],[6,7],[]⟩) (
 .seq (
 zr [
 zf 40 1 6,
 zj 41 6 40,
 zf 42 1 7,
 zj 43 7 42,
 zf 44 1 6,
 zj 45 6 44,
 zo 46 (.bin .sub (.t 43) (.t 45)),
 zm 47 1,
 zf 48 0 6,
 zj 49 6 48,
 zo 50 (.bin .sub (.t 47) (.t 49)),
 zo 51 (.bin .mul (.t 46) (.t 50)),
 zf 52 0 7,
 zj 53 7 52,
 zf 54 0 6,
 zj 55 6 54,
 zo 56 (.bin .sub (.t 53) (.t 55)),
 zo 57 (.bin .quo (.t 51) (.t 56)),
 zo 58 (.bin .add (.t 41) (.t 57)),
 zm 4 58] ⟨[4],[],[]⟩) (
 .ret))) (
 .skip)))) (
 zr [
 zm 22 5,
 zo 23 (.bin .add (.t 22) (zc 1)),
 zm 5 23] ⟨[0,1,5],[],[]⟩))
def v_r02_at_l0:VC:=.loop [] ⟨[0,1,5],[],[]⟩ v_r02_at_b0
abbrev v_r02_at_s0 (x0:V) (x1:Int) (x5:Int) (G:List GObj):St:=⟨[(0,x0),(1,.int .i64 x1),(5,.int .i64 x5)],[],[],G⟩
def v_r02_at:VFunc where
 nparams:=2
 results:=[.t 4 [none]]
 body :=
 .seq (
 zr [
 zo 4 (.mv (zc 0))] ⟨[0,1],[],[]⟩) (
 .seq (
 .seq (
 zr [
 zm 8 1,
 zm 9 0,
 zo 10 (.iaddr none 2 (.t 9) (zc 0)),
 zf 11 0 10,
 zi 12 11,
 zo 13 (.bin .leq (.t 8) (.t 12))] ⟨[0,1,13],[],[]⟩) (
 .cond (.t 13) (
 .seq (
 zr [
 zm 14 0,
 zo 15 (.iaddr none 2 (.t 14) (zc 0)),
 zf 16 1 15,
 zi 17 16,
 zm 4 17] ⟨[4],[],[]⟩) (
 .ret)) (
 .skip))) (
 .seq (
 .seq (
 zr [
 zo 5 (.mv (zc 1))] ⟨[0,1,5],[],[]⟩) (
 .block 0 (
 v_r02_at_l0))) (
 .seq (
 zr [
 zm 59 0,
 zm 60 0,
 zl 61 60,
 zo 62 (.bin .sub (.t 61) (zc 1)),
 za 63 2 59 62,
 zf 64 1 63,
 zi 65 64,
 zm 4 65] ⟨[4],[],[]⟩) (
 .ret))))
def v_slices_IndexFunc_int_int_b0:VC :=
 .seq (
 zr [
 zo 9 (.bin .lss (.t 8) (.t 7))] ⟨[0,1,7,8,9],[],[]⟩) (
 .seq (
 .cond (.t 9) (
 .skip) (
 .exit 0)) (
 .seq (
 .block 1 (
 .seq (
 zr [
 zm 10 8,
 zm 5 10] ⟨[0,1,5,7,8],[],[]⟩) (
 .seq (
 zr [
 zm 11 1,
 zm 12 0,
 zm 13 5,
 za 14 1 12 13,
 zi 15 14,
 zo 16 (.call false (.t 11) [([none],(.t 15))] [])] ⟨[0,1,5,7,8,16],[],[]⟩) (
 .cond (.t 16) (
 .seq (
 zr [
 zm 17 5,
 zm 4 17] ⟨[4],[],[]⟩) (
 .ret)) (
 .skip))))) (
 zr [
 zo 18 (.bin .add (.t 8) (zc 1)),
 zm 8 18] ⟨[0,1,7,8],[],[]⟩)))
def v_slices_IndexFunc_int_int_l0:VC:=.loop [] ⟨[0,1,7,8],[],[]⟩ v_slices_IndexFunc_int_int_b0
abbrev v_slices_IndexFunc_int_int_s0 (x0:V) (x1:V) (x7:Int) (x8:Int) (G:List GObj):St:=⟨[(0,x0),(1,x1),(7,.int .i64 x7),(8,.int .i64 x8)],[],[],G⟩
def v_slices_IndexFunc_int_int:VFunc where
 nparams:=2
 results:=[.t 4 [none]]
 body :=
 .seq (
 zr [
 zo 4 (.mv (zc 0))] ⟨[0,1],[],[]⟩) (
 .seq (
 .seq (
 zr [
 zm 6 0,
 zl 7 6,
 zo 8 (.mv (zc 0))] ⟨[0,1,7,8],[],[]⟩) (
 .block 0 (
 v_slices_IndexFunc_int_int_l0))) (
 .seq (
 zr [
 zo 4 (.mv (zc (-1)))] ⟨[4],[],[]⟩) (
 .ret)))
def v_dam_work_over:VFunc where
 nparams:=1
 results:=[]
 body :=
 .seq (
 zr [
 zm 2 0,
 zk 3 2,
 zf 4 25 3,
 zg 5 4,
 zm 6 0,
 zk 7 6,
 zf 8 17 7,
 zf 9 2 8,
 zg 10 9,
 zm 11 0,
 zk 12 11,
 zf 13 17 12,
 zf 14 3 13,
 zg 15 14,
 zo 16 (.bin .add (.t 10) (.t 15)),
 zo 17 (.bin .sub (.t 5) (.t 16)),
 zk 18 2,
 zf 19 25 18,
 zn (.store .glob [none] (.t 19) (.t 17))] ⟨[0],[],[]⟩) (
 .seq (
 zr [
 zm 20 0,
 zm 21 0,
 zk 22 21,
 zf 23 25 22,
 zg 24 23,
 zm 25 0,
 zk 26 25,
 zf 27 0 26,
 zo 28 (.load .glob (some 9) (.t 27)),
 zo 29 (.call true (.c (.fn 92 [])) [([some 2,none,none,none,none,none,some 6,some 3,none],(.t 28))] []),
 zo 30 (.bin .sub (.t 24) (.t 29)),
 zo 31 (.mm true (.t 30) (zc 0)),
 zk 32 20,
 zf 33 17 32,
 zf 34 4 33,
 zn (.store .glob [none] (.t 34) (.t 31))] ⟨[0],[],[]⟩) (
 .seq (
 zr [
 zm 35 0,
 zm 36 0,
 zk 37 36,
 zf 38 25 37,
 zg 39 38,
 zm 40 0,
 zk 41 40,
 zf 42 17 41,
 zf 43 4 42,
 zg 44 43,
 zo 45 (.bin .sub (.t 39) (.t 44)),
 zk 46 35,
 zf 47 13 46,
 zf 48 0 47,
 zn (.store .glob [none] (.t 48) (.t 45))] ⟨[0],[],[]⟩) (
 zr [
 zm 49 0,
 zm 50 0,
 zk 51 50,
 zf 52 17 51,
 zf 53 2 52,
 zg 54 53,
 zm 55 0,
 zk 56 55,
 zf 57 17 56,
 zf 58 3 57,
 zg 59 58,
 zo 60 (.bin .add (.t 54) (.t 59)),
 zo 61 (.mm false (.t 60) (zc 1073741824)),
 zk 62 49,
 zf 63 13 62,
 zf 64 1 63,
 zn (.store .glob [none] (.t 64) (.t 61))] ⟨[],[],[]⟩)))
def v_dam_work_gates:VFunc where
 nparams:=1
 results:=[]
 body :=
 .seq (
 zr [
 zm 6 0,
 zk 7 6,
 zf 8 0 7,
 zf 9 7 8,
 zg 10 9,
 zm 11 0,
 zk 12 11,
 zf 13 9 12,
 zf 14 3 13,
 zg 15 14,
 zm 16 0,
 zk 17 16,
 zf 18 26 17,
 zg 19 18,
 zm 20 0,
 zk 21 20,
 zf 22 24 21,
 zg 23 22,
 zm 24 0,
 zo 25 (.rcall (.c (.fn 99 [])) [([none],(.t 24))]),
 zo 26 (.mm false (.t 23) (.t 25)),
 zm 27 0,
 zk 28 27,
 zf 29 17 28,
 zf 30 2 29,
 zg 31 30,
 zo 32 (.bin .sub (.t 26) (.t 31)),
 zo 33 (.call true (.c (.fn 98 [])) [([some 3],(.t 10)),([some 2],(.t 15)),([none],(.t 19)),([none],(.t 32))] []),
 zm 5 33,
 ze 34 5 0,
 ze 35 5 1,
 ze 36 5 2,
 zm 2 34,
 zm 3 35,
 zm 4 36] ⟨[0,2,3],[],[]⟩) (
 .seq (
 zr [
 zm 37 0,
 zm 38 2,
 zk 39 37,
 zf 40 13 39,
 zf 41 3 40,
 zn (.store .glob [some 2] (.t 41) (.t 38))] ⟨[0,3],[],[]⟩) (
 zr [
 zm 42 0,
 zm 43 3,
 zm 44 0,
 zo 45 (.rcall (.c (.fn 99 [])) [([none],(.t 44))]),
 zm 46 0,
 zk 47 46,
 zf 48 17 47,
 zf 49 2 48,
 zg 50 49,
 zo 51 (.bin .sub (.t 45) (.t 50)),
 zo 52 (.mm false (.t 43) (.t 51)),
 zk 53 42,
 zf 54 17 53,
 zf 55 3 54,
 zn (.store .glob [none] (.t 55) (.t 52))] ⟨[],[],[]⟩))
def v_dam_work_turbines_b0:VC :=
 .seq (
 zr [
 zo 53 (.bin .lss (.t 52) (.t 51))] ⟨[0,3,4,50,51,52,53],[],[]⟩) (
 .seq (
 .cond (.t 53) (
 .skip) (
 .exit 0)) (
 .seq (
 .block 1 (
 .seq (
 .region [] [6] [
 zm 54 52,
 za 55 6 50 52,
 zo 56 (.load .imm (some 6) (.t 55)),
 zo 6 (.obj 6 [.nils,z0,z0,.nils,z0,z0]),
 zm 5 54,
 zn (.store (.loc 6) [some 2,none,none,some 2,none,none] (.t 6) (.t 56))] ⟨[0,3,4,5,6,50,51,52],[6],[]⟩) (
 .seq (
 zr [
 zo 7 (.mv (zc 0))] ⟨[0,3,4,5,6,7,50,51,52],[6],[]⟩) (
 .seq (
 .seq (
 zr [
 zm 57 4,
 zo 58 (.bin .eql (.t 57) (zc 0))] ⟨[0,3,4,5,6,7,50,51,52,58],[6],[]⟩) (
 .cond (.t 58) (
 zr [
 zm 59 3,
 zm 60 5,
 za 61 1 59 60,
 zi 62 61,
 zm 7 62] ⟨[0,3,4,5,6,7,50,51,52],[6],[]⟩) (
 .skip))) (
 .seq (
 .region [] [8] [
 zs 64 6 6 6,
 zm 65 0,
 zk 66 65,
 zf 67 9 66,
 zf 68 2 67,
 zg 69 68,
 zm 70 5,
 za 71 3 69 70,
 zo 72 (.load .imm (some 3) (.t 71)),
 zm 73 7,
 zo 74 (.call true (.c (.fn 101 [])) [([some 2,none,none,some 2,none,none],(.t 64)),([none,none,none],(.t 72)),([none],(.t 73))] []),
 zm 63 74,
 ze 75 63 0,
 ze 76 63 1,
 ze 77 63 2,
 zo 8 (.obj 8 [z0,z0,.bool false]),
 zn (.store (.loc 8) [none,none,none] (.t 8) (.t 75)),
 zm 9 76,
 zm 10 77] ⟨[0,3,4,5,6,7,8,9,10,50,51,52],[6,8],[]⟩) (
 .seq (
 .seq (
 zr [
 zm 78 10,
 zo 79 (.bin .neq (.t 78) (zc 0))] ⟨[0,3,4,5,6,7,8,9,50,51,52,79],[6,8],[]⟩) (
 .cond (.t 79) (
 zr [
 zm 80 0,
 zk 81 80,
 zf 82 9 81,
 zf 83 2 82,
 zg 84 83,
 zm 85 5,
 za 86 3 84 85,
 zf 87 2 86,
 zi 88 87,
 zo 89 (.build [z0,z0,.bool false] [(1,1,(zc 1)),(2,1,(.t 88))]),
 zn (.store (.loc 8) [none,none,none] (.t 8) (.t 89))] ⟨[0,3,4,6,7,8,9,50,51,52],[6,8],[]⟩) (
 .skip))) (
 .seq (
 zr [
 zs 91 6 6 6,
 zm 92 7,
 zo 93 (.call true (.c (.fn 102 [])) [([some 2,none,none,some 2,none,none],(.t 91)),([none],(.t 92))] []),
 zm 90 93,
 ze 94 90 0,
 ze 95 90 1,
 zm 11 94,
 zm 12 95] ⟨[0,3,4,7,8,9,11,50,51,52],[8],[]⟩) (
 .seq (
 zr [
 zm 96 0,
 zm 97 0,
 zm 98 0,
 zk 99 98,
 zf 100 17 99,
 zf 101 2 100,
 zg 102 101,
 zm 103 7,
 zo 104 (.bin .add (.t 102) (.t 103)),
 zm 105 0,
 zk 106 105,
 zf 107 17 106,
 zf 108 5 107,
 zg 109 108,
 zm 110 11,
 zo 111 (.bin .add (.t 109) (.t 110)),
 zk 112 96,
 zf 113 17 112,
 zf 114 2 113,
 zn (.store .glob [none] (.t 114) (.t 104)),
 zk 115 97,
 zf 116 17 115,
 zf 117 5 116,
 zn (.store .glob [none] (.t 117) (.t 111))] ⟨[0,3,4,8,9,50,51,52],[8],[]⟩) (
 .seq (
 .seq (
 zr [
 zm 118 9] ⟨[0,3,4,8,50,51,52,118],[8],[]⟩) (
 .cond (.t 118) (
 zr [
 zm 119 0,
 zk 120 119,
 zf 121 17 120,
 zf 122 6 121,
 zg 123 122,
 zo 124 (.bin .add (.t 123) (zc 1)),
 zk 125 119,
 zf 126 17 125,
 zf 127 6 126,
 zn (.store .glob [none] (.t 127) (.t 124))] ⟨[0,3,4,8,50,51,52],[8],[]⟩) (
 .skip))) (
 .region [] [30133,5136] [
 zm 128 0,
 zm 129 0,
 zk 130 129,
 zf 131 13 130,
 zf 132 2 131,
 zo 133 (.gtake 30133 (.t 132)),
 zs 134 8 3 8,
 zo 135 (.lit none [none,none,none] [z0,z0,.bool false] 1 [(0,(.t 134))]),
 zo 136 (.app 5136 (some 30133) [none,none,none] 5864062014805 (.t 133) (.t 135)),
 zk 137 128,
 zf 138 13 137,
 zf 139 2 138,
 zn (.gput 30133 (.t 139) (.t 136))] ⟨[0,3,4,50,51,52],[],[]⟩)))))))))) (
 zr [
 zo 140 (.bin .add (.t 52) (zc 1)),
 zm 52 140] ⟨[0,3,4,50,51,52],[],[]⟩)))
def v_dam_work_turbines_l0:VC:=.loop [] ⟨[0,3,4,50,51,52],[],[]⟩ v_dam_work_turbines_b0
abbrev v_dam_work_turbines_s0 (x0:V) (x3:V) (x4:Int) (x50:V) (x51:Int) (x52:Int) (G:List GObj):St:=⟨[(0,x0),(3,x3),(4,.int .i64 x4),(50,x50),(51,.int .i64 x51),(52,.int .i64 x52)],[],[],G⟩
def v_dam_work_turbines:VFunc where
 nparams:=1
 results:=[]
 body :=
 .seq (
 zr [
 zm 13 0,
 zk 14 13,
 zf 15 24 14,
 zg 16 15,
 zm 17 0,
 zo 18 (.rcall (.c (.fn 99 [])) [([none],(.t 17))]),
 zm 19 0,
 zk 20 19,
 zf 21 0 20,
 zf 22 8 21,
 zg 23 22,
 zo 24 (.bin .mul (zc 200) (.t 23)),
 zo 25 (.mm3 false (.t 16) (.t 18) (.t 24)),
 zm 2 25] ⟨[0,2],[],[]⟩) (
 .seq (
 zr [
 zm 27 0,
 zk 28 27,
 zf 29 0 28,
 zf 30 6 29,
 zg 31 30,
 zm 32 0,
 zk 33 32,
 zf 34 9 33,
 zf 35 2 34,
 zg 36 35,
 zm 37 0,
 zk 38 37,
 zf 39 0 38,
 zf 40 8 39,
 zg 41 40,
 zm 42 2,
 zo 43 (.call true (.c (.fn 100 [])) [([some 6],(.t 31)),([some 3],(.t 36)),([none],(.t 41)),([none],(.t 42))] []),
 zm 26 43,
 ze 44 26 0,
 ze 45 26 1,
 zm 3 44,
 zm 4 45] ⟨[0,3,4],[],[]⟩) (
 .seq (
 zr [
 zm 46 0,
 zk 47 46,
 zf 48 0 47,
 zf 49 6 48,
 zg 50 49,
 zl 51 50,
 zo 52 (.mv (zc 0))] ⟨[0,3,4,50,51,52],[],[]⟩) (
 .block 0 (
 v_dam_work_turbines_l0))))
def v_r01_in:VFunc where
 nparams:=2
 results:=[.t 4 [none]]
 body :=
 .seq (
 zr [
 zo 4 (.mv (.c (.bool false)))] ⟨[0,1],[],[]⟩) (
 .seq (
 zr [
 zm 5 0,
 zo 6 (.bin .geq (.t 5) (zc 0)),
 zm 7 6,
 zq 8 7 true (.mv (.t 0)),
 zq 9 7 true (.mv (.t 1)),
 zq 10 7 true (.bin .leq (.t 8) (.t 9)),
 zo 11 (.pick (.t 7) (.t 10) (.c (.bool false))),
 zm 4 11] ⟨[4],[],[]⟩) (
 .ret))
def v_r18_Runs:VFunc where
 nparams:=2
 results:=[.t 4 [none]]
 body :=
 .seq (
 .region [] [2] [
 zo 2 (.box 2 (.t 0)),
 zo 4 (.mv (.c (.bool false)))] ⟨[1,2],[2],[]⟩) (
 .seq (
 .seq (
 zr [
 zs 7 2 6 2,
 zo 8 (.call true (.c (.fn 50 [])) [([some 2,none,none,some 2,none,none],(.t 7))] []),
 zo 9 (.bin .neq (.t 8) (zc 0)),
 zm 10 9,
 zq 11 10 false (.mv (.t 1)),
 zq 12 10 false (.faddr 1 (.t 2)),
 zq 13 10 false (.load (.loc 2) none (.t 12)),
 zq 14 10 false (.bin .lss (.t 11) (.t 13)),
 zo 15 (.pick (.t 10) (.c (.bool true)) (.t 14)),
 zm 16 15,
 zq 17 16 false (.mv (.t 1)),
 zq 18 16 false (.faddr 2 (.t 2)),
 zq 19 16 false (.load (.loc 2) none (.t 18)),
 zq 20 16 false (.bin .gtr (.t 17) (.t 19)),
 zo 21 (.pick (.t 16) (.c (.bool true)) (.t 20))] ⟨[1,2,21],[2],[]⟩) (
 .cond (.t 21) (
 .seq (
 zr [
 zo 4 (.mv (.c (.bool false)))] ⟨[4],[],[]⟩) (
 .ret)) (
 .skip))) (
 .seq (
 zr [
 zs 23 2 6 2,
 zm 24 1,
 zo 25 (.call true (.c (.fn 103 [])) [([some 2,none,none,some 2,none,none],(.t 23)),([none],(.t 24))] []),
 zm 22 25,
 ze 26 22 0,
 ze 27 22 1,
 zm 5 26,
 zm 6 27] ⟨[6],[],[]⟩) (
 .seq (
 zr [
 zm 28 6,
 zo 29 (.un .not (.t 28)),
 zm 4 29] ⟨[4],[],[]⟩) (
 .ret))))
def v_curve_Check_b0:VC :=
 .seq (
 zr [
 zo 17 (.bin .lss (.t 16) (.t 15))] ⟨[0,14,15,16,17],[],[]⟩) (
 .seq (
 .cond (.t 17) (
 .skip) (
 .exit 1)) (
 .seq (
 .block 2 (
 .seq (
 .region [] [4] [
 zm 18 16,
 za 19 2 14 16,
 zo 20 (.load .imm (some 2) (.t 19)),
 zo 4 (.obj 4 [z0,z0]),
 zm 3 18,
 zn (.store (.loc 4) [none,none] (.t 4) (.t 20))] ⟨[0,3,4,14,15,16],[4],[]⟩) (
 .seq (
 .seq (
 zr [
 zf 21 0 4,
 zj 22 4 21,
 zo 23 (.call true (.c (.fn 41 [])) [([none],(.t 22)),([none],(zc 1073741824))] []),
 zo 24 (.un .not (.t 23)),
 zm 25 24,
 zq 26 25 false (.faddr 1 (.t 4)),
 zq 27 25 false (.load (.loc 4) none (.t 26)),
 zq 28 25 false (.call true (.c (.fn 41 [])) [([none],(.t 27)),([none],(zc 274877906944))] []),
 zq 29 25 false (.un .not (.t 28)),
 zo 30 (.pick (.t 25) (.c (.bool true)) (.t 29))] ⟨[0,3,4,14,15,16,30],[4],[]⟩) (
 .cond (.t 30) (
 .seq (
 zr [
 zo 2 (.mv (zc 1))] ⟨[2],[],[]⟩) (
 .ret)) (
 .skip))) (
 .seq (
 .seq (
 zr [
 zm 31 3,
 zo 32 (.bin .eql (.t 31) (zc 0))] ⟨[0,3,4,14,15,16,32],[4],[]⟩) (
 .cond (.t 32) (
 .exit 2) (
 .skip))) (
 .seq (
 .region [] [5] [
 zm 33 0,
 zm 34 3,
 zo 35 (.bin .sub (.t 34) (zc 1)),
 za 36 2 33 35,
 zo 37 (.load .imm (some 2) (.t 36)),
 zo 5 (.obj 5 [z0,z0]),
 zn (.store (.loc 5) [none,none] (.t 5) (.t 37))] ⟨[0,4,5,14,15,16],[4,5],[]⟩) (
 .block 3 (
 .seq (
 zr [
 zf 39 0 4,
 zj 40 4 39,
 zf 41 0 5,
 zj 42 5 41,
 zo 43 (.bin .leq (.t 40) (.t 42)),
 zm 44 43,
 zq 45 44 false (.faddr 1 (.t 4)),
 zq 46 44 false (.load (.loc 4) none (.t 45)),
 zq 47 44 false (.faddr 1 (.t 5)),
 zq 48 44 false (.load (.loc 5) none (.t 47)),
 zq 49 44 false (.bin .lss (.t 46) (.t 48)),
 zo 50 (.pick (.t 44) (.c (.bool true)) (.t 49)),
 zm 38 50] ⟨[0,4,5,14,15,16,38],[4,5],[]⟩) (
 .cond (.t 38) (
 .seq (
 zr [
 zo 2 (.mv (zc 4))] ⟨[2],[],[]⟩) (
 .ret)) (
 .seq (
 zr [
 zf 52 0 4,
 zj 53 4 52,
 zf 54 0 5,
 zj 55 5 54,
 zo 56 (.bin .sub (.t 53) (.t 55)),
 zf 57 1 4,
 zj 58 4 57,
 zf 59 1 5,
 zj 60 5 59,
 zo 61 (.bin .sub (.t 58) (.t 60)),
 zo 62 (.call true (.c (.fn 104 [])) [([none],(.t 56)),([none],(.t 61))] []),
 zm 51 62] ⟨[0,14,15,16,51],[],[]⟩) (
 .cond (.t 51) (
 .seq (
 zr [
 zo 2 (.mv (zc 1))] ⟨[2],[],[]⟩) (
 .ret)) (
 .skip))))))))))) (
 zr [
 zo 63 (.bin .add (.t 16) (zc 1)),
 zm 16 63] ⟨[0,14,15,16],[],[]⟩)))
def v_curve_Check_l0:VC:=.loop [] ⟨[0,14,15,16],[],[]⟩ v_curve_Check_b0
abbrev v_curve_Check_s0 (x0:V) (x14:V) (x15:Int) (x16:Int) (G:List GObj):St:=⟨[(0,x0),(14,x14),(15,.int .i64 x15),(16,.int .i64 x16)],[],[],G⟩
def v_curve_Check:VFunc where
 nparams:=1
 results:=[.t 2 [none]]
 body :=
 .seq (
 zr [
 zo 2 (.mv (zc 0))] ⟨[0],[],[]⟩) (
 .seq (
 .block 0 (
 .seq (
 zr [
 zm 7 0,
 zl 8 7,
 zo 9 (.bin .eql (.t 8) (zc 0)),
 zm 6 9] ⟨[0,6],[],[]⟩) (
 .cond (.t 6) (
 .seq (
 zr [
 zo 2 (.mv (zc 3))] ⟨[2],[],[]⟩) (
 .ret)) (
 .seq (
 zr [
 zm 11 0,
 zl 12 11,
 zo 13 (.bin .gtr (.t 12) (zc 100)),
 zm 10 13] ⟨[0,10],[],[]⟩) (
 .cond (.t 10) (
 .seq (
 zr [
 zo 2 (.mv (zc 10))] ⟨[2],[],[]⟩) (
 .ret)) (
 .skip)))))) (
 .seq (
 .seq (
 zr [
 zm 14 0,
 zl 15 14,
 zo 16 (.mv (zc 0))] ⟨[0,14,15,16],[],[]⟩) (
 .block 1 (
 v_curve_Check_l0))) (
 .seq (
 zr [
 zo 2 (.mv (zc 0))] ⟨[2],[],[]⟩) (
 .ret))))
end Go.Proofs.YtfjdfnegookkcaaGreat
