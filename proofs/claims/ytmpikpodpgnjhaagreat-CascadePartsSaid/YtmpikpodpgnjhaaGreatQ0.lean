/- The functions of the program, as the value machine has them, by program. -/
import Derived.Test.YtmpikpodpgnjhaaGreatVmT
namespace Go.Proofs.YtmpikpodpgnjhaaGreat
open Go.Vm
set_option maxRecDepth 100000
abbrev vI:Sh:=[none,some 2,none,none,none,none,none,some 6,some 3,none]
abbrev ku:Sh:=[some 2,none,none,none,none,none,some 6,some 3,none]
abbrev mP:Sh:=[none,none,none,none,none,none,none]
abbrev eF:Sh:=[some 2,none,none,some 2,none,none]
abbrev pY:Sh:=[some 2,none,none,none,none,none]
abbrev fL:Sh:=[none,none,some 3,some 2]
abbrev tD:Sh:=[none,none,some 1,none]
abbrev lF:Sh:=[some 7,some 1,some 1]
abbrev uJ:Sh:=[some 1,some 1,some 1]
abbrev vJ:Sh:=[none,none,none,none]
abbrev iJ:Sh:=[none,some 4,some 10]
abbrev e7:Sh:=[none,some 4,some 1]
abbrev iK:Sh:=[some 2,none,none]
abbrev e9:Sh:=[none,none,none]
abbrev mQ:Sh:=[some 1,none]
abbrev tE:Sh:=[none,some 4]
abbrev tF:Sh:=[some 2,none]
abbrev A4:Sh:=[none,some 2]
def abI:bq where
 nparams:=2
 results:=[.t 4 [none]]
 body :=
 zz [zt 4 false] ⟨[0,1],[],[]⟩ (.seq (zz [zw 29 true 12 [],zo 30 (.un .not (.t 29))] ⟨[0,1,30],[],[]⟩ (yc 30 (zz [zt 4 false] ⟨[4],[],[]⟩ (.ret)))) (.seq (zz [zm 31 0,zw 32 true 13 [ad 1 31],zo 33 (.un .not (.t 32))] ⟨[0,1,33],[],[]⟩ (yc 33 (zz [zt 4 true] ⟨[4],[],[]⟩ (.ret)))) (zz [zm 34 0,zw 35 false 14 [ad 1 34],zm 5 35] ⟨[1,5],[],[]⟩ (yz [6,7] [zm 37 5,zw 38 false 15 [a0 37],zm 36 38,
 ze 39 36 0,ze 40 36 1,ye 6 [z0,.aK,.aK],ye 7 [z0,.aK,.aK],zd 6 iJ 6 39,zd 7 e7 7 40] ⟨[1,5,6,7],[6,7],[]⟩ (zz [zm 41 5,zs 42 6 3 6,zm 43 5,zw 44 false 23 [a0 43,ac 6],zo 45 (.bin .add (zc 1) (.t 44)),zw 46 false 34 [a0 41,(iJ,(.t 42)),a0 45],zm 8 46] ⟨[1,6,7,8],[6,7],[]⟩ (zz [zm 47 1,zo 48 (.conv .i64 (.t 47)),zm 49 8,zl 50 49,zv .add 51 50 1,zb .rem 52 48 51,zm 9 52] ⟨[6,7,8,9],[6,7],
 []⟩ (yz [10] [zs 54 6 3 6,zs 55 7 3 7,zm 56 8,zw 57 true 35 [(iJ,(.t 54)),(e7,(.t 55)),ad 3 56],zm 53 57,ze 58 53 0,ze 59 53 1,ze 60 53 2,ye 10 [z0,.aK,.aK],zd 10 e7 10 58,zm 11 59,zm 12 60] ⟨[6,7,8,9,10,11,12],[6,7,10],[]⟩ (.seq (zz [zm 61 12,zv .neq 62 61 0] ⟨[6,7,8,9,10,11,62],[6,7,10],[]⟩ (yc 62 (zz [zt 4 true] ⟨[4],[],[]⟩ (.ret)))) (yz [1099,13] [zs 64 6 3 6,zs 65 7 3 7,zm 66 8,zm 67 9,
 zo 68 (.pf 3 (.t 66) none (some (.t 67))),zo 69 (.call true (.c (.fn 35 [])) [(iJ,(.t 64)),(e7,(.t 65)),ad 3 68] [(1,1099)]),zm 63 69,ze 70 63 0,ze 71 63 1,ze 72 63 2,ye 13 [z0,.aK,.aK],zd 13 e7 13 70,zm 14 71,zm 15 72] ⟨[6,8,9,10,11,13,14,15],[6,10,13],[1099]⟩ (yz [16] [zs 74 6 3 6,zs 75 13 3 13,zm 76 8,zm 77 9,zo 78 (.pf 3 (.t 76) (some (.t 77)) none),zw 79 true 35 [(iJ,(.t 74)),(e7,(.t 75)),
 ad 3 78],zm 73 79,ze 80 73 0,ze 81 73 1,ze 82 73 2,ye 16 [z0,.aK,.aK],zd 16 e7 16 80,zm 17 81,zm 18 82] ⟨[6,8,10,11,14,15,16,17,18],[6,10,16],[1099]⟩ (.seq (.seq (.region [.norm 14 1099 3] [5099] [zm 83 15,zv .neq 84 83 0,zm 85 84,ym 86 85 false 18,yv .neq 87 85 false 86 0,yp 88 85 true 87,zm 89 88,ys 90 89 false 10 3 10,ys 91 89 false 16 3 16,yw 92 89 false true 37 [(e7,(.t 90)),(e7,(.t 91))],
 zq 93 89 false (.un .not (.t 92)),yp 94 89 true 93,zm 95 94,ym 96 95 false 11,ym 97 95 false 14,ym 98 95 false 17,zq 99 95 false (.app 5099 (some 1099) lF 1954687338268 (.t 97) (.t 98)),yw 100 95 false true 38 [ad 3 96,ad 3 99],zq 101 95 false (.un .not (.t 100)),yp 102 95 true 101] ⟨[6,8,102],[6],[]⟩) (yc 102 (zz [zt 4 false] ⟨[4],[],[]⟩ (.ret)))) (yz [19] [zf 103 0 6,zs 104 6 2 103,
 zo 105 (.build [z0,.aK,.aK] [(0,2,(.t 104))]),ye 19 [z0,.aK,.aK],zd 19 iJ 19 105] ⟨[6,8,19],[6,19],[]⟩ (yz [20] [zs 107 19 3 19,zw 108 true 31 [(iJ,(.t 107)),([some 4],(.c (.aK)))],zm 106 108,ze 109 106 0,ze 110 106 1,ye 20 [z0,.aK,.aK],zd 20 e7 20 109,zm 21 110] ⟨[6,8,19,20,21],[6,19,20],[]⟩ (yz [22] [zm 111 8,zo 112 (.eg none 3 (.t 111) (zc 0)),zf 113 0 112,zi 114 113,zo 115 (.build [.aK,.aK,
 .aK] [(0,1,(.t 114))]),ye 22 [.aK,.aK,.aK],zd 22 uJ 22 115] ⟨[6,19,20,21,22],[6,19,20,22],[]⟩ (yz [23,24] [zs 117 19 3 19,zs 118 20 3 20,zs 119 22 3 22,zw 120 true 17 [(iJ,(.t 117)),(e7,(.t 118)),(uJ,(.t 119))],zm 116 120,ze 121 116 0,ze 122 116 1,ze 123 116 2,ye 23 [z0,.aK,.aK],ye 24 [.aK,.aK,.aK],zd 23 e7 23 121,zd 24 lF 24 122,zm 25 123] ⟨[6,20,21,22,24,25],[6,20,22,24],[]⟩ (zz [zf 125 0 6,
 zs 126 6 2 125,zf 127 2 20,zj 128 20 127,zf 129 0 22,zj 130 22 129,zw 131 true 39 [(tE,(.t 126)),ad 1 128,ad 1 130],zm 124 131,ze 132 124 0,ze 133 124 1,ze 134 124 2,zm 26 132,zm 27 133,zm 28 134] ⟨[21,24,25,27,28],[24],[]⟩ (zz [zm 135 21,zv .eql 136 135 0,zm 137 136,ym 138 137 true 25,yv .eql 139 137 true 138 0,zp 140 137 139 false,zm 141 140,ym 142 141 true 28,yv .eql 143 141 true 142 0,
 zp 144 141 143 false,zm 145 144,yf 146 145 true 1 24,yj 147 145 true 24 146,ym 148 145 true 27,yw 149 145 true true 30 [ad 1 147,ad 1 148],zp 150 145 149 false,zm 4 150] ⟨[4],[],[]⟩ (.ret))))))))))))))))))
def KA:bq where
 nparams:=0
 results:=[.t 0 [none]]
 body :=
 zz [zt 0 false] ⟨[],[],[]⟩ (yz [1] [zo 10 (.lit none [none] [z0] 2 [(0,(zc 0)),(1,(zc 1))]),zo 11 (.build [.aK,z0] [(0,1,(.t 10)),(1,1,(zc 1))]),zo 12 (.build [z0,z0,.aK,z0] [(0,1,(zc 0)),(1,1,(zc 1)),(2,2,(.t 11))]),zo 13 (.lit none tD [z0,z0,.slice none 1 [],z0] 1 [(0,(.t 12))]),zo 14 (.build [z0,.aK] [(0,1,(zc 2)),(1,1,(.t 13))]),zo 15 (.build [z0,.aK,.aK] [(0,2,(.t 14))]),ye 1 [z0,.aK,.aK],
 zd 1 iJ 1 15] ⟨[1],[1],[]⟩ (yz [2] [zs 17 1 3 1,zw 18 true 31 [(iJ,(.t 17)),([some 4],(.c (.aK)))],zm 16 18,ze 19 16 0,ze 20 16 1,ye 2 [z0,.aK,.aK],zd 2 e7 2 19,zm 3 20] ⟨[1,2,3],[1,2],[]⟩ (yz [4] [zo 21 (.lit none [none] [z0] 2 [(0,(zc 7)),(1,(zc 0))]),zo 22 (.build [.aK,.aK,.aK] [(0,1,(.t 21))]),ye 4 [.aK,.aK,.aK],zd 4 uJ 4 22] ⟨[1,2,3,4],[1,2,4],[]⟩ (yz [5] [zs 24 1 3 1,zs 25 2 3 2,
 zs 26 4 3 4,zw 27 true 17 [(iJ,(.t 24)),(e7,(.t 25)),(uJ,(.t 26))],zm 23 27,ze 28 23 0,ze 29 23 1,ze 30 23 2,ye 5 [.aK,.aK,.aK],zd 2 e7 2 28,zd 5 lF 5 29,zm 6 30] ⟨[1,2,3,5,6],[1,2,5],[]⟩ (yz [7,8] [zs 32 1 3 1,zs 33 2 3 2,zo 34 (.lit none [none] [z0] 2 [(0,(zc 0)),(1,(zc 0))]),zo 35 (.build [.aK,.aK,.aK] [(0,1,(.t 34))]),zw 36 true 17 [(iJ,(.t 32)),(e7,(.t 33)),(uJ,(.t 35))],zm 31 36,ze 37 31 0,
 ze 38 31 1,ze 39 31 2,ye 7 [z0,.aK,.aK],ye 8 [.aK,.aK,.aK],zd 7 e7 7 37,zd 8 lF 8 38,zm 9 39] ⟨[1,2,3,5,6,8,9],[1,2,5,8],[]⟩ (zz [zm 40 3,zv .eql 41 40 0,zm 42 41,ym 43 42 true 6,yv .eql 44 42 true 43 0,zp 45 42 44 false,zm 46 45,ym 47 46 true 9,yv .eql 48 46 true 47 0,zp 49 46 48 false,zm 50 49,yf 51 50 true 2 5,yj 52 50 true 5 51,yl 53 50 true 52,yv .eql 54 50 true 53 1,zp 55 50 54 false,
 zm 56 55,yf 57 56 true 2 5,yj 58 56 true 5 57,zq 59 56 true (.eg none 1 (.t 58) (zc 0)),yi 60 56 true 59,yv .eql 61 56 true 60 0,zp 62 56 61 false,zm 63 62,yf 64 63 true 2 8,yj 65 63 true 8 64,yl 66 63 true 65,yv .eql 67 63 true 66 1,zp 68 63 67 false,zm 69 68,yf 70 69 true 2 8,yj 71 69 true 8 70,zq 72 69 true (.eg none 1 (.t 71) (zc 0)),yi 73 69 true 72,yv .eql 74 69 true 73 7,zp 75 69 74 false,
 zm 76 75,yf 77 76 true 1 8,yj 78 76 true 8 77,yl 79 76 true 78,yv .eql 80 76 true 79 2,zp 81 76 80 false,zm 82 81,yf 83 82 true 1 8,yj 84 82 true 8 83,zq 85 82 true (.eg none 1 (.t 84) (zc 1)),yi 86 82 true 85,yv .eql 87 82 true 86 7,zp 88 82 87 false,zm 89 88,ys 90 89 true 1 3 1,ys 91 89 true 2 3 2,yw 92 89 true true 28 [(iJ,(.t 90)),(e7,(.t 91))],zp 93 89 92 false,zm 0 93] ⟨[0],[],
 []⟩ (.ret)))))))
def KB:bq where
 nparams:=1
 results:=[.t 2 [none]]
 body :=
 zz [zt 2 false] ⟨[0],[],[]⟩ (zz [zm 3 0,zl 4 3,zv .leq 5 4 500,zm 2 5] ⟨[2],[],[]⟩ (.ret))
def KC:bq where
 nparams:=1
 results:=[.t 2 [none]]
 body :=
 zz [zo 2 (.mv (.c (.fU)))] ⟨[0],[],[]⟩ (zz [zm 3 0,zo 4 (.build [.aK,z0] [(0,1,(.t 3))]),zo 5 (.ou mQ (.t 4)),zm 2 5] ⟨[2],[],[]⟩ (.ret))
def Re:bq where
 nparams:=1
 results:=[.c 2 true iJ,.c 3 true e7]
 body :=
 yz [2,3] [ye 2 [z0,.aK,.aK],ye 3 [z0,.aK,.aK]] ⟨[0,2,3],[2,3],[]⟩ (yz [4] [zm 7 0,zw 8 false 52 [a0 7],zm 6 8,ze 9 6 0,ze 10 6 1,ye 4 [z0,.aK,.aK],zd 4 iJ 4 9,zm 5 10] ⟨[0,2,3,4,5],[2,3,4],[]⟩ (zz [zs 11 4 3 4,zm 12 0,zs 13 4 3 4,zm 14 5,zw 15 false 53 [a0 12,(iJ,(.t 13)),ad 4 14],zd 2 iJ 2 11,zd 3 e7 3 15] ⟨[2,3],[2,3],[]⟩ (.ret)))
def Rf:VC :=
 zz [zb .lss 10 9 8] ⟨[0,3,4,5,8,9,10],[3,4,5],[1016,1029,1035]⟩ (zx 10 0 (.seq (.block 1 (.region [.kE 5 0 1016 1] [5016] [zf 11 0 5,zj 12 5 11,zm 13 0,zw 14 false 23 [a0 13,ac 14],zo 15 (.lit none [none] [z0] 1 [(0,(.t 14))]),zo 16 (.app 5016 (some 1016) [none] 17592186044416 (.t 12) (.t 15)),zf 17 0 5,zd 5 [some 1] 17 16] ⟨[0,3,4,5,8,9],[3,4,5],[1016,1029,1035]⟩)) (zr [zv .add 18 9 1,
 zm 9 18] ⟨[0,3,4,5,8,9],[3,4,5],[1016,1029,1035]⟩)))
def Z9:VC:=.loop [.kE 5 0 1016 1] ⟨[0,3,4,5,8,9],[3,4,5],[1016,1029,1035]⟩ Rf
def Rg:VC :=
 zz [zb .lss 23 22 21] ⟨[0,4,5,21,22,23],[4,5],[1016,1029,1035]⟩ (zx 23 2 (.seq (.block 3 (.region [.kE 5 1 1029 1,.kE 5 2 1035 1] [5029,5035] [zf 24 1 5,zj 25 5 24,zm 26 0,zw 27 false 23 [a0 26,ac 3],zo 28 (.lit none [none] [z0] 1 [(0,(.t 27))]),zo 29 (.app 5029 (some 1029) [none] 17592186044416 (.t 25) (.t 28)),zf 30 2 5,zj 31 5 30,zm 32 0,zw 33 false 23 [a0 32,ac 30],
 zo 34 (.lit none [none] [z0] 1 [(0,(.t 33))]),zo 35 (.app 5035 (some 1035) [none] 17592186044416 (.t 31) (.t 34)),zf 36 1 5,zd 5 [some 1] 36 29,zf 37 2 5,zd 5 [some 1] 37 35] ⟨[0,4,5,21,22],[4,5],[1016,1029,1035]⟩)) (zr [zv .add 38 22 1,zm 22 38] ⟨[0,4,5,21,22],[4,5],[1016,1029,1035]⟩)))
def aaa:VC:=.loop [.kE 5 1 1029 1,.kE 5 2 1035 1] ⟨[0,4,5,21,22],[4,5],[1016,1029,1035]⟩ Rg
def KD:bq where
 nparams:=2
 results:=[.c 4 true uJ]
 body :=
 yz [3,4] [zu 3 1,ye 4 [.aK,.aK,.aK]] ⟨[0,3,4],[3,4],[1016,1029,1035]⟩ (yz [5] [ye 5 [.aK,.aK,.aK]] ⟨[0,3,4,5],[3,4,5],[1016,1029,1035]⟩ (.seq (zz [zf 6 0 3,zf 7 0 6,zj 8 3 7,zh 9 0] ⟨[0,3,4,5,8,9],[3,4,5],[1016,1029,1035]⟩ (.block 0 (Z9))) (.seq (zz [zf 19 2 3,zj 20 3 19,zl 21 20,zh 22 0] ⟨[0,4,5,21,22],[4,5],[1016,1029,1035]⟩ (.block 2 (aaa))) (zz [zs 39 5 3 5,zd 4 uJ 4 39] ⟨[4],[4],[1016,1029,
 1035]⟩ (.ret)))))
def Di:bq where
 nparams:=3
 results:=[.c 6 true e7,.c 7 true lF,.t 8 [none]]
 body :=
 yz [3,4,5,6,7] [zu 3 0,zu 4 1,zu 5 2,ye 6 [z0,.aK,.aK],ye 7 [.aK,.aK,.aK],zh 8 0] ⟨[3,4,5,6,7],[3,4,5,6,7],[]⟩ (.seq (zz [zs 10 3 3 3,zs 11 4 3 4,zw 12 true 54 [(iJ,(.t 10)),(e7,(.t 11))],zm 9 12] ⟨[3,4,5,6,7,9],[3,4,5,6,7],[]⟩ (zz [zm 13 9,zv .neq 14 13 0] ⟨[3,4,5,6,7,9,14],[3,4,5,6,7],[]⟩ (yc 14 (zz [zo 15 (.build [z0,.aK,.aK] []),zo 16 (.build [.aK,.aK,.aK] []),zm 17 9,zd 6 e7 6 15,
 zd 7 lF 7 16,zm 8 17] ⟨[6,7,8],[6,7],[]⟩ (.ret))))) (zz [zs 18 3 3 3,zs 19 4 3 4,zs 20 5 3 5,zw 21 true 55 [(iJ,(.t 18)),(e7,(.t 19)),(uJ,(.t 20))],ze 22 21 0,ze 23 21 1,ze 24 21 2,zd 6 e7 6 22,zd 7 lF 7 23,zm 8 24] ⟨[6,7,8],[6,7],[]⟩ (.ret)))
def yI:bq where
 nparams:=5
 results:=[.c 10 true fL,.c 11 true mP,.t 12 [none]]
 body :=
 yz [5,6,10,11] [zu 5 0,zu 6 1,ye 10 [z0,z0,.aK,.aK],ye 11 [z0,z0,z0,z0,z0,z0,z0],zh 12 0] ⟨[2,3,4,5,6,10,11],[5,6,10,11],[]⟩ (zz [zs 28 5 9 5,zs 29 6 4 6,zw 30 true 58 [(ku,(.t 28)),(fL,(.t 29))],zm 27 30,ze 31 27 0,ze 32 27 1,zm 13 31,zm 14 32] ⟨[2,3,4,5,6,10,11,13,14],[5,6,10,11],[]⟩ (.seq (zz [zm 33 14,zv .neq 34 33 0] ⟨[2,3,4,5,6,10,11,13,14,34],[5,6,10,11],[]⟩ (yc 34 (zz [zo 35 (.build [z0,
 z0,.aK,.aK] []),zo 36 (.build [z0,z0,z0,z0,z0,z0,z0] []),zm 37 14,zd 10 fL 10 35,zd 11 mP 11 36,zm 12 37] ⟨[10,11,12],[10,11],[]⟩ (.ret)))) (.seq (zz [zm 38 2,zw 39 true 57 [a0 38,ac 1073741824],zo 40 (.un .not (.t 39)),zm 41 40,ym 42 41 false 3,yw 43 41 false true 57 [a0 42,ac 1073741824],zq 44 41 false (.un .not (.t 43)),yp 45 41 true 44,zm 46 45,ym 47 46 false 4,yw 48 46 false true 57 [a0 47,
 ac 1073741824],zq 49 46 false (.un .not (.t 48)),yp 50 46 true 49] ⟨[2,3,4,5,6,10,11,13,50],[5,6,10,11],[]⟩ (yc 50 (zz [zo 51 (.build [z0,z0,.aK,.aK] []),zo 52 (.build [z0,z0,z0,z0,z0,z0,z0] []),zd 10 fL 10 51,zd 11 mP 11 52,zh 12 1] ⟨[10,11,12],[10,11],[]⟩ (.ret)))) (yz [15] [zm 53 2,zm 54 3,zf 55 0 6,zj 56 6 55,zm 57 2,zb .add 58 56 57,zo 59 (.mm false (.t 54) (.t 58)),zo 60 (.build [z0,z0,z0,
 z0,z0,z0,z0] [(0,1,(.t 53)),(1,1,(.t 59))]),ye 15 [z0,z0,z0,z0,z0,z0,z0],zd 15 mP 15 60] ⟨[2,4,5,6,10,11,13,15],[5,6,10,11,15],[]⟩ (zz [zf 61 0 6,zj 62 6 61,zm 63 2,zb .add 64 62 63,zf 65 1 15,zj 66 15 65,zb .sub 67 64 66,zm 16 67] ⟨[4,5,6,10,11,13,15,16],[5,6,10,11,15],[]⟩ (zz [zf 69 0 5,zs 70 5 6 69,zf 71 0 5,zf 72 1 71,zj 73 5 72,zw 74 true 59 [(pY,(.t 70)),a0 73],zm 68 74,ze 75 68 0,
 ze 76 68 1,zm 17 75,zm 18 76] ⟨[4,5,6,10,11,13,15,16,17],[5,6,10,11,15],[]⟩ (zz [zf 78 0 5,zs 79 5 6 78,zf 80 0 5,zf 81 5 80,zj 82 5 81,zw 83 true 59 [(pY,(.t 79)),a0 82],zm 77 83,ze 84 77 0,ze 85 77 1,zm 19 84,zm 20 85] ⟨[4,5,6,10,11,13,15,16,17,19],[5,6,10,11,15],[]⟩ (zz [zm 86 16,zm 87 17,zb .sub 88 86 87,zo 89 (.mm true (zc 0) (.t 88)),zm 21 89] ⟨[4,5,6,10,11,13,15,16,19,21],[5,6,10,11,15],
 []⟩ (yz [22] [ye 22 [z0,z0,.aK,.aK]] ⟨[4,5,6,10,11,13,15,16,19,21,22],[5,6,10,11,15,22],[]⟩ (zz [zs 91 5 9 5,zs 92 6 4 6,zm 93 4,zm 94 21,zo 95 (.mm false (.t 93) (.t 94)),zw 96 true 60 [(ku,(.t 91)),(fL,(.t 92)),a0 95],zm 90 96,ze 97 90 0,ze 98 90 1,ze 99 90 2,ze 100 90 3,zf 101 2 22,zd 22 [some 3] 101 97,zf 102 2 15,zd 15 [none] 102 98,zf 103 5 15,zd 15 [none] 103 99,zf 104 6 15,
 zd 15 [none] 104 100] ⟨[4,5,6,10,11,13,15,16,19,21,22],[5,6,10,11,15,22],[]⟩ (zz [zm 105 4,zm 106 21,zo 107 (.mm false (.t 105) (.t 106)),zf 108 2 15,zj 109 15 108,zb .sub 110 107 109,zm 23 110] ⟨[5,6,10,11,13,15,16,19,21,22,23],[5,6,10,11,15,22],[]⟩ (zz [zf 112 7 5,zj 113 5 112,zf 114 3 6,zj 115 6 114,zm 116 13,zm 117 23,zw 118 true 61 [ad 3 113,ad 2 115,a0 116,a0 117],zm 111 118,ze 119 111 0,
 ze 120 111 1,ze 121 111 2,zm 24 119,zm 25 120,zm 26 121] ⟨[10,11,15,16,19,21,22,24,25],[10,11,15,22],[]⟩ (zz [zm 122 24,zf 123 3 22,zd 22 [some 2] 123 122] ⟨[10,11,15,16,19,21,22,25],[10,11,15,22],[]⟩ (zz [zm 124 25,zm 125 21,zf 126 2 15,zj 127 15 126,zb .sub 128 125 127,zo 129 (.mm false (.t 124) (.t 128)),zf 130 3 15,zd 15 [none] 130 129] ⟨[10,11,15,16,19,22],[10,11,15,22],[]⟩ (zz [zm 131 16,
 zf 132 2 15,zj 133 15 132,zf 134 3 15,zj 135 15 134,zb .add 136 133 135,zb .sub 137 131 136,zm 16 137] ⟨[10,11,15,16,19,22],[10,11,15,22],[]⟩ (zz [zm 138 16,zm 139 19,zb .sub 140 138 139,zo 141 (.mm true (zc 0) (.t 140)),zf 142 4 15,zd 15 [none] 142 141] ⟨[10,11,15,16,22],[10,11,15,22],[]⟩ (zz [zm 143 16,zf 144 4 15,zj 145 15 144,zb .sub 146 143 145,zf 147 2 15,zj 148 15 147,zf 149 3 15,
 zj 150 15 149,zb .add 151 148 150,zo 152 (.mm false (zc 1073741824) (.t 151)),zf 153 0 22,zd 22 [none] 153 146,zf 154 1 22,zd 22 [none] 154 152] ⟨[10,11,15,22],[10,11,15,22],[]⟩ (zz [zs 155 22 4 22,zs 156 15 7 15,zd 10 fL 10 155,zd 11 mP 11 156,zh 12 0] ⟨[10,11,12],[10,11],[]⟩ (.ret)))))))))))))))))))
def Ri:VC :=
 zz [zb .lss 14 13 12] ⟨[1,2,3,11,12,13,14],[1,2,20023],[]⟩ (zx 14 0 (.seq (.block 1 (yz [5] [za 15 1 11 13,yg 16 1 15,ye 5 [.aK],zd 5 [some 1] 5 16] ⟨[1,2,3,5,11,12,13],[1,2,5,20023],[]⟩ (.region [.ov 3 20023 1,.ic 20023 21023] [1020,20023] [zm 17 3,zf 18 0 5,zj 19 5 18,zo 20 (.app 1020 none [none] 17592186044416 (.c (.aK)) (.t 19)),zo 21 (.build [.aK] [(0,1,(.t 20))]),
 zo 22 (.lit none [some 0] [.slice none 0 []] 1 [(0,(.t 21))]),zo 23 (.m9 20023 21023 [some 1] (.t 17) (.t 22)),zm 3 23] ⟨[1,2,3,11,12,13],[1,2,20023],[]⟩))) (zr [zv .add 24 13 1,zm 13 24] ⟨[1,2,3,11,12,13],[1,2,20023],[]⟩)))
def aad:VC:=.loop [.ov 3 20023 1] ⟨[1,2,3,11,12,13],[1,2,20023],[]⟩ Ri
abbrev aae(n3:Nat)(oQ:V)(mw:Int)(jB:Int)(o1:List V)(o2:List V)(Dj:List V)(G:List aW):St:=⟨[(1,.bK 1 0),(2,.bK 2 0),(3,.cb 20023 1 n3),(11,oQ),(12,.int .i64 mw),(13,.int .i64 jB)],[(1,o1),(2,o2),(20023,Dj)],[],G⟩
def KG:bq where
 nparams:=1
 results:=[.c 2 true e7]
 body :=
 yz [1,2] [zu 1 0,ye 2 [z0,.aK,.aK]] ⟨[1,2],[1,2,20023],[]⟩ (zz [zf 6 1 1,zj 7 1 6,zw 8 false 63 [ad 4 7],zf 9 1 1,zd 1 [some 4] 9 8] ⟨[1,2],[1,2,20023],[]⟩ (zz [zy 3] ⟨[1,2,3],[1,2,20023],[]⟩ (.seq (zz [zf 10 2 1,zj 11 1 10,zl 12 11,zh 13 0] ⟨[1,2,3,11,12,13],[1,2,20023],[]⟩ (.block 0 (aad))) (.seq (.region [.share 3 [some 1]] [] [zm 25 3,zf 26 2 1,zd 1 [some 1] 26 25] ⟨[1,2],[1,2,20023],
 []⟩) (zz [zs 27 1 3 1,zd 2 e7 2 27] ⟨[2],[2,20023],[]⟩ (.ret))))))
def Dk:bq where
 nparams:=2
 results:=[.t 4 [none]]
 body :=
 zz [zh 4 0] ⟨[0,1],[],[]⟩ (.seq (zz [zm 6 1,zv .lss 7 6 1,zm 8 7,ym 9 8 false 0,zq 10 8 false (.qn (.t 9)),yf 11 8 false 1 10,zq 12 8 false (.load .az none (.t 11)),ym 13 8 false 0,zq 14 8 false (.qn (.t 13)),yf 15 8 false 0 14,zq 16 8 false (.load .az none (.t 15)),yl 17 8 false 16,yb .geq 18 8 false 12 17,yp 19 8 true 18] ⟨[0,1,19],[],[]⟩ (yc 19 (zz [zh 4 0] ⟨[4],[],[]⟩ (.ret)))) (zz [zm 20 0,
 zk 21 20,zf 22 0 21,zg 23 22,zm 24 0,zk 25 24,zf 26 1 25,zg 27 26,za 28 1 23 27,zi 29 28,zm 5 29] ⟨[0,1,5],[],[]⟩ (zz [zm 30 0,zk 31 30,zf 32 1 31,zg 33 32,zv .add 34 33 1,zk 35 30,zf 36 1 35,zn (.store .az [none] (.t 36) (.t 34))] ⟨[1,5],[],[]⟩ (zz [zm 37 5,zm 38 1,zw 39 true 64 [a0 37,a0 38],zm 4 39] ⟨[4],[],[]⟩ (.ret)))))
def Rj:VC :=
 zz [zb .lss 25 24 23] ⟨[1,22,23,24,25],[1],[]⟩ (zx 25 0 (.seq (.block 1 (yz [5] [zm 26 24,za 27 10 22 24,yg 28 10 27,ye 5 [z0,.aK,z0,z0,z0,z0,z0,.aK,.aK,z0],zm 4 26,zd 5 vI 5 28] ⟨[1,4,5,22,23,24],[1,5],[]⟩ (.seq (zz [zf 29 0 5,zj 30 5 29,zv .lss 31 30 0,zm 32 31,yf 33 32 false 0 5,yj 34 32 false 5 33,yf 35 32 false 0 1,yf 36 32 false 0 35,yj 37 32 false 1 36,yb .geq 38 32 false 34 37,
 yp 39 32 true 38] ⟨[1,4,5,22,23,24,39],[1,5],[]⟩ (yc 39 (zz [zh 2 41] ⟨[2],[],[]⟩ (.ret)))) (.seq (zz [zm 40 4,zv .gtr 41 40 0,zm 42 41,yf 43 42 true 0 5,yj 44 42 true 5 43,yf 45 42 true 2 1,yj 46 42 true 1 45,ym 47 42 true 4,yv .sub 48 42 true 47 1,ya 49 42 true 10 46 48,yf 50 42 true 0 49,yi 51 42 true 50,yb .leq 52 42 true 44 51,zp 53 42 52 false] ⟨[1,5,22,23,24,53],[1,5],
 []⟩ (yc 53 (zz [zh 2 4] ⟨[2],[],[]⟩ (.ret)))) (zz [zf 54 1 5,zs 55 5 9 54,zw 56 true 68 [(ku,(.t 55))],zm 6 56] ⟨[1,6,22,23,24],[1],[]⟩ (zz [zm 57 6,zv .neq 58 57 0] ⟨[1,6,22,23,24,58],[1],[]⟩ (yc 58 (zz [zm 59 6,zm 2 59] ⟨[2],[],[]⟩ (.ret))))))))) (zr [zv .add 60 24 1,zm 24 60] ⟨[1,22,23,24],[1],[]⟩)))
def aaf:VC:=.loop [] ⟨[1,22,23,24],[1],[]⟩ Rj
abbrev aag(tH:V)(rB:Int)(p7:Int)(o1:List V)(G:List aW):St:=⟨[(1,.bK 1 0),(22,tH),(23,.int .i64 rB),(24,.int .i64 p7)],[(1,o1)],[],G⟩
def A5:bq where
 nparams:=1
 results:=[.t 2 [none]]
 body :=
 yz [1] [zu 1 0,zh 2 0] ⟨[1],[1],[]⟩ (.seq (zz [zf 7 0 1,zs 8 1 2 7,zw 9 true 67 [(tE,(.t 8))],zm 3 9] ⟨[1,3],[1],[]⟩ (zz [zm 10 3,zv .neq 11 10 0] ⟨[1,3,11],[1],[]⟩ (yc 11 (zz [zm 12 3,zm 2 12] ⟨[2],[],[]⟩ (.ret))))) (.seq (zz [zf 13 0 1,zf 14 0 13,zj 15 1 14,zv .gtr 16 15 12] ⟨[1,16],[1],[]⟩ (yc 16 (zz [zh 2 41] ⟨[2],[],[]⟩ (.ret)))) (.seq (zz [zf 17 2 1,zj 18 1 17,zl 19 18,zv .gtr 20 19 6] ⟨[1,
 20],[1],[]⟩ (yc 20 (zz [zh 2 10] ⟨[2],[],[]⟩ (.ret)))) (.seq (zz [zf 21 2 1,zj 22 1 21,zl 23 22,zh 24 0] ⟨[1,22,23,24],[1],[]⟩ (.block 0 (aaf))) (zz [zh 2 0] ⟨[2],[],[]⟩ (.ret))))))
def Rk:VC :=
 zz [zb .lss 25 24 23] ⟨[1,22,23,24,25],[1],[]⟩ (zx 25 0 (.seq (.block 1 (yz [5] [zm 26 24,za 27 10 22 24,yg 28 10 27,ye 5 [z0,.aK,z0,z0,z0,z0,z0,.aK,.aK,z0],zm 4 26,zd 5 vI 5 28] ⟨[1,4,5,22,23,24],[1,5],[]⟩ (.seq (zz [zf 29 0 5,zj 30 5 29,zv .lss 31 30 0,zm 32 31,yf 33 32 false 0 5,yj 34 32 false 5 33,yf 35 32 false 0 1,yf 36 32 false 0 35,yj 37 32 false 1 36,yb .geq 38 32 false 34 37,
 yp 39 32 true 38] ⟨[1,4,5,22,23,24,39],[1,5],[]⟩ (yc 39 (zz [zh 2 41] ⟨[2],[],[]⟩ (.ret)))) (.seq (zz [zm 40 4,zv .gtr 41 40 0,zm 42 41,yf 43 42 true 0 5,yj 44 42 true 5 43,yf 45 42 true 2 1,yj 46 42 true 1 45,ym 47 42 true 4,yv .sub 48 42 true 47 1,ya 49 42 true 10 46 48,yf 50 42 true 0 49,yi 51 42 true 50,yb .leq 52 42 true 44 51,zp 53 42 52 false] ⟨[1,5,22,23,24,53],[1,5],
 []⟩ (yc 53 (zz [zh 2 4] ⟨[2],[],[]⟩ (.ret)))) (zz [zf 54 1 5,zs 55 5 9 54,zw 56 true 69 [(ku,(.t 55))],zm 6 56] ⟨[1,6,22,23,24],[1],[]⟩ (zz [zm 57 6,zv .neq 58 57 0] ⟨[1,6,22,23,24,58],[1],[]⟩ (yc 58 (zz [zm 59 6,zm 2 59] ⟨[2],[],[]⟩ (.ret))))))))) (zr [zv .add 60 24 1,zm 24 60] ⟨[1,22,23,24],[1],[]⟩)))
def aah:VC:=.loop [] ⟨[1,22,23,24],[1],[]⟩ Rk
abbrev aai(tH:V)(rB:Int)(p7:Int)(o1:List V)(G:List aW):St:=⟨[(1,.bK 1 0),(22,tH),(23,.int .i64 rB),(24,.int .i64 p7)],[(1,o1)],[],G⟩
def A6:bq where
 nparams:=1
 results:=[.t 2 [none]]
 body :=
 yz [1] [zu 1 0,zh 2 0] ⟨[1],[1],[]⟩ (.seq (zz [zf 7 0 1,zs 8 1 2 7,zw 9 true 56 [(tE,(.t 8))],zm 3 9] ⟨[1,3],[1],[]⟩ (zz [zm 10 3,zv .neq 11 10 0] ⟨[1,3,11],[1],[]⟩ (yc 11 (zz [zm 12 3,zm 2 12] ⟨[2],[],[]⟩ (.ret))))) (.seq (zz [zf 13 0 1,zf 14 0 13,zj 15 1 14,zv .gtr 16 15 12] ⟨[1,16],[1],[]⟩ (yc 16 (zz [zh 2 41] ⟨[2],[],[]⟩ (.ret)))) (.seq (zz [zf 17 2 1,zj 18 1 17,zl 19 18,zv .gtr 20 19 6] ⟨[1,
 20],[1],[]⟩ (yc 20 (zz [zh 2 10] ⟨[2],[],[]⟩ (.ret)))) (.seq (zz [zf 21 2 1,zj 22 1 21,zl 23 22,zh 24 0] ⟨[1,22,23,24],[1],[]⟩ (.block 0 (aah))) (zz [zh 2 0] ⟨[2],[],[]⟩ (.ret))))))
def F6:bq where
 nparams:=2
 results:=[.t 4 [none]]
 body :=
 yz [2,3] [zu 2 0,zu 3 1,zt 4 false] ⟨[2,3],[2,3],[]⟩ (zz [zs 5 2 3 2,zw 6 true 26 [(iJ,(.t 5))],zv .eql 7 6 0,zm 8 7,ys 9 8 true 2 3 2,ys 10 8 true 3 3 3,yw 11 8 true true 70 [(iJ,(.t 9)),(e7,(.t 10))],zp 12 8 11 false,zm 4 12] ⟨[4],[],[]⟩ (.ret))
def Rl:VC :=
 zz [zb .lss 41 40 39] ⟨[2,3,38,39,40,41],[2,3],[]⟩ (zx 41 0 (.seq (.block 1 (yz [6] [zm 42 40,za 43 10 38 40,yg 44 10 43,ye 6 [z0,.aK,z0,z0,z0,z0,z0,.aK,.aK,z0],zm 5 42,zd 6 vI 6 44] ⟨[2,3,5,6,38,39,40],[2,3,6],[]⟩ (zz [zf 45 1 6,zs 46 6 9 45,zf 47 1 3,zj 48 3 47,zm 49 5,za 50 4 48 49,yg 51 4 50,zw 52 true 72 [(ku,(.t 46)),(fL,(.t 51))],zo 53 (.un .not (.t 52))] ⟨[2,3,38,39,40,53],[2,3],
 []⟩ (yc 53 (zz [zt 4 false] ⟨[4],[],[]⟩ (.ret)))))) (zr [zv .add 54 40 1,zm 40 54] ⟨[2,3,38,39,40],[2,3],[]⟩)))
def aaj:VC:=.loop [] ⟨[2,3,38,39,40],[2,3],[]⟩ Rl
abbrev aak(yJ:V)(KH:Int)(yK:Int)(o2:List V)(o3:List V)(G:List aW):St:=⟨[(2,.bK 2 0),(3,.bK 3 0),(38,yJ),(39,.int .i64 KH),(40,.int .i64 yK)],[(2,o2),(3,o3)],[],G⟩
def Rn:VC :=
 zz [zb .lss 60 59 58] ⟨[3,57,58,59,60],[3],[]⟩ (zx 60 2 (.seq (.block 3 (yz [8] [zm 61 59,za 62 4 57 59,yg 63 4 62,ye 8 [z0,z0,.aK,z0],zm 7 61,zd 8 tD 8 63] ⟨[3,7,8,57,58,59],[3,8],[]⟩ (zz [zf 64 2 8,zs 65 8 2 64,zf 66 2 3,zj 67 3 66,zm 68 7,za 69 1 67 68,yg 70 1 69,zw 71 true 73 [(mQ,(.t 65)),ad 1 70],zo 72 (.un .not (.t 71))] ⟨[3,57,58,59,72],[3],[]⟩ (yc 72 (zz [zt 4 false] ⟨[4],[],
 []⟩ (.ret)))))) (zr [zv .add 73 59 1,zm 59 73] ⟨[3,57,58,59],[3],[]⟩)))
def aal:VC:=.loop [] ⟨[3,57,58,59],[3],[]⟩ Rn
abbrev aam(yL:V)(yM:Int)(yN:Int)(o3:List V)(G:List aW):St:=⟨[(3,.bK 3 0),(57,yL),(58,.int .i64 yM),(59,.int .i64 yN)],[(3,o3)],[],G⟩
def yO:bq where
 nparams:=2
 results:=[.t 4 [none]]
 body :=
 yz [2,3] [zu 2 0,zu 3 1,zt 4 false] ⟨[2,3],[2,3],[]⟩ (.seq (zz [zs 9 2 3 2,zw 10 true 27 [(iJ,(.t 9))],zv .neq 11 10 0,zm 12 11,yf 13 12 false 0 3,yj 14 12 false 3 13,yw 15 12 false true 71 [a0 14,ac 16777216],zq 16 12 false (.un .not (.t 15)),yp 17 12 true 16,zm 18 17,yf 19 18 false 1 3,yj 20 18 false 3 19,yl 21 18 false 20,yf 22 18 false 2 2,yj 23 18 false 2 22,yl 24 18 false 23,
 yb .neq 25 18 false 21 24,yp 26 18 true 25,zm 27 26,yf 28 27 false 2 3,yj 29 27 false 3 28,yl 30 27 false 29,yf 31 27 false 0 2,yf 32 27 false 1 31,yj 33 27 false 2 32,yl 34 27 false 33,yb .neq 35 27 false 30 34,yp 36 27 true 35] ⟨[2,3,36],[2,3],[]⟩ (yc 36 (zz [zt 4 false] ⟨[4],[],[]⟩ (.ret)))) (.seq (zz [zf 37 2 2,zj 38 2 37,zl 39 38,zh 40 0] ⟨[2,3,38,39,40],[2,3],
 []⟩ (.block 0 (aaj))) (.seq (zz [zf 55 0 2,zf 56 1 55,zj 57 2 56,zl 58 57,zh 59 0] ⟨[3,57,58,59],[3],[]⟩ (.block 2 (aal))) (zz [zt 4 true] ⟨[4],[],[]⟩ (.ret)))))
def aq3:VC :=
 zz [zb .lss 14 13 12] ⟨[0,1,12,13,14],[],[]⟩ (zx 14 0 (.seq (.block 1 (zz [zm 15 13,zm 5 15] ⟨[0,1,5,12,13],[],[]⟩ (zz [zm 16 0,zm 17 5,za 18 1 16 17,zi 19 18,zm 20 1,zm 21 5,za 22 1 20 21,zi 23 22,zb .neq 24 19 23] ⟨[0,1,12,13,24],[],[]⟩ (yc 24 (zz [zt 4 false] ⟨[4],[],[]⟩ (.ret)))))) (zr [zv .add 25 13 1,zm 13 25] ⟨[0,1,12,13],[],[]⟩)))
def ar3:VC:=.loop [] ⟨[0,1,12,13],[],[]⟩ aq3
abbrev ar4(x0:V)(x1:V)(mw:Int)(jB:Int)(G:List aW):St:=⟨[(0,x0),(1,x1),(12,.int .i64 mw),(13,.int .i64 jB)],[],[],G⟩
def ai2:bq where
 nparams:=2
 results:=[.t 4 [none]]
 body :=
 zz [zt 4 false] ⟨[0,1],[],[]⟩ (.seq (zz [zm 6 0,zl 7 6,zm 8 1,zl 9 8,zb .neq 10 7 9] ⟨[0,1,10],[],[]⟩ (yc 10 (zz [zt 4 false] ⟨[4],[],[]⟩ (.ret)))) (.seq (zz [zm 11 0,zl 12 11,zh 13 0] ⟨[0,1,12,13],[],[]⟩ (.block 0 (ar3))) (zz [zt 4 true] ⟨[4],[],[]⟩ (.ret))))
def Dl:bq where
 nparams:=2
 results:=[.c 4 true e7,.t 5 [none]]
 body :=
 yz [2,4] [zu 2 0,ye 4 [z0,.aK,.aK],zh 5 0] ⟨[1,2,4],[2,4],[]⟩ (.seq (zz [zs 9 2 3 2,zw 10 true 26 [(iJ,(.t 9))],zm 6 10] ⟨[1,2,4,6],[2,4],[]⟩ (zz [zm 11 6,zv .neq 12 11 0] ⟨[1,2,4,6,12],[2,4],[]⟩ (yc 12 (zz [zo 13 (.build [z0,.aK,.aK] []),zm 14 6,zd 4 e7 4 13,zm 5 14] ⟨[4,5],[4],[]⟩ (.ret))))) (.seq (zz [zs 15 2 3 2,zm 16 1,zw 17 true 74 [(iJ,(.t 15)),ad 4 16],zo 18 (.un .not (.t 17))] ⟨[1,2,4,
 18],[2,4],[]⟩ (yc 18 (zz [zo 19 (.build [z0,.aK,.aK] []),zd 4 e7 4 19,zh 5 3] ⟨[4,5],[4],[]⟩ (.ret)))) (zz [zf 21 0 2,zs 22 2 2 21,zw 23 true 75 [(tE,(.t 22))],zm 20 23,ze 24 20 0,ze 25 20 1,zm 7 24,zm 8 25] ⟨[1,4,7,8],[4],[]⟩ (.seq (zz [zm 26 8,zv .neq 27 26 0] ⟨[1,4,7,8,27],[4],[]⟩ (yc 27 (zz [zo 28 (.build [z0,.aK,.aK] []),zm 29 8,zd 4 e7 4 28,zm 5 29] ⟨[4,5],[4],[]⟩ (.ret)))) (zz [zm 30 1,
 zw 31 false 76 [ad 4 30],zm 32 7,zo 33 (.build [z0,.aK,.aK] [(1,1,(.t 31)),(2,1,(.t 32))]),zd 4 e7 4 33,zh 5 0] ⟨[4,5],[4],[]⟩ (.ue [.wA 4 [fL]]))))))
def Dn:bq where
 nparams:=2
 results:=[.c 4 true e7,.t 5 [none]]
 body :=
 yz [2,4] [zu 2 0,ye 4 [z0,.aK,.aK],zh 5 0] ⟨[1,2,4],[2,4],[]⟩ (.seq (zz [zs 10 2 3 2,zw 11 true 27 [(iJ,(.t 10))],zm 6 11] ⟨[1,2,4,6],[2,4],[]⟩ (zz [zm 12 6,zv .neq 13 12 0] ⟨[1,2,4,6,13],[2,4],[]⟩ (yc 13 (zz [zo 14 (.build [z0,.aK,.aK] []),zm 15 6,zd 4 e7 4 14,zm 5 15] ⟨[4,5],[4],[]⟩ (.ret))))) (zz [zf 17 0 2,zs 18 2 2 17,zw 19 true 77 [(tE,(.t 18))],zm 16 19,ze 20 16 0,ze 21 16 1,zm 7 20,
 zm 8 21] ⟨[1,2,4,7],[2,4],[]⟩ (yz [9] [zm 22 1,zw 23 false 63 [ad 4 22],zm 24 7,zo 25 (.build [z0,.aK,.aK] [(1,1,(.t 23)),(2,1,(.t 24))]),ye 9 [z0,.aK,.aK],zd 9 e7 9 25] ⟨[2,4,9],[2,4,9],[]⟩ (.seq (.seq (.region [.wA 9 [fL]] [] [zs 26 2 3 2,zs 27 9 3 9,zw 28 true 29 [(iJ,(.t 26)),(e7,(.t 27))],zo 29 (.un .not (.t 28))] ⟨[4,9,29],[4,9],[]⟩) (yc 29 (zz [zo 30 (.build [z0,.aK,.aK] []),zd 4 e7 4 30,
 zh 5 3] ⟨[4,5],[4],[]⟩ (.ret)))) (.seq (.region [.wA 9 [fL]] [] [zs 31 9 3 9,zd 4 e7 4 31,zh 5 0] ⟨[4,5],[4],[]⟩) (.ret))))))
def aq4:VC :=
 zz [zb .lss 10 9 8] ⟨[0,4,7,8,9,10],[4],[1016]⟩ (zx 10 0 (.seq (.block 1 (.region [.norm 7 1016 3] [5016] [zm 11 7,zm 12 0,zs 13 4 3 4,zw 14 false 16 [a0 12,(iJ,(.t 13))],zo 15 (.lit none uJ [.slice none 1 [],.slice none 1 [],.slice none 1 []] 1 [(0,(.t 14))]),zo 16 (.app 5016 (some 1016) uJ 1954687338268 (.t 11) (.t 15)),zm 7 16] ⟨[0,4,7,8,9],[4],[1016]⟩)) (zr [zv .add 17 9 1,zm 9 17] ⟨[0,4,7,8,
 9],[4],[1016]⟩)))
def ar5:VC:=.loop [.norm 7 1016 3] ⟨[0,4,7,8,9],[4],[1016]⟩ aq4
abbrev ar6(x0:V)(x7:V)(x8:Int)(x9:Int)(o4:List V)(ar7:Nat)(G:List aW):St:=⟨[(0,x0),(4,.bK 4 0),(7,x7),(8,.int .i64 x8),(9,.int .i64 x9)],[(4,o4)],[(1016,ar7)],G⟩
def ao7:bq where
 nparams:=3
 results:=[.t 6 [some 3]]
 body :=
 yz [4] [zu 4 1,zy 6] ⟨[0,2,4],[4],[]⟩ (zz [zy 7] ⟨[0,2,4,7],[4],[1016]⟩ (.seq (zz [zm 8 2,zh 9 0] ⟨[0,4,7,8,9],[4],[1016]⟩ (.block 0 (ar5))) (zz [zm 18 7,zm 6 18] ⟨[6],[],[1016]⟩ (.ret))))
def aq5:VC :=
 zz [zb .lss 39 38 37] ⟨[3,4,6,10,36,37,38,39],[3,4,6],[1058]⟩ (zx 39 0 (.seq (.block 1 (yz [12] [za 40 3 36 38,yg 41 3 40,ye 12 [.aK,.aK,.aK],zd 12 uJ 12 41] ⟨[3,4,6,10,12,36,37,38],[3,4,6,12],[1058]⟩ (.seq (.region [.wA 4 [fL,[some 1]]] [13,14] [zs 43 3 3 3,zs 44 4 3 4,zs 45 12 3 12,zw 46 true 55 [(iJ,(.t 43)),(e7,(.t 44)),(uJ,(.t 45))],zm 42 46,ze 47 42 0,ze 48 42 1,ze 49 42 2,ye 13 [z0,.aK,
 .aK],ye 14 [.aK,.aK,.aK],zd 13 e7 13 47,zd 14 lF 14 48,zm 15 49] ⟨[3,4,6,10,13,14,15,36,37,38],[3,4,6,13,14],[1058]⟩) (.seq (zz [zm 50 15,zv .neq 51 50 0] ⟨[3,4,6,10,13,14,15,36,37,38,51],[3,4,6,13,14],[1058]⟩ (yc 51 (zz [zo 52 (.build [z0,.aK,.aK] []),zm 53 15,zd 6 e7 6 52,zy 7,zm 8 53] ⟨[6,7,8],[6],[1058]⟩ (.ret)))) (.region [.norm 10 1058 3] [5058] [zs 54 13 3 13,zm 55 10,zs 56 14 3 14,
 zo 57 (.lit none lF [.slice none 7 [],.slice none 1 [],.slice none 1 []] 1 [(0,(.t 56))]),zo 58 (.app 5058 (some 1058) lF 1954687338268 (.t 55) (.t 57)),zd 4 e7 4 54,zm 10 58] ⟨[3,4,6,10,36,37,38],[3,4,6],[1058]⟩))))) (zr [zv .add 59 38 1,zm 38 59] ⟨[3,4,6,10,36,37,38],[3,4,6],[1058]⟩)))
def ar8:VC:=.loop [.wA 4 [fL,[some 1]],.norm 10 1058 3] ⟨[3,4,6,10,36,37,38],[3,4,6],[1058]⟩ aq5
abbrev ar9(lG:V)(yS:V)(vK:Int)(yJ:Int)(o3:List V)(o4:List V)(o6:List V)(asa:Nat)(G:List aW):St:=⟨[(3,.bK 3 0),(4,.bK 4 0),(6,.bK 6 0),(10,lG),(36,yS),(37,.int .i64 vK),(38,.int .i64 yJ)],[(3,o3),(4,o4),(6,o6)],[(1058,asa)],G⟩
def abZ:bq where
 nparams:=3
 results:=[.c 6 true e7,.t 7 [some 3],.t 8 [none]]
 body :=
 yz [3,4,6] [zu 3 0,zu 4 1,ye 6 [z0,.aK,.aK],zy 7,zh 8 0] ⟨[2,3,4,6],[3,4,6],[]⟩ (.seq (.seq (.region [.wA 4 [fL,[some 1]]] [] [zs 16 3 3 3,zs 17 4 3 4,zw 18 true 54 [(iJ,(.t 16)),(e7,(.t 17))],zm 9 18] ⟨[2,3,4,6,9],[3,4,6],[]⟩) (zz [zm 19 9,zv .neq 20 19 0] ⟨[2,3,4,6,9,20],[3,4,6],[]⟩ (yc 20 (zz [zo 21 (.build [z0,.aK,.aK] []),zm 22 9,zd 6 e7 6 21,zy 7,zm 8 22] ⟨[6,7,8],[6],
 [1058]⟩ (.ret))))) (.seq (zz [zm 23 2,zl 24 23,zv .gtr 25 24 400] ⟨[2,3,4,6,25],[3,4,6],[]⟩ (yc 25 (zz [zo 26 (.build [z0,.aK,.aK] []),zd 6 e7 6 26,zy 7,zh 8 10] ⟨[6,7,8],[6],[1058]⟩ (.ret)))) (.seq (.region [.wA 4 [fL,[some 1]]] [] [zf 27 0 4,zj 28 4 27,zf 29 1 4,zj 30 4 29,zw 31 false 76 [ad 4 30],zf 32 2 4,zj 33 4 32,zw 34 false 79 [ad 1 33],zo 35 (.build [z0,.aK,.aK] [(0,1,(.t 28)),(1,1,
 (.t 31)),(2,1,(.t 34))]),zd 4 e7 4 35] ⟨[2,3,4,6],[3,4,6],[]⟩) (zz [zy 10] ⟨[2,3,4,6,10],[3,4,6],[1058]⟩ (.seq (zz [zm 36 2,zl 37 36,zh 38 0] ⟨[3,4,6,10,36,37,38],[3,4,6],[1058]⟩ (.block 0 (ar8))) (.seq (.region [.wA 4 [fL,[some 1]]] [] [zs 60 4 3 4,zm 61 10,zd 6 e7 6 60,zm 7 61,zh 8 0] ⟨[6,7,8],[6],[1058]⟩) (.ret)))))))
def abe:VC :=
 zz [zb .lss 11 10 9] ⟨[1,8,9,10,11],[],[]⟩ (zx 11 0 (.seq (.block 1 (yz [6] [zm 12 10,za 13 4 8 10,yg 14 4 13,ye 6 [z0,z0,.aK,z0],zm 5 12,zd 6 tD 6 14] ⟨[1,5,6,8,9,10],[6],[]⟩ (zz [zf 15 0 6,zj 16 6 15,zm 17 1,zb .eql 18 16 17] ⟨[1,5,8,9,10,18],[],[]⟩ (yc 18 (zz [zm 19 5,zm 4 19] ⟨[4],[],[]⟩ (.ret)))))) (zr [zv .add 20 10 1,zm 10 20] ⟨[1,8,9,10],[],[]⟩)))
def aie:VC:=.loop [] ⟨[1,8,9,10],[],[]⟩ abe
abbrev aih(x1:Int)(x8:V)(x9:Int)(lG:Int)(G:List aW):St:=⟨[(1,.int .i64 x1),(8,x8),(9,.int .i64 x9),(10,.int .i64 lG)],[],[],G⟩
def UE:bq where
 nparams:=2
 results:=[.t 4 [none]]
 body :=
 yz [2] [zu 2 0,zh 4 0] ⟨[1,2],[2],[]⟩ (.seq (zz [zf 7 1 2,zj 8 2 7,zl 9 8,zh 10 0] ⟨[1,8,9,10],[],[]⟩ (.block 0 (aie))) (zz [zh 4 (-1)] ⟨[4],[],[]⟩ (.ret)))
def acf:bq where
 nparams:=2
 results:=[.t 4 [none]]
 body :=
 yz [2,3] [zu 2 0,zu 3 1,zt 4 false] ⟨[2,3],[2,3],[]⟩ (zz [zf 5 0 2,zj 6 2 5,zf 7 0 3,zj 8 3 7,zb .eql 9 6 8,zm 10 9,yf 11 10 true 1 2,yj 12 10 true 2 11,yf 13 10 true 1 3,yj 14 10 true 3 13,zq 15 10 true (.mG (.c (.fn 80 [])) [ad 4 12,ad 4 14,([none],(.c (.fn 81 [])))]),zp 16 10 15 false,zm 17 16,yf 18 17 true 2 2,yj 19 17 true 2 18,yf 20 17 true 2 3,yj 21 17 true 3 20,
 zq 22 17 true (.mG (.c (.fn 82 [])) [ad 1 19,ad 1 21,([none],(.c (.fn 83 [])))]),zp 23 17 22 false,zm 4 23] ⟨[4],[],[]⟩ (.ret))
def aq6:VC :=
 zz [zb .lss 14 13 12] ⟨[0,1,12,13,14],[],[]⟩ (zx 14 0 (.seq (.block 1 (zz [zm 15 13,zm 5 15] ⟨[0,1,5,12,13],[],[]⟩ (zz [zm 16 0,zm 17 5,za 18 3 16 17,yg 19 3 18,zm 20 1,zm 21 5,za 22 3 20 21,yg 23 3 22,zw 24 true 43 [(lF,(.t 19)),(lF,(.t 23))],zo 25 (.un .not (.t 24))] ⟨[0,1,12,13,25],[],[]⟩ (yc 25 (zz [zt 4 false] ⟨[4],[],[]⟩ (.ret)))))) (zr [zv .add 26 13 1,zm 13 26] ⟨[0,1,12,13],[],[]⟩)))
def asb:VC:=.loop [] ⟨[0,1,12,13],[],[]⟩ aq6
abbrev asd(x0:V)(x1:V)(mw:Int)(jB:Int)(G:List aW):St:=⟨[(0,x0),(1,x1),(12,.int .i64 mw),(13,.int .i64 jB)],[],[],G⟩
def ao8:bq where
 nparams:=2
 results:=[.t 4 [none]]
 body :=
 zz [zt 4 false] ⟨[0,1],[],[]⟩ (.seq (zz [zm 6 0,zl 7 6,zm 8 1,zl 9 8,zb .neq 10 7 9] ⟨[0,1,10],[],[]⟩ (yc 10 (zz [zt 4 false] ⟨[4],[],[]⟩ (.ret)))) (.seq (zz [zm 11 0,zl 12 11,zh 13 0] ⟨[0,1,12,13],[],[]⟩ (.block 0 (asb))) (zz [zt 4 true] ⟨[4],[],[]⟩ (.ret))))
def aq7:VC :=
 zz [zb .lss 38 37 36] ⟨[1,2,3,35,36,37,38],[3],[]⟩ (zx 38 0 (.seq (.block 1 (zz [za 39 1 35 37,zi 40 39,zm 11 40] ⟨[1,2,3,11,35,36,37],[3],[]⟩ (zz [zm 41 11,zw 42 true 57 [a0 41,ac 1073741824],zo 43 (.un .not (.t 42))] ⟨[1,2,3,35,36,37,43],[3],[]⟩ (yc 43 (zz [zy 6,zy 7,zh 8 1] ⟨[6,7,8],[49,20046],[]⟩ (.ret)))))) (zr [zv .add 44 37 1,zm 37 44] ⟨[1,2,3,35,36,37],[3],[]⟩)))
def ase:VC:=.loop [] ⟨[1,2,3,35,36,37],[3],[]⟩ aq7
abbrev asf(x1:V)(x2:V)(yR:V)(yS:Int)(vK:Int)(o3:List V)(G:List aW):St:=⟨[(1,x1),(2,x2),(3,.bK 3 0),(35,yR),(36,.int .i64 yS),(37,.int .i64 vK)],[(3,o3)],[],G⟩
def aq8:VC :=
 zz [zb .lss 53 52 51] ⟨[1,3,12,13,51,52,53],[3,49,20046],[]⟩ (zx 53 2 (.seq (.block 3 (zz [zm 54 52,zm 14 54] ⟨[1,3,12,13,14,51,52],[3,49,20046],[]⟩ (zz [zs 55 3 2 3,zm 56 14,zw 57 true 36 [(tE,(.t 55)),a0 56],zm 15 57] ⟨[1,3,12,13,14,15,51,52],[3,49,20046],[]⟩ (.seq (zz [zm 58 15,zv .lss 59 58 0] ⟨[1,3,12,13,14,15,51,52,59],[3,49,20046],[]⟩ (yc 59 (.exit 3))) (yz [16] [zf 61 1 3,zj 62 3 61,
 zm 63 15,za 64 4 62 63,zf 65 2 64,yg 66 2 65,zm 67 1,zm 68 15,za 69 1 67 68,yg 70 1 69,zm 71 12,zm 72 14,za 73 1 71 72,zj 74 20046 73,zw 75 true 86 [(mQ,(.t 66)),ad 1 70,a0 74],zm 60 75,ze 76 60 0,ze 77 60 1,ze 78 60 2,ye 16 [.aK],zd 16 [some 1] 16 76,zm 17 77,zm 18 78] ⟨[1,3,12,13,15,16,17,18,51,52],[3,16,49,20046],[]⟩ (.seq (zz [zm 79 18,zv .neq 80 79 0] ⟨[1,3,12,13,15,16,17,51,52,80],[3,16,49,
 20046],[]⟩ (yc 80 (zz [zy 6,zy 7,zh 8 1] ⟨[6,7,8],[49,20046],[]⟩ (.ret)))) (zz [zm 81 13,zm 82 15,zs 83 16 1 16,za 84 1 81 82,zd 49 [some 1] 84 83] ⟨[1,3,12,13,15,17,51,52],[3,49,20046],[]⟩ (zr [zm 85 12,zf 86 1 3,zj 87 3 86,zm 88 15,za 89 4 87 88,zf 90 1 89,zi 91 90,za 92 1 85 91,zj 93 20046 92,zm 94 17,zb .add 95 93 94,za 96 1 85 91,zd 20046 [none] 96 95] ⟨[1,3,12,13,51,52],[3,49,20046],
 []⟩)))))))) (zr [zv .add 97 52 1,zm 52 97] ⟨[1,3,12,13,51,52],[3,49,20046],[]⟩)))
def asg:VC:=.loop [] ⟨[1,3,12,13,51,52],[3,49,20046],[]⟩ aq8
abbrev asl(x1:V)(n12:Nat)(n13:Nat)(x51:Int)(x52:Int)(o3:List V)(o49:List V)(asn:List V)(G:List aW):St:=⟨[(1,x1),(3,.bK 3 0),(12,.cb 20046 1 n12),(13,.cb 49 1 n13),(51,.int .i64 x51),(52,.int .i64 x52)],[(3,o3),(49,o49),(20046,asn)],[],G⟩
def apk:bq where
 nparams:=3
 results:=[.t 6 [some 1],.t 7 [some 1],.t 8 [none]]
 body :=
 yz [3] [zu 3 0,zy 6,zy 7,zh 8 0] ⟨[1,2,3],[3],[]⟩ (.seq (zz [zs 19 3 2 3,zw 20 true 56 [(tE,(.t 19))],zm 9 20] ⟨[1,2,3,9],[3],[]⟩ (zz [zm 21 9,zv .neq 22 21 0] ⟨[1,2,3,9,22],[3],[]⟩ (yc 22 (zz [zm 23 9,zy 6,zy 7,zm 8 23] ⟨[6,7,8],[49,20046],[]⟩ (.ret))))) (.seq (zz [zs 24 3 2 3,zm 25 1,zw 26 true 85 [(tE,(.t 24)),ad 1 25],zo 27 (.un .not (.t 26)),zm 28 27,ym 29 28 false 2,yl 30 28 false 29,
 yf 31 28 false 0 3,yj 32 28 false 3 31,yb .neq 33 28 false 30 32,yp 34 28 true 33] ⟨[1,2,3,34],[3],[]⟩ (yc 34 (zz [zy 6,zy 7,zh 8 3] ⟨[6,7,8],[49,20046],[]⟩ (.ret)))) (.seq (zz [zm 35 2,zl 36 35,zh 37 0] ⟨[1,2,3,35,36,37],[3],[]⟩ (.block 0 (ase))) (yz [20046] [zm 45 2,zo 46 (.m9 20046 21046 [none] (.c (.aK)) (.t 45)),zm 12 46] ⟨[1,3,12],[3,20046],[]⟩ (yz [49] [zm 47 1,zl 48 47,
 zo 49 (.mf 49 [.aK] (.t 48)),zm 13 49] ⟨[1,3,12,13],[3,49,20046],[]⟩ (.seq (zz [zf 50 0 3,zj 51 3 50,zh 52 0] ⟨[1,3,12,13,51,52],[3,49,20046],[]⟩ (.block 2 (asg))) (.seq (.region [.freeze 13 [some 1],.freeze 12 [none]] [] [zm 98 13,zm 99 12,zm 6 98,zm 7 99,zh 8 0] ⟨[6,7,8],[49,20046],[]⟩) (.ret))))))))
def Ro:VC :=
 zz [zb .lss 126 125 124] ⟨[3,4,5,6,7,10,11,12,13,14,123,124,125,126],[3,4,5,6,7,10,12,100,104,109,20096],[]⟩ (zx 126 2 (.seq (.block 3 (yz [16] [zm 127 125,za 128 10 123 125,yg 129 10 128,ye 16 [z0,.aK,z0,z0,z0,z0,z0,.aK,.aK,z0],zm 15 127,zd 16 vI 16 129] ⟨[3,4,5,6,7,10,11,12,13,14,15,16,123,124,125],[3,4,5,6,7,10,12,16,100,104,109,20096],[]⟩ (zz [zf 130 0 16,zj 131 16 130,zm 132 13,
 zb .eql 133 131 132] ⟨[3,4,5,6,7,10,11,12,13,14,15,16,123,124,125,133],[3,4,5,6,7,10,12,16,100,104,109,20096],[]⟩ (yc 133 (yz [17,18] [zf 135 1 16,zs 136 16 9 135,zf 137 1 4,zj 138 4 137,zm 139 15,za 140 4 138 139,yg 141 4 140,zm 142 11,zm 143 13,za 144 1 142 143,zj 145 20096 144,zf 146 1 5,zj 147 5 146,zm 148 15,za 149 1 147 148,zi 150 149,zf 151 2 5,zj 152 5 151,zm 153 15,za 154 1 152 153,
 zi 155 154,zw 156 true 19 [(ku,(.t 136)),(fL,(.t 141)),a0 145,a0 150,a0 155],zm 134 156,ze 157 134 0,ze 158 134 1,ze 159 134 2,ye 17 [z0,z0,.aK,.aK],ye 18 [z0,z0,z0,z0,z0,z0,z0],zd 17 fL 17 157,zd 18 mP 18 158,zm 19 159] ⟨[3,4,5,6,7,10,11,12,13,15,17,18,19,123,124,125],[3,4,5,6,7,10,12,17,18,100,104,109,20096],[]⟩ (.seq (zz [zm 160 19,zv .neq 161 160 0] ⟨[3,4,5,6,7,10,11,12,13,15,17,18,19,123,
 124,125,161],[3,4,5,6,7,10,12,17,18,100,104,109,20096],[]⟩ (yc 161 (zz [zo 162 (.build [z0,.aK,.aK] []),zo 163 (.build [.aK,.aK,.aK] []),zm 164 19,zd 6 e7 6 162,zd 7 lF 7 163,zm 8 164] ⟨[6,7,8],[6,7,100,104,109],[]⟩ (.ret)))) (zr [zf 165 1 10,zj 166 10 165,zm 167 15,zf 168 0 12,zj 169 12 168,zm 170 15,zs 171 17 4 17,zs 172 18 7 18,zs 173 18 7 18,zw 174 true 95 [(mP,(.t 173))],za 175 4 166 167,
 zn (.store .az fL (.t 175) (.t 171)),za 176 7 169 170,zd 100 mP 176 172,zm 14 174] ⟨[3,4,5,6,7,10,11,12,13,14,123,124,125],[3,4,5,6,7,10,12,100,104,109,20096],[]⟩))))))) (zr [zv .add 177 125 1,zm 125 177] ⟨[3,4,5,6,7,10,11,12,13,14,123,124,125],[3,4,5,6,7,10,12,100,104,109,20096],[]⟩)))
def aan:VC:=.loop [] ⟨[3,4,5,6,7,10,11,12,13,14,123,124,125],[3,4,5,6,7,10,12,100,104,109,20096],[]⟩ Ro
abbrev aao(n11:Nat)(jB:Int)(lH:Int)(aap:V)(aaq:Int)(aar:Int)(o3:List V)(o4:List V)(o5:List V)(o6:List V)(o7:List V)(yP:List V)(Dp:List V)(Dq:List V)(Dt:List V)(Du:List V)(Dx:List V)(G:List aW):St:=⟨[(3,.bK 3 0),(4,.bK 4 0),(5,.bK 5 0),(6,.bK 6 0),(7,.bK 7 0),(10,.bK 10 0),(11,.cb 20096 1 n11),(12,.bK 12 0),(13,.int .i64 jB),(14,.int .i64 lH),(123,aap),(124,.int .i64 aaq),(125,.int .i64 aar)],[(3,
 o3),(4,o4),(5,o5),(6,o6),(7,o7),(10,yP),(12,Dp),(100,Dq),(104,Dt),(109,Du),(20096,Dx)],[],G⟩
def Rp:VC :=
 zz [zb .lss 188 187 186] ⟨[3,4,5,6,7,10,11,12,13,14,185,186,187,188],[3,4,5,6,7,10,12,100,104,109,20096],[]⟩ (zx 188 4 (.seq (.block 5 (yz [21] [zm 189 187,za 190 4 185 187,yg 191 4 190,ye 21 [z0,z0,.aK,z0],zm 20 189,zd 21 tD 21 191] ⟨[3,4,5,6,7,10,11,12,13,14,20,21,185,186,187],[3,4,5,6,7,10,12,21,100,104,109,20096],[]⟩ (zz [zf 192 0 21,zj 193 21 192,zm 194 13,zb .eql 195 193 194] ⟨[3,4,5,6,7,
 10,11,12,13,14,20,21,185,186,187,195],[3,4,5,6,7,10,12,21,100,104,109,20096],[]⟩ (yc 195 (yz [22] [zf 197 2 21,zs 198 21 2 197,zf 199 2 4,zj 200 4 199,zm 201 20,za 202 1 200 201,yg 203 1 202,zm 204 14,zw 205 true 86 [(mQ,(.t 198)),ad 1 203,a0 204],zm 196 205,ze 206 196 0,ze 207 196 1,ze 208 196 2,ye 22 [.aK],zd 22 [some 1] 22 206,zm 23 207,zm 24 208] ⟨[3,4,5,6,7,10,11,12,13,14,20,21,22,23,24,185,
 186,187],[3,4,5,6,7,10,12,21,22,100,104,109,20096],[]⟩ (.seq (zz [zm 209 24,zv .neq 210 209 0] ⟨[3,4,5,6,7,10,11,12,13,14,20,21,22,23,24,185,186,187,210],[3,4,5,6,7,10,12,21,22,100,104,109,20096],[]⟩ (yc 210 (zz [zo 211 (.build [z0,.aK,.aK] []),zo 212 (.build [.aK,.aK,.aK] []),zm 213 24,zd 6 e7 6 211,zd 7 lF 7 212,zm 8 213] ⟨[6,7,8],[6,7,100,104,109],[]⟩ (.ret)))) (zz [zf 214 2 10,zj 215 10 214,
 zm 216 20,zf 217 2 12,zj 218 12 217,zm 219 20,zs 220 22 1 22,zm 221 23,za 222 1 215 216,zn (.store .az [some 1] (.t 222) (.t 220)),za 223 1 218 219,zd 109 [none] 223 221] ⟨[3,4,5,6,7,10,11,12,13,14,21,23,185,186,187],[3,4,5,6,7,10,12,21,100,104,109,20096],[]⟩ (zr [zm 224 11,zf 225 1 21,zj 226 21 225,za 227 1 224 226,zj 228 20096 227,zm 229 23,zb .add 230 228 229,za 231 1 224 226,
 zd 20096 [none] 231 230] ⟨[3,4,5,6,7,10,11,12,13,14,185,186,187],[3,4,5,6,7,10,12,100,104,109,20096],[]⟩)))))))) (zr [zv .add 232 187 1,zm 187 232] ⟨[3,4,5,6,7,10,11,12,13,14,185,186,187],[3,4,5,6,7,10,12,100,104,109,20096],[]⟩)))
def aas:VC:=.loop [] ⟨[3,4,5,6,7,10,11,12,13,14,185,186,187],[3,4,5,6,7,10,12,100,104,109,20096],[]⟩ Rp
abbrev aat(n11:Nat)(jB:Int)(lH:Int)(aau:V)(aav:Int)(aaw:Int)(o3:List V)(o4:List V)(o5:List V)(o6:List V)(o7:List V)(yP:List V)(Dp:List V)(Dq:List V)(Dt:List V)(Du:List V)(Dx:List V)(G:List aW):St:=⟨[(3,.bK 3 0),(4,.bK 4 0),(5,.bK 5 0),(6,.bK 6 0),(7,.bK 7 0),(10,.bK 10 0),(11,.cb 20096 1 n11),(12,.bK 12 0),(13,.int .i64 jB),(14,.int .i64 lH),(185,aau),(186,.int .i64 aav),(187,.int .i64 aaw)],[(3,
 o3),(4,o4),(5,o5),(6,o6),(7,o7),(10,yP),(12,Dp),(100,Dq),(104,Dt),(109,Du),(20096,Dx)],[],G⟩
def Rq:VC :=
 .seq (zz [zm 111 13,zf 112 0 3,zf 113 0 112,zj 114 3 113,zb .lss 115 111 114] ⟨[3,4,5,6,7,10,11,12,13,115],[3,4,5,6,7,10,12,100,104,109,20096],[]⟩ (.cond (.t 115) (.skip) (.exit 0))) (.seq (.block 1 (zz [zm 118 11,zm 119 13,za 120 1 118 119,zj 121 20096 120,zm 14 121] ⟨[3,4,5,6,7,10,11,12,13,14],[3,4,5,6,7,10,12,100,104,109,20096],[]⟩ (.seq (zz [zf 122 2 3,zj 123 3 122,zl 124 123,zh 125 0] ⟨[3,4,
 5,6,7,10,11,12,13,14,123,124,125],[3,4,5,6,7,10,12,100,104,109,20096],[]⟩ (.block 2 (aan))) (zz [zf 178 1 12,zj 179 12 178,zm 180 13,zm 181 14,za 182 1 179 180,zd 104 [none] 182 181] ⟨[3,4,5,6,7,10,11,12,13,14],[3,4,5,6,7,10,12,100,104,109,20096],[]⟩ (zz [zf 183 0 3,zf 184 1 183,zj 185 3 184,zl 186 185,zh 187 0] ⟨[3,4,5,6,7,10,11,12,13,14,185,186,187],[3,4,5,6,7,10,12,100,104,109,20096],
 []⟩ (.block 4 (aas))))))) (zr [zm 116 13,zv .add 117 116 1,zm 13 117] ⟨[3,4,5,6,7,10,11,12,13],[3,4,5,6,7,10,12,100,104,109,20096],[]⟩))
def aax:VC:=.loop [] ⟨[3,4,5,6,7,10,11,12,13],[3,4,5,6,7,10,12,100,104,109,20096],[]⟩ Rq
abbrev aay(n11:Nat)(jB:Int)(o3:List V)(o4:List V)(o5:List V)(o6:List V)(o7:List V)(yP:List V)(Dp:List V)(Dq:List V)(Dt:List V)(Du:List V)(Dx:List V)(G:List aW):St:=⟨[(3,.bK 3 0),(4,.bK 4 0),(5,.bK 5 0),(6,.bK 6 0),(7,.bK 7 0),(10,.bK 10 0),(11,.cb 20096 1 n11),(12,.bK 12 0),(13,.int .i64 jB)],[(3,o3),(4,o4),(5,o5),(6,o6),(7,o7),(10,yP),(12,Dp),(100,Dq),(104,Dt),(109,Du),(20096,Dx)],[],G⟩
def tI:bq where
 nparams:=3
 results:=[.c 6 true e7,.c 7 true lF,.t 8 [none]]
 body :=
 yz [3,4,5,6,7] [zu 3 0,zu 4 1,zu 5 2,ye 6 [z0,.aK,.aK],ye 7 [.aK,.aK,.aK],zh 8 0] ⟨[3,4,5,6,7],[3,4,5,6,7,100,104,109],[]⟩ (.seq (zz [zs 25 3 3 3,zw 26 true 27 [(iJ,(.t 25))],zm 9 26] ⟨[3,4,5,6,7,9],[3,4,5,6,7,100,104,109],[]⟩ (zz [zm 27 9,zv .neq 28 27 0] ⟨[3,4,5,6,7,9,28],[3,4,5,6,7,100,104,109],[]⟩ (yc 28 (zz [zo 29 (.build [z0,.aK,.aK] []),zo 30 (.build [.aK,.aK,.aK] []),zm 31 9,zd 6 e7 6 29,
 zd 7 lF 7 30,zm 8 31] ⟨[6,7,8],[6,7,100,104,109],[]⟩ (.ret))))) (.seq (zz [zs 32 3 3 3,zs 33 4 3 4,zw 34 true 29 [(iJ,(.t 32)),(e7,(.t 33))],zo 35 (.un .not (.t 34))] ⟨[3,4,5,6,7,35],[3,4,5,6,7,100,104,109],[]⟩ (yc 35 (zz [zo 36 (.build [z0,.aK,.aK] []),zo 37 (.build [.aK,.aK,.aK] []),zd 6 e7 6 36,zd 7 lF 7 37,zh 8 50] ⟨[6,7,8],[6,7,100,104,109],[]⟩ (.ret)))) (.seq (zz [zf 38 0 5,zj 39 5 38,
 zl 40 39,zf 41 0 3,zf 42 0 41,zj 43 3 42,zb .neq 44 40 43,zm 45 44,yf 46 45 false 1 5,yj 47 45 false 5 46,yl 48 45 false 47,yf 49 45 false 2 3,yj 50 45 false 3 49,yl 51 45 false 50,yb .neq 52 45 false 48 51,yp 53 45 true 52,zm 54 53,yf 55 54 false 2 5,yj 56 54 false 5 55,yl 57 54 false 56,yf 58 54 false 2 3,yj 59 54 false 3 58,yl 60 54 false 59,yb .neq 61 54 false 57 60,yp 62 54 true 61] ⟨[3,4,5,
 6,7,62],[3,4,5,6,7,100,104,109],[]⟩ (yc 62 (zz [zo 63 (.build [z0,.aK,.aK] []),zo 64 (.build [.aK,.aK,.aK] []),zd 6 e7 6 63,zd 7 lF 7 64,zh 8 3] ⟨[6,7,8],[6,7,100,104,109],[]⟩ (.ret)))) (.seq (zz [zf 65 0 5,zj 66 5 65,zw 67 true 94 [ad 1 66,ac 1073741824],zo 68 (.un .not (.t 67)),zm 69 68,yf 70 69 false 1 5,yj 71 69 false 5 70,yw 72 69 false true 94 [ad 1 71,ac 1073741824],
 zq 73 69 false (.un .not (.t 72)),yp 74 69 true 73,zm 75 74,yf 76 75 false 2 5,yj 77 75 false 5 76,yw 78 75 false true 94 [ad 1 77,ac 1073741824],zq 79 75 false (.un .not (.t 78)),yp 80 75 true 79] ⟨[3,4,5,6,7,80],[3,4,5,6,7,100,104,109],[]⟩ (yc 80 (zz [zo 81 (.build [z0,.aK,.aK] []),zo 82 (.build [.aK,.aK,.aK] []),zd 6 e7 6 81,zd 7 lF 7 82,zh 8 1] ⟨[6,7,8],[6,7,100,104,109],
 []⟩ (.ret)))) (.seq (zz [zf 83 0 4,zj 84 4 83,zv .eql 85 84 16777216] ⟨[3,4,5,6,7,85],[3,4,5,6,7,100,104,109],[]⟩ (yc 85 (zz [zo 86 (.build [z0,.aK,.aK] []),zo 87 (.build [.aK,.aK,.aK] []),zd 6 e7 6 86,zd 7 lF 7 87,zh 8 6] ⟨[6,7,8],[6,7,100,104,109],[]⟩ (.ret)))) (yz [10] [zs 88 4 3 4,zw 89 false 22 [(e7,(.t 88))],ye 10 [z0,.aK,.aK],zd 10 e7 10 89] ⟨[3,4,5,6,7,10],[3,4,5,6,7,10,100,104,109],
 []⟩ (zz [zf 90 0 10,zj 91 10 90,zv .add 92 91 1,zf 93 0 10,zd 10 [none] 93 92] ⟨[3,4,5,6,7,10],[3,4,5,6,7,10,100,104,109],[]⟩ (yz [20096] [zf 94 0 5,zj 95 5 94,zo 96 (.m9 20096 21096 [none] (.c (.aK)) (.t 95)),zm 11 96] ⟨[3,4,5,6,7,10,11],[3,4,5,6,7,10,100,104,109,20096],[]⟩ (yz [100,104,109,12] [zf 97 2 3,zj 98 3 97,zl 99 98,zo 100 (.mf 100 [z0,z0,z0,z0,z0,z0,z0] (.t 99)),zf 101 0 3,
 zf 102 0 101,zj 103 3 102,zo 104 (.mf 104 [z0] (.t 103)),zf 105 0 3,zf 106 1 105,zj 107 3 106,zl 108 107,zo 109 (.mf 109 [z0] (.t 108)),zo 110 (.build [.aK,.aK,.aK] [(0,1,(.t 100)),(1,1,(.t 104)),(2,1,(.t 109))]),ye 12 [.aK,.aK,.aK],zd 12 lF 12 110] ⟨[3,4,5,6,7,10,11,12],[3,4,5,6,7,10,12,100,104,109,20096],[]⟩ (.seq (zz [zh 13 0] ⟨[3,4,5,6,7,10,11,12,13],[3,4,5,6,7,10,12,100,104,109,20096],
 []⟩ (.block 0 (aax))) (.seq (.region [.wA 10 [fL,[some 1]],.zX 12 0 mP,.zX 12 1 [none],.zX 12 2 [none]] [] [zs 233 10 3 10,zs 234 12 3 12,zd 6 e7 6 233,zd 7 lF 7 234,zh 8 0] ⟨[6,7,8],[6,7,100,104,109],[]⟩) (.ret))))))))))))
def apl:bq where
 nparams:=2
 results:=[.t 4 [none]]
 body :=
 yz [2,3] [zu 2 0,zu 3 1,zt 4 false] ⟨[2,3],[2,3],[]⟩ (zz [zf 5 0 2,zj 6 2 5,zf 7 0 3,zj 8 3 7,zw 9 true 97 [ad 7 6,ad 7 8],zm 10 9,yf 11 10 true 1 2,yj 12 10 true 2 11,yf 13 10 true 1 3,yj 14 10 true 3 13,yw 15 10 true true 98 [ad 1 12,ad 1 14],zp 16 10 15 false,zm 17 16,yf 18 17 true 2 2,yj 19 17 true 2 18,yf 20 17 true 2 3,yj 21 17 true 3 20,yw 22 17 true true 98 [ad 1 19,ad 1 21],
 zp 23 17 22 false,zm 4 23] ⟨[4],[],[]⟩ (.ret))
def Dy:VC :=
 .seq (zz [zm 12 6,zf 13 0 4,zf 14 0 13,zj 15 4 14,zb .lss 16 12 15,zm 17 16,yf 18 17 true 2 4,yj 19 17 true 4 18,yl 20 17 true 19,yv .lss 21 17 true 20 3,zp 22 17 21 false] ⟨[0,2,4,5,6,22],[2,4],[1039,1043]⟩ (.cond (.t 22) (.skip) (.exit 0))) (.seq (.block 1 (zz [zm 25 0,zw 26 false 23 [a0 25,ac 2],zv .eql 27 26 0] ⟨[0,2,4,5,6,27],[2,4],[1039,1043]⟩ (yc 27 (yz [7,8] [zm 29 0,
 zw 30 false 111 [a0 29],zm 28 30,ze 31 28 0,ze 32 28 1,ye 7 [.aK,z0,z0,z0,z0,z0,.aK,.aK,z0],ye 8 [z0,z0,.aK,.aK],zd 7 ku 7 31,zd 8 fL 8 32] ⟨[0,2,4,5,6,7,8],[2,4,7,8],[1039,1043]⟩ (.region [.kE 4 2 1039 10,.norm 5 1043 4] [5039,5043] [zf 33 2 4,zj 34 4 33,zm 35 6,zs 36 7 9 7,zo 37 (.build [z0,.aK,z0,z0,z0,z0,z0,.aK,.aK,z0] [(0,1,(.t 35)),(1,9,(.t 36))]),zo 38 (.lit none vI [z0,.slice none 2 [],
 z0,z0,z0,z0,z0,.slice none 6 [],.slice none 3 [],z0] 1 [(0,(.t 37))]),zo 39 (.app 5039 (some 1039) vI 1099511627776 (.t 34) (.t 38)),zm 40 5,zs 41 8 4 8,zo 42 (.lit none fL [z0,z0,.slice none 3 [],.slice none 2 []] 1 [(0,(.t 41))]),zo 43 (.app 5043 (some 1043) fL 2199023255552 (.t 40) (.t 42)),zf 44 2 4,zd 4 [some 10] 44 39,zm 5 43] ⟨[0,2,4,5,6],[2,4],[1039,1043]⟩))))) (zr [zm 23 6,
 zv .add 24 23 1,zm 6 24] ⟨[0,2,4,5,6],[2,4],[1039,1043]⟩))
def aaz:VC:=.loop [.kE 4 2 1039 10,.norm 5 1043 4] ⟨[0,2,4,5,6],[2,4],[1039,1043]⟩ Dy
abbrev aaA(x0:V)(x5:V)(x6:Int)(o2:List V)(o4:List V)(KI:Nat)(aaB:Nat)(G:List aW):St:=⟨[(0,x0),(2,.bK 2 0),(4,.bK 4 0),(5,x5),(6,.int .i64 x6)],[(2,o2),(4,o4)],[(1039,KI),(1043,aaB)],G⟩
def KJ:bq where
 nparams:=1
 results:=[.c 2 true iJ,.t 3 [some 4]]
 body :=
 yz [2] [ye 2 [z0,.aK,.aK],zy 3] ⟨[0,2],[2],[1039]⟩ (yz [4] [zm 9 0,zw 10 false 110 [a0 9],zo 11 (.build [z0,.aK,.aK] [(0,2,(.t 10))]),ye 4 [z0,.aK,.aK],zd 4 iJ 4 11] ⟨[0,2,4],[2,4],[1039]⟩ (zz [zy 5] ⟨[0,2,4,5],[2,4],[1039,1043]⟩ (.seq (zz [zh 6 0] ⟨[0,2,4,5,6],[2,4],[1039,1043]⟩ (.block 0 (aaz))) (zz [zs 45 4 3 4,zm 46 5,zd 2 iJ 2 45,zm 3 46] ⟨[2,3],[2],[1039,1043]⟩ (.ret)))))
def aaC:VC :=
 .seq (zz [zm 21 9,zv .gtr 22 21 0] ⟨[0,4,6,7,9,22],[4,6,7],[]⟩ (.cond (.t 22) (.skip) (.exit 0))) (.seq (.block 1 (yz [10,11] [zs 26 4 3 4,zs 27 7 3 7,zm 28 0,zs 29 4 3 4,zw 30 false 16 [a0 28,(iJ,(.t 29))],zw 31 true 42 [(iJ,(.t 26)),(e7,(.t 27)),(uJ,(.t 30))],zm 25 31,ze 32 25 0,ze 33 25 1,ze 34 25 2,ye 10 [z0,.aK,.aK],ye 11 [.aK,.aK,.aK],zd 10 e7 10 32,zd 11 lF 11 33,zm 12 34] ⟨[0,4,6,7,9,10,
 12],[4,6,7,10],[]⟩ (zz [zm 35 12,zv .eql 36 35 0] ⟨[0,4,6,7,9,10,36],[4,6,7,10],[]⟩ (yc 36 (zr [zs 37 10 3 10,zd 7 e7 7 37] ⟨[0,4,6,7,9],[4,6,7],[]⟩))))) (zr [zm 23 9,zv .sub 24 23 1,zm 9 24] ⟨[0,4,6,7,9],[4,6,7],[]⟩))
def aaD:VC:=.loop [] ⟨[0,4,6,7,9],[4,6,7],[]⟩ aaC
abbrev aoV(x0:V)(x9:Int)(o4:List V)(o6:List V)(o7:List V)(G:List aW):St:=⟨[(0,x0),(4,.bK 4 0),(6,.bK 6 0),(7,.bK 7 0),(9,.int .i64 x9)],[(4,o4),(6,o6),(7,o7)],[],G⟩
def Ru:bq where
 nparams:=3
 results:=[.c 6 true e7]
 body :=
 yz [4,6] [zu 4 1,ye 6 [z0,.aK,.aK]] ⟨[0,2,4,6],[4,6],[]⟩ (yz [7] [zs 14 4 3 4,zm 15 2,zw 16 true 32 [(iJ,(.t 14)),ad 4 15],zm 13 16,ze 17 13 0,ze 18 13 1,ye 7 [z0,.aK,.aK],zd 7 e7 7 17,zm 8 18] ⟨[0,4,6,7],[4,6,7],[]⟩ (.seq (zz [zm 19 0,zw 20 false 23 [a0 19,ac 6],zm 9 20] ⟨[0,4,6,7,9],[4,6,7],[]⟩ (.block 0 (aaD))) (zz [zs 38 7 3 7,zd 6 e7 6 38] ⟨[6],[6],[]⟩ (.ret))))
def Dz:bq where
 nparams:=2
 results:=[.t 4 [none]]
 body :=
 yz [2,3] [zu 2 0,zu 3 1,zh 4 0] ⟨[2,3],[2,3],[]⟩ (.seq (zz [zs 6 2 3 2,zw 7 true 26 [(iJ,(.t 6))],zm 5 7] ⟨[2,3,5],[2,3],[]⟩ (zz [zm 8 5,zv .neq 9 8 0] ⟨[2,3,5,9],[2,3],[]⟩ (yc 9 (zz [zm 10 5,zm 4 10] ⟨[4],[],[]⟩ (.ret))))) (.seq (zz [zs 11 2 3 2,zs 12 3 3 3,zw 13 true 70 [(iJ,(.t 11)),(e7,(.t 12))],zo 14 (.un .not (.t 13))] ⟨[14],[],[]⟩ (yc 14 (zz [zh 4 50] ⟨[4],[],
 []⟩ (.ret)))) (zz [zh 4 0] ⟨[4],[],[]⟩ (.ret))))
def Rw:VC :=
 zz [zb .lss 58 57 56] ⟨[6,7,9,56,57,58],[6,7],[]⟩ (zx 58 1 (.seq (.block 2 (zz [zm 59 57,zm 10 59] ⟨[6,7,9,10,56,57],[6,7],[]⟩ (zz [zm 60 9,zm 61 10,zw 62 false 113 [a0 60,a0 61],zm 11 62] ⟨[6,7,9,11,56,57],[6,7],[]⟩ (zz [zm 63 11,zv .neq 64 63 0] ⟨[6,7,9,11,56,57,64],[6,7],[]⟩ (yc 64 (zz [zo 65 (.build [z0,.aK,.aK] []),zo 66 (.build [.aK,.aK,.aK] []),zm 67 11,zd 6 e7 6 65,zd 7 lF 7 66,
 zm 8 67] ⟨[6,7,8],[6,7],[]⟩ (.ret))))))) (zr [zv .add 68 57 1,zm 57 68] ⟨[6,7,9,56,57],[6,7],[]⟩)))
def aaE:VC:=.loop [] ⟨[6,7,9,56,57],[6,7],[]⟩ Rw
abbrev aaF(x9:V)(x56:Int)(yL:Int)(o6:List V)(o7:List V)(G:List aW):St:=⟨[(6,.bK 6 0),(7,.bK 7 0),(9,x9),(56,.int .i64 x56),(57,.int .i64 yL)],[(6,o6),(7,o7)],[],G⟩
def A7:bq where
 nparams:=3
 results:=[.c 6 true e7,.c 7 true lF,.t 8 [none]]
 body :=
 yz [3,4,5,6,7] [zu 3 0,zu 4 1,zu 5 2,ye 6 [z0,.aK,.aK],ye 7 [.aK,.aK,.aK],zh 8 0] ⟨[3,4,5,6,7],[3,4,5,6,7],[]⟩ (.seq (.block 0 (zz [zs 13 3 3 3,zs 14 5 3 5,zw 15 true 87 [(iJ,(.t 13)),(uJ,(.t 14))],zo 16 (.un .not (.t 15)),zm 12 16] ⟨[3,4,5,6,7,12],[3,4,5,6,7],[]⟩ (.cond (.t 12) (zz [zo 17 (.build [z0,.aK,.aK] []),zo 18 (.build [.aK,.aK,.aK] []),zd 6 e7 6 17,zd 7 lF 7 18,zh 8 3] ⟨[6,7,8],[6,7],
 []⟩ (.ret)) (zz [zf 20 0 5,zj 21 5 20,zf 22 1 5,zj 23 5 22,zf 24 2 5,zj 25 5 24,zo 26 (.lit none [some 1] [.slice none 1 []] 3 [(0,(.t 21)),(1,(.t 23)),(2,(.t 25))]),zw 27 true 89 [ad 1 26],zw 28 false 88 [ad 1 27,([none],(.c (.fn 112 [])))],zm 19 28] ⟨[3,4,5,6,7,19],[3,4,5,6,7],[]⟩ (.cond (.t 19) (zz [zo 29 (.build [z0,.aK,.aK] []),zo 30 (.build [.aK,.aK,.aK] []),zd 6 e7 6 29,zd 7 lF 7 30,
 zh 8 1] ⟨[6,7,8],[6,7],[]⟩ (.ret)) (zz [zf 32 0 4,zj 33 4 32,zv .eql 34 33 16777216,zm 31 34] ⟨[3,4,5,6,7,31],[3,4,5,6,7],[]⟩ (yc 31 (zz [zo 35 (.build [z0,.aK,.aK] []),zo 36 (.build [.aK,.aK,.aK] []),zd 6 e7 6 35,zd 7 lF 7 36,zh 8 6] ⟨[6,7,8],[6,7],[]⟩ (.ret))))))))) (yz [27051] [zf 37 0 4,zj 38 4 37,zv .add 39 38 1,zf 40 1 4,zj 41 4 40,zw 42 false 76 [ad 4 41],zf 43 2 4,zj 44 4 43,
 zw 45 false 79 [ad 1 44],zo 46 (.build [z0,.aK,.aK] [(0,1,(.t 39)),(1,1,(.t 42)),(2,1,(.t 45))]),zs 47 3 3 3,zs 48 5 3 5,zf 49 0 5,zj 50 5 49,zo 51 (.pG (.c (.fn 91 [])) [ad 1 50] 27051),zo 52 (.build [z0,.aK,.aK,z0,.aK,.aK,.aK,.aK,.aK,.aK,.aK,.aK,.aK] [(0,3,(.t 46)),(3,3,(.t 47)),(6,3,(.t 48)),(9,1,(.t 51))]),zo 53 (.ou [none,some 4,some 1,none,some 4,some 10,some 1,some 1,some 1,some 1,some 7,
 some 1,some 1] (.t 52)),zm 9 53] ⟨[3,6,7,9],[3,6,7],[]⟩ (.seq (zz [zf 54 0 3,zf 55 0 54,zj 56 3 55,zh 57 0] ⟨[6,7,9,56,57],[6,7],[]⟩ (.block 1 (aaE))) (zz [zm 69 9,zk 70 69,zf 71 0 70,zo 72 (.load .az (some 3) (.t 71)),zm 73 9,zk 74 73,zf 75 10 74,zo 76 (.load .az (some 3) (.t 75)),zd 6 e7 6 72,zd 7 lF 7 76,zh 8 0] ⟨[6,7,8],[6,7],[]⟩ (.ue [.wA 6 [fL,[some 1]]])))))
def Rx:VC :=
 zz [zb .lss 18 17 16] ⟨[1,15,16,17,18],[1],[]⟩ (zx 18 0 (.seq (.block 1 (yz [4] [zm 19 17,za 20 4 15 17,yg 21 4 20,ye 4 [z0,z0,.aK,z0],zm 3 19,zd 4 tD 4 21] ⟨[1,3,4,15,16,17],[1,4],[]⟩ (.seq (zz [zf 22 0 4,zj 23 4 22,zf 24 0 1,zj 25 1 24,zv .sub 26 25 1,zw 27 true 57 [a0 23,a0 26],zo 28 (.un .not (.t 27)),zm 29 28,yf 30 29 false 1 4,yj 31 29 false 4 30,yf 32 29 false 0 1,yj 33 29 false 1 32,
 yv .sub 34 29 false 33 1,yw 35 29 false true 57 [a0 31,a0 34],zq 36 29 false (.un .not (.t 35)),yp 37 29 true 36] ⟨[1,3,4,15,16,17,37],[1,4],[]⟩ (yc 37 (zz [zh 2 11] ⟨[2],[],[]⟩ (.ret)))) (.seq (zz [zf 38 1 4,zj 39 4 38,zf 40 0 4,zj 41 4 40,zb .leq 42 39 41] ⟨[1,3,4,15,16,17,42],[1,4],[]⟩ (yc 42 (zz [zh 2 12] ⟨[2],[],[]⟩ (.ret)))) (.seq (zz [zm 43 3,zv .gtr 44 43 0,zm 45 44,yf 46 45 true 0 4,
 yj 47 45 true 4 46,yf 48 45 true 1 1,yj 49 45 true 1 48,ym 50 45 true 3,yv .sub 51 45 true 50 1,ya 52 45 true 4 49 51,yf 53 45 true 0 52,yi 54 45 true 53,yb .leq 55 45 true 47 54,zp 56 45 55 false] ⟨[1,4,15,16,17,56],[1,4],[]⟩ (yc 56 (zz [zh 2 4] ⟨[2],[],[]⟩ (.ret)))) (zz [zf 57 2 4,zs 58 4 2 57,zw 59 true 114 [(mQ,(.t 58))],zm 5 59] ⟨[1,5,15,16,17],[1],[]⟩ (zz [zm 60 5,zv .neq 61 60 0] ⟨[1,5,15,
 16,17,61],[1],[]⟩ (yc 61 (zz [zm 62 5,zm 2 62] ⟨[2],[],[]⟩ (.ret)))))))))) (zr [zv .add 63 17 1,zm 17 63] ⟨[1,15,16,17],[1],[]⟩)))
def aaH:VC:=.loop [] ⟨[1,15,16,17],[1],[]⟩ Rx
abbrev aaI(mz:V)(tK:Int)(tL:Int)(o1:List V)(G:List aW):St:=⟨[(1,.bK 1 0),(15,mz),(16,.int .i64 tK),(17,.int .i64 tL)],[(1,o1)],[],G⟩
def DA:bq where
 nparams:=1
 results:=[.t 2 [none]]
 body :=
 yz [1] [zu 1 0,zh 2 0] ⟨[1],[1],[]⟩ (.seq (zz [zf 6 0 1,zj 7 1 6,zv .lss 8 7 1,zm 9 8,yf 10 9 false 0 1,yj 11 9 false 1 10,yv .gtr 12 9 false 11 40,yp 13 9 true 12] ⟨[1,13],[1],[]⟩ (yc 13 (zz [zh 2 3] ⟨[2],[],[]⟩ (.ret)))) (.seq (zz [zf 14 1 1,zj 15 1 14,zl 16 15,zh 17 0] ⟨[1,15,16,17],[1],[]⟩ (.block 0 (aaH))) (zz [zh 2 0] ⟨[2],[],[]⟩ (.ret))))
def KK:bq where
 nparams:=2
 results:=[.t 4 [none]]
 body :=
 zz [zt 4 false] ⟨[0,1],[],[]⟩ (zz [zm 5 0,zm 6 1,zw 7 true 115 [a0 5,a0 6],zm 4 7] ⟨[4],[],[]⟩ (.ret))
def F7:bq where
 nparams:=2
 results:=[.t 4 [none],.t 5 [none]]
 body :=
 yz [2,3] [zu 2 0,zu 3 1,zh 4 0,zh 5 0] ⟨[2,3],[2,3],[]⟩ (.seq (zz [zs 7 2 9 2,zs 8 3 4 3,zw 9 true 116 [(ku,(.t 7)),(fL,(.t 8))],zm 6 9] ⟨[2,3,6],[2,3],[]⟩ (zz [zm 10 6,zv .neq 11 10 0] ⟨[2,3,6,11],[2,3],[]⟩ (yc 11 (zz [zm 12 6,zh 4 0,zm 5 12] ⟨[4,5],[],[]⟩ (.ret))))) (zz [zf 13 0 2,zs 14 2 6 13,zf 15 0 3,zj 16 3 15,zw 17 true 117 [(pY,(.t 14)),a0 16],ze 18 17 0,ze 19 17 1,zm 4 18,zm 5 19] ⟨[4,
 5],[],[]⟩ (.ret)))
def F8:bq where
 nparams:=2
 results:=[.t 4 [none],.t 5 [none]]
 body :=
 yz [2] [zu 2 0,zh 4 0,zh 5 0] ⟨[1,2],[2],[]⟩ (.seq (zz [zs 9 2 6 2,zm 10 1,zw 11 true 118 [(pY,(.t 9)),a0 10],zm 6 11] ⟨[1,2,6],[2],[]⟩ (zz [zm 12 6,zv .neq 13 12 0] ⟨[1,2,6,13],[2],[]⟩ (yc 13 (zz [zm 14 6,zh 4 0,zm 5 14] ⟨[4,5],[],[]⟩ (.ret))))) (zz [zf 16 0 2,zj 17 2 16,zm 18 1,zw 19 true 119 [ad 2 17,a0 18],zm 15 19,ze 20 15 0,ze 21 15 1,zm 7 20,zm 8 21] ⟨[7],[],[]⟩ (zz [zm 22 7,zm 4 22,
 zh 5 0] ⟨[4,5],[],[]⟩ (.ret))))
def Ry:VC :=
 zz [zb .lss 46 45 44] ⟨[12,43,44,45,46],[],[1063]⟩ (zx 46 0 (.seq (.block 1 (yz [14] [za 47 3 43 45,yg 48 3 47,ye 14 [z0,z0,.bool false],zd 14 e9 14 48] ⟨[12,14,43,44,45],[14],[1063]⟩ (yz [15] [zf 49 1 14,zj 50 14 49,zv .add 51 50 1,zo 52 (.mm false (zc 1000) (.t 51)),zf 53 2 14,zj 54 14 53,zo 55 (.build [z0,z0,.bool false] [(1,1,(.t 52)),(2,1,(.t 54))]),ye 15 [z0,z0,.bool false],
 zd 15 e9 15 55] ⟨[12,14,15,43,44,45],[14,15],[1063]⟩ (.seq (zz [zf 56 0 14,zj 57 14 56,zv .gtr 58 57 0] ⟨[12,15,43,44,45,58],[15],[1063]⟩ (yc 58 (zr [zf 59 1 15,zn (.store (.loc 15) [none] (.t 59) (zc 1))] ⟨[12,15,43,44,45],[15],[1063]⟩))) (.region [.norm 12 1063 3] [5063] [zm 60 12,zs 61 15 3 15,zo 62 (.lit none e9 [z0,z0,.bool false] 1 [(0,(.t 61))]),
 zo 63 (.app 5063 (some 1063) e9 5864062014805 (.t 60) (.t 62)),zm 12 63] ⟨[12,43,44,45],[],[1063]⟩))))) (zr [zv .add 64 45 1,zm 45 64] ⟨[12,43,44,45],[],[1063]⟩)))
def aaJ:VC:=.loop [.norm 12 1063 3] ⟨[12,43,44,45],[],[1063]⟩ Ry
abbrev aaK(mw:V)(x43:V)(KL:Int)(DB:Int)(KM:Nat)(G:List aW):St:=⟨[(12,mw),(43,x43),(44,.int .i64 KL),(45,.int .i64 DB)],[],[(1063,KM)],G⟩
def Rz:VC :=
 zz [zb .lss 81 80 79] ⟨[4,10,12,16,17,18,78,79,80,81],[4],[1063]⟩ (zx 81 2 (.seq (.block 3 (yz [21] [zm 82 80,za 83 6 78 80,yg 84 6 83,ye 21 [.aK,z0,z0,.aK,z0,z0],zm 20 82,zd 21 eF 21 84] ⟨[4,10,12,16,17,18,20,21,78,79,80],[4,21],[1063]⟩ (yz [22] [zs 86 21 6 21,zf 87 2 4,zj 88 4 87,zm 89 20,za 90 3 88 89,yg 91 3 90,zm 92 10,zm 93 20,za 94 1 92 93,zi 95 94,zw 96 true 122 [(eF,(.t 86)),(e9,
 (.t 91)),a0 95],zm 85 96,ze 97 85 0,ze 98 85 1,ze 99 85 2,ye 22 [z0,z0,.bool false],zd 22 e9 22 97,zm 23 98,zm 24 99] ⟨[4,10,12,16,17,18,22,78,79,80],[4,22],[1063]⟩ (.region [.norm 12 1063 3] [5103] [zm 100 12,zs 101 22 3 22,zo 102 (.lit none e9 [z0,z0,.bool false] 1 [(0,(.t 101))]),zo 103 (.app 5103 (some 1063) e9 5864062014805 (.t 100) (.t 102)),zm 12 103] ⟨[4,10,12,16,17,18,78,79,80],[4],
 [1063]⟩)))) (zr [zv .add 104 80 1,zm 80 104] ⟨[4,10,12,16,17,18,78,79,80],[4],[1063]⟩)))
def aaM:VC:=.loop [.norm 12 1063 3] ⟨[4,10,12,16,17,18,78,79,80],[4],[1063]⟩ Rz
abbrev aaN(lG:V)(mw:V)(tK:Int)(tL:Int)(yQ:Int)(x78:V)(x79:Int)(KN:Int)(o4:List V)(KM:Nat)(G:List aW):St:=⟨[(4,.bK 4 0),(10,lG),(12,mw),(16,.int .i64 tK),(17,.int .i64 tL),(18,.int .i64 yQ),(78,x78),(79,.int .i64 x79),(80,.int .i64 KN)],[(4,o4)],[(1063,KM)],G⟩
def F9:bq where
 nparams:=3
 results:=[.t 6 [some 3],.t 7 [none],.t 8 [none],.t 9 [none]]
 body :=
 yz [3,4] [zu 3 0,zu 4 1,zy 6,zh 7 0,zh 8 0,zh 9 0] ⟨[2,3,4],[3,4],[]⟩ (zz [zf 26 6 3,zj 27 3 26,zf 28 2 4,zj 29 4 28,zf 30 8 3,zj 31 3 30,zm 32 2,zf 33 8 3,zj 34 3 33,zo 35 (.bin .mul (zc 200) (.t 34)),zo 36 (.mm false (.t 32) (.t 35)),zw 37 true 120 [ad 6 27,ad 3 29,a0 31,a0 36],zm 25 37,ze 38 25 0,ze 39 25 1,zm 10 38,zm 11 39] ⟨[3,4,10,11],[3,4],[]⟩ (zz [zy 12] ⟨[3,4,10,11,12],[3,4],
 [1063]⟩ (.seq (zz [zm 40 11,zv .neq 41 40 0] ⟨[3,4,10,12,41],[3,4],[1063]⟩ (yc 41 (.seq (zz [zf 42 2 4,zj 43 4 42,zl 44 43,zh 45 0] ⟨[12,43,44,45],[],[1063]⟩ (.block 0 (aaJ))) (zz [zm 65 12,zm 6 65,zh 7 0,zh 8 0,zh 9 0] ⟨[6,7,8,9],[],[1063]⟩ (.ret))))) (zz [zf 67 6 3,zj 68 3 67,zf 69 2 4,zj 70 4 69,zm 71 10,zw 72 true 121 [ad 6 68,ad 3 70,ad 1 71],zm 66 72,ze 73 66 0,ze 74 66 1,ze 75 66 2,
 ze 76 66 3,zm 16 73,zm 17 74,zm 18 75,zm 19 76] ⟨[3,4,10,12,16,17,18],[3,4],[1063]⟩ (.seq (zz [zf 77 6 3,zj 78 3 77,zl 79 78,zh 80 0] ⟨[4,10,12,16,17,18,78,79,80],[4],[1063]⟩ (.block 2 (aaM))) (zz [zm 105 12,zm 106 16,zm 107 17,zm 108 18,zm 6 105,zm 7 106,zm 8 107,zm 9 108] ⟨[6,7,8,9],[],[1063]⟩ (.ret)))))))
def Gb:VC :=
 .seq (zz [zm 57 12,zm 58 14,za 59 1 57 58,zj 60 20031 59,zm 61 13,zm 62 14,za 63 1 61 62,zi 64 63,zb .lss 65 60 64,zm 66 65,ym 67 66 true 0,ym 68 66 true 12,ym 69 66 true 2,zq 70 66 true (.pe (.c (.fn 125 [])) [(iK,[some 3],(.t 67)),([none],[some 1],(.t 68)),([],[none],(.t 69))] [20031]),ym 71 66 true 3,yb .lss 72 66 true 70 71,zp 73 66 72 false] ⟨[0,1,2,3,12,13,14,73],[20031],
 []⟩ (.cond (.t 73) (.skip) (.exit 2))) (.block 3 (zr [zm 74 12,zm 75 14,za 76 1 74 75,zj 77 20031 76,zv .add 78 77 1,za 79 1 74 75,zd 20031 [none] 79 78] ⟨[0,1,2,3,12,13,14],[20031],[]⟩))
def aaQ:VC:=.loop [] ⟨[0,1,2,3,12,13,14],[20031],[]⟩ Gb
abbrev aaR(x0:V)(x1:V)(x2:Int)(x3:Int)(n12:Nat)(jB:V)(lH:Int)(DC:List V)(G:List aW):St:=⟨[(0,x0),(1,x1),(2,.int .i64 x2),(3,.int .i64 x3),(12,.cb 20031 1 n12),(13,jB),(14,.int .i64 lH)],[(20031,DC)],[],G⟩
def Gd:VC :=
 .seq (zz [zm 34 14,zm 35 0,zl 36 35,zb .lss 37 34 36,zm 38 37,ym 39 38 true 0,ym 40 38 true 12,ym 41 38 true 2,zq 42 38 true (.pe (.c (.fn 125 [])) [(iK,[some 3],(.t 39)),([none],[some 1],(.t 40)),([],[none],(.t 41))] [20031]),ym 43 38 true 3,yb .lss 44 38 true 42 43,zp 45 38 44 false] ⟨[0,1,2,3,12,13,14,45],[20031],[]⟩ (.cond (.t 45) (.skip) (.exit 0))) (.block 1 (.seq (zz [zm 46 12,zm 47 14,
 za 48 1 46 47,zj 49 20031 48,zm 50 13,zm 51 14,za 52 1 50 51,zi 53 52,zb .eql 54 49 53] ⟨[0,1,2,3,12,13,14,54],[20031],[]⟩ (yc 54 (zz [zm 55 14,zv .add 56 55 1,zm 14 56] ⟨[0,1,2,3,12,13,14],[20031],[]⟩ (.exit 1)))) (.block 2 (aaQ))))
def RA:VC:=.loop [] ⟨[0,1,2,3,12,13,14],[20031],[]⟩ Gd
abbrev aaS(x0:V)(x1:V)(x2:Int)(x3:Int)(n12:Nat)(jB:V)(lH:Int)(DC:List V)(G:List aW):St:=⟨[(0,x0),(1,x1),(2,.int .i64 x2),(3,.int .i64 x3),(12,.cb 20031 1 n12),(13,jB),(14,.int .i64 lH)],[(20031,DC)],[],G⟩
def Ge:VC :=
 zz [zb .lss 83 82 81] ⟨[0,2,12,15,80,81,82,83],[20031],[1096]⟩ (zx 83 4 (.seq (.block 5 (yz [17] [zm 84 82,za 85 2 80 82,yg 86 2 85,ye 17 [z0,.bool false],zm 16 84,zd 17 [none,none] 17 86] ⟨[0,2,12,15,16,17,80,81,82],[17,20031],[1096]⟩ (.region [.norm 15 1096 2] [5096] [zm 87 15,zm 88 12,zm 89 16,za 90 1 88 89,zj 91 20031 90,zf 92 1 17,zj 93 17 92,zo 94 (.build [z0,.bool false] [(0,1,(.t 91)),(1,
 1,(.t 93))]),zo 95 (.lit none [none,none] [z0,.bool false] 1 [(0,(.t 94))]),zo 96 (.app 5096 (some 1096) [none,none] 8796093022208 (.t 87) (.t 95)),zm 15 96] ⟨[0,2,12,15,80,81,82],[20031],[1096]⟩))) (zr [zv .add 97 82 1,zm 82 97] ⟨[0,2,12,15,80,81,82],[20031],[1096]⟩)))
def RB:VC:=.loop [.norm 15 1096 2] ⟨[0,2,12,15,80,81,82],[20031],[1096]⟩ Ge
abbrev RC(x0:V)(x2:Int)(n12:Nat)(mz:V)(KN:V)(x81:Int)(x82:Int)(DC:List V)(aaV:Nat)(G:List aW):St:=⟨[(0,x0),(2,.int .i64 x2),(12,.cb 20031 1 n12),(15,mz),(80,KN),(81,.int .i64 x81),(82,.int .i64 x82)],[(20031,DC)],[(1096,aaV)],G⟩
def A8:bq where
 nparams:=4
 results:=[.t 8 [some 2],.t 9 [none],.t 10 [none]]
 body :=
 zz [zy 8,zh 9 0,zh 10 0] ⟨[0,1,2,3],[],[]⟩ (.seq (zz [zm 18 0,zm 19 1,zm 20 2,zw 21 true 123 [ad 3 18,ad 2 19,a0 20],zm 11 21] ⟨[0,1,2,3,11],[],[]⟩ (zz [zm 22 11,zv .neq 23 22 0] ⟨[0,1,2,3,11,23],[],[]⟩ (yc 23 (zz [zm 24 11,zy 8,zh 9 0,zm 10 24] ⟨[8,9,10],[],[1096]⟩ (.ret))))) (.seq (zz [zm 25 3,zw 26 true 57 [a0 25,ac 1073741824],zo 27 (.un .not (.t 26))] ⟨[0,1,2,3,27],[],[]⟩ (yc 27 (zz [zy 8,
 zh 9 0,zh 10 1] ⟨[8,9,10],[],[1096]⟩ (.ret)))) (yz [20031] [zm 29 0,zm 30 1,zo 31 (.own (.c (.fn 124 [])) [ad 3 29,ad 2 30] 20031 0),zm 28 31,ze 32 28 0,ze 33 28 1,zm 12 32,zm 13 33] ⟨[0,1,2,3,12,13],[20031],[]⟩ (.seq (zz [zh 14 0] ⟨[0,1,2,3,12,13,14],[20031],[]⟩ (.block 0 (RA))) (zz [zy 15] ⟨[0,1,2,12,15],[20031],[1096]⟩ (.seq (zz [zm 80 1,zl 81 80,zh 82 0] ⟨[0,2,12,15,80,81,82],[20031],
 [1096]⟩ (.block 4 (RB))) (.seq (.region [.freeze 12 [none]] [] [zm 98 15,zm 99 0,zm 100 12,zm 101 2,zw 102 true 125 [ad 3 99,ad 1 100,a0 101],zm 8 98,zm 9 102,zh 10 0] ⟨[8,9,10],[],[1096]⟩) (.ret))))))))
def RE:VC :=
 zz [zb .lss 9 8 7] ⟨[3,6,7,8,9],[20023],[]⟩ (zx 9 0 (.seq (.block 1 (yz [5] [za 10 4 6 8,yg 11 4 10,ye 5 [z0,z0,.aK,.aK],zd 5 fL 5 11] ⟨[3,5,6,7,8],[5,20023],[1014,1018]⟩ (yz [1014] [zf 12 2 5,zj 13 5 12,zo 14 (.app 1014 none e9 5864062014805 (.c (.aK)) (.t 13)),zf 15 2 5,zd 5 [some 3] 15 14] ⟨[3,5,6,7,8],[5,20023],[1014,1018]⟩ (yz [1018] [zf 16 3 5,zj 17 5 16,zo 18 (.app 1018 none [none,
 none] 8796093022208 (.c (.aK)) (.t 17)),zf 19 3 5,zd 5 [some 2] 19 18] ⟨[3,5,6,7,8],[5,20023],[1014,1018]⟩ (.region [.ov 3 20023 4,.ic 20023 21023] [20023] [zm 20 3,zs 21 5 4 5,zo 22 (.lit none [none,none,some 0,some 0] [z0,z0,.slice none 0 [],.slice none 0 []] 1 [(0,(.t 21))]),zo 23 (.m9 20023 21023 fL (.t 20) (.t 22)),zm 3 23] ⟨[3,6,7,8],[20023],[]⟩))))) (zr [zv .add 24 8 1,zm 8 24] ⟨[3,6,7,8],
 [20023],[]⟩)))
def aaY:VC:=.loop [.ov 3 20023 4] ⟨[3,6,7,8],[20023],[]⟩ RE
abbrev aaZ(n3:Nat)(x6:V)(x7:Int)(x8:Int)(Dj:List V)(G:List aW):St:=⟨[(3,.cb 20023 4 n3),(6,x6),(7,.int .i64 x7),(8,.int .i64 x8)],[(20023,Dj)],[],G⟩
def KP:bq where
 nparams:=1
 results:=[.t 2 [some 4]]
 body :=
 zz [zy 2] ⟨[0],[],[]⟩ (zz [zy 3] ⟨[0,3],[20023],[]⟩ (.seq (zz [zm 6 0,zl 7 6,zh 8 0] ⟨[3,6,7,8],[20023],[]⟩ (.block 0 (aaY))) (.seq (.region [.share 3 fL] [] [zm 25 3,zm 2 25] ⟨[2],[20023],[]⟩) (.ret))))
def KQ:bq where
 nparams:=2
 results:=[.t 4 [none]]
 body :=
 zz [zh 4 0] ⟨[0,1],[],[]⟩ (zz [zm 5 0,zm 6 1,zb .rem 7 5 6,zm 8 1,zb .add 9 7 8,zm 10 1,zb .rem 11 9 10,zm 4 11] ⟨[4],[],[]⟩ (.ret))
def RF:VC :=
 zz [zb .lss 18 17 16] ⟨[1,15,16,17,18],[1],[]⟩ (zx 18 0 (.seq (.block 1 (yz [4] [zm 19 17,za 20 4 15 17,yg 21 4 20,ye 4 [z0,z0,.aK,z0],zm 3 19,zd 4 tD 4 21] ⟨[1,3,4,15,16,17],[1,4],[]⟩ (.seq (.block 2 (zz [zs 23 1 2 1,zf 24 0 4,zj 25 4 24,zw 26 true 126 [(tE,(.t 23)),a0 25],zo 27 (.un .not (.t 26)),zm 28 27,ys 29 28 false 1 2 1,yf 30 28 false 1 4,yj 31 28 false 4 30,yw 32 28 false true 126 [(tE,
 (.t 29)),a0 31],zq 33 28 false (.un .not (.t 32)),yp 34 28 true 33,zm 22 34] ⟨[1,3,4,15,16,17,22],[1,4],[]⟩ (.cond (.t 22) (zz [zh 2 11] ⟨[2],[],[]⟩ (.ret)) (zz [zf 36 1 4,zj 37 4 36,zf 38 0 4,zj 39 4 38,zb .leq 40 37 39,zm 35 40] ⟨[1,3,4,15,16,17,35],[1,4],[]⟩ (.cond (.t 35) (zz [zh 2 12] ⟨[2],[],[]⟩ (.ret)) (zz [zm 42 3,zv .gtr 43 42 0,zm 44 43,yf 45 44 true 0 4,yj 46 44 true 4 45,
 yf 47 44 true 1 1,yj 48 44 true 1 47,ym 49 44 true 3,yv .sub 50 44 true 49 1,ya 51 44 true 4 48 50,yf 52 44 true 0 51,yi 53 44 true 52,yb .leq 54 44 true 46 53,zp 55 44 54 false,zm 41 55] ⟨[1,4,15,16,17,41],[1,4],[]⟩ (yc 41 (zz [zh 2 4] ⟨[2],[],[]⟩ (.ret))))))))) (zz [zf 56 2 4,zs 57 4 2 56,zw 58 true 127 [(mQ,(.t 57))],zm 5 58] ⟨[1,5,15,16,17],[1],[]⟩ (zz [zm 59 5,zv .neq 60 59 0] ⟨[1,5,15,16,
 17,60],[1],[]⟩ (yc 60 (zz [zm 61 5,zm 2 61] ⟨[2],[],[]⟩ (.ret)))))))) (zr [zv .add 62 17 1,zm 17 62] ⟨[1,15,16,17],[1],[]⟩)))
def aa0:VC:=.loop [] ⟨[1,15,16,17],[1],[]⟩ RF
abbrev aa1(mz:V)(tK:Int)(tL:Int)(o1:List V)(G:List aW):St:=⟨[(1,.bK 1 0),(15,mz),(16,.int .i64 tK),(17,.int .i64 tL)],[(1,o1)],[],G⟩
def DD:bq where
 nparams:=1
 results:=[.t 2 [none]]
 body :=
 yz [1] [zu 1 0,zh 2 0] ⟨[1],[1],[]⟩ (.seq (zz [zf 6 0 1,zj 7 1 6,zv .lss 8 7 1,zm 9 8,yf 10 9 false 0 1,yj 11 9 false 1 10,yv .gtr 12 9 false 11 40,yp 13 9 true 12] ⟨[1,13],[1],[]⟩ (yc 13 (zz [zh 2 3] ⟨[2],[],[]⟩ (.ret)))) (.seq (zz [zf 14 1 1,zj 15 1 14,zl 16 15,zh 17 0] ⟨[1,15,16,17],[1],[]⟩ (.block 0 (aa0))) (zz [zh 2 0] ⟨[2],[],[]⟩ (.ret))))
def RG:VC :=
 zz [zb .lss 30 29 28] ⟨[1,27,28,29,30],[1],[]⟩ (zx 30 0 (.seq (.block 1 (yz [5] [za 31 6 27 29,yg 32 6 31,ye 5 [.aK,z0,z0,.aK,z0,z0],zd 5 eF 5 32] ⟨[1,5,27,28,29],[1,5],[]⟩ (zz [zs 33 5 6 5,zw 34 true 129 [(eF,(.t 33))],zm 6 34] ⟨[1,6,27,28,29],[1],[]⟩ (zz [zm 35 6,zv .neq 36 35 0] ⟨[1,6,27,28,29,36],[1],[]⟩ (yc 36 (zz [zm 37 6,zm 2 37] ⟨[2],[],[]⟩ (.ret))))))) (zr [zv .add 38 29 1,zm 29 38] ⟨[1,
 27,28,29],[1],[]⟩)))
def aa2:VC:=.loop [] ⟨[1,27,28,29],[1],[]⟩ RG
abbrev aa3(tM:V)(vM:Int)(DE:Int)(o1:List V)(G:List aW):St:=⟨[(1,.bK 1 0),(27,tM),(28,.int .i64 vM),(29,.int .i64 DE)],[(1,o1)],[],G⟩
def RH:VC :=
 zz [zb .lss 43 42 41] ⟨[1,40,41,42,43],[1],[]⟩ (zx 43 2 (.seq (.block 3 (yz [8] [za 44 3 40 42,yg 45 3 44,ye 8 [.aK,z0,z0],zd 8 iK 8 45] ⟨[1,8,40,41,42],[1,8],[]⟩ (zz [zs 46 8 3 8,zw 47 true 130 [(iK,(.t 46))],zm 9 47] ⟨[1,9,40,41,42],[1],[]⟩ (zz [zm 48 9,zv .neq 49 48 0] ⟨[1,9,40,41,42,49],[1],[]⟩ (yc 49 (zz [zm 50 9,zm 2 50] ⟨[2],[],[]⟩ (.ret))))))) (zr [zv .add 51 42 1,zm 42 51] ⟨[1,40,41,42],
 [1],[]⟩)))
def aa4:VC:=.loop [] ⟨[1,40,41,42],[1],[]⟩ RH
abbrev aa5(yK:V)(DF:Int)(DG:Int)(o1:List V)(G:List aW):St:=⟨[(1,.bK 1 0),(40,yK),(41,.int .i64 DF),(42,.int .i64 DG)],[(1,o1)],[],G⟩
def A9:bq where
 nparams:=1
 results:=[.t 2 [none]]
 body :=
 yz [1] [zu 1 0,zh 2 0] ⟨[1],[1],[]⟩ (.seq (zz [zf 10 0 1,zs 11 1 6 10,zw 12 true 128 [(pY,(.t 11))],zm 3 12] ⟨[1,3],[1],[]⟩ (zz [zm 13 3,zv .neq 14 13 0] ⟨[1,3,14],[1],[]⟩ (yc 14 (zz [zm 15 3,zm 2 15] ⟨[2],[],[]⟩ (.ret))))) (.seq (zz [zf 16 6 1,zj 17 1 16,zl 18 17,zv .gtr 19 18 6,zm 20 19,yf 21 20 false 7 1,yj 22 20 false 1 21,yl 23 20 false 22,yv .gtr 24 20 false 23 8,yp 25 20 true 24] ⟨[1,25],
 [1],[]⟩ (yc 25 (zz [zh 2 10] ⟨[2],[],[]⟩ (.ret)))) (.seq (zz [zf 26 6 1,zj 27 1 26,zl 28 27,zh 29 0] ⟨[1,27,28,29],[1],[]⟩ (.block 0 (aa2))) (.seq (zz [zf 39 7 1,zj 40 1 39,zl 41 40,zh 42 0] ⟨[1,40,41,42],[1],[]⟩ (.block 2 (aa4))) (.seq (zz [zf 52 8 1,zj 53 1 52,zv .lss 54 53 1,zm 55 54,yf 56 55 false 8 1,yj 57 55 false 1 56,yv .gtr 58 55 false 57 1073741824,yp 59 55 true 58] ⟨[59],[],
 []⟩ (yc 59 (zz [zh 2 1] ⟨[2],[],[]⟩ (.ret)))) (zz [zh 2 0] ⟨[2],[],[]⟩ (.ret)))))))
def RI:VC :=
 zz [zb .lss 30 29 28] ⟨[1,27,28,29,30],[1],[]⟩ (zx 30 0 (.seq (.block 1 (yz [5] [za 31 6 27 29,yg 32 6 31,ye 5 [.aK,z0,z0,.aK,z0,z0],zd 5 eF 5 32] ⟨[1,5,27,28,29],[1,5],[]⟩ (zz [zs 33 5 6 5,zw 34 true 132 [(eF,(.t 33))],zm 6 34] ⟨[1,6,27,28,29],[1],[]⟩ (zz [zm 35 6,zv .neq 36 35 0] ⟨[1,6,27,28,29,36],[1],[]⟩ (yc 36 (zz [zm 37 6,zm 2 37] ⟨[2],[],[]⟩ (.ret))))))) (zr [zv .add 38 29 1,zm 29 38] ⟨[1,
 27,28,29],[1],[]⟩)))
def aa6:VC:=.loop [] ⟨[1,27,28,29],[1],[]⟩ RI
abbrev aa7(tM:V)(vM:Int)(DE:Int)(o1:List V)(G:List aW):St:=⟨[(1,.bK 1 0),(27,tM),(28,.int .i64 vM),(29,.int .i64 DE)],[(1,o1)],[],G⟩
def RJ:VC :=
 zz [zb .lss 43 42 41] ⟨[1,40,41,42,43],[1],[]⟩ (zx 43 2 (.seq (.block 3 (yz [8] [za 44 3 40 42,yg 45 3 44,ye 8 [.aK,z0,z0],zd 8 iK 8 45] ⟨[1,8,40,41,42],[1,8],[]⟩ (zz [zs 46 8 3 8,zw 47 true 133 [(iK,(.t 46))],zm 9 47] ⟨[1,9,40,41,42],[1],[]⟩ (zz [zm 48 9,zv .neq 49 48 0] ⟨[1,9,40,41,42,49],[1],[]⟩ (yc 49 (zz [zm 50 9,zm 2 50] ⟨[2],[],[]⟩ (.ret))))))) (zr [zv .add 51 42 1,zm 42 51] ⟨[1,40,41,42],
 [1],[]⟩)))
def aa8:VC:=.loop [] ⟨[1,40,41,42],[1],[]⟩ RJ
abbrev aa9(yK:V)(DF:Int)(DG:Int)(o1:List V)(G:List aW):St:=⟨[(1,.bK 1 0),(40,yK),(41,.int .i64 DF),(42,.int .i64 DG)],[(1,o1)],[],G⟩
def Ba:bq where
 nparams:=1
 results:=[.t 2 [none]]
 body :=
 yz [1] [zu 1 0,zh 2 0] ⟨[1],[1],[]⟩ (.seq (zz [zf 10 0 1,zs 11 1 6 10,zw 12 true 131 [(pY,(.t 11))],zm 3 12] ⟨[1,3],[1],[]⟩ (zz [zm 13 3,zv .neq 14 13 0] ⟨[1,3,14],[1],[]⟩ (yc 14 (zz [zm 15 3,zm 2 15] ⟨[2],[],[]⟩ (.ret))))) (.seq (zz [zf 16 6 1,zj 17 1 16,zl 18 17,zv .gtr 19 18 6,zm 20 19,yf 21 20 false 7 1,yj 22 20 false 1 21,yl 23 20 false 22,yv .gtr 24 20 false 23 8,yp 25 20 true 24] ⟨[1,25],
 [1],[]⟩ (yc 25 (zz [zh 2 10] ⟨[2],[],[]⟩ (.ret)))) (.seq (zz [zf 26 6 1,zj 27 1 26,zl 28 27,zh 29 0] ⟨[1,27,28,29],[1],[]⟩ (.block 0 (aa6))) (.seq (zz [zf 39 7 1,zj 40 1 39,zl 41 40,zh 42 0] ⟨[1,40,41,42],[1],[]⟩ (.block 2 (aa8))) (.seq (zz [zf 52 8 1,zj 53 1 52,zv .lss 54 53 1,zm 55 54,yf 56 55 false 8 1,yj 57 55 false 1 56,yv .gtr 58 55 false 57 1073741824,yp 59 55 true 58] ⟨[59],[],
 []⟩ (yc 59 (zz [zh 2 1] ⟨[2],[],[]⟩ (.ret)))) (zz [zh 2 0] ⟨[2],[],[]⟩ (.ret)))))))
def RK:VC :=
 zz [zb .lss 37 36 35] ⟨[3,34,35,36,37],[3],[]⟩ (zx 37 0 (.seq (.block 1 (yz [6] [zm 38 36,za 39 4 34 36,yg 40 4 39,ye 6 [z0,z0,.aK,z0],zm 5 38,zd 6 tD 6 40] ⟨[3,5,6,34,35,36],[3,6],[]⟩ (zz [zf 41 2 6,zs 42 6 2 41,zf 43 2 3,zj 44 3 43,zm 45 5,za 46 1 44 45,yg 47 1 46,zw 48 true 134 [(mQ,(.t 42)),ad 1 47],zo 49 (.un .not (.t 48))] ⟨[3,34,35,36,49],[3],[]⟩ (yc 49 (zz [zt 4 false] ⟨[4],[],
 []⟩ (.ret)))))) (zr [zv .add 50 36 1,zm 36 50] ⟨[3,34,35,36],[3],[]⟩)))
def aba:VC:=.loop [] ⟨[3,34,35,36],[3],[]⟩ RK
abbrev abb(DH:V)(yR:Int)(yS:Int)(o3:List V)(G:List aW):St:=⟨[(3,.bK 3 0),(34,DH),(35,.int .i64 yR),(36,.int .i64 yS)],[(3,o3)],[],G⟩
def yT:bq where
 nparams:=2
 results:=[.t 4 [none]]
 body :=
 yz [2,3] [zu 2 0,zu 3 1,zt 4 false] ⟨[2,3],[2,3],[]⟩ (.seq (zz [zf 7 0 3,zj 8 3 7,zv .lss 9 8 0,zm 10 9,yf 11 10 false 0 3,yj 12 10 false 3 11,yv .gtr 13 10 false 12 16777216,yp 14 10 true 13,zm 15 14,ys 16 15 false 2 3 2,yf 17 15 false 1 3,yj 18 15 false 3 17,yw 19 15 false true 74 [(iJ,(.t 16)),ad 4 18],zq 20 15 false (.un .not (.t 19)),yp 21 15 true 20,zm 22 21,yf 23 22 false 2 3,
 yj 24 22 false 3 23,yl 25 22 false 24,yf 26 22 false 0 2,yf 27 22 false 1 26,yj 28 22 false 2 27,yl 29 22 false 28,yb .neq 30 22 false 25 29,yp 31 22 true 30] ⟨[2,3,31],[2,3],[]⟩ (yc 31 (zz [zt 4 false] ⟨[4],[],[]⟩ (.ret)))) (.seq (zz [zf 32 0 2,zf 33 1 32,zj 34 2 33,zl 35 34,zh 36 0] ⟨[3,34,35,36],[3],[]⟩ (.block 0 (aba))) (zz [zt 4 true] ⟨[4],[],[]⟩ (.ret))))
def KR:bq where
 nparams:=2
 results:=[.t 4 [none]]
 body :=
 zz [zt 4 false] ⟨[0,1],[],[]⟩ (zz [zm 5 0,zv .geq 6 5 0,zm 7 6,ym 8 7 true 0,ym 9 7 true 1,yb .leq 10 7 true 8 9,zp 11 7 10 false,zm 4 11] ⟨[4],[],[]⟩ (.ret))
def RL:VC :=
 zz [zb .lss 56 55 54] ⟨[2,3,53,54,55,56],[2,3],[]⟩ (zx 56 0 (.seq (.block 1 (yz [8] [zm 57 55,za 58 6 53 55,yg 59 6 58,ye 8 [.aK,z0,z0,.aK,z0,z0],zm 7 57,zd 8 eF 8 59] ⟨[2,3,7,8,53,54,55],[2,3,8],[]⟩ (zz [zs 60 8 6 8,zf 61 2 3,zj 62 3 61,zm 63 7,za 64 3 62 63,yg 65 3 64,zw 66 true 135 [(eF,(.t 60)),(e9,(.t 65))],zo 67 (.un .not (.t 66))] ⟨[2,3,53,54,55,67],[2,3],[]⟩ (yc 67 (zz [zt 4 false] ⟨[4],
 [],[]⟩ (.ret)))))) (zr [zv .add 68 55 1,zm 55 68] ⟨[2,3,53,54,55],[2,3],[]⟩)))
def abc:VC:=.loop [] ⟨[2,3,53,54,55],[2,3],[]⟩ RL
abbrev abd(x53:V)(x54:Int)(x55:Int)(o2:List V)(o3:List V)(G:List aW):St:=⟨[(2,.bK 2 0),(3,.bK 3 0),(53,x53),(54,.int .i64 x54),(55,.int .i64 x55)],[(2,o2),(3,o3)],[],G⟩
def RM:VC :=
 zz [zb .lss 73 72 71] ⟨[3,70,71,72,73],[3],[]⟩ (zx 73 2 (.seq (.block 3 (yz [10] [zm 74 72,za 75 3 70 72,yg 76 3 75,ye 10 [.aK,z0,z0],zm 9 74,zd 10 iK 10 76] ⟨[3,9,10,70,71,72],[3,10],[]⟩ (zz [zs 77 10 3 10,zf 78 3 3,zj 79 3 78,zm 80 9,za 81 2 79 80,yg 82 2 81,zw 83 true 136 [(iK,(.t 77)),([none,none],(.t 82))],zo 84 (.un .not (.t 83))] ⟨[3,70,71,72,84],[3],[]⟩ (yc 84 (zz [zt 4 false] ⟨[4],[],
 []⟩ (.ret)))))) (zr [zv .add 85 72 1,zm 72 85] ⟨[3,70,71,72],[3],[]⟩)))
def abh:VC:=.loop [] ⟨[3,70,71,72],[3],[]⟩ RM
abbrev abi(De:V)(Df:Int)(Dg:Int)(o3:List V)(G:List aW):St:=⟨[(3,.bK 3 0),(70,De),(71,.int .i64 Df),(72,.int .i64 Dg)],[(3,o3)],[],G⟩
def p9:bq where
 nparams:=2
 results:=[.t 4 [none]]
 body :=
 yz [2,3] [zu 2 0,zu 3 1,zt 4 false] ⟨[2,3],[2,3],[]⟩ (.seq (zz [zs 11 2 9 2,zw 12 true 69 [(ku,(.t 11))],zv .neq 13 12 0,zm 14 13,yf 15 14 false 2 3,yj 16 14 false 3 15,yl 17 14 false 16,yf 18 14 false 6 2,yj 19 14 false 2 18,yl 20 14 false 19,yb .neq 21 14 false 17 20,yp 22 14 true 21,zm 23 22,yf 24 23 false 3 3,yj 25 23 false 3 24,yl 26 23 false 25,yf 27 23 false 7 2,yj 28 23 false 2 27,
 yl 29 23 false 28,yb .neq 30 23 false 26 29,yp 31 23 true 30,zm 32 31,yf 33 32 false 1 3,yj 34 32 false 3 33,yw 35 32 false true 57 [a0 34,ac 1073741824],zq 36 32 false (.un .not (.t 35)),yp 37 32 true 36] ⟨[2,3,37],[2,3],[]⟩ (yc 37 (zz [zt 4 false] ⟨[4],[],[]⟩ (.ret)))) (zz [zf 39 0 2,zs 40 2 6 39,zf 41 0 2,zf 42 5 41,zj 43 2 42,zw 44 true 59 [(pY,(.t 40)),a0 43],zm 38 44,ze 45 38 0,ze 46 38 1,
 zm 5 45,zm 6 46] ⟨[2,3,5],[2,3],[]⟩ (.seq (zz [zf 47 0 3,zj 48 3 47,zm 49 5,zw 50 true 57 [a0 48,a0 49],zo 51 (.un .not (.t 50))] ⟨[2,3,51],[2,3],[]⟩ (yc 51 (zz [zt 4 false] ⟨[4],[],[]⟩ (.ret)))) (.seq (zz [zf 52 6 2,zj 53 2 52,zl 54 53,zh 55 0] ⟨[2,3,53,54,55],[2,3],[]⟩ (.block 0 (abc))) (.seq (zz [zf 69 7 2,zj 70 2 69,zl 71 70,zh 72 0] ⟨[3,70,71,72],[3],
 []⟩ (.block 2 (abh))) (zz [zt 4 true] ⟨[4],[],[]⟩ (.ret)))))))
def KS:VC :=
 zz [zb .lss 38 37 36] ⟨[35,36,37,38],[],[]⟩ (zx 38 0 (.seq (.block 1 (zz [za 39 1 35 37,zi 40 39,zm 7 40] ⟨[7,35,36,37],[],[]⟩ (zz [zm 41 7,zw 42 true 57 [a0 41,ac 2251799813685248],zo 43 (.un .not (.t 42))] ⟨[35,36,37,43],[],[]⟩ (yc 43 (zz [zt 4 false] ⟨[4],[],[]⟩ (.ret)))))) (zr [zv .add 44 37 1,zm 37 44] ⟨[35,36,37],[],[]⟩)))
def RN:VC:=.loop [] ⟨[35,36,37],[],[]⟩ KS
abbrev abj(yR:V)(yS:Int)(vK:Int)(G:List aW):St:=⟨[(35,yR),(36,.int .i64 yS),(37,.int .i64 vK)],[],[],G⟩
def yU:bq where
 nparams:=2
 results:=[.t 4 [none]]
 body :=
 yz [2,3] [zu 2 0,zu 3 1,zt 4 false] ⟨[2,3],[2,3],[]⟩ (zz [zf 8 0 3,zj 9 3 8,zl 10 9,zm 5 10] ⟨[2,3,5],[2,3],[]⟩ (.seq (zz [zs 11 2 2 2,zw 12 true 114 [(mQ,(.t 11))],zv .neq 13 12 0,zm 14 13,ym 15 14 false 5,yf 16 14 false 0 2,yj 17 14 false 2 16,yl 18 14 false 17,yb .gtr 19 14 false 15 18,yp 20 14 true 19,zm 21 20,ym 22 21 false 5,yv .gtr 23 21 false 22 0,ym 24 21 false 23,yf 25 24 true 0 3,
 yj 26 24 true 3 25,ym 27 24 true 5,yv .sub 28 24 true 27 1,ya 29 24 true 1 26 28,yi 30 24 true 29,yv .eql 31 24 true 30 0,zq 32 21 false (.pick (.t 24) (.t 31) (.c (.bool false))),yp 33 21 true 32] ⟨[3,33],[3],[]⟩ (yc 33 (zz [zt 4 false] ⟨[4],[],[]⟩ (.ret)))) (.seq (zz [zf 34 0 3,zj 35 3 34,zl 36 35,zh 37 0] ⟨[35,36,37],[],[]⟩ (.block 0 (RN))) (zz [zt 4 true] ⟨[4],[],[]⟩ (.ret)))))
def RO:VC :=
 zz [zb .lss 17 16 15] ⟨[1,14,15,16,17],[],[]⟩ (zx 17 0 (.seq (.block 1 (yz [6] [zm 18 16,za 19 10 14 16,yg 20 10 19,ye 6 [z0,.aK,z0,z0,z0,z0,z0,.aK,.aK,z0],zm 5 18,zd 6 vI 6 20] ⟨[1,5,6,14,15,16],[6],[]⟩ (zz [zf 21 1 6,zs 22 6 9 21,zm 23 1,zm 24 5,za 25 4 23 24,yg 26 4 25,zw 27 true 137 [(ku,(.t 22)),(fL,(.t 26))],zo 28 (.un .not (.t 27))] ⟨[1,14,15,16,28],[],[]⟩ (yc 28 (zz [zt 4 false] ⟨[4],[],
 []⟩ (.ret)))))) (zr [zv .add 29 16 1,zm 16 29] ⟨[1,14,15,16],[],[]⟩)))
def abk:VC:=.loop [] ⟨[1,14,15,16],[],[]⟩ RO
abbrev abl(x1:V)(lH:V)(mz:Int)(tK:Int)(G:List aW):St:=⟨[(1,x1),(14,lH),(15,.int .i64 mz),(16,.int .i64 tK)],[],[],G⟩
def Gf:bq where
 nparams:=2
 results:=[.t 4 [none]]
 body :=
 yz [2] [zu 2 0,zt 4 false] ⟨[1,2],[2],[]⟩ (.seq (zz [zm 7 1,zl 8 7,zf 9 2 2,zj 10 2 9,zl 11 10,zb .neq 12 8 11] ⟨[1,2,12],[2],[]⟩ (yc 12 (zz [zt 4 false] ⟨[4],[],[]⟩ (.ret)))) (.seq (zz [zf 13 2 2,zj 14 2 13,zl 15 14,zh 16 0] ⟨[1,14,15,16],[],[]⟩ (.block 0 (abk))) (zz [zt 4 true] ⟨[4],[],[]⟩ (.ret))))
def Gg:bq where
 nparams:=1
 results:=[.t 2 [some 1],.t 3 [none]]
 body :=
 yz [1] [zu 1 0,zy 2,zh 3 0] ⟨[1],[1],[]⟩ (.seq (zz [zs 5 1 2 1,zw 6 true 67 [(tE,(.t 5))],zm 4 6] ⟨[1,4],[1],[]⟩ (zz [zm 7 4,zv .neq 8 7 0] ⟨[1,4,8],[1],[]⟩ (yc 8 (zz [zm 9 4,zy 2,zm 3 9] ⟨[2,3],[13],[]⟩ (.ret))))) (yz [13] [zf 10 1 1,zj 11 1 10,zl 12 11,zo 13 (.mf 13 [.aK] (.t 12)),zm 2 13,zh 3 0] ⟨[2,3],[13],[]⟩ (.ue [.freeze 2 [some 1]])))
def RP:VC :=
 zz [zb .lss 9 8 7] ⟨[3,6,7,8,9],[20023],[]⟩ (zx 9 0 (.seq (.block 1 (yz [5] [za 10 4 6 8,yg 11 4 10,ye 5 [z0,z0,.aK,.aK],zd 5 fL 5 11] ⟨[3,5,6,7,8],[5,20023],[]⟩ (zz [zf 12 2 5,zj 13 5 12,zw 14 true 138 [ad 3 13],zf 15 3 5,zj 16 5 15,zw 17 true 139 [ad 2 16],zf 18 2 5,zd 5 [some 3] 18 14,zf 19 3 5,zd 5 [some 2] 19 17] ⟨[3,5,6,7,8],[5,20023],[]⟩ (.region [.ov 3 20023 4,
 .ic 20023 21023] [20023] [zm 20 3,zs 21 5 4 5,zo 22 (.lit none [none,none,some 0,some 0] [z0,z0,.slice none 0 [],.slice none 0 []] 1 [(0,(.t 21))]),zo 23 (.m9 20023 21023 fL (.t 20) (.t 22)),zm 3 23] ⟨[3,6,7,8],[20023],[]⟩)))) (zr [zv .add 24 8 1,zm 8 24] ⟨[3,6,7,8],[20023],[]⟩)))
def abm:VC:=.loop [.ov 3 20023 4] ⟨[3,6,7,8],[20023],[]⟩ RP
abbrev abn(n3:Nat)(x6:V)(x7:Int)(x8:Int)(Dj:List V)(G:List aW):St:=⟨[(3,.cb 20023 4 n3),(6,x6),(7,.int .i64 x7),(8,.int .i64 x8)],[(20023,Dj)],[],G⟩
def KT:bq where
 nparams:=1
 results:=[.t 2 [some 4]]
 body :=
 zz [zy 2] ⟨[0],[],[]⟩ (zz [zy 3] ⟨[0,3],[20023],[]⟩ (.seq (zz [zm 6 0,zl 7 6,zh 8 0] ⟨[3,6,7,8],[20023],[]⟩ (.block 0 (abm))) (.seq (.region [.share 3 fL] [] [zm 25 3,zm 2 25] ⟨[2],[20023],[]⟩) (.ret))))
def Gi:bq where
 nparams:=1
 results:=[.t 2 [some 1],.t 3 [none]]
 body :=
 yz [1] [zu 1 0,zy 2,zh 3 0] ⟨[1],[1],[]⟩ (.seq (zz [zs 5 1 2 1,zw 6 true 56 [(tE,(.t 5))],zm 4 6] ⟨[1,4],[1],[]⟩ (zz [zm 7 4,zv .neq 8 7 0] ⟨[1,4,8],[1],[]⟩ (yc 8 (zz [zm 9 4,zy 2,zm 3 9] ⟨[2,3],[13],[]⟩ (.ret))))) (yz [13] [zf 10 1 1,zj 11 1 10,zl 12 11,zo 13 (.mf 13 [.aK] (.t 12)),zm 2 13,zh 3 0] ⟨[2,3],[13],[]⟩ (.ue [.freeze 2 [some 1]])))
def RQ:VC :=
 zz [zb .lss 9 8 7] ⟨[3,6,7,8,9],[20018],[]⟩ (zx 9 0 (.seq (.block 1 (yz [5] [za 10 1 6 8,yg 11 1 10,ye 5 [.aK],zd 5 [some 1] 5 11] ⟨[3,5,6,7,8],[5,20018],[]⟩ (.region [.ov 3 20018 1,.ic 20018 21018] [20018] [zm 12 3,zf 13 0 5,zj 14 5 13,zw 15 true 91 [ad 1 14],zo 16 (.build [.aK] [(0,1,(.t 15))]),zo 17 (.lit none [some 0] [.slice none 0 []] 1 [(0,(.t 16))]),
 zo 18 (.m9 20018 21018 [some 1] (.t 12) (.t 17)),zm 3 18] ⟨[3,6,7,8],[20018],[]⟩))) (zr [zv .add 19 8 1,zm 8 19] ⟨[3,6,7,8],[20018],[]⟩)))
def abo:VC:=.loop [.ov 3 20018 1] ⟨[3,6,7,8],[20018],[]⟩ RQ
abbrev abp(n3:Nat)(x6:V)(x7:Int)(x8:Int)(abq:List V)(G:List aW):St:=⟨[(3,.cb 20018 1 n3),(6,x6),(7,.int .i64 x7),(8,.int .i64 x8)],[(20018,abq)],[],G⟩
def KU:bq where
 nparams:=1
 results:=[.t 2 [some 1]]
 body :=
 zz [zy 2] ⟨[0],[],[]⟩ (zz [zy 3] ⟨[0,3],[20018],[]⟩ (.seq (zz [zm 6 0,zl 7 6,zh 8 0] ⟨[3,6,7,8],[20018],[]⟩ (.block 0 (abo))) (.seq (.region [.share 3 [some 1]] [] [zm 20 3,zm 2 20] ⟨[2],[20018],[]⟩) (.ret))))
def arj:VC :=
 zz [zb .lss 18 17 16] ⟨[1,2,15,16,17,18],[],[]⟩ (zx 18 0 (.seq (.block 1 (yz [8] [zm 19 17,za 20 4 15 17,yg 21 4 20,ye 8 [z0,z0,.aK,.aK],zm 7 19,zd 8 fL 8 21] ⟨[1,2,7,8,15,16,17],[8],[]⟩ (yz [9] [zm 22 1,zm 23 7,za 24 4 22 23,yg 25 4 24,ye 9 [z0,z0,.aK,.aK],zd 9 fL 9 25] ⟨[1,2,8,9,15,16,17],[8,9],[]⟩ (zz [zm 26 2,zs 27 8 4 8,zs 28 9 4 9,zo 29 (.call false (.t 26) [(fL,(.t 27)),(fL,(.t 28))] []),
 zo 30 (.un .not (.t 29))] ⟨[1,2,15,16,17,30],[],[]⟩ (yc 30 (zz [zt 6 false] ⟨[6],[],[]⟩ (.ret))))))) (zr [zv .add 31 17 1,zm 17 31] ⟨[1,2,15,16,17],[],[]⟩)))
def asI:VC:=.loop [] ⟨[1,2,15,16,17],[],[]⟩ arj
abbrev asJ(x1:V)(x2:V)(mz:V)(tK:Int)(tL:Int)(G:List aW):St:=⟨[(1,x1),(2,x2),(15,mz),(16,.int .i64 tK),(17,.int .i64 tL)],[],[],G⟩
def ai4:bq where
 nparams:=3
 results:=[.t 6 [none]]
 body :=
 zz [zt 6 false] ⟨[0,1,2],[],[]⟩ (.seq (zz [zm 10 0,zl 11 10,zm 12 1,zl 13 12,zb .neq 14 11 13] ⟨[0,1,2,14],[],[]⟩ (yc 14 (zz [zt 6 false] ⟨[6],[],[]⟩ (.ret)))) (.seq (zz [zm 15 0,zl 16 15,zh 17 0] ⟨[1,2,15,16,17],[],[]⟩ (.block 0 (asI))) (zz [zt 6 true] ⟨[6],[],[]⟩ (.ret))))
def V8:bq where
 nparams:=2
 results:=[.t 4 [none]]
 body :=
 yz [2,3] [zu 2 0,zu 3 1,zt 4 false] ⟨[2,3],[2,3],[]⟩ (zz [zf 5 0 2,zj 6 2 5,zf 7 0 3,zj 8 3 7,zb .eql 9 6 8,zm 10 9,yf 11 10 true 1 2,yj 12 10 true 2 11,yf 13 10 true 1 3,yj 14 10 true 3 13,yb .eql 15 10 true 12 14,zp 16 10 15 false,zm 17 16,yf 18 17 true 2 2,yj 19 17 true 2 18,yf 20 17 true 2 3,yj 21 17 true 3 20,yw 22 17 true true 141 [ad 3 19,ad 3 21],zp 23 17 22 false,zm 24 23,
 yf 25 24 true 3 2,yj 26 24 true 2 25,yf 27 24 true 3 3,yj 28 24 true 3 27,yw 29 24 true true 142 [ad 2 26,ad 2 28],zp 30 24 29 false,zm 4 30] ⟨[4],[],[]⟩ (.ret))
def ark:VC :=
 zz [zb .lss 18 17 16] ⟨[1,2,15,16,17,18],[],[]⟩ (zx 18 0 (.seq (.block 1 (yz [8] [zm 19 17,za 20 1 15 17,yg 21 1 20,ye 8 [.aK],zm 7 19,zd 8 [some 1] 8 21] ⟨[1,2,7,8,15,16,17],[8],[]⟩ (yz [9] [zm 22 1,zm 23 7,za 24 1 22 23,yg 25 1 24,ye 9 [.aK],zd 9 [some 1] 9 25] ⟨[1,2,8,9,15,16,17],[8,9],[]⟩ (zz [zm 26 2,zs 27 8 1 8,zs 28 9 1 9,zo 29 (.call false (.t 26) [ad 1 27,ad 1 28] []),
 zo 30 (.un .not (.t 29))] ⟨[1,2,15,16,17,30],[],[]⟩ (yc 30 (zz [zt 6 false] ⟨[6],[],[]⟩ (.ret))))))) (zr [zv .add 31 17 1,zm 17 31] ⟨[1,2,15,16,17],[],[]⟩)))
def asK:VC:=.loop [] ⟨[1,2,15,16,17],[],[]⟩ ark
abbrev asL(x1:V)(x2:V)(mz:V)(tK:Int)(tL:Int)(G:List aW):St:=⟨[(1,x1),(2,x2),(15,mz),(16,.int .i64 tK),(17,.int .i64 tL)],[],[],G⟩
def ai9:bq where
 nparams:=3
 results:=[.t 6 [none]]
 body :=
 zz [zt 6 false] ⟨[0,1,2],[],[]⟩ (.seq (zz [zm 10 0,zl 11 10,zm 12 1,zl 13 12,zb .neq 14 11 13] ⟨[0,1,2,14],[],[]⟩ (yc 14 (zz [zt 6 false] ⟨[6],[],[]⟩ (.ret)))) (.seq (zz [zm 15 0,zl 16 15,zh 17 0] ⟨[1,2,15,16,17],[],[]⟩ (.block 0 (asK))) (zz [zt 6 true] ⟨[6],[],[]⟩ (.ret))))
def apm:bq where
 nparams:=2
 results:=[.t 4 [none]]
 body :=
 yz [2,3] [zu 2 0,zu 3 1,zt 4 false] ⟨[2,3],[2,3],[]⟩ (zz [zf 5 0 2,zj 6 2 5,zf 7 0 3,zj 8 3 7,zw 9 true 84 [ad 1 6,ad 1 8],zm 4 9] ⟨[4],[],[]⟩ (.ret))
def ao2:VC :=
 zz [zb .lss 14 13 12] ⟨[0,1,12,13,14],[],[]⟩ (zx 14 0 (.seq (.block 1 (zz [zm 15 13,zm 5 15] ⟨[0,1,5,12,13],[],[]⟩ (zz [zm 16 0,zm 17 5,za 18 1 16 17,zi 19 18,zm 20 1,zm 21 5,za 22 1 20 21,zi 23 22,zb .neq 24 19 23] ⟨[0,1,12,13,24],[],[]⟩ (yc 24 (zz [zt 4 false] ⟨[4],[],[]⟩ (.ret)))))) (zr [zv .add 25 13 1,zm 13 25] ⟨[0,1,12,13],[],[]⟩)))
def aqT:VC:=.loop [] ⟨[0,1,12,13],[],[]⟩ ao2
abbrev aqU(x0:V)(x1:V)(mw:Int)(jB:Int)(G:List aW):St:=⟨[(0,x0),(1,x1),(12,.int .i64 mw),(13,.int .i64 jB)],[],[],G⟩
def aiw:bq where
 nparams:=2
 results:=[.t 4 [none]]
 body :=
 zz [zt 4 false] ⟨[0,1],[],[]⟩ (.seq (zz [zm 6 0,zl 7 6,zm 8 1,zl 9 8,zb .neq 10 7 9] ⟨[0,1,10],[],[]⟩ (yc 10 (zz [zt 4 false] ⟨[4],[],[]⟩ (.ret)))) (.seq (zz [zm 11 0,zl 12 11,zh 13 0] ⟨[0,1,12,13],[],[]⟩ (.block 0 (aqT))) (zz [zt 4 true] ⟨[4],[],[]⟩ (.ret))))
def arl:VC :=
 zz [zb .lss 17 16 15] ⟨[1,14,15,16,17],[],[]⟩ (zx 17 0 (.seq (.block 1 (yz [6] [zm 18 16,za 19 4 14 16,yg 20 4 19,ye 6 [z0,z0,.aK,z0],zm 5 18,zd 6 tD 6 20] ⟨[1,5,6,14,15,16],[6],[]⟩ (zz [zf 21 2 6,zs 22 6 2 21,zm 23 1,zm 24 5,za 25 1 23 24,yg 26 1 25,zw 27 true 73 [(mQ,(.t 22)),ad 1 26],zo 28 (.un .not (.t 27))] ⟨[1,14,15,16,28],[],[]⟩ (yc 28 (zz [zt 4 false] ⟨[4],[],
 []⟩ (.ret)))))) (zr [zv .add 29 16 1,zm 16 29] ⟨[1,14,15,16],[],[]⟩)))
def asM:VC:=.loop [] ⟨[1,14,15,16],[],[]⟩ arl
abbrev asN(x1:V)(lH:V)(mz:Int)(tK:Int)(G:List aW):St:=⟨[(1,x1),(14,lH),(15,.int .i64 mz),(16,.int .i64 tK)],[],[],G⟩
def apq:bq where
 nparams:=2
 results:=[.t 4 [none]]
 body :=
 yz [2] [zu 2 0,zt 4 false] ⟨[1,2],[2],[]⟩ (.seq (zz [zm 7 1,zl 8 7,zf 9 1 2,zj 10 2 9,zl 11 10,zb .neq 12 8 11] ⟨[1,2,12],[2],[]⟩ (yc 12 (zz [zt 4 false] ⟨[4],[],[]⟩ (.ret)))) (.seq (zz [zf 13 1 2,zj 14 2 13,zl 15 14,zh 16 0] ⟨[1,14,15,16],[],[]⟩ (.block 0 (asM))) (zz [zt 4 true] ⟨[4],[],[]⟩ (.ret))))
def Bb:bq where
 nparams:=3
 results:=[.c 6 true [some 1],.t 7 [none],.t 8 [none]]
 body :=
 yz [3,4,6] [zu 3 0,zu 4 1,ye 6 [.aK],zh 7 0,zh 8 0] ⟨[2,3,4,6],[3,4,6],[]⟩ (.seq (zz [zs 10 3 2 3,zs 11 4 1 4,zw 12 true 143 [(mQ,(.t 10)),ad 1 11],zm 9 12] ⟨[2,3,4,6,9],[3,4,6],[]⟩ (zz [zm 13 9,zv .neq 14 13 0] ⟨[2,3,4,6,9,14],[3,4,6],[]⟩ (yc 14 (zz [zo 15 (.build [.aK] []),zm 16 9,zd 6 [some 1] 6 15,zh 7 0,zm 8 16] ⟨[6,7,8],[6],[]⟩ (.ret))))) (zz [zs 17 3 2 3,zs 18 4 1 4,zm 19 2,
 zw 20 true 144 [(mQ,(.t 17)),ad 1 18,a0 19],ze 21 20 0,ze 22 20 1,ze 23 20 2,zd 6 [some 1] 6 21,zm 7 22,zm 8 23] ⟨[6,7,8],[6],[]⟩ (.ret)))
def Bc:bq where
 nparams:=2
 results:=[.t 4 [none]]
 body :=
 yz [2,3] [zu 2 0,zu 3 1,zt 4 false] ⟨[2,3],[2,3],[]⟩ (zz [zf 5 0 3,zj 6 3 5,zl 7 6,zf 8 0 2,zf 9 0 8,zj 10 2 9,zb .eql 11 7 10,zm 12 11,yf 13 12 true 1 3,yj 14 12 true 3 13,yl 15 12 true 14,yf 16 12 true 2 2,yj 17 12 true 2 16,yl 18 12 true 17,yb .eql 19 12 true 15 18,zp 20 12 19 false,zm 21 20,yf 22 21 true 2 3,yj 23 21 true 3 22,yl 24 21 true 23,yf 25 21 true 2 2,yj 26 21 true 2 25,
 yl 27 21 true 26,yb .eql 28 21 true 24 27,zp 29 21 28 false,zm 4 29] ⟨[4],[],[]⟩ (.ret))
def KV:bq where
 nparams:=2
 results:=[.t 4 [none]]
 body :=
 zz [zt 4 false] ⟨[0,1],[],[]⟩ (zz [zm 5 0,zm 6 1,zw 7 false 145 [ad 1 5,a0 6],zv .geq 8 7 0,zm 4 8] ⟨[4],[],[]⟩ (.ret))
def RR:VC :=
 zz [zb .lss 12 11 10] ⟨[0,3,9,10,11,12],[],[]⟩ (zx 12 0 (.seq (.block 1 (zz [za 13 1 9 11,zi 14 13,zm 5 14] ⟨[0,3,5,9,10,11],[],[]⟩ (zz [zm 15 3,zm 16 5,zl 17 16,zb .add 18 15 17,zm 3 18] ⟨[0,3,9,10,11],[],[]⟩ (zz [zm 19 3,zv .lss 20 19 0] ⟨[0,3,9,10,11,20],[],[]⟩ (yc 20 (.dead)))))) (zr [zv .add 22 11 1,zm 11 22] ⟨[0,3,9,10,11],[],[]⟩)))
def RS:VC:=.loop [] ⟨[0,3,9,10,11],[],[]⟩ RR
def RT:VC :=
 zz [zb .lss 28 27 26] ⟨[6,25,26,27,28],[20033],[]⟩ (zx 28 2 (.seq (.block 3 (zz [za 29 1 25 27,zi 30 29,zm 8 30] ⟨[6,8,25,26,27],[20033],[]⟩ (.region [.ic 20033 21033] [20033] [zm 31 6,zm 32 8,zo 33 (.m9 20033 21033 [none] (.t 31) (.t 32)),zm 6 33] ⟨[6,25,26,27],[20033],[]⟩))) (zr [zv .add 34 27 1,zm 27 34] ⟨[6,25,26,27],[20033],[]⟩)))
def RU:VC:=.loop [] ⟨[6,25,26,27],[20033],[]⟩ RT
def KW:bq where
 nparams:=1
 results:=[.t 2 [some 1]]
 body :=
 zz [zy 2] ⟨[0],[],[]⟩ (zz [zh 3 0] ⟨[0,3],[],[]⟩ (.seq (zz [zm 9 0,zl 10 9,zh 11 0] ⟨[0,3,9,10,11],[],[]⟩ (.block 0 (RS))) (yz [20033] [zm 23 3,zo 24 (.grow 146 20033 (.t 23)),zm 6 24] ⟨[0,6],[20033],[]⟩ (.seq (zz [zm 25 0,zl 26 25,zh 27 0] ⟨[6,25,26,27],[20033],[]⟩ (.block 2 (RU))) (.seq (.region [.freeze 6 [none]] [] [zm 35 6,zm 2 35] ⟨[2],[20033],[]⟩) (.ret))))))
def DI:bq where
 nparams:=1
 results:=[.t 2 [some 1]]
 split:=some 0
 body :=
 zz [zy 2] ⟨[0],[],[]⟩ (.seq (zz [zm 3 0,zo 4 (.qV false (.t 3))] ⟨[0,4],[],[]⟩ (yc 4 (zz [zy 2] ⟨[2],[],[1007]⟩ (.ret)))) (yz [1007] [zo 5 (.sZ 1),zm 6 0,zo 7 (.app 1007 none [none] 17592186044416 (.t 5) (.t 6)),zm 2 7] ⟨[2],[],[1007]⟩ (.ret)))
def KX:bq where
 nparams:=1
 results:=[.t 2 [none]]
 body :=
 yz [1] [zu 1 0,zh 2 0] ⟨[1],[1],[]⟩ (zz [zf 3 2 1,zj 4 1 3,zf 5 3 1,zj 6 1 5,zb .add 7 4 6,zf 8 4 1,zj 9 1 8,zb .add 10 7 9,zm 2 10] ⟨[2],[],[]⟩ (.ret))
def RV:VC :=
 zz [zb .lss 10 9 8] ⟨[1,7,8,9,10],[],[]⟩ (zx 10 0 (.seq (.block 1 (zz [za 11 1 7 9,zi 12 11,zm 6 12] ⟨[1,6,7,8,9],[],[]⟩ (zz [zm 13 6,zm 14 1,zw 15 true 71 [a0 13,a0 14],zo 16 (.un .not (.t 15))] ⟨[1,7,8,9,16],[],[]⟩ (yc 16 (zz [zt 4 false] ⟨[4],[],[]⟩ (.ret)))))) (zr [zv .add 17 9 1,zm 9 17] ⟨[1,7,8,9],[],[]⟩)))
def abr:VC:=.loop [] ⟨[1,7,8,9],[],[]⟩ RV
abbrev abt(x1:Int)(x7:V)(x8:Int)(x9:Int)(G:List aW):St:=⟨[(1,.int .i64 x1),(7,x7),(8,.int .i64 x8),(9,.int .i64 x9)],[],[],G⟩
def KY:bq where
 nparams:=2
 results:=[.t 4 [none]]
 body :=
 zz [zt 4 false] ⟨[0,1],[],[]⟩ (.seq (zz [zm 7 0,zl 8 7,zh 9 0] ⟨[1,7,8,9],[],[]⟩ (.block 0 (abr))) (zz [zt 4 true] ⟨[4],[],[]⟩ (.ret)))
def KZ:bq where
 nparams:=1
 results:=[.t 2 [none]]
 body :=
 yz [1] [zu 1 0,zh 2 0] ⟨[1],[1],[]⟩ (zz [zf 3 2 1,zj 4 1 3,zf 5 3 1,zj 6 1 5,zb .add 7 4 6,zf 8 4 1,zj 9 1 8,zb .add 10 7 9,zm 2 10] ⟨[2],[],[]⟩ (.ret))
def arn:VC :=
 zz [zb .lss 14 13 12] ⟨[0,1,12,13,14],[],[]⟩ (zx 14 0 (.seq (.block 1 (zz [zm 15 13,zm 5 15] ⟨[0,1,5,12,13],[],[]⟩ (zz [zm 16 0,zm 17 5,za 18 7 16 17,yg 19 7 18,zm 20 1,zm 21 5,za 22 7 20 21,yg 23 7 22,zo 24 (.gW true [0,0,0,0,0,0,0] (.t 19) (.t 23))] ⟨[0,1,12,13,24],[],[]⟩ (yc 24 (zz [zt 4 false] ⟨[4],[],[]⟩ (.ret)))))) (zr [zv .add 25 13 1,zm 13 25] ⟨[0,1,12,13],[],[]⟩)))
def asO:VC:=.loop [] ⟨[0,1,12,13],[],[]⟩ arn
abbrev asP(x0:V)(x1:V)(mw:Int)(jB:Int)(G:List aW):St:=⟨[(0,x0),(1,x1),(12,.int .i64 mw),(13,.int .i64 jB)],[],[],G⟩
def apt:bq where
 nparams:=2
 results:=[.t 4 [none]]
 body :=
 zz [zt 4 false] ⟨[0,1],[],[]⟩ (.seq (zz [zm 6 0,zl 7 6,zm 8 1,zl 9 8,zb .neq 10 7 9] ⟨[0,1,10],[],[]⟩ (yc 10 (zz [zt 4 false] ⟨[4],[],[]⟩ (.ret)))) (.seq (zz [zm 11 0,zl 12 11,zh 13 0] ⟨[0,1,12,13],[],[]⟩ (.block 0 (asO))) (zz [zt 4 true] ⟨[4],[],[]⟩ (.ret))))
def aro:VC :=
 zz [zb .lss 14 13 12] ⟨[0,1,12,13,14],[],[]⟩ (zx 14 0 (.seq (.block 1 (zz [zm 15 13,zm 5 15] ⟨[0,1,5,12,13],[],[]⟩ (zz [zm 16 0,zm 17 5,za 18 1 16 17,zi 19 18,zm 20 1,zm 21 5,za 22 1 20 21,zi 23 22,zb .neq 24 19 23] ⟨[0,1,12,13,24],[],[]⟩ (yc 24 (zz [zt 4 false] ⟨[4],[],[]⟩ (.ret)))))) (zr [zv .add 25 13 1,zm 13 25] ⟨[0,1,12,13],[],[]⟩)))
def asQ:VC:=.loop [] ⟨[0,1,12,13],[],[]⟩ aro
abbrev asR(x0:V)(x1:V)(mw:Int)(jB:Int)(G:List aW):St:=⟨[(0,x0),(1,x1),(12,.int .i64 mw),(13,.int .i64 jB)],[],[],G⟩
def ajl:bq where
 nparams:=2
 results:=[.t 4 [none]]
 body :=
 zz [zt 4 false] ⟨[0,1],[],[]⟩ (.seq (zz [zm 6 0,zl 7 6,zm 8 1,zl 9 8,zb .neq 10 7 9] ⟨[0,1,10],[],[]⟩ (yc 10 (zz [zt 4 false] ⟨[4],[],[]⟩ (.ret)))) (.seq (zz [zm 11 0,zl 12 11,zh 13 0] ⟨[0,1,12,13],[],[]⟩ (.block 0 (asQ))) (zz [zt 4 true] ⟨[4],[],[]⟩ (.ret))))
def RW:VC :=
 .seq (zz [zm 9 4,zv .add 10 9 1,zf 11 0 3,zj 12 3 11,zb .lss 13 10 12] ⟨[0,2,3,4,13],[2,3],[1036]⟩ (.cond (.t 13) (.skip) (.exit 0))) (.seq (.block 1 (zz [zm 16 0,zw 17 false 23 [a0 16,ac 6],zv .gtr 18 17 0] ⟨[0,2,3,4,18],[2,3],[1036]⟩ (yc 18 (.region [.kE 3 1 1036 4] [5036] [zf 19 1 3,zj 20 3 19,zm 21 4,zm 22 4,zv .add 23 22 1,zm 24 0,zf 25 0 3,zj 26 3 25,zm 27 4,zb .sub 28 26 27,
 zv .sub 29 28 1,zw 30 false 23 [a0 24,a0 29],zb .add 31 23 30,zm 32 0,zw 33 false 153 [a0 32],zo 34 (.build [z0,z0,.aK,z0] [(0,1,(.t 21)),(1,1,(.t 31)),(2,2,(.t 33))]),zo 35 (.lit none tD [z0,z0,.slice none 1 [],z0] 1 [(0,(.t 34))]),zo 36 (.app 5036 (some 1036) tD 2932031007402 (.t 20) (.t 35)),zf 37 1 3,zd 3 [some 4] 37 36] ⟨[0,2,3,4],[2,3],[1036]⟩)))) (zr [zm 14 4,zv .add 15 14 1,zm 4 15] ⟨[0,
 2,3,4],[2,3],[1036]⟩))
def abu:VC:=.loop [.kE 3 1 1036 4] ⟨[0,2,3,4],[2,3],[1036]⟩ RW
abbrev abv(x0:V)(x4:Int)(o2:List V)(o3:List V)(abw:Nat)(G:List aW):St:=⟨[(0,x0),(2,.bK 2 0),(3,.bK 3 0),(4,.int .i64 x4)],[(2,o2),(3,o3)],[(1036,abw)],G⟩
def K0:bq where
 nparams:=1
 results:=[.c 2 true tE]
 body :=
 yz [2] [ye 2 [z0,.aK]] ⟨[0,2],[2],[1036]⟩ (yz [3] [zm 5 0,zw 6 false 23 [a0 5,ac 6],zo 7 (.bin .add (zc 1) (.t 6)),zo 8 (.build [z0,.aK] [(0,1,(.t 7))]),ye 3 [z0,.aK],zd 3 tE 3 8] ⟨[0,2,3],[2,3],[1036]⟩ (.seq (zz [zh 4 0] ⟨[0,2,3,4],[2,3],[1036]⟩ (.block 0 (abu))) (zz [zs 38 3 2 3,zd 2 tE 2 38] ⟨[2],[2],[1036]⟩ (.ret))))
def K1:bq where
 nparams:=1
 results:=[.c 2 true ku,.c 3 true fL]
 body :=
 yz [2,3] [ye 2 [.aK,z0,z0,z0,z0,z0,.aK,.aK,z0],ye 3 [z0,z0,.aK,.aK]] ⟨[0,2,3],[2,3],[]⟩ (yz [4] [zm 8 0,zw 9 false 154 [a0 8],zm 10 0,zw 11 false 23 [a0 10,ac 4],zo 12 (.bin .add (zc 1) (.t 11)),zo 13 (.build [.aK,z0,z0,z0,z0,z0,.aK,.aK,z0] [(0,6,(.t 9)),(8,1,(.t 12))]),ye 4 [.aK,z0,z0,z0,z0,z0,.aK,.aK,z0],zd 4 ku 4 13] ⟨[0,2,3,4],[2,3,4],[]⟩ (yz [5] [ye 5 [z0,z0,.aK,.aK]] ⟨[0,2,3,4,5],[2,3,4,5],
 []⟩ (zz [zm 15 0,zw 16 false 155 [a0 15,ac 2],zm 14 16,ze 17 14 0,ze 18 14 1,zf 19 6 4,zd 4 [some 6] 19 17,zf 20 2 5,zd 5 [some 3] 20 18] ⟨[0,2,3,4,5],[2,3,4,5],[]⟩ (zz [zm 22 0,zw 23 false 156 [a0 22,ac 2],zm 21 23,ze 24 21 0,ze 25 21 1,zf 26 7 4,zd 4 [some 3] 26 24,zf 27 3 5,zd 5 [some 2] 27 25] ⟨[0,2,3,4,5],[2,3,4,5],[]⟩ (zz [zf 29 0 4,zs 30 4 6 29,zf 31 0 4,zf 32 5 31,zj 33 4 32,
 zw 34 true 59 [(pY,(.t 30)),a0 33],zm 28 34,ze 35 28 0,ze 36 28 1,zm 6 35,zm 7 36] ⟨[0,2,3,4,5,6],[2,3,4,5],[]⟩ (zz [zm 37 0,zm 38 6,zv .add 39 38 1,zw 40 false 23 [a0 37,a0 39],zf 41 0 5,zd 5 [none] 41 40] ⟨[0,2,3,4,5],[2,3,4,5],[]⟩ (zz [zm 42 0,zw 43 false 23 [a0 42,ac 30],zf 44 1 5,zd 5 [none] 44 43] ⟨[2,3,4,5],[2,3,4,5],[]⟩ (zz [zs 45 4 9 4,zs 46 5 4 5,zd 2 ku 2 45,zd 3 fL 3 46] ⟨[2,3],[2,3],
 []⟩ (.ret)))))))))
def DJ:bq where
 nparams:=1
 results:=[.t 2 [none]]
 body :=
 zz [zt 2 false] ⟨[0],[],[]⟩ (zz [zm 3 0,zv .lss 4 3 0,zm 5 4,ym 6 5 false 0,yv .gtr 7 5 false 6 1073741824,yp 8 5 true 7,zm 2 8] ⟨[2],[],[]⟩ (.ret))
end Go.Proofs.YtmpikpodpgnjhaaGreat
