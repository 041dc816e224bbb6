/- The functions of the program, as the value machine has them, by program. -/
import Derived.Test.YtmpikpodpgnjhaaGreatVmT
namespace Go.Proofs.YtmpikpodpgnjhaaGreat
open Go.Vm
set_option maxRecDepth 100000
abbrev vI:Sh:=[none,some 2,none,none,none,none,none,some 6,some 3,none]
abbrev ku:Sh:=[some 2,none,none,none,none,none,some 6,some 3,none]
abbrev mP:Sh:=[none,none,none,none,none,none,none]
abbrev eF:Sh:=[some 2,none,none,some 2,none,none]
abbrev pY:Sh:=[some 2,none,none,none,none,none]
abbrev fL:Sh:=[none,none,some 3,some 2]
abbrev tD:Sh:=[none,none,some 1,none]
abbrev lF:Sh:=[some 7,some 1,some 1]
abbrev uJ:Sh:=[some 1,some 1,some 1]
abbrev vJ:Sh:=[none,none,none,none]
abbrev iJ:Sh:=[none,some 4,some 10]
abbrev e7:Sh:=[none,some 4,some 1]
abbrev iK:Sh:=[some 2,none,none]
abbrev e9:Sh:=[none,none,none]
abbrev mQ:Sh:=[some 1,none]
abbrev tE:Sh:=[none,some 4]
abbrev tF:Sh:=[some 2,none]
abbrev A4:Sh:=[none,some 2]
def mr:bq where
 nparams:=4
 results:=[.t 8 [none]]
 body :=
 zz [zt 8 false] ⟨[0,1,2,3],[],[]⟩ (.seq (zz [zw 19 true 12 [],zo 20 (.un .not (.t 19))] ⟨[0,1,2,3,20],[],[]⟩ (yc 20 (zz [zt 8 false] ⟨[8],[],[]⟩ (.ret)))) (.seq (zz [zm 21 0,zw 22 true 13 [ad 1 21],zo 23 (.un .not (.t 22))] ⟨[0,1,2,3,23],[],[]⟩ (yc 23 (zz [zt 8 true] ⟨[8],[],[]⟩ (.ret)))) (zz [zm 24 0,zw 25 false 14 [ad 1 24],zm 9 25] ⟨[1,2,3,9],[],[]⟩ (yz [10,11] [zm 27 9,zw 28 false 15 [a0 27],
 zm 26 28,ze 29 26 0,ze 30 26 1,ye 10 [z0,.aK,.aK],ye 11 [z0,.aK,.aK],zd 10 iJ 10 29,zd 11 e7 11 30] ⟨[1,2,3,9,10,11],[10,11],[]⟩ (yz [12] [zm 31 9,zs 32 10 3 10,zw 33 false 16 [a0 31,(iJ,(.t 32))],ye 12 [.aK,.aK,.aK],zd 12 uJ 12 33] ⟨[1,2,3,10,11,12],[10,11,12],[]⟩ (yz [13,14] [zs 35 10 3 10,zs 36 11 3 11,zs 37 12 3 12,zw 38 true 17 [(iJ,(.t 35)),(e7,(.t 36)),(uJ,(.t 37))],zm 34 38,ze 39 34 0,
 ze 40 34 1,ze 41 34 2,ye 13 [z0,.aK,.aK],ye 14 [.aK,.aK,.aK],zd 13 e7 13 39,zd 14 lF 14 40,zm 15 41] ⟨[1,2,3,10,11,12,13,14,15],[10,11,12,13,14],[]⟩ (.seq (zz [zm 42 15,zv .neq 43 42 0] ⟨[1,2,3,10,11,12,13,14,43],[10,11,12,13,14],[]⟩ (yc 43 (zz [zt 8 true] ⟨[8],[],[]⟩ (.ret)))) (.seq (zz [zs 44 10 3 10,zs 45 11 3 11,zs 46 13 3 13,zs 47 12 3 12,zs 48 14 3 14,zw 49 true 40 [(iJ,(.t 44)),(e7,
 (.t 45)),(e7,(.t 46)),(uJ,(.t 47)),(lF,(.t 48))],zo 50 (.un .not (.t 49))] ⟨[1,2,3,10,11,12,13,14,50],[10,11,12,13,14],[]⟩ (yc 50 (zz [zt 8 false] ⟨[8],[],[]⟩ (.ret)))) (yz [20053,20056,20059,16] [zf 51 0 14,zj 52 14 51,zo 53 (.m9 20053 21053 mP (.c (.aK)) (.t 52)),zf 54 1 14,zj 55 14 54,zo 56 (.m9 20056 21056 [none] (.c (.aK)) (.t 55)),zf 57 2 14,zj 58 14 57,
 zo 59 (.m9 20059 21059 [none] (.c (.aK)) (.t 58)),zo 60 (.build [.aK,.aK,.aK] [(0,1,(.t 53)),(1,1,(.t 56)),(2,1,(.t 59))]),ye 16 [.aK,.aK,.aK],zd 16 lF 16 60] ⟨[1,2,3,10,11,12,13,16],[10,11,12,13,16,20053,20056,20059],[]⟩ (yz [17] [zs 61 13 3 13,zw 62 false 22 [(e7,(.t 61))],ye 17 [z0,.aK,.aK],zd 17 e7 17 62] ⟨[1,2,3,10,11,12,16,17],[10,11,12,16,17,20053,20056,20059],[]⟩ (.seq (zz [zm 63 2,
 zo 64 (.conv .i64 (.t 63)),zm 18 64] ⟨[1,3,10,11,12,16,17,18],[10,11,12,16,17,20053,20056,20059],[]⟩ (zz [zm 65 1,zo 66 (.bin .rem (.t 65) (.c (.int .u8 5)))] ⟨[3,10,11,12,16,17,18,66],[10,11,12,16,17,20053,20056,20059],[]⟩ (.block 0 (zz [zo 76 (.bin .eql (.t 66) (.c (.int .u8 0))),zm 75 76] ⟨[3,10,11,12,16,17,18,66,75],[10,11,12,16,17,20053,20056,20059],[]⟩ (.cond (.t 75) (zr [zf 77 1 16,
 zj 78 16 77,zm 79 18,zf 80 1 16,zj 81 16 80,zl 82 81,zb .rem 83 79 82,za 84 1 78 83,zj 85 20056 84,zm 86 3,zb .add 87 85 86,za 88 1 78 83,zd 20056 [none] 88 87] ⟨[10,11,12,16,17],[10,11,12,16,17,20053,20056,20059],[]⟩) (zz [zo 90 (.bin .eql (.t 66) (.c (.int .u8 1))),zm 89 90] ⟨[3,10,11,12,16,17,18,66,89],[10,11,12,16,17,20053,20056,20059],[]⟩ (.cond (.t 89) (zz [zf 91 2 16,zj 92 16 91,zl 93 92,
 zv .gtr 94 93 0] ⟨[3,10,11,12,16,17,18,94],[10,11,12,16,17,20053,20056,20059],[]⟩ (yc 94 (zr [zf 95 2 16,zj 96 16 95,zm 97 18,zf 98 2 16,zj 99 16 98,zl 100 99,zb .rem 101 97 100,za 102 1 96 101,zj 103 20059 102,zm 104 3,zb .add 105 103 104,za 106 1 96 101,zd 20059 [none] 106 105] ⟨[10,11,12,16,17],[10,11,12,16,17,20053,20056,20059],[]⟩))) (zz [zo 108 (.bin .eql (.t 66) (.c (.int .u8 2))),
 zm 107 108] ⟨[3,10,11,12,16,17,18,66,107],[10,11,12,16,17,20053,20056,20059],[]⟩ (.cond (.t 107) (zz [zf 109 0 16,zj 110 16 109,zl 111 110,zv .gtr 112 111 0] ⟨[3,10,11,12,16,17,18,112],[10,11,12,16,17,20053,20056,20059],[]⟩ (yc 112 (zr [zf 113 0 16,zj 114 16 113,zm 115 18,zf 116 0 16,zj 117 16 116,zl 118 117,zb .rem 119 115 118,za 120 7 114 119,zf 121 3 120,zj 122 20053 121,zm 123 3,
 zb .add 124 122 123,za 125 7 114 119,zf 126 3 125,zd 20053 [none] 126 124] ⟨[10,11,12,16,17],[10,11,12,16,17,20053,20056,20059],[]⟩))) (zz [zo 128 (.bin .eql (.t 66) (.c (.int .u8 3))),zm 127 128] ⟨[3,10,11,12,16,17,18,127],[10,11,12,16,17,20053,20056,20059],[]⟩ (.cond (.t 127) (zz [zf 129 1 17,zj 130 17 129,zl 131 130,zv .gtr 132 131 0] ⟨[3,10,11,12,16,17,18,132],[10,11,12,16,17,20053,20056,
 20059],[]⟩ (yc 132 (zr [zf 133 1 17,zj 134 17 133,zm 135 18,zf 136 1 17,zj 137 17 136,zl 138 137,zb .rem 139 135 138,za 140 4 134 139,zf 141 0 140,zg 142 141,zm 143 3,zb .add 144 142 143,za 145 4 134 139,zf 146 0 145,zn (.store .az [none] (.t 146) (.t 144))] ⟨[10,11,12,16,17],[10,11,12,16,17,20053,20056,20059],[]⟩))) (.region [.zX 16 1 [none]] [] [zf 67 1 16,zj 68 16 67,zf 69 1 16,zj 70 16 69,
 zl 71 70,zv .sub 72 71 1,zo 73 (.pf 1 (.t 68) none (some (.t 72))),zf 74 1 16,zd 16 [some 1] 74 73] ⟨[10,11,12,16,17],[10,11,12,16,17,20053,20056,20059],[]⟩)))))))))))) (.seq (.region [.wA 17 [fL,[some 1]],.zX 16 0 mP,.zX 16 1 [none],.zX 16 2 [none]] [] [zs 147 10 3 10,zs 148 11 3 11,zs 149 17 3 17,zs 150 12 3 12,zs 151 16 3 16,zw 152 true 40 [(iJ,(.t 147)),(e7,(.t 148)),(e7,(.t 149)),(uJ,
 (.t 150)),(lF,(.t 151))],zs 153 10 3 10,zs 154 11 3 11,zs 155 17 3 17,zs 156 12 3 12,zs 157 16 3 16,zw 158 true 41 [(iJ,(.t 153)),(e7,(.t 154)),(e7,(.t 155)),(uJ,(.t 156)),(lF,(.t 157))],zo 159 (.beq false (.t 152) (.t 158)),zm 8 159] ⟨[8],[],[]⟩) (.ret)))))))))))))
def KA:bq where
 nparams:=0
 results:=[.t 0 [none]]
 body :=
 zz [zt 0 false] ⟨[],[],[]⟩ (yz [1] [zo 10 (.lit none [none] [z0] 2 [(0,(zc 0)),(1,(zc 1))]),zo 11 (.build [.aK,z0] [(0,1,(.t 10)),(1,1,(zc 1))]),zo 12 (.build [z0,z0,.aK,z0] [(0,1,(zc 0)),(1,1,(zc 1)),(2,2,(.t 11))]),zo 13 (.lit none tD [z0,z0,.slice none 1 [],z0] 1 [(0,(.t 12))]),zo 14 (.build [z0,.aK] [(0,1,(zc 2)),(1,1,(.t 13))]),zo 15 (.build [z0,.aK,.aK] [(0,2,(.t 14))]),ye 1 [z0,.aK,.aK],
 zd 1 iJ 1 15] ⟨[1],[1],[]⟩ (yz [2] [zs 17 1 3 1,zw 18 true 31 [(iJ,(.t 17)),([some 4],(.c (.aK)))],zm 16 18,ze 19 16 0,ze 20 16 1,ye 2 [z0,.aK,.aK],zd 2 e7 2 19,zm 3 20] ⟨[1,2,3],[1,2],[]⟩ (yz [4] [zo 21 (.lit none [none] [z0] 2 [(0,(zc 7)),(1,(zc 0))]),zo 22 (.build [.aK,.aK,.aK] [(0,1,(.t 21))]),ye 4 [.aK,.aK,.aK],zd 4 uJ 4 22] ⟨[1,2,3,4],[1,2,4],[]⟩ (yz [5] [zs 24 1 3 1,zs 25 2 3 2,
 zs 26 4 3 4,zw 27 true 17 [(iJ,(.t 24)),(e7,(.t 25)),(uJ,(.t 26))],zm 23 27,ze 28 23 0,ze 29 23 1,ze 30 23 2,ye 5 [.aK,.aK,.aK],zd 2 e7 2 28,zd 5 lF 5 29,zm 6 30] ⟨[1,2,3,5,6],[1,2,5],[]⟩ (yz [7,8] [zs 32 1 3 1,zs 33 2 3 2,zo 34 (.lit none [none] [z0] 2 [(0,(zc 0)),(1,(zc 0))]),zo 35 (.build [.aK,.aK,.aK] [(0,1,(.t 34))]),zw 36 true 17 [(iJ,(.t 32)),(e7,(.t 33)),(uJ,(.t 35))],zm 31 36,ze 37 31 0,
 ze 38 31 1,ze 39 31 2,ye 7 [z0,.aK,.aK],ye 8 [.aK,.aK,.aK],zd 7 e7 7 37,zd 8 lF 8 38,zm 9 39] ⟨[1,2,3,5,6,8,9],[1,2,5,8],[]⟩ (zz [zm 40 3,zv .eql 41 40 0,zm 42 41,ym 43 42 true 6,yv .eql 44 42 true 43 0,zp 45 42 44 false,zm 46 45,ym 47 46 true 9,yv .eql 48 46 true 47 0,zp 49 46 48 false,zm 50 49,yf 51 50 true 2 5,yj 52 50 true 5 51,yl 53 50 true 52,yv .eql 54 50 true 53 1,zp 55 50 54 false,
 zm 56 55,yf 57 56 true 2 5,yj 58 56 true 5 57,zq 59 56 true (.eg none 1 (.t 58) (zc 0)),yi 60 56 true 59,yv .eql 61 56 true 60 0,zp 62 56 61 false,zm 63 62,yf 64 63 true 2 8,yj 65 63 true 8 64,yl 66 63 true 65,yv .eql 67 63 true 66 1,zp 68 63 67 false,zm 69 68,yf 70 69 true 2 8,yj 71 69 true 8 70,zq 72 69 true (.eg none 1 (.t 71) (zc 0)),yi 73 69 true 72,yv .eql 74 69 true 73 7,zp 75 69 74 false,
 zm 76 75,yf 77 76 true 1 8,yj 78 76 true 8 77,yl 79 76 true 78,yv .eql 80 76 true 79 2,zp 81 76 80 false,zm 82 81,yf 83 82 true 1 8,yj 84 82 true 8 83,zq 85 82 true (.eg none 1 (.t 84) (zc 1)),yi 86 82 true 85,yv .eql 87 82 true 86 7,zp 88 82 87 false,zm 89 88,ys 90 89 true 1 3 1,ys 91 89 true 2 3 2,yw 92 89 true true 28 [(iJ,(.t 90)),(e7,(.t 91))],zp 93 89 92 false,zm 0 93] ⟨[0],[],
 []⟩ (.ret)))))))
def KB:bq where
 nparams:=1
 results:=[.t 2 [none]]
 body :=
 zz [zt 2 false] ⟨[0],[],[]⟩ (zz [zm 3 0,zl 4 3,zv .leq 5 4 500,zm 2 5] ⟨[2],[],[]⟩ (.ret))
def KC:bq where
 nparams:=1
 results:=[.t 2 [none]]
 body :=
 zz [zo 2 (.mv (.c (.fU)))] ⟨[0],[],[]⟩ (zz [zm 3 0,zo 4 (.build [.aK,z0] [(0,1,(.t 3))]),zo 5 (.ou mQ (.t 4)),zm 2 5] ⟨[2],[],[]⟩ (.ret))
def Re:bq where
 nparams:=1
 results:=[.c 2 true iJ,.c 3 true e7]
 body :=
 yz [2,3] [ye 2 [z0,.aK,.aK],ye 3 [z0,.aK,.aK]] ⟨[0,2,3],[2,3],[]⟩ (yz [4] [zm 7 0,zw 8 false 52 [a0 7],zm 6 8,ze 9 6 0,ze 10 6 1,ye 4 [z0,.aK,.aK],zd 4 iJ 4 9,zm 5 10] ⟨[0,2,3,4,5],[2,3,4],[]⟩ (zz [zs 11 4 3 4,zm 12 0,zs 13 4 3 4,zm 14 5,zw 15 false 53 [a0 12,(iJ,(.t 13)),ad 4 14],zd 2 iJ 2 11,zd 3 e7 3 15] ⟨[2,3],[2,3],[]⟩ (.ret)))
def Rf:VC :=
 zz [zb .lss 10 9 8] ⟨[0,3,4,5,8,9,10],[3,4,5],[1016,1029,1035]⟩ (zx 10 0 (.seq (.block 1 (.region [.kE 5 0 1016 1] [5016] [zf 11 0 5,zj 12 5 11,zm 13 0,zw 14 false 23 [a0 13,ac 14],zo 15 (.lit none [none] [z0] 1 [(0,(.t 14))]),zo 16 (.app 5016 (some 1016) [none] 17592186044416 (.t 12) (.t 15)),zf 17 0 5,zd 5 [some 1] 17 16] ⟨[0,3,4,5,8,9],[3,4,5],[1016,1029,1035]⟩)) (zr [zv .add 18 9 1,
 zm 9 18] ⟨[0,3,4,5,8,9],[3,4,5],[1016,1029,1035]⟩)))
def Z9:VC:=.loop [.kE 5 0 1016 1] ⟨[0,3,4,5,8,9],[3,4,5],[1016,1029,1035]⟩ Rf
def Rg:VC :=
 zz [zb .lss 23 22 21] ⟨[0,4,5,21,22,23],[4,5],[1016,1029,1035]⟩ (zx 23 2 (.seq (.block 3 (.region [.kE 5 1 1029 1,.kE 5 2 1035 1] [5029,5035] [zf 24 1 5,zj 25 5 24,zm 26 0,zw 27 false 23 [a0 26,ac 3],zo 28 (.lit none [none] [z0] 1 [(0,(.t 27))]),zo 29 (.app 5029 (some 1029) [none] 17592186044416 (.t 25) (.t 28)),zf 30 2 5,zj 31 5 30,zm 32 0,zw 33 false 23 [a0 32,ac 30],
 zo 34 (.lit none [none] [z0] 1 [(0,(.t 33))]),zo 35 (.app 5035 (some 1035) [none] 17592186044416 (.t 31) (.t 34)),zf 36 1 5,zd 5 [some 1] 36 29,zf 37 2 5,zd 5 [some 1] 37 35] ⟨[0,4,5,21,22],[4,5],[1016,1029,1035]⟩)) (zr [zv .add 38 22 1,zm 22 38] ⟨[0,4,5,21,22],[4,5],[1016,1029,1035]⟩)))
def aaa:VC:=.loop [.kE 5 1 1029 1,.kE 5 2 1035 1] ⟨[0,4,5,21,22],[4,5],[1016,1029,1035]⟩ Rg
def KD:bq where
 nparams:=2
 results:=[.c 4 true uJ]
 body :=
 yz [3,4] [zu 3 1,ye 4 [.aK,.aK,.aK]] ⟨[0,3,4],[3,4],[1016,1029,1035]⟩ (yz [5] [ye 5 [.aK,.aK,.aK]] ⟨[0,3,4,5],[3,4,5],[1016,1029,1035]⟩ (.seq (zz [zf 6 0 3,zf 7 0 6,zj 8 3 7,zh 9 0] ⟨[0,3,4,5,8,9],[3,4,5],[1016,1029,1035]⟩ (.block 0 (Z9))) (.seq (zz [zf 19 2 3,zj 20 3 19,zl 21 20,zh 22 0] ⟨[0,4,5,21,22],[4,5],[1016,1029,1035]⟩ (.block 2 (aaa))) (zz [zs 39 5 3 5,zd 4 uJ 4 39] ⟨[4],[4],[1016,1029,
 1035]⟩ (.ret)))))
def Di:bq where
 nparams:=3
 results:=[.c 6 true e7,.c 7 true lF,.t 8 [none]]
 body :=
 yz [3,4,5,6,7] [zu 3 0,zu 4 1,zu 5 2,ye 6 [z0,.aK,.aK],ye 7 [.aK,.aK,.aK],zh 8 0] ⟨[3,4,5,6,7],[3,4,5,6,7],[]⟩ (.seq (zz [zs 10 3 3 3,zs 11 4 3 4,zw 12 true 54 [(iJ,(.t 10)),(e7,(.t 11))],zm 9 12] ⟨[3,4,5,6,7,9],[3,4,5,6,7],[]⟩ (zz [zm 13 9,zv .neq 14 13 0] ⟨[3,4,5,6,7,9,14],[3,4,5,6,7],[]⟩ (yc 14 (zz [zo 15 (.build [z0,.aK,.aK] []),zo 16 (.build [.aK,.aK,.aK] []),zm 17 9,zd 6 e7 6 15,
 zd 7 lF 7 16,zm 8 17] ⟨[6,7,8],[6,7],[]⟩ (.ret))))) (zz [zs 18 3 3 3,zs 19 4 3 4,zs 20 5 3 5,zw 21 true 55 [(iJ,(.t 18)),(e7,(.t 19)),(uJ,(.t 20))],ze 22 21 0,ze 23 21 1,ze 24 21 2,zd 6 e7 6 22,zd 7 lF 7 23,zm 8 24] ⟨[6,7,8],[6,7],[]⟩ (.ret)))
def yI:bq where
 nparams:=5
 results:=[.c 10 true fL,.c 11 true mP,.t 12 [none]]
 body :=
 yz [5,6,10,11] [zu 5 0,zu 6 1,ye 10 [z0,z0,.aK,.aK],ye 11 [z0,z0,z0,z0,z0,z0,z0],zh 12 0] ⟨[2,3,4,5,6,10,11],[5,6,10,11],[]⟩ (zz [zs 28 5 9 5,zs 29 6 4 6,zw 30 true 58 [(ku,(.t 28)),(fL,(.t 29))],zm 27 30,ze 31 27 0,ze 32 27 1,zm 13 31,zm 14 32] ⟨[2,3,4,5,6,10,11,13,14],[5,6,10,11],[]⟩ (.seq (zz [zm 33 14,zv .neq 34 33 0] ⟨[2,3,4,5,6,10,11,13,14,34],[5,6,10,11],[]⟩ (yc 34 (zz [zo 35 (.build [z0,
 z0,.aK,.aK] []),zo 36 (.build [z0,z0,z0,z0,z0,z0,z0] []),zm 37 14,zd 10 fL 10 35,zd 11 mP 11 36,zm 12 37] ⟨[10,11,12],[10,11],[]⟩ (.ret)))) (.seq (zz [zm 38 2,zw 39 true 57 [a0 38,ac 1073741824],zo 40 (.un .not (.t 39)),zm 41 40,ym 42 41 false 3,yw 43 41 false true 57 [a0 42,ac 1073741824],zq 44 41 false (.un .not (.t 43)),yp 45 41 true 44,zm 46 45,ym 47 46 false 4,yw 48 46 false true 57 [a0 47,
 ac 1073741824],zq 49 46 false (.un .not (.t 48)),yp 50 46 true 49] ⟨[2,3,4,5,6,10,11,13,50],[5,6,10,11],[]⟩ (yc 50 (zz [zo 51 (.build [z0,z0,.aK,.aK] []),zo 52 (.build [z0,z0,z0,z0,z0,z0,z0] []),zd 10 fL 10 51,zd 11 mP 11 52,zh 12 1] ⟨[10,11,12],[10,11],[]⟩ (.ret)))) (yz [15] [zm 53 2,zm 54 3,zf 55 0 6,zj 56 6 55,zm 57 2,zb .add 58 56 57,zo 59 (.mm false (.t 54) (.t 58)),zo 60 (.build [z0,z0,z0,
 z0,z0,z0,z0] [(0,1,(.t 53)),(1,1,(.t 59))]),ye 15 [z0,z0,z0,z0,z0,z0,z0],zd 15 mP 15 60] ⟨[2,4,5,6,10,11,13,15],[5,6,10,11,15],[]⟩ (zz [zf 61 0 6,zj 62 6 61,zm 63 2,zb .add 64 62 63,zf 65 1 15,zj 66 15 65,zb .sub 67 64 66,zm 16 67] ⟨[4,5,6,10,11,13,15,16],[5,6,10,11,15],[]⟩ (zz [zf 69 0 5,zs 70 5 6 69,zf 71 0 5,zf 72 1 71,zj 73 5 72,zw 74 true 59 [(pY,(.t 70)),a0 73],zm 68 74,ze 75 68 0,
 ze 76 68 1,zm 17 75,zm 18 76] ⟨[4,5,6,10,11,13,15,16,17],[5,6,10,11,15],[]⟩ (zz [zf 78 0 5,zs 79 5 6 78,zf 80 0 5,zf 81 5 80,zj 82 5 81,zw 83 true 59 [(pY,(.t 79)),a0 82],zm 77 83,ze 84 77 0,ze 85 77 1,zm 19 84,zm 20 85] ⟨[4,5,6,10,11,13,15,16,17,19],[5,6,10,11,15],[]⟩ (zz [zm 86 16,zm 87 17,zb .sub 88 86 87,zo 89 (.mm true (zc 0) (.t 88)),zm 21 89] ⟨[4,5,6,10,11,13,15,16,19,21],[5,6,10,11,15],
 []⟩ (yz [22] [ye 22 [z0,z0,.aK,.aK]] ⟨[4,5,6,10,11,13,15,16,19,21,22],[5,6,10,11,15,22],[]⟩ (zz [zs 91 5 9 5,zs 92 6 4 6,zm 93 4,zm 94 21,zo 95 (.mm false (.t 93) (.t 94)),zw 96 true 60 [(ku,(.t 91)),(fL,(.t 92)),a0 95],zm 90 96,ze 97 90 0,ze 98 90 1,ze 99 90 2,ze 100 90 3,zf 101 2 22,zd 22 [some 3] 101 97,zf 102 2 15,zd 15 [none] 102 98,zf 103 5 15,zd 15 [none] 103 99,zf 104 6 15,
 zd 15 [none] 104 100] ⟨[4,5,6,10,11,13,15,16,19,21,22],[5,6,10,11,15,22],[]⟩ (zz [zm 105 4,zm 106 21,zo 107 (.mm false (.t 105) (.t 106)),zf 108 2 15,zj 109 15 108,zb .sub 110 107 109,zm 23 110] ⟨[5,6,10,11,13,15,16,19,21,22,23],[5,6,10,11,15,22],[]⟩ (zz [zf 112 7 5,zj 113 5 112,zf 114 3 6,zj 115 6 114,zm 116 13,zm 117 23,zw 118 true 61 [ad 3 113,ad 2 115,a0 116,a0 117],zm 111 118,ze 119 111 0,
 ze 120 111 1,ze 121 111 2,zm 24 119,zm 25 120,zm 26 121] ⟨[10,11,15,16,19,21,22,24,25],[10,11,15,22],[]⟩ (zz [zm 122 24,zf 123 3 22,zd 22 [some 2] 123 122] ⟨[10,11,15,16,19,21,22,25],[10,11,15,22],[]⟩ (zz [zm 124 25,zm 125 21,zf 126 2 15,zj 127 15 126,zb .sub 128 125 127,zo 129 (.mm false (.t 124) (.t 128)),zf 130 3 15,zd 15 [none] 130 129] ⟨[10,11,15,16,19,22],[10,11,15,22],[]⟩ (zz [zm 131 16,
 zf 132 2 15,zj 133 15 132,zf 134 3 15,zj 135 15 134,zb .add 136 133 135,zb .sub 137 131 136,zm 16 137] ⟨[10,11,15,16,19,22],[10,11,15,22],[]⟩ (zz [zm 138 16,zm 139 19,zb .sub 140 138 139,zo 141 (.mm true (zc 0) (.t 140)),zf 142 4 15,zd 15 [none] 142 141] ⟨[10,11,15,16,22],[10,11,15,22],[]⟩ (zz [zm 143 16,zf 144 4 15,zj 145 15 144,zb .sub 146 143 145,zf 147 2 15,zj 148 15 147,zf 149 3 15,
 zj 150 15 149,zb .add 151 148 150,zo 152 (.mm false (zc 1073741824) (.t 151)),zf 153 0 22,zd 22 [none] 153 146,zf 154 1 22,zd 22 [none] 154 152] ⟨[10,11,15,22],[10,11,15,22],[]⟩ (zz [zs 155 22 4 22,zs 156 15 7 15,zd 10 fL 10 155,zd 11 mP 11 156,zh 12 0] ⟨[10,11,12],[10,11],[]⟩ (.ret)))))))))))))))))))
def Ri:VC :=
 zz [zb .lss 14 13 12] ⟨[1,2,3,11,12,13,14],[1,2,20023],[]⟩ (zx 14 0 (.seq (.block 1 (yz [5] [za 15 1 11 13,yg 16 1 15,ye 5 [.aK],zd 5 [some 1] 5 16] ⟨[1,2,3,5,11,12,13],[1,2,5,20023],[]⟩ (.region [.ov 3 20023 1,.ic 20023 21023] [1020,20023] [zm 17 3,zf 18 0 5,zj 19 5 18,zo 20 (.app 1020 none [none] 17592186044416 (.c (.aK)) (.t 19)),zo 21 (.build [.aK] [(0,1,(.t 20))]),
 zo 22 (.lit none [some 0] [.slice none 0 []] 1 [(0,(.t 21))]),zo 23 (.m9 20023 21023 [some 1] (.t 17) (.t 22)),zm 3 23] ⟨[1,2,3,11,12,13],[1,2,20023],[]⟩))) (zr [zv .add 24 13 1,zm 13 24] ⟨[1,2,3,11,12,13],[1,2,20023],[]⟩)))
def aad:VC:=.loop [.ov 3 20023 1] ⟨[1,2,3,11,12,13],[1,2,20023],[]⟩ Ri
abbrev aae(n3:Nat)(oQ:V)(mw:Int)(jB:Int)(o1:List V)(o2:List V)(Dj:List V)(G:List aW):St:=⟨[(1,.bK 1 0),(2,.bK 2 0),(3,.cb 20023 1 n3),(11,oQ),(12,.int .i64 mw),(13,.int .i64 jB)],[(1,o1),(2,o2),(20023,Dj)],[],G⟩
def KG:bq where
 nparams:=1
 results:=[.c 2 true e7]
 body :=
 yz [1,2] [zu 1 0,ye 2 [z0,.aK,.aK]] ⟨[1,2],[1,2,20023],[]⟩ (zz [zf 6 1 1,zj 7 1 6,zw 8 false 63 [ad 4 7],zf 9 1 1,zd 1 [some 4] 9 8] ⟨[1,2],[1,2,20023],[]⟩ (zz [zy 3] ⟨[1,2,3],[1,2,20023],[]⟩ (.seq (zz [zf 10 2 1,zj 11 1 10,zl 12 11,zh 13 0] ⟨[1,2,3,11,12,13],[1,2,20023],[]⟩ (.block 0 (aad))) (.seq (.region [.share 3 [some 1]] [] [zm 25 3,zf 26 2 1,zd 1 [some 1] 26 25] ⟨[1,2],[1,2,20023],
 []⟩) (zz [zs 27 1 3 1,zd 2 e7 2 27] ⟨[2],[2,20023],[]⟩ (.ret))))))
def Dk:bq where
 nparams:=2
 results:=[.t 4 [none]]
 body :=
 zz [zh 4 0] ⟨[0,1],[],[]⟩ (.seq (zz [zm 6 1,zv .lss 7 6 1,zm 8 7,ym 9 8 false 0,zq 10 8 false (.qn (.t 9)),yf 11 8 false 1 10,zq 12 8 false (.load .az none (.t 11)),ym 13 8 false 0,zq 14 8 false (.qn (.t 13)),yf 15 8 false 0 14,zq 16 8 false (.load .az none (.t 15)),yl 17 8 false 16,yb .geq 18 8 false 12 17,yp 19 8 true 18] ⟨[0,1,19],[],[]⟩ (yc 19 (zz [zh 4 0] ⟨[4],[],[]⟩ (.ret)))) (zz [zm 20 0,
 zk 21 20,zf 22 0 21,zg 23 22,zm 24 0,zk 25 24,zf 26 1 25,zg 27 26,za 28 1 23 27,zi 29 28,zm 5 29] ⟨[0,1,5],[],[]⟩ (zz [zm 30 0,zk 31 30,zf 32 1 31,zg 33 32,zv .add 34 33 1,zk 35 30,zf 36 1 35,zn (.store .az [none] (.t 36) (.t 34))] ⟨[1,5],[],[]⟩ (zz [zm 37 5,zm 38 1,zw 39 true 64 [a0 37,a0 38],zm 4 39] ⟨[4],[],[]⟩ (.ret)))))
def Rj:VC :=
 zz [zb .lss 25 24 23] ⟨[1,22,23,24,25],[1],[]⟩ (zx 25 0 (.seq (.block 1 (yz [5] [zm 26 24,za 27 10 22 24,yg 28 10 27,ye 5 [z0,.aK,z0,z0,z0,z0,z0,.aK,.aK,z0],zm 4 26,zd 5 vI 5 28] ⟨[1,4,5,22,23,24],[1,5],[]⟩ (.seq (zz [zf 29 0 5,zj 30 5 29,zv .lss 31 30 0,zm 32 31,yf 33 32 false 0 5,yj 34 32 false 5 33,yf 35 32 false 0 1,yf 36 32 false 0 35,yj 37 32 false 1 36,yb .geq 38 32 false 34 37,
 yp 39 32 true 38] ⟨[1,4,5,22,23,24,39],[1,5],[]⟩ (yc 39 (zz [zh 2 41] ⟨[2],[],[]⟩ (.ret)))) (.seq (zz [zm 40 4,zv .gtr 41 40 0,zm 42 41,yf 43 42 true 0 5,yj 44 42 true 5 43,yf 45 42 true 2 1,yj 46 42 true 1 45,ym 47 42 true 4,yv .sub 48 42 true 47 1,ya 49 42 true 10 46 48,yf 50 42 true 0 49,yi 51 42 true 50,yb .leq 52 42 true 44 51,zp 53 42 52 false] ⟨[1,5,22,23,24,53],[1,5],
 []⟩ (yc 53 (zz [zh 2 4] ⟨[2],[],[]⟩ (.ret)))) (zz [zf 54 1 5,zs 55 5 9 54,zw 56 true 68 [(ku,(.t 55))],zm 6 56] ⟨[1,6,22,23,24],[1],[]⟩ (zz [zm 57 6,zv .neq 58 57 0] ⟨[1,6,22,23,24,58],[1],[]⟩ (yc 58 (zz [zm 59 6,zm 2 59] ⟨[2],[],[]⟩ (.ret))))))))) (zr [zv .add 60 24 1,zm 24 60] ⟨[1,22,23,24],[1],[]⟩)))
def aaf:VC:=.loop [] ⟨[1,22,23,24],[1],[]⟩ Rj
abbrev aag(tH:V)(rB:Int)(p7:Int)(o1:List V)(G:List aW):St:=⟨[(1,.bK 1 0),(22,tH),(23,.int .i64 rB),(24,.int .i64 p7)],[(1,o1)],[],G⟩
def A5:bq where
 nparams:=1
 results:=[.t 2 [none]]
 body :=
 yz [1] [zu 1 0,zh 2 0] ⟨[1],[1],[]⟩ (.seq (zz [zf 7 0 1,zs 8 1 2 7,zw 9 true 67 [(tE,(.t 8))],zm 3 9] ⟨[1,3],[1],[]⟩ (zz [zm 10 3,zv .neq 11 10 0] ⟨[1,3,11],[1],[]⟩ (yc 11 (zz [zm 12 3,zm 2 12] ⟨[2],[],[]⟩ (.ret))))) (.seq (zz [zf 13 0 1,zf 14 0 13,zj 15 1 14,zv .gtr 16 15 12] ⟨[1,16],[1],[]⟩ (yc 16 (zz [zh 2 41] ⟨[2],[],[]⟩ (.ret)))) (.seq (zz [zf 17 2 1,zj 18 1 17,zl 19 18,zv .gtr 20 19 6] ⟨[1,
 20],[1],[]⟩ (yc 20 (zz [zh 2 10] ⟨[2],[],[]⟩ (.ret)))) (.seq (zz [zf 21 2 1,zj 22 1 21,zl 23 22,zh 24 0] ⟨[1,22,23,24],[1],[]⟩ (.block 0 (aaf))) (zz [zh 2 0] ⟨[2],[],[]⟩ (.ret))))))
def Rk:VC :=
 zz [zb .lss 25 24 23] ⟨[1,22,23,24,25],[1],[]⟩ (zx 25 0 (.seq (.block 1 (yz [5] [zm 26 24,za 27 10 22 24,yg 28 10 27,ye 5 [z0,.aK,z0,z0,z0,z0,z0,.aK,.aK,z0],zm 4 26,zd 5 vI 5 28] ⟨[1,4,5,22,23,24],[1,5],[]⟩ (.seq (zz [zf 29 0 5,zj 30 5 29,zv .lss 31 30 0,zm 32 31,yf 33 32 false 0 5,yj 34 32 false 5 33,yf 35 32 false 0 1,yf 36 32 false 0 35,yj 37 32 false 1 36,yb .geq 38 32 false 34 37,
 yp 39 32 true 38] ⟨[1,4,5,22,23,24,39],[1,5],[]⟩ (yc 39 (zz [zh 2 41] ⟨[2],[],[]⟩ (.ret)))) (.seq (zz [zm 40 4,zv .gtr 41 40 0,zm 42 41,yf 43 42 true 0 5,yj 44 42 true 5 43,yf 45 42 true 2 1,yj 46 42 true 1 45,ym 47 42 true 4,yv .sub 48 42 true 47 1,ya 49 42 true 10 46 48,yf 50 42 true 0 49,yi 51 42 true 50,yb .leq 52 42 true 44 51,zp 53 42 52 false] ⟨[1,5,22,23,24,53],[1,5],
 []⟩ (yc 53 (zz [zh 2 4] ⟨[2],[],[]⟩ (.ret)))) (zz [zf 54 1 5,zs 55 5 9 54,zw 56 true 69 [(ku,(.t 55))],zm 6 56] ⟨[1,6,22,23,24],[1],[]⟩ (zz [zm 57 6,zv .neq 58 57 0] ⟨[1,6,22,23,24,58],[1],[]⟩ (yc 58 (zz [zm 59 6,zm 2 59] ⟨[2],[],[]⟩ (.ret))))))))) (zr [zv .add 60 24 1,zm 24 60] ⟨[1,22,23,24],[1],[]⟩)))
def aah:VC:=.loop [] ⟨[1,22,23,24],[1],[]⟩ Rk
abbrev aai(tH:V)(rB:Int)(p7:Int)(o1:List V)(G:List aW):St:=⟨[(1,.bK 1 0),(22,tH),(23,.int .i64 rB),(24,.int .i64 p7)],[(1,o1)],[],G⟩
def A6:bq where
 nparams:=1
 results:=[.t 2 [none]]
 body :=
 yz [1] [zu 1 0,zh 2 0] ⟨[1],[1],[]⟩ (.seq (zz [zf 7 0 1,zs 8 1 2 7,zw 9 true 56 [(tE,(.t 8))],zm 3 9] ⟨[1,3],[1],[]⟩ (zz [zm 10 3,zv .neq 11 10 0] ⟨[1,3,11],[1],[]⟩ (yc 11 (zz [zm 12 3,zm 2 12] ⟨[2],[],[]⟩ (.ret))))) (.seq (zz [zf 13 0 1,zf 14 0 13,zj 15 1 14,zv .gtr 16 15 12] ⟨[1,16],[1],[]⟩ (yc 16 (zz [zh 2 41] ⟨[2],[],[]⟩ (.ret)))) (.seq (zz [zf 17 2 1,zj 18 1 17,zl 19 18,zv .gtr 20 19 6] ⟨[1,
 20],[1],[]⟩ (yc 20 (zz [zh 2 10] ⟨[2],[],[]⟩ (.ret)))) (.seq (zz [zf 21 2 1,zj 22 1 21,zl 23 22,zh 24 0] ⟨[1,22,23,24],[1],[]⟩ (.block 0 (aah))) (zz [zh 2 0] ⟨[2],[],[]⟩ (.ret))))))
def F6:bq where
 nparams:=2
 results:=[.t 4 [none]]
 body :=
 yz [2,3] [zu 2 0,zu 3 1,zt 4 false] ⟨[2,3],[2,3],[]⟩ (zz [zs 5 2 3 2,zw 6 true 26 [(iJ,(.t 5))],zv .eql 7 6 0,zm 8 7,ys 9 8 true 2 3 2,ys 10 8 true 3 3 3,yw 11 8 true true 70 [(iJ,(.t 9)),(e7,(.t 10))],zp 12 8 11 false,zm 4 12] ⟨[4],[],[]⟩ (.ret))
def Rl:VC :=
 zz [zb .lss 41 40 39] ⟨[2,3,38,39,40,41],[2,3],[]⟩ (zx 41 0 (.seq (.block 1 (yz [6] [zm 42 40,za 43 10 38 40,yg 44 10 43,ye 6 [z0,.aK,z0,z0,z0,z0,z0,.aK,.aK,z0],zm 5 42,zd 6 vI 6 44] ⟨[2,3,5,6,38,39,40],[2,3,6],[]⟩ (zz [zf 45 1 6,zs 46 6 9 45,zf 47 1 3,zj 48 3 47,zm 49 5,za 50 4 48 49,yg 51 4 50,zw 52 true 72 [(ku,(.t 46)),(fL,(.t 51))],zo 53 (.un .not (.t 52))] ⟨[2,3,38,39,40,53],[2,3],
 []⟩ (yc 53 (zz [zt 4 false] ⟨[4],[],[]⟩ (.ret)))))) (zr [zv .add 54 40 1,zm 40 54] ⟨[2,3,38,39,40],[2,3],[]⟩)))
def aaj:VC:=.loop [] ⟨[2,3,38,39,40],[2,3],[]⟩ Rl
abbrev aak(yJ:V)(KH:Int)(yK:Int)(o2:List V)(o3:List V)(G:List aW):St:=⟨[(2,.bK 2 0),(3,.bK 3 0),(38,yJ),(39,.int .i64 KH),(40,.int .i64 yK)],[(2,o2),(3,o3)],[],G⟩
def Rn:VC :=
 zz [zb .lss 60 59 58] ⟨[3,57,58,59,60],[3],[]⟩ (zx 60 2 (.seq (.block 3 (yz [8] [zm 61 59,za 62 4 57 59,yg 63 4 62,ye 8 [z0,z0,.aK,z0],zm 7 61,zd 8 tD 8 63] ⟨[3,7,8,57,58,59],[3,8],[]⟩ (zz [zf 64 2 8,zs 65 8 2 64,zf 66 2 3,zj 67 3 66,zm 68 7,za 69 1 67 68,yg 70 1 69,zw 71 true 73 [(mQ,(.t 65)),ad 1 70],zo 72 (.un .not (.t 71))] ⟨[3,57,58,59,72],[3],[]⟩ (yc 72 (zz [zt 4 false] ⟨[4],[],
 []⟩ (.ret)))))) (zr [zv .add 73 59 1,zm 59 73] ⟨[3,57,58,59],[3],[]⟩)))
def aal:VC:=.loop [] ⟨[3,57,58,59],[3],[]⟩ Rn
abbrev aam(yL:V)(yM:Int)(yN:Int)(o3:List V)(G:List aW):St:=⟨[(3,.bK 3 0),(57,yL),(58,.int .i64 yM),(59,.int .i64 yN)],[(3,o3)],[],G⟩
def yO:bq where
 nparams:=2
 results:=[.t 4 [none]]
 body :=
 yz [2,3] [zu 2 0,zu 3 1,zt 4 false] ⟨[2,3],[2,3],[]⟩ (.seq (zz [zs 9 2 3 2,zw 10 true 27 [(iJ,(.t 9))],zv .neq 11 10 0,zm 12 11,yf 13 12 false 0 3,yj 14 12 false 3 13,yw 15 12 false true 71 [a0 14,ac 16777216],zq 16 12 false (.un .not (.t 15)),yp 17 12 true 16,zm 18 17,yf 19 18 false 1 3,yj 20 18 false 3 19,yl 21 18 false 20,yf 22 18 false 2 2,yj 23 18 false 2 22,yl 24 18 false 23,
 yb .neq 25 18 false 21 24,yp 26 18 true 25,zm 27 26,yf 28 27 false 2 3,yj 29 27 false 3 28,yl 30 27 false 29,yf 31 27 false 0 2,yf 32 27 false 1 31,yj 33 27 false 2 32,yl 34 27 false 33,yb .neq 35 27 false 30 34,yp 36 27 true 35] ⟨[2,3,36],[2,3],[]⟩ (yc 36 (zz [zt 4 false] ⟨[4],[],[]⟩ (.ret)))) (.seq (zz [zf 37 2 2,zj 38 2 37,zl 39 38,zh 40 0] ⟨[2,3,38,39,40],[2,3],
 []⟩ (.block 0 (aaj))) (.seq (zz [zf 55 0 2,zf 56 1 55,zj 57 2 56,zl 58 57,zh 59 0] ⟨[3,57,58,59],[3],[]⟩ (.block 2 (aal))) (zz [zt 4 true] ⟨[4],[],[]⟩ (.ret)))))
def Dl:bq where
 nparams:=2
 results:=[.c 4 true e7,.t 5 [none]]
 body :=
 yz [2,4] [zu 2 0,ye 4 [z0,.aK,.aK],zh 5 0] ⟨[1,2,4],[2,4],[]⟩ (.seq (zz [zs 9 2 3 2,zw 10 true 26 [(iJ,(.t 9))],zm 6 10] ⟨[1,2,4,6],[2,4],[]⟩ (zz [zm 11 6,zv .neq 12 11 0] ⟨[1,2,4,6,12],[2,4],[]⟩ (yc 12 (zz [zo 13 (.build [z0,.aK,.aK] []),zm 14 6,zd 4 e7 4 13,zm 5 14] ⟨[4,5],[4],[]⟩ (.ret))))) (.seq (zz [zs 15 2 3 2,zm 16 1,zw 17 true 74 [(iJ,(.t 15)),ad 4 16],zo 18 (.un .not (.t 17))] ⟨[1,2,4,
 18],[2,4],[]⟩ (yc 18 (zz [zo 19 (.build [z0,.aK,.aK] []),zd 4 e7 4 19,zh 5 3] ⟨[4,5],[4],[]⟩ (.ret)))) (zz [zf 21 0 2,zs 22 2 2 21,zw 23 true 75 [(tE,(.t 22))],zm 20 23,ze 24 20 0,ze 25 20 1,zm 7 24,zm 8 25] ⟨[1,4,7,8],[4],[]⟩ (.seq (zz [zm 26 8,zv .neq 27 26 0] ⟨[1,4,7,8,27],[4],[]⟩ (yc 27 (zz [zo 28 (.build [z0,.aK,.aK] []),zm 29 8,zd 4 e7 4 28,zm 5 29] ⟨[4,5],[4],[]⟩ (.ret)))) (zz [zm 30 1,
 zw 31 false 76 [ad 4 30],zm 32 7,zo 33 (.build [z0,.aK,.aK] [(1,1,(.t 31)),(2,1,(.t 32))]),zd 4 e7 4 33,zh 5 0] ⟨[4,5],[4],[]⟩ (.ue [.wA 4 [fL]]))))))
def Dn:bq where
 nparams:=2
 results:=[.c 4 true e7,.t 5 [none]]
 body :=
 yz [2,4] [zu 2 0,ye 4 [z0,.aK,.aK],zh 5 0] ⟨[1,2,4],[2,4],[]⟩ (.seq (zz [zs 10 2 3 2,zw 11 true 27 [(iJ,(.t 10))],zm 6 11] ⟨[1,2,4,6],[2,4],[]⟩ (zz [zm 12 6,zv .neq 13 12 0] ⟨[1,2,4,6,13],[2,4],[]⟩ (yc 13 (zz [zo 14 (.build [z0,.aK,.aK] []),zm 15 6,zd 4 e7 4 14,zm 5 15] ⟨[4,5],[4],[]⟩ (.ret))))) (zz [zf 17 0 2,zs 18 2 2 17,zw 19 true 77 [(tE,(.t 18))],zm 16 19,ze 20 16 0,ze 21 16 1,zm 7 20,
 zm 8 21] ⟨[1,2,4,7],[2,4],[]⟩ (yz [9] [zm 22 1,zw 23 false 63 [ad 4 22],zm 24 7,zo 25 (.build [z0,.aK,.aK] [(1,1,(.t 23)),(2,1,(.t 24))]),ye 9 [z0,.aK,.aK],zd 9 e7 9 25] ⟨[2,4,9],[2,4,9],[]⟩ (.seq (.seq (.region [.wA 9 [fL]] [] [zs 26 2 3 2,zs 27 9 3 9,zw 28 true 29 [(iJ,(.t 26)),(e7,(.t 27))],zo 29 (.un .not (.t 28))] ⟨[4,9,29],[4,9],[]⟩) (yc 29 (zz [zo 30 (.build [z0,.aK,.aK] []),zd 4 e7 4 30,
 zh 5 3] ⟨[4,5],[4],[]⟩ (.ret)))) (.seq (.region [.wA 9 [fL]] [] [zs 31 9 3 9,zd 4 e7 4 31,zh 5 0] ⟨[4,5],[4],[]⟩) (.ret))))))
def aog:VC :=
 zz [zb .lss 83 82 81] ⟨[5,6,7,9,11,12,80,81,82,83],[5,6,7,9,77,20073],[]⟩ (zx 83 0 (.seq (.block 1 (yz [14] [zm 84 82,za 85 4 80 82,yg 86 4 85,ye 14 [z0,z0,.aK,z0],zm 13 84,zd 14 tD 14 86] ⟨[5,6,7,9,11,12,13,14,80,81,82],[5,6,7,9,14,77,20073],[]⟩ (zz [zm 87 11,zf 88 1 14,zj 89 14 88,za 90 1 87 89,zj 91 20073 90,zf 92 2 9,zj 93 9 92,zm 94 13,za 95 1 93 94,zi 96 95,zb .add 97 91 96,za 98 1 87 89,
 zd 20073 [none] 98 97] ⟨[5,6,7,9,11,12,13,14,80,81,82],[5,6,7,9,14,77,20073],[]⟩ (zz [zf 99 2 7,zj 100 7 99,zm 101 13,za 102 1 100 101,yg 103 1 102,zw 104 true 65 [ad 1 103],zf 105 2 6,zj 106 6 105,zm 107 13,za 108 1 106 107,yg 109 1 108,zw 110 true 65 [ad 1 109],zb .sub 111 104 110,zf 112 2 14,zf 113 1 112,zj 114 14 113,zf 115 1 9,zj 116 9 115,zf 117 0 14,zj 118 14 117,za 119 1 116 118,
 zi 120 119,zf 121 2 9,zj 122 9 121,zm 123 13,za 124 1 122 123,zi 125 124,zb .sub 126 120 125,zb .mul 127 114 126,zb .neq 128 111 127] ⟨[5,6,7,9,11,12,80,81,82,128],[5,6,7,9,77,20073],[]⟩ (yc 128 (zz [zt 10 false] ⟨[10],[],[]⟩ (.ret))))))) (zr [zv .add 129 82 1,zm 82 129] ⟨[5,6,7,9,11,12,80,81,82],[5,6,7,9,77,20073],[]⟩)))
def aqk:VC:=.loop [] ⟨[5,6,7,9,11,12,80,81,82],[5,6,7,9,77,20073],[]⟩ aog
abbrev aql(n11:Nat)(n12:Nat)(KN:V)(x81:Int)(x82:Int)(o5:List V)(o6:List V)(o7:List V)(o9:List V)(o77:List V)(akb:List V)(G:List aW):St:=⟨[(5,.bK 5 0),(6,.bK 6 0),(7,.bK 7 0),(9,.bK 9 0),(11,.cb 20073 1 n11),(12,.cb 77 1 n12),(80,KN),(81,.int .i64 x81),(82,.int .i64 x82)],[(5,o5),(6,o6),(7,o7),(9,o9),(77,o77),(20073,akb)],[],G⟩
def aoh:VC :=
 zz [zb .lss 137 136 135] ⟨[6,7,9,11,12,134,135,136,137],[6,7,9,77,20073],[]⟩ (zx 137 2 (.seq (.block 3 (yz [16] [zm 138 136,za 139 10 134 136,yg 140 10 139,ye 16 [z0,.aK,z0,z0,z0,z0,z0,.aK,.aK,z0],zm 15 138,zd 16 vI 16 140] ⟨[6,7,9,11,12,15,16,134,135,136],[6,7,9,16,77,20073],[]⟩ (yz [17] [zf 141 0 9,zj 142 9 141,zm 143 15,za 144 7 142 143,yg 145 7 144,ye 17 [z0,z0,z0,z0,z0,z0,z0],
 zd 17 mP 17 145] ⟨[6,7,9,11,12,15,16,17,134,135,136],[6,7,9,16,17,77,20073],[]⟩ (.seq (zz [zf 146 1 6,zj 147 6 146,zm 148 15,za 149 4 147 148,yg 150 4 149,zf 151 1 7,zj 152 7 151,zm 153 15,za 154 4 152 153,yg 155 4 154,zs 156 17 7 17,zw 157 true 92 [(fL,(.t 150)),(fL,(.t 155)),(mP,(.t 156))],zo 158 (.un .not (.t 157)),zm 159 158,yf 160 159 false 0 17,yj 161 159 false 17 160,ym 162 159 false 11,
 yf 163 159 false 0 16,yj 164 159 false 16 163,ya 165 159 false 1 162 164,yj 166 159 false 20073 165,yb .neq 167 159 false 161 166,yp 168 159 true 167] ⟨[6,7,9,11,12,16,17,134,135,136,168],[6,7,9,16,17,77,20073],[]⟩ (yc 168 (zz [zt 10 false] ⟨[10],[],[]⟩ (.ret)))) (zr [zm 169 12,zf 170 0 16,zj 171 16 170,zs 172 17 7 17,zw 173 true 93 [(mP,(.t 172))],za 174 1 169 171,zd 77 [none] 174 173] ⟨[6,7,9,
 11,12,134,135,136],[6,7,9,77,20073],[]⟩))))) (zr [zv .add 175 136 1,zm 136 175] ⟨[6,7,9,11,12,134,135,136],[6,7,9,77,20073],[]⟩)))
def aqm:VC:=.loop [] ⟨[6,7,9,11,12,134,135,136],[6,7,9,77,20073],[]⟩ aoh
abbrev aqn(n11:Nat)(n12:Nat)(aqo:V)(aqp:Int)(aqq:Int)(o6:List V)(o7:List V)(o9:List V)(o77:List V)(akb:List V)(G:List aW):St:=⟨[(6,.bK 6 0),(7,.bK 7 0),(9,.bK 9 0),(11,.cb 20073 1 n11),(12,.cb 77 1 n12),(134,aqo),(135,.int .i64 aqp),(136,.int .i64 aqq)],[(6,o6),(7,o7),(9,o9),(77,o77),(20073,akb)],[],G⟩
def zU:bq where
 nparams:=5
 results:=[.t 10 [none]]
 body :=
 yz [5,6,7,8,9] [zu 5 0,zu 6 1,zu 7 2,zu 8 3,zu 9 4,zt 10 false] ⟨[5,6,7,8,9],[5,6,7,8,9],[]⟩ (.seq (zz [zs 18 5 3 5,zs 19 6 3 6,zw 20 true 28 [(iJ,(.t 18)),(e7,(.t 19))],zo 21 (.un .not (.t 20)),zm 22 21,ys 23 22 false 5 3 5,ys 24 22 false 7 3 7,yw 25 22 false true 70 [(iJ,(.t 23)),(e7,(.t 24))],zq 26 22 false (.un .not (.t 25)),yp 27 22 true 26,zm 28 27,ys 29 28 false 5 3 5,ys 30 28 false 8 3 8,
 yw 31 28 false true 87 [(iJ,(.t 29)),(uJ,(.t 30))],zq 32 28 false (.un .not (.t 31)),yp 33 28 true 32,zm 34 33,yf 35 34 false 0 9,yj 36 34 false 9 35,yl 37 34 false 36,yf 38 34 false 2 5,yj 39 34 false 5 38,yl 40 34 false 39,yb .neq 41 34 false 37 40,yp 42 34 true 41,zm 43 42,yf 44 43 false 1 9,yj 45 43 false 9 44,yl 46 43 false 45,yf 47 43 false 0 5,yf 48 43 false 0 47,yj 49 43 false 5 48,
 yb .neq 50 43 false 46 49,yp 51 43 true 50,zm 52 51,yf 53 52 false 2 9,yj 54 52 false 9 53,yl 55 52 false 54,yf 56 52 false 0 5,yf 57 52 false 1 56,yj 58 52 false 5 57,yl 59 52 false 58,yb .neq 60 52 false 55 59,yp 61 52 true 60] ⟨[5,6,7,8,9,61],[5,6,7,8,9],[]⟩ (yc 61 (zz [zt 10 false] ⟨[10],[],[]⟩ (.ret)))) (.seq (zz [zf 62 0 8,zj 63 8 62,zf 64 1 9,zj 65 9 64,zf 66 2 9,zj 67 9 66,
 zo 68 (.lit none [some 1] [.slice none 1 []] 3 [(0,(.t 63)),(1,(.t 65)),(2,(.t 67))]),zw 69 true 89 [ad 1 68],zw 70 false 88 [ad 1 69,([none],(.c (.fn 90 [])))]] ⟨[5,6,7,8,9,70],[5,6,7,8,9],[]⟩ (yc 70 (zz [zt 10 false] ⟨[10],[],[]⟩ (.ret)))) (yz [20073,77] [zf 71 0 8,zj 72 8 71,zo 73 (.own (.c (.fn 91 [])) [ad 1 72] 20073 0),zf 74 0 5,zf 75 0 74,zj 76 5 75,zo 77 (.mf 77 [z0] (.t 76)),zm 11 73,
 zm 12 77] ⟨[5,6,7,9,11,12],[5,6,7,9,77,20073],[]⟩ (.seq (zz [zf 78 0 5,zf 79 1 78,zj 80 5 79,zl 81 80,zh 82 0] ⟨[5,6,7,9,11,12,80,81,82],[5,6,7,9,77,20073],[]⟩ (.block 0 (aqk))) (zz [zm 130 12,zm 131 11,zo 132 (.qm 77 (some 20073) (.t 130) (.t 131))] ⟨[5,6,7,9,11,12],[5,6,7,9,77,20073],[]⟩ (.seq (zz [zf 133 2 5,zj 134 5 133,zl 135 134,zh 136 0] ⟨[6,7,9,11,12,134,135,136],[6,7,9,77,20073],
 []⟩ (.block 2 (aqm))) (.seq (.region [.freeze 12 [none]] [] [zm 176 12,zf 177 1 9,zj 178 9 177,zw 179 true 84 [ad 1 176,ad 1 178],zm 10 179] ⟨[10],[],[]⟩) (.ret))))))))
def aoi:VC :=
 zz [zb .lss 108 107 106] ⟨[5,6,7,9,11,105,106,107,108],[5,6,7,9,20102],[]⟩ (zx 108 0 (.seq (.block 1 (yz [13] [zm 109 107,za 110 4 105 107,yg 111 4 110,ye 13 [z0,z0,.aK,z0],zm 12 109,zd 13 tD 13 111] ⟨[5,6,7,9,11,12,13,105,106,107],[5,6,7,9,13,20102],[]⟩ (zr [zm 112 11,zf 113 1 13,zj 114 13 113,za 115 1 112 114,zj 116 20102 115,zf 117 2 9,zj 118 9 117,zm 119 12,za 120 1 118 119,zi 121 120,
 zb .add 122 116 121,za 123 1 112 114,zd 20102 [none] 123 122] ⟨[5,6,7,9,11,105,106,107],[5,6,7,9,20102],[]⟩))) (zr [zv .add 124 107 1,zm 107 124] ⟨[5,6,7,9,11,105,106,107],[5,6,7,9,20102],[]⟩)))
def aqr:VC:=.loop [] ⟨[5,6,7,9,11,105,106,107],[5,6,7,9,20102],[]⟩ aoi
abbrev aqs(n11:Nat)(aqt:V)(aqu:Int)(aqv:Int)(o5:List V)(o6:List V)(o7:List V)(o9:List V)(abC:List V)(G:List aW):St:=⟨[(5,.bK 5 0),(6,.bK 6 0),(7,.bK 7 0),(9,.bK 9 0),(11,.cb 20102 1 n11),(105,aqt),(106,.int .i64 aqu),(107,.int .i64 aqv)],[(5,o5),(6,o6),(7,o7),(9,o9),(20102,abC)],[],G⟩
def aoj:VC :=
 zz [zb .lss 141 140 139] ⟨[5,6,7,9,11,14,15,16,126,127,128,138,139,140,141],[5,6,7,9,20102],[]⟩ (zx 141 4 (.seq (.block 5 (yz [18] [zm 142 140,za 143 10 138 140,yg 144 10 143,ye 18 [z0,.aK,z0,z0,z0,z0,z0,.aK,.aK,z0],zm 17 142,zd 18 vI 18 144] ⟨[5,6,7,9,11,14,15,16,17,18,126,127,128,138,139,140],[5,6,7,9,18,20102],[]⟩ (zz [zf 145 0 18,zj 146 18 145,zm 147 14,zb .eql 148 146 147] ⟨[5,6,7,9,11,14,
 15,16,17,126,127,128,138,139,140,148],[5,6,7,9,20102],[]⟩ (yc 148 (zz [zf 149 0 9,zj 150 9 149,zm 151 17,za 152 7 150 151,yg 153 7 152,zw 154 true 95 [(mP,(.t 153))],zm 16 154] ⟨[5,6,7,9,11,14,15,16,17,126,127,128,138,139,140],[5,6,7,9,20102],[]⟩ (zz [zf 155 1 6,zj 156 6 155,zm 157 17,za 158 4 156 157,yg 159 4 158,zf 160 1 7,zj 161 7 160,zm 162 17,za 163 4 161 162,yg 164 4 163,zf 165 0 9,
 zj 166 9 165,zm 167 17,za 168 7 166 167,yg 169 7 168,zw 170 true 96 [(fL,(.t 159)),(fL,(.t 164)),(mP,(.t 169))],zo 171 (.un .not (.t 170)),zm 172 171,yf 173 172 false 0 9,yj 174 172 false 9 173,ym 175 172 false 17,ya 176 172 false 7 174 175,yf 177 172 false 0 176,yi 178 172 false 177,ym 179 172 false 11,ym 180 172 false 14,ya 181 172 false 1 179 180,yj 182 172 false 20102 181,
 yb .neq 183 172 false 178 182,yp 184 172 true 183] ⟨[5,6,7,9,11,14,15,16,126,127,128,138,139,140,184],[5,6,7,9,20102],[]⟩ (yc 184 (zz [zt 10 false] ⟨[10],[],[]⟩ (.ret))))))))) (zr [zv .add 185 140 1,zm 140 185] ⟨[5,6,7,9,11,14,15,16,126,127,128,138,139,140],[5,6,7,9,20102],[]⟩)))
def aqw:VC:=.loop [] ⟨[5,6,7,9,11,14,15,16,126,127,128,138,139,140],[5,6,7,9,20102],[]⟩ aoj
abbrev aqx(n11:Nat)(lH:Int)(mz:Int)(tK:Int)(akc:V)(akf:Int)(akh:Int)(aqy:V)(aqz:Int)(aqA:Int)(o5:List V)(o6:List V)(o7:List V)(o9:List V)(abC:List V)(G:List aW):St:=⟨[(5,.bK 5 0),(6,.bK 6 0),(7,.bK 7 0),(9,.bK 9 0),(11,.cb 20102 1 n11),(14,.int .i64 lH),(15,.int .i64 mz),(16,.int .i64 tK),(126,akc),(127,.int .i64 akf),(128,.int .i64 akh),(138,aqy),(139,.int .i64 aqz),(140,.int .i64 aqA)],[(5,o5),
 (6,o6),(7,o7),(9,o9),(20102,abC)],[],G⟩
def aoK:VC :=
 zz [zb .lss 129 128 127] ⟨[5,6,7,9,11,126,127,128,129],[5,6,7,9,20102],[]⟩ (zx 129 2 (.seq (.block 3 (zz [zm 130 128,za 131 1 126 128,zi 132 131,zm 14 130,zm 15 132] ⟨[5,6,7,9,11,14,15,126,127,128],[5,6,7,9,20102],[]⟩ (zz [zm 133 11,zm 134 14,za 135 1 133 134,zj 136 20102 135,zm 16 136] ⟨[5,6,7,9,11,14,15,16,126,127,128],[5,6,7,9,20102],[]⟩ (.seq (zz [zf 137 2 5,zj 138 5 137,zl 139 138,
 zh 140 0] ⟨[5,6,7,9,11,14,15,16,126,127,128,138,139,140],[5,6,7,9,20102],[]⟩ (.block 4 (aqw))) (zz [zm 186 15,zm 187 16,zb .neq 188 186 187] ⟨[5,6,7,9,11,126,127,128,188],[5,6,7,9,20102],[]⟩ (yc 188 (zz [zt 10 false] ⟨[10],[],[]⟩ (.ret)))))))) (zr [zv .add 189 128 1,zm 128 189] ⟨[5,6,7,9,11,126,127,128],[5,6,7,9,20102],[]⟩)))
def aqB:VC:=.loop [] ⟨[5,6,7,9,11,126,127,128],[5,6,7,9,20102],[]⟩ aoK
abbrev aqC(n11:Nat)(akc:V)(akf:Int)(akh:Int)(o5:List V)(o6:List V)(o7:List V)(o9:List V)(abC:List V)(G:List aW):St:=⟨[(5,.bK 5 0),(6,.bK 6 0),(7,.bK 7 0),(9,.bK 9 0),(11,.cb 20102 1 n11),(126,akc),(127,.int .i64 akf),(128,.int .i64 akh)],[(5,o5),(6,o6),(7,o7),(9,o9),(20102,abC)],[],G⟩
def aoL:VC :=
 zz [zb .lss 195 194 193] ⟨[6,7,9,192,193,194,195],[6,7,9],[]⟩ (zx 195 6 (.seq (.block 7 (yz [20] [zm 196 194,za 197 4 192 194,yg 198 4 197,ye 20 [z0,z0,.aK,z0],zm 19 196,zd 20 tD 20 198] ⟨[6,7,9,19,20,192,193,194],[6,7,9,20],[]⟩ (zz [zf 199 1 9,zj 200 9 199,zf 201 0 20,zj 202 20 201,za 203 1 200 202,zi 204 203,zf 205 2 9,zj 206 9 205,zm 207 19,za 208 1 206 207,zi 209 208,zb .sub 210 204 209,
 zf 211 2 20,zf 212 1 211,zj 213 20 212,zb .mul 214 210 213,zf 215 2 7,zj 216 7 215,zm 217 19,za 218 1 216 217,yg 219 1 218,zw 220 true 66 [ad 1 219],zf 221 2 6,zj 222 6 221,zm 223 19,za 224 1 222 223,yg 225 1 224,zw 226 true 66 [ad 1 225],zb .sub 227 220 226,zb .neq 228 214 227] ⟨[6,7,9,192,193,194,228],[6,7,9],[]⟩ (yc 228 (zz [zt 10 false] ⟨[10],[],[]⟩ (.ret)))))) (zr [zv .add 229 194 1,
 zm 194 229] ⟨[6,7,9,192,193,194],[6,7,9],[]⟩)))
def aqD:VC:=.loop [] ⟨[6,7,9,192,193,194],[6,7,9],[]⟩ aoL
abbrev aqE(aqF:V)(aqG:Int)(aqH:Int)(o6:List V)(o7:List V)(o9:List V)(G:List aW):St:=⟨[(6,.bK 6 0),(7,.bK 7 0),(9,.bK 9 0),(192,aqF),(193,.int .i64 aqG),(194,.int .i64 aqH)],[(6,o6),(7,o7),(9,o9)],[],G⟩
def tP:bq where
 nparams:=5
 results:=[.t 10 [none]]
 body :=
 yz [5,6,7,8,9] [zu 5 0,zu 6 1,zu 7 2,zu 8 3,zu 9 4,zt 10 false] ⟨[5,6,7,8,9],[5,6,7,8,9],[]⟩ (.seq (zz [zs 21 5 3 5,zs 22 6 3 6,zw 23 true 29 [(iJ,(.t 21)),(e7,(.t 22))],zo 24 (.un .not (.t 23)),zm 25 24,ys 26 25 false 5 3 5,ys 27 25 false 7 3 7,yw 28 25 false true 29 [(iJ,(.t 26)),(e7,(.t 27))],zq 29 25 false (.un .not (.t 28)),yp 30 25 true 29,zm 31 30,yf 32 31 false 0 8,yj 33 31 false 8 32,
 yl 34 31 false 33,yf 35 31 false 0 5,yf 36 31 false 0 35,yj 37 31 false 5 36,yb .neq 38 31 false 34 37,yp 39 31 true 38,zm 40 39,yf 41 40 false 1 8,yj 42 40 false 8 41,yl 43 40 false 42,yf 44 40 false 2 5,yj 45 40 false 5 44,yl 46 40 false 45,yb .neq 47 40 false 43 46,yp 48 40 true 47,zm 49 48,yf 50 49 false 2 8,yj 51 49 false 8 50,yl 52 49 false 51,yf 53 49 false 2 5,yj 54 49 false 5 53,
 yl 55 49 false 54,yb .neq 56 49 false 52 55,yp 57 49 true 56] ⟨[5,6,7,8,9,57],[5,6,7,8,9],[]⟩ (yc 57 (zz [zt 10 false] ⟨[10],[],[]⟩ (.ret)))) (.seq (zz [zf 58 0 9,zj 59 9 58,zl 60 59,zf 61 2 5,zj 62 5 61,zl 63 62,zb .neq 64 60 63,zm 65 64,yf 66 65 false 1 9,yj 67 65 false 9 66,yl 68 65 false 67,yf 69 65 false 0 5,yf 70 65 false 0 69,yj 71 65 false 5 70,yb .neq 72 65 false 68 71,yp 73 65 true 72,
 zm 74 73,yf 75 74 false 2 9,yj 76 74 false 9 75,yl 77 74 false 76,yf 78 74 false 0 5,yf 79 74 false 1 78,yj 80 74 false 5 79,yl 81 74 false 80,yb .neq 82 74 false 77 81,yp 83 74 true 82] ⟨[5,6,7,8,9,83],[5,6,7,8,9],[]⟩ (yc 83 (zz [zt 10 false] ⟨[10],[],[]⟩ (.ret)))) (.seq (zz [zf 84 0 8,zj 85 8 84,zw 86 true 94 [ad 1 85,ac 274877906944],zo 87 (.un .not (.t 86)),zm 88 87,yf 89 88 false 1 9,
 yj 90 88 false 9 89,yw 91 88 false true 94 [ad 1 90,ac 274877906944],zq 92 88 false (.un .not (.t 91)),yp 93 88 true 92,zm 94 93,yf 95 94 false 2 9,yj 96 94 false 9 95,yw 97 94 false true 94 [ad 1 96,ac 274877906944],zq 98 94 false (.un .not (.t 97)),yp 99 94 true 98] ⟨[5,6,7,8,9,99],[5,6,7,8,9],[]⟩ (yc 99 (zz [zt 10 false] ⟨[10],[],[]⟩ (.ret)))) (yz [20102] [zf 100 0 8,zj 101 8 100,
 zo 102 (.m9 20102 21102 [none] (.c (.aK)) (.t 101)),zm 11 102] ⟨[5,6,7,9,11],[5,6,7,9,20102],[]⟩ (.seq (zz [zf 103 0 5,zf 104 1 103,zj 105 5 104,zl 106 105,zh 107 0] ⟨[5,6,7,9,11,105,106,107],[5,6,7,9,20102],[]⟩ (.block 0 (aqr))) (.seq (zz [zf 125 1 9,zj 126 9 125,zl 127 126,zh 128 0] ⟨[5,6,7,9,11,126,127,128],[5,6,7,9,20102],[]⟩ (.block 2 (aqB))) (.seq (zz [zf 190 0 5,zf 191 1 190,zj 192 5 191,
 zl 193 192,zh 194 0] ⟨[6,7,9,192,193,194],[6,7,9],[]⟩ (.block 6 (aqD))) (zz [zt 10 true] ⟨[10],[],[]⟩ (.ret)))))))))
def Ro:VC :=
 zz [zb .lss 126 125 124] ⟨[3,4,5,6,7,10,11,12,13,14,123,124,125,126],[3,4,5,6,7,10,12,100,104,109,20096],[]⟩ (zx 126 2 (.seq (.block 3 (yz [16] [zm 127 125,za 128 10 123 125,yg 129 10 128,ye 16 [z0,.aK,z0,z0,z0,z0,z0,.aK,.aK,z0],zm 15 127,zd 16 vI 16 129] ⟨[3,4,5,6,7,10,11,12,13,14,15,16,123,124,125],[3,4,5,6,7,10,12,16,100,104,109,20096],[]⟩ (zz [zf 130 0 16,zj 131 16 130,zm 132 13,
 zb .eql 133 131 132] ⟨[3,4,5,6,7,10,11,12,13,14,15,16,123,124,125,133],[3,4,5,6,7,10,12,16,100,104,109,20096],[]⟩ (yc 133 (yz [17,18] [zf 135 1 16,zs 136 16 9 135,zf 137 1 4,zj 138 4 137,zm 139 15,za 140 4 138 139,yg 141 4 140,zm 142 11,zm 143 13,za 144 1 142 143,zj 145 20096 144,zf 146 1 5,zj 147 5 146,zm 148 15,za 149 1 147 148,zi 150 149,zf 151 2 5,zj 152 5 151,zm 153 15,za 154 1 152 153,
 zi 155 154,zw 156 true 19 [(ku,(.t 136)),(fL,(.t 141)),a0 145,a0 150,a0 155],zm 134 156,ze 157 134 0,ze 158 134 1,ze 159 134 2,ye 17 [z0,z0,.aK,.aK],ye 18 [z0,z0,z0,z0,z0,z0,z0],zd 17 fL 17 157,zd 18 mP 18 158,zm 19 159] ⟨[3,4,5,6,7,10,11,12,13,15,17,18,19,123,124,125],[3,4,5,6,7,10,12,17,18,100,104,109,20096],[]⟩ (.seq (zz [zm 160 19,zv .neq 161 160 0] ⟨[3,4,5,6,7,10,11,12,13,15,17,18,19,123,
 124,125,161],[3,4,5,6,7,10,12,17,18,100,104,109,20096],[]⟩ (yc 161 (zz [zo 162 (.build [z0,.aK,.aK] []),zo 163 (.build [.aK,.aK,.aK] []),zm 164 19,zd 6 e7 6 162,zd 7 lF 7 163,zm 8 164] ⟨[6,7,8],[6,7,100,104,109],[]⟩ (.ret)))) (zr [zf 165 1 10,zj 166 10 165,zm 167 15,zf 168 0 12,zj 169 12 168,zm 170 15,zs 171 17 4 17,zs 172 18 7 18,zs 173 18 7 18,zw 174 true 95 [(mP,(.t 173))],za 175 4 166 167,
 zn (.store .az fL (.t 175) (.t 171)),za 176 7 169 170,zd 100 mP 176 172,zm 14 174] ⟨[3,4,5,6,7,10,11,12,13,14,123,124,125],[3,4,5,6,7,10,12,100,104,109,20096],[]⟩))))))) (zr [zv .add 177 125 1,zm 125 177] ⟨[3,4,5,6,7,10,11,12,13,14,123,124,125],[3,4,5,6,7,10,12,100,104,109,20096],[]⟩)))
def aan:VC:=.loop [] ⟨[3,4,5,6,7,10,11,12,13,14,123,124,125],[3,4,5,6,7,10,12,100,104,109,20096],[]⟩ Ro
abbrev aao(n11:Nat)(jB:Int)(lH:Int)(aap:V)(aaq:Int)(aar:Int)(o3:List V)(o4:List V)(o5:List V)(o6:List V)(o7:List V)(yP:List V)(Dp:List V)(Dq:List V)(Dt:List V)(Du:List V)(Dx:List V)(G:List aW):St:=⟨[(3,.bK 3 0),(4,.bK 4 0),(5,.bK 5 0),(6,.bK 6 0),(7,.bK 7 0),(10,.bK 10 0),(11,.cb 20096 1 n11),(12,.bK 12 0),(13,.int .i64 jB),(14,.int .i64 lH),(123,aap),(124,.int .i64 aaq),(125,.int .i64 aar)],[(3,
 o3),(4,o4),(5,o5),(6,o6),(7,o7),(10,yP),(12,Dp),(100,Dq),(104,Dt),(109,Du),(20096,Dx)],[],G⟩
def Rp:VC :=
 zz [zb .lss 188 187 186] ⟨[3,4,5,6,7,10,11,12,13,14,185,186,187,188],[3,4,5,6,7,10,12,100,104,109,20096],[]⟩ (zx 188 4 (.seq (.block 5 (yz [21] [zm 189 187,za 190 4 185 187,yg 191 4 190,ye 21 [z0,z0,.aK,z0],zm 20 189,zd 21 tD 21 191] ⟨[3,4,5,6,7,10,11,12,13,14,20,21,185,186,187],[3,4,5,6,7,10,12,21,100,104,109,20096],[]⟩ (zz [zf 192 0 21,zj 193 21 192,zm 194 13,zb .eql 195 193 194] ⟨[3,4,5,6,7,
 10,11,12,13,14,20,21,185,186,187,195],[3,4,5,6,7,10,12,21,100,104,109,20096],[]⟩ (yc 195 (yz [22] [zf 197 2 21,zs 198 21 2 197,zf 199 2 4,zj 200 4 199,zm 201 20,za 202 1 200 201,yg 203 1 202,zm 204 14,zw 205 true 86 [(mQ,(.t 198)),ad 1 203,a0 204],zm 196 205,ze 206 196 0,ze 207 196 1,ze 208 196 2,ye 22 [.aK],zd 22 [some 1] 22 206,zm 23 207,zm 24 208] ⟨[3,4,5,6,7,10,11,12,13,14,20,21,22,23,24,185,
 186,187],[3,4,5,6,7,10,12,21,22,100,104,109,20096],[]⟩ (.seq (zz [zm 209 24,zv .neq 210 209 0] ⟨[3,4,5,6,7,10,11,12,13,14,20,21,22,23,24,185,186,187,210],[3,4,5,6,7,10,12,21,22,100,104,109,20096],[]⟩ (yc 210 (zz [zo 211 (.build [z0,.aK,.aK] []),zo 212 (.build [.aK,.aK,.aK] []),zm 213 24,zd 6 e7 6 211,zd 7 lF 7 212,zm 8 213] ⟨[6,7,8],[6,7,100,104,109],[]⟩ (.ret)))) (zz [zf 214 2 10,zj 215 10 214,
 zm 216 20,zf 217 2 12,zj 218 12 217,zm 219 20,zs 220 22 1 22,zm 221 23,za 222 1 215 216,zn (.store .az [some 1] (.t 222) (.t 220)),za 223 1 218 219,zd 109 [none] 223 221] ⟨[3,4,5,6,7,10,11,12,13,14,21,23,185,186,187],[3,4,5,6,7,10,12,21,100,104,109,20096],[]⟩ (zr [zm 224 11,zf 225 1 21,zj 226 21 225,za 227 1 224 226,zj 228 20096 227,zm 229 23,zb .add 230 228 229,za 231 1 224 226,
 zd 20096 [none] 231 230] ⟨[3,4,5,6,7,10,11,12,13,14,185,186,187],[3,4,5,6,7,10,12,100,104,109,20096],[]⟩)))))))) (zr [zv .add 232 187 1,zm 187 232] ⟨[3,4,5,6,7,10,11,12,13,14,185,186,187],[3,4,5,6,7,10,12,100,104,109,20096],[]⟩)))
def aas:VC:=.loop [] ⟨[3,4,5,6,7,10,11,12,13,14,185,186,187],[3,4,5,6,7,10,12,100,104,109,20096],[]⟩ Rp
abbrev aat(n11:Nat)(jB:Int)(lH:Int)(aau:V)(aav:Int)(aaw:Int)(o3:List V)(o4:List V)(o5:List V)(o6:List V)(o7:List V)(yP:List V)(Dp:List V)(Dq:List V)(Dt:List V)(Du:List V)(Dx:List V)(G:List aW):St:=⟨[(3,.bK 3 0),(4,.bK 4 0),(5,.bK 5 0),(6,.bK 6 0),(7,.bK 7 0),(10,.bK 10 0),(11,.cb 20096 1 n11),(12,.bK 12 0),(13,.int .i64 jB),(14,.int .i64 lH),(185,aau),(186,.int .i64 aav),(187,.int .i64 aaw)],[(3,
 o3),(4,o4),(5,o5),(6,o6),(7,o7),(10,yP),(12,Dp),(100,Dq),(104,Dt),(109,Du),(20096,Dx)],[],G⟩
def Rq:VC :=
 .seq (zz [zm 111 13,zf 112 0 3,zf 113 0 112,zj 114 3 113,zb .lss 115 111 114] ⟨[3,4,5,6,7,10,11,12,13,115],[3,4,5,6,7,10,12,100,104,109,20096],[]⟩ (.cond (.t 115) (.skip) (.exit 0))) (.seq (.block 1 (zz [zm 118 11,zm 119 13,za 120 1 118 119,zj 121 20096 120,zm 14 121] ⟨[3,4,5,6,7,10,11,12,13,14],[3,4,5,6,7,10,12,100,104,109,20096],[]⟩ (.seq (zz [zf 122 2 3,zj 123 3 122,zl 124 123,zh 125 0] ⟨[3,4,
 5,6,7,10,11,12,13,14,123,124,125],[3,4,5,6,7,10,12,100,104,109,20096],[]⟩ (.block 2 (aan))) (zz [zf 178 1 12,zj 179 12 178,zm 180 13,zm 181 14,za 182 1 179 180,zd 104 [none] 182 181] ⟨[3,4,5,6,7,10,11,12,13,14],[3,4,5,6,7,10,12,100,104,109,20096],[]⟩ (zz [zf 183 0 3,zf 184 1 183,zj 185 3 184,zl 186 185,zh 187 0] ⟨[3,4,5,6,7,10,11,12,13,14,185,186,187],[3,4,5,6,7,10,12,100,104,109,20096],
 []⟩ (.block 4 (aas))))))) (zr [zm 116 13,zv .add 117 116 1,zm 13 117] ⟨[3,4,5,6,7,10,11,12,13],[3,4,5,6,7,10,12,100,104,109,20096],[]⟩))
def aax:VC:=.loop [] ⟨[3,4,5,6,7,10,11,12,13],[3,4,5,6,7,10,12,100,104,109,20096],[]⟩ Rq
abbrev aay(n11:Nat)(jB:Int)(o3:List V)(o4:List V)(o5:List V)(o6:List V)(o7:List V)(yP:List V)(Dp:List V)(Dq:List V)(Dt:List V)(Du:List V)(Dx:List V)(G:List aW):St:=⟨[(3,.bK 3 0),(4,.bK 4 0),(5,.bK 5 0),(6,.bK 6 0),(7,.bK 7 0),(10,.bK 10 0),(11,.cb 20096 1 n11),(12,.bK 12 0),(13,.int .i64 jB)],[(3,o3),(4,o4),(5,o5),(6,o6),(7,o7),(10,yP),(12,Dp),(100,Dq),(104,Dt),(109,Du),(20096,Dx)],[],G⟩
def tI:bq where
 nparams:=3
 results:=[.c 6 true e7,.c 7 true lF,.t 8 [none]]
 body :=
 yz [3,4,5,6,7] [zu 3 0,zu 4 1,zu 5 2,ye 6 [z0,.aK,.aK],ye 7 [.aK,.aK,.aK],zh 8 0] ⟨[3,4,5,6,7],[3,4,5,6,7,100,104,109],[]⟩ (.seq (zz [zs 25 3 3 3,zw 26 true 27 [(iJ,(.t 25))],zm 9 26] ⟨[3,4,5,6,7,9],[3,4,5,6,7,100,104,109],[]⟩ (zz [zm 27 9,zv .neq 28 27 0] ⟨[3,4,5,6,7,9,28],[3,4,5,6,7,100,104,109],[]⟩ (yc 28 (zz [zo 29 (.build [z0,.aK,.aK] []),zo 30 (.build [.aK,.aK,.aK] []),zm 31 9,zd 6 e7 6 29,
 zd 7 lF 7 30,zm 8 31] ⟨[6,7,8],[6,7,100,104,109],[]⟩ (.ret))))) (.seq (zz [zs 32 3 3 3,zs 33 4 3 4,zw 34 true 29 [(iJ,(.t 32)),(e7,(.t 33))],zo 35 (.un .not (.t 34))] ⟨[3,4,5,6,7,35],[3,4,5,6,7,100,104,109],[]⟩ (yc 35 (zz [zo 36 (.build [z0,.aK,.aK] []),zo 37 (.build [.aK,.aK,.aK] []),zd 6 e7 6 36,zd 7 lF 7 37,zh 8 50] ⟨[6,7,8],[6,7,100,104,109],[]⟩ (.ret)))) (.seq (zz [zf 38 0 5,zj 39 5 38,
 zl 40 39,zf 41 0 3,zf 42 0 41,zj 43 3 42,zb .neq 44 40 43,zm 45 44,yf 46 45 false 1 5,yj 47 45 false 5 46,yl 48 45 false 47,yf 49 45 false 2 3,yj 50 45 false 3 49,yl 51 45 false 50,yb .neq 52 45 false 48 51,yp 53 45 true 52,zm 54 53,yf 55 54 false 2 5,yj 56 54 false 5 55,yl 57 54 false 56,yf 58 54 false 2 3,yj 59 54 false 3 58,yl 60 54 false 59,yb .neq 61 54 false 57 60,yp 62 54 true 61] ⟨[3,4,5,
 6,7,62],[3,4,5,6,7,100,104,109],[]⟩ (yc 62 (zz [zo 63 (.build [z0,.aK,.aK] []),zo 64 (.build [.aK,.aK,.aK] []),zd 6 e7 6 63,zd 7 lF 7 64,zh 8 3] ⟨[6,7,8],[6,7,100,104,109],[]⟩ (.ret)))) (.seq (zz [zf 65 0 5,zj 66 5 65,zw 67 true 94 [ad 1 66,ac 1073741824],zo 68 (.un .not (.t 67)),zm 69 68,yf 70 69 false 1 5,yj 71 69 false 5 70,yw 72 69 false true 94 [ad 1 71,ac 1073741824],
 zq 73 69 false (.un .not (.t 72)),yp 74 69 true 73,zm 75 74,yf 76 75 false 2 5,yj 77 75 false 5 76,yw 78 75 false true 94 [ad 1 77,ac 1073741824],zq 79 75 false (.un .not (.t 78)),yp 80 75 true 79] ⟨[3,4,5,6,7,80],[3,4,5,6,7,100,104,109],[]⟩ (yc 80 (zz [zo 81 (.build [z0,.aK,.aK] []),zo 82 (.build [.aK,.aK,.aK] []),zd 6 e7 6 81,zd 7 lF 7 82,zh 8 1] ⟨[6,7,8],[6,7,100,104,109],
 []⟩ (.ret)))) (.seq (zz [zf 83 0 4,zj 84 4 83,zv .eql 85 84 16777216] ⟨[3,4,5,6,7,85],[3,4,5,6,7,100,104,109],[]⟩ (yc 85 (zz [zo 86 (.build [z0,.aK,.aK] []),zo 87 (.build [.aK,.aK,.aK] []),zd 6 e7 6 86,zd 7 lF 7 87,zh 8 6] ⟨[6,7,8],[6,7,100,104,109],[]⟩ (.ret)))) (yz [10] [zs 88 4 3 4,zw 89 false 22 [(e7,(.t 88))],ye 10 [z0,.aK,.aK],zd 10 e7 10 89] ⟨[3,4,5,6,7,10],[3,4,5,6,7,10,100,104,109],
 []⟩ (zz [zf 90 0 10,zj 91 10 90,zv .add 92 91 1,zf 93 0 10,zd 10 [none] 93 92] ⟨[3,4,5,6,7,10],[3,4,5,6,7,10,100,104,109],[]⟩ (yz [20096] [zf 94 0 5,zj 95 5 94,zo 96 (.m9 20096 21096 [none] (.c (.aK)) (.t 95)),zm 11 96] ⟨[3,4,5,6,7,10,11],[3,4,5,6,7,10,100,104,109,20096],[]⟩ (yz [100,104,109,12] [zf 97 2 3,zj 98 3 97,zl 99 98,zo 100 (.mf 100 [z0,z0,z0,z0,z0,z0,z0] (.t 99)),zf 101 0 3,
 zf 102 0 101,zj 103 3 102,zo 104 (.mf 104 [z0] (.t 103)),zf 105 0 3,zf 106 1 105,zj 107 3 106,zl 108 107,zo 109 (.mf 109 [z0] (.t 108)),zo 110 (.build [.aK,.aK,.aK] [(0,1,(.t 100)),(1,1,(.t 104)),(2,1,(.t 109))]),ye 12 [.aK,.aK,.aK],zd 12 lF 12 110] ⟨[3,4,5,6,7,10,11,12],[3,4,5,6,7,10,12,100,104,109,20096],[]⟩ (.seq (zz [zh 13 0] ⟨[3,4,5,6,7,10,11,12,13],[3,4,5,6,7,10,12,100,104,109,20096],
 []⟩ (.block 0 (aax))) (.seq (.region [.wA 10 [fL,[some 1]],.zX 12 0 mP,.zX 12 1 [none],.zX 12 2 [none]] [] [zs 233 10 3 10,zs 234 12 3 12,zd 6 e7 6 233,zd 7 lF 7 234,zh 8 0] ⟨[6,7,8],[6,7,100,104,109],[]⟩) (.ret))))))))))))
def Dy:VC :=
 .seq (zz [zm 12 6,zf 13 0 4,zf 14 0 13,zj 15 4 14,zb .lss 16 12 15,zm 17 16,yf 18 17 true 2 4,yj 19 17 true 4 18,yl 20 17 true 19,yv .lss 21 17 true 20 3,zp 22 17 21 false] ⟨[0,2,4,5,6,22],[2,4],[1039,1043]⟩ (.cond (.t 22) (.skip) (.exit 0))) (.seq (.block 1 (zz [zm 25 0,zw 26 false 23 [a0 25,ac 2],zv .eql 27 26 0] ⟨[0,2,4,5,6,27],[2,4],[1039,1043]⟩ (yc 27 (yz [7,8] [zm 29 0,
 zw 30 false 111 [a0 29],zm 28 30,ze 31 28 0,ze 32 28 1,ye 7 [.aK,z0,z0,z0,z0,z0,.aK,.aK,z0],ye 8 [z0,z0,.aK,.aK],zd 7 ku 7 31,zd 8 fL 8 32] ⟨[0,2,4,5,6,7,8],[2,4,7,8],[1039,1043]⟩ (.region [.kE 4 2 1039 10,.norm 5 1043 4] [5039,5043] [zf 33 2 4,zj 34 4 33,zm 35 6,zs 36 7 9 7,zo 37 (.build [z0,.aK,z0,z0,z0,z0,z0,.aK,.aK,z0] [(0,1,(.t 35)),(1,9,(.t 36))]),zo 38 (.lit none vI [z0,.slice none 2 [],
 z0,z0,z0,z0,z0,.slice none 6 [],.slice none 3 [],z0] 1 [(0,(.t 37))]),zo 39 (.app 5039 (some 1039) vI 1099511627776 (.t 34) (.t 38)),zm 40 5,zs 41 8 4 8,zo 42 (.lit none fL [z0,z0,.slice none 3 [],.slice none 2 []] 1 [(0,(.t 41))]),zo 43 (.app 5043 (some 1043) fL 2199023255552 (.t 40) (.t 42)),zf 44 2 4,zd 4 [some 10] 44 39,zm 5 43] ⟨[0,2,4,5,6],[2,4],[1039,1043]⟩))))) (zr [zm 23 6,
 zv .add 24 23 1,zm 6 24] ⟨[0,2,4,5,6],[2,4],[1039,1043]⟩))
def aaz:VC:=.loop [.kE 4 2 1039 10,.norm 5 1043 4] ⟨[0,2,4,5,6],[2,4],[1039,1043]⟩ Dy
abbrev aaA(x0:V)(x5:V)(x6:Int)(o2:List V)(o4:List V)(KI:Nat)(aaB:Nat)(G:List aW):St:=⟨[(0,x0),(2,.bK 2 0),(4,.bK 4 0),(5,x5),(6,.int .i64 x6)],[(2,o2),(4,o4)],[(1039,KI),(1043,aaB)],G⟩
def KJ:bq where
 nparams:=1
 results:=[.c 2 true iJ,.t 3 [some 4]]
 body :=
 yz [2] [ye 2 [z0,.aK,.aK],zy 3] ⟨[0,2],[2],[1039]⟩ (yz [4] [zm 9 0,zw 10 false 110 [a0 9],zo 11 (.build [z0,.aK,.aK] [(0,2,(.t 10))]),ye 4 [z0,.aK,.aK],zd 4 iJ 4 11] ⟨[0,2,4],[2,4],[1039]⟩ (zz [zy 5] ⟨[0,2,4,5],[2,4],[1039,1043]⟩ (.seq (zz [zh 6 0] ⟨[0,2,4,5,6],[2,4],[1039,1043]⟩ (.block 0 (aaz))) (zz [zs 45 4 3 4,zm 46 5,zd 2 iJ 2 45,zm 3 46] ⟨[2,3],[2],[1039,1043]⟩ (.ret)))))
def aaC:VC :=
 .seq (zz [zm 21 9,zv .gtr 22 21 0] ⟨[0,4,6,7,9,22],[4,6,7],[]⟩ (.cond (.t 22) (.skip) (.exit 0))) (.seq (.block 1 (yz [10,11] [zs 26 4 3 4,zs 27 7 3 7,zm 28 0,zs 29 4 3 4,zw 30 false 16 [a0 28,(iJ,(.t 29))],zw 31 true 42 [(iJ,(.t 26)),(e7,(.t 27)),(uJ,(.t 30))],zm 25 31,ze 32 25 0,ze 33 25 1,ze 34 25 2,ye 10 [z0,.aK,.aK],ye 11 [.aK,.aK,.aK],zd 10 e7 10 32,zd 11 lF 11 33,zm 12 34] ⟨[0,4,6,7,9,10,
 12],[4,6,7,10],[]⟩ (zz [zm 35 12,zv .eql 36 35 0] ⟨[0,4,6,7,9,10,36],[4,6,7,10],[]⟩ (yc 36 (zr [zs 37 10 3 10,zd 7 e7 7 37] ⟨[0,4,6,7,9],[4,6,7],[]⟩))))) (zr [zm 23 9,zv .sub 24 23 1,zm 9 24] ⟨[0,4,6,7,9],[4,6,7],[]⟩))
def aaD:VC:=.loop [] ⟨[0,4,6,7,9],[4,6,7],[]⟩ aaC
abbrev aoV(x0:V)(x9:Int)(o4:List V)(o6:List V)(o7:List V)(G:List aW):St:=⟨[(0,x0),(4,.bK 4 0),(6,.bK 6 0),(7,.bK 7 0),(9,.int .i64 x9)],[(4,o4),(6,o6),(7,o7)],[],G⟩
def Ru:bq where
 nparams:=3
 results:=[.c 6 true e7]
 body :=
 yz [4,6] [zu 4 1,ye 6 [z0,.aK,.aK]] ⟨[0,2,4,6],[4,6],[]⟩ (yz [7] [zs 14 4 3 4,zm 15 2,zw 16 true 32 [(iJ,(.t 14)),ad 4 15],zm 13 16,ze 17 13 0,ze 18 13 1,ye 7 [z0,.aK,.aK],zd 7 e7 7 17,zm 8 18] ⟨[0,4,6,7],[4,6,7],[]⟩ (.seq (zz [zm 19 0,zw 20 false 23 [a0 19,ac 6],zm 9 20] ⟨[0,4,6,7,9],[4,6,7],[]⟩ (.block 0 (aaD))) (zz [zs 38 7 3 7,zd 6 e7 6 38] ⟨[6],[6],[]⟩ (.ret))))
def Dz:bq where
 nparams:=2
 results:=[.t 4 [none]]
 body :=
 yz [2,3] [zu 2 0,zu 3 1,zh 4 0] ⟨[2,3],[2,3],[]⟩ (.seq (zz [zs 6 2 3 2,zw 7 true 26 [(iJ,(.t 6))],zm 5 7] ⟨[2,3,5],[2,3],[]⟩ (zz [zm 8 5,zv .neq 9 8 0] ⟨[2,3,5,9],[2,3],[]⟩ (yc 9 (zz [zm 10 5,zm 4 10] ⟨[4],[],[]⟩ (.ret))))) (.seq (zz [zs 11 2 3 2,zs 12 3 3 3,zw 13 true 70 [(iJ,(.t 11)),(e7,(.t 12))],zo 14 (.un .not (.t 13))] ⟨[14],[],[]⟩ (yc 14 (zz [zh 4 50] ⟨[4],[],
 []⟩ (.ret)))) (zz [zh 4 0] ⟨[4],[],[]⟩ (.ret))))
def Rw:VC :=
 zz [zb .lss 58 57 56] ⟨[6,7,9,56,57,58],[6,7],[]⟩ (zx 58 1 (.seq (.block 2 (zz [zm 59 57,zm 10 59] ⟨[6,7,9,10,56,57],[6,7],[]⟩ (zz [zm 60 9,zm 61 10,zw 62 false 113 [a0 60,a0 61],zm 11 62] ⟨[6,7,9,11,56,57],[6,7],[]⟩ (zz [zm 63 11,zv .neq 64 63 0] ⟨[6,7,9,11,56,57,64],[6,7],[]⟩ (yc 64 (zz [zo 65 (.build [z0,.aK,.aK] []),zo 66 (.build [.aK,.aK,.aK] []),zm 67 11,zd 6 e7 6 65,zd 7 lF 7 66,
 zm 8 67] ⟨[6,7,8],[6,7],[]⟩ (.ret))))))) (zr [zv .add 68 57 1,zm 57 68] ⟨[6,7,9,56,57],[6,7],[]⟩)))
def aaE:VC:=.loop [] ⟨[6,7,9,56,57],[6,7],[]⟩ Rw
abbrev aaF(x9:V)(x56:Int)(yL:Int)(o6:List V)(o7:List V)(G:List aW):St:=⟨[(6,.bK 6 0),(7,.bK 7 0),(9,x9),(56,.int .i64 x56),(57,.int .i64 yL)],[(6,o6),(7,o7)],[],G⟩
def A7:bq where
 nparams:=3
 results:=[.c 6 true e7,.c 7 true lF,.t 8 [none]]
 body :=
 yz [3,4,5,6,7] [zu 3 0,zu 4 1,zu 5 2,ye 6 [z0,.aK,.aK],ye 7 [.aK,.aK,.aK],zh 8 0] ⟨[3,4,5,6,7],[3,4,5,6,7],[]⟩ (.seq (.block 0 (zz [zs 13 3 3 3,zs 14 5 3 5,zw 15 true 87 [(iJ,(.t 13)),(uJ,(.t 14))],zo 16 (.un .not (.t 15)),zm 12 16] ⟨[3,4,5,6,7,12],[3,4,5,6,7],[]⟩ (.cond (.t 12) (zz [zo 17 (.build [z0,.aK,.aK] []),zo 18 (.build [.aK,.aK,.aK] []),zd 6 e7 6 17,zd 7 lF 7 18,zh 8 3] ⟨[6,7,8],[6,7],
 []⟩ (.ret)) (zz [zf 20 0 5,zj 21 5 20,zf 22 1 5,zj 23 5 22,zf 24 2 5,zj 25 5 24,zo 26 (.lit none [some 1] [.slice none 1 []] 3 [(0,(.t 21)),(1,(.t 23)),(2,(.t 25))]),zw 27 true 89 [ad 1 26],zw 28 false 88 [ad 1 27,([none],(.c (.fn 112 [])))],zm 19 28] ⟨[3,4,5,6,7,19],[3,4,5,6,7],[]⟩ (.cond (.t 19) (zz [zo 29 (.build [z0,.aK,.aK] []),zo 30 (.build [.aK,.aK,.aK] []),zd 6 e7 6 29,zd 7 lF 7 30,
 zh 8 1] ⟨[6,7,8],[6,7],[]⟩ (.ret)) (zz [zf 32 0 4,zj 33 4 32,zv .eql 34 33 16777216,zm 31 34] ⟨[3,4,5,6,7,31],[3,4,5,6,7],[]⟩ (yc 31 (zz [zo 35 (.build [z0,.aK,.aK] []),zo 36 (.build [.aK,.aK,.aK] []),zd 6 e7 6 35,zd 7 lF 7 36,zh 8 6] ⟨[6,7,8],[6,7],[]⟩ (.ret))))))))) (yz [27051] [zf 37 0 4,zj 38 4 37,zv .add 39 38 1,zf 40 1 4,zj 41 4 40,zw 42 false 76 [ad 4 41],zf 43 2 4,zj 44 4 43,
 zw 45 false 79 [ad 1 44],zo 46 (.build [z0,.aK,.aK] [(0,1,(.t 39)),(1,1,(.t 42)),(2,1,(.t 45))]),zs 47 3 3 3,zs 48 5 3 5,zf 49 0 5,zj 50 5 49,zo 51 (.pG (.c (.fn 91 [])) [ad 1 50] 27051),zo 52 (.build [z0,.aK,.aK,z0,.aK,.aK,.aK,.aK,.aK,.aK,.aK,.aK,.aK] [(0,3,(.t 46)),(3,3,(.t 47)),(6,3,(.t 48)),(9,1,(.t 51))]),zo 53 (.ou [none,some 4,some 1,none,some 4,some 10,some 1,some 1,some 1,some 1,some 7,
 some 1,some 1] (.t 52)),zm 9 53] ⟨[3,6,7,9],[3,6,7],[]⟩ (.seq (zz [zf 54 0 3,zf 55 0 54,zj 56 3 55,zh 57 0] ⟨[6,7,9,56,57],[6,7],[]⟩ (.block 1 (aaE))) (zz [zm 69 9,zk 70 69,zf 71 0 70,zo 72 (.load .az (some 3) (.t 71)),zm 73 9,zk 74 73,zf 75 10 74,zo 76 (.load .az (some 3) (.t 75)),zd 6 e7 6 72,zd 7 lF 7 76,zh 8 0] ⟨[6,7,8],[6,7],[]⟩ (.ue [.wA 6 [fL,[some 1]]])))))
def Rx:VC :=
 zz [zb .lss 18 17 16] ⟨[1,15,16,17,18],[1],[]⟩ (zx 18 0 (.seq (.block 1 (yz [4] [zm 19 17,za 20 4 15 17,yg 21 4 20,ye 4 [z0,z0,.aK,z0],zm 3 19,zd 4 tD 4 21] ⟨[1,3,4,15,16,17],[1,4],[]⟩ (.seq (zz [zf 22 0 4,zj 23 4 22,zf 24 0 1,zj 25 1 24,zv .sub 26 25 1,zw 27 true 57 [a0 23,a0 26],zo 28 (.un .not (.t 27)),zm 29 28,yf 30 29 false 1 4,yj 31 29 false 4 30,yf 32 29 false 0 1,yj 33 29 false 1 32,
 yv .sub 34 29 false 33 1,yw 35 29 false true 57 [a0 31,a0 34],zq 36 29 false (.un .not (.t 35)),yp 37 29 true 36] ⟨[1,3,4,15,16,17,37],[1,4],[]⟩ (yc 37 (zz [zh 2 11] ⟨[2],[],[]⟩ (.ret)))) (.seq (zz [zf 38 1 4,zj 39 4 38,zf 40 0 4,zj 41 4 40,zb .leq 42 39 41] ⟨[1,3,4,15,16,17,42],[1,4],[]⟩ (yc 42 (zz [zh 2 12] ⟨[2],[],[]⟩ (.ret)))) (.seq (zz [zm 43 3,zv .gtr 44 43 0,zm 45 44,yf 46 45 true 0 4,
 yj 47 45 true 4 46,yf 48 45 true 1 1,yj 49 45 true 1 48,ym 50 45 true 3,yv .sub 51 45 true 50 1,ya 52 45 true 4 49 51,yf 53 45 true 0 52,yi 54 45 true 53,yb .leq 55 45 true 47 54,zp 56 45 55 false] ⟨[1,4,15,16,17,56],[1,4],[]⟩ (yc 56 (zz [zh 2 4] ⟨[2],[],[]⟩ (.ret)))) (zz [zf 57 2 4,zs 58 4 2 57,zw 59 true 114 [(mQ,(.t 58))],zm 5 59] ⟨[1,5,15,16,17],[1],[]⟩ (zz [zm 60 5,zv .neq 61 60 0] ⟨[1,5,15,
 16,17,61],[1],[]⟩ (yc 61 (zz [zm 62 5,zm 2 62] ⟨[2],[],[]⟩ (.ret)))))))))) (zr [zv .add 63 17 1,zm 17 63] ⟨[1,15,16,17],[1],[]⟩)))
def aaH:VC:=.loop [] ⟨[1,15,16,17],[1],[]⟩ Rx
abbrev aaI(mz:V)(tK:Int)(tL:Int)(o1:List V)(G:List aW):St:=⟨[(1,.bK 1 0),(15,mz),(16,.int .i64 tK),(17,.int .i64 tL)],[(1,o1)],[],G⟩
def DA:bq where
 nparams:=1
 results:=[.t 2 [none]]
 body :=
 yz [1] [zu 1 0,zh 2 0] ⟨[1],[1],[]⟩ (.seq (zz [zf 6 0 1,zj 7 1 6,zv .lss 8 7 1,zm 9 8,yf 10 9 false 0 1,yj 11 9 false 1 10,yv .gtr 12 9 false 11 40,yp 13 9 true 12] ⟨[1,13],[1],[]⟩ (yc 13 (zz [zh 2 3] ⟨[2],[],[]⟩ (.ret)))) (.seq (zz [zf 14 1 1,zj 15 1 14,zl 16 15,zh 17 0] ⟨[1,15,16,17],[1],[]⟩ (.block 0 (aaH))) (zz [zh 2 0] ⟨[2],[],[]⟩ (.ret))))
def KK:bq where
 nparams:=2
 results:=[.t 4 [none]]
 body :=
 zz [zt 4 false] ⟨[0,1],[],[]⟩ (zz [zm 5 0,zm 6 1,zw 7 true 115 [a0 5,a0 6],zm 4 7] ⟨[4],[],[]⟩ (.ret))
def F7:bq where
 nparams:=2
 results:=[.t 4 [none],.t 5 [none]]
 body :=
 yz [2,3] [zu 2 0,zu 3 1,zh 4 0,zh 5 0] ⟨[2,3],[2,3],[]⟩ (.seq (zz [zs 7 2 9 2,zs 8 3 4 3,zw 9 true 116 [(ku,(.t 7)),(fL,(.t 8))],zm 6 9] ⟨[2,3,6],[2,3],[]⟩ (zz [zm 10 6,zv .neq 11 10 0] ⟨[2,3,6,11],[2,3],[]⟩ (yc 11 (zz [zm 12 6,zh 4 0,zm 5 12] ⟨[4,5],[],[]⟩ (.ret))))) (zz [zf 13 0 2,zs 14 2 6 13,zf 15 0 3,zj 16 3 15,zw 17 true 117 [(pY,(.t 14)),a0 16],ze 18 17 0,ze 19 17 1,zm 4 18,zm 5 19] ⟨[4,
 5],[],[]⟩ (.ret)))
def F8:bq where
 nparams:=2
 results:=[.t 4 [none],.t 5 [none]]
 body :=
 yz [2] [zu 2 0,zh 4 0,zh 5 0] ⟨[1,2],[2],[]⟩ (.seq (zz [zs 9 2 6 2,zm 10 1,zw 11 true 118 [(pY,(.t 9)),a0 10],zm 6 11] ⟨[1,2,6],[2],[]⟩ (zz [zm 12 6,zv .neq 13 12 0] ⟨[1,2,6,13],[2],[]⟩ (yc 13 (zz [zm 14 6,zh 4 0,zm 5 14] ⟨[4,5],[],[]⟩ (.ret))))) (zz [zf 16 0 2,zj 17 2 16,zm 18 1,zw 19 true 119 [ad 2 17,a0 18],zm 15 19,ze 20 15 0,ze 21 15 1,zm 7 20,zm 8 21] ⟨[7],[],[]⟩ (zz [zm 22 7,zm 4 22,
 zh 5 0] ⟨[4,5],[],[]⟩ (.ret))))
def Ry:VC :=
 zz [zb .lss 46 45 44] ⟨[12,43,44,45,46],[],[1063]⟩ (zx 46 0 (.seq (.block 1 (yz [14] [za 47 3 43 45,yg 48 3 47,ye 14 [z0,z0,.bool false],zd 14 e9 14 48] ⟨[12,14,43,44,45],[14],[1063]⟩ (yz [15] [zf 49 1 14,zj 50 14 49,zv .add 51 50 1,zo 52 (.mm false (zc 1000) (.t 51)),zf 53 2 14,zj 54 14 53,zo 55 (.build [z0,z0,.bool false] [(1,1,(.t 52)),(2,1,(.t 54))]),ye 15 [z0,z0,.bool false],
 zd 15 e9 15 55] ⟨[12,14,15,43,44,45],[14,15],[1063]⟩ (.seq (zz [zf 56 0 14,zj 57 14 56,zv .gtr 58 57 0] ⟨[12,15,43,44,45,58],[15],[1063]⟩ (yc 58 (zr [zf 59 1 15,zn (.store (.loc 15) [none] (.t 59) (zc 1))] ⟨[12,15,43,44,45],[15],[1063]⟩))) (.region [.norm 12 1063 3] [5063] [zm 60 12,zs 61 15 3 15,zo 62 (.lit none e9 [z0,z0,.bool false] 1 [(0,(.t 61))]),
 zo 63 (.app 5063 (some 1063) e9 5864062014805 (.t 60) (.t 62)),zm 12 63] ⟨[12,43,44,45],[],[1063]⟩))))) (zr [zv .add 64 45 1,zm 45 64] ⟨[12,43,44,45],[],[1063]⟩)))
def aaJ:VC:=.loop [.norm 12 1063 3] ⟨[12,43,44,45],[],[1063]⟩ Ry
abbrev aaK(mw:V)(x43:V)(KL:Int)(DB:Int)(KM:Nat)(G:List aW):St:=⟨[(12,mw),(43,x43),(44,.int .i64 KL),(45,.int .i64 DB)],[],[(1063,KM)],G⟩
def Rz:VC :=
 zz [zb .lss 81 80 79] ⟨[4,10,12,16,17,18,78,79,80,81],[4],[1063]⟩ (zx 81 2 (.seq (.block 3 (yz [21] [zm 82 80,za 83 6 78 80,yg 84 6 83,ye 21 [.aK,z0,z0,.aK,z0,z0],zm 20 82,zd 21 eF 21 84] ⟨[4,10,12,16,17,18,20,21,78,79,80],[4,21],[1063]⟩ (yz [22] [zs 86 21 6 21,zf 87 2 4,zj 88 4 87,zm 89 20,za 90 3 88 89,yg 91 3 90,zm 92 10,zm 93 20,za 94 1 92 93,zi 95 94,zw 96 true 122 [(eF,(.t 86)),(e9,
 (.t 91)),a0 95],zm 85 96,ze 97 85 0,ze 98 85 1,ze 99 85 2,ye 22 [z0,z0,.bool false],zd 22 e9 22 97,zm 23 98,zm 24 99] ⟨[4,10,12,16,17,18,22,78,79,80],[4,22],[1063]⟩ (.region [.norm 12 1063 3] [5103] [zm 100 12,zs 101 22 3 22,zo 102 (.lit none e9 [z0,z0,.bool false] 1 [(0,(.t 101))]),zo 103 (.app 5103 (some 1063) e9 5864062014805 (.t 100) (.t 102)),zm 12 103] ⟨[4,10,12,16,17,18,78,79,80],[4],
 [1063]⟩)))) (zr [zv .add 104 80 1,zm 80 104] ⟨[4,10,12,16,17,18,78,79,80],[4],[1063]⟩)))
def aaM:VC:=.loop [.norm 12 1063 3] ⟨[4,10,12,16,17,18,78,79,80],[4],[1063]⟩ Rz
abbrev aaN(lG:V)(mw:V)(tK:Int)(tL:Int)(yQ:Int)(x78:V)(x79:Int)(KN:Int)(o4:List V)(KM:Nat)(G:List aW):St:=⟨[(4,.bK 4 0),(10,lG),(12,mw),(16,.int .i64 tK),(17,.int .i64 tL),(18,.int .i64 yQ),(78,x78),(79,.int .i64 x79),(80,.int .i64 KN)],[(4,o4)],[(1063,KM)],G⟩
def F9:bq where
 nparams:=3
 results:=[.t 6 [some 3],.t 7 [none],.t 8 [none],.t 9 [none]]
 body :=
 yz [3,4] [zu 3 0,zu 4 1,zy 6,zh 7 0,zh 8 0,zh 9 0] ⟨[2,3,4],[3,4],[]⟩ (zz [zf 26 6 3,zj 27 3 26,zf 28 2 4,zj 29 4 28,zf 30 8 3,zj 31 3 30,zm 32 2,zf 33 8 3,zj 34 3 33,zo 35 (.bin .mul (zc 200) (.t 34)),zo 36 (.mm false (.t 32) (.t 35)),zw 37 true 120 [ad 6 27,ad 3 29,a0 31,a0 36],zm 25 37,ze 38 25 0,ze 39 25 1,zm 10 38,zm 11 39] ⟨[3,4,10,11],[3,4],[]⟩ (zz [zy 12] ⟨[3,4,10,11,12],[3,4],
 [1063]⟩ (.seq (zz [zm 40 11,zv .neq 41 40 0] ⟨[3,4,10,12,41],[3,4],[1063]⟩ (yc 41 (.seq (zz [zf 42 2 4,zj 43 4 42,zl 44 43,zh 45 0] ⟨[12,43,44,45],[],[1063]⟩ (.block 0 (aaJ))) (zz [zm 65 12,zm 6 65,zh 7 0,zh 8 0,zh 9 0] ⟨[6,7,8,9],[],[1063]⟩ (.ret))))) (zz [zf 67 6 3,zj 68 3 67,zf 69 2 4,zj 70 4 69,zm 71 10,zw 72 true 121 [ad 6 68,ad 3 70,ad 1 71],zm 66 72,ze 73 66 0,ze 74 66 1,ze 75 66 2,
 ze 76 66 3,zm 16 73,zm 17 74,zm 18 75,zm 19 76] ⟨[3,4,10,12,16,17,18],[3,4],[1063]⟩ (.seq (zz [zf 77 6 3,zj 78 3 77,zl 79 78,zh 80 0] ⟨[4,10,12,16,17,18,78,79,80],[4],[1063]⟩ (.block 2 (aaM))) (zz [zm 105 12,zm 106 16,zm 107 17,zm 108 18,zm 6 105,zm 7 106,zm 8 107,zm 9 108] ⟨[6,7,8,9],[],[1063]⟩ (.ret)))))))
def Gb:VC :=
 .seq (zz [zm 57 12,zm 58 14,za 59 1 57 58,zj 60 20031 59,zm 61 13,zm 62 14,za 63 1 61 62,zi 64 63,zb .lss 65 60 64,zm 66 65,ym 67 66 true 0,ym 68 66 true 12,ym 69 66 true 2,zq 70 66 true (.pe (.c (.fn 125 [])) [(iK,[some 3],(.t 67)),([none],[some 1],(.t 68)),([],[none],(.t 69))] [20031]),ym 71 66 true 3,yb .lss 72 66 true 70 71,zp 73 66 72 false] ⟨[0,1,2,3,12,13,14,73],[20031],
 []⟩ (.cond (.t 73) (.skip) (.exit 2))) (.block 3 (zr [zm 74 12,zm 75 14,za 76 1 74 75,zj 77 20031 76,zv .add 78 77 1,za 79 1 74 75,zd 20031 [none] 79 78] ⟨[0,1,2,3,12,13,14],[20031],[]⟩))
def aaQ:VC:=.loop [] ⟨[0,1,2,3,12,13,14],[20031],[]⟩ Gb
abbrev aaR(x0:V)(x1:V)(x2:Int)(x3:Int)(n12:Nat)(jB:V)(lH:Int)(DC:List V)(G:List aW):St:=⟨[(0,x0),(1,x1),(2,.int .i64 x2),(3,.int .i64 x3),(12,.cb 20031 1 n12),(13,jB),(14,.int .i64 lH)],[(20031,DC)],[],G⟩
def Gd:VC :=
 .seq (zz [zm 34 14,zm 35 0,zl 36 35,zb .lss 37 34 36,zm 38 37,ym 39 38 true 0,ym 40 38 true 12,ym 41 38 true 2,zq 42 38 true (.pe (.c (.fn 125 [])) [(iK,[some 3],(.t 39)),([none],[some 1],(.t 40)),([],[none],(.t 41))] [20031]),ym 43 38 true 3,yb .lss 44 38 true 42 43,zp 45 38 44 false] ⟨[0,1,2,3,12,13,14,45],[20031],[]⟩ (.cond (.t 45) (.skip) (.exit 0))) (.block 1 (.seq (zz [zm 46 12,zm 47 14,
 za 48 1 46 47,zj 49 20031 48,zm 50 13,zm 51 14,za 52 1 50 51,zi 53 52,zb .eql 54 49 53] ⟨[0,1,2,3,12,13,14,54],[20031],[]⟩ (yc 54 (zz [zm 55 14,zv .add 56 55 1,zm 14 56] ⟨[0,1,2,3,12,13,14],[20031],[]⟩ (.exit 1)))) (.block 2 (aaQ))))
def RA:VC:=.loop [] ⟨[0,1,2,3,12,13,14],[20031],[]⟩ Gd
abbrev aaS(x0:V)(x1:V)(x2:Int)(x3:Int)(n12:Nat)(jB:V)(lH:Int)(DC:List V)(G:List aW):St:=⟨[(0,x0),(1,x1),(2,.int .i64 x2),(3,.int .i64 x3),(12,.cb 20031 1 n12),(13,jB),(14,.int .i64 lH)],[(20031,DC)],[],G⟩
def Ge:VC :=
 zz [zb .lss 83 82 81] ⟨[0,2,12,15,80,81,82,83],[20031],[1096]⟩ (zx 83 4 (.seq (.block 5 (yz [17] [zm 84 82,za 85 2 80 82,yg 86 2 85,ye 17 [z0,.bool false],zm 16 84,zd 17 [none,none] 17 86] ⟨[0,2,12,15,16,17,80,81,82],[17,20031],[1096]⟩ (.region [.norm 15 1096 2] [5096] [zm 87 15,zm 88 12,zm 89 16,za 90 1 88 89,zj 91 20031 90,zf 92 1 17,zj 93 17 92,zo 94 (.build [z0,.bool false] [(0,1,(.t 91)),(1,
 1,(.t 93))]),zo 95 (.lit none [none,none] [z0,.bool false] 1 [(0,(.t 94))]),zo 96 (.app 5096 (some 1096) [none,none] 8796093022208 (.t 87) (.t 95)),zm 15 96] ⟨[0,2,12,15,80,81,82],[20031],[1096]⟩))) (zr [zv .add 97 82 1,zm 82 97] ⟨[0,2,12,15,80,81,82],[20031],[1096]⟩)))
def RB:VC:=.loop [.norm 15 1096 2] ⟨[0,2,12,15,80,81,82],[20031],[1096]⟩ Ge
abbrev RC(x0:V)(x2:Int)(n12:Nat)(mz:V)(KN:V)(x81:Int)(x82:Int)(DC:List V)(aaV:Nat)(G:List aW):St:=⟨[(0,x0),(2,.int .i64 x2),(12,.cb 20031 1 n12),(15,mz),(80,KN),(81,.int .i64 x81),(82,.int .i64 x82)],[(20031,DC)],[(1096,aaV)],G⟩
def A8:bq where
 nparams:=4
 results:=[.t 8 [some 2],.t 9 [none],.t 10 [none]]
 body :=
 zz [zy 8,zh 9 0,zh 10 0] ⟨[0,1,2,3],[],[]⟩ (.seq (zz [zm 18 0,zm 19 1,zm 20 2,zw 21 true 123 [ad 3 18,ad 2 19,a0 20],zm 11 21] ⟨[0,1,2,3,11],[],[]⟩ (zz [zm 22 11,zv .neq 23 22 0] ⟨[0,1,2,3,11,23],[],[]⟩ (yc 23 (zz [zm 24 11,zy 8,zh 9 0,zm 10 24] ⟨[8,9,10],[],[1096]⟩ (.ret))))) (.seq (zz [zm 25 3,zw 26 true 57 [a0 25,ac 1073741824],zo 27 (.un .not (.t 26))] ⟨[0,1,2,3,27],[],[]⟩ (yc 27 (zz [zy 8,
 zh 9 0,zh 10 1] ⟨[8,9,10],[],[1096]⟩ (.ret)))) (yz [20031] [zm 29 0,zm 30 1,zo 31 (.own (.c (.fn 124 [])) [ad 3 29,ad 2 30] 20031 0),zm 28 31,ze 32 28 0,ze 33 28 1,zm 12 32,zm 13 33] ⟨[0,1,2,3,12,13],[20031],[]⟩ (.seq (zz [zh 14 0] ⟨[0,1,2,3,12,13,14],[20031],[]⟩ (.block 0 (RA))) (zz [zy 15] ⟨[0,1,2,12,15],[20031],[1096]⟩ (.seq (zz [zm 80 1,zl 81 80,zh 82 0] ⟨[0,2,12,15,80,81,82],[20031],
 [1096]⟩ (.block 4 (RB))) (.seq (.region [.freeze 12 [none]] [] [zm 98 15,zm 99 0,zm 100 12,zm 101 2,zw 102 true 125 [ad 3 99,ad 1 100,a0 101],zm 8 98,zm 9 102,zh 10 0] ⟨[8,9,10],[],[1096]⟩) (.ret))))))))
def RE:VC :=
 zz [zb .lss 9 8 7] ⟨[3,6,7,8,9],[20023],[]⟩ (zx 9 0 (.seq (.block 1 (yz [5] [za 10 4 6 8,yg 11 4 10,ye 5 [z0,z0,.aK,.aK],zd 5 fL 5 11] ⟨[3,5,6,7,8],[5,20023],[1014,1018]⟩ (yz [1014] [zf 12 2 5,zj 13 5 12,zo 14 (.app 1014 none e9 5864062014805 (.c (.aK)) (.t 13)),zf 15 2 5,zd 5 [some 3] 15 14] ⟨[3,5,6,7,8],[5,20023],[1014,1018]⟩ (yz [1018] [zf 16 3 5,zj 17 5 16,zo 18 (.app 1018 none [none,
 none] 8796093022208 (.c (.aK)) (.t 17)),zf 19 3 5,zd 5 [some 2] 19 18] ⟨[3,5,6,7,8],[5,20023],[1014,1018]⟩ (.region [.ov 3 20023 4,.ic 20023 21023] [20023] [zm 20 3,zs 21 5 4 5,zo 22 (.lit none [none,none,some 0,some 0] [z0,z0,.slice none 0 [],.slice none 0 []] 1 [(0,(.t 21))]),zo 23 (.m9 20023 21023 fL (.t 20) (.t 22)),zm 3 23] ⟨[3,6,7,8],[20023],[]⟩))))) (zr [zv .add 24 8 1,zm 8 24] ⟨[3,6,7,8],
 [20023],[]⟩)))
def aaY:VC:=.loop [.ov 3 20023 4] ⟨[3,6,7,8],[20023],[]⟩ RE
abbrev aaZ(n3:Nat)(x6:V)(x7:Int)(x8:Int)(Dj:List V)(G:List aW):St:=⟨[(3,.cb 20023 4 n3),(6,x6),(7,.int .i64 x7),(8,.int .i64 x8)],[(20023,Dj)],[],G⟩
def KP:bq where
 nparams:=1
 results:=[.t 2 [some 4]]
 body :=
 zz [zy 2] ⟨[0],[],[]⟩ (zz [zy 3] ⟨[0,3],[20023],[]⟩ (.seq (zz [zm 6 0,zl 7 6,zh 8 0] ⟨[3,6,7,8],[20023],[]⟩ (.block 0 (aaY))) (.seq (.region [.share 3 fL] [] [zm 25 3,zm 2 25] ⟨[2],[20023],[]⟩) (.ret))))
def KQ:bq where
 nparams:=2
 results:=[.t 4 [none]]
 body :=
 zz [zh 4 0] ⟨[0,1],[],[]⟩ (zz [zm 5 0,zm 6 1,zb .rem 7 5 6,zm 8 1,zb .add 9 7 8,zm 10 1,zb .rem 11 9 10,zm 4 11] ⟨[4],[],[]⟩ (.ret))
def ao0:VC :=
 zz [zb .lss 10 9 8] ⟨[3,7,8,9,10],[],[]⟩ (zx 10 0 (.seq (.block 1 (zz [za 11 1 7 9,zi 12 11,zm 5 12] ⟨[3,5,7,8,9],[],[]⟩ (zr [zm 13 3,zm 14 5,zb .add 15 13 14,zm 3 15] ⟨[3,7,8,9],[],[]⟩))) (zr [zv .add 16 9 1,zm 9 16] ⟨[3,7,8,9],[],[]⟩)))
def aqM:VC:=.loop [] ⟨[3,7,8,9],[],[]⟩ ao0
abbrev aqN(x3:Int)(x7:V)(x8:Int)(x9:Int)(G:List aW):St:=⟨[(3,.int .i64 x3),(7,x7),(8,.int .i64 x8),(9,.int .i64 x9)],[],[],G⟩
def akj:bq where
 nparams:=1
 results:=[.t 2 [none]]
 body :=
 yz [1] [zu 1 0,zh 2 0] ⟨[1],[1],[]⟩ (zz [zh 3 0] ⟨[1,3],[1],[]⟩ (.seq (zz [zf 6 0 1,zj 7 1 6,zl 8 7,zh 9 0] ⟨[3,7,8,9],[],[]⟩ (.block 0 (aqM))) (zz [zm 17 3,zm 2 17] ⟨[2],[],[]⟩ (.ret))))
def ao1:VC :=
 zz [zb .lss 10 9 8] ⟨[3,7,8,9,10],[],[]⟩ (zx 10 0 (.seq (.block 1 (zz [za 11 1 7 9,zi 12 11,zm 5 12] ⟨[3,5,7,8,9],[],[]⟩ (zr [zm 13 3,zm 14 5,zb .add 15 13 14,zm 3 15] ⟨[3,7,8,9],[],[]⟩))) (zr [zv .add 16 9 1,zm 9 16] ⟨[3,7,8,9],[],[]⟩)))
def aqO:VC:=.loop [] ⟨[3,7,8,9],[],[]⟩ ao1
abbrev aqP(x3:Int)(x7:V)(x8:Int)(x9:Int)(G:List aW):St:=⟨[(3,.int .i64 x3),(7,x7),(8,.int .i64 x8),(9,.int .i64 x9)],[],[],G⟩
def akm:bq where
 nparams:=1
 results:=[.t 2 [none]]
 body :=
 yz [1] [zu 1 0,zh 2 0] ⟨[1],[1],[]⟩ (zz [zh 3 0] ⟨[1,3],[1],[]⟩ (.seq (zz [zf 6 0 1,zj 7 1 6,zl 8 7,zh 9 0] ⟨[3,7,8,9],[],[]⟩ (.block 0 (aqO))) (zz [zm 17 3,zm 2 17] ⟨[2],[],[]⟩ (.ret))))
def RF:VC :=
 zz [zb .lss 18 17 16] ⟨[1,15,16,17,18],[1],[]⟩ (zx 18 0 (.seq (.block 1 (yz [4] [zm 19 17,za 20 4 15 17,yg 21 4 20,ye 4 [z0,z0,.aK,z0],zm 3 19,zd 4 tD 4 21] ⟨[1,3,4,15,16,17],[1,4],[]⟩ (.seq (.block 2 (zz [zs 23 1 2 1,zf 24 0 4,zj 25 4 24,zw 26 true 126 [(tE,(.t 23)),a0 25],zo 27 (.un .not (.t 26)),zm 28 27,ys 29 28 false 1 2 1,yf 30 28 false 1 4,yj 31 28 false 4 30,yw 32 28 false true 126 [(tE,
 (.t 29)),a0 31],zq 33 28 false (.un .not (.t 32)),yp 34 28 true 33,zm 22 34] ⟨[1,3,4,15,16,17,22],[1,4],[]⟩ (.cond (.t 22) (zz [zh 2 11] ⟨[2],[],[]⟩ (.ret)) (zz [zf 36 1 4,zj 37 4 36,zf 38 0 4,zj 39 4 38,zb .leq 40 37 39,zm 35 40] ⟨[1,3,4,15,16,17,35],[1,4],[]⟩ (.cond (.t 35) (zz [zh 2 12] ⟨[2],[],[]⟩ (.ret)) (zz [zm 42 3,zv .gtr 43 42 0,zm 44 43,yf 45 44 true 0 4,yj 46 44 true 4 45,
 yf 47 44 true 1 1,yj 48 44 true 1 47,ym 49 44 true 3,yv .sub 50 44 true 49 1,ya 51 44 true 4 48 50,yf 52 44 true 0 51,yi 53 44 true 52,yb .leq 54 44 true 46 53,zp 55 44 54 false,zm 41 55] ⟨[1,4,15,16,17,41],[1,4],[]⟩ (yc 41 (zz [zh 2 4] ⟨[2],[],[]⟩ (.ret))))))))) (zz [zf 56 2 4,zs 57 4 2 56,zw 58 true 127 [(mQ,(.t 57))],zm 5 58] ⟨[1,5,15,16,17],[1],[]⟩ (zz [zm 59 5,zv .neq 60 59 0] ⟨[1,5,15,16,
 17,60],[1],[]⟩ (yc 60 (zz [zm 61 5,zm 2 61] ⟨[2],[],[]⟩ (.ret)))))))) (zr [zv .add 62 17 1,zm 17 62] ⟨[1,15,16,17],[1],[]⟩)))
def aa0:VC:=.loop [] ⟨[1,15,16,17],[1],[]⟩ RF
abbrev aa1(mz:V)(tK:Int)(tL:Int)(o1:List V)(G:List aW):St:=⟨[(1,.bK 1 0),(15,mz),(16,.int .i64 tK),(17,.int .i64 tL)],[(1,o1)],[],G⟩
def DD:bq where
 nparams:=1
 results:=[.t 2 [none]]
 body :=
 yz [1] [zu 1 0,zh 2 0] ⟨[1],[1],[]⟩ (.seq (zz [zf 6 0 1,zj 7 1 6,zv .lss 8 7 1,zm 9 8,yf 10 9 false 0 1,yj 11 9 false 1 10,yv .gtr 12 9 false 11 40,yp 13 9 true 12] ⟨[1,13],[1],[]⟩ (yc 13 (zz [zh 2 3] ⟨[2],[],[]⟩ (.ret)))) (.seq (zz [zf 14 1 1,zj 15 1 14,zl 16 15,zh 17 0] ⟨[1,15,16,17],[1],[]⟩ (.block 0 (aa0))) (zz [zh 2 0] ⟨[2],[],[]⟩ (.ret))))
def RG:VC :=
 zz [zb .lss 30 29 28] ⟨[1,27,28,29,30],[1],[]⟩ (zx 30 0 (.seq (.block 1 (yz [5] [za 31 6 27 29,yg 32 6 31,ye 5 [.aK,z0,z0,.aK,z0,z0],zd 5 eF 5 32] ⟨[1,5,27,28,29],[1,5],[]⟩ (zz [zs 33 5 6 5,zw 34 true 129 [(eF,(.t 33))],zm 6 34] ⟨[1,6,27,28,29],[1],[]⟩ (zz [zm 35 6,zv .neq 36 35 0] ⟨[1,6,27,28,29,36],[1],[]⟩ (yc 36 (zz [zm 37 6,zm 2 37] ⟨[2],[],[]⟩ (.ret))))))) (zr [zv .add 38 29 1,zm 29 38] ⟨[1,
 27,28,29],[1],[]⟩)))
def aa2:VC:=.loop [] ⟨[1,27,28,29],[1],[]⟩ RG
abbrev aa3(tM:V)(vM:Int)(DE:Int)(o1:List V)(G:List aW):St:=⟨[(1,.bK 1 0),(27,tM),(28,.int .i64 vM),(29,.int .i64 DE)],[(1,o1)],[],G⟩
def RH:VC :=
 zz [zb .lss 43 42 41] ⟨[1,40,41,42,43],[1],[]⟩ (zx 43 2 (.seq (.block 3 (yz [8] [za 44 3 40 42,yg 45 3 44,ye 8 [.aK,z0,z0],zd 8 iK 8 45] ⟨[1,8,40,41,42],[1,8],[]⟩ (zz [zs 46 8 3 8,zw 47 true 130 [(iK,(.t 46))],zm 9 47] ⟨[1,9,40,41,42],[1],[]⟩ (zz [zm 48 9,zv .neq 49 48 0] ⟨[1,9,40,41,42,49],[1],[]⟩ (yc 49 (zz [zm 50 9,zm 2 50] ⟨[2],[],[]⟩ (.ret))))))) (zr [zv .add 51 42 1,zm 42 51] ⟨[1,40,41,42],
 [1],[]⟩)))
def aa4:VC:=.loop [] ⟨[1,40,41,42],[1],[]⟩ RH
abbrev aa5(yK:V)(DF:Int)(DG:Int)(o1:List V)(G:List aW):St:=⟨[(1,.bK 1 0),(40,yK),(41,.int .i64 DF),(42,.int .i64 DG)],[(1,o1)],[],G⟩
def A9:bq where
 nparams:=1
 results:=[.t 2 [none]]
 body :=
 yz [1] [zu 1 0,zh 2 0] ⟨[1],[1],[]⟩ (.seq (zz [zf 10 0 1,zs 11 1 6 10,zw 12 true 128 [(pY,(.t 11))],zm 3 12] ⟨[1,3],[1],[]⟩ (zz [zm 13 3,zv .neq 14 13 0] ⟨[1,3,14],[1],[]⟩ (yc 14 (zz [zm 15 3,zm 2 15] ⟨[2],[],[]⟩ (.ret))))) (.seq (zz [zf 16 6 1,zj 17 1 16,zl 18 17,zv .gtr 19 18 6,zm 20 19,yf 21 20 false 7 1,yj 22 20 false 1 21,yl 23 20 false 22,yv .gtr 24 20 false 23 8,yp 25 20 true 24] ⟨[1,25],
 [1],[]⟩ (yc 25 (zz [zh 2 10] ⟨[2],[],[]⟩ (.ret)))) (.seq (zz [zf 26 6 1,zj 27 1 26,zl 28 27,zh 29 0] ⟨[1,27,28,29],[1],[]⟩ (.block 0 (aa2))) (.seq (zz [zf 39 7 1,zj 40 1 39,zl 41 40,zh 42 0] ⟨[1,40,41,42],[1],[]⟩ (.block 2 (aa4))) (.seq (zz [zf 52 8 1,zj 53 1 52,zv .lss 54 53 1,zm 55 54,yf 56 55 false 8 1,yj 57 55 false 1 56,yv .gtr 58 55 false 57 1073741824,yp 59 55 true 58] ⟨[59],[],
 []⟩ (yc 59 (zz [zh 2 1] ⟨[2],[],[]⟩ (.ret)))) (zz [zh 2 0] ⟨[2],[],[]⟩ (.ret)))))))
def RI:VC :=
 zz [zb .lss 30 29 28] ⟨[1,27,28,29,30],[1],[]⟩ (zx 30 0 (.seq (.block 1 (yz [5] [za 31 6 27 29,yg 32 6 31,ye 5 [.aK,z0,z0,.aK,z0,z0],zd 5 eF 5 32] ⟨[1,5,27,28,29],[1,5],[]⟩ (zz [zs 33 5 6 5,zw 34 true 132 [(eF,(.t 33))],zm 6 34] ⟨[1,6,27,28,29],[1],[]⟩ (zz [zm 35 6,zv .neq 36 35 0] ⟨[1,6,27,28,29,36],[1],[]⟩ (yc 36 (zz [zm 37 6,zm 2 37] ⟨[2],[],[]⟩ (.ret))))))) (zr [zv .add 38 29 1,zm 29 38] ⟨[1,
 27,28,29],[1],[]⟩)))
def aa6:VC:=.loop [] ⟨[1,27,28,29],[1],[]⟩ RI
abbrev aa7(tM:V)(vM:Int)(DE:Int)(o1:List V)(G:List aW):St:=⟨[(1,.bK 1 0),(27,tM),(28,.int .i64 vM),(29,.int .i64 DE)],[(1,o1)],[],G⟩
def RJ:VC :=
 zz [zb .lss 43 42 41] ⟨[1,40,41,42,43],[1],[]⟩ (zx 43 2 (.seq (.block 3 (yz [8] [za 44 3 40 42,yg 45 3 44,ye 8 [.aK,z0,z0],zd 8 iK 8 45] ⟨[1,8,40,41,42],[1,8],[]⟩ (zz [zs 46 8 3 8,zw 47 true 133 [(iK,(.t 46))],zm 9 47] ⟨[1,9,40,41,42],[1],[]⟩ (zz [zm 48 9,zv .neq 49 48 0] ⟨[1,9,40,41,42,49],[1],[]⟩ (yc 49 (zz [zm 50 9,zm 2 50] ⟨[2],[],[]⟩ (.ret))))))) (zr [zv .add 51 42 1,zm 42 51] ⟨[1,40,41,42],
 [1],[]⟩)))
def aa8:VC:=.loop [] ⟨[1,40,41,42],[1],[]⟩ RJ
abbrev aa9(yK:V)(DF:Int)(DG:Int)(o1:List V)(G:List aW):St:=⟨[(1,.bK 1 0),(40,yK),(41,.int .i64 DF),(42,.int .i64 DG)],[(1,o1)],[],G⟩
def Ba:bq where
 nparams:=1
 results:=[.t 2 [none]]
 body :=
 yz [1] [zu 1 0,zh 2 0] ⟨[1],[1],[]⟩ (.seq (zz [zf 10 0 1,zs 11 1 6 10,zw 12 true 131 [(pY,(.t 11))],zm 3 12] ⟨[1,3],[1],[]⟩ (zz [zm 13 3,zv .neq 14 13 0] ⟨[1,3,14],[1],[]⟩ (yc 14 (zz [zm 15 3,zm 2 15] ⟨[2],[],[]⟩ (.ret))))) (.seq (zz [zf 16 6 1,zj 17 1 16,zl 18 17,zv .gtr 19 18 6,zm 20 19,yf 21 20 false 7 1,yj 22 20 false 1 21,yl 23 20 false 22,yv .gtr 24 20 false 23 8,yp 25 20 true 24] ⟨[1,25],
 [1],[]⟩ (yc 25 (zz [zh 2 10] ⟨[2],[],[]⟩ (.ret)))) (.seq (zz [zf 26 6 1,zj 27 1 26,zl 28 27,zh 29 0] ⟨[1,27,28,29],[1],[]⟩ (.block 0 (aa6))) (.seq (zz [zf 39 7 1,zj 40 1 39,zl 41 40,zh 42 0] ⟨[1,40,41,42],[1],[]⟩ (.block 2 (aa8))) (.seq (zz [zf 52 8 1,zj 53 1 52,zv .lss 54 53 1,zm 55 54,yf 56 55 false 8 1,yj 57 55 false 1 56,yv .gtr 58 55 false 57 1073741824,yp 59 55 true 58] ⟨[59],[],
 []⟩ (yc 59 (zz [zh 2 1] ⟨[2],[],[]⟩ (.ret)))) (zz [zh 2 0] ⟨[2],[],[]⟩ (.ret)))))))
def RK:VC :=
 zz [zb .lss 37 36 35] ⟨[3,34,35,36,37],[3],[]⟩ (zx 37 0 (.seq (.block 1 (yz [6] [zm 38 36,za 39 4 34 36,yg 40 4 39,ye 6 [z0,z0,.aK,z0],zm 5 38,zd 6 tD 6 40] ⟨[3,5,6,34,35,36],[3,6],[]⟩ (zz [zf 41 2 6,zs 42 6 2 41,zf 43 2 3,zj 44 3 43,zm 45 5,za 46 1 44 45,yg 47 1 46,zw 48 true 134 [(mQ,(.t 42)),ad 1 47],zo 49 (.un .not (.t 48))] ⟨[3,34,35,36,49],[3],[]⟩ (yc 49 (zz [zt 4 false] ⟨[4],[],
 []⟩ (.ret)))))) (zr [zv .add 50 36 1,zm 36 50] ⟨[3,34,35,36],[3],[]⟩)))
def aba:VC:=.loop [] ⟨[3,34,35,36],[3],[]⟩ RK
abbrev abb(DH:V)(yR:Int)(yS:Int)(o3:List V)(G:List aW):St:=⟨[(3,.bK 3 0),(34,DH),(35,.int .i64 yR),(36,.int .i64 yS)],[(3,o3)],[],G⟩
def yT:bq where
 nparams:=2
 results:=[.t 4 [none]]
 body :=
 yz [2,3] [zu 2 0,zu 3 1,zt 4 false] ⟨[2,3],[2,3],[]⟩ (.seq (zz [zf 7 0 3,zj 8 3 7,zv .lss 9 8 0,zm 10 9,yf 11 10 false 0 3,yj 12 10 false 3 11,yv .gtr 13 10 false 12 16777216,yp 14 10 true 13,zm 15 14,ys 16 15 false 2 3 2,yf 17 15 false 1 3,yj 18 15 false 3 17,yw 19 15 false true 74 [(iJ,(.t 16)),ad 4 18],zq 20 15 false (.un .not (.t 19)),yp 21 15 true 20,zm 22 21,yf 23 22 false 2 3,
 yj 24 22 false 3 23,yl 25 22 false 24,yf 26 22 false 0 2,yf 27 22 false 1 26,yj 28 22 false 2 27,yl 29 22 false 28,yb .neq 30 22 false 25 29,yp 31 22 true 30] ⟨[2,3,31],[2,3],[]⟩ (yc 31 (zz [zt 4 false] ⟨[4],[],[]⟩ (.ret)))) (.seq (zz [zf 32 0 2,zf 33 1 32,zj 34 2 33,zl 35 34,zh 36 0] ⟨[3,34,35,36],[3],[]⟩ (.block 0 (aba))) (zz [zt 4 true] ⟨[4],[],[]⟩ (.ret))))
def KR:bq where
 nparams:=2
 results:=[.t 4 [none]]
 body :=
 zz [zt 4 false] ⟨[0,1],[],[]⟩ (zz [zm 5 0,zv .geq 6 5 0,zm 7 6,ym 8 7 true 0,ym 9 7 true 1,yb .leq 10 7 true 8 9,zp 11 7 10 false,zm 4 11] ⟨[4],[],[]⟩ (.ret))
def RL:VC :=
 zz [zb .lss 56 55 54] ⟨[2,3,53,54,55,56],[2,3],[]⟩ (zx 56 0 (.seq (.block 1 (yz [8] [zm 57 55,za 58 6 53 55,yg 59 6 58,ye 8 [.aK,z0,z0,.aK,z0,z0],zm 7 57,zd 8 eF 8 59] ⟨[2,3,7,8,53,54,55],[2,3,8],[]⟩ (zz [zs 60 8 6 8,zf 61 2 3,zj 62 3 61,zm 63 7,za 64 3 62 63,yg 65 3 64,zw 66 true 135 [(eF,(.t 60)),(e9,(.t 65))],zo 67 (.un .not (.t 66))] ⟨[2,3,53,54,55,67],[2,3],[]⟩ (yc 67 (zz [zt 4 false] ⟨[4],
 [],[]⟩ (.ret)))))) (zr [zv .add 68 55 1,zm 55 68] ⟨[2,3,53,54,55],[2,3],[]⟩)))
def abc:VC:=.loop [] ⟨[2,3,53,54,55],[2,3],[]⟩ RL
abbrev abd(x53:V)(x54:Int)(x55:Int)(o2:List V)(o3:List V)(G:List aW):St:=⟨[(2,.bK 2 0),(3,.bK 3 0),(53,x53),(54,.int .i64 x54),(55,.int .i64 x55)],[(2,o2),(3,o3)],[],G⟩
def RM:VC :=
 zz [zb .lss 73 72 71] ⟨[3,70,71,72,73],[3],[]⟩ (zx 73 2 (.seq (.block 3 (yz [10] [zm 74 72,za 75 3 70 72,yg 76 3 75,ye 10 [.aK,z0,z0],zm 9 74,zd 10 iK 10 76] ⟨[3,9,10,70,71,72],[3,10],[]⟩ (zz [zs 77 10 3 10,zf 78 3 3,zj 79 3 78,zm 80 9,za 81 2 79 80,yg 82 2 81,zw 83 true 136 [(iK,(.t 77)),([none,none],(.t 82))],zo 84 (.un .not (.t 83))] ⟨[3,70,71,72,84],[3],[]⟩ (yc 84 (zz [zt 4 false] ⟨[4],[],
 []⟩ (.ret)))))) (zr [zv .add 85 72 1,zm 72 85] ⟨[3,70,71,72],[3],[]⟩)))
def abh:VC:=.loop [] ⟨[3,70,71,72],[3],[]⟩ RM
abbrev abi(De:V)(Df:Int)(Dg:Int)(o3:List V)(G:List aW):St:=⟨[(3,.bK 3 0),(70,De),(71,.int .i64 Df),(72,.int .i64 Dg)],[(3,o3)],[],G⟩
def p9:bq where
 nparams:=2
 results:=[.t 4 [none]]
 body :=
 yz [2,3] [zu 2 0,zu 3 1,zt 4 false] ⟨[2,3],[2,3],[]⟩ (.seq (zz [zs 11 2 9 2,zw 12 true 69 [(ku,(.t 11))],zv .neq 13 12 0,zm 14 13,yf 15 14 false 2 3,yj 16 14 false 3 15,yl 17 14 false 16,yf 18 14 false 6 2,yj 19 14 false 2 18,yl 20 14 false 19,yb .neq 21 14 false 17 20,yp 22 14 true 21,zm 23 22,yf 24 23 false 3 3,yj 25 23 false 3 24,yl 26 23 false 25,yf 27 23 false 7 2,yj 28 23 false 2 27,
 yl 29 23 false 28,yb .neq 30 23 false 26 29,yp 31 23 true 30,zm 32 31,yf 33 32 false 1 3,yj 34 32 false 3 33,yw 35 32 false true 57 [a0 34,ac 1073741824],zq 36 32 false (.un .not (.t 35)),yp 37 32 true 36] ⟨[2,3,37],[2,3],[]⟩ (yc 37 (zz [zt 4 false] ⟨[4],[],[]⟩ (.ret)))) (zz [zf 39 0 2,zs 40 2 6 39,zf 41 0 2,zf 42 5 41,zj 43 2 42,zw 44 true 59 [(pY,(.t 40)),a0 43],zm 38 44,ze 45 38 0,ze 46 38 1,
 zm 5 45,zm 6 46] ⟨[2,3,5],[2,3],[]⟩ (.seq (zz [zf 47 0 3,zj 48 3 47,zm 49 5,zw 50 true 57 [a0 48,a0 49],zo 51 (.un .not (.t 50))] ⟨[2,3,51],[2,3],[]⟩ (yc 51 (zz [zt 4 false] ⟨[4],[],[]⟩ (.ret)))) (.seq (zz [zf 52 6 2,zj 53 2 52,zl 54 53,zh 55 0] ⟨[2,3,53,54,55],[2,3],[]⟩ (.block 0 (abc))) (.seq (zz [zf 69 7 2,zj 70 2 69,zl 71 70,zh 72 0] ⟨[3,70,71,72],[3],
 []⟩ (.block 2 (abh))) (zz [zt 4 true] ⟨[4],[],[]⟩ (.ret)))))))
def KS:VC :=
 zz [zb .lss 38 37 36] ⟨[35,36,37,38],[],[]⟩ (zx 38 0 (.seq (.block 1 (zz [za 39 1 35 37,zi 40 39,zm 7 40] ⟨[7,35,36,37],[],[]⟩ (zz [zm 41 7,zw 42 true 57 [a0 41,ac 2251799813685248],zo 43 (.un .not (.t 42))] ⟨[35,36,37,43],[],[]⟩ (yc 43 (zz [zt 4 false] ⟨[4],[],[]⟩ (.ret)))))) (zr [zv .add 44 37 1,zm 37 44] ⟨[35,36,37],[],[]⟩)))
def RN:VC:=.loop [] ⟨[35,36,37],[],[]⟩ KS
abbrev abj(yR:V)(yS:Int)(vK:Int)(G:List aW):St:=⟨[(35,yR),(36,.int .i64 yS),(37,.int .i64 vK)],[],[],G⟩
def yU:bq where
 nparams:=2
 results:=[.t 4 [none]]
 body :=
 yz [2,3] [zu 2 0,zu 3 1,zt 4 false] ⟨[2,3],[2,3],[]⟩ (zz [zf 8 0 3,zj 9 3 8,zl 10 9,zm 5 10] ⟨[2,3,5],[2,3],[]⟩ (.seq (zz [zs 11 2 2 2,zw 12 true 114 [(mQ,(.t 11))],zv .neq 13 12 0,zm 14 13,ym 15 14 false 5,yf 16 14 false 0 2,yj 17 14 false 2 16,yl 18 14 false 17,yb .gtr 19 14 false 15 18,yp 20 14 true 19,zm 21 20,ym 22 21 false 5,yv .gtr 23 21 false 22 0,ym 24 21 false 23,yf 25 24 true 0 3,
 yj 26 24 true 3 25,ym 27 24 true 5,yv .sub 28 24 true 27 1,ya 29 24 true 1 26 28,yi 30 24 true 29,yv .eql 31 24 true 30 0,zq 32 21 false (.pick (.t 24) (.t 31) (.c (.bool false))),yp 33 21 true 32] ⟨[3,33],[3],[]⟩ (yc 33 (zz [zt 4 false] ⟨[4],[],[]⟩ (.ret)))) (.seq (zz [zf 34 0 3,zj 35 3 34,zl 36 35,zh 37 0] ⟨[35,36,37],[],[]⟩ (.block 0 (RN))) (zz [zt 4 true] ⟨[4],[],[]⟩ (.ret)))))
def RO:VC :=
 zz [zb .lss 17 16 15] ⟨[1,14,15,16,17],[],[]⟩ (zx 17 0 (.seq (.block 1 (yz [6] [zm 18 16,za 19 10 14 16,yg 20 10 19,ye 6 [z0,.aK,z0,z0,z0,z0,z0,.aK,.aK,z0],zm 5 18,zd 6 vI 6 20] ⟨[1,5,6,14,15,16],[6],[]⟩ (zz [zf 21 1 6,zs 22 6 9 21,zm 23 1,zm 24 5,za 25 4 23 24,yg 26 4 25,zw 27 true 137 [(ku,(.t 22)),(fL,(.t 26))],zo 28 (.un .not (.t 27))] ⟨[1,14,15,16,28],[],[]⟩ (yc 28 (zz [zt 4 false] ⟨[4],[],
 []⟩ (.ret)))))) (zr [zv .add 29 16 1,zm 16 29] ⟨[1,14,15,16],[],[]⟩)))
def abk:VC:=.loop [] ⟨[1,14,15,16],[],[]⟩ RO
abbrev abl(x1:V)(lH:V)(mz:Int)(tK:Int)(G:List aW):St:=⟨[(1,x1),(14,lH),(15,.int .i64 mz),(16,.int .i64 tK)],[],[],G⟩
def Gf:bq where
 nparams:=2
 results:=[.t 4 [none]]
 body :=
 yz [2] [zu 2 0,zt 4 false] ⟨[1,2],[2],[]⟩ (.seq (zz [zm 7 1,zl 8 7,zf 9 2 2,zj 10 2 9,zl 11 10,zb .neq 12 8 11] ⟨[1,2,12],[2],[]⟩ (yc 12 (zz [zt 4 false] ⟨[4],[],[]⟩ (.ret)))) (.seq (zz [zf 13 2 2,zj 14 2 13,zl 15 14,zh 16 0] ⟨[1,14,15,16],[],[]⟩ (.block 0 (abk))) (zz [zt 4 true] ⟨[4],[],[]⟩ (.ret))))
def Gg:bq where
 nparams:=1
 results:=[.t 2 [some 1],.t 3 [none]]
 body :=
 yz [1] [zu 1 0,zy 2,zh 3 0] ⟨[1],[1],[]⟩ (.seq (zz [zs 5 1 2 1,zw 6 true 67 [(tE,(.t 5))],zm 4 6] ⟨[1,4],[1],[]⟩ (zz [zm 7 4,zv .neq 8 7 0] ⟨[1,4,8],[1],[]⟩ (yc 8 (zz [zm 9 4,zy 2,zm 3 9] ⟨[2,3],[13],[]⟩ (.ret))))) (yz [13] [zf 10 1 1,zj 11 1 10,zl 12 11,zo 13 (.mf 13 [.aK] (.t 12)),zm 2 13,zh 3 0] ⟨[2,3],[13],[]⟩ (.ue [.freeze 2 [some 1]])))
def RP:VC :=
 zz [zb .lss 9 8 7] ⟨[3,6,7,8,9],[20023],[]⟩ (zx 9 0 (.seq (.block 1 (yz [5] [za 10 4 6 8,yg 11 4 10,ye 5 [z0,z0,.aK,.aK],zd 5 fL 5 11] ⟨[3,5,6,7,8],[5,20023],[]⟩ (zz [zf 12 2 5,zj 13 5 12,zw 14 true 138 [ad 3 13],zf 15 3 5,zj 16 5 15,zw 17 true 139 [ad 2 16],zf 18 2 5,zd 5 [some 3] 18 14,zf 19 3 5,zd 5 [some 2] 19 17] ⟨[3,5,6,7,8],[5,20023],[]⟩ (.region [.ov 3 20023 4,
 .ic 20023 21023] [20023] [zm 20 3,zs 21 5 4 5,zo 22 (.lit none [none,none,some 0,some 0] [z0,z0,.slice none 0 [],.slice none 0 []] 1 [(0,(.t 21))]),zo 23 (.m9 20023 21023 fL (.t 20) (.t 22)),zm 3 23] ⟨[3,6,7,8],[20023],[]⟩)))) (zr [zv .add 24 8 1,zm 8 24] ⟨[3,6,7,8],[20023],[]⟩)))
def abm:VC:=.loop [.ov 3 20023 4] ⟨[3,6,7,8],[20023],[]⟩ RP
abbrev abn(n3:Nat)(x6:V)(x7:Int)(x8:Int)(Dj:List V)(G:List aW):St:=⟨[(3,.cb 20023 4 n3),(6,x6),(7,.int .i64 x7),(8,.int .i64 x8)],[(20023,Dj)],[],G⟩
def KT:bq where
 nparams:=1
 results:=[.t 2 [some 4]]
 body :=
 zz [zy 2] ⟨[0],[],[]⟩ (zz [zy 3] ⟨[0,3],[20023],[]⟩ (.seq (zz [zm 6 0,zl 7 6,zh 8 0] ⟨[3,6,7,8],[20023],[]⟩ (.block 0 (abm))) (.seq (.region [.share 3 fL] [] [zm 25 3,zm 2 25] ⟨[2],[20023],[]⟩) (.ret))))
def Gi:bq where
 nparams:=1
 results:=[.t 2 [some 1],.t 3 [none]]
 body :=
 yz [1] [zu 1 0,zy 2,zh 3 0] ⟨[1],[1],[]⟩ (.seq (zz [zs 5 1 2 1,zw 6 true 56 [(tE,(.t 5))],zm 4 6] ⟨[1,4],[1],[]⟩ (zz [zm 7 4,zv .neq 8 7 0] ⟨[1,4,8],[1],[]⟩ (yc 8 (zz [zm 9 4,zy 2,zm 3 9] ⟨[2,3],[13],[]⟩ (.ret))))) (yz [13] [zf 10 1 1,zj 11 1 10,zl 12 11,zo 13 (.mf 13 [.aK] (.t 12)),zm 2 13,zh 3 0] ⟨[2,3],[13],[]⟩ (.ue [.freeze 2 [some 1]])))
def RQ:VC :=
 zz [zb .lss 9 8 7] ⟨[3,6,7,8,9],[20018],[]⟩ (zx 9 0 (.seq (.block 1 (yz [5] [za 10 1 6 8,yg 11 1 10,ye 5 [.aK],zd 5 [some 1] 5 11] ⟨[3,5,6,7,8],[5,20018],[]⟩ (.region [.ov 3 20018 1,.ic 20018 21018] [20018] [zm 12 3,zf 13 0 5,zj 14 5 13,zw 15 true 91 [ad 1 14],zo 16 (.build [.aK] [(0,1,(.t 15))]),zo 17 (.lit none [some 0] [.slice none 0 []] 1 [(0,(.t 16))]),
 zo 18 (.m9 20018 21018 [some 1] (.t 12) (.t 17)),zm 3 18] ⟨[3,6,7,8],[20018],[]⟩))) (zr [zv .add 19 8 1,zm 8 19] ⟨[3,6,7,8],[20018],[]⟩)))
def abo:VC:=.loop [.ov 3 20018 1] ⟨[3,6,7,8],[20018],[]⟩ RQ
abbrev abp(n3:Nat)(x6:V)(x7:Int)(x8:Int)(abq:List V)(G:List aW):St:=⟨[(3,.cb 20018 1 n3),(6,x6),(7,.int .i64 x7),(8,.int .i64 x8)],[(20018,abq)],[],G⟩
def KU:bq where
 nparams:=1
 results:=[.t 2 [some 1]]
 body :=
 zz [zy 2] ⟨[0],[],[]⟩ (zz [zy 3] ⟨[0,3],[20018],[]⟩ (.seq (zz [zm 6 0,zl 7 6,zh 8 0] ⟨[3,6,7,8],[20018],[]⟩ (.block 0 (abo))) (.seq (.region [.share 3 [some 1]] [] [zm 20 3,zm 2 20] ⟨[2],[20018],[]⟩) (.ret))))
def ao2:VC :=
 zz [zb .lss 14 13 12] ⟨[0,1,12,13,14],[],[]⟩ (zx 14 0 (.seq (.block 1 (zz [zm 15 13,zm 5 15] ⟨[0,1,5,12,13],[],[]⟩ (zz [zm 16 0,zm 17 5,za 18 1 16 17,zi 19 18,zm 20 1,zm 21 5,za 22 1 20 21,zi 23 22,zb .neq 24 19 23] ⟨[0,1,12,13,24],[],[]⟩ (yc 24 (zz [zt 4 false] ⟨[4],[],[]⟩ (.ret)))))) (zr [zv .add 25 13 1,zm 13 25] ⟨[0,1,12,13],[],[]⟩)))
def aqT:VC:=.loop [] ⟨[0,1,12,13],[],[]⟩ ao2
abbrev aqU(x0:V)(x1:V)(mw:Int)(jB:Int)(G:List aW):St:=⟨[(0,x0),(1,x1),(12,.int .i64 mw),(13,.int .i64 jB)],[],[],G⟩
def aiw:bq where
 nparams:=2
 results:=[.t 4 [none]]
 body :=
 zz [zt 4 false] ⟨[0,1],[],[]⟩ (.seq (zz [zm 6 0,zl 7 6,zm 8 1,zl 9 8,zb .neq 10 7 9] ⟨[0,1,10],[],[]⟩ (yc 10 (zz [zt 4 false] ⟨[4],[],[]⟩ (.ret)))) (.seq (zz [zm 11 0,zl 12 11,zh 13 0] ⟨[0,1,12,13],[],[]⟩ (.block 0 (aqT))) (zz [zt 4 true] ⟨[4],[],[]⟩ (.ret))))
def Bb:bq where
 nparams:=3
 results:=[.c 6 true [some 1],.t 7 [none],.t 8 [none]]
 body :=
 yz [3,4,6] [zu 3 0,zu 4 1,ye 6 [.aK],zh 7 0,zh 8 0] ⟨[2,3,4,6],[3,4,6],[]⟩ (.seq (zz [zs 10 3 2 3,zs 11 4 1 4,zw 12 true 143 [(mQ,(.t 10)),ad 1 11],zm 9 12] ⟨[2,3,4,6,9],[3,4,6],[]⟩ (zz [zm 13 9,zv .neq 14 13 0] ⟨[2,3,4,6,9,14],[3,4,6],[]⟩ (yc 14 (zz [zo 15 (.build [.aK] []),zm 16 9,zd 6 [some 1] 6 15,zh 7 0,zm 8 16] ⟨[6,7,8],[6],[]⟩ (.ret))))) (zz [zs 17 3 2 3,zs 18 4 1 4,zm 19 2,
 zw 20 true 144 [(mQ,(.t 17)),ad 1 18,a0 19],ze 21 20 0,ze 22 20 1,ze 23 20 2,zd 6 [some 1] 6 21,zm 7 22,zm 8 23] ⟨[6,7,8],[6],[]⟩ (.ret)))
def Bc:bq where
 nparams:=2
 results:=[.t 4 [none]]
 body :=
 yz [2,3] [zu 2 0,zu 3 1,zt 4 false] ⟨[2,3],[2,3],[]⟩ (zz [zf 5 0 3,zj 6 3 5,zl 7 6,zf 8 0 2,zf 9 0 8,zj 10 2 9,zb .eql 11 7 10,zm 12 11,yf 13 12 true 1 3,yj 14 12 true 3 13,yl 15 12 true 14,yf 16 12 true 2 2,yj 17 12 true 2 16,yl 18 12 true 17,yb .eql 19 12 true 15 18,zp 20 12 19 false,zm 21 20,yf 22 21 true 2 3,yj 23 21 true 3 22,yl 24 21 true 23,yf 25 21 true 2 2,yj 26 21 true 2 25,
 yl 27 21 true 26,yb .eql 28 21 true 24 27,zp 29 21 28 false,zm 4 29] ⟨[4],[],[]⟩ (.ret))
def KV:bq where
 nparams:=2
 results:=[.t 4 [none]]
 body :=
 zz [zt 4 false] ⟨[0,1],[],[]⟩ (zz [zm 5 0,zm 6 1,zw 7 false 145 [ad 1 5,a0 6],zv .geq 8 7 0,zm 4 8] ⟨[4],[],[]⟩ (.ret))
def RR:VC :=
 zz [zb .lss 12 11 10] ⟨[0,3,9,10,11,12],[],[]⟩ (zx 12 0 (.seq (.block 1 (zz [za 13 1 9 11,zi 14 13,zm 5 14] ⟨[0,3,5,9,10,11],[],[]⟩ (zz [zm 15 3,zm 16 5,zl 17 16,zb .add 18 15 17,zm 3 18] ⟨[0,3,9,10,11],[],[]⟩ (zz [zm 19 3,zv .lss 20 19 0] ⟨[0,3,9,10,11,20],[],[]⟩ (yc 20 (.dead)))))) (zr [zv .add 22 11 1,zm 11 22] ⟨[0,3,9,10,11],[],[]⟩)))
def RS:VC:=.loop [] ⟨[0,3,9,10,11],[],[]⟩ RR
def RT:VC :=
 zz [zb .lss 28 27 26] ⟨[6,25,26,27,28],[20033],[]⟩ (zx 28 2 (.seq (.block 3 (zz [za 29 1 25 27,zi 30 29,zm 8 30] ⟨[6,8,25,26,27],[20033],[]⟩ (.region [.ic 20033 21033] [20033] [zm 31 6,zm 32 8,zo 33 (.m9 20033 21033 [none] (.t 31) (.t 32)),zm 6 33] ⟨[6,25,26,27],[20033],[]⟩))) (zr [zv .add 34 27 1,zm 27 34] ⟨[6,25,26,27],[20033],[]⟩)))
def RU:VC:=.loop [] ⟨[6,25,26,27],[20033],[]⟩ RT
def KW:bq where
 nparams:=1
 results:=[.t 2 [some 1]]
 body :=
 zz [zy 2] ⟨[0],[],[]⟩ (zz [zh 3 0] ⟨[0,3],[],[]⟩ (.seq (zz [zm 9 0,zl 10 9,zh 11 0] ⟨[0,3,9,10,11],[],[]⟩ (.block 0 (RS))) (yz [20033] [zm 23 3,zo 24 (.grow 146 20033 (.t 23)),zm 6 24] ⟨[0,6],[20033],[]⟩ (.seq (zz [zm 25 0,zl 26 25,zh 27 0] ⟨[6,25,26,27],[20033],[]⟩ (.block 2 (RU))) (.seq (.region [.freeze 6 [none]] [] [zm 35 6,zm 2 35] ⟨[2],[20033],[]⟩) (.ret))))))
def abH:bq where
 nparams:=1
 results:=[.t 2 [none]]
 body :=
 zz [zt 2 false] ⟨[0],[],[]⟩ (zz [zm 3 0,zv .lss 4 3 0,zm 5 4,ym 6 5 false 0,yv .gtr 7 5 false 6 274877906944,yp 8 5 true 7,zm 2 8] ⟨[2],[],[]⟩ (.ret))
def DI:bq where
 nparams:=1
 results:=[.t 2 [some 1]]
 split:=some 0
 body :=
 zz [zy 2] ⟨[0],[],[]⟩ (.seq (zz [zm 3 0,zo 4 (.qV false (.t 3))] ⟨[0,4],[],[]⟩ (yc 4 (zz [zy 2] ⟨[2],[],[1007]⟩ (.ret)))) (yz [1007] [zo 5 (.sZ 1),zm 6 0,zo 7 (.app 1007 none [none] 17592186044416 (.t 5) (.t 6)),zm 2 7] ⟨[2],[],[1007]⟩ (.ret)))
def ao3:VC :=
 zz [zv .lss 25 24 7] ⟨[3,4,5,23,24,25],[3,4,5],[]⟩ (zx 25 0 (.seq (.block 1 (zz [zo 26 (.idx 7 1 false (.t 23) (.t 24)),zm 8 26] ⟨[3,4,5,8,23,24],[3,4,5],[]⟩ (zz [zm 27 8,zw 28 true 147 [a0 27,ac 274877906944],zo 29 (.un .not (.t 28))] ⟨[3,4,5,23,24,29],[3,4,5],[]⟩ (yc 29 (zz [zt 6 false] ⟨[6],[],[]⟩ (.ret)))))) (zr [zv .add 30 24 1,zm 24 30] ⟨[3,4,5,23,24],[3,4,5],[]⟩)))
def aqV:VC:=.loop [] ⟨[3,4,5,23,24],[3,4,5],[]⟩ ao3
abbrev aqW(rB:V)(p7:Int)(o3:List V)(o4:List V)(o5:List V)(G:List aW):St:=⟨[(3,.bK 3 0),(4,.bK 4 0),(5,.bK 5 0),(23,rB),(24,.int .i64 p7)],[(3,o3),(4,o4),(5,o5)],[],G⟩
def akn:bq where
 nparams:=3
 results:=[.t 6 [none]]
 body :=
 yz [3,4,5] [zu 3 0,zu 4 1,zu 5 2,zt 6 false] ⟨[3,4,5],[3,4,5],[]⟩ (.seq (zz [zf 9 0 3,zj 10 3 9,zf 11 0 4,zj 12 4 11,zf 13 0 5,zj 14 5 13,zf 15 1 5,zj 16 5 15,zf 17 2 5,zj 18 5 17,zf 19 3 5,zj 20 5 19,zf 21 4 5,zj 22 5 21,zo 23 (.build [z0,z0,z0,z0,z0,z0,z0] [(0,1,(.t 10)),(1,1,(.t 12)),(2,1,(.t 14)),(3,1,(.t 16)),(4,1,(.t 18)),(5,1,(.t 20)),(6,1,(.t 22))]),zh 24 0] ⟨[3,4,5,23,24],[3,4,5],
 []⟩ (.block 0 (aqV))) (zz [zf 31 0 4,zj 32 4 31,zf 33 0 3,zj 34 3 33,zf 35 0 5,zj 36 5 35,zb .add 37 34 36,zf 38 1 5,zj 39 5 38,zb .sub 40 37 39,zf 41 2 5,zj 42 5 41,zb .sub 43 40 42,zf 44 3 5,zj 45 5 44,zb .sub 46 43 45,zf 47 4 5,zj 48 5 47,zb .sub 49 46 48,zb .eql 50 32 49,zm 6 50] ⟨[6],[],[]⟩ (.ret)))
def KX:bq where
 nparams:=1
 results:=[.t 2 [none]]
 body :=
 yz [1] [zu 1 0,zh 2 0] ⟨[1],[1],[]⟩ (zz [zf 3 2 1,zj 4 1 3,zf 5 3 1,zj 6 1 5,zb .add 7 4 6,zf 8 4 1,zj 9 1 8,zb .add 10 7 9,zm 2 10] ⟨[2],[],[]⟩ (.ret))
def RV:VC :=
 zz [zb .lss 10 9 8] ⟨[1,7,8,9,10],[],[]⟩ (zx 10 0 (.seq (.block 1 (zz [za 11 1 7 9,zi 12 11,zm 6 12] ⟨[1,6,7,8,9],[],[]⟩ (zz [zm 13 6,zm 14 1,zw 15 true 71 [a0 13,a0 14],zo 16 (.un .not (.t 15))] ⟨[1,7,8,9,16],[],[]⟩ (yc 16 (zz [zt 4 false] ⟨[4],[],[]⟩ (.ret)))))) (zr [zv .add 17 9 1,zm 9 17] ⟨[1,7,8,9],[],[]⟩)))
def abr:VC:=.loop [] ⟨[1,7,8,9],[],[]⟩ RV
abbrev abt(x1:Int)(x7:V)(x8:Int)(x9:Int)(G:List aW):St:=⟨[(1,.int .i64 x1),(7,x7),(8,.int .i64 x8),(9,.int .i64 x9)],[],[],G⟩
def KY:bq where
 nparams:=2
 results:=[.t 4 [none]]
 body :=
 zz [zt 4 false] ⟨[0,1],[],[]⟩ (.seq (zz [zm 7 0,zl 8 7,zh 9 0] ⟨[1,7,8,9],[],[]⟩ (.block 0 (abr))) (zz [zt 4 true] ⟨[4],[],[]⟩ (.ret)))
def KZ:bq where
 nparams:=1
 results:=[.t 2 [none]]
 body :=
 yz [1] [zu 1 0,zh 2 0] ⟨[1],[1],[]⟩ (zz [zf 3 2 1,zj 4 1 3,zf 5 3 1,zj 6 1 5,zb .add 7 4 6,zf 8 4 1,zj 9 1 8,zb .add 10 7 9,zm 2 10] ⟨[2],[],[]⟩ (.ret))
def ao4:VC :=
 zz [zb .lss 26 25 24] ⟨[3,4,5,23,24,25,26],[3,4,5],[]⟩ (zx 26 0 (.seq (.block 1 (zz [za 27 1 23 25,zi 28 27,zm 8 28] ⟨[3,4,5,8,23,24,25],[3,4,5],[]⟩ (zz [zm 29 8,zw 30 true 57 [a0 29,ac 274877906944],zo 31 (.un .not (.t 30))] ⟨[3,4,5,23,24,25,31],[3,4,5],[]⟩ (yc 31 (zz [zt 6 false] ⟨[6],[],[]⟩ (.ret)))))) (zr [zv .add 32 25 1,zm 25 32] ⟨[3,4,5,23,24,25],[3,4,5],[]⟩)))
def aqX:VC:=.loop [] ⟨[3,4,5,23,24,25],[3,4,5],[]⟩ ao4
abbrev aqY(rB:V)(p7:Int)(yV:Int)(o3:List V)(o4:List V)(o5:List V)(G:List aW):St:=⟨[(3,.bK 3 0),(4,.bK 4 0),(5,.bK 5 0),(23,rB),(24,.int .i64 p7),(25,.int .i64 yV)],[(3,o3),(4,o4),(5,o5)],[],G⟩
def akt:bq where
 nparams:=3
 results:=[.t 6 [none]]
 body :=
 yz [3,4,5] [zu 3 0,zu 4 1,zu 5 2,zt 6 false] ⟨[3,4,5],[3,4,5],[]⟩ (.seq (zz [zf 9 0 3,zj 10 3 9,zf 11 0 4,zj 12 4 11,zf 13 0 5,zj 14 5 13,zf 15 1 5,zj 16 5 15,zf 17 2 5,zj 18 5 17,zf 19 3 5,zj 20 5 19,zf 21 4 5,zj 22 5 21,zo 23 (.lit none [none] [z0] 7 [(0,(.t 10)),(1,(.t 12)),(2,(.t 14)),(3,(.t 16)),(4,(.t 18)),(5,(.t 20)),(6,(.t 22))]),zl 24 23,zh 25 0] ⟨[3,4,5,23,24,25],[3,4,5],
 []⟩ (.block 0 (aqX))) (zz [zf 33 0 4,zj 34 4 33,zf 35 0 3,zj 36 3 35,zf 37 0 5,zj 38 5 37,zb .add 39 36 38,zf 40 1 5,zj 41 5 40,zb .sub 42 39 41,zf 43 2 5,zj 44 5 43,zb .sub 45 42 44,zf 46 3 5,zj 47 5 46,zb .sub 48 45 47,zf 49 4 5,zj 50 5 49,zb .sub 51 48 50,zb .eql 52 34 51,zm 6 52] ⟨[6],[],[]⟩ (.ret)))
def RW:VC :=
 .seq (zz [zm 9 4,zv .add 10 9 1,zf 11 0 3,zj 12 3 11,zb .lss 13 10 12] ⟨[0,2,3,4,13],[2,3],[1036]⟩ (.cond (.t 13) (.skip) (.exit 0))) (.seq (.block 1 (zz [zm 16 0,zw 17 false 23 [a0 16,ac 6],zv .gtr 18 17 0] ⟨[0,2,3,4,18],[2,3],[1036]⟩ (yc 18 (.region [.kE 3 1 1036 4] [5036] [zf 19 1 3,zj 20 3 19,zm 21 4,zm 22 4,zv .add 23 22 1,zm 24 0,zf 25 0 3,zj 26 3 25,zm 27 4,zb .sub 28 26 27,
 zv .sub 29 28 1,zw 30 false 23 [a0 24,a0 29],zb .add 31 23 30,zm 32 0,zw 33 false 153 [a0 32],zo 34 (.build [z0,z0,.aK,z0] [(0,1,(.t 21)),(1,1,(.t 31)),(2,2,(.t 33))]),zo 35 (.lit none tD [z0,z0,.slice none 1 [],z0] 1 [(0,(.t 34))]),zo 36 (.app 5036 (some 1036) tD 2932031007402 (.t 20) (.t 35)),zf 37 1 3,zd 3 [some 4] 37 36] ⟨[0,2,3,4],[2,3],[1036]⟩)))) (zr [zm 14 4,zv .add 15 14 1,zm 4 15] ⟨[0,
 2,3,4],[2,3],[1036]⟩))
def abu:VC:=.loop [.kE 3 1 1036 4] ⟨[0,2,3,4],[2,3],[1036]⟩ RW
abbrev abv(x0:V)(x4:Int)(o2:List V)(o3:List V)(abw:Nat)(G:List aW):St:=⟨[(0,x0),(2,.bK 2 0),(3,.bK 3 0),(4,.int .i64 x4)],[(2,o2),(3,o3)],[(1036,abw)],G⟩
def K0:bq where
 nparams:=1
 results:=[.c 2 true tE]
 body :=
 yz [2] [ye 2 [z0,.aK]] ⟨[0,2],[2],[1036]⟩ (yz [3] [zm 5 0,zw 6 false 23 [a0 5,ac 6],zo 7 (.bin .add (zc 1) (.t 6)),zo 8 (.build [z0,.aK] [(0,1,(.t 7))]),ye 3 [z0,.aK],zd 3 tE 3 8] ⟨[0,2,3],[2,3],[1036]⟩ (.seq (zz [zh 4 0] ⟨[0,2,3,4],[2,3],[1036]⟩ (.block 0 (abu))) (zz [zs 38 3 2 3,zd 2 tE 2 38] ⟨[2],[2],[1036]⟩ (.ret))))
def K1:bq where
 nparams:=1
 results:=[.c 2 true ku,.c 3 true fL]
 body :=
 yz [2,3] [ye 2 [.aK,z0,z0,z0,z0,z0,.aK,.aK,z0],ye 3 [z0,z0,.aK,.aK]] ⟨[0,2,3],[2,3],[]⟩ (yz [4] [zm 8 0,zw 9 false 154 [a0 8],zm 10 0,zw 11 false 23 [a0 10,ac 4],zo 12 (.bin .add (zc 1) (.t 11)),zo 13 (.build [.aK,z0,z0,z0,z0,z0,.aK,.aK,z0] [(0,6,(.t 9)),(8,1,(.t 12))]),ye 4 [.aK,z0,z0,z0,z0,z0,.aK,.aK,z0],zd 4 ku 4 13] ⟨[0,2,3,4],[2,3,4],[]⟩ (yz [5] [ye 5 [z0,z0,.aK,.aK]] ⟨[0,2,3,4,5],[2,3,4,5],
 []⟩ (zz [zm 15 0,zw 16 false 155 [a0 15,ac 2],zm 14 16,ze 17 14 0,ze 18 14 1,zf 19 6 4,zd 4 [some 6] 19 17,zf 20 2 5,zd 5 [some 3] 20 18] ⟨[0,2,3,4,5],[2,3,4,5],[]⟩ (zz [zm 22 0,zw 23 false 156 [a0 22,ac 2],zm 21 23,ze 24 21 0,ze 25 21 1,zf 26 7 4,zd 4 [some 3] 26 24,zf 27 3 5,zd 5 [some 2] 27 25] ⟨[0,2,3,4,5],[2,3,4,5],[]⟩ (zz [zf 29 0 4,zs 30 4 6 29,zf 31 0 4,zf 32 5 31,zj 33 4 32,
 zw 34 true 59 [(pY,(.t 30)),a0 33],zm 28 34,ze 35 28 0,ze 36 28 1,zm 6 35,zm 7 36] ⟨[0,2,3,4,5,6],[2,3,4,5],[]⟩ (zz [zm 37 0,zm 38 6,zv .add 39 38 1,zw 40 false 23 [a0 37,a0 39],zf 41 0 5,zd 5 [none] 41 40] ⟨[0,2,3,4,5],[2,3,4,5],[]⟩ (zz [zm 42 0,zw 43 false 23 [a0 42,ac 30],zf 44 1 5,zd 5 [none] 44 43] ⟨[2,3,4,5],[2,3,4,5],[]⟩ (zz [zs 45 4 9 4,zs 46 5 4 5,zd 2 ku 2 45,zd 3 fL 3 46] ⟨[2,3],[2,3],
 []⟩ (.ret)))))))))
def DJ:bq where
 nparams:=1
 results:=[.t 2 [none]]
 body :=
 zz [zt 2 false] ⟨[0],[],[]⟩ (zz [zm 3 0,zv .lss 4 3 0,zm 5 4,ym 6 5 false 0,yv .gtr 7 5 false 6 1073741824,yp 8 5 true 7,zm 2 8] ⟨[2],[],[]⟩ (.ret))
end Go.Proofs.YtmpikpodpgnjhaaGreat
