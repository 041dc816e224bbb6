/- The functions of the program, as the value machine has them, by program. -/
import Derived.Test.YtmpikpodpgnjhaaGreatQ0
namespace Go.Proofs.YtmpikpodpgnjhaaGreat
open Go.Vm
set_option maxRecDepth 100000
def SV:VC :=
 zz [zb .lss 26 25 24] ⟨[2,3,6,9,23,24,25,26],[3,6,17],[]⟩ (zx 26 0 (.seq (.block 1 (zz [zm 27 25,za 28 1 23 25,zi 29 28,zm 10 27,zm 11 29] ⟨[2,3,6,9,10,11,23,24,25],[3,6,17],[]⟩ (zz [zm 30 9,zm 31 10,za 32 1 30 31,zj 33 17 32,zm 34 2,zm 35 11,zb .mul 36 34 35,zb .add 37 33 36,za 38 1 30 31,zd 17 [none] 38 37] ⟨[2,3,6,9,10,23,24,25],[3,6,17],[]⟩ (zz [zm 39 9,zm 40 10,za 41 1 39 40,zj 42 17 41,
 zv .gtr 43 42 1125899906842624] ⟨[2,3,6,9,23,24,25,43],[3,6,17],[]⟩ (yc 43 (zz [zo 44 (.build [.aK] []),zd 6 [some 1] 6 44,zh 7 0,zt 8 false] ⟨[6,7,8],[6,17],[]⟩ (.ret))))))) (zr [zv .add 45 25 1,zm 25 45] ⟨[2,3,6,9,23,24,25],[3,6,17],[]⟩)))
def adg:VC:=.loop [] ⟨[2,3,6,9,23,24,25],[3,6,17],[]⟩ SV
abbrev adh(x2:Int)(n9:Nat)(rB:V)(p7:Int)(yV:Int)(o3:List V)(o6:List V)(LP:List V)(G:List aW):St:=⟨[(2,.int .i64 x2),(3,.bK 3 0),(6,.bK 6 0),(9,.cb 17 1 n9),(23,rB),(24,.int .i64 p7),(25,.int .i64 yV)],[(3,o3),(6,o6),(17,LP)],[],G⟩
def GN:VC :=
 .seq (zz [zm 69 9,zl 70 69,zv .gtr 71 70 0,zm 72 71,ym 73 72 true 9,ym 74 72 true 9,yl 75 72 true 74,yv .sub 76 72 true 75 1,ya 77 72 true 1 73 76,yj 78 72 true 17 77,yv .eql 79 72 true 78 0,zp 80 72 79 false] ⟨[6,9,12,80],[6,17],[]⟩ (.cond (.t 80) (.skip) (.exit 2))) (.block 3 (zr [zm 81 9,zm 82 9,zl 83 82,zv .sub 84 83 1,zo 85 (.pf 1 (.t 81) none (some (.t 84))),zm 9 85] ⟨[6,9,12],[6,17],[]⟩))
def adi:VC:=.loop [] ⟨[6,9,12],[6,17],[]⟩ GN
abbrev adj(n9:Nat)(mw:Int)(o6:List V)(LP:List V)(G:List aW):St:=⟨[(6,.bK 6 0),(9,.cb 17 1 n9),(12,.int .i64 mw)],[(6,o6),(17,LP)],[],G⟩
def LQ:bq where
 nparams:=3
 results:=[.c 6 true [some 1],.t 7 [none],.t 8 [none]]
 body :=
 yz [3,4,6] [zu 3 0,zu 4 1,ye 6 [.aK],zh 7 0,zt 8 false] ⟨[2,3,4,6],[3,4,6,17],[]⟩ (yz [17] [zf 13 0 3,zj 14 3 13,zl 15 14,zv .add 16 15 1,zo 17 (.mf 17 [z0] (.t 16)),zm 9 17] ⟨[2,3,4,6,9],[3,4,6,17],[]⟩ (zz [zm 18 9,zf 19 0 4,zj 20 4 19,zo 21 (.qm 17 none (.t 18) (.t 20))] ⟨[2,3,6,9],[3,6,17],[]⟩ (.seq (zz [zf 22 0 3,zj 23 3 22,zl 24 23,zh 25 0] ⟨[2,3,6,9,23,24,25],[3,6,17],
 []⟩ (.block 0 (adg))) (zz [zm 46 9,zo 47 (.eg none 1 (.t 46) (zc 0)),zj 48 17 47,zf 49 1 3,zj 50 3 49,zb .quo 51 48 50,zm 12 51] ⟨[3,6,9,12],[3,6,17],[]⟩ (zz [zm 52 9,zo 53 (.eg none 1 (.t 52) (zc 1)),zj 54 17 53,zm 55 9,zo 56 (.eg none 1 (.t 55) (zc 0)),zj 57 17 56,zf 58 1 3,zj 59 3 58,zb .rem 60 57 59,zb .add 61 54 60,zo 62 (.eg none 1 (.t 52) (zc 1)),zd 17 [none] 62 61] ⟨[6,9,12],[6,17],
 []⟩ (zz [zm 63 9,zm 64 9,zm 65 9,zo 66 (.pf 1 (.t 65) (some (zc 1)) none),zo 67 (.qm 17 (some 17) (.t 64) (.t 66)),zo 68 (.pf 1 (.t 63) none (some (.t 67))),zm 9 68] ⟨[6,9,12],[6,17],[]⟩ (.seq (.block 2 (adi)) (.seq (.region [.freeze 9 [none]] [] [zm 86 9,zo 87 (.build [.aK] [(0,1,(.t 86))]),zm 88 12,zd 6 [some 1] 6 87,zm 7 88,zt 8 true] ⟨[6,7,8],[6,17],[]⟩) (.ret)))))))))
def SW:VC :=
 zz [zb .lss 11 10 9] ⟨[0,1,8,9,10,11],[],[]⟩ (zx 11 0 (.seq (.block 1 (yz [6] [zm 12 10,za 13 2 8 10,yg 14 2 13,ye 6 [z0,z0],zm 5 12,zd 6 [none,none] 6 14] ⟨[0,1,5,6,8,9,10],[6],[]⟩ (.block 2 (zz [zm 16 1,zf 17 0 6,zj 18 6 17,zb .leq 19 16 18,zm 20 19,ym 21 20 true 5,yv .eql 22 20 true 21 0,zp 23 20 22 false,zm 15 23] ⟨[0,1,5,6,8,9,10,15],[6],[]⟩ (.cond (.t 15) (zz [zf 24 1 6,zj 25 6 24,
 zm 4 25] ⟨[4],[],[]⟩ (.ret)) (zz [zm 27 1,zf 28 0 6,zj 29 6 28,zb .leq 30 27 29,zm 26 30] ⟨[0,1,5,6,8,9,10,26],[6],[]⟩ (yc 26 (yz [7] [zm 31 0,zm 32 5,zv .sub 33 32 1,za 34 2 31 33,yg 35 2 34,ye 7 [z0,z0],zd 7 [none,none] 7 35] ⟨[1,6,7],[6,7],[]⟩ (zz [zf 36 1 7,zj 37 7 36,zf 38 1 6,zj 39 6 38,zf 40 1 7,zj 41 7 40,zb .sub 42 39 41,zm 43 1,zf 44 0 7,zj 45 7 44,zb .sub 46 43 45,zb .mul 47 42 46,
 zf 48 0 6,zj 49 6 48,zf 50 0 7,zj 51 7 50,zb .sub 52 49 51,zb .quo 53 47 52,zb .add 54 37 53,zm 4 54] ⟨[4],[],[]⟩ (.ret)))))))))) (zr [zv .add 55 10 1,zm 10 55] ⟨[0,1,8,9,10],[],[]⟩)))
def adk:VC:=.loop [] ⟨[0,1,8,9,10],[],[]⟩ SW
abbrev adl(x0:V)(x1:Int)(x8:V)(x9:Int)(lG:Int)(G:List aW):St:=⟨[(0,x0),(1,.int .i64 x1),(8,x8),(9,.int .i64 x9),(10,.int .i64 lG)],[],[],G⟩
def LR:bq where
 nparams:=2
 results:=[.t 4 [none]]
 body :=
 zz [zh 4 0] ⟨[0,1],[],[]⟩ (.seq (zz [zm 8 0,zl 9 8,zh 10 0] ⟨[0,1,8,9,10],[],[]⟩ (.block 0 (adk))) (zz [zm 56 0,zm 57 0,zl 58 57,zv .sub 59 58 1,za 60 2 56 59,zf 61 1 60,zi 62 61,zm 4 62] ⟨[4],[],[]⟩ (.ret)))
def Bl:bq where
 nparams:=2
 results:=[.t 4 [none]]
 body :=
 yz [2,3] [zu 2 0,zu 3 1,zt 4 false] ⟨[2,3],[2,3],[]⟩ (zz [zf 5 1 3,zj 6 3 5,zw 7 true 147 [a0 6,ac 1000],zm 8 7,yf 9 8 true 0 3,yj 10 8 true 3 9,yv .eql 11 8 true 10 0,ym 12 8 true 11,yf 13 12 false 2 3,yj 14 12 false 3 13,zq 15 12 false (.un .not (.t 14)),ym 16 12 false 15,ys 17 16 true 2 6 2,yf 18 16 true 0 3,yj 19 16 true 3 18,yw 20 16 true true 209 [(eF,(.t 17)),a0 19],
 zq 21 12 false (.pick (.t 16) (.t 20) (.c (.bool false))),zq 22 8 true (.pick (.t 12) (.c (.bool true)) (.t 21)),zp 23 8 22 false,zm 4 23] ⟨[4],[],[]⟩ (.ret))
def SX:VC :=
 zz [zb .lss 26 25 24] ⟨[0,1,23,24,25,26],[],[]⟩ (zx 26 0 (.seq (.block 1 (yz [9] [zm 27 25,za 28 2 23 25,yg 29 2 28,ye 9 [z0,z0],zm 8 27,zd 9 [none,none] 9 29] ⟨[0,1,8,9,23,24,25],[9],[]⟩ (yz [10] [zm 30 0,zm 31 8,za 32 2 30 31,yg 33 2 32,ye 10 [z0,z0],zd 10 [none,none] 10 33] ⟨[0,1,9,10,23,24,25],[9,10],[]⟩ (zz [zf 34 1 9,zj 35 9 34,zm 36 1,zb .gtr 37 35 36] ⟨[0,1,9,10,23,24,25,37],[9,10],
 []⟩ (yc 37 (zz [zf 38 0 10,zj 39 10 38,zm 40 1,zf 41 1 10,zj 42 10 41,zb .sub 43 40 42,zv .add 44 43 1,zf 45 0 9,zj 46 9 45,zf 47 0 10,zj 48 10 47,zb .sub 49 46 48,zb .mul 50 44 49,zv .sub 51 50 1,zf 52 1 9,zj 53 9 52,zf 54 1 10,zj 55 10 54,zb .sub 56 53 55,zb .quo 57 51 56,zb .add 58 39 57,zm 4 58,zt 5 true,zh 6 0] ⟨[4,5,6],[],[]⟩ (.ret))))))) (zr [zv .add 59 25 1,zm 25 59] ⟨[0,1,23,24,25],[],
 []⟩)))
def adm:VC:=.loop [] ⟨[0,1,23,24,25],[],[]⟩ SX
abbrev adn(x0:V)(x1:Int)(rB:V)(p7:Int)(yV:Int)(G:List aW):St:=⟨[(0,x0),(1,.int .i64 x1),(23,rB),(24,.int .i64 p7),(25,.int .i64 yV)],[],[],G⟩
def LS:bq where
 nparams:=2
 results:=[.t 4 [none],.t 5 [none],.t 6 [none]]
 body :=
 zz [zh 4 0,zt 5 false,zh 6 0] ⟨[0,1],[],[]⟩ (.seq (zz [zm 11 0,zw 12 true 173 [ad 2 11],zm 7 12] ⟨[0,1,7],[],[]⟩ (zz [zm 13 7,zv .neq 14 13 0] ⟨[0,1,7,14],[],[]⟩ (yc 14 (zz [zm 15 7,zh 4 0,zt 5 false,zm 6 15] ⟨[4,5,6],[],[]⟩ (.ret))))) (.seq (zz [zm 16 0,zo 17 (.eg none 2 (.t 16) (zc 0)),zf 18 1 17,zi 19 18,zm 20 1,zb .gtr 21 19 20] ⟨[0,1,21],[],[]⟩ (yc 21 (zz [zh 4 0,zt 5 false,zh 6 0] ⟨[4,5,6],
 [],[]⟩ (.ret)))) (.seq (zz [zm 22 0,zo 23 (.pf 2 (.t 22) (some (zc 1)) none),zl 24 23,zh 25 0] ⟨[0,1,23,24,25],[],[]⟩ (.block 0 (adm))) (zz [zm 60 0,zm 61 0,zl 62 61,zv .sub 63 62 1,za 64 2 60 63,zf 65 0 64,zi 66 65,zm 4 66,zt 5 true,zh 6 0] ⟨[4,5,6],[],[]⟩ (.ret)))))
def SY:VC :=
 zz [zb .lss 39 38 37] ⟨[1,2,3,13,14,15,36,37,38,39],[],[1083]⟩ (zx 39 0 (.seq (.block 1 (yz [17] [zm 40 38,za 41 3 36 38,yg 42 3 41,ye 17 [.aK,z0,z0],zm 16 40,zd 17 iK 17 42] ⟨[1,2,3,13,14,15,16,17,36,37,38],[17],[1083]⟩ (yz [19] [zs 43 17 3 17,zm 44 2,zw 45 true 212 [(iK,(.t 43)),a0 44],zs 46 17 3 17,zm 47 1,zm 48 16,za 49 2 47 48,yg 50 2 49,zw 51 true 213 [(iK,(.t 46)),([none,none],(.t 50))],
 zo 18 (.pc tF [.aK,z0]),ye 19 [z0,z0],zn (.store .az tF (.t 18) (.t 45)),zd 19 [none,none] 19 51] ⟨[1,2,3,13,14,15,16,18,19,36,37,38],[19],[1083]⟩ (zz [zf 52 0 19,zj 53 19 52,zm 20 53] ⟨[1,2,3,13,14,15,16,18,19,20,36,37,38],[19],[1083]⟩ (.seq (zz [zm 54 13,zm 55 3,zb .lss 56 54 55] ⟨[1,2,3,13,14,15,16,18,19,20,36,37,38,56],[19],[1083]⟩ (yc 56 (zz [zm 57 13,zo 58 (.load .az (some 2) (.t 18)),
 zm 59 20,zw 60 true 214 [(tF,(.t 58)),a0 59],zb .sub 61 57 60,zm 13 61] ⟨[1,2,3,13,14,15,16,18,19,36,37,38],[19],[1083]⟩ (zz [zm 62 3,zm 63 13,zb .sub 64 62 63,zf 65 1 18,zn (.store .az [none] (.t 65) (.t 64))] ⟨[1,2,3,13,14,15,16,18,19,36,37,38],[19],[1083]⟩ (zz [zs 66 19 2 19,zo 67 (.pH 216 [(.t 14),(.t 18)]),zw 68 false 215 [([none,none],(.t 66)),a0 67],zm 20 68] ⟨[1,2,3,13,14,15,16,18,20,36,
 37,38],[],[1083]⟩ (zr [zm 69 13,zo 70 (.load .az (some 2) (.t 18)),zm 71 20,zw 72 true 214 [(tF,(.t 70)),a0 71],zb .add 73 69 72,zm 13 73] ⟨[1,2,3,13,14,15,16,20,36,37,38],[],[1083]⟩)))))) (.region [.norm 15 1083 2] [5083] [zm 74 15,zm 75 20,zm 76 1,zm 77 16,za 78 2 76 77,zf 79 1 78,zi 80 79,zo 81 (.build [z0,.bool false] [(0,1,(.t 75)),(1,1,(.t 80))]),zo 82 (.lit none [none,none] [z0,
 .bool false] 1 [(0,(.t 81))]),zo 83 (.app 5083 (some 1083) [none,none] 8796093022208 (.t 74) (.t 82)),zm 15 83] ⟨[1,2,3,13,14,15,36,37,38],[],[1083]⟩)))))) (zr [zv .add 84 38 1,zm 38 84] ⟨[1,2,3,13,14,15,36,37,38],[],[1083]⟩)))
def ado:VC:=.loop [.norm 15 1083 2] ⟨[1,2,3,13,14,15,36,37,38],[],[1083]⟩ SY
abbrev adp(x1:V)(x2:Int)(x3:Int)(jB:Int)(lH:V)(mz:V)(yS:V)(vK:Int)(yJ:Int)(adq:Nat)(G:List aW):St:=⟨[(1,x1),(2,.int .i64 x2),(3,.int .i64 x3),(13,.int .i64 jB),(14,lH),(15,mz),(36,yS),(37,.int .i64 vK),(38,.int .i64 yJ)],[],[(1083,adq)],G⟩
def DT:bq where
 nparams:=4
 results:=[.t 8 [some 2],.t 9 [none],.t 10 [none]]
 body :=
 zz [zy 8,zh 9 0,zh 10 0] ⟨[0,1,2,3],[],[]⟩ (yz [11] [zm 22 0,zm 23 1,zm 24 2,zw 25 true 210 [ad 3 22,ad 2 23,a0 24],zm 21 25,ze 26 21 0,ze 27 21 1,ye 11 [z0,z0],zd 11 [none,none] 11 26,zm 12 27] ⟨[0,1,2,3,11,12],[11],[]⟩ (.seq (zz [zm 28 12,zv .neq 29 28 0] ⟨[0,1,2,3,11,12,29],[11],[]⟩ (yc 29 (zz [zm 30 12,zy 8,zh 9 0,zm 10 30] ⟨[8,9,10],[],[1083]⟩ (.ret)))) (.seq (zz [zm 31 3,
 zw 32 true 147 [a0 31,ac 1073741824],zo 33 (.un .not (.t 32))] ⟨[0,1,2,3,11,33],[11],[]⟩ (yc 33 (zz [zy 8,zh 9 0,zh 10 1] ⟨[8,9,10],[],[1083]⟩ (.ret)))) (zz [zf 34 0 11,zj 35 11 34,zm 13 35] ⟨[0,1,2,3,13],[],[]⟩ (zz [zo 14 (.pc [none] [.fP]),zn (.store .az [none] (.t 14) (.c (.fn 211 [])))] ⟨[0,1,2,3,13,14],[],[]⟩ (zz [zy 15] ⟨[0,1,2,3,13,14,15],[],[1083]⟩ (.seq (zz [zm 36 0,zl 37 36,
 zh 38 0] ⟨[1,2,3,13,14,15,36,37,38],[],[1083]⟩ (.block 0 (ado))) (zz [zm 85 15,zm 86 13,zm 8 85,zm 9 86,zh 10 0] ⟨[8,9,10],[],[1083]⟩ (.ret)))))))))
def LU:bq where
 nparams:=1
 results:=[.t 2 [none]]
 body :=
 zz [zh 2 0] ⟨[0],[],[]⟩ (zz [zm 3 0,zk 4 3,zf 5 25 4,zg 6 5,zm 7 0,zk 8 7,zf 9 0 8,zf 10 0 9,zf 11 0 10,zg 12 11,zm 13 0,zk 14 13,zf 15 0 14,zf 16 0 15,zf 17 1 16,zg 18 17,zw 19 true 201 [ad 2 12,a0 18],zb .sub 20 6 19,zo 21 (.mm true (.t 20) (zc 0)),zm 2 21] ⟨[2],[],[]⟩ (.ret))
def SZ:VC :=
 .seq (zz [zm 31 14,zl 32 31,zg 33 10,zl 34 33,zb .lss 35 32 34] ⟨[10,13,14,15,35],[],[1048]⟩ (.cond (.t 35) (.skip) (.exit 0))) (.block 1 (yz [16] [zg 36 13,zm 37 14,zl 38 37,zm 39 15,zo 40 (.call false (.t 36) [a0 38,a0 39] []),ye 16 [.bool false,z0,z0,z0],zd 16 vJ 16 40] ⟨[10,13,14,15,16],[16],[1048]⟩ (.seq (zz [zf 41 0 16,zj 42 16 41,zo 43 (.un .not (.t 42))] ⟨[10,13,14,15,16,43],[16],
 [1048]⟩ (yc 43 (zz [zy 8,zh 9 9] ⟨[8,9],[],[1048]⟩ (.ret)))) (.seq (.region [.norm 14 1048 1] [5048] [zm 44 14,zf 45 3 16,zj 46 16 45,zo 47 (.lit none [none] [z0] 1 [(0,(.t 46))]),zo 48 (.app 5048 (some 1048) [none] 17592186044416 (.t 44) (.t 47)),zm 14 48] ⟨[10,13,14,15,16],[16],[1048]⟩) (zr [zm 49 15,zf 50 3 16,zj 51 16 50,zb .sub 52 49 51,zm 15 52] ⟨[10,13,14,15],[],[1048]⟩)))))
def adr:VC:=.loop [.norm 14 1048 1] ⟨[10,13,14,15],[],[1048]⟩ SZ
abbrev ads(lG:V)(jB:V)(lH:V)(mz:Int)(adt:Nat)(G:List aW):St:=⟨[(10,lG),(13,jB),(14,lH),(15,.int .i64 mz)],[],[(1048,adt)],G⟩
def GO:bq where
 nparams:=4
 results:=[.t 8 [some 1],.t 9 [none]]
 body :=
 zz [zy 8,zh 9 0] ⟨[0,1,2,3],[],[]⟩ (zz [zm 18 0,zm 19 1,zm 20 2,zm 21 3,zw 22 true 217 [ad 6 18,ad 3 19,a0 20,a0 21],zm 17 22,ze 23 17 0,ze 24 17 1,zo 10 (.pc [some 1] [.aK]),zn (.store .az [some 1] (.t 10) (.t 23)),zm 11 24] ⟨[3,10,11],[],[]⟩ (.seq (zz [zm 25 11,zv .neq 26 25 0] ⟨[3,10,11,26],[],[]⟩ (yc 26 (zz [zm 27 11,zy 8,zm 9 27] ⟨[8,9],[],[1048]⟩ (.ret)))) (zz [zo 28 (.rO),
 zo 12 (.pc [none] [.fV]),zn (.store .az [none] (.t 12) (.t 28))] ⟨[3,10,12],[],[]⟩ (zz [zo 13 (.pc [none] [.fP])] ⟨[3,10,12,13],[],[]⟩ (zz [zo 29 (.pH 218 [(.t 10),(.t 12),(.t 13)]),zn (.store .az [none] (.t 13) (.t 29))] ⟨[3,10,13],[],[]⟩ (zz [zy 14] ⟨[3,10,13,14],[],[1048]⟩ (.seq (zz [zm 30 3,zm 15 30] ⟨[10,13,14,15],[],[1048]⟩ (.block 0 (adr))) (zz [zm 53 14,zm 8 53,zh 9 0] ⟨[8,9],[],
 [1048]⟩ (.ret)))))))))
def GP:bq where
 nparams:=3
 results:=[.c 6 true e9,.t 7 [none],.t 8 [none]]
 body :=
 yz [3,4,6] [zu 3 0,zu 4 1,ye 6 [z0,z0,.bool false],zt 7 false,zh 8 0] ⟨[2,3,4,6],[3,4,6],[]⟩ (zz [zs 11 3 6 3,zw 12 true 129 [(eF,(.t 11))],zm 9 12] ⟨[2,3,4,6,9],[3,4,6],[]⟩ (.seq (.block 0 (zz [zm 14 9,zv .neq 15 14 0,zm 13 15] ⟨[2,3,4,6,9,13],[3,4,6],[]⟩ (.cond (.t 13) (zz [zo 16 (.build [z0,z0,.bool false] []),zm 17 9,zd 6 e9 6 16,zt 7 false,zm 8 17] ⟨[6,7,8],[6],[]⟩ (.ret)) (zz [zs 19 3 6 3,
 zs 20 4 3 4,zw 21 true 202 [(eF,(.t 19)),(e9,(.t 20))],zo 22 (.un .not (.t 21)),zm 18 22] ⟨[2,3,4,6,18],[3,4,6],[]⟩ (.cond (.t 18) (zz [zo 23 (.build [z0,z0,.bool false] []),zd 6 e9 6 23,zt 7 false,zh 8 3] ⟨[6,7,8],[6],[]⟩ (.ret)) (zz [zs 25 3 6 3,zs 26 4 3 4,zm 27 2,zw 28 true 220 [(eF,(.t 25)),(e9,(.t 26)),a0 27],zo 29 (.un .not (.t 28)),zm 24 29] ⟨[2,4,6,24],[4,6],
 []⟩ (yc 24 (zz [zo 30 (.build [z0,z0,.bool false] []),zd 6 e9 6 30,zt 7 false,zh 8 15] ⟨[6,7,8],[6],[]⟩ (.ret))))))))) (yz [10] [zm 31 2,zf 32 1 4,zj 33 4 32,zv .add 34 33 1,zo 35 (.mm false (.t 34) (zc 1000)),zf 36 2 4,zj 37 4 36,zo 38 (.build [z0,z0,.bool false] [(0,1,(.t 31)),(1,1,(.t 35)),(2,1,(.t 37))]),ye 10 [z0,z0,.bool false],zd 10 e9 10 38] ⟨[2,4,6,10],[4,6,10],[]⟩ (.seq (zz [zm 39 2,
 zv .gtr 40 39 0,zf 41 0 4,zj 42 4 41,zv .gtr 43 42 0,zo 44 (.beq true (.t 40) (.t 43))] ⟨[2,4,6,10,44],[4,6,10],[]⟩ (yc 44 (zr [zf 45 1 10,zn (.store (.loc 10) [none] (.t 45) (zc 1))] ⟨[2,4,6,10],[4,6,10],[]⟩))) (zz [zs 46 10 3 10,zm 47 2,zv .gtr 48 47 0,zm 49 48,yf 50 49 true 0 4,yj 51 49 true 4 50,yv .eql 52 49 true 51 0,zp 53 49 52 false,zd 6 e9 6 46,zm 7 53,zh 8 0] ⟨[6,7,8],[6],
 []⟩ (.ret))))))
def UF:bq where
 nparams:=2
 results:=[.t 4 [none],.t 5 [none]]
 body :=
 yz [2] [zu 2 0,zh 4 0,zh 5 0] ⟨[1,2],[2],[]⟩ (.seq (zz [zs 7 2 6 2,zw 8 true 129 [(eF,(.t 7))],zm 6 8] ⟨[1,2,6],[2],[]⟩ (zz [zm 9 6,zv .neq 10 9 0] ⟨[1,2,6,10],[2],[]⟩ (yc 10 (zz [zm 11 6,zh 4 0,zm 5 11] ⟨[4,5],[],[]⟩ (.ret))))) (.seq (.block 0 (zz [zm 13 1,zv .eql 14 13 0,zm 12 14] ⟨[1,2,12],[2],[]⟩ (.cond (.t 12) (zz [zh 4 0,zh 5 0] ⟨[4,5],[],[]⟩ (.ret)) (zz [zs 16 2 6 2,zm 17 1,
 zw 18 true 209 [(eF,(.t 16)),a0 17],zo 19 (.un .not (.t 18)),zm 15 19] ⟨[1,2,15],[2],[]⟩ (yc 15 (zz [zh 4 0,zh 5 1] ⟨[4,5],[],[]⟩ (.ret))))))) (zz [zf 20 0 2,zj 21 2 20,zm 22 1,zw 23 true 201 [ad 2 21,a0 22],zm 4 23,zh 5 0] ⟨[4,5],[],[]⟩ (.ret))))
def LV:bq where
 nparams:=2
 results:=[.t 4 [none]]
 body :=
 yz [2] [zu 2 0,zt 4 false] ⟨[1,2],[2],[]⟩ (zz [zm 5 1,zf 6 1 2,zj 7 2 6,zb .geq 8 5 7,zm 9 8,ym 10 9 true 1,yf 11 9 true 2 2,yj 12 9 true 2 11,yb .leq 13 9 true 10 12,zp 14 9 13 false,zm 15 14,ys 16 15 true 2 6 2,ym 17 15 true 1,yw 18 15 true true 221 [(eF,(.t 16)),a0 17],ym 19 15 true 1,yb .eql 20 15 true 18 19,zp 21 15 20 false,zm 4 21] ⟨[4],[],[]⟩ (.ret))
def S4:VC :=
 zz [zb .lss 25 24 23] ⟨[1,2,6,9,22,23,24,25],[6,9],[]⟩ (zx 25 0 (.seq (.block 1 (yz [11] [zm 26 24,za 27 3 22 24,yg 28 3 27,ye 11 [.aK,z0,z0],zm 10 26,zd 11 iK 11 28] ⟨[1,2,6,9,10,11,22,23,24],[6,9,11],[]⟩ (yz [12,13] [zs 29 11 3 11,zm 30 2,zw 31 true 212 [(iK,(.t 29)),a0 30],zs 32 11 3 11,zm 33 1,zm 34 10,za 35 2 33 34,yg 36 2 35,zw 37 true 213 [(iK,(.t 32)),([none,none],(.t 36))],ye 12 [.aK,
 z0],ye 13 [z0,z0],zd 12 tF 12 31,zd 13 [none,none] 13 37] ⟨[1,2,6,9,12,13,22,23,24],[6,9,12,13],[]⟩ (zr [zf 38 0 9,zj 39 9 38,zs 40 12 2 12,zf 41 0 13,zj 42 13 41,zw 43 true 214 [(tF,(.t 40)),a0 42],zb .add 44 39 43,zf 45 1 9,zj 46 9 45,zs 47 12 2 12,zf 48 1 13,zj 49 13 48,zw 50 true 214 [(tF,(.t 47)),a0 49],zb .add 51 46 50,zf 52 0 9,zd 9 [none] 52 44,zf 53 1 9,zd 9 [none] 53 51] ⟨[1,2,6,9,22,
 23,24],[6,9],[]⟩)))) (zr [zv .add 54 24 1,zm 24 54] ⟨[1,2,6,9,22,23,24],[6,9],[]⟩)))
def adu:VC:=.loop [] ⟨[1,2,6,9,22,23,24],[6,9],[]⟩ S4
abbrev adv(x1:V)(x2:Int)(tH:V)(rB:Int)(p7:Int)(o6:List V)(o9:List V)(G:List aW):St:=⟨[(1,x1),(2,.int .i64 x2),(6,.bK 6 0),(9,.bK 9 0),(22,tH),(23,.int .i64 rB),(24,.int .i64 p7)],[(6,o6),(9,o9)],[],G⟩
def GQ:bq where
 nparams:=3
 results:=[.c 6 true [none,none],.t 7 [none]]
 body :=
 yz [6] [ye 6 [z0,z0],zh 7 0] ⟨[0,1,2,6],[6],[]⟩ (.seq (zz [zm 14 0,zm 15 1,zm 16 2,zw 17 true 222 [ad 3 14,ad 2 15,a0 16],zm 8 17] ⟨[0,1,2,6,8],[6],[]⟩ (zz [zm 18 8,zv .neq 19 18 0] ⟨[0,1,2,6,8,19],[6],[]⟩ (yc 19 (zz [zo 20 (.build [z0,z0] []),zm 21 8,zd 6 [none,none] 6 20,zm 7 21] ⟨[6,7],[6],[]⟩ (.ret))))) (yz [9] [ye 9 [z0,z0]] ⟨[0,1,2,6,9],[6,9],[]⟩ (.seq (zz [zm 22 0,zl 23 22,zh 24 0] ⟨[1,2,
 6,9,22,23,24],[6,9],[]⟩ (.block 0 (adu))) (zz [zs 55 9 2 9,zd 6 [none,none] 6 55,zh 7 0] ⟨[6,7],[6],[]⟩ (.ret)))))
def LW:bq where
 nparams:=2
 results:=[.t 4 [none]]
 body :=
 yz [2] [zu 2 0,zt 4 false] ⟨[1,2],[2],[]⟩ (zz [zs 5 2 2 2,zm 6 1,zw 7 true 214 [(tF,(.t 5)),a0 6],zf 8 1 2,zj 9 2 8,zb .geq 10 7 9,zm 4 10] ⟨[4],[],[]⟩ (.ret))
def S5:VC :=
 zz [zb .lss 12 11 10] ⟨[1,4,5,9,10,11,12],[4,5],[]⟩ (zx 12 0 (.seq (.block 1 (yz [7] [za 13 2 9 11,yg 14 2 13,ye 7 [z0,.aK],zd 7 A4 7 14] ⟨[1,4,5,7,9,10,11],[4,5,7],[]⟩ (zz [zf 15 0 7,zj 16 7 15,zm 17 1,zb .leq 18 16 17] ⟨[1,4,5,7,9,10,11,18],[4,5,7],[]⟩ (yc 18 (zr [zf 19 1 7,zj 20 7 19,zf 21 0 5,zd 5 [some 2] 21 20] ⟨[1,4,5,9,10,11],[4,5],[]⟩))))) (zr [zv .add 22 11 1,zm 11 22] ⟨[1,4,5,9,10,11],
 [4,5],[]⟩)))
def adx:VC:=.loop [] ⟨[1,4,5,9,10,11],[4,5],[]⟩ S5
abbrev ady(x1:Int)(x9:V)(lG:Int)(oQ:Int)(o4:List V)(o5:List V)(G:List aW):St:=⟨[(1,.int .i64 x1),(4,.bK 4 0),(5,.bK 5 0),(9,x9),(10,.int .i64 lG),(11,.int .i64 oQ)],[(4,o4),(5,o5)],[],G⟩
def LX:bq where
 nparams:=2
 results:=[.c 4 true tF]
 body :=
 yz [2,4] [zu 2 0,ye 4 [.aK,z0]] ⟨[1,2,4],[2,4],[]⟩ (yz [5] [ye 5 [.aK,z0]] ⟨[1,2,4,5],[2,4,5],[]⟩ (.seq (zz [zf 8 0 2,zj 9 2 8,zl 10 9,zh 11 0] ⟨[1,4,5,9,10,11],[4,5],[]⟩ (.block 0 (adx))) (zz [zs 23 5 2 5,zd 4 tF 4 23] ⟨[4],[4],[]⟩ (.ret))))
def GR:bq where
 nparams:=2
 results:=[.c 4 true [none,none]]
 body :=
 yz [2,3,4] [zu 2 0,zu 3 1,ye 4 [z0,z0]] ⟨[2,3,4],[2,3,4],[]⟩ (.seq (zz [zf 5 1 3,zj 6 3 5] ⟨[2,3,4,6],[2,3,4],[]⟩ (yc 6 (zz [zf 7 0 3,zj 8 3 7,zf 9 0 3,zj 10 3 9,zo 11 (.build [z0,z0] [(0,1,(.t 8)),(1,1,(.t 10))]),zd 4 [none,none] 4 11] ⟨[4],[4],[]⟩ (.ret)))) (zz [zf 12 0 3,zj 13 3 12,zf 14 2 2,zj 15 2 14,zb .sub 16 13 15,zo 17 (.mm true (.t 16) (zc 0)),zf 18 0 3,zj 19 3 18,zf 20 2 2,zj 21 2 20,
 zb .add 22 19 21,zf 23 1 2,zj 24 2 23,zo 25 (.mm false (.t 22) (.t 24)),zo 26 (.build [z0,z0] [(0,1,(.t 17)),(1,1,(.t 25))]),zd 4 [none,none] 4 26] ⟨[4],[4],[]⟩ (.ret)))
def GS:bq where
 nparams:=2
 results:=[.t 4 [none]]
 body :=
 yz [2] [zu 2 0,zh 4 0] ⟨[1,2],[2],[]⟩ (.seq (zz [zf 5 0 2,zj 6 2 5,zl 7 6,zv .eql 8 7 0] ⟨[1,2,8],[2],[]⟩ (yc 8 (zz [zh 4 0] ⟨[4],[],[]⟩ (.ret)))) (zz [zf 9 0 2,zj 10 2 9,zm 11 1,zw 12 true 201 [ad 2 10,a0 11],zm 4 12] ⟨[4],[],[]⟩ (.ret)))
def LY:bq where
 nparams:=2
 results:=[.t 4 [none]]
 body :=
 zz [zo 2 (.ou [none,none] (.t 0)),zo 3 (.ou [none] (.t 1)),zh 4 0] ⟨[2,3],[],[]⟩ (zz [zf 5 0 2,zg 6 5,zf 7 1 2,zg 8 7,zf 9 0 2,zg 10 9,zb .sub 11 8 10,zv .add 12 11 1,zo 13 (.pH 224 [(.t 3),(.t 2)]),zo 14 (.mG (.c (.fn 223 [])) [a0 12,a0 13]),zb .add 15 6 14,zf 16 1 2,zg 17 16,zo 18 (.mm false (.t 15) (.t 17)),zm 4 18] ⟨[4],[],[]⟩ (.ret))
def LZ:bq where
 nparams:=3
 results:=[.t 4 [none]]
 body :=
 zz [zt 4 false] ⟨[0,1,2],[],[]⟩ (zz [zg 5 1,zo 6 (.load .az (some 2) (.t 2)),zm 7 0,zo 8 (.call false (.t 5) [(tF,(.t 6)),a0 7] []),zm 4 8] ⟨[4],[],[]⟩ (.ret))
def S6:VC :=
 zz [zb .lss 28 27 26] ⟨[0,1,2,3,25,26,27,28],[],[]⟩ (zx 28 0 (.seq (.block 1 (yz [11] [zm 29 27,za 30 6 25 27,yg 31 6 30,ye 11 [.aK,z0,z0,.aK,z0,z0],zm 10 29,zd 11 eF 11 31] ⟨[0,1,2,3,10,11,25,26,27],[11],[]⟩ (zz [zs 32 11 6 11,zm 33 1,zm 34 10,za 35 3 33 34,yg 36 3 35,zw 37 true 192 [(eF,(.t 32)),(e9,(.t 36))],zo 38 (.un .not (.t 37))] ⟨[0,1,2,3,25,26,27,38],[],[]⟩ (yc 38 (zz [zy 8,zh 9 3] ⟨[8,
 9],[],[1079]⟩ (.ret)))))) (zr [zv .add 39 27 1,zm 27 39] ⟨[0,1,2,3,25,26,27],[],[]⟩)))
def adz:VC:=.loop [] ⟨[0,1,2,3,25,26,27],[],[]⟩ S6
abbrev adA(x0:V)(x1:V)(x2:Int)(x3:Int)(yV:V)(yW:Int)(tM:Int)(G:List aW):St:=⟨[(0,x0),(1,x1),(2,.int .i64 x2),(3,.int .i64 x3),(25,yV),(26,.int .i64 yW),(27,.int .i64 tM)],[],[],G⟩
def S7:VC :=
 zz [zb .lss 60 59 58] ⟨[1,2,12,57,58,59,60],[],[1079]⟩ (zx 60 3 (.seq (.block 4 (yz [14] [zm 61 59,za 62 6 57 59,yg 63 6 62,ye 14 [.aK,z0,z0,.aK,z0,z0],zm 13 61,zd 14 eF 14 63] ⟨[1,2,12,13,14,57,58,59],[14],[1079]⟩ (zz [zs 65 14 6 14,zm 66 1,zm 67 13,za 68 3 66 67,yg 69 3 68,zm 70 2,zw 71 true 225 [(eF,(.t 65)),(e9,(.t 69)),a0 70],zm 64 71,ze 72 64 0,ze 73 64 1,zm 15 72,zm 16 73] ⟨[1,2,12,15,16,
 57,58,59],[],[1079]⟩ (.seq (zz [zm 74 16,zo 75 (.un .not (.t 74))] ⟨[1,2,12,15,57,58,59,75],[],[1079]⟩ (yc 75 (zz [zy 8,zh 9 10] ⟨[8,9],[],[1079]⟩ (.ret)))) (.region [.norm 12 1079 1] [5079] [zm 76 12,zm 77 15,zo 78 (.lit none [some 3] [.slice none 3 []] 1 [(0,(.t 77))]),zo 79 (.app 5079 (some 1079) [some 3] 5864062014805 (.t 76) (.t 78)),zm 12 79] ⟨[1,2,12,57,58,59],[],
 [1079]⟩))))) (zr [zv .add 80 59 1,zm 59 80] ⟨[1,2,12,57,58,59],[],[1079]⟩)))
def adB:VC:=.loop [.norm 12 1079 1] ⟨[1,2,12,57,58,59],[],[1079]⟩ S7
abbrev adC(x1:V)(x2:Int)(mw:V)(yL:V)(yM:Int)(yN:Int)(adD:Nat)(G:List aW):St:=⟨[(1,x1),(2,.int .i64 x2),(12,mw),(57,yL),(58,.int .i64 yM),(59,.int .i64 yN)],[],[(1079,adD)],G⟩
def L0:bq where
 nparams:=4
 results:=[.t 8 [some 1],.t 9 [none]]
 body :=
 zz [zy 8,zh 9 0] ⟨[0,1,2,3],[],[]⟩ (.seq (zz [zm 17 0,zl 18 17,zv .gtr 19 18 6] ⟨[0,1,2,3,19],[],[]⟩ (yc 19 (zz [zy 8,zh 9 10] ⟨[8,9],[],[1079]⟩ (.ret)))) (.seq (zz [zm 20 0,zl 21 20,zm 22 1,zl 23 22,zb .neq 24 21 23] ⟨[0,1,2,3,24],[],[]⟩ (yc 24 (zz [zy 8,zh 9 3] ⟨[8,9],[],[1079]⟩ (.ret)))) (.seq (zz [zm 25 0,zl 26 25,zh 27 0] ⟨[0,1,2,3,25,26,27],[],
 []⟩ (.block 0 (adz))) (.seq (.block 2 (zz [zm 41 2,zv .lss 42 41 1,zm 43 42,ym 44 43 false 2,yv .gtr 45 43 false 44 1073741824,yp 46 43 true 45,zm 47 46,ym 48 47 false 3,yw 49 47 false true 147 [a0 48,ac 1073741824],zq 50 47 false (.un .not (.t 49)),yp 51 47 true 50,zm 40 51] ⟨[0,1,2,3,40],[],[]⟩ (.cond (.t 40) (zz [zy 8,zh 9 1] ⟨[8,9],[],[1079]⟩ (.ret)) (zz [zm 53 3,zm 54 2,
 zo 55 (.bin .mul (zc 200) (.t 54)),zb .gtr 56 53 55,zm 52 56] ⟨[0,1,2,52],[],[]⟩ (yc 52 (zz [zy 8,zh 9 10] ⟨[8,9],[],[1079]⟩ (.ret))))))) (zz [zy 12] ⟨[0,1,2,12],[],[1079]⟩ (.seq (zz [zm 57 0,zl 58 57,zh 59 0] ⟨[1,2,12,57,58,59],[],[1079]⟩ (.block 3 (adB))) (zz [zm 81 12,zm 8 81,zh 9 0] ⟨[8,9],[],[1079]⟩ (.ret))))))))
def S8:VC :=
 zz [zb .lss 36 35 34] ⟨[0,1,3,4,7,10,33,34,35,36],[7,10],[]⟩ (zx 36 0 (.seq (.block 1 (yz [12] [za 37 3 33 35,yg 38 3 37,ye 12 [z0,z0,z0],zd 12 e9 12 38] ⟨[0,1,3,4,7,10,12,33,34,35],[7,10,12],[]⟩ (.seq (zz [zf 39 0 12,zj 40 12 39,zm 41 1,zb .gtr 42 40 41] ⟨[0,1,3,4,7,10,12,33,34,35,42],[7,10,12],[]⟩ (yc 42 (.exit 0))) (yz [13] [zg 43 4,zm 44 0,zv .add 45 44 1,zm 46 1,zf 47 0 12,zj 48 12 47,
 zb .sub 49 46 48,zo 50 (.call false (.t 43) [a0 45,a0 49] []),ye 13 [.bool false,z0,z0,z0],zd 13 vJ 13 50] ⟨[0,1,3,4,7,10,12,13,33,34,35],[7,10,12,13],[]⟩ (yz [14] [zf 51 1 13,zo 52 (.eg (some 2) 1 (.t 51) (zc 0)),zj 53 13 52,zf 54 1 12,zj 55 12 54,zb .add 56 53 55,zf 57 1 13,zo 58 (.eg (some 2) 1 (.t 57) (zc 1)),zj 59 13 58,zf 60 2 12,zj 61 12 60,zb .add 62 59 61,zo 63 (.build [z0,z0] [(0,1,
 (.t 56)),(1,1,(.t 62))]),ye 14 [z0,z0],zd 14 [none,none] 14 63] ⟨[0,1,3,4,7,10,12,13,14,33,34,35],[7,10,12,13,14],[]⟩ (zz [zf 64 0 13,zj 65 13 64,zm 66 65,yf 67 66 true 0 10,yj 68 66 true 10 67,zq 69 66 true (.un .not (.t 68)),ym 70 66 true 69,ys 71 70 false 14 2 14,yf 72 70 false 1 10,ys 73 70 false 10 2 72,yw 74 70 false true 219 [([none,none],(.t 71)),([none,none],(.t 73)),([some 1],
 (.c (.aK))),([some 1],(.c (.aK)))],zq 75 66 true (.pick (.t 70) (.c (.bool true)) (.t 74)),zp 76 66 75 false] ⟨[0,1,3,4,7,10,12,14,33,34,35,76],[7,10,12,14],[]⟩ (yc 76 (zr [zs 77 14 2 14,zf 78 0 12,zj 79 12 78,zo 80 (.build [.bool false,z0,z0,z0] [(0,1,(.c (.bool true))),(1,2,(.t 77)),(3,1,(.t 79))]),zd 10 vJ 10 80] ⟨[0,1,3,4,7,10,33,34,35],[7,10],[]⟩)))))))) (zr [zv .add 81 35 1,zm 35 81] ⟨[0,1,
 3,4,7,10,33,34,35],[7,10],[]⟩)))
def adE:VC:=.loop [] ⟨[0,1,3,4,7,10,33,34,35],[7,10],[]⟩ S8
abbrev adF(x0:Int)(x1:Int)(x3:V)(x4:V)(K4:V)(DH:Int)(yR:Int)(o7:List V)(yP:List V)(G:List aW):St:=⟨[(0,.int .i64 x0),(1,.int .i64 x1),(3,x3),(4,x4),(7,.bK 7 0),(10,.bK 10 0),(33,K4),(34,.int .i64 DH),(35,.int .i64 yR)],[(7,o7),(10,yP)],[],G⟩
def Bo:bq where
 nparams:=5
 results:=[.c 7 true vJ]
 body :=
 yz [7] [ye 7 [.bool false,z0,z0,z0]] ⟨[0,1,2,3,4,7],[7],[]⟩ (.seq (zz [zm 15 0,zg 16 2,zl 17 16,zb .eql 18 15 17] ⟨[0,1,2,3,4,7,18],[7],[]⟩ (yc 18 (zz [zo 19 (.build [.bool false,z0,z0,z0] [(0,1,(.c (.bool true)))]),zd 7 vJ 7 19] ⟨[7],[7],[]⟩ (.ret)))) (.seq (yz [8] [zg 21 3,zm 22 0,zm 23 1,zo 24 (.build [z0,z0] [(0,1,(.t 22)),(1,1,(.t 23))]),zo 25 (.sY true [0,0] (.agg [.bool false,z0,z0,
 z0]) true (.t 21) (.t 24)),zm 20 25,ze 26 20 0,ze 27 20 1,ye 8 [.bool false,z0,z0,z0],zd 8 vJ 8 26,zm 9 27] ⟨[0,1,2,3,4,7,8,9],[7,8],[]⟩ (zz [zm 28 9] ⟨[0,1,2,3,4,7,8,28],[7,8],[]⟩ (yc 28 (zz [zs 29 8 4 8,zd 7 vJ 7 29] ⟨[7],[7],[]⟩ (.ret))))) (yz [10] [ye 10 [.bool false,z0,z0,z0]] ⟨[0,1,2,3,4,7,10],[7,10],[]⟩ (.seq (zz [zg 30 2,zm 31 0,za 32 1 30 31,zi 33 32,zl 34 33,zh 35 0] ⟨[0,1,3,4,7,10,33,
 34,35],[7,10],[]⟩ (.block 0 (adE))) (zz [zg 82 3,zm 83 0,zm 84 1,zo 85 (.build [z0,z0] [(0,1,(.t 83)),(1,1,(.t 84))]),zs 86 10 4 10,zn (.rP true [0,0] vJ (.t 82) (.t 85) (.t 86))] ⟨[7,10],[7,10],[]⟩ (zz [zs 87 10 4 10,zd 7 vJ 7 87] ⟨[7],[7],[]⟩ (.ret)))))))
def DU:bq where
 nparams:=4
 results:=[.t 8 [none]]
 body :=
 yz [4,5] [zu 4 0,zu 5 1,zt 8 false] ⟨[2,3,4,5],[4,5],[]⟩ (.seq (.block 0 (zz [zo 10 (.eg (some 2) 1 (.t 4) (zc 0)),zj 11 4 10,zo 12 (.eg (some 2) 1 (.t 5) (zc 0)),zj 13 5 12,zb .neq 14 11 13,zm 9 14] ⟨[2,3,4,5,9],[4,5],[]⟩ (.cond (.t 9) (zz [zo 15 (.eg (some 2) 1 (.t 4) (zc 0)),zj 16 4 15,zo 17 (.eg (some 2) 1 (.t 5) (zc 0)),zj 18 5 17,zb .gtr 19 16 18,zm 8 19] ⟨[8],[],
 []⟩ (.ret)) (zz [zo 21 (.eg (some 2) 1 (.t 4) (zc 1)),zj 22 4 21,zo 23 (.eg (some 2) 1 (.t 5) (zc 1)),zj 24 5 23,zb .neq 25 22 24,zm 20 25] ⟨[2,3,4,5,20],[4,5],[]⟩ (yc 20 (zz [zo 26 (.eg (some 2) 1 (.t 4) (zc 1)),zj 27 4 26,zo 28 (.eg (some 2) 1 (.t 5) (zc 1)),zj 29 5 28,zb .lss 30 27 29,zm 8 30] ⟨[8],[],[]⟩ (.ret))))))) (zz [zm 31 2,zm 32 3,zw 33 true 226 [ad 1 31,ad 1 32],zv .lss 34 33 0,
 zm 8 34] ⟨[8],[],[]⟩ (.ret)))
def xe:bq where
 nparams:=3
 results:=[.t 6 [none]]
 body :=
 yz [3,4] [zu 3 0,zu 4 1,zt 6 false] ⟨[2,3,4],[3,4],[]⟩ (.seq (.block 0 (zz [zm 8 2,zv .eql 9 8 0,zm 10 9,yf 11 10 true 0 4,yj 12 10 true 4 11,yv .gtr 13 10 true 12 0,zp 14 10 13 false,zm 7 14] ⟨[2,3,4,7],[3,4],[]⟩ (.cond (.t 7) (zz [zf 15 1 4,zj 16 4 15,zf 17 4 3,zj 18 3 17,zb .geq 19 16 18,zm 6 19] ⟨[6],[],[]⟩ (.ret)) (zz [zm 21 2,zv .eql 22 21 0,zm 20 22] ⟨[2,3,4,20],[3,4],
 []⟩ (.cond (.t 20) (zz [zt 6 true] ⟨[6],[],[]⟩ (.ret)) (zz [zf 24 2 4,zj 25 4 24,zm 26 25,yf 27 26 false 0 4,yj 28 26 false 4 27,yv .eql 29 26 false 28 0,ym 30 26 false 29,yf 31 30 true 1 4,yj 32 30 true 4 31,yf 33 30 true 5 3,yj 34 30 true 3 33,yb .lss 35 30 true 32 34,zq 36 26 false (.pick (.t 30) (.t 35) (.c (.bool false))),yp 37 26 true 36,zm 23 37] ⟨[2,3,23],[3],
 []⟩ (yc 23 (zz [zt 6 false] ⟨[6],[],[]⟩ (.ret))))))))) (zz [zs 38 3 6 3,zm 39 2,zw 40 true 209 [(eF,(.t 38)),a0 39],zm 6 40] ⟨[6],[],[]⟩ (.ret)))
def S9:VC :=
 zz [zb .lss 11 10 9] ⟨[1,2,8,9,10,11],[2],[]⟩ (zx 11 2 (.seq (.block 3 (yz [6] [za 12 2 8 10,yg 13 2 12,ye 6 [z0,z0],zd 6 [none,none] 6 13] ⟨[1,2,6,8,9,10],[2,6],[]⟩ (zz [zm 14 1,zf 15 0 6,zj 16 6 15,zb .gtr 17 14 16,zm 18 17,ym 19 18 true 1,yf 20 18 true 1 6,yj 21 18 true 6 20,yb .lss 22 18 true 19 21,zp 23 18 22 false] ⟨[1,2,6,8,9,10,23],[2,6],[]⟩ (yc 23 (zz [zf 24 1 6,zj 25 6 24,zm 1 25] ⟨[1,
 2],[2],[]⟩ (.exit 1)))))) (zr [zv .add 26 10 1,zm 10 26] ⟨[1,2,8,9,10],[2],[]⟩)))
def adG:VC:=.loop [] ⟨[1,2,8,9,10],[2],[]⟩ S9
abbrev adH(x1:Int)(x8:V)(x9:Int)(lG:Int)(o2:List V)(G:List aW):St:=⟨[(1,.int .i64 x1),(2,.bK 2 0),(8,x8),(9,.int .i64 x9),(10,.int .i64 lG)],[(2,o2)],[],G⟩
def Ta:VC :=
 .block 1 (.seq (zz [zf 7 3 2,zj 8 2 7,zl 9 8,zh 10 0] ⟨[1,2,8,9,10],[2],[]⟩ (.block 2 (adG))) (.exit 0))
def adI:VC:=.loop [] ⟨[1,2],[2],[]⟩ Ta
abbrev adJ(x1:Int)(o2:List V)(G:List aW):St:=⟨[(1,.int .i64 x1),(2,.bK 2 0)],[(2,o2)],[],G⟩
def L1:bq where
 nparams:=2
 results:=[.t 4 [none]]
 body :=
 yz [2] [zu 2 0,zh 4 0] ⟨[1,2],[2],[]⟩ (.seq (.skip) (.seq (.block 0 (adI)) (zz [zm 27 1,zm 4 27] ⟨[4],[],[]⟩ (.ret))))
def Tb:VC :=
 zz [zb .lss 25 24 23] ⟨[0,1,2,22,23,24,25],[],[]⟩ (zx 25 1 (.seq (.block 2 (yz [8] [zm 26 24,za 27 3 22 24,yg 28 3 27,ye 8 [.aK,z0,z0],zm 7 26,zd 8 iK 8 28] ⟨[0,1,2,7,8,22,23,24],[8],[]⟩ (zz [zs 29 8 3 8,zm 30 1,zm 31 7,za 32 2 30 31,yg 33 2 32,zw 34 true 227 [(iK,(.t 29)),([none,none],(.t 33))],zo 35 (.un .not (.t 34))] ⟨[0,1,2,22,23,24,35],[],[]⟩ (yc 35 (zz [zh 6 3] ⟨[6],[],
 []⟩ (.ret)))))) (zr [zv .add 36 24 1,zm 24 36] ⟨[0,1,2,22,23,24],[],[]⟩)))
def adK:VC:=.loop [] ⟨[0,1,2,22,23,24],[],[]⟩ Tb
abbrev adL(x0:V)(x1:V)(x2:Int)(tH:V)(rB:Int)(p7:Int)(G:List aW):St:=⟨[(0,x0),(1,x1),(2,.int .i64 x2),(22,tH),(23,.int .i64 rB),(24,.int .i64 p7)],[],[],G⟩
def Tc:VC :=
 zz [zb .lss 40 39 38] ⟨[2,37,38,39,40],[],[]⟩ (zx 40 3 (.seq (.block 4 (yz [10] [za 41 3 37 39,yg 42 3 41,ye 10 [.aK,z0,z0],zd 10 iK 10 42] ⟨[2,10,37,38,39],[10],[]⟩ (zz [zs 43 10 3 10,zw 44 true 130 [(iK,(.t 43))],zm 11 44] ⟨[2,11,37,38,39],[],[]⟩ (zz [zm 45 11,zv .neq 46 45 0] ⟨[2,11,37,38,39,46],[],[]⟩ (yc 46 (zz [zm 47 11,zm 6 47] ⟨[6],[],[]⟩ (.ret))))))) (zr [zv .add 48 39 1,zm 39 48] ⟨[2,
 37,38,39],[],[]⟩)))
def adM:VC:=.loop [] ⟨[2,37,38,39],[],[]⟩ Tc
abbrev adN(x2:Int)(vK:V)(yJ:Int)(KH:Int)(G:List aW):St:=⟨[(2,.int .i64 x2),(37,vK),(38,.int .i64 yJ),(39,.int .i64 KH)],[],[],G⟩
def GU:bq where
 nparams:=3
 results:=[.t 6 [none]]
 body :=
 zz [zh 6 0] ⟨[0,1,2],[],[]⟩ (.seq (.block 0 (zz [zm 13 0,zl 14 13,zv .gtr 15 14 8,zm 12 15] ⟨[0,1,2,12],[],[]⟩ (.cond (.t 12) (zz [zh 6 10] ⟨[6],[],[]⟩ (.ret)) (zz [zm 17 0,zl 18 17,zm 19 1,zl 20 19,zb .neq 21 18 20,zm 16 21] ⟨[0,1,2,16],[],[]⟩ (yc 16 (zz [zh 6 3] ⟨[6],[],[]⟩ (.ret))))))) (.seq (zz [zm 22 0,zl 23 22,zh 24 0] ⟨[0,1,2,22,23,24],[],[]⟩ (.block 1 (adK))) (.seq (zz [zm 37 0,zl 38 37,
 zh 39 0] ⟨[2,37,38,39],[],[]⟩ (.block 3 (adM))) (.seq (zz [zm 49 2,zw 50 true 147 [a0 49,ac 16777216],zo 51 (.un .not (.t 50))] ⟨[51],[],[]⟩ (yc 51 (zz [zh 6 1] ⟨[6],[],[]⟩ (.ret)))) (zz [zh 6 0] ⟨[6],[],[]⟩ (.ret))))))
def Td:VC :=
 .seq (zz [zm 9 5,zm 10 6,zb .lss 11 9 10] ⟨[1,5,6,11],[],[]⟩ (.cond (.t 11) (.skip) (.exit 0))) (.block 1 (zz [zm 12 5,zm 13 6,zb .add 14 12 13,zo 15 (.conv .u64 (.t 14)),zo 16 (.bin .shr (.t 15) (.c (.int .u64 1))),zo 17 (.conv .i64 (.t 16)),zm 7 17] ⟨[1,5,6,7],[],[]⟩ (zz [zm 18 1,zm 19 7,zo 20 (.call false (.t 18) [a0 19] []),zo 21 (.un .not (.t 20))] ⟨[1,5,6,7,21],[],
 []⟩ (.cond (.t 21) (zr [zm 22 7,zv .add 23 22 1,zm 5 23] ⟨[1,5,6],[],[]⟩) (zr [zm 24 7,zm 6 24] ⟨[1,5,6],[],[]⟩)))))
def adO:VC:=.loop [] ⟨[1,5,6],[],[]⟩ Td
abbrev adP(x1:V)(x5:Int)(x6:Int)(G:List aW):St:=⟨[(1,x1),(5,.int .i64 x5),(6,.int .i64 x6)],[],[],G⟩
def L2:bq where
 nparams:=2
 results:=[.t 4 [none]]
 body :=
 zz [zh 4 0] ⟨[0,1],[],[]⟩ (zz [zm 8 0,zh 5 0,zm 6 8] ⟨[1,5,6],[],[]⟩ (.seq (.block 0 (adO)) (zz [zm 25 5,zm 4 25] ⟨[4],[],[]⟩ (.ret))))
def L3:bq where
 nparams:=3
 results:=[.t 4 [none]]
 body :=
 zz [zt 4 false] ⟨[0,1,2],[],[]⟩ (zz [zg 5 1,zf 6 0 2,zg 7 6,zm 8 0,zb .add 9 7 8,zo 10 (.call false (.t 5) [a0 9] []),zm 4 10] ⟨[4],[],[]⟩ (.ret))
def Te:VC :=
 zz [zb .lss 33 32 31] ⟨[3,4,10,30,31,32,33],[3,4,20026],[1061]⟩ (zx 33 0 (.seq (.block 1 (zz [za 34 1 30 32,zj 35 20026 34,zm 12 35] ⟨[3,4,10,12,30,31,32],[3,4,20026],[1061]⟩ (.seq (zz [zs 36 3 6 3,zs 37 4 3 4,zm 38 12,zw 39 true 231 [(eF,(.t 36)),(e9,(.t 37)),a0 38],zo 40 (.un .not (.t 39))] ⟨[3,4,10,12,30,31,32,40],[3,4,20026],[1061]⟩ (yc 40 (.exit 1))) (yz [13] [zm 41 12,zo 42 (.build [z0,z0,
 z0] [(0,1,(.t 41))]),ye 13 [z0,z0,z0],zd 13 e9 13 42] ⟨[3,4,10,12,13,30,31,32],[3,4,13,20026],[1061]⟩ (zz [zs 44 3 6 3,zm 45 12,zw 46 true 208 [(eF,(.t 44)),a0 45],zm 43 46,ze 47 43 0,ze 48 43 1,zf 49 1 13,zd 13 [none] 49 47] ⟨[3,4,10,12,13,30,31,32],[3,4,13,20026],[1061]⟩ (.seq (zz [zm 50 12,zv .gtr 51 50 0,zm 52 51,yf 53 52 true 0 4,yj 54 52 true 4 53,yv .eql 55 52 true 54 0,
 zp 56 52 55 false] ⟨[3,4,10,13,30,31,32,56],[3,4,13,20026],[1061]⟩ (yc 56 (zr [zf 57 2 13,zn (.store (.loc 13) [none] (.t 57) (zc 1))] ⟨[3,4,10,13,30,31,32],[3,4,13,20026],[1061]⟩))) (.region [.norm 10 1061 3] [5061] [zm 58 10,zs 59 13 3 13,zo 60 (.lit none e9 [z0,z0,z0] 1 [(0,(.t 59))]),zo 61 (.app 5061 (some 1061) e9 5864062014805 (.t 58) (.t 60)),zm 10 61] ⟨[3,4,10,30,31,32],[3,4,20026],
 [1061]⟩))))))) (zr [zv .add 62 32 1,zm 32 62] ⟨[3,4,10,30,31,32],[3,4,20026],[1061]⟩)))
def Tg:VC:=.loop [.norm 10 1061 3] ⟨[3,4,10,30,31,32],[3,4,20026],[1061]⟩ Te
abbrev adQ(lG:V)(n30:Nat)(LB:Int)(DL:Int)(o3:List V)(o4:List V)(adR:List V)(adS:Nat)(G:List aW):St:=⟨[(3,.bK 3 0),(4,.bK 4 0),(10,lG),(30,.cb 20026 1 n30),(31,.int .i64 LB),(32,.int .i64 DL)],[(3,o3),(4,o4),(20026,adR)],[(1061,adS)],G⟩
def DV:bq where
 nparams:=3
 results:=[.t 6 [some 3],.t 7 [none]]
 body :=
 yz [3,4] [zu 3 0,zu 4 1,zy 6,zt 7 false] ⟨[2,3,4],[3,4],[]⟩ (yz [20026] [zs 15 3 6 3,zm 16 2,zo 17 (.own (.c (.fn 228 [])) [(eF,(.t 15)),a0 16] 20026 0),zm 14 17,ze 18 14 0,ze 19 14 1,zm 8 18,zm 9 19] ⟨[3,4,8,9],[3,4,20026],[]⟩ (.seq (zz [zm 20 9,zv .neq 21 20 0] ⟨[3,4,8,21],[3,4,20026],[]⟩ (yc 21 (zz [zy 6,zt 7 false] ⟨[6,7],[],[1061]⟩ (.ret)))) (.seq (.region [.ic 20026 21026] [20026] [zm 22 8,
 zf 23 0 4,zj 24 4 23,zo 25 (.lit none [none] [z0] 2 [(0,(zc 0)),(1,(.t 24))]),zo 26 (.m9 20026 21026 [none] (.t 22) (.t 25)),zm 8 26] ⟨[3,4,8],[3,4,20026],[]⟩) (zz [zm 27 8,zo 28 (.rQ 0 229 20026 (.t 27))] ⟨[3,4,8],[3,4,20026],[]⟩ (zz [zy 10] ⟨[3,4,8,10],[3,4,20026],[1061]⟩ (.seq (zz [zm 29 8,zo 30 (.rQ 1 230 20026 (.t 29)),zl 31 30,zh 32 0] ⟨[3,4,10,30,31,32],[3,4,20026],
 [1061]⟩ (.block 0 (Tg))) (zz [zm 63 10,zm 6 63,zt 7 true] ⟨[6,7],[],[1061]⟩ (.ret))))))))
def Th:VC :=
 zz [zb .lss 12 11 10] ⟨[0,1,9,10,11,12],[],[]⟩ (zx 12 0 (.seq (.block 1 (zz [zm 13 11,za 14 1 9 11,zi 15 14,zm 5 13,zm 6 15] ⟨[0,1,5,6,9,10,11],[],[]⟩ (.seq (zz [zm 16 5,zm 17 1,zl 18 17,zb .geq 19 16 18] ⟨[0,1,5,6,9,10,11,19],[],[]⟩ (yc 19 (zz [zh 4 1] ⟨[4],[],[]⟩ (.ret)))) (zz [zm 20 1,zm 21 5,za 22 1 20 21,zi 23 22,zm 7 23] ⟨[0,1,6,7,9,10,11],[],[]⟩ (zz [zm 24 6,zm 25 7,zw 26 true 232 [a0 24,
 a0 25],zm 8 26] ⟨[0,1,8,9,10,11],[],[]⟩ (zz [zm 27 8,zv .neq 28 27 0] ⟨[0,1,8,9,10,11,28],[],[]⟩ (yc 28 (zz [zm 29 8,zm 4 29] ⟨[4],[],[]⟩ (.ret))))))))) (zr [zv .add 30 11 1,zm 11 30] ⟨[0,1,9,10,11],[],[]⟩)))
def adT:VC:=.loop [] ⟨[0,1,9,10,11],[],[]⟩ Th
abbrev adU(x0:V)(x1:V)(x9:V)(lG:Int)(oQ:Int)(G:List aW):St:=⟨[(0,x0),(1,x1),(9,x9),(10,.int .i64 lG),(11,.int .i64 oQ)],[],[],G⟩
def L4:bq where
 nparams:=2
 results:=[.t 4 [none]]
 body :=
 zz [zh 4 0] ⟨[0,1],[],[]⟩ (.seq (zz [zm 9 0,zl 10 9,zh 11 0] ⟨[0,1,9,10,11],[],[]⟩ (.block 0 (adT))) (.seq (zz [zm 31 0,zl 32 31,zm 33 1,zl 34 33,zb .lss 35 32 34] ⟨[35],[],[]⟩ (yc 35 (zz [zh 4 (-1)] ⟨[4],[],[]⟩ (.ret)))) (zz [zh 4 0] ⟨[4],[],[]⟩ (.ret))))
def GV:bq where
 nparams:=2
 results:=[.t 4 [none]]
 body :=
 yz [2,3] [zu 2 0,zu 3 1,zt 4 false] ⟨[2,3],[2,3],[]⟩ (zz [zf 5 0 3,zj 6 3 5,zf 7 1 2,zj 8 2 7,zw 9 true 147 [a0 6,a0 8],zm 4 9] ⟨[4],[],[]⟩ (.ret))
def Ti:VC :=
 .block 1 (zz [zm 23 8,zm 24 1,zb .add 25 23 24,zv .sub 26 25 1,zm 27 1,zb .quo 28 26 27,zm 29 1,zb .mul 30 28 29,zm 8 30] ⟨[1,2,7,8],[2],[1049]⟩ (.seq (zz [zm 31 8,zf 32 2 2,zj 33 2 32,zb .gtr 34 31 33] ⟨[1,2,7,8,34],[2],[1049]⟩ (yc 34 (zz [zm 35 7,zm 4 35,zh 5 0] ⟨[4,5],[],[1049]⟩ (.ret)))) (.seq (zz [zs 36 2 6 2,zm 37 8,zw 38 true 221 [(eF,(.t 36)),a0 37],zm 9 38] ⟨[1,2,7,8,9],[2],
 [1049]⟩ (zz [zm 39 9,zm 40 8,zb .neq 41 39 40] ⟨[1,2,7,8,9,41],[2],[1049]⟩ (yc 41 (zz [zm 42 9,zm 8 42] ⟨[1,2,7,8],[2],[1049]⟩ (.exit 1))))) (.seq (zz [zm 43 7,zl 44 43,zv .eql 45 44 200] ⟨[1,2,7,8,45],[2],[1049]⟩ (yc 45 (zz [zy 4,zh 5 10] ⟨[4,5],[],[1049]⟩ (.ret)))) (.seq (.region [.norm 7 1049 1] [5049] [zm 46 7,zm 47 8,zo 48 (.lit none [none] [z0] 1 [(0,(.t 47))]),
 zo 49 (.app 5049 (some 1049) [none] 17592186044416 (.t 46) (.t 48)),zm 7 49] ⟨[1,2,7,8],[2],[1049]⟩) (zr [zm 50 8,zv .add 51 50 1,zm 8 51] ⟨[1,2,7,8],[2],[1049]⟩))))))
def adV:VC:=.loop [.norm 7 1049 1] ⟨[1,2,7,8],[2],[1049]⟩ Ti
abbrev adW(x1:Int)(x7:V)(x8:Int)(o2:List V)(adX:Nat)(G:List aW):St:=⟨[(1,.int .i64 x1),(2,.bK 2 0),(7,x7),(8,.int .i64 x8)],[(2,o2)],[(1049,adX)],G⟩
def GW:bq where
 nparams:=2
 results:=[.t 4 [some 1],.t 5 [none]]
 body :=
 yz [2] [zu 2 0,zy 4,zh 5 0] ⟨[1,2],[2],[]⟩ (.seq (zz [zs 10 2 6 2,zw 11 true 129 [(eF,(.t 10))],zm 6 11] ⟨[1,2,6],[2],[]⟩ (zz [zm 12 6,zv .neq 13 12 0] ⟨[1,2,6,13],[2],[]⟩ (yc 13 (zz [zm 14 6,zy 4,zm 5 14] ⟨[4,5],[],[1049]⟩ (.ret))))) (.seq (zz [zm 15 1,zv .lss 16 15 1,zm 17 16,ym 18 17 false 1,yv .gtr 19 17 false 18 1073741824,yp 20 17 true 19] ⟨[1,2,20],[2],[]⟩ (yc 20 (zz [zy 4,zh 5 1] ⟨[4,5],
 [],[1049]⟩ (.ret)))) (zz [zy 7] ⟨[1,2,7],[2],[1049]⟩ (zz [zf 21 1 2,zj 22 2 21,zm 8 22] ⟨[1,2,7,8],[2],[1049]⟩ (.block 0 (adV))))))
def GX:bq where
 nparams:=3
 results:=[.t 6 [none]]
 body :=
 yz [3,4] [zu 3 0,zu 4 1,zt 6 false] ⟨[2,3,4],[3,4],[]⟩ (zz [zs 7 3 6 3,zs 8 4 3 4,zw 9 true 192 [(eF,(.t 7)),(e9,(.t 8))],zm 10 9,ys 11 10 true 3 6 3,ys 12 10 true 4 3 4,ym 13 10 true 2,yw 14 10 true true 220 [(eF,(.t 11)),(e9,(.t 12)),a0 13],zp 15 10 14 false,zm 6 15] ⟨[6],[],[]⟩ (.ret))
def DW:bq where
 nparams:=2
 results:=[.t 4 [none]]
 body :=
 zz [zh 4 0] ⟨[0,1],[],[]⟩ (zz [zm 7 0,zw 8 true 235 [a0 7],zm 5 8] ⟨[0,1,5],[],[]⟩ (zz [zm 9 1,zw 10 true 235 [a0 9],zm 6 10] ⟨[0,1,5,6],[],[]⟩ (.seq (zz [zm 11 5] ⟨[0,1,6,11],[],[]⟩ (yc 11 (.seq (zz [zm 12 6] ⟨[12],[],[]⟩ (yc 12 (zz [zh 4 0] ⟨[4],[],[]⟩ (.ret)))) (zz [zh 4 (-1)] ⟨[4],[],[]⟩ (.ret))))) (.seq (zz [zm 13 6] ⟨[0,1,13],[],[]⟩ (yc 13 (zz [zh 4 1] ⟨[4],[],
 []⟩ (.ret)))) (.seq (zz [zm 14 0,zm 15 1,zb .lss 16 14 15] ⟨[0,1,16],[],[]⟩ (yc 16 (zz [zh 4 (-1)] ⟨[4],[],[]⟩ (.ret)))) (.seq (zz [zm 17 0,zm 18 1,zb .gtr 19 17 18] ⟨[19],[],[]⟩ (yc 19 (zz [zh 4 1] ⟨[4],[],[]⟩ (.ret)))) (zz [zh 4 0] ⟨[4],[],[]⟩ (.ret))))))))
def L5:bq where
 nparams:=1
 results:=[.t 2 [none]]
 body :=
 zz [zt 2 false] ⟨[0],[],[]⟩ (zz [zm 3 0,zm 4 0,zb .neq 5 3 4,zm 2 5] ⟨[2],[],[]⟩ (.ret))
end Go.Proofs.YtmpikpodpgnjhaaGreat
