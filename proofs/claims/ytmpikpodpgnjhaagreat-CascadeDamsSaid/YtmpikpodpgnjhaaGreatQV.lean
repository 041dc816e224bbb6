/- The functions of the program, as the value machine has them, by program. -/
import Derived.Test.YtmpikpodpgnjhaaGreatQ0
import Derived.Test.YtmpikpodpgnjhaaGreatQ1
import Derived.Test.YtmpikpodpgnjhaaGreatQ2
import Derived.Test.YtmpikpodpgnjhaaGreatProg
namespace Go.Proofs.YtmpikpodpgnjhaaGreat
open Go.Vm
set_option maxRecDepth 100000
def bS:List (Nat×Nat):=[(146,2),(229,0),(230,1)]
theorem adT:bO Tryz.prog bS Tryz.f4 Dd=true:=by kernel_rfl
theorem adU:bO Tryz.prog bS Tryz.f12 Kx=true:=by kernel_rfl
theorem adV:bO Tryz.prog bS Tryz.f13 Ky=true:=by kernel_rfl
theorem adW:bO Tryz.prog bS Tryz.f14 Kz=true:=by kernel_rfl
theorem adX:bO Tryz.prog bS Tryz.f15 KA=true:=by kernel_rfl
theorem adY:bO Tryz.prog bS Tryz.f16 KB=true:=by kernel_rfl
theorem adZ:bO Tryz.prog bS Tryz.f17 De=true:=by kernel_rfl
theorem ad0:bO Tryz.prog bS Tryz.f19 yH=true:=by kernel_rfl
theorem ad1:bO Tryz.prog bS Tryz.f20 KC=true:=by kernel_rfl
theorem ad2:bO Tryz.prog bS Tryz.f21 KD=true:=by kernel_rfl
theorem ad3:bO Tryz.prog bS Tryz.f22 KE=true:=by kernel_rfl
theorem ad4:bO Tryz.prog bS Tryz.f23 Dg=true:=by kernel_rfl
theorem ad5:bO Tryz.prog bS Tryz.f26 A2=true:=by kernel_rfl
theorem ad6:bO Tryz.prog bS Tryz.f27 A3=true:=by kernel_rfl
theorem ad7:bO Tryz.prog bS Tryz.f28 F2=true:=by kernel_rfl
theorem ad8:bO Tryz.prog bS Tryz.f29 yN=true:=by kernel_rfl
theorem ad9:bO Tryz.prog bS Tryz.f31 Dh=true:=by kernel_rfl
theorem aea:bO Tryz.prog bS Tryz.f32 Di=true:=by kernel_rfl
theorem aeb:bO Tryz.prog bS Tryz.f42 tJ=true:=by kernel_rfl
theorem aec:bO Tryz.prog bS Tryz.f52 KH=true:=by kernel_rfl
theorem aed:bO Tryz.prog bS Tryz.f53 KI=true:=by kernel_rfl
theorem aee:bO Tryz.prog bS Tryz.f54 Dt=true:=by kernel_rfl
theorem aef:bO Tryz.prog bS Tryz.f55 A4=true:=by kernel_rfl
theorem aeg:bO Tryz.prog bS Tryz.f56 Du=true:=by kernel_rfl
theorem aeh:bO Tryz.prog bS Tryz.f57 KJ=true:=by kernel_rfl
theorem aei:bO Tryz.prog bS Tryz.f58 F3=true:=by kernel_rfl
theorem aej:bO Tryz.prog bS Tryz.f59 F4=true:=by kernel_rfl
theorem aek:bO Tryz.prog bS Tryz.f60 F5=true:=by kernel_rfl
theorem ael:bO Tryz.prog bS Tryz.f61 A5=true:=by kernel_rfl
theorem aem:bO Tryz.prog bS Tryz.f62 KN=true:=by kernel_rfl
theorem aen:bO Tryz.prog bS Tryz.f63 KO=true:=by kernel_rfl
theorem aeo:bO Tryz.prog bS Tryz.f64 KP=true:=by kernel_rfl
theorem aep:bO Tryz.prog bS Tryz.f67 Dz=true:=by kernel_rfl
theorem aer:bO Tryz.prog bS Tryz.f68 A6=true:=by kernel_rfl
theorem aes:bO Tryz.prog bS Tryz.f69 A7=true:=by kernel_rfl
theorem aet:bO Tryz.prog bS Tryz.f70 yS=true:=by kernel_rfl
theorem aeu:bO Tryz.prog bS Tryz.f71 KQ=true:=by kernel_rfl
theorem aev:bO Tryz.prog bS Tryz.f72 p8=true:=by kernel_rfl
theorem aew:bO Tryz.prog bS Tryz.f73 yT=true:=by kernel_rfl
theorem aex:bO Tryz.prog bS Tryz.f74 F9=true:=by kernel_rfl
theorem aey:bO Tryz.prog bS Tryz.f75 Gb=true:=by kernel_rfl
theorem aez:bO Tryz.prog bS Tryz.f76 KS=true:=by kernel_rfl
theorem aeA:bO Tryz.prog bS Tryz.f77 Gd=true:=by kernel_rfl
theorem aeB:bO Tryz.prog bS Tryz.f79 KT=true:=by kernel_rfl
theorem aeC:bO Tryz.prog bS Tryz.f86 A8=true:=by kernel_rfl
theorem aeD:bO Tryz.prog bS Tryz.f87 A9=true:=by kernel_rfl
theorem aeE:bO Tryz.prog bS Tryz.f88 KU=true:=by kernel_rfl
theorem aeF:bO Tryz.prog bS Tryz.f89 KV=true:=by kernel_rfl
theorem aeG:bO Tryz.prog bS Tryz.f91 DE=true:=by kernel_rfl
theorem aeH:bO Tryz.prog bS Tryz.f93 KW=true:=by kernel_rfl
theorem aeI:bO Tryz.prog bS Tryz.f94 KX=true:=by kernel_rfl
theorem aeJ:bO Tryz.prog bS Tryz.f95 KY=true:=by kernel_rfl
theorem aeK:bO Tryz.prog bS Tryz.f110 KZ=true:=by kernel_rfl
theorem aeL:bO Tryz.prog bS Tryz.f111 K0=true:=by kernel_rfl
theorem aeM:bO Tryz.prog bS Tryz.f112 DF=true:=by kernel_rfl
theorem aeN:bO Tryz.prog bS Tryz.f113 vP=true:=by kernel_rfl
theorem aeO:bO Tryz.prog bS Tryz.f114 Ba=true:=by kernel_rfl
theorem aeP:bO Tryz.prog bS Tryz.f115 K1=true:=by kernel_rfl
theorem aeQ:bO Tryz.prog bS Tryz.f116 DG=true:=by kernel_rfl
theorem aeR:bO Tryz.prog bS Tryz.f117 Ge=true:=by kernel_rfl
theorem aeS:bO Tryz.prog bS Tryz.f118 Bb=true:=by kernel_rfl
theorem aeT:bO Tryz.prog bS Tryz.f119 Gf=true:=by kernel_rfl
theorem aeU:bO Tryz.prog bS Tryz.f120 yW=true:=by kernel_rfl
theorem aeV:bO Tryz.prog bS Tryz.f121 DI=true:=by kernel_rfl
theorem aeW:bO Tryz.prog bS Tryz.f122 Bc=true:=by kernel_rfl
theorem aeX:bO Tryz.prog bS Tryz.f123 Gg=true:=by kernel_rfl
theorem aeY:bO Tryz.prog bS Tryz.f124 K4=true:=by kernel_rfl
theorem aeZ:bO Tryz.prog bS Tryz.f125 K5=true:=by kernel_rfl
theorem ae0:bO Tryz.prog bS Tryz.f126 K6=true:=by kernel_rfl
theorem ae1:bO Tryz.prog bS Tryz.f127 Be=true:=by kernel_rfl
theorem ae2:bO Tryz.prog bS Tryz.f128 K7=true:=by kernel_rfl
theorem ae3:bO Tryz.prog bS Tryz.f129 Gi=true:=by kernel_rfl
theorem ae4:bO Tryz.prog bS Tryz.f130 La=true:=by kernel_rfl
theorem ae5:bO Tryz.prog bS Tryz.f131 Gj=true:=by kernel_rfl
theorem ae6:bO Tryz.prog bS Tryz.f132 Gk=true:=by kernel_rfl
theorem ae7:bO Tryz.prog bS Tryz.f133 Lc=true:=by kernel_rfl
theorem ae8:bO Tryz.prog bS Tryz.f134 Gl=true:=by kernel_rfl
theorem ae9:bO Tryz.prog bS Tryz.f135 yX=true:=by kernel_rfl
theorem afa:bO Tryz.prog bS Tryz.f136 Gm=true:=by kernel_rfl
theorem afb:bO Tryz.prog bS Tryz.f137 Gn=true:=by kernel_rfl
theorem afc:bO Tryz.prog bS Tryz.f138 DJ=true:=by kernel_rfl
theorem afd:bO Tryz.prog bS Tryz.f139 DK=true:=by kernel_rfl
theorem afe:bO Tryz.prog bS Tryz.f143 DL=true:=by kernel_rfl
theorem aff:bO Tryz.prog bS Tryz.f144 Gq=true:=by kernel_rfl
theorem afg:bO Tryz.prog bS Tryz.f145 Ld=true:=by kernel_rfl
theorem afh:bO Tryz.prog bS Tryz.f147 Lf=true:=by kernel_rfl
theorem afi:bO Tryz.prog bS Tryz.f153 Lg=true:=by kernel_rfl
theorem afj:bO Tryz.prog bS Tryz.f154 Lj=true:=by kernel_rfl
theorem afk:bO Tryz.prog bS Tryz.f155 Lm=true:=by kernel_rfl
theorem afl:bO Tryz.prog bS Tryz.f156 Lo=true:=by kernel_rfl
theorem afm:bO Tryz.prog bS Tryz.f157 Lp=true:=by kernel_rfl
theorem afn:bO Tryz.prog bS Tryz.f158 Lq=true:=by kernel_rfl
theorem afo:bO Tryz.prog bS Tryz.f159 DM=true:=by kernel_rfl
theorem afp:bO Tryz.prog bS Tryz.f160 Lr=true:=by kernel_rfl
theorem afq:bO Tryz.prog bS Tryz.f161 Ls=true:=by kernel_rfl
theorem afr:bO Tryz.prog bS Tryz.f162 Gr=true:=by kernel_rfl
theorem afs:bO Tryz.prog bS Tryz.f163 Gu=true:=by kernel_rfl
theorem aft:bO Tryz.prog bS Tryz.f164 Lt=true:=by kernel_rfl
theorem afu:bO Tryz.prog bS Tryz.f165 Lu=true:=by kernel_rfl
theorem afv:bO Tryz.prog bS Tryz.f166 Lv=true:=by kernel_rfl
theorem afw:bO Tryz.prog bS Tryz.f167 Lw=true:=by kernel_rfl
theorem afx:bO Tryz.prog bS Tryz.f168 DN=true:=by kernel_rfl
theorem afy:bO Tryz.prog bS Tryz.f169 Bf=true:=by kernel_rfl
theorem afz:bO Tryz.prog bS Tryz.f170 vQ=true:=by kernel_rfl
theorem afA:bO Tryz.prog bS Tryz.f171 Gx=true:=by kernel_rfl
theorem afB:bO Tryz.prog bS Tryz.f172 Lx=true:=by kernel_rfl
theorem afC:bO Tryz.prog bS Tryz.f173 Ly=true:=by kernel_rfl
theorem afD:bO Tryz.prog bS Tryz.f174 Bg=true:=by kernel_rfl
theorem afE:bO Tryz.prog bS Tryz.f175 Gy=true:=by kernel_rfl
theorem afF:bO Tryz.prog bS Tryz.f176 qF=true:=by kernel_rfl
theorem afG:bO Tryz.prog bS Tryz.f179 Gz=true:=by kernel_rfl
theorem afH:bO Tryz.prog bS Tryz.f180 LB=true:=by kernel_rfl
theorem afI:bO Tryz.prog bS Tryz.f181 Bh=true:=by kernel_rfl
theorem afJ:bO Tryz.prog bS Tryz.f182 LC=true:=by kernel_rfl
theorem afK:bO Tryz.prog bS Tryz.f183 GA=true:=by kernel_rfl
theorem afL:bO Tryz.prog bS Tryz.f184 LD=true:=by kernel_rfl
theorem afM:bO Tryz.prog bS Tryz.f185 LF=true:=by kernel_rfl
theorem afN:bO Tryz.prog bS Tryz.f186 yY=true:=by kernel_rfl
theorem afO:bO Tryz.prog bS Tryz.f187 GD=true:=by kernel_rfl
theorem afP:bO Tryz.prog bS Tryz.f188 LG=true:=by kernel_rfl
theorem afQ:bO Tryz.prog bS Tryz.f189 LH=true:=by kernel_rfl
theorem afR:bO Tryz.prog bS Tryz.f190 LI=true:=by kernel_rfl
theorem afS:bO Tryz.prog bS Tryz.f191 LJ=true:=by kernel_rfl
theorem afT:bO Tryz.prog bS Tryz.f192 GG=true:=by kernel_rfl
theorem afU:bO Tryz.prog bS Tryz.f194 GH=true:=by kernel_rfl
theorem afV:bO Tryz.prog bS Tryz.f195 DO=true:=by kernel_rfl
theorem afW:bO Tryz.prog bS Tryz.f196 GI=true:=by kernel_rfl
theorem afX:bO Tryz.prog bS Tryz.f197 LK=true:=by kernel_rfl
theorem afY:bO Tryz.prog bS Tryz.f198 LM=true:=by kernel_rfl
theorem afZ:bO Tryz.prog bS Tryz.f199 LN=true:=by kernel_rfl
theorem af0:bO Tryz.prog bS Tryz.f200 LP=true:=by kernel_rfl
theorem af1:bO Tryz.prog bS Tryz.f201 LQ=true:=by kernel_rfl
theorem af2:bO Tryz.prog bS Tryz.f202 Bi=true:=by kernel_rfl
theorem af3:bO Tryz.prog bS Tryz.f203 LR=true:=by kernel_rfl
theorem af4:bO Tryz.prog bS Tryz.f204 DP=true:=by kernel_rfl
theorem af5:bO Tryz.prog bS Tryz.f205 LS=true:=by kernel_rfl
theorem af6:bO Tryz.prog bS Tryz.f206 GK=true:=by kernel_rfl
theorem af7:bO Tryz.prog bS Tryz.f207 GL=true:=by kernel_rfl
theorem af8:bO Tryz.prog bS Tryz.f208 Bj=true:=by kernel_rfl
theorem af9:bO Tryz.prog bS Tryz.f209 LU=true:=by kernel_rfl
theorem aga:bO Tryz.prog bS Tryz.f210 GM=true:=by kernel_rfl
theorem agb:bO Tryz.prog bS Tryz.f211 LV=true:=by kernel_rfl
theorem agc:bO Tryz.prog bS Tryz.f212 LW=true:=by kernel_rfl
theorem agd:bO Tryz.prog bS Tryz.f213 GN=true:=by kernel_rfl
theorem age:bO Tryz.prog bS Tryz.f214 GO=true:=by kernel_rfl
theorem agf:bO Tryz.prog bS Tryz.f215 LX=true:=by kernel_rfl
theorem agh:bO Tryz.prog bS Tryz.f216 LY=true:=by kernel_rfl
theorem agi:bO Tryz.prog bS Tryz.f217 LZ=true:=by kernel_rfl
theorem agj:bO Tryz.prog bS Tryz.f218 Bk=true:=by kernel_rfl
theorem agk:bO Tryz.prog bS Tryz.f219 DQ=true:=by kernel_rfl
theorem agl:bO Tryz.prog bS Tryz.f220 xe=true:=by kernel_rfl
theorem agm:bO Tryz.prog bS Tryz.f221 L0=true:=by kernel_rfl
theorem agn:bO Tryz.prog bS Tryz.f222 GP=true:=by kernel_rfl
theorem ago:bO Tryz.prog bS Tryz.f223 L1=true:=by kernel_rfl
theorem agp:bO Tryz.prog bS Tryz.f224 L2=true:=by kernel_rfl
theorem agq:bO Tryz.prog bS Tryz.f225 DR=true:=by kernel_rfl
theorem agr:bO Tryz.prog bS Tryz.f226 L3=true:=by kernel_rfl
theorem ags:bO Tryz.prog bS Tryz.f227 GQ=true:=by kernel_rfl
theorem agt:bO Tryz.prog bS Tryz.f228 GR=true:=by kernel_rfl
theorem agu:bO Tryz.prog bS Tryz.f231 GS=true:=by kernel_rfl
theorem agv:bO Tryz.prog bS Tryz.f232 DS=true:=by kernel_rfl
theorem agw:bO Tryz.prog bS Tryz.f235 L4=true:=by kernel_rfl
def F0:FuncId→Option br
 |4=>some Dd
 |12=>some Kx
 |13=>some Ky
 |14=>some Kz
 |15=>some KA
 |16=>some KB
 |17=>some De
 |19=>some yH
 |20=>some KC
 |21=>some KD
 |22=>some KE
 |23=>some Dg
 |26=>some A2
 |27=>some A3
 |28=>some F2
 |29=>some yN
 |31=>some Dh
 |32=>some Di
 |42=>some tJ
 |52=>some KH
 |53=>some KI
 |54=>some Dt
 |55=>some A4
 |56=>some Du
 |57=>some KJ
 |58=>some F3
 |59=>some F4
 |60=>some F5
 |61=>some A5
 |62=>some KN
 |63=>some KO
 |64=>some KP
 |67=>some Dz
 |68=>some A6
 |69=>some A7
 |70=>some yS
 |71=>some KQ
 |72=>some p8
 |73=>some yT
 |74=>some F9
 |75=>some Gb
 |76=>some KS
 |77=>some Gd
 |79=>some KT
 |86=>some A8
 |87=>some A9
 |88=>some KU
 |89=>some KV
 |91=>some DE
 |93=>some KW
 |94=>some KX
 |95=>some KY
 |110=>some KZ
 |111=>some K0
 |112=>some DF
 |113=>some vP
 |114=>some Ba
 |115=>some K1
 |116=>some DG
 |117=>some Ge
 |118=>some Bb
 |119=>some Gf
 |120=>some yW
 |121=>some DI
 |122=>some Bc
 |123=>some Gg
 |124=>some K4
 |125=>some K5
 |126=>some K6
 |127=>some Be
 |128=>some K7
 |129=>some Gi
 |130=>some La
 |131=>some Gj
 |132=>some Gk
 |133=>some Lc
 |134=>some Gl
 |135=>some yX
 |136=>some Gm
 |137=>some Gn
 |138=>some DJ
 |139=>some DK
 |143=>some DL
 |144=>some Gq
 |145=>some Ld
 |147=>some Lf
 |153=>some Lg
 |154=>some Lj
 |155=>some Lm
 |156=>some Lo
 |157=>some Lp
 |158=>some Lq
 |159=>some DM
 |160=>some Lr
 |161=>some Ls
 |162=>some Gr
 |163=>some Gu
 |164=>some Lt
 |165=>some Lu
 |166=>some Lv
 |_=>none
theorem agx:∀f vf,F0 f=some vf→∃fn,Tryz.prog.funcs[f]?=some fn∧bO Tryz.prog bS fn vf=true:=fun f vf h=>by
 unfold F0 at h;split at h
 ·cases h;exact⟨_,Tryz.func4,adT⟩
 ·cases h;exact⟨_,Tryz.func12,adU⟩
 ·cases h;exact⟨_,Tryz.func13,adV⟩
 ·cases h;exact⟨_,Tryz.func14,adW⟩
 ·cases h;exact⟨_,Tryz.func15,adX⟩
 ·cases h;exact⟨_,Tryz.func16,adY⟩
 ·cases h;exact⟨_,Tryz.func17,adZ⟩
 ·cases h;exact⟨_,Tryz.func19,ad0⟩
 ·cases h;exact⟨_,Tryz.func20,ad1⟩
 ·cases h;exact⟨_,Tryz.func21,ad2⟩
 ·cases h;exact⟨_,Tryz.func22,ad3⟩
 ·cases h;exact⟨_,Tryz.func23,ad4⟩
 ·cases h;exact⟨_,Tryz.func26,ad5⟩
 ·cases h;exact⟨_,Tryz.func27,ad6⟩
 ·cases h;exact⟨_,Tryz.func28,ad7⟩
 ·cases h;exact⟨_,Tryz.func29,ad8⟩
 ·cases h;exact⟨_,Tryz.func31,ad9⟩
 ·cases h;exact⟨_,Tryz.func32,aea⟩
 ·cases h;exact⟨_,Tryz.func42,aeb⟩
 ·cases h;exact⟨_,Tryz.func52,aec⟩
 ·cases h;exact⟨_,Tryz.func53,aed⟩
 ·cases h;exact⟨_,Tryz.func54,aee⟩
 ·cases h;exact⟨_,Tryz.func55,aef⟩
 ·cases h;exact⟨_,Tryz.func56,aeg⟩
 ·cases h;exact⟨_,Tryz.func57,aeh⟩
 ·cases h;exact⟨_,Tryz.func58,aei⟩
 ·cases h;exact⟨_,Tryz.func59,aej⟩
 ·cases h;exact⟨_,Tryz.func60,aek⟩
 ·cases h;exact⟨_,Tryz.func61,ael⟩
 ·cases h;exact⟨_,Tryz.func62,aem⟩
 ·cases h;exact⟨_,Tryz.func63,aen⟩
 ·cases h;exact⟨_,Tryz.func64,aeo⟩
 ·cases h;exact⟨_,Tryz.func67,aep⟩
 ·cases h;exact⟨_,Tryz.func68,aer⟩
 ·cases h;exact⟨_,Tryz.func69,aes⟩
 ·cases h;exact⟨_,Tryz.func70,aet⟩
 ·cases h;exact⟨_,Tryz.func71,aeu⟩
 ·cases h;exact⟨_,Tryz.func72,aev⟩
 ·cases h;exact⟨_,Tryz.func73,aew⟩
 ·cases h;exact⟨_,Tryz.func74,aex⟩
 ·cases h;exact⟨_,Tryz.func75,aey⟩
 ·cases h;exact⟨_,Tryz.func76,aez⟩
 ·cases h;exact⟨_,Tryz.func77,aeA⟩
 ·cases h;exact⟨_,Tryz.func79,aeB⟩
 ·cases h;exact⟨_,Tryz.func86,aeC⟩
 ·cases h;exact⟨_,Tryz.func87,aeD⟩
 ·cases h;exact⟨_,Tryz.func88,aeE⟩
 ·cases h;exact⟨_,Tryz.func89,aeF⟩
 ·cases h;exact⟨_,Tryz.func91,aeG⟩
 ·cases h;exact⟨_,Tryz.func93,aeH⟩
 ·cases h;exact⟨_,Tryz.func94,aeI⟩
 ·cases h;exact⟨_,Tryz.func95,aeJ⟩
 ·cases h;exact⟨_,Tryz.func110,aeK⟩
 ·cases h;exact⟨_,Tryz.func111,aeL⟩
 ·cases h;exact⟨_,Tryz.func112,aeM⟩
 ·cases h;exact⟨_,Tryz.func113,aeN⟩
 ·cases h;exact⟨_,Tryz.func114,aeO⟩
 ·cases h;exact⟨_,Tryz.func115,aeP⟩
 ·cases h;exact⟨_,Tryz.func116,aeQ⟩
 ·cases h;exact⟨_,Tryz.func117,aeR⟩
 ·cases h;exact⟨_,Tryz.func118,aeS⟩
 ·cases h;exact⟨_,Tryz.func119,aeT⟩
 ·cases h;exact⟨_,Tryz.func120,aeU⟩
 ·cases h;exact⟨_,Tryz.func121,aeV⟩
 ·cases h;exact⟨_,Tryz.func122,aeW⟩
 ·cases h;exact⟨_,Tryz.func123,aeX⟩
 ·cases h;exact⟨_,Tryz.func124,aeY⟩
 ·cases h;exact⟨_,Tryz.func125,aeZ⟩
 ·cases h;exact⟨_,Tryz.func126,ae0⟩
 ·cases h;exact⟨_,Tryz.func127,ae1⟩
 ·cases h;exact⟨_,Tryz.func128,ae2⟩
 ·cases h;exact⟨_,Tryz.func129,ae3⟩
 ·cases h;exact⟨_,Tryz.func130,ae4⟩
 ·cases h;exact⟨_,Tryz.func131,ae5⟩
 ·cases h;exact⟨_,Tryz.func132,ae6⟩
 ·cases h;exact⟨_,Tryz.func133,ae7⟩
 ·cases h;exact⟨_,Tryz.func134,ae8⟩
 ·cases h;exact⟨_,Tryz.func135,ae9⟩
 ·cases h;exact⟨_,Tryz.func136,afa⟩
 ·cases h;exact⟨_,Tryz.func137,afb⟩
 ·cases h;exact⟨_,Tryz.func138,afc⟩
 ·cases h;exact⟨_,Tryz.func139,afd⟩
 ·cases h;exact⟨_,Tryz.func143,afe⟩
 ·cases h;exact⟨_,Tryz.func144,aff⟩
 ·cases h;exact⟨_,Tryz.func145,afg⟩
 ·cases h;exact⟨_,Tryz.func147,afh⟩
 ·cases h;exact⟨_,Tryz.func153,afi⟩
 ·cases h;exact⟨_,Tryz.func154,afj⟩
 ·cases h;exact⟨_,Tryz.func155,afk⟩
 ·cases h;exact⟨_,Tryz.func156,afl⟩
 ·cases h;exact⟨_,Tryz.func157,afm⟩
 ·cases h;exact⟨_,Tryz.func158,afn⟩
 ·cases h;exact⟨_,Tryz.func159,afo⟩
 ·cases h;exact⟨_,Tryz.func160,afp⟩
 ·cases h;exact⟨_,Tryz.func161,afq⟩
 ·cases h;exact⟨_,Tryz.func162,afr⟩
 ·cases h;exact⟨_,Tryz.func163,afs⟩
 ·cases h;exact⟨_,Tryz.func164,aft⟩
 ·cases h;exact⟨_,Tryz.func165,afu⟩
 ·cases h;exact⟨_,Tryz.func166,afv⟩
 ·cases h
def F1:FuncId→Option br
 |167=>some Lw
 |168=>some DN
 |169=>some Bf
 |170=>some vQ
 |171=>some Gx
 |172=>some Lx
 |173=>some Ly
 |174=>some Bg
 |175=>some Gy
 |176=>some qF
 |179=>some Gz
 |180=>some LB
 |181=>some Bh
 |182=>some LC
 |183=>some GA
 |184=>some LD
 |185=>some LF
 |186=>some yY
 |187=>some GD
 |188=>some LG
 |189=>some LH
 |190=>some LI
 |191=>some LJ
 |192=>some GG
 |194=>some GH
 |195=>some DO
 |196=>some GI
 |197=>some LK
 |198=>some LM
 |199=>some LN
 |200=>some LP
 |201=>some LQ
 |202=>some Bi
 |203=>some LR
 |204=>some DP
 |205=>some LS
 |206=>some GK
 |207=>some GL
 |208=>some Bj
 |209=>some LU
 |210=>some GM
 |211=>some LV
 |212=>some LW
 |213=>some GN
 |214=>some GO
 |215=>some LX
 |216=>some LY
 |217=>some LZ
 |218=>some Bk
 |219=>some DQ
 |220=>some xe
 |221=>some L0
 |222=>some GP
 |223=>some L1
 |224=>some L2
 |225=>some DR
 |226=>some L3
 |227=>some GQ
 |228=>some GR
 |231=>some GS
 |232=>some DS
 |235=>some L4
 |_=>none
theorem agy:∀f vf,F1 f=some vf→∃fn,Tryz.prog.funcs[f]?=some fn∧bO Tryz.prog bS fn vf=true:=fun f vf h=>by
 unfold F1 at h;split at h
 ·cases h;exact⟨_,Tryz.func167,afw⟩
 ·cases h;exact⟨_,Tryz.func168,afx⟩
 ·cases h;exact⟨_,Tryz.func169,afy⟩
 ·cases h;exact⟨_,Tryz.func170,afz⟩
 ·cases h;exact⟨_,Tryz.func171,afA⟩
 ·cases h;exact⟨_,Tryz.func172,afB⟩
 ·cases h;exact⟨_,Tryz.func173,afC⟩
 ·cases h;exact⟨_,Tryz.func174,afD⟩
 ·cases h;exact⟨_,Tryz.func175,afE⟩
 ·cases h;exact⟨_,Tryz.func176,afF⟩
 ·cases h;exact⟨_,Tryz.func179,afG⟩
 ·cases h;exact⟨_,Tryz.func180,afH⟩
 ·cases h;exact⟨_,Tryz.func181,afI⟩
 ·cases h;exact⟨_,Tryz.func182,afJ⟩
 ·cases h;exact⟨_,Tryz.func183,afK⟩
 ·cases h;exact⟨_,Tryz.func184,afL⟩
 ·cases h;exact⟨_,Tryz.func185,afM⟩
 ·cases h;exact⟨_,Tryz.func186,afN⟩
 ·cases h;exact⟨_,Tryz.func187,afO⟩
 ·cases h;exact⟨_,Tryz.func188,afP⟩
 ·cases h;exact⟨_,Tryz.func189,afQ⟩
 ·cases h;exact⟨_,Tryz.func190,afR⟩
 ·cases h;exact⟨_,Tryz.func191,afS⟩
 ·cases h;exact⟨_,Tryz.func192,afT⟩
 ·cases h;exact⟨_,Tryz.func194,afU⟩
 ·cases h;exact⟨_,Tryz.func195,afV⟩
 ·cases h;exact⟨_,Tryz.func196,afW⟩
 ·cases h;exact⟨_,Tryz.func197,afX⟩
 ·cases h;exact⟨_,Tryz.func198,afY⟩
 ·cases h;exact⟨_,Tryz.func199,afZ⟩
 ·cases h;exact⟨_,Tryz.func200,af0⟩
 ·cases h;exact⟨_,Tryz.func201,af1⟩
 ·cases h;exact⟨_,Tryz.func202,af2⟩
 ·cases h;exact⟨_,Tryz.func203,af3⟩
 ·cases h;exact⟨_,Tryz.func204,af4⟩
 ·cases h;exact⟨_,Tryz.func205,af5⟩
 ·cases h;exact⟨_,Tryz.func206,af6⟩
 ·cases h;exact⟨_,Tryz.func207,af7⟩
 ·cases h;exact⟨_,Tryz.func208,af8⟩
 ·cases h;exact⟨_,Tryz.func209,af9⟩
 ·cases h;exact⟨_,Tryz.func210,aga⟩
 ·cases h;exact⟨_,Tryz.func211,agb⟩
 ·cases h;exact⟨_,Tryz.func212,agc⟩
 ·cases h;exact⟨_,Tryz.func213,agd⟩
 ·cases h;exact⟨_,Tryz.func214,age⟩
 ·cases h;exact⟨_,Tryz.func215,agf⟩
 ·cases h;exact⟨_,Tryz.func216,agh⟩
 ·cases h;exact⟨_,Tryz.func217,agi⟩
 ·cases h;exact⟨_,Tryz.func218,agj⟩
 ·cases h;exact⟨_,Tryz.func219,agk⟩
 ·cases h;exact⟨_,Tryz.func220,agl⟩
 ·cases h;exact⟨_,Tryz.func221,agm⟩
 ·cases h;exact⟨_,Tryz.func222,agn⟩
 ·cases h;exact⟨_,Tryz.func223,ago⟩
 ·cases h;exact⟨_,Tryz.func224,agp⟩
 ·cases h;exact⟨_,Tryz.func225,agq⟩
 ·cases h;exact⟨_,Tryz.func226,agr⟩
 ·cases h;exact⟨_,Tryz.func227,ags⟩
 ·cases h;exact⟨_,Tryz.func228,agt⟩
 ·cases h;exact⟨_,Tryz.func231,agu⟩
 ·cases h;exact⟨_,Tryz.func232,agv⟩
 ·cases h;exact⟨_,Tryz.func235,agw⟩
 ·cases h
def F(f:FuncId):Option br :=
 if f≤166 then F0 f else F1 f
theorem agz:∀f vf,F f=some vf→∃fn,Tryz.prog.funcs[f]?=some fn∧bO Tryz.prog bS fn vf=true:=fun f vf h=>by
 unfold F at h;split at h
 ·exact agx f vf h
 exact agy f vf h
end Go.Proofs.YtmpikpodpgnjhaaGreat
