/- The functions of the program, as the value machine has them, by program. -/
import Derived.Test.YtmpikpodpgnjhaaGreatQ0
import Derived.Test.YtmpikpodpgnjhaaGreatQ1
import Derived.Test.YtmpikpodpgnjhaaGreatQ2
import Derived.Test.YtmpikpodpgnjhaaGreatProg
namespace Go.Proofs.YtmpikpodpgnjhaaGreat
open Go.Vm
set_option maxRecDepth 100000
def bS:List (Nat×Nat):=[(146,2),(229,0),(230,1)]
theorem adW:bP Tryz.prog bS Tryz.f4 De=true:=by kernel_rfl
theorem adX:bP Tryz.prog bS Tryz.f12 Kz=true:=by kernel_rfl
theorem adY:bP Tryz.prog bS Tryz.f13 KA=true:=by kernel_rfl
theorem adZ:bP Tryz.prog bS Tryz.f14 KB=true:=by kernel_rfl
theorem ad0:bP Tryz.prog bS Tryz.f15 KC=true:=by kernel_rfl
theorem ad1:bP Tryz.prog bS Tryz.f16 KD=true:=by kernel_rfl
theorem ad2:bP Tryz.prog bS Tryz.f17 Df=true:=by kernel_rfl
theorem ad3:bP Tryz.prog bS Tryz.f19 yJ=true:=by kernel_rfl
theorem ad4:bP Tryz.prog bS Tryz.f20 KE=true:=by kernel_rfl
theorem ad5:bP Tryz.prog bS Tryz.f21 KF=true:=by kernel_rfl
theorem ad6:bP Tryz.prog bS Tryz.f22 KG=true:=by kernel_rfl
theorem ad7:bP Tryz.prog bS Tryz.f23 Dh=true:=by kernel_rfl
theorem ad8:bP Tryz.prog bS Tryz.f26 A3=true:=by kernel_rfl
theorem ad9:bP Tryz.prog bS Tryz.f27 A4=true:=by kernel_rfl
theorem aea:bP Tryz.prog bS Tryz.f28 F4=true:=by kernel_rfl
theorem aeb:bP Tryz.prog bS Tryz.f29 yP=true:=by kernel_rfl
theorem aec:bP Tryz.prog bS Tryz.f31 Di=true:=by kernel_rfl
theorem aed:bP Tryz.prog bS Tryz.f32 Dj=true:=by kernel_rfl
theorem aee:bP Tryz.prog bS Tryz.f42 tK=true:=by kernel_rfl
theorem aef:bP Tryz.prog bS Tryz.f52 KJ=true:=by kernel_rfl
theorem aeg:bP Tryz.prog bS Tryz.f53 KK=true:=by kernel_rfl
theorem aeh:bP Tryz.prog bS Tryz.f54 Du=true:=by kernel_rfl
theorem aei:bP Tryz.prog bS Tryz.f55 A5=true:=by kernel_rfl
theorem aej:bP Tryz.prog bS Tryz.f56 Dx=true:=by kernel_rfl
theorem aek:bP Tryz.prog bS Tryz.f57 KL=true:=by kernel_rfl
theorem ael:bP Tryz.prog bS Tryz.f58 F5=true:=by kernel_rfl
theorem aem:bP Tryz.prog bS Tryz.f59 F6=true:=by kernel_rfl
theorem aen:bP Tryz.prog bS Tryz.f60 F7=true:=by kernel_rfl
theorem aeo:bP Tryz.prog bS Tryz.f61 A6=true:=by kernel_rfl
theorem aep:bP Tryz.prog bS Tryz.f62 KP=true:=by kernel_rfl
theorem aer:bP Tryz.prog bS Tryz.f63 KQ=true:=by kernel_rfl
theorem aes:bP Tryz.prog bS Tryz.f64 KR=true:=by kernel_rfl
theorem aet:bP Tryz.prog bS Tryz.f67 DA=true:=by kernel_rfl
theorem aeu:bP Tryz.prog bS Tryz.f68 A7=true:=by kernel_rfl
theorem aev:bP Tryz.prog bS Tryz.f69 A8=true:=by kernel_rfl
theorem aew:bP Tryz.prog bS Tryz.f70 yU=true:=by kernel_rfl
theorem aex:bP Tryz.prog bS Tryz.f71 KS=true:=by kernel_rfl
theorem aey:bP Tryz.prog bS Tryz.f72 p9=true:=by kernel_rfl
theorem aez:bP Tryz.prog bS Tryz.f73 yV=true:=by kernel_rfl
theorem aeA:bP Tryz.prog bS Tryz.f74 Gd=true:=by kernel_rfl
theorem aeB:bP Tryz.prog bS Tryz.f75 Ge=true:=by kernel_rfl
theorem aeC:bP Tryz.prog bS Tryz.f76 KU=true:=by kernel_rfl
theorem aeD:bP Tryz.prog bS Tryz.f77 Gf=true:=by kernel_rfl
theorem aeE:bP Tryz.prog bS Tryz.f79 KV=true:=by kernel_rfl
theorem aeF:bP Tryz.prog bS Tryz.f86 A9=true:=by kernel_rfl
theorem aeG:bP Tryz.prog bS Tryz.f87 Ba=true:=by kernel_rfl
theorem aeH:bP Tryz.prog bS Tryz.f88 KW=true:=by kernel_rfl
theorem aeI:bP Tryz.prog bS Tryz.f89 KX=true:=by kernel_rfl
theorem aeJ:bP Tryz.prog bS Tryz.f91 DF=true:=by kernel_rfl
theorem aeK:bP Tryz.prog bS Tryz.f93 KY=true:=by kernel_rfl
theorem aeL:bP Tryz.prog bS Tryz.f94 KZ=true:=by kernel_rfl
theorem aeM:bP Tryz.prog bS Tryz.f95 K0=true:=by kernel_rfl
theorem aeN:bP Tryz.prog bS Tryz.f110 K1=true:=by kernel_rfl
theorem aeO:bP Tryz.prog bS Tryz.f111 K2=true:=by kernel_rfl
theorem aeP:bP Tryz.prog bS Tryz.f112 DG=true:=by kernel_rfl
theorem aeQ:bP Tryz.prog bS Tryz.f113 vP=true:=by kernel_rfl
theorem aeR:bP Tryz.prog bS Tryz.f114 Bb=true:=by kernel_rfl
theorem aeS:bP Tryz.prog bS Tryz.f115 K3=true:=by kernel_rfl
theorem aeT:bP Tryz.prog bS Tryz.f116 DH=true:=by kernel_rfl
theorem aeU:bP Tryz.prog bS Tryz.f117 Gg=true:=by kernel_rfl
theorem aeV:bP Tryz.prog bS Tryz.f118 Bc=true:=by kernel_rfl
theorem aeW:bP Tryz.prog bS Tryz.f119 Gi=true:=by kernel_rfl
theorem aeX:bP Tryz.prog bS Tryz.f120 yY=true:=by kernel_rfl
theorem aeY:bP Tryz.prog bS Tryz.f121 DJ=true:=by kernel_rfl
theorem aeZ:bP Tryz.prog bS Tryz.f122 Be=true:=by kernel_rfl
theorem ae0:bP Tryz.prog bS Tryz.f123 Gj=true:=by kernel_rfl
theorem ae1:bP Tryz.prog bS Tryz.f124 K6=true:=by kernel_rfl
theorem ae2:bP Tryz.prog bS Tryz.f125 K7=true:=by kernel_rfl
theorem ae3:bP Tryz.prog bS Tryz.f126 K8=true:=by kernel_rfl
theorem ae4:bP Tryz.prog bS Tryz.f127 Bf=true:=by kernel_rfl
theorem ae5:bP Tryz.prog bS Tryz.f128 K9=true:=by kernel_rfl
theorem ae6:bP Tryz.prog bS Tryz.f129 Gk=true:=by kernel_rfl
theorem ae7:bP Tryz.prog bS Tryz.f130 Ld=true:=by kernel_rfl
theorem ae8:bP Tryz.prog bS Tryz.f131 Gl=true:=by kernel_rfl
theorem ae9:bP Tryz.prog bS Tryz.f132 Gm=true:=by kernel_rfl
theorem afa:bP Tryz.prog bS Tryz.f133 Lf=true:=by kernel_rfl
theorem afb:bP Tryz.prog bS Tryz.f134 Gn=true:=by kernel_rfl
theorem afc:bP Tryz.prog bS Tryz.f135 yZ=true:=by kernel_rfl
theorem afd:bP Tryz.prog bS Tryz.f136 Gp=true:=by kernel_rfl
theorem afe:bP Tryz.prog bS Tryz.f137 Gq=true:=by kernel_rfl
theorem aff:bP Tryz.prog bS Tryz.f138 DK=true:=by kernel_rfl
theorem afg:bP Tryz.prog bS Tryz.f139 DL=true:=by kernel_rfl
theorem afh:bP Tryz.prog bS Tryz.f143 DM=true:=by kernel_rfl
theorem afi:bP Tryz.prog bS Tryz.f144 Gu=true:=by kernel_rfl
theorem afj:bP Tryz.prog bS Tryz.f145 Lg=true:=by kernel_rfl
theorem afk:bP Tryz.prog bS Tryz.f147 Lh=true:=by kernel_rfl
theorem afl:bP Tryz.prog bS Tryz.f153 Lj=true:=by kernel_rfl
theorem afm:bP Tryz.prog bS Tryz.f154 Lm=true:=by kernel_rfl
theorem afn:bP Tryz.prog bS Tryz.f155 Lo=true:=by kernel_rfl
theorem afo:bP Tryz.prog bS Tryz.f156 Lq=true:=by kernel_rfl
theorem afp:bP Tryz.prog bS Tryz.f157 Lr=true:=by kernel_rfl
theorem afq:bP Tryz.prog bS Tryz.f158 Ls=true:=by kernel_rfl
theorem afr:bP Tryz.prog bS Tryz.f159 DN=true:=by kernel_rfl
theorem afs:bP Tryz.prog bS Tryz.f160 Lt=true:=by kernel_rfl
theorem aft:bP Tryz.prog bS Tryz.f161 Lu=true:=by kernel_rfl
theorem afu:bP Tryz.prog bS Tryz.f162 Gx=true:=by kernel_rfl
theorem afv:bP Tryz.prog bS Tryz.f163 Gy=true:=by kernel_rfl
theorem afw:bP Tryz.prog bS Tryz.f164 Lv=true:=by kernel_rfl
theorem afx:bP Tryz.prog bS Tryz.f165 Lw=true:=by kernel_rfl
theorem afy:bP Tryz.prog bS Tryz.f166 Lx=true:=by kernel_rfl
theorem afz:bP Tryz.prog bS Tryz.f167 Ly=true:=by kernel_rfl
theorem afA:bP Tryz.prog bS Tryz.f168 DO=true:=by kernel_rfl
theorem afB:bP Tryz.prog bS Tryz.f169 Bg=true:=by kernel_rfl
theorem afC:bP Tryz.prog bS Tryz.f170 vQ=true:=by kernel_rfl
theorem afD:bP Tryz.prog bS Tryz.f171 Gz=true:=by kernel_rfl
theorem afE:bP Tryz.prog bS Tryz.f172 Lz=true:=by kernel_rfl
theorem afF:bP Tryz.prog bS Tryz.f173 LA=true:=by kernel_rfl
theorem afG:bP Tryz.prog bS Tryz.f174 Bh=true:=by kernel_rfl
theorem afH:bP Tryz.prog bS Tryz.f175 GA=true:=by kernel_rfl
theorem afI:bP Tryz.prog bS Tryz.f176 qG=true:=by kernel_rfl
theorem afJ:bP Tryz.prog bS Tryz.f179 GB=true:=by kernel_rfl
theorem afK:bP Tryz.prog bS Tryz.f180 LD=true:=by kernel_rfl
theorem afL:bP Tryz.prog bS Tryz.f181 Bi=true:=by kernel_rfl
theorem afM:bP Tryz.prog bS Tryz.f182 LF=true:=by kernel_rfl
theorem afN:bP Tryz.prog bS Tryz.f183 GC=true:=by kernel_rfl
theorem afO:bP Tryz.prog bS Tryz.f184 LG=true:=by kernel_rfl
theorem afP:bP Tryz.prog bS Tryz.f185 LH=true:=by kernel_rfl
theorem afQ:bP Tryz.prog bS Tryz.f186 y3=true:=by kernel_rfl
theorem afR:bP Tryz.prog bS Tryz.f187 GH=true:=by kernel_rfl
theorem afS:bP Tryz.prog bS Tryz.f188 LI=true:=by kernel_rfl
theorem afT:bP Tryz.prog bS Tryz.f189 LJ=true:=by kernel_rfl
theorem afU:bP Tryz.prog bS Tryz.f190 LK=true:=by kernel_rfl
theorem afV:bP Tryz.prog bS Tryz.f191 LM=true:=by kernel_rfl
theorem afW:bP Tryz.prog bS Tryz.f192 GI=true:=by kernel_rfl
theorem afX:bP Tryz.prog bS Tryz.f194 GJ=true:=by kernel_rfl
theorem afY:bP Tryz.prog bS Tryz.f195 DP=true:=by kernel_rfl
theorem afZ:bP Tryz.prog bS Tryz.f196 GK=true:=by kernel_rfl
theorem af0:bP Tryz.prog bS Tryz.f197 LN=true:=by kernel_rfl
theorem af1:bP Tryz.prog bS Tryz.f198 LO=true:=by kernel_rfl
theorem af2:bP Tryz.prog bS Tryz.f199 LP=true:=by kernel_rfl
theorem af3:bP Tryz.prog bS Tryz.f200 LR=true:=by kernel_rfl
theorem af4:bP Tryz.prog bS Tryz.f201 LS=true:=by kernel_rfl
theorem af5:bP Tryz.prog bS Tryz.f202 Bj=true:=by kernel_rfl
theorem af6:bP Tryz.prog bS Tryz.f203 LU=true:=by kernel_rfl
theorem af7:bP Tryz.prog bS Tryz.f204 DQ=true:=by kernel_rfl
theorem af8:bP Tryz.prog bS Tryz.f205 LV=true:=by kernel_rfl
theorem af9:bP Tryz.prog bS Tryz.f206 GM=true:=by kernel_rfl
theorem aga:bP Tryz.prog bS Tryz.f207 GN=true:=by kernel_rfl
theorem agb:bP Tryz.prog bS Tryz.f208 Bk=true:=by kernel_rfl
theorem agc:bP Tryz.prog bS Tryz.f209 LW=true:=by kernel_rfl
theorem agd:bP Tryz.prog bS Tryz.f210 GO=true:=by kernel_rfl
theorem age:bP Tryz.prog bS Tryz.f211 LX=true:=by kernel_rfl
theorem agf:bP Tryz.prog bS Tryz.f212 LY=true:=by kernel_rfl
theorem agh:bP Tryz.prog bS Tryz.f213 GP=true:=by kernel_rfl
theorem agi:bP Tryz.prog bS Tryz.f214 GQ=true:=by kernel_rfl
theorem agj:bP Tryz.prog bS Tryz.f215 LZ=true:=by kernel_rfl
theorem agk:bP Tryz.prog bS Tryz.f216 L0=true:=by kernel_rfl
theorem agl:bP Tryz.prog bS Tryz.f217 L1=true:=by kernel_rfl
theorem agm:bP Tryz.prog bS Tryz.f218 Bl=true:=by kernel_rfl
theorem agn:bP Tryz.prog bS Tryz.f219 DR=true:=by kernel_rfl
theorem ago:bP Tryz.prog bS Tryz.f220 xf=true:=by kernel_rfl
theorem agp:bP Tryz.prog bS Tryz.f221 L2=true:=by kernel_rfl
theorem agq:bP Tryz.prog bS Tryz.f222 GR=true:=by kernel_rfl
theorem agr:bP Tryz.prog bS Tryz.f223 L3=true:=by kernel_rfl
theorem ags:bP Tryz.prog bS Tryz.f224 L4=true:=by kernel_rfl
theorem agt:bP Tryz.prog bS Tryz.f225 DS=true:=by kernel_rfl
theorem agu:bP Tryz.prog bS Tryz.f226 L5=true:=by kernel_rfl
theorem agv:bP Tryz.prog bS Tryz.f227 GS=true:=by kernel_rfl
theorem agw:bP Tryz.prog bS Tryz.f228 GU=true:=by kernel_rfl
theorem agx:bP Tryz.prog bS Tryz.f231 GV=true:=by kernel_rfl
theorem agy:bP Tryz.prog bS Tryz.f232 DT=true:=by kernel_rfl
theorem agz:bP Tryz.prog bS Tryz.f235 L6=true:=by kernel_rfl
def F0:FuncId→Option br
 |4=>some De
 |12=>some Kz
 |13=>some KA
 |14=>some KB
 |15=>some KC
 |16=>some KD
 |17=>some Df
 |19=>some yJ
 |20=>some KE
 |21=>some KF
 |22=>some KG
 |23=>some Dh
 |26=>some A3
 |27=>some A4
 |28=>some F4
 |29=>some yP
 |31=>some Di
 |32=>some Dj
 |42=>some tK
 |52=>some KJ
 |53=>some KK
 |54=>some Du
 |55=>some A5
 |56=>some Dx
 |57=>some KL
 |58=>some F5
 |59=>some F6
 |60=>some F7
 |61=>some A6
 |62=>some KP
 |63=>some KQ
 |64=>some KR
 |67=>some DA
 |68=>some A7
 |69=>some A8
 |70=>some yU
 |71=>some KS
 |72=>some p9
 |73=>some yV
 |74=>some Gd
 |75=>some Ge
 |76=>some KU
 |77=>some Gf
 |79=>some KV
 |86=>some A9
 |87=>some Ba
 |88=>some KW
 |89=>some KX
 |91=>some DF
 |93=>some KY
 |94=>some KZ
 |95=>some K0
 |110=>some K1
 |111=>some K2
 |112=>some DG
 |113=>some vP
 |114=>some Bb
 |115=>some K3
 |116=>some DH
 |117=>some Gg
 |118=>some Bc
 |119=>some Gi
 |120=>some yY
 |121=>some DJ
 |122=>some Be
 |123=>some Gj
 |124=>some K6
 |125=>some K7
 |126=>some K8
 |127=>some Bf
 |128=>some K9
 |129=>some Gk
 |130=>some Ld
 |131=>some Gl
 |132=>some Gm
 |133=>some Lf
 |134=>some Gn
 |135=>some yZ
 |136=>some Gp
 |137=>some Gq
 |138=>some DK
 |139=>some DL
 |143=>some DM
 |144=>some Gu
 |145=>some Lg
 |147=>some Lh
 |153=>some Lj
 |154=>some Lm
 |155=>some Lo
 |156=>some Lq
 |157=>some Lr
 |158=>some Ls
 |159=>some DN
 |160=>some Lt
 |161=>some Lu
 |162=>some Gx
 |163=>some Gy
 |164=>some Lv
 |165=>some Lw
 |166=>some Lx
 |_=>none
theorem agA:∀f vf,F0 f=some vf→∃fn,Tryz.prog.funcs[f]?=some fn∧bP Tryz.prog bS fn vf=true:=fun f vf h=>by
 unfold F0 at h;split at h
 ·cases h;exact⟨_,Tryz.func4,adW⟩
 ·cases h;exact⟨_,Tryz.func12,adX⟩
 ·cases h;exact⟨_,Tryz.func13,adY⟩
 ·cases h;exact⟨_,Tryz.func14,adZ⟩
 ·cases h;exact⟨_,Tryz.func15,ad0⟩
 ·cases h;exact⟨_,Tryz.func16,ad1⟩
 ·cases h;exact⟨_,Tryz.func17,ad2⟩
 ·cases h;exact⟨_,Tryz.func19,ad3⟩
 ·cases h;exact⟨_,Tryz.func20,ad4⟩
 ·cases h;exact⟨_,Tryz.func21,ad5⟩
 ·cases h;exact⟨_,Tryz.func22,ad6⟩
 ·cases h;exact⟨_,Tryz.func23,ad7⟩
 ·cases h;exact⟨_,Tryz.func26,ad8⟩
 ·cases h;exact⟨_,Tryz.func27,ad9⟩
 ·cases h;exact⟨_,Tryz.func28,aea⟩
 ·cases h;exact⟨_,Tryz.func29,aeb⟩
 ·cases h;exact⟨_,Tryz.func31,aec⟩
 ·cases h;exact⟨_,Tryz.func32,aed⟩
 ·cases h;exact⟨_,Tryz.func42,aee⟩
 ·cases h;exact⟨_,Tryz.func52,aef⟩
 ·cases h;exact⟨_,Tryz.func53,aeg⟩
 ·cases h;exact⟨_,Tryz.func54,aeh⟩
 ·cases h;exact⟨_,Tryz.func55,aei⟩
 ·cases h;exact⟨_,Tryz.func56,aej⟩
 ·cases h;exact⟨_,Tryz.func57,aek⟩
 ·cases h;exact⟨_,Tryz.func58,ael⟩
 ·cases h;exact⟨_,Tryz.func59,aem⟩
 ·cases h;exact⟨_,Tryz.func60,aen⟩
 ·cases h;exact⟨_,Tryz.func61,aeo⟩
 ·cases h;exact⟨_,Tryz.func62,aep⟩
 ·cases h;exact⟨_,Tryz.func63,aer⟩
 ·cases h;exact⟨_,Tryz.func64,aes⟩
 ·cases h;exact⟨_,Tryz.func67,aet⟩
 ·cases h;exact⟨_,Tryz.func68,aeu⟩
 ·cases h;exact⟨_,Tryz.func69,aev⟩
 ·cases h;exact⟨_,Tryz.func70,aew⟩
 ·cases h;exact⟨_,Tryz.func71,aex⟩
 ·cases h;exact⟨_,Tryz.func72,aey⟩
 ·cases h;exact⟨_,Tryz.func73,aez⟩
 ·cases h;exact⟨_,Tryz.func74,aeA⟩
 ·cases h;exact⟨_,Tryz.func75,aeB⟩
 ·cases h;exact⟨_,Tryz.func76,aeC⟩
 ·cases h;exact⟨_,Tryz.func77,aeD⟩
 ·cases h;exact⟨_,Tryz.func79,aeE⟩
 ·cases h;exact⟨_,Tryz.func86,aeF⟩
 ·cases h;exact⟨_,Tryz.func87,aeG⟩
 ·cases h;exact⟨_,Tryz.func88,aeH⟩
 ·cases h;exact⟨_,Tryz.func89,aeI⟩
 ·cases h;exact⟨_,Tryz.func91,aeJ⟩
 ·cases h;exact⟨_,Tryz.func93,aeK⟩
 ·cases h;exact⟨_,Tryz.func94,aeL⟩
 ·cases h;exact⟨_,Tryz.func95,aeM⟩
 ·cases h;exact⟨_,Tryz.func110,aeN⟩
 ·cases h;exact⟨_,Tryz.func111,aeO⟩
 ·cases h;exact⟨_,Tryz.func112,aeP⟩
 ·cases h;exact⟨_,Tryz.func113,aeQ⟩
 ·cases h;exact⟨_,Tryz.func114,aeR⟩
 ·cases h;exact⟨_,Tryz.func115,aeS⟩
 ·cases h;exact⟨_,Tryz.func116,aeT⟩
 ·cases h;exact⟨_,Tryz.func117,aeU⟩
 ·cases h;exact⟨_,Tryz.func118,aeV⟩
 ·cases h;exact⟨_,Tryz.func119,aeW⟩
 ·cases h;exact⟨_,Tryz.func120,aeX⟩
 ·cases h;exact⟨_,Tryz.func121,aeY⟩
 ·cases h;exact⟨_,Tryz.func122,aeZ⟩
 ·cases h;exact⟨_,Tryz.func123,ae0⟩
 ·cases h;exact⟨_,Tryz.func124,ae1⟩
 ·cases h;exact⟨_,Tryz.func125,ae2⟩
 ·cases h;exact⟨_,Tryz.func126,ae3⟩
 ·cases h;exact⟨_,Tryz.func127,ae4⟩
 ·cases h;exact⟨_,Tryz.func128,ae5⟩
 ·cases h;exact⟨_,Tryz.func129,ae6⟩
 ·cases h;exact⟨_,Tryz.func130,ae7⟩
 ·cases h;exact⟨_,Tryz.func131,ae8⟩
 ·cases h;exact⟨_,Tryz.func132,ae9⟩
 ·cases h;exact⟨_,Tryz.func133,afa⟩
 ·cases h;exact⟨_,Tryz.func134,afb⟩
 ·cases h;exact⟨_,Tryz.func135,afc⟩
 ·cases h;exact⟨_,Tryz.func136,afd⟩
 ·cases h;exact⟨_,Tryz.func137,afe⟩
 ·cases h;exact⟨_,Tryz.func138,aff⟩
 ·cases h;exact⟨_,Tryz.func139,afg⟩
 ·cases h;exact⟨_,Tryz.func143,afh⟩
 ·cases h;exact⟨_,Tryz.func144,afi⟩
 ·cases h;exact⟨_,Tryz.func145,afj⟩
 ·cases h;exact⟨_,Tryz.func147,afk⟩
 ·cases h;exact⟨_,Tryz.func153,afl⟩
 ·cases h;exact⟨_,Tryz.func154,afm⟩
 ·cases h;exact⟨_,Tryz.func155,afn⟩
 ·cases h;exact⟨_,Tryz.func156,afo⟩
 ·cases h;exact⟨_,Tryz.func157,afp⟩
 ·cases h;exact⟨_,Tryz.func158,afq⟩
 ·cases h;exact⟨_,Tryz.func159,afr⟩
 ·cases h;exact⟨_,Tryz.func160,afs⟩
 ·cases h;exact⟨_,Tryz.func161,aft⟩
 ·cases h;exact⟨_,Tryz.func162,afu⟩
 ·cases h;exact⟨_,Tryz.func163,afv⟩
 ·cases h;exact⟨_,Tryz.func164,afw⟩
 ·cases h;exact⟨_,Tryz.func165,afx⟩
 ·cases h;exact⟨_,Tryz.func166,afy⟩
 ·cases h
def F1:FuncId→Option br
 |167=>some Ly
 |168=>some DO
 |169=>some Bg
 |170=>some vQ
 |171=>some Gz
 |172=>some Lz
 |173=>some LA
 |174=>some Bh
 |175=>some GA
 |176=>some qG
 |179=>some GB
 |180=>some LD
 |181=>some Bi
 |182=>some LF
 |183=>some GC
 |184=>some LG
 |185=>some LH
 |186=>some y3
 |187=>some GH
 |188=>some LI
 |189=>some LJ
 |190=>some LK
 |191=>some LM
 |192=>some GI
 |194=>some GJ
 |195=>some DP
 |196=>some GK
 |197=>some LN
 |198=>some LO
 |199=>some LP
 |200=>some LR
 |201=>some LS
 |202=>some Bj
 |203=>some LU
 |204=>some DQ
 |205=>some LV
 |206=>some GM
 |207=>some GN
 |208=>some Bk
 |209=>some LW
 |210=>some GO
 |211=>some LX
 |212=>some LY
 |213=>some GP
 |214=>some GQ
 |215=>some LZ
 |216=>some L0
 |217=>some L1
 |218=>some Bl
 |219=>some DR
 |220=>some xf
 |221=>some L2
 |222=>some GR
 |223=>some L3
 |224=>some L4
 |225=>some DS
 |226=>some L5
 |227=>some GS
 |228=>some GU
 |231=>some GV
 |232=>some DT
 |235=>some L6
 |_=>none
theorem agB:∀f vf,F1 f=some vf→∃fn,Tryz.prog.funcs[f]?=some fn∧bP Tryz.prog bS fn vf=true:=fun f vf h=>by
 unfold F1 at h;split at h
 ·cases h;exact⟨_,Tryz.func167,afz⟩
 ·cases h;exact⟨_,Tryz.func168,afA⟩
 ·cases h;exact⟨_,Tryz.func169,afB⟩
 ·cases h;exact⟨_,Tryz.func170,afC⟩
 ·cases h;exact⟨_,Tryz.func171,afD⟩
 ·cases h;exact⟨_,Tryz.func172,afE⟩
 ·cases h;exact⟨_,Tryz.func173,afF⟩
 ·cases h;exact⟨_,Tryz.func174,afG⟩
 ·cases h;exact⟨_,Tryz.func175,afH⟩
 ·cases h;exact⟨_,Tryz.func176,afI⟩
 ·cases h;exact⟨_,Tryz.func179,afJ⟩
 ·cases h;exact⟨_,Tryz.func180,afK⟩
 ·cases h;exact⟨_,Tryz.func181,afL⟩
 ·cases h;exact⟨_,Tryz.func182,afM⟩
 ·cases h;exact⟨_,Tryz.func183,afN⟩
 ·cases h;exact⟨_,Tryz.func184,afO⟩
 ·cases h;exact⟨_,Tryz.func185,afP⟩
 ·cases h;exact⟨_,Tryz.func186,afQ⟩
 ·cases h;exact⟨_,Tryz.func187,afR⟩
 ·cases h;exact⟨_,Tryz.func188,afS⟩
 ·cases h;exact⟨_,Tryz.func189,afT⟩
 ·cases h;exact⟨_,Tryz.func190,afU⟩
 ·cases h;exact⟨_,Tryz.func191,afV⟩
 ·cases h;exact⟨_,Tryz.func192,afW⟩
 ·cases h;exact⟨_,Tryz.func194,afX⟩
 ·cases h;exact⟨_,Tryz.func195,afY⟩
 ·cases h;exact⟨_,Tryz.func196,afZ⟩
 ·cases h;exact⟨_,Tryz.func197,af0⟩
 ·cases h;exact⟨_,Tryz.func198,af1⟩
 ·cases h;exact⟨_,Tryz.func199,af2⟩
 ·cases h;exact⟨_,Tryz.func200,af3⟩
 ·cases h;exact⟨_,Tryz.func201,af4⟩
 ·cases h;exact⟨_,Tryz.func202,af5⟩
 ·cases h;exact⟨_,Tryz.func203,af6⟩
 ·cases h;exact⟨_,Tryz.func204,af7⟩
 ·cases h;exact⟨_,Tryz.func205,af8⟩
 ·cases h;exact⟨_,Tryz.func206,af9⟩
 ·cases h;exact⟨_,Tryz.func207,aga⟩
 ·cases h;exact⟨_,Tryz.func208,agb⟩
 ·cases h;exact⟨_,Tryz.func209,agc⟩
 ·cases h;exact⟨_,Tryz.func210,agd⟩
 ·cases h;exact⟨_,Tryz.func211,age⟩
 ·cases h;exact⟨_,Tryz.func212,agf⟩
 ·cases h;exact⟨_,Tryz.func213,agh⟩
 ·cases h;exact⟨_,Tryz.func214,agi⟩
 ·cases h;exact⟨_,Tryz.func215,agj⟩
 ·cases h;exact⟨_,Tryz.func216,agk⟩
 ·cases h;exact⟨_,Tryz.func217,agl⟩
 ·cases h;exact⟨_,Tryz.func218,agm⟩
 ·cases h;exact⟨_,Tryz.func219,agn⟩
 ·cases h;exact⟨_,Tryz.func220,ago⟩
 ·cases h;exact⟨_,Tryz.func221,agp⟩
 ·cases h;exact⟨_,Tryz.func222,agq⟩
 ·cases h;exact⟨_,Tryz.func223,agr⟩
 ·cases h;exact⟨_,Tryz.func224,ags⟩
 ·cases h;exact⟨_,Tryz.func225,agt⟩
 ·cases h;exact⟨_,Tryz.func226,agu⟩
 ·cases h;exact⟨_,Tryz.func227,agv⟩
 ·cases h;exact⟨_,Tryz.func228,agw⟩
 ·cases h;exact⟨_,Tryz.func231,agx⟩
 ·cases h;exact⟨_,Tryz.func232,agy⟩
 ·cases h;exact⟨_,Tryz.func235,agz⟩
 ·cases h
def F(f:FuncId):Option br :=
 if f≤166 then F0 f else F1 f
theorem agC:∀f vf,F f=some vf→∃fn,Tryz.prog.funcs[f]?=some fn∧bP Tryz.prog bS fn vf=true:=fun f vf h=>by
 unfold F at h;split at h
 ·exact agA f vf h
 exact agB f vf h
end Go.Proofs.YtmpikpodpgnjhaaGreat
