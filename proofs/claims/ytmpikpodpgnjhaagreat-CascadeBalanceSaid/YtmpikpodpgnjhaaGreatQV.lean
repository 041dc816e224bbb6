/- The functions of the program, as the value machine has them, by program. -/
import Derived.Test.YtmpikpodpgnjhaaGreatQ0
import Derived.Test.YtmpikpodpgnjhaaGreatQ1
import Derived.Test.YtmpikpodpgnjhaaGreatQ2
import Derived.Test.YtmpikpodpgnjhaaGreatProg
namespace Go.Proofs.YtmpikpodpgnjhaaGreat
open Go.Vm
set_option maxRecDepth 100000
def bS:List (Nat×Nat):=[(146,2),(229,0),(230,1)]
theorem as5:bP Tryz.prog bS Tryz.f7 abI=true:=by kernel_rfl
theorem adZ:bP Tryz.prog bS Tryz.f12 KA=true:=by kernel_rfl
theorem ad0:bP Tryz.prog bS Tryz.f13 KB=true:=by kernel_rfl
theorem ad1:bP Tryz.prog bS Tryz.f14 KC=true:=by kernel_rfl
theorem ad2:bP Tryz.prog bS Tryz.f15 Re=true:=by kernel_rfl
theorem ad3:bP Tryz.prog bS Tryz.f16 KD=true:=by kernel_rfl
theorem ad4:bP Tryz.prog bS Tryz.f17 Di=true:=by kernel_rfl
theorem ad5:bP Tryz.prog bS Tryz.f19 yI=true:=by kernel_rfl
theorem ad8:bP Tryz.prog bS Tryz.f22 KG=true:=by kernel_rfl
theorem ad9:bP Tryz.prog bS Tryz.f23 Dk=true:=by kernel_rfl
theorem aea:bP Tryz.prog bS Tryz.f26 A5=true:=by kernel_rfl
theorem aeb:bP Tryz.prog bS Tryz.f27 A6=true:=by kernel_rfl
theorem aec:bP Tryz.prog bS Tryz.f28 F6=true:=by kernel_rfl
theorem aed:bP Tryz.prog bS Tryz.f29 yO=true:=by kernel_rfl
theorem as6:bP Tryz.prog bS Tryz.f30 ai2=true:=by kernel_rfl
theorem aee:bP Tryz.prog bS Tryz.f31 Dl=true:=by kernel_rfl
theorem aef:bP Tryz.prog bS Tryz.f32 Dn=true:=by kernel_rfl
theorem as7:bP Tryz.prog bS Tryz.f34 ao7=true:=by kernel_rfl
theorem as8:bP Tryz.prog bS Tryz.f35 abZ=true:=by kernel_rfl
theorem ajT:bP Tryz.prog bS Tryz.f36 UE=true:=by kernel_rfl
theorem as9:bP Tryz.prog bS Tryz.f37 acf=true:=by kernel_rfl
theorem ata:bP Tryz.prog bS Tryz.f38 ao8=true:=by kernel_rfl
theorem atb:bP Tryz.prog bS Tryz.f39 apk=true:=by kernel_rfl
theorem aeg:bP Tryz.prog bS Tryz.f42 tI=true:=by kernel_rfl
theorem atc:bP Tryz.prog bS Tryz.f43 apl=true:=by kernel_rfl
theorem aeh:bP Tryz.prog bS Tryz.f52 KJ=true:=by kernel_rfl
theorem aei:bP Tryz.prog bS Tryz.f53 Ru=true:=by kernel_rfl
theorem aej:bP Tryz.prog bS Tryz.f54 Dz=true:=by kernel_rfl
theorem aek:bP Tryz.prog bS Tryz.f55 A7=true:=by kernel_rfl
theorem ael:bP Tryz.prog bS Tryz.f56 DA=true:=by kernel_rfl
theorem aem:bP Tryz.prog bS Tryz.f57 KK=true:=by kernel_rfl
theorem aen:bP Tryz.prog bS Tryz.f58 F7=true:=by kernel_rfl
theorem aeo:bP Tryz.prog bS Tryz.f59 F8=true:=by kernel_rfl
theorem aep:bP Tryz.prog bS Tryz.f60 F9=true:=by kernel_rfl
theorem aer:bP Tryz.prog bS Tryz.f61 A8=true:=by kernel_rfl
theorem aet:bP Tryz.prog bS Tryz.f63 KP=true:=by kernel_rfl
theorem aeu:bP Tryz.prog bS Tryz.f64 KQ=true:=by kernel_rfl
theorem aev:bP Tryz.prog bS Tryz.f67 DD=true:=by kernel_rfl
theorem aew:bP Tryz.prog bS Tryz.f68 A9=true:=by kernel_rfl
theorem aex:bP Tryz.prog bS Tryz.f69 Ba=true:=by kernel_rfl
theorem aey:bP Tryz.prog bS Tryz.f70 yT=true:=by kernel_rfl
theorem aez:bP Tryz.prog bS Tryz.f71 KR=true:=by kernel_rfl
theorem aeA:bP Tryz.prog bS Tryz.f72 p9=true:=by kernel_rfl
theorem aeB:bP Tryz.prog bS Tryz.f73 yU=true:=by kernel_rfl
theorem aeC:bP Tryz.prog bS Tryz.f74 Gf=true:=by kernel_rfl
theorem aeD:bP Tryz.prog bS Tryz.f75 Gg=true:=by kernel_rfl
theorem aeE:bP Tryz.prog bS Tryz.f76 KT=true:=by kernel_rfl
theorem aeF:bP Tryz.prog bS Tryz.f77 Gi=true:=by kernel_rfl
theorem aeG:bP Tryz.prog bS Tryz.f79 KU=true:=by kernel_rfl
theorem atd:bP Tryz.prog bS Tryz.f80 ai4=true:=by kernel_rfl
theorem ate:bP Tryz.prog bS Tryz.f81 V8=true:=by kernel_rfl
theorem atf:bP Tryz.prog bS Tryz.f82 ai9=true:=by kernel_rfl
theorem atg:bP Tryz.prog bS Tryz.f83 apm=true:=by kernel_rfl
theorem are:bP Tryz.prog bS Tryz.f84 aiw=true:=by kernel_rfl
theorem ath:bP Tryz.prog bS Tryz.f85 apq=true:=by kernel_rfl
theorem aeH:bP Tryz.prog bS Tryz.f86 Bb=true:=by kernel_rfl
theorem aeI:bP Tryz.prog bS Tryz.f87 Bc=true:=by kernel_rfl
theorem aeJ:bP Tryz.prog bS Tryz.f88 KV=true:=by kernel_rfl
theorem aeK:bP Tryz.prog bS Tryz.f89 KW=true:=by kernel_rfl
theorem aeL:bP Tryz.prog bS Tryz.f91 DI=true:=by kernel_rfl
theorem aeM:bP Tryz.prog bS Tryz.f93 KX=true:=by kernel_rfl
theorem aeN:bP Tryz.prog bS Tryz.f94 KY=true:=by kernel_rfl
theorem aeO:bP Tryz.prog bS Tryz.f95 KZ=true:=by kernel_rfl
theorem ati:bP Tryz.prog bS Tryz.f97 apt=true:=by kernel_rfl
theorem atj:bP Tryz.prog bS Tryz.f98 ajl=true:=by kernel_rfl
theorem aeP:bP Tryz.prog bS Tryz.f110 K0=true:=by kernel_rfl
theorem aeQ:bP Tryz.prog bS Tryz.f111 K1=true:=by kernel_rfl
theorem aeR:bP Tryz.prog bS Tryz.f112 DJ=true:=by kernel_rfl
theorem aeS:bP Tryz.prog bS Tryz.f113 vN=true:=by kernel_rfl
theorem aeT:bP Tryz.prog bS Tryz.f114 Be=true:=by kernel_rfl
theorem aeU:bP Tryz.prog bS Tryz.f115 K2=true:=by kernel_rfl
theorem aeV:bP Tryz.prog bS Tryz.f116 DK=true:=by kernel_rfl
theorem aeW:bP Tryz.prog bS Tryz.f117 Gj=true:=by kernel_rfl
theorem aeX:bP Tryz.prog bS Tryz.f118 Bf=true:=by kernel_rfl
theorem aeY:bP Tryz.prog bS Tryz.f119 Gk=true:=by kernel_rfl
theorem aeZ:bP Tryz.prog bS Tryz.f120 yX=true:=by kernel_rfl
theorem ae0:bP Tryz.prog bS Tryz.f121 DM=true:=by kernel_rfl
theorem ae1:bP Tryz.prog bS Tryz.f122 Bg=true:=by kernel_rfl
theorem ae2:bP Tryz.prog bS Tryz.f123 Gl=true:=by kernel_rfl
theorem ae3:bP Tryz.prog bS Tryz.f124 K5=true:=by kernel_rfl
theorem ae4:bP Tryz.prog bS Tryz.f125 K6=true:=by kernel_rfl
theorem ae5:bP Tryz.prog bS Tryz.f126 K7=true:=by kernel_rfl
theorem ae6:bP Tryz.prog bS Tryz.f127 Bh=true:=by kernel_rfl
theorem ae7:bP Tryz.prog bS Tryz.f128 K8=true:=by kernel_rfl
theorem ae8:bP Tryz.prog bS Tryz.f129 Gm=true:=by kernel_rfl
theorem ae9:bP Tryz.prog bS Tryz.f130 Lc=true:=by kernel_rfl
theorem afa:bP Tryz.prog bS Tryz.f131 Gn=true:=by kernel_rfl
theorem afb:bP Tryz.prog bS Tryz.f132 Gp=true:=by kernel_rfl
theorem afc:bP Tryz.prog bS Tryz.f133 Ld=true:=by kernel_rfl
theorem afd:bP Tryz.prog bS Tryz.f134 Gq=true:=by kernel_rfl
theorem afe:bP Tryz.prog bS Tryz.f135 yY=true:=by kernel_rfl
theorem aff:bP Tryz.prog bS Tryz.f136 Gr=true:=by kernel_rfl
theorem afg:bP Tryz.prog bS Tryz.f137 Gu=true:=by kernel_rfl
theorem afh:bP Tryz.prog bS Tryz.f138 DN=true:=by kernel_rfl
theorem afi:bP Tryz.prog bS Tryz.f139 DO=true:=by kernel_rfl
theorem atk:bP Tryz.prog bS Tryz.f141 ajm=true:=by kernel_rfl
theorem atl:bP Tryz.prog bS Tryz.f142 ajn=true:=by kernel_rfl
theorem afj:bP Tryz.prog bS Tryz.f143 DP=true:=by kernel_rfl
theorem afk:bP Tryz.prog bS Tryz.f144 Gy=true:=by kernel_rfl
theorem afl:bP Tryz.prog bS Tryz.f145 Lf=true:=by kernel_rfl
theorem afm:bP Tryz.prog bS Tryz.f147 Lg=true:=by kernel_rfl
theorem afn:bP Tryz.prog bS Tryz.f153 Lh=true:=by kernel_rfl
theorem afo:bP Tryz.prog bS Tryz.f154 Ll=true:=by kernel_rfl
theorem afp:bP Tryz.prog bS Tryz.f155 Ln=true:=by kernel_rfl
theorem afq:bP Tryz.prog bS Tryz.f156 Lp=true:=by kernel_rfl
theorem afr:bP Tryz.prog bS Tryz.f157 Lq=true:=by kernel_rfl
theorem afs:bP Tryz.prog bS Tryz.f158 Lr=true:=by kernel_rfl
theorem aft:bP Tryz.prog bS Tryz.f159 DQ=true:=by kernel_rfl
theorem afu:bP Tryz.prog bS Tryz.f160 Ls=true:=by kernel_rfl
theorem afv:bP Tryz.prog bS Tryz.f161 Lt=true:=by kernel_rfl
theorem afw:bP Tryz.prog bS Tryz.f162 Gz=true:=by kernel_rfl
theorem afx:bP Tryz.prog bS Tryz.f163 GA=true:=by kernel_rfl
theorem afy:bP Tryz.prog bS Tryz.f164 Lu=true:=by kernel_rfl
theorem afz:bP Tryz.prog bS Tryz.f165 aku=true:=by kernel_rfl
theorem afA:bP Tryz.prog bS Tryz.f166 Lw=true:=by kernel_rfl
theorem afB:bP Tryz.prog bS Tryz.f167 Lx=true:=by kernel_rfl
theorem afC:bP Tryz.prog bS Tryz.f168 DR=true:=by kernel_rfl
theorem afD:bP Tryz.prog bS Tryz.f169 Bi=true:=by kernel_rfl
theorem afE:bP Tryz.prog bS Tryz.f170 vO=true:=by kernel_rfl
theorem afF:bP Tryz.prog bS Tryz.f171 GB=true:=by kernel_rfl
theorem afG:bP Tryz.prog bS Tryz.f172 Ly=true:=by kernel_rfl
theorem afH:bP Tryz.prog bS Tryz.f173 Lz=true:=by kernel_rfl
theorem afI:bP Tryz.prog bS Tryz.f174 Bj=true:=by kernel_rfl
theorem afJ:bP Tryz.prog bS Tryz.f175 GC=true:=by kernel_rfl
theorem afK:bP Tryz.prog bS Tryz.f176 qG=true:=by kernel_rfl
theorem afL:bP Tryz.prog bS Tryz.f179 GD=true:=by kernel_rfl
theorem afM:bP Tryz.prog bS Tryz.f180 LC=true:=by kernel_rfl
theorem afN:bP Tryz.prog bS Tryz.f181 Bk=true:=by kernel_rfl
theorem afO:bP Tryz.prog bS Tryz.f182 LD=true:=by kernel_rfl
theorem afP:bP Tryz.prog bS Tryz.f183 GG=true:=by kernel_rfl
theorem afQ:bP Tryz.prog bS Tryz.f184 LF=true:=by kernel_rfl
theorem afR:bP Tryz.prog bS Tryz.f185 LG=true:=by kernel_rfl
theorem afS:bP Tryz.prog bS Tryz.f186 yZ=true:=by kernel_rfl
theorem afT:bP Tryz.prog bS Tryz.f187 GJ=true:=by kernel_rfl
theorem afU:bP Tryz.prog bS Tryz.f188 LH=true:=by kernel_rfl
theorem afV:bP Tryz.prog bS Tryz.f189 LI=true:=by kernel_rfl
theorem afW:bP Tryz.prog bS Tryz.f190 LJ=true:=by kernel_rfl
theorem afX:bP Tryz.prog bS Tryz.f191 LK=true:=by kernel_rfl
theorem afY:bP Tryz.prog bS Tryz.f192 GK=true:=by kernel_rfl
theorem afZ:bP Tryz.prog bS Tryz.f194 GL=true:=by kernel_rfl
theorem af0:bP Tryz.prog bS Tryz.f195 DS=true:=by kernel_rfl
theorem af1:bP Tryz.prog bS Tryz.f196 GM=true:=by kernel_rfl
theorem af2:bP Tryz.prog bS Tryz.f197 LM=true:=by kernel_rfl
theorem af3:bP Tryz.prog bS Tryz.f198 LN=true:=by kernel_rfl
theorem af4:bP Tryz.prog bS Tryz.f199 LO=true:=by kernel_rfl
theorem af5:bP Tryz.prog bS Tryz.f200 LQ=true:=by kernel_rfl
theorem af6:bP Tryz.prog bS Tryz.f201 LR=true:=by kernel_rfl
theorem af7:bP Tryz.prog bS Tryz.f202 Bl=true:=by kernel_rfl
theorem af8:bP Tryz.prog bS Tryz.f203 LS=true:=by kernel_rfl
theorem af9:bP Tryz.prog bS Tryz.f204 DT=true:=by kernel_rfl
theorem aga:bP Tryz.prog bS Tryz.f205 LU=true:=by kernel_rfl
theorem agb:bP Tryz.prog bS Tryz.f206 GO=true:=by kernel_rfl
theorem agc:bP Tryz.prog bS Tryz.f207 GP=true:=by kernel_rfl
theorem agd:bP Tryz.prog bS Tryz.f208 UF=true:=by kernel_rfl
theorem age:bP Tryz.prog bS Tryz.f209 LV=true:=by kernel_rfl
theorem agf:bP Tryz.prog bS Tryz.f210 GQ=true:=by kernel_rfl
theorem agh:bP Tryz.prog bS Tryz.f211 LW=true:=by kernel_rfl
theorem agi:bP Tryz.prog bS Tryz.f212 LX=true:=by kernel_rfl
theorem agj:bP Tryz.prog bS Tryz.f213 GR=true:=by kernel_rfl
theorem agk:bP Tryz.prog bS Tryz.f214 GS=true:=by kernel_rfl
theorem agl:bP Tryz.prog bS Tryz.f215 LY=true:=by kernel_rfl
theorem agm:bP Tryz.prog bS Tryz.f216 LZ=true:=by kernel_rfl
theorem agn:bP Tryz.prog bS Tryz.f217 L0=true:=by kernel_rfl
theorem ago:bP Tryz.prog bS Tryz.f218 Bo=true:=by kernel_rfl
theorem agp:bP Tryz.prog bS Tryz.f219 DU=true:=by kernel_rfl
theorem agq:bP Tryz.prog bS Tryz.f220 xe=true:=by kernel_rfl
theorem agr:bP Tryz.prog bS Tryz.f221 L1=true:=by kernel_rfl
theorem ags:bP Tryz.prog bS Tryz.f222 GU=true:=by kernel_rfl
theorem agt:bP Tryz.prog bS Tryz.f223 L2=true:=by kernel_rfl
theorem agu:bP Tryz.prog bS Tryz.f224 L3=true:=by kernel_rfl
theorem agv:bP Tryz.prog bS Tryz.f225 DV=true:=by kernel_rfl
theorem agw:bP Tryz.prog bS Tryz.f226 L4=true:=by kernel_rfl
theorem agx:bP Tryz.prog bS Tryz.f227 GV=true:=by kernel_rfl
theorem agy:bP Tryz.prog bS Tryz.f228 GW=true:=by kernel_rfl
theorem agz:bP Tryz.prog bS Tryz.f231 GX=true:=by kernel_rfl
theorem agA:bP Tryz.prog bS Tryz.f232 DW=true:=by kernel_rfl
theorem agB:bP Tryz.prog bS Tryz.f235 L5=true:=by kernel_rfl
def F0:FuncId→Option bq
 |7=>some abI
 |12=>some KA
 |13=>some KB
 |14=>some KC
 |15=>some Re
 |16=>some KD
 |17=>some Di
 |19=>some yI
 |22=>some KG
 |23=>some Dk
 |26=>some A5
 |27=>some A6
 |28=>some F6
 |29=>some yO
 |30=>some ai2
 |31=>some Dl
 |32=>some Dn
 |34=>some ao7
 |35=>some abZ
 |36=>some UE
 |37=>some acf
 |38=>some ao8
 |39=>some apk
 |42=>some tI
 |43=>some apl
 |52=>some KJ
 |53=>some Ru
 |54=>some Dz
 |55=>some A7
 |56=>some DA
 |57=>some KK
 |58=>some F7
 |59=>some F8
 |60=>some F9
 |61=>some A8
 |63=>some KP
 |64=>some KQ
 |67=>some DD
 |68=>some A9
 |69=>some Ba
 |70=>some yT
 |71=>some KR
 |72=>some p9
 |73=>some yU
 |74=>some Gf
 |75=>some Gg
 |76=>some KT
 |77=>some Gi
 |79=>some KU
 |80=>some ai4
 |81=>some V8
 |82=>some ai9
 |83=>some apm
 |84=>some aiw
 |85=>some apq
 |86=>some Bb
 |87=>some Bc
 |88=>some KV
 |89=>some KW
 |91=>some DI
 |93=>some KX
 |94=>some KY
 |95=>some KZ
 |97=>some apt
 |98=>some ajl
 |110=>some K0
 |111=>some K1
 |112=>some DJ
 |113=>some vN
 |114=>some Be
 |115=>some K2
 |116=>some DK
 |117=>some Gj
 |118=>some Bf
 |119=>some Gk
 |120=>some yX
 |121=>some DM
 |122=>some Bg
 |123=>some Gl
 |124=>some K5
 |125=>some K6
 |126=>some K7
 |127=>some Bh
 |128=>some K8
 |129=>some Gm
 |130=>some Lc
 |131=>some Gn
 |132=>some Gp
 |133=>some Ld
 |134=>some Gq
 |135=>some yY
 |136=>some Gr
 |137=>some Gu
 |138=>some DN
 |139=>some DO
 |141=>some ajm
 |142=>some ajn
 |143=>some DP
 |144=>some Gy
 |145=>some Lf
 |_=>none
theorem agC:∀f vf,F0 f=some vf→∃fn,Tryz.prog.funcs[f]?=some fn∧bP Tryz.prog bS fn vf=true:=fun f vf h=>by
 unfold F0 at h;split at h
 ·cases h;exact⟨_,Tryz.func7,as5⟩
 ·cases h;exact⟨_,Tryz.func12,adZ⟩
 ·cases h;exact⟨_,Tryz.func13,ad0⟩
 ·cases h;exact⟨_,Tryz.func14,ad1⟩
 ·cases h;exact⟨_,Tryz.func15,ad2⟩
 ·cases h;exact⟨_,Tryz.func16,ad3⟩
 ·cases h;exact⟨_,Tryz.func17,ad4⟩
 ·cases h;exact⟨_,Tryz.func19,ad5⟩
 ·cases h;exact⟨_,Tryz.func22,ad8⟩
 ·cases h;exact⟨_,Tryz.func23,ad9⟩
 ·cases h;exact⟨_,Tryz.func26,aea⟩
 ·cases h;exact⟨_,Tryz.func27,aeb⟩
 ·cases h;exact⟨_,Tryz.func28,aec⟩
 ·cases h;exact⟨_,Tryz.func29,aed⟩
 ·cases h;exact⟨_,Tryz.func30,as6⟩
 ·cases h;exact⟨_,Tryz.func31,aee⟩
 ·cases h;exact⟨_,Tryz.func32,aef⟩
 ·cases h;exact⟨_,Tryz.func34,as7⟩
 ·cases h;exact⟨_,Tryz.func35,as8⟩
 ·cases h;exact⟨_,Tryz.func36,ajT⟩
 ·cases h;exact⟨_,Tryz.func37,as9⟩
 ·cases h;exact⟨_,Tryz.func38,ata⟩
 ·cases h;exact⟨_,Tryz.func39,atb⟩
 ·cases h;exact⟨_,Tryz.func42,aeg⟩
 ·cases h;exact⟨_,Tryz.func43,atc⟩
 ·cases h;exact⟨_,Tryz.func52,aeh⟩
 ·cases h;exact⟨_,Tryz.func53,aei⟩
 ·cases h;exact⟨_,Tryz.func54,aej⟩
 ·cases h;exact⟨_,Tryz.func55,aek⟩
 ·cases h;exact⟨_,Tryz.func56,ael⟩
 ·cases h;exact⟨_,Tryz.func57,aem⟩
 ·cases h;exact⟨_,Tryz.func58,aen⟩
 ·cases h;exact⟨_,Tryz.func59,aeo⟩
 ·cases h;exact⟨_,Tryz.func60,aep⟩
 ·cases h;exact⟨_,Tryz.func61,aer⟩
 ·cases h;exact⟨_,Tryz.func63,aet⟩
 ·cases h;exact⟨_,Tryz.func64,aeu⟩
 ·cases h;exact⟨_,Tryz.func67,aev⟩
 ·cases h;exact⟨_,Tryz.func68,aew⟩
 ·cases h;exact⟨_,Tryz.func69,aex⟩
 ·cases h;exact⟨_,Tryz.func70,aey⟩
 ·cases h;exact⟨_,Tryz.func71,aez⟩
 ·cases h;exact⟨_,Tryz.func72,aeA⟩
 ·cases h;exact⟨_,Tryz.func73,aeB⟩
 ·cases h;exact⟨_,Tryz.func74,aeC⟩
 ·cases h;exact⟨_,Tryz.func75,aeD⟩
 ·cases h;exact⟨_,Tryz.func76,aeE⟩
 ·cases h;exact⟨_,Tryz.func77,aeF⟩
 ·cases h;exact⟨_,Tryz.func79,aeG⟩
 ·cases h;exact⟨_,Tryz.func80,atd⟩
 ·cases h;exact⟨_,Tryz.func81,ate⟩
 ·cases h;exact⟨_,Tryz.func82,atf⟩
 ·cases h;exact⟨_,Tryz.func83,atg⟩
 ·cases h;exact⟨_,Tryz.func84,are⟩
 ·cases h;exact⟨_,Tryz.func85,ath⟩
 ·cases h;exact⟨_,Tryz.func86,aeH⟩
 ·cases h;exact⟨_,Tryz.func87,aeI⟩
 ·cases h;exact⟨_,Tryz.func88,aeJ⟩
 ·cases h;exact⟨_,Tryz.func89,aeK⟩
 ·cases h;exact⟨_,Tryz.func91,aeL⟩
 ·cases h;exact⟨_,Tryz.func93,aeM⟩
 ·cases h;exact⟨_,Tryz.func94,aeN⟩
 ·cases h;exact⟨_,Tryz.func95,aeO⟩
 ·cases h;exact⟨_,Tryz.func97,ati⟩
 ·cases h;exact⟨_,Tryz.func98,atj⟩
 ·cases h;exact⟨_,Tryz.func110,aeP⟩
 ·cases h;exact⟨_,Tryz.func111,aeQ⟩
 ·cases h;exact⟨_,Tryz.func112,aeR⟩
 ·cases h;exact⟨_,Tryz.func113,aeS⟩
 ·cases h;exact⟨_,Tryz.func114,aeT⟩
 ·cases h;exact⟨_,Tryz.func115,aeU⟩
 ·cases h;exact⟨_,Tryz.func116,aeV⟩
 ·cases h;exact⟨_,Tryz.func117,aeW⟩
 ·cases h;exact⟨_,Tryz.func118,aeX⟩
 ·cases h;exact⟨_,Tryz.func119,aeY⟩
 ·cases h;exact⟨_,Tryz.func120,aeZ⟩
 ·cases h;exact⟨_,Tryz.func121,ae0⟩
 ·cases h;exact⟨_,Tryz.func122,ae1⟩
 ·cases h;exact⟨_,Tryz.func123,ae2⟩
 ·cases h;exact⟨_,Tryz.func124,ae3⟩
 ·cases h;exact⟨_,Tryz.func125,ae4⟩
 ·cases h;exact⟨_,Tryz.func126,ae5⟩
 ·cases h;exact⟨_,Tryz.func127,ae6⟩
 ·cases h;exact⟨_,Tryz.func128,ae7⟩
 ·cases h;exact⟨_,Tryz.func129,ae8⟩
 ·cases h;exact⟨_,Tryz.func130,ae9⟩
 ·cases h;exact⟨_,Tryz.func131,afa⟩
 ·cases h;exact⟨_,Tryz.func132,afb⟩
 ·cases h;exact⟨_,Tryz.func133,afc⟩
 ·cases h;exact⟨_,Tryz.func134,afd⟩
 ·cases h;exact⟨_,Tryz.func135,afe⟩
 ·cases h;exact⟨_,Tryz.func136,aff⟩
 ·cases h;exact⟨_,Tryz.func137,afg⟩
 ·cases h;exact⟨_,Tryz.func138,afh⟩
 ·cases h;exact⟨_,Tryz.func139,afi⟩
 ·cases h;exact⟨_,Tryz.func141,atk⟩
 ·cases h;exact⟨_,Tryz.func142,atl⟩
 ·cases h;exact⟨_,Tryz.func143,afj⟩
 ·cases h;exact⟨_,Tryz.func144,afk⟩
 ·cases h;exact⟨_,Tryz.func145,afl⟩
 ·cases h
def F1:FuncId→Option bq
 |147=>some Lg
 |153=>some Lh
 |154=>some Ll
 |155=>some Ln
 |156=>some Lp
 |157=>some Lq
 |158=>some Lr
 |159=>some DQ
 |160=>some Ls
 |161=>some Lt
 |162=>some Gz
 |163=>some GA
 |164=>some Lu
 |165=>some aku
 |166=>some Lw
 |167=>some Lx
 |168=>some DR
 |169=>some Bi
 |170=>some vO
 |171=>some GB
 |172=>some Ly
 |173=>some Lz
 |174=>some Bj
 |175=>some GC
 |176=>some qG
 |179=>some GD
 |180=>some LC
 |181=>some Bk
 |182=>some LD
 |183=>some GG
 |184=>some LF
 |185=>some LG
 |186=>some yZ
 |187=>some GJ
 |188=>some LH
 |189=>some LI
 |190=>some LJ
 |191=>some LK
 |192=>some GK
 |194=>some GL
 |195=>some DS
 |196=>some GM
 |197=>some LM
 |198=>some LN
 |199=>some LO
 |200=>some LQ
 |201=>some LR
 |202=>some Bl
 |203=>some LS
 |204=>some DT
 |205=>some LU
 |206=>some GO
 |207=>some GP
 |208=>some UF
 |209=>some LV
 |210=>some GQ
 |211=>some LW
 |212=>some LX
 |213=>some GR
 |214=>some GS
 |215=>some LY
 |216=>some LZ
 |217=>some L0
 |218=>some Bo
 |219=>some DU
 |220=>some xe
 |221=>some L1
 |222=>some GU
 |223=>some L2
 |224=>some L3
 |225=>some DV
 |226=>some L4
 |227=>some GV
 |228=>some GW
 |231=>some GX
 |232=>some DW
 |235=>some L5
 |_=>none
theorem agD:∀f vf,F1 f=some vf→∃fn,Tryz.prog.funcs[f]?=some fn∧bP Tryz.prog bS fn vf=true:=fun f vf h=>by
 unfold F1 at h;split at h
 ·cases h;exact⟨_,Tryz.func147,afm⟩
 ·cases h;exact⟨_,Tryz.func153,afn⟩
 ·cases h;exact⟨_,Tryz.func154,afo⟩
 ·cases h;exact⟨_,Tryz.func155,afp⟩
 ·cases h;exact⟨_,Tryz.func156,afq⟩
 ·cases h;exact⟨_,Tryz.func157,afr⟩
 ·cases h;exact⟨_,Tryz.func158,afs⟩
 ·cases h;exact⟨_,Tryz.func159,aft⟩
 ·cases h;exact⟨_,Tryz.func160,afu⟩
 ·cases h;exact⟨_,Tryz.func161,afv⟩
 ·cases h;exact⟨_,Tryz.func162,afw⟩
 ·cases h;exact⟨_,Tryz.func163,afx⟩
 ·cases h;exact⟨_,Tryz.func164,afy⟩
 ·cases h;exact⟨_,Tryz.func165,afz⟩
 ·cases h;exact⟨_,Tryz.func166,afA⟩
 ·cases h;exact⟨_,Tryz.func167,afB⟩
 ·cases h;exact⟨_,Tryz.func168,afC⟩
 ·cases h;exact⟨_,Tryz.func169,afD⟩
 ·cases h;exact⟨_,Tryz.func170,afE⟩
 ·cases h;exact⟨_,Tryz.func171,afF⟩
 ·cases h;exact⟨_,Tryz.func172,afG⟩
 ·cases h;exact⟨_,Tryz.func173,afH⟩
 ·cases h;exact⟨_,Tryz.func174,afI⟩
 ·cases h;exact⟨_,Tryz.func175,afJ⟩
 ·cases h;exact⟨_,Tryz.func176,afK⟩
 ·cases h;exact⟨_,Tryz.func179,afL⟩
 ·cases h;exact⟨_,Tryz.func180,afM⟩
 ·cases h;exact⟨_,Tryz.func181,afN⟩
 ·cases h;exact⟨_,Tryz.func182,afO⟩
 ·cases h;exact⟨_,Tryz.func183,afP⟩
 ·cases h;exact⟨_,Tryz.func184,afQ⟩
 ·cases h;exact⟨_,Tryz.func185,afR⟩
 ·cases h;exact⟨_,Tryz.func186,afS⟩
 ·cases h;exact⟨_,Tryz.func187,afT⟩
 ·cases h;exact⟨_,Tryz.func188,afU⟩
 ·cases h;exact⟨_,Tryz.func189,afV⟩
 ·cases h;exact⟨_,Tryz.func190,afW⟩
 ·cases h;exact⟨_,Tryz.func191,afX⟩
 ·cases h;exact⟨_,Tryz.func192,afY⟩
 ·cases h;exact⟨_,Tryz.func194,afZ⟩
 ·cases h;exact⟨_,Tryz.func195,af0⟩
 ·cases h;exact⟨_,Tryz.func196,af1⟩
 ·cases h;exact⟨_,Tryz.func197,af2⟩
 ·cases h;exact⟨_,Tryz.func198,af3⟩
 ·cases h;exact⟨_,Tryz.func199,af4⟩
 ·cases h;exact⟨_,Tryz.func200,af5⟩
 ·cases h;exact⟨_,Tryz.func201,af6⟩
 ·cases h;exact⟨_,Tryz.func202,af7⟩
 ·cases h;exact⟨_,Tryz.func203,af8⟩
 ·cases h;exact⟨_,Tryz.func204,af9⟩
 ·cases h;exact⟨_,Tryz.func205,aga⟩
 ·cases h;exact⟨_,Tryz.func206,agb⟩
 ·cases h;exact⟨_,Tryz.func207,agc⟩
 ·cases h;exact⟨_,Tryz.func208,agd⟩
 ·cases h;exact⟨_,Tryz.func209,age⟩
 ·cases h;exact⟨_,Tryz.func210,agf⟩
 ·cases h;exact⟨_,Tryz.func211,agh⟩
 ·cases h;exact⟨_,Tryz.func212,agi⟩
 ·cases h;exact⟨_,Tryz.func213,agj⟩
 ·cases h;exact⟨_,Tryz.func214,agk⟩
 ·cases h;exact⟨_,Tryz.func215,agl⟩
 ·cases h;exact⟨_,Tryz.func216,agm⟩
 ·cases h;exact⟨_,Tryz.func217,agn⟩
 ·cases h;exact⟨_,Tryz.func218,ago⟩
 ·cases h;exact⟨_,Tryz.func219,agp⟩
 ·cases h;exact⟨_,Tryz.func220,agq⟩
 ·cases h;exact⟨_,Tryz.func221,agr⟩
 ·cases h;exact⟨_,Tryz.func222,ags⟩
 ·cases h;exact⟨_,Tryz.func223,agt⟩
 ·cases h;exact⟨_,Tryz.func224,agu⟩
 ·cases h;exact⟨_,Tryz.func225,agv⟩
 ·cases h;exact⟨_,Tryz.func226,agw⟩
 ·cases h;exact⟨_,Tryz.func227,agx⟩
 ·cases h;exact⟨_,Tryz.func228,agy⟩
 ·cases h;exact⟨_,Tryz.func231,agz⟩
 ·cases h;exact⟨_,Tryz.func232,agA⟩
 ·cases h;exact⟨_,Tryz.func235,agB⟩
 ·cases h
def F(f:FuncId):Option bq :=
 if f≤145 then F0 f else F1 f
theorem agE:∀f vf,F f=some vf→∃fn,Tryz.prog.funcs[f]?=some fn∧bP Tryz.prog bS fn vf=true:=fun f vf h=>by
 unfold F at h;split at h
 ·exact agC f vf h
 exact agD f vf h
end Go.Proofs.YtmpikpodpgnjhaaGreat
