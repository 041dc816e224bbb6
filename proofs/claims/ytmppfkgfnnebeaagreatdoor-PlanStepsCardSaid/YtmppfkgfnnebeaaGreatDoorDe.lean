/- Parts of the proof. -/
import Derived.Test.YtmppfkgfnnebeaaGreatDoorDd
namespace Go.Proofs.YtmppfkgfnnebeaaGreatDoor
set_option linter.all false
open Go.Vm Go.Chs
abbrev aG(l:List Cd)(day level:Int)(O:List Nat):List aS:=[.cells [g5 l],.cells [i64 day],.cells [i64 level],.cells [g5 l],.cells (nc O)]
abbrev AE:V:=.fn 190 [.bm 0 0,.bm 1 0,.bm 2 0]
def ph(l:List Cd)(day level:Int)(x:Nat):Bool:=I7 (nth l x) day level
theorem afh{l:List Cd}{x:Nat}(hx:x<l.length)(day level:Int)(D E:aS) :
  aZ F 190 [i64 (x:Int),.bm 0 0,.bm 1 0,.bm 2 0] [.cells [g5 l],.cells [i64 day],.cells [i64 level],D,E]=some (.bool (!ph l day level x),[.cells [g5 l],.cells [i64 day],.cells [i64 level],D,E]) :=
 bM rfl rfl (by simp (disch:=omega) [-getElem?_pos,wrap64,ach,bf (l:=l),aq8,ph])
theorem atp{l:List Cd}{day level:Int}{O:List Nat}{n r:Nat}(hn:O.length=n)(afi:n≤200)(hO:∀x∈O,x<l.length)(hr:r≤n)
  (h1:∀k v,k<r→O[k]?=some v→ph l day level v=true) (h2:∀v,O[r]?=some v→ph l day level v=false) :
  aZ F 1000108 [.c5 4 1 n,AE] (aG l day level O)=some (i64 (if r=n then -1 else r),aG l day level O) :=
 bM rfl rfl (by
  simp (disch:=omega) [wrap64,adr];refine go_loop (fun i:Nat=>aqD (.c5 4 1 n) AE n i (aG l day level O)) (fun i=>i≤r) (fun i=>r-i) 0 rfl (by simp) (by omega) ?_
  rintro i hi;simp (disch:=omega) [wrap64,adq];refine bT (fun h=>?_) (fun h=>?_)
  ·have h:i<n:=by omega
   have hv:=fN (l:=O) (i:=i) (by omega)
   have hc:=afh (hO O[i] (GS _)) day level (.cells [g5 l]) (.cells (nc O));have c1:=Ji hv;by_cases e:i=r
   ·subst e
    rw[h2 _ hv]at hc;have e2:¬ i=n:=by omega
    simp (disch:=omega) [wrap64,AE,aG,c1,hc,e2,h]
   ·rw[h1 i _ (by omega) hv]at hc
    simp (disch:=omega) [wrap64,AE,aG,c1,hc,h];exact bP (i+1) (by simp) (by omega) (by omega)
  ·obtain rfl:r=n:=by omega
   simp)
def uO(l:List Cd)(day level:Int)(O:List Nat):List Nat:=O.filter (ph l day level)++List.replicate (O.length-(O.filter (ph l day level)).length) 0
theorem afj{L:List Nat}{i m:Nat}(h:i+m=L.length):iF (nc L) i (List.replicate m (i64 0))=nc (L.take i++List.replicate m 0):=by
 rw[Qv _ _ _ (by simp[h]),VL (by simp[h])]
 simp[nc,dD,GX]
theorem atq{l:List Cd}{day level:Int}{O:List Nat}{n:Nat}(hn:O.length=n)(afi:n≤200)(hO:∀x∈O,x<l.length) :
  aZ F 188 [.c5 4 1 n,AE] (aG l day level O)=some (.c5 4 1 (O.filter (ph l day level)).length,aG l day level (uO l day level O)) :=
 bM rfl rfl (by
  obtain⟨r,hr⟩:∃r,r=O.findIdx (fun v => !ph l day level v):=⟨_,rfl⟩;have hrn:r≤n:=by rw[hr,← hn];exact OA
  have h1:∀k v,k<r→O[k]?=some v→ph l day level v=true:=fun k v hk hv=>by
   have:=V0 (hr ▸ hk);obtain⟨g,rfl⟩:=wE.1 hv;simpa using this
  have h2:∀v,O[r]?=some v→ph l day level v=false:=fun v hv=>by
   obtain⟨g,e⟩:=wE.1 hv;have:=VR (p:=fun v => !ph l day level v) (xs:=O) (w:=hr ▸ g);subst hr;rw[e]at this;simpa using this
  have w1:=atp hn afi hO hrn h1 h2;by_cases hf:r=n
  ·rw[aM hf]at w1
   have e:O.filter (ph l day level)=O:=Ec.2 fun v hv=>by
    obtain⟨k,hk⟩:=nH.1 hv;have:=(wE.1 hk).1;exact h1 k v (by omega) hk
   have e2:uO l day level O=O:=by simp[uO,e]
   rw[e,e2,hn];simp (disch:=omega) [-Int.natCast_eq_zero,wrap64,Sf,w1]
  rw[ay hf]at w1;have cf:((r:Int) == -1)=false:=by simp
  simp (disch:=omega) [-Int.natCast_eq_zero,wrap64,Sf,w1,cf];refine go_loop (fun p:Nat×List Nat×Nat=>apj (.c5 4 1 n) AE p.1 p.2.2 (aG l day level p.2.1)) (fun p=>p.2.2≤n∧p.1<p.2.2∧BR (ph l day level) O p.2.1 p.1 p.2.2) (fun p=>n-p.2.2) (r,O,r+1) rfl (by simp) ⟨by simp;omega,by simp,arH (by omega) h1 h2⟩ ?_
  rintro⟨i,L,j⟩ ⟨hj,bE,hd⟩;simp only at hj bE hd;simp (disch:=omega) [-Int.natCast_eq_zero,wrap64,ace];refine bT (fun h=>?_) (fun h=>?_)
  ·have h:j<n:=by omega
   have hv:=fN (l:=O) (i:=j) (by omega)
   have hc:=afh (hO O[j] (GS _)) day level (.cells [g5 l]) (.cells (nc L));have c1:=Ji ((arG hd).trans hv);have MJ:=hd.le;have hi:i<n:=by omega
   have hL:=hd.len;have FI:i+1≤L.length:=by omega
   cases e:ph l day level O[j]<;>rw[e]at hc
   ·simp (disch:=omega) [-Int.natCast_eq_zero,wrap64,AE,aG,c1,hc,h,hi]
    exact bP (i,L,j+1) (by simp) ⟨by simp;omega,by simp;omega,arF hd hv e⟩ (by simp;omega)
   ·simp (disch:=omega) [-Int.natCast_eq_zero,wrap64,AE,aG,c1,hc,h,hi,ad8,FI]
    exact bP (i+1,L.set i O[j],j+1) (by simp) ⟨by simp;omega,by simp;omega,arE hd hv e⟩ (by simp;omega)
  ·obtain rfl:j=n:=by omega
   subst hn;have hL:=hd.len;have FI:i+(O.length-i)=L.length:=by omega
   have hL2:O.length≤L.length:=by omega
   have ht:=arI hd;have he:uO l day level O=L.take i++List.replicate (O.length-i) 0:=by
    rw[uO,← ht,AW,wI (by omega)]
   have hlen:(O.filter (ph l day level)).length=i:=by rw[←ht,AW,wI (by omega)]
   rw[he,hlen];by_cases h0:i=0
   ·subst h0
    have hc:=afj (L:=L) (i:=0) (m:=O.length) (by omega)
    simp (disch:=omega) [-Int.natCast_eq_zero,wrap64,aG,bE,hc,hL2]
   ·have hc:=afj FI
    have JI:¬ (i:Int)=0:=by omega
    have h3:i≤O.length:=by omega
    have h4:0<O.length-i:=by omega
    simp (disch:=omega) [-Int.natCast_eq_zero,wrap64,aG,JI,h3,h4,bE,hc,FI])
def lg(l:List Cd)(day level:Int):List Nat:=FM (iW l) (ph l day level) l.length
theorem afk{l:List Cd}{day level:Int}{x:Nat}(h:x∈lg l day level):x<l.length:=ad2 h
theorem afl{l:List Cd}(mT:l.length≤19)(day level:Int)(TZ:AD l day level []=0) :
  aZ F 155 [g5 l,i64 day,i64 level] []=some (.tuple [.c5 4 1 (lg l day level).length,i64 0],aG l day level (uO l day level (kK (iW l) (List.range l.length)))) :=
 bM rfl rfl (by
  have w1:∀G,aZ F 154 [g5 l,i64 day,i64 level,.slice none 1 []] G=some (i64 0,G):=TZ ▸ TY l day level [] (by simp)
  have w2:=ato mT (.cells [g5 l]) (.cells [i64 day]) (.cells [i64 level]);have w3:=atq (l:=l) (day:=day) (level:=level) (O:=kK (iW l) (List.range l.length)) (n:=l.length) (by rw[Jg]) (by omega) fun x hx=>((FL _).2 x).1 hx
  unfold lg FM;simp[wrap64,abL,w1,w2,aG,AE,w3])
theorem att{l:List Cd}{day level:Int}{k x:Nat}(h:(lg l day level)[k]?=some x):(nc (uO l day level (kK (iW l) (List.range l.length))))[k]?=some (i64 (x:Int)) :=
 Ji (by
  unfold lg FM at h;rw[uO,nG (wE.1 h).1];exact h)
end Go.Proofs.YtmppfkgfnnebeaaGreatDoor
namespace Go.Proofs.YtmppfkgfnnebeaaGreatDoor
set_option linter.all false
open Go.Vm Go.Chs
theorem JJ{c:Cd}(h:rA c=0):(1≤c.rk∧c.rk≤9)∧(1≤c.kd∧c.kd≤4)∧(0≤c.v∧c.v≤1073741824):=by
 unfold rA at h;split at h
 ·cases h
 split at h
 ·cases h
 split at h
 ·rename_i g
  simp only[bS]at g;exact⟨by omega,by omega,Dz.1 g.1.1.1.1⟩
 ·cases h
theorem afm{c:Cd}{before:Int}(h:rA c=0)(hb:0≤before∧before≤1073741824):0≤(pZ c before).1∧(pZ c before).1≤(pZ c before).2∧(pZ c before).2≤1073741824:=by
 obtain⟨_,_,h⟩:=JJ h;unfold pZ;split
 ·simp only;omega
 split
 ·simp only;omega
 split<;>(simp only;omega)
theorem T3{l:List Cd}{day level:Int}{x:Nat}(h:ph l day level x=true):rA (nth l x)=0:=by
 simp only[ph,I7,bS,iD]at h;exact h.1.1.1
theorem atu{c:Cd}(hc:rA c=0){before:Int}(hb:0≤before∧before≤1073741824)(G:List aS) :
  aZ F 164 [.agg c.row,i64 before] G=some (.tuple [.agg [i64 (pZ c before).1,i64 (pZ c before).2],.bool true],G) :=
 bM rfl rfl (by
  have w0:=fun G=>hc ▸ SP c G;have w1:∀G,aZ F 169 [i64 before,i64 1073741824] G=some (.bool true,G):=fun G=>(show gZ before 1073741824=true from Dz.2 hb) ▸ DA before 1073741824 G;have w2:=adG c before (JJ hc).2.1 (JJ hc).2.2 hb;simp +contextual (disch:=omega) [-getElem?_pos,-List.length_eq_zero_iff,-Int.natCast_eq_zero,wrap64,abT,w0,w1,w2])
theorem atv(w lo hi:Int)(h:lo≤hi)(G:List aS):aZ F 165 [i64 w,.agg [i64 lo,i64 hi]] G=some (i64 (BQ w lo hi),G) :=
 bM rfl rfl (by
  have:max (min w hi) lo=BQ w lo hi:=by unfold BQ;split<;>(try split)<;>omega
  simp +contextual (disch:=omega) [-getElem?_pos,-List.length_eq_zero_iff,-Int.natCast_eq_zero,wrap64,abU,this])
def qd(l:List Cd)(before:Int)(i:Nat):Int×Int:=pZ (nth l i) before
def oM(ys:List (Nat×Int)):List (List V):=ys.map fun p=>[i64 (p.1:Int),i64 p.2]
@[simp] theorem aCt{ys:List (Nat×Int)}:(oM ys).length=ys.length:=by simp[oM]
theorem T4{ys:List (Nat×Int)}{i:Nat}{y:Int}:oM ys++[[i64 (i:Int),i64 y]]=oM (ys++[(i,y)]):=by simp[oM]
theorem atw{b:Nat→Int×Int}{P:List Nat}{i:Nat}{c:Chs.Ch}:nq b (P++[i]) c=sO b (nq b P c) i:=by simp[nq]
theorem afn{b b':Nat→Int×Int}:∀{A:List Nat} {c:Chs.Ch},(∀j,j∈A→b j=b' j)→nq b A c=nq b' A c
 |[],_,_=>rfl
 |j::A,c,h=>by
  have h1:sO b c j=sO b' c j:=by unfold sO;rw[h j (by simp)]
  show nq b A (sO b c j)=nq b' A (sO b' c j);rw[h1];exact afn fun k hk=>h k (by simp[hk])
def AF(b:Nat→Int×Int)(A:List Nat)(i:Nat):Int×Int:=if i∈A then b i else (0,0)
theorem atx{b:Nat→Int×Int}{A:List Nat}(h:∀j,j∈A→(b j).1≤(b j).2)(i:Nat):(AF b A i).1≤(AF b A i).2:=by
 unfold AF;split
 ·exact h i (by assumption)
 ·exact uc _
theorem aty{b:Nat→Int×Int}{A:List Nat}{c:Chs.Ch}:nq (AF b A) A c=nq b A c:=afn fun j hj=>by simp[AF,hj]
theorem afo{b:Nat→Int×Int}{A:List Nat}(h:∀j,j∈A→(b j).1≤(b j).2){lo hi:Int}(hl:lo≤hi):Inv (AF b A) lo hi A (nq b A (sQ lo hi)):=aty ▸ arp (atx h) hl A
noncomputable def Nq(l:List Cd)(day level before lo hi:Int):Chs.Ch:=nq (qd l before) (lg l day level) (sQ lo hi)
abbrev atz(c:Chs.Ch)(w:Int):V:=.agg [i64 (mA c w),i64 c.lo,i64 c.hi,.slice (some 0) 2 (oM c.ys)]
theorem afp{l:List Cd}(mT:l.length≤19){day level:Int}:(lg l day level).length≤19∧∀i,i<(lg l day level).length→(rA (nth l (nth (lg l day level) i))=0∧nth (lg l day level) i<l.length)∧(nc (uO l day level (kK (iW l) (List.range l.length))))[i]?=some (i64 ((nth (lg l day level) i:Nat):Int)):=by
 have:(lg l day level).length≤(kK (iW l) (List.range l.length)).length:=u5 _ _;rw[Jg]at this;refine⟨by omega,fun i hi=>?_⟩
 have hm:nth (lg l day level) i∈lg l day level:=by simp[nth,List.getD,hi]
 exact⟨⟨T3 (r9.1 hm).2,afk hm⟩,att (bf hi)⟩
set_option maxHeartbeats 1000000 in
theorem atA{l:List Cd}(mT:l.length≤19){day level before lo hi w:Int}(TZ:AD l day level []=0)(hb:0≤before∧before≤1073741824)(JK:lo≤hi) :
  ∃G',aZ F 125 [g5 l,i64 day,i64 level,i64 before,.agg [i64 lo,i64 hi],i64 w] []=some (atz (Nq l day level before lo hi) w,G'):=by
 refine⟨_,bM (G':=aG l day level (uO l day level (kK (iW l) (List.range l.length)))) rfl rfl ?_⟩;have w0:=afl mT day level TZ;obtain⟨hAl,T5⟩:=afp mT (day:=day) (level:=level);have atC:∀j,j∈lg l day level→rA (nth l j)=0:=fun j hj=>T3 (r9.1 hj).2;rw[Nq];generalize lg l day level=A at *;generalize uO l day level (kK (iW l) (List.range l.length))=B at *;have hinv:∀i,Inv (AF (qd l before) (A.take i)) lo hi (A.take i) (nq (qd l before) (A.take i) (sQ lo hi)):=fun i=>afo (fun j hj=>(afm (atC j (Cp hj)) hb).2.1) JK
 have M9:∀i,i<A.length→nq (qd l before) (A.take (i+1)) (sQ lo hi)=sO (qd l before) (nq (qd l before) (A.take i) (sQ lo hi)) (nth A i):=fun i hi=>by
  rw[xX,show A[i]?=some (nth A i) by simp[nth,List.getD,hi]]
  exact atw
 simp +contextual (disch:=omega) [-getElem?_pos,-List.length_eq_zero_iff,-Int.natCast_eq_zero,wrap64,aba,w0];refine go_loop (fun p:Nat×Chs.Ch=>aoa (g5 l) before w (.slice (some 1066) 2 (oM p.2.ys)) p.2.up (.c5 4 1 A.length) A.length p.1 [z0,z0,z0,.cb] [i64 p.2.lo,i64 p.2.lb] [i64 p.2.hi,i64 p.2.hb] p.2.ys.length (aG l day level B)) (fun p=>p.1≤A.length∧p.2=nq (qd l before) (A.take p.1) (sQ lo hi)∧p.2.ys.length≤p.1) (fun p=>A.length-p.1) (0,sQ lo hi) rfl (by simp[sQ,oM]) ⟨by simp,rfl,by simp[sQ]⟩ ?_
 rintro⟨i,C⟩ ⟨hi,hCi,MT⟩;simp only at hi hCi MT;have hv:=hinv i;rw[←hCi]at hv;have ez:=M9 i;rw[←hCi]at ez;have afq:=hv.m;obtain⟨uP,jy,lb,rj,ys,up⟩:=C;simp only at afq MT;simp +contextual (disch:=omega) [-getElem?_pos,-List.length_eq_zero_iff,-Int.natCast_eq_zero,wrap64,aa9];refine bT (fun h=>?_) (fun h=>?_)
 ·have h:i<A.length:=by omega
  have ez:=ez h;obtain⟨⟨T6,Ey⟩,c1⟩:=T5 i h;have w1:=atu T6 hb;generalize nth A i=x at *;obtain⟨b1,b2,HK⟩:∃b1 b2,qd l before x=(b1,b2):=⟨_,_,rfl⟩;have atD:pZ (nth l x) before=(b1,b2):=HK;rw[atD]at w1;simp only at w1;have T7:ys.length≤8796093022207:=by omega
  unfold sO at ez;rw[HK]at ez;simp only at ez;by_cases g1:b2<uP
  ·rw[aM g1]at ez
   simp +contextual (disch:=omega) [-getElem?_pos,-List.length_eq_zero_iff,-Int.natCast_eq_zero,wrap64,h,c1,bf (l:=l),w1,T7,T4,g1];exact bP (i+1,⟨uP,jy,lb,rj,ys++[(x,lb)],up⟩) (by simp) ⟨by simp;omega,ez.symm,by simp;omega⟩ (by simp;omega)
  rw[ay g1]at ez;by_cases g2:jy<b1
  ·rw[aM g2]at ez
   cases up with
   |true =>
    simp +contextual (disch:=omega) [-getElem?_pos,-List.length_eq_zero_iff,-Int.natCast_eq_zero,wrap64,h,c1,bf (l:=l),w1,T7,T4,g1,g2];exact bP (i+1,⟨uP,jy,lb,rj,ys++[(x,rj)],true⟩) (by simp) ⟨by simp;omega,ez.symm,by simp;omega⟩ (by simp;omega)
   |false =>
    simp +contextual (disch:=omega) [-getElem?_pos,-List.length_eq_zero_iff,-Int.natCast_eq_zero,wrap64,h,c1,bf (l:=l),w1,T7,T4,g1,g2];exact bP (i+1,⟨uP,jy,lb,rj,ys++[(x,rj)],false || ys.isEmpty⟩) (by
     simp only[Oh];rw[show((ys.length:Int)==0)=ys.isEmpty by cases ys<;>simp;omega]
     simp) ⟨by simp;omega,ez.symm,by simp;omega⟩ (by simp;omega)
  rw[ay g2]at ez;by_cases e1:max b1 uP=uP
  ·rw[aM e1]at ez
   by_cases e2:min b2 jy=jy
   ·rw[aM e2]at ez
    simp +contextual (disch:=omega) [-getElem?_pos,-List.length_eq_zero_iff,-Int.natCast_eq_zero,wrap64,h,c1,bf (l:=l),w1,g1,g2,e1,e2,V.iE,eC,jW];exact bP (i+1,⟨max b1 uP,min b2 jy,lb,rj,ys,up⟩) (by simp[e1,e2]) ⟨by simp;omega,ez.symm,by simp;omega⟩ (by simp;omega)
   ·rw[ay e2]at ez
    have T8:(min b2 jy==jy)=false:=A0.2 e2;simp +contextual (disch:=omega) [-getElem?_pos,-List.length_eq_zero_iff,-Int.natCast_eq_zero,wrap64,h,c1,bf (l:=l),w1,g1,g2,e1,T8,V.iE,eC,jW];exact bP (i+1,⟨max b1 uP,min b2 jy,lb,x,ys,up⟩) (by simp[e1,e2]) ⟨by simp;omega,ez.symm,by simp;omega⟩ (by simp;omega)
  ·rw[ay e1]at ez
   have Ez:(max b1 uP==uP)=false:=A0.2 e1;by_cases e2:min b2 jy=jy
   ·rw[aM e2]at ez
    simp +contextual (disch:=omega) [-getElem?_pos,-List.length_eq_zero_iff,-Int.natCast_eq_zero,wrap64,h,c1,bf (l:=l),w1,g1,g2,Ez,e2,V.iE,eC,jW];exact bP (i+1,⟨max b1 uP,min b2 jy,x,rj,ys,up⟩) (by simp[e1,e2]) ⟨by simp;omega,ez.symm,by simp;omega⟩ (by simp;omega)
   ·rw[ay e2]at ez
    have T8:(min b2 jy==jy)=false:=A0.2 e2;simp +contextual (disch:=omega) [-getElem?_pos,-List.length_eq_zero_iff,-Int.natCast_eq_zero,wrap64,h,c1,bf (l:=l),w1,g1,g2,Ez,T8,V.iE,eC,jW];exact bP (i+1,⟨max b1 uP,min b2 jy,x,x,ys,up⟩) (by simp[e1,e2]) ⟨by simp;omega,ez.symm,by simp;omega⟩ (by simp;omega)
 ·obtain rfl:i=A.length:=by omega
  rw[na]at hCi;rw[←hCi];have w2:=atv w uP jy afq;cases ys with
  |nil=>simp +contextual (disch:=omega) [-getElem?_pos,-List.length_eq_zero_iff,-Int.natCast_eq_zero,wrap64,w2,mA]
  |cons y ys =>
   have cf:(((ys.length:Int)+1)==0)=false:=by simp;omega
   cases up<;>simp[mA,cf]
end Go.Proofs.YtmppfkgfnnebeaaGreatDoor
namespace Go.Proofs.YtmppfkgfnnebeaaGreatDoor
set_option linter.all false
open Go.Vm
end Go.Proofs.YtmppfkgfnnebeaaGreatDoor
namespace Go.Proofs.YtmppfkgfnnebeaaGreatDoor
set_option linter.all false
open Go.Vm
theorem JL{c:List Pt}(h:Cv c):∀{i j:Nat},i≤j→j<c.length→(nth c i).x≤(nth c j).x:=by
 intro i j;induction j with
 |zero=>intro h1 _;obtain rfl:i=0:=by omega
        omega
 |succ j ih =>
  intro h1 h2;rcases cF i (j+1) with h3|h3
  ·have:=ih (by omega) (by omega)
   have:=h.up (j+1) (by omega) h2
   simp only[sa]at this;omega
  ·obtain rfl:i=j+1:=by omega
   omega
theorem afr{c:List Pt}(h:Cv c){y:Int}{i:Nat}(hi:i+1<c.length)(h1:(nth c i).y≤y)(h2:y<(nth c (i+1)).y):(nth c i).x≤DG c y i∧DG c y i≤(nth c (i+1)).x:=by
 have u1:=h.up (i+1) (by omega) hi
 simp only[sa]at u1;have a1:(y-(nth c i).y+1)*((nth c (i+1)).x-(nth c i).x)≤((nth c (i+1)).y-(nth c i).y)*((nth c (i+1)).x-(nth c i).x):=Cg (by omega) (by omega)
 have a2:0<(y-(nth c i).y+1)*((nth c (i+1)).x-(nth c i).x):=Ot (by omega) (by omega)
 unfold DG;rw[xT (by omega)]
 have b1:0≤((y-(nth c i).y+1)*((nth c (i+1)).x-(nth c i).x)-1) / ((nth c (i+1)).y-(nth c i).y):=GI (by omega) (by omega)
 have b2:((y-(nth c i).y+1)*((nth c (i+1)).x-(nth c i).x)-1) / ((nth c (i+1)).y-(nth c i).y)≤(nth c (i+1)).x-(nth c i).x:=by
  refine AU (Int.ediv_le_ediv (by omega) (show _≤((nth c (i+1)).x-(nth c i).x)*((nth c (i+1)).y-(nth c i).y) by rw[Kc ((nth c (i+1)).x-(nth c i).x)];omega)) ?_
  rw[Int.mul_ediv_cancel _ (by omega)]
  exact uc _
 omega
theorem T9{c:List Pt}(h:Cv c){y:Int}:∀(m i:Nat),i+m=c.length-1→(nth c i).y≤y→(nth c 0).x≤sR c y m i∧sR c y m i≤(nth c (c.length-1)).x
 |0,i,hi,_=>by
  have hp:=h.pos;have:=JL h (i:=0) (j:=c.length-1) (by omega) (by omega)
  unfold sR;omega
 |m+1,i,hi,hy=>by
  have hp:=h.pos;unfold sR;split
  ·rename_i h2
   have h3:=afr h (i:=i) (by omega) hy h2
   have:=JL h (i:=0) (j:=i) (by omega) (by omega)
   have:=JL h (i:=i+1) (j:=c.length-1) (by omega) (by omega)
   omega
  ·exact T9 h m (i+1) (by omega) (by omega)
theorem afs{r:Rs}(h:iy r=0)(v:Int):0≤j7 r v∧j7 r v≤16777216:=by
 have hs:=Ng h;have hc:=mQ hs.c;have hp:=hc.pos;have:=hs.top;have h0:=hc.x0 0 hp;have h1:=JL hc (i:=0) (j:=r.c.length-1) (by omega) (by omega)
 unfold j7;split
 ·omega
 ·have:=T9 hc (y:=v) (r.c.length-1) 0 (by omega) (by omega)
  unfold yO;omega
theorem atE{d:Dm}{s:Ds}(h:Dv d)(hf:ik d s):aE d.g s.g (j7 d.r s.v)=0:=by
 have hr:=afs h.r s.v;have hg:=h.g;have hl:=hf.2.2.2.1;unfold aE;rw[ay (by omega),ay (by omega),ay (fun g=>g hf.2.2.2.2.2),ay (fun g=>g (sL fun i _ hi=>h.gv i (by omega))),ay (by omega)]
theorem Ua(l:List Int):∀i,i≤l.length→dX (fun j=>nth l j) i=(l.take i).sum
 |0,_=>by simp[dX]
 |i+1,h=>by
  rw[kq (by omega),Ks,← Ua l i (by omega)]
  simp[dX]
theorem Ub:∀i,dX (fun _=>0) i=0
 |0=>rfl
 |i+1=>by simp[dX,Ub i]
theorem atF{d:Dm}(s:Ds){m:Int}(hm:0≤m):dX (gT d s m) d.u.length≤m:=by
 by_cases he:kM d.u s.u d.gr m=0
 ·obtain⟨h1,h2⟩:=JG he
  have hl:=(DM h1).1;have:gT d s m=fun j=>nth (ij d.u s.u d.gr m) j:=by funext j;simp[gT,he]
  rw[this,Ua _ _ (by omega),mo (by omega)]
  exact h2
 ·have:gT d s m=fun _=>0:=by funext j;simp[gT,he]
  rw[this,Ub];exact hm
structure Stp(d:Dm)(s:Ds)(inf los rel:Int):Prop where
 L:eA s inf los=max 0 (s.v+inf-los)
 T0:0≤gm d s inf los rel
 Tr:gm d s inf los rel≤rel
 Tf:gm d s inf los rel≤ku d (eA s inf los)
 P0:0≤mh d s inf los rel
 sum:gm d s inf los rel+mh d s inf los rel≤ku d (eA s inf los)
 P1:mh d s inf los rel≤17179869184
 w0:0≤oa d rel (eA s inf los) (gm d s inf los rel)∧oa d rel (eA s inf los) (gm d s inf los rel)≤1073741824
theorem Uc{d:Dm}(h:Dv d){s:Ds}(hf:ik d s){inf los rel:Int}(hi:0≤inf∧inf≤1073741824)(hl:0≤los∧los≤1073741824)(hr:0≤rel∧rel≤1073741824):Stp d s inf los rel:=by
 have hv:=hf.1;have hg:=h.gr;have tz:0≤ku d (eA s inf los):=by unfold ku;omega
 have hm:0≤lF d rel (eA s inf los):=by unfold lF;omega
 have h1:=atF (d:=d) s hm;have h2:=aff h (s:=s) (inf:=inf) (los:=los) (rel:=rel);have h3:gm d s inf los rel≤lF d rel (eA s inf los):=h1;have h4:=No d.g s.g (j7 d.r s.v) (oa d rel (eA s inf los) (gm d s inf los rel));have h5:mh d s inf los rel=min (oK d.g s.g (j7 d.r s.v) (oa d rel (eA s inf los) (gm d s inf los rel))) (ku d (eA s inf los)-gm d s inf los rel):=rfl;unfold lF at h3;refine⟨by unfold eA;omega,h2.1,by omega,by omega,by omega,by omega,by omega,?_⟩
 unfold oa;omega
end Go.Proofs.YtmppfkgfnnebeaaGreatDoor
namespace Go.Proofs.YtmppfkgfnnebeaaGreatDoor
set_option linter.all false
open Go.Vm
attribute [local simp] lZ l7 lX lY
theorem atH(r:Dr)(ht:0≤r.tur∧r.tur≤1099511627776)(hs:0≤r.spi∧r.spi≤1099511627776)(ho:0≤r.ovr∧r.ovr≤1099511627776)(G:List aS):aZ F 202 [dr r] G=some (i64 (r.tur+r.spi+r.ovr),G) :=
 bM rfl rfl (by
  simp (disch:=omega) [wrap64,acs])
theorem atI{l:List Int}(h:l.length=5):∃a b c d e,l=[a,b,c,d,e]:=by
 match l,h with
 |[a,b,c,d,e],_=>exact⟨a,b,c,d,e,rfl⟩
theorem JM{l:List Int}{i j:Nat}{v:Int}(h:i<l.length):nth (l.set i v) j=if i=j then v else nth l j:=by
 simp only[nth,List.getD,jU];by_cases e:i=j
 ·subst e;simp[h]
 ·simp[e]
theorem atJ{c:List Pt}{x y dx dy:Int}(h:Cw c x y dx dy 1)(h2:2≤c.length)(hx:0≤x∧x≤1000)(hy:0≤y∧y≤1000)(MH:0≤dx∧dx≤1000)(MI:0≤dy∧dy≤1000)
  {a1 a2 a3 a4 a5:Int} (l1:x≤a1) (l2:a1≤a2) (l3:a2≤a3) (l4:a3≤a4) (l5:a4≤a5) (l6:a5≤(nth c (c.length-1)).x):iy ⟨c,a1,a2,a3,a4,a5⟩=0:=by
 have hc:=h.mc hx hy MH MI (by omega)
 have hf:=h.kH;have hu:=h.up hx hy MH MI (by omega) (c.length-1) (by omega)
 have h0:(nth c 0).x=x:=by rw[h.first]
 unfold iy;simp only;rw[ay (fun g=>g hc),ay (by omega),ay (by omega),aM,sL]
 ·intro i Tn jy
  have:i=1∨i=2∨i=3∨i=4∨i=5∨i=6:=by omega
  rcases this with rfl|rfl|rfl|rfl|rfl|rfl<;>simp only[qJ,tO,nth,List.getD,xV,GR,KB]<;>refine ay ?_
  ·have:(nth c 0).x≤a1:=by omega
   simp only[nth,List.getD]at this;simp;omega
  ·simp;omega
  ·simp;omega
  ·simp;omega
  ·simp;omega
  ·simp only[nth,List.getD]at l6;simp;omega
 ·refine sL fun i Tn jy=>?_
  have:=h.step i (by omega) (by omega)
  exact ay (by omega)
theorem atK{l:List Int}{k:Nat}(hd:c9 l k):∃r k',aZ F 117 [.bm 0 0] [dk l k]=some (.agg r.cells,[dk l k'])∧c9 l k'∧iy r=0∧(nth r.c (r.c.length-1)).y≤10000:=by
 suffices h:∀Q:V→List aS→Prop,(∀r k',c9 l k'→iy r=0→(nth r.c (r.c.length-1)).y≤10000→Q (.agg r.cells) [dk l k'])→gA (aZ F) 117 [.bm 0 0] [dk l k] Q by
  obtain⟨_,_,h,r,k',rfl,rfl,h1⟩:=h (fun v G=>∃r k',v=.agg r.cells∧G=[dk l k']∧c9 l k'∧iy r=0∧(nth r.c (r.c.length-1)).y≤10000) fun r k' a b c=>⟨r,k',rfl,rfl,a,b,c⟩;exact⟨r,k',h,h1⟩
 intro Q hQ;refine gM rfl rfl ?_;obtain⟨a1,k1,n1,gR,Tb⟩:=fk hd 10 (by omega)
 obtain⟨a2,k2,n2,eZ,Tc⟩:=fk gR 20 (by omega)
 obtain⟨c,k3,n3,kI,qv,hc⟩:=Ta eZ (x:=100+a1) (y:=a2) (dx:=40) (dy:=200) true (by omega) (by omega) (by omega) (by omega)
 simp only[if_true]at hc;have hu:=hc.up (by omega) (by omega) (by omega) (by omega) (by omega)
 have hf:=hc.kH;have h0:(nth c 0).x=100+a1:=by rw[hc.first]
 have hu1:=hu (c.length-1) (by omega)
 have ady:(nth c 0).x≤(nth c (c.length-1)).x:=by
  have:∀i,i<c.length→(nth c 0).x≤(nth c i).x:=by
   intro i;induction i with
   |zero=>intro _;omega
   |succ i ih=>intro hi;have:=ih (by omega);have:=hc.step (i+1) (by omega) hi;simp only[sa]at this;omega
  exact this _ (by omega)
 have h3:((c.length:Int)-1).toNat=c.length-1:=by omega
 have h5:0≤(c.length:Int)-1:=by omega
 simp (disch:=omega) [-getElem?_pos,wrap64,aa3,n1,n2,n3,bf (l:=c),h3,h5];refine go_loop (fun s:Nat×Int×List Int×Nat=>an3 (.bm 0 0) s.2.1 (nth c (c.length-1)).x s.1 [.cb,i64 0,i64 0,i64 0,i64 0,i64 0] [iM c,i64 0,i64 0,i64 0,i64 0,i64 0] (dD s.2.2.1) [dk l s.2.2.2])
  (fun s=>s.1≤5∧s.2.2.1.length=5∧(100+a1≤s.2.1∧s.2.1≤(nth c (c.length-1)).x)∧(∀j,j<s.1→100+a1≤nth s.2.2.1 j)∧(∀i j,i≤j→j<s.1→nth s.2.2.1 i≤nth s.2.2.1 j)∧(∀j,j<s.1→nth s.2.2.1 j≤s.2.1)∧c9 l s.2.2.2)
  (fun s=>5-s.1) (0,100+a1,[0,0,0,0,0],k3) rfl (by simp[dD,h0]) ⟨by simp,by simp,⟨by simp,by simp only;omega⟩,by simp,by simp,by simp,kI⟩ ?_
 rintro⟨i,at',ls,k⟩ ⟨hi,JN,⟨b1,b2⟩,h6,h7,h8,hd⟩;simp only at hi JN b1 b2 h6 h7 h8 hd;simp (disch:=omega) [-getElem?_pos,wrap64,aa2];refine bT (fun h9=>?_) (fun h9=>?_)
 ·have h9:i<5:=by omega
  have cf:¬ (5:Int)-i=0:=by omega
  have hq0:0≤((nth c (c.length-1)).x-at').tdiv (5-i):=xU (by omega) (by omega)
  have QR:((nth c (c.length-1)).x-at').tdiv (5-i)≤(nth c (c.length-1)).x-at':=Ci _ (by omega)
  obtain⟨p,k4,n4,qH,hp⟩:=fk hd (((nth c (c.length-1)).x-at').tdiv (5-i)+1) (by omega)
  simp (disch:=omega) [-getElem?_pos,wrap64,n4,cf];refine bP (i+1,at'+p,ls.set i (at'+p),k4) (by simp) ⟨by simp only;omega,by simp[JN],⟨by simp only;omega,by simp only;omega⟩,?_,?_,?_,qH⟩ (by simp only;omega)
  ·intro j hj
   simp only at hj ⊢;rw[JM (by omega)]
   split
   ·omega
   ·exact h6 j (by omega)
  ·intro i' j MJ hj
   simp only at hj ⊢;rw[JM (by omega),JM (by omega)]
   by_cases e1:i=j
   ·rw[aM e1]
    split
    ·omega
    ·have:=h8 i' (by omega);omega
   ·rw[ay e1,ay (by omega)]
    exact h7 i' j MJ (by omega)
  ·intro j hj
   simp only at hj ⊢;rw[JM (by omega)]
   split
   ·omega
   ·have:=h8 j (by omega);omega
 ·obtain rfl:i=5:=by omega
  obtain⟨e1,e2,e3,e4,e5,rfl⟩:=atI JN;simp (disch:=omega) [-getElem?_pos,wrap64,dD];have q1:=h6 0 (by omega)
  have q2:=h7 0 1 (by omega) (by omega)
  have q3:=h7 1 2 (by omega) (by omega)
  have q4:=h7 2 3 (by omega) (by omega)
  have q5:=h7 3 4 (by omega) (by omega)
  have q6:=h8 4 (by omega)
  exact hQ ⟨c,e1,e2,e3,e4,e5⟩ k hd (atJ hc qv (by omega) (by omega) (by omega) (by omega) q1 q2 q3 q4 q5 (AU q6 b2)) (by simp only;omega)
structure Gw(l:List Rt):Prop where
 cw:∀i,i<l.length→Cw (nth l i).c 0 0 6 20 0
 lv:∀i,i<l.length→0≤(nth l i).lv∧(nth l i).lv≤1000
 up:∀i,0<i→i<l.length→(nth l (i-1)).lv<(nth l i).lv
theorem Gw.mc{l:List Rt}(h:Gw l)(h1:1≤l.length)(h2:l.length≤3){m v:Int}(hm:0≤m∧m≤1000)(hv:0≤v∧v≤1000):kL ⟨l,m,v⟩=0:=by
 unfold kL;simp only;rw[ay (by omega),ay (by omega),ay,ay (by omega)]
 refine fun hn=>hn (sL fun i _ hi=>?_);have hi:i<l.length:=by omega
 have hc:=h.cw i hi;have hl:=h.lv i hi;have hp:=hc.pos;have hf:=hc.kH;have hu:=hc.up (by omega) (by omega) (by omega) (by omega) (by omega) ((nth l i).c.length-1) (by omega)
 have h0:(nth (nth l i).c 0).x=0∧(nth (nth l i).c 0).y=0:=by rw[hc.first];exact⟨rfl,rfl⟩
 unfold pz;rw[ay (by omega),ay,ay (fun g=>g (hc.mc (by omega) (by omega) (by omega) (by omega) (by omega))),ay (fun g=>g h0),ay (by omega)]
 rintro⟨h3,h4⟩;have:=h.up i h3 hi;omega
theorem Gw.snoc{l:List Rt}(h:Gw l){r:Rt}(hc:Cw r.c 0 0 6 20 0)(hl:0≤r.lv∧r.lv≤1000)(hu:0<l.length→(nth l (l.length-1)).lv<r.lv):Gw (l++[r]):=by
 refine⟨fun i hi=>?_,fun i hi=>?_,fun i h0 hi=>?_⟩
 ·simp at hi
  rw[iV];split
  ·exact h.cw i (by assumption)
  ·rw[aM (by omega)];exact hc
 ·simp at hi
  rw[iV];split
  ·exact h.lv i (by assumption)
  ·rw[aM (by omega)];exact hl
 ·simp at hi
  rw[iV,iV,aM (by omega)]
  split
  ·exact h.up i h0 (by assumption)
  ·obtain rfl:i=l.length:=by omega
   rw[aM rfl];exact hu h0
abbrev Ue(g:Gt):V:=.agg [.slice (some 0) 2 (g.r.map Rt.row),i64 g.di,i64 g.move]
theorem atL{l:List Int}{k:Nat}(hd:c9 l k):∃g k',aZ F 160 [.bm 0 0] [dk l k]=some (Ue g,[dk l k'])∧c9 l k'∧kL g=0:=by
 suffices h:∀Q:V→List aS→Prop,(∀g k',c9 l k'→kL g=0→Q (Ue g) [dk l k'])→gA (aZ F) 160 [.bm 0 0] [dk l k] Q by
  obtain⟨_,_,h,r,k',rfl,rfl,h1⟩:=h (fun v G=>∃r k',v=Ue r∧G=[dk l k']∧c9 l k'∧kL r=0) fun r k' a b=>⟨r,k',rfl,rfl,a,b⟩;exact⟨r,k',h,h1⟩
 intro Q hQ;refine gM rfl rfl ?_;obtain⟨a1,k1,n1,gR,Tb⟩:=fk hd 12 (by omega)
 obtain⟨a2,k2,n2,eZ,Tc⟩:=fk gR 6 (by omega)
 obtain⟨a3,k3,n3,kI,ha3⟩:=fk eZ 40 (by omega)
 obtain⟨a4,k4,n4,qH,ha4⟩:=fk kI 3 (by omega)
 simp (disch:=omega) [wrap64,abS,n1,n2,n3,n4];refine go_loop (fun s:List Rt×Int×Int×Nat=>ao6 (.bm 0 0) s.2.1 s.2.2.1 [.cb,i64 0,i64 0] [.slice (some 1027) 2 (s.1.map Rt.row),i64 a1,i64 a2] s.1.length [dk l s.2.2.2])
  (fun s=>Gw s.1∧(s.1.length:Int)+s.2.2.1≤2 ∧ -1≤s.2.2.1∧(1≤s.1.length∨0≤s.2.2.1)∧(0≤s.2.1∧s.2.1≤130+50*s.1.length)∧(0<s.1.length→(nth s.1 (s.1.length-1)).lv<s.2.1)∧c9 l s.2.2.2) (fun s=>(s.2.2.1+1).toNat)
  ([],90+a3,a4,k4) rfl (by simp) ⟨⟨by simp,by simp,by simp⟩,by simp;omega,by simp only;omega,by simp only;omega,by simp;omega,by simp,qH⟩ ?_
 rintro⟨r,lv,m,k⟩ ⟨hr,h1,h2,h3,h4,h5,hd⟩;simp only at h1 h2 h3 h4 h5 hd hr;obtain⟨c,k5,n5,Ap,qv,hc⟩:=Ta hd (x:=0) (y:=0) (dx:=6) (dy:=20) false (by omega) (by omega) (by omega) (by omega)
 obtain⟨a6,k6,n6,DD,ha6⟩:=fk Ap 40 (by omega)
 simp (disch:=omega) [wrap64,abR];refine bT (fun h6=>?_) (fun h6=>?_)
 ·simp (disch:=omega) [wrap64,n5,n6]
  refine bP (r++[⟨lv,c⟩],lv+(1+a6),m-1,k6) (by simp) ⟨hr.snoc hc (by simp only;omega) h5,by simp;omega,by simp only;omega,by simp,by simp;omega,by simp[iV];omega,DD⟩ (by simp only;omega)
 ·exact hQ ⟨r,a1,a2⟩ k hd (hr.mc (by omega) (by omega) (by omega) (by omega))
abbrev Uf(l:List Gt):V:=.slice (some 0) 3 (l.map Gt.row)
abbrev Nr(l:List Gs):V:=.slice (some 0) 2 (l.map Gs.row)
structure Ns(a:List Gt)(b:List Gs):Prop where
 len:a.length=b.length
 gate:∀i,i<a.length→kL (nth a i)=0
 state:∀i,i<a.length→n0 (nth a i) (nth b i)
theorem atM{l:List Int}{k:Nat}(hd:c9 l k){m:Nat}(hm:m≤1000):∃a b k',aZ F 119 [.bm 0 0,i64 m] [dk l k]=some (.tuple [Uf a,Nr b],[dk l k'])∧c9 l k'∧Ns a b∧a.length≤m:=by
 suffices h:∀Q:V→List aS→Prop,(∀a b k',c9 l k'→Ns a b→a.length≤m→Q (.tuple [Uf a,Nr b]) [dk l k'])→gA (aZ F) 119 [.bm 0 0,i64 m] [dk l k] Q by
  obtain⟨_,_,h,a,b,k',rfl,rfl,h1⟩:=h (fun v G=>∃a b k',v=.tuple [Uf a,Nr b]∧G=[dk l k']∧c9 l k'∧Ns a b∧a.length≤m) fun a b k' h1 h2 h3=>⟨a,b,k',rfl,rfl,h1,h2,h3⟩;exact⟨a,b,k',h,h1⟩
 intro Q hQ;refine gM rfl rfl ?_;obtain⟨n,k1,n1,gR,hn⟩:=fk hd (m+1) (by omega)
 simp (disch:=omega) [wrap64,aa7,n1];refine go_loop (fun s:List Gt×List Gs×Int×Nat=>an8 (.bm 0 0) (.slice (some 1023) 3 (s.1.map Gt.row)) (.slice (some 1035) 2 (s.2.1.map Gs.row)) s.2.2.1 s.1.length s.2.1.length [dk l s.2.2.2])
  (fun s=>Ns s.1 s.2.1∧(s.1.length:Int)+s.2.2.1≤m∧0≤s.2.2.1∧c9 l s.2.2.2) (fun s=>s.2.2.1.toNat) ([],[],n,k1) rfl (by simp) ⟨⟨rfl,by simp,by simp⟩,by simp;omega,by simp;omega,gR⟩ ?_
 rintro⟨a,b,n,k⟩ ⟨sM,h1,h2,hd⟩;simp only at sM h1 h2 hd;obtain⟨g,k2,n2,eZ,hg⟩:=atL hd;have hgv:=(aeR hg).di;obtain⟨p,k3,n3,kI,hp⟩:=fk eZ (g.di+1) (by omega)
 obtain⟨q,k4,n4,qH,hq⟩:=fk kI 7 (by omega)
 have hl:=sM.len;simp (disch:=omega) [wrap64,aa6];refine bT (fun h4=>?_) (fun h4=>?_)
 ·simp (disch:=omega) [wrap64,n2,n3,n4]
  refine bP (a++[g],b++[⟨p,decide (q=6)⟩],n-1,k4) (by simp) ⟨⟨by simp[hl],fun i hi=>?_,fun i hi=>?_⟩,by simp;omega,by simp;omega,qH⟩ (by simp;omega)
  ·simp at hi
   rw[iV];split
   ·exact sM.gate i (by assumption)
   ·rw[aM (by omega)];exact hg
  ·simp at hi
   rw[iV,iV,← hl];split
   ·exact sM.state i (by assumption)
   ·rw[aM (by omega),aM (by omega)]
    show 0≤p∧p≤g.di;omega
 ·exact hQ a b k hd sM (by omega)
structure Dw(d:Dm)(s:Ds):Prop where
 mc:fF d=0
 fit:ik d s
 aCy:Je d.u s.u
 u2:d.u.length≤2
 g2:d.g.length≤2
 gr:1≤d.gr∧d.gr≤4
 rel:0≤s.rel∧s.rel≤29
 top:ld d≤10000
theorem atN{l:List Int}{k:Nat}(hd:c9 l k):∃d s k',aZ F 78 [.bm 0 0] [dk l k]=some (.tuple [dm d,dst s],[dk l k'])∧c9 l k'∧Dw d s:=by
 suffices h:∀Q:V→List aS→Prop,(∀d s k',c9 l k'→Dw d s→Q (.tuple [dm d,dst s]) [dk l k'])→gA (aZ F) 78 [.bm 0 0] [dk l k] Q by
  obtain⟨_,_,h,d,s,k',rfl,rfl,h1⟩:=h (fun v G=>∃d s k',v=.tuple [dm d,dst s]∧G=[dk l k']∧c9 l k'∧Dw d s) fun d s k' a b=>⟨d,s,k',rfl,rfl,a,b⟩;exact⟨d,s,k',h,h1⟩
 intro Q hQ;refine gM rfl rfl ?_;obtain⟨r,k1,n1,gR,hr,hry⟩:=atK hd;obtain⟨a,k2,n2,eZ,ha⟩:=fk gR 4 (by omega)
 obtain⟨us,ss,k3,n3,kI,oX,L3⟩:=arh (m:=2) eZ (by omega)
 obtain⟨gs,ts,k4,n4,qH,qt,HS⟩:=atM (m:=2) kI (by omega)
 rw[show((2:Nat):Int)=2 from rfl]at n3 n4;have hv:=TU hr r.t;have tU:=TQ hr;obtain⟨v,k5,n5,Ap,hv5⟩:=fk qH (iw r.c r.t+1) (by omega)
 obtain⟨e,k6,n6,DD,he6⟩:=fk Ap 30 (by omega)
 have hV:=MU r r.t [];simp (disch:=omega) [wrap64,aas,n1,n2,n3,n4,hV,tU,hr,n5,n6];refine hQ ⟨r,us,gs,1+a⟩ ⟨v,e,ss,ts⟩ k6 DD ?_;have hc:fF ⟨r,us,gs,1+a⟩=0:=by
  unfold fF;simp only;rw[ay (fun g=>g hr),ay (by omega),ay (fun g=>g (sL fun i _ hi=>(oX.unit i (by omega)).mc)),ay (fun g=>g (sL fun i _ hi=>qt.gate i (by omega))),ay (by omega)]
 refine⟨hc,⟨⟨hv5.1,?_⟩,?_,oX.len.symm,qt.len.symm,oX.state,qt.state⟩,oX,L3,HS,?_,?_,?_⟩
 ·show v≤iw r.c r.t
  omega
 ·simp only;omega
 ·simp only;omega
 ·simp only;omega
 ·have:=(FG (mQ (tP hr)) r.t).2
  show iw r.c r.t≤10000;omega
end Go.Proofs.YtmppfkgfnnebeaaGreatDoor
namespace Go.Proofs.YtmppfkgfnnebeaaGreatDoor
set_option linter.all false
open Go.Vm
theorem atP{u:Un}{s:Us}(hv:fc u s)(q:Int):fc u (sZ u s q):=by
 have h1:=hv.2.1;unfold sZ;split
 ·rename_i hm
  refine⟨hv.1,?_,?_⟩
  ·unfold tM;simp only;split<;>omega
  ·unfold tM;simp only
   unfold km at hm;by_cases hq:q=0
   ·exact .inl hq
   ·rw[ay hq]at hm;exact .inr ⟨hm.1,hm.2.2⟩
 ·exact⟨hv.1,by simp,.inl rfl⟩
theorem atQ{lv w:Int}{g:List Gt}{s:List Gs}(hl:g.length=s.length)(hs:Az g s)(hv:∀i,i<g.length→Gv (nth g i)):∀i,i≤g.length →
  ∀j,j<g.length→0≤nth (bs lv w g s i).1 j∧nth (bs lv w g s i).1 j≤(nth g j).di:=by
 intro i;induction i with
 |zero =>
  intro _ j hj;have hr:=DR (hv j hj) (hs j hj);simp only[bs];rw[Jx hj (by omega)]
  omega
 |succ i ih =>
  intro hi j hj;simp only[bs];rw[JM (by rw[pD hl];omega)]
  split
  ·rename_i e
   subst e;have hr:=DR (hv i hj) (hs i hj);have ho:=asU (lv:=lv) (w:=w) (hv i hj) (hs i hj) (bs lv w g s i).2;omega
  ·exact ih (by omega) j hj
theorem atS{g:List Gt}{s:List Gs}{lv w:Int}(h:aE g s lv=0)(hw:0≤w∧w≤1073741824):(pC g s lv w).length=g.length∧Az g (pC g s lv w):=by
 obtain⟨h1,h2,h3,h4,h5⟩:=Jv h;have hE:lD g s lv w=0:=by simp[lD,h,hw]
 have hS:pC g s lv w=nB (bs lv w g s g.length).1 s:=by unfold pC;rw[aM hE]
 have hb:=pD (lv:=lv) (w:=w) h2 g.length;rw[hS];refine⟨by simp[nB];omega,fun i hi=>?_⟩
 unfold nB;rw[FQ (by omega) (by omega)]
 exact atQ h2 h3 h4 g.length (bV _) i hi
theorem atT{d:Dm}{s:Ds}{m:Int}{n i:Nat}(hi:i<n):nth (pF d s m n) i=sZ (nth d.u i) (nth s.u i) (gT d s m i):=by
 unfold pF;simp[nth,hi]
theorem atU{d:Dm}(h:Dv d){s:Ds}(hf:ik d s){inf los rel:Int}(hi:0≤inf∧inf≤1073741824)(hl:0≤los∧los≤1073741824)(hr:0≤rel∧rel≤1073741824):ik d (mB d s inf los rel):=by
 have p:=Uc h hf hi hl hr;have hv:=hf.1;have hC:=Nj h.r;have hD:=Ni h.r;have hT:=p.T0;have hP:=p.P0;have hs:=p.sum;have hL:=p.L;have tz:ku d (eA s inf los)≤eA s inf los:=by unfold ku;omega
 have hO:tV d s inf los rel=max (eA s inf los-(gm d s inf los rel+mh d s inf los rel)-ld d) 0:=rfl;have hg:=atS (atE h hf) p.w0;refine⟨?_,?_,Nm,hg.1,fun i hi=>?_,hg.2⟩
 ·show 0≤eA s inf los-(gm d s inf los rel+mh d s inf los rel)-tV d s inf los rel∧eA s inf los-(gm d s inf los rel+mh d s inf los rel)-tV d s inf los rel≤ld d
  omega
 ·show 0≤min (gm d s inf los rel+mh d s inf los rel) 1073741824∧min (gm d s inf los rel+mh d s inf los rel) 1073741824≤1073741824
  omega
 ·show fc (nth d.u i) (nth (pF d s _ d.u.length) i)
  rw[atT hi];exact atP (hf.2.2.2.2.1 i hi) _
def atV(a b:Ds)(r:Dr):List Int:=[a.v,b.v,r.inf,r.los,r.tur,r.spi,r.ovr]
def aft(n:Int):Prop:=0≤n∧n≤274877906944
instance {n:Int}:Decidable (aft n):=inferInstanceAs (Decidable (_∧_))
def afu(a b:Ds)(r:Dr):Prop:=(∀i,i<7→aft (nth (atV a b r) i))∧b.v=a.v+r.inf-r.los-r.tur-r.spi-r.ovr
noncomputable instance {a b:Ds} {r:Dr}:Decidable (afu a b r):=Classical.propDecidable _
end Go.Proofs.YtmppfkgfnnebeaaGreatDoor
namespace Go.Proofs.YtmppfkgfnnebeaaGreatDoor
set_option linter.all false
open Go.Vm
attribute [local simp] lZ l7 lX lY
theorem afv{c:List Pt}(h:Cv c){y x:Int}{i:Nat}(hi:i+1<c.length)(h1:(nth c i).y≤y)(h2:y<(nth c (i+1)).y)(hx:(nth c i).x≤x):p7 c (i+1) x≤y↔x≤DG c y i:=by
 have u1:=h.up (i+1) (by omega) hi
 simp only[sa]at u1;have a2:0<(y-(nth c i).y+1)*((nth c (i+1)).x-(nth c i).x):=Ot (by omega) (by omega)
 have a3:0≤((nth c (i+1)).y-(nth c i).y)*(x-(nth c i).x):=Ea (by omega) (by omega)
 unfold p7 DG;simp only[sa];rw[xT a3,xT (by omega)]
 have e1:((nth c (i+1)).y-(nth c i).y)*(x-(nth c i).x) / ((nth c (i+1)).x-(nth c i).x)<y-(nth c i).y+1↔((nth c (i+1)).y-(nth c i).y)*(x-(nth c i).x)<(y-(nth c i).y+1)*((nth c (i+1)).x-(nth c i).x) :=
  Int.ediv_lt_iff_lt_mul (by omega)
 have e2:x-(nth c i).x≤((y-(nth c i).y+1)*((nth c (i+1)).x-(nth c i).x)-1) / ((nth c (i+1)).y-(nth c i).y)↔(x-(nth c i).x)*((nth c (i+1)).y-(nth c i).y)≤(y-(nth c i).y+1)*((nth c (i+1)).x-(nth c i).x)-1 :=
  Oo (by omega)
 rw[Kc (x-(nth c i).x)]at e2;constructor
 ·intro g
  have:=e2.2 (by have:=e1.1 (by omega);omega)
  omega
 ·intro g
  have:=e1.2 (by have:=e2.1 (by omega);omega)
  omega
theorem Uh{c:List Pt}(h:Cv c){i:Nat}(hi:i<c.length):iw c (nth c i).x=(nth c i).y:=by
 rcases mq i with rfl|h0
 ·exact DB h (uc _)
 ·have u:=h.up i h0 hi
  rw[yL h h0 hi (by omega) (uc _),p7,Ke _ (by omega)]
  omega
theorem afw{c:List Pt}(h:Cv c){y:Int}:∀(m i:Nat),i+m=c.length-1→(nth c i).y≤y→iw c (sR c y m i)≤y∧∀x,sR c y m i<x→x≤(nth c (c.length-1)).x→y<iw c x
 |0,i,hi,hy=>by
  have hp:=h.pos;unfold sR;rw[Uh h (by omega)]
  obtain rfl:i=c.length-1:=by omega
  exact⟨hy,fun x a b=>by omega⟩
 |m+1,i,hi,hy=>by
  have hp:=h.pos;unfold sR;split
  ·rename_i h2
   have hr:=afr h (i:=i) (by omega) hy h2
   refine⟨?_,fun x a b=>?_⟩
   ·rw[yL h (i:=i+1) (by omega) (by omega) (by simpa using hr.1) hr.2]
    exact(afv h (by omega) hy h2 hr.1).2 (uc _)
   ·rcases Int.lt_or_le (nth c (i+1)).x x with h3|h3
    ·have:=TI h (show(nth c (i+1)).x≤x by omega)
     rw[Uh h (by omega)]at this
     omega
    ·rw[yL h (i:=i+1) (by omega) (by omega) (by simp only[sa];omega) h3]
     have:=not_congr (afv h (x:=x) (by omega) hy h2 (by omega))
     omega
  ·exact afw h m (i+1) (by omega) (by omega)
theorem afx{c:List Pt}(h:gB c=0)(y:Int)(G:List aS) :
  aZ F 90 [iM c,i64 y] G=some (.tuple [i64 (if y<(nth c 0).y then 0 else yO c y),.bool (decide ((nth c 0).y≤y)),i64 0],G) :=
 bM rfl rfl (by
  have hc:=mQ h;have hp:=hc.pos;have hl:=hc.kH;have h3:((c.length:Int)-1).toNat=c.length-1:=by omega
  have h4:0≤(c.length:Int)-1:=by omega
  have h5:c.length-1<c.length:=by omega
  have x0:=hc.x0 0 hp;have x1:=hc.x0 (c.length-1) h5;have Ey:=JL hc (i:=0) (j:=c.length-1) (by omega) h5
  have hA:=fun x=>adH hc x [];have Ui:=hA (nth c 0).x;rw[Uh hc hp]at Ui;by_cases h1:y<(nth c 0).y
  ·have h2:¬ (nth c 0).y≤y:=by omega
   simp (disch:=omega) [-getElem?_pos,wrap64,RJ,mz,h,bf (l:=c),hp,h3,h4,h5,Ui,h1,h2]
  ·have h2:(nth c 0).y≤y:=by omega
   have Uj:=afw hc (y:=y) (c.length-1) 0 (by omega) h2
   have Uk:=T9 hc (y:=y) (c.length-1) 0 (by omega) h2
   have dC:sR c y (c.length-1) 0=yO c y:=rfl;rw[dC]at Uj Uk;simp (disch:=omega) [-getElem?_pos,wrap64,RJ,mz,h,bf (l:=c),hp,h3,h4,h5,Ui,h1,h2];refine go_loop (fun s:Int×Int=>ann (iM c) y s.1 s.2 G) (fun s=>(nth c 0).x≤s.1∧s.1≤yO c y∧yO c y≤s.2∧s.2≤(nth c (c.length-1)).x) (fun s=>(s.2-s.1).toNat) ((nth c 0).x,(nth c (c.length-1)).x) rfl (by simp) ⟨by simp,Uk.1,Uk.2,by simp⟩ ?_
   rintro⟨lo,hi⟩ ⟨b1,b2,b3,b4⟩;simp only at b1 b2 b3 b4;have d1:0≤(hi-lo).tdiv 2:=xU (by omega) (by omega)
   have d2:(hi-lo).tdiv 2=(hi-lo) / 2:=xT (by omega)
   have hAm:=hA (hi-(hi-lo).tdiv 2);simp (disch:=omega) [-getElem?_pos,wrap64,aaE,hAm];refine bT (fun h6=>?_) (fun h6=>?_)
   ·refine bT (fun h7=>?_) (fun h7=>?_)
    ·refine bP (hi-(hi-lo).tdiv 2,hi) (by simp) ⟨by simp only;omega,?_,b3,b4⟩ (by simp only;omega)
     simp only;refine Kf.1 fun h8=>?_;have:=Uj.2 _ h8 (by omega)
     omega
    ·refine bP (lo,hi-(hi-lo).tdiv 2-1) (by simp) ⟨b1,b2,?_,by simp only;omega⟩ (by simp only;omega)
     simp only;refine Kf.1 fun h8=>?_;have:=TI hc (show hi-(hi-lo).tdiv 2≤yO c y by omega)
     have:=Uj.1;omega
   ·have:lo=yO c y:=by omega
    subst this;simp (disch:=omega) [-getElem?_pos,wrap64,h1,h2])
theorem atX{r:Rs}(h:iy r=0){v:Int}(hv:0≤v∧v≤274877906944)(G:List aS):aZ F 47 [.agg r.cells,i64 v] G=some (.tuple [i64 (j7 r v),i64 0],G) :=
 bM rfl rfl (by
  have hp:=(mQ (tP h)).pos;have lQ:(decide (0≤v)&&decide (v≤274877906944))=true:=by simp;omega
  by_cases h1:v<(nth r.c 0).y
  ·have h2:¬ (nth r.c 0).y≤v:=by omega
   simp[-getElem?_pos,wrap64,Ry,BS,h,c7,lQ,afx (tP h),h1,h2,bf (l:=r.c),hp,j7]
  ·have h2:(nth r.c 0).y≤v:=by omega
   simp[-getElem?_pos,wrap64,Ry,BS,h,c7,lQ,afx (tP h),h1,h2,bf (l:=r.c),hp,j7])
theorem afy{d:Dm}(h:iy d.r=0):ld d≤274877906944:=by
 have hc:=mQ (tP h);have h1:=FG hc d.r.t;have hp:=hc.pos;have h3:=hc.y0 (d.r.c.length-1) (by omega)
 have:ld d=iw d.r.c d.r.t:=rfl;omega
theorem JO(d:Dm)(s:Ds)(G:List aS):aZ F 16 [dm d,dst s] G=some (.tuple [i64 (lvl d s),i64 (dE d s)],G) :=
 bM rfl rfl (by
  by_cases hd:dE d s=0
  ·obtain⟨rQ,hf⟩:=F7 hd
   have hv:=hf.1;have hC:=afy rQ.r;simp (disch:=omega) [wrap64,Rn,afd,hd,atX rQ.r,hv,lvl]
  ·simp (disch:=omega) [wrap64,Rn,afd,hd,lvl])
theorem afz:∀{a:List Un} {E:List Int} {u:Un} {q:Int},a.length=E.length→iX (a++[u]) (E++[q])=iX a E+pow u q
 |[],[],_,_,_=>by simp[iX]
 |u::a,q::E,w,z,h=>by
  have:=afz (a:=a) (E:=E) (u:=w) (q:=z) (by simpa using h)
  simp only[ud,iX,this];omega
 |[],_::_,_,_,h=>by simp at h
 |_::_,[],_,_,h=>by simp at h
theorem afA:∀{a:List Us} {E:List Int} {u:Us} {q:Int},a.length=E.length→iY (a++[u]) (E++[q])=iY a E+iO u q
 |[],[],_,_,_=>by simp[iY]
 |u::a,q::E,w,z,h=>by
  have:=afA (a:=a) (E:=E) (u:=w) (q:=z) (by simpa using h)
  simp only[ud,iY,this];omega
 |[],_::_,_,_,h=>by simp at h
 |_::_,[],_,_,h=>by simp at h
theorem afB{us:List Un}{F:List Int}(h:F.length=us.length):∀i,i≤us.length→dX (fun j=>pow (nth us j) (nth F j)) i=iX (us.take i) (F.take i)
 |0,_=>by simp[dX,iX]
 |i+1,hi=>by
  rw[kq (l:=us) (by omega),kq (l:=F) (by omega),afz (by simp;omega),← afB h i (by omega)]
  rfl
theorem afC{ss:List Us}{F:List Int}(h:F.length=ss.length):∀i,i≤ss.length→dX (fun j=>iO (nth ss j) (nth F j)) i=iY (ss.take i) (F.take i)
 |0,_=>by simp[dX,iY]
 |i+1,hi=>by
  rw[kq (l:=ss) (by omega),kq (l:=F) (by omega),afA (by simp;omega),← afC h i (by omega)]
  rfl
theorem atY{u:Un}{s:Us}(hv:fc u s):sZ u s 0=⟨0,if 0<s.cn then 1 else min 1000 (s.since+1),s.out⟩:=by
 have hc:=hv.1;have hf:0≤s.cn:=by
  rcases hv.2.2 with h | ⟨_,h⟩
  ·omega
  ·have:=MN hc h;omega
 unfold sZ;by_cases h1:0<s.cn
 ·rw[aM h1]
  split
  ·unfold tM
   rw[ay (by simp[h1])]
  ·rfl
 ·rw[ay h1,aM]
  ·unfold tM
   rw[aM (by simp[h1])]
  ·unfold km
   rw[aM rfl];exact fun h=>absurd h h1
theorem atZ{d:Dm}(rQ:Dv d){s:Ds}(hf:ik d s){q:Int}(hq:0≤q∧q≤1073741824)(G:List aS) :
  aZ F 102 [dm d,dst s,i64 q] G=some (.tuple [Jd (pF d s (min q (200*d.gr)) d.u.length),i64 (dX (gT d s (min q (200*d.gr))) d.u.length),i64 (dX (rP d s (min q (200*d.gr))) d.u.length),i64 (dX (mX d s (min q (200*d.gr))) d.u.length)],G) :=
 bM rfl rfl (by
  obtain⟨t,hb⟩:=asA d.u s.u d.gr (min q (200*d.gr)) [];have hgr:=rQ.gr;have TS:=rQ.u;have Bu:=hf.2.2.1;generalize hM:min q (200*d.gr)=M at *;by_cases he:kM d.u s.u d.gr M=0
  ·obtain⟨h1,h2⟩:=JG he
   have hl:=DM h1;have hV:=aej d.u s.u (ij d.u s.u d.gr M) (by omega) []
   rw[aeD h1]at hV;simp only[FN]at hV;have f1:gT d s M=fun j=>nth (ij d.u s.u d.gr M) j:=by funext j;simp[gT,he]
   have f2:rP d s M=fun j=>pow (nth d.u j) (nth (ij d.u s.u d.gr M) j):=by funext j;simp only[rP,f1]
   have f3:mX d s M=fun j=>iO (nth s.u j) (nth (ij d.u s.u d.gr M) j):=by funext j;simp only[mX,f1]
   have e1:dX (gT d s M) d.u.length=(ij d.u s.u d.gr M).sum:=by rw[f1,Ua _ _ (by omega),mo (by omega)]
   have e2:dX (rP d s M) d.u.length=iX d.u (ij d.u s.u d.gr M):=by rw[f2,afB hl.1 _ (bV _),mo (by omega),mo (by omega)]
   have e3:dX (mX d s M) d.u.length=iY s.u (ij d.u s.u d.gr M):=by rw[f3,afC hl.2 _ (by omega),mo (by omega),mo (by omega)]
   rw[e1,e2,e3];generalize hE:ij d.u s.u d.gr M=E at *;generalize iX d.u E=PW at *;generalize iY s.u E=ST at *;generalize E.sum=SU at *;simp (disch:=omega) [-getElem?_pos,wrap64,RP,hM,hb,he,hV];refine go_loop (fun i:Nat=>anz (.slice none 1 (E.map fun n=>[i64 n])) (.slice (some 1063) 3 ((pF d s M i).map Us.row)) SU PW ST (kJ d.u) d.u.length i s.row i G) (fun i=>i≤d.u.length) (fun i=>d.u.length-i) 0 rfl (by simp[pF]) (by omega) ?_
   intro i hi;have tH:=Nm (d:=d) (s:=s) (m:=M) (n:=i);simp (disch:=omega) [-getElem?_pos,wrap64,aaM];refine bT (fun h5=>?_) (fun h5=>?_)
   ·have h5:i<d.u.length:=by omega
    have h6:i<s.u.length:=by omega
    have h7:i<E.length:=by omega
    have hv:fc (nth d.u i) (nth s.u i):=hf.2.2.2.2.1 i h5;have jk:gT d s M i=nth E i:=by rw[f1]
    have hm:km (nth d.u i) (nth s.u i) (nth E i):=(FR.1 (Nk h1 i h5)).2.2;have hN:=S4 (nth d.u i) (nth s.u i) (nth E i) [];have hnE:tL (nth d.u i) (nth s.u i) (nth E i)=0:=by rw[atc hv,aM hm]
    rw[aM hnE]at hN;have hx:sZ (nth d.u i) (nth s.u i) (nth E i)=tM (nth s.u i) (nth E i):=by simp[sZ,hm]
    simp (disch:=omega) [-getElem?_pos,wrap64,bf (l:=d.u),bf (l:=s.u),ei (l:=E),hN,tH];refine bP (i+1) (by simp[DV,jk,hx]) (by omega) (by omega)
   ·obtain rfl:i=d.u.length:=by omega
    simp (disch:=omega) [-getElem?_pos,wrap64,tH]
  ·have f1:gT d s M=fun _=>0:=by funext j;simp[gT,he]
   have f2:rP d s M=fun _=>0:=by funext j;simp[rP,f1,pow]
   have f3:mX d s M=fun _=>0:=by funext j;simp[mX,f1,iO]
   rw[f1,f2,f3,Ub];simp (disch:=omega) [-getElem?_pos,wrap64,RP,hM,hb,he];refine go_loop (fun i:Nat=>anv (.slice (some 1063) 3 ((pF d s M i).map Us.row)) (kn s.u) s.u.length i i G) (fun i=>i≤s.u.length) (fun i=>s.u.length-i) 0 rfl (by simp[pF]) (by omega) ?_
   intro i hi;have tH:=Nm (d:=d) (s:=s) (m:=M) (n:=i);simp (disch:=omega) [-getElem?_pos,wrap64,aaL];refine bT (fun h5=>?_) (fun h5=>?_)
   ·have h5:i<d.u.length:=by omega
    have h6:i<s.u.length:=by omega
    have hv:fc (nth d.u i) (nth s.u i):=hf.2.2.2.2.1 i h5;have s6:=hv.2.1;have jk:gT d s M i=0:=by rw[f1]
    have hx:=atY hv;by_cases h7:0<(nth s.u i).cn
    ·rw[aM h7]at hx
     simp (disch:=omega) [-getElem?_pos,wrap64,bf (l:=s.u),h7,tH];refine bP (i+1) (by simp[DV,jk,hx]) (by omega) (by omega)
    ·rw[ay h7]at hx
     simp (disch:=omega) [-getElem?_pos,wrap64,bf (l:=s.u),h7,tH];refine bP (i+1) (by simp[DV,jk,hx]) (by omega) (by omega)
   ·obtain rfl:i=s.u.length:=by omega
    rw[Bu]at tH ⊢;simp (disch:=omega) [-getElem?_pos,wrap64,tH])
end Go.Proofs.YtmppfkgfnnebeaaGreatDoor
namespace Go.Proofs.YtmppfkgfnnebeaaGreatDoor
set_option linter.all false
open Go.Vm
theorem aCB(lv w:Int):oK [] [] lv w=0:=by
 unfold oK;split
 ·simp[bs,Jw]
 ·rfl
end Go.Proofs.YtmppfkgfnnebeaaGreatDoor
namespace Go.Proofs.YtmppfkgfnnebeaaGreatDoor
set_option linter.all false
open Go.Vm
end Go.Proofs.YtmppfkgfnnebeaaGreatDoor
namespace Go.Proofs.YtmppfkgfnnebeaaGreatDoor
set_option linter.all false
open Go.Vm
attribute [local simp] lZ l7 lX lY
theorem at1(d:Dm)(s:Ds)(inf los rel:Int):∃G',aZ F 59 [dm d,dst s,i64 inf,i64 los,i64 rel] []=some (tW d s inf los rel,G'):=by
 suffices h:∀Q:V→List aS→Prop,(∀G',Q (tW d s inf los rel) G')→gA (aZ F) 59 [dm d,dst s,i64 inf,i64 los,i64 rel] [] Q by
  obtain⟨_,G',h,rfl⟩:=h (fun v G'=>v=tW d s inf los rel) fun _=>rfl;exact⟨G',h⟩
 intro Q hQ;refine gM rfl rfl ?_;by_cases hd:dE d s=0
 ·obtain⟨rQ,hf⟩:=F7 hd
  have yn:lvl d s=j7 d.r s.v:=by simp[lvl,hd]
  by_cases ho:[inf,los,rel].any yS=false
  ·have he:oL d s inf los rel=0:=by unfold oL;rw[ay (fun g=>g hd),ho];rfl
   unfold tW at hQ;rw[aM he]at hQ;have hx:=ho;simp only[yS,GN,GP,GH,Ol,VG,iD]at hx;obtain⟨x1,x2,x3⟩:=hx;have i1:(decide (0≤inf)&&decide (inf≤1073741824))=true:=by simp;omega
   have i2:(decide (0≤los)&&decide (los≤1073741824))=true:=by simp;omega
   have i3:(decide (0≤rel)&&decide (rel≤1073741824))=true:=by simp;omega
   have p:=Uc rQ hf x1 x2 x3;have hv:=hf.1;have hC:=Nj rQ.r;have hD:=Ni rQ.r;have Nt:=MU d.r d.r.d [];rw[as8 rQ.r,aM rfl,show iw d.r.c d.r.d=F6 d from rfl]at Nt;have hV2:=MU d.r d.r.t [];rw[TQ rQ.r,aM rfl,show iw d.r.c d.r.t=ld d from rfl]at hV2;have hL:s.v+inf-min los (s.v+inf)=eA s inf los:=rfl;have tz:max 0 (eA s inf los-F6 d)=ku d (eA s inf los):=by unfold ku;omega
   have hLr:0≤eA s inf los∧eA s inf los≤4611686018427387904:=by unfold eA;omega
   have Ul:0≤ku d (eA s inf los)∧ku d (eA s inf los)≤4611686018427387904:=by unfold ku;omega
   have hU:=atZ rQ hf (q:=min rel (ku d (eA s inf los))) (by omega) []
   rw[show min (min rel (ku d (eA s inf los))) (200*d.gr)=lF d rel (eA s inf los) from rfl]at hU;rw[show dX (gT d s (lF d rel (eA s inf los))) d.u.length=gm d s inf los rel from rfl]at hU;have hT:=p.T0;have hTr:=p.Tr;have hW:min rel (ku d (eA s inf los))-gm d s inf los rel=oa d rel (eA s inf los) (gm d s inf los rel):=rfl;have hS:=as2 d.g s.g (j7 d.r s.v) (oa d rel (eA s inf los) (gm d s inf los rel)) [];have hF:=No d.g s.g (j7 d.r s.v) (oa d rel (eA s inf los) (gm d s inf los rel))
   have hP:min (oK d.g s.g (j7 d.r s.v) (oa d rel (eA s inf los) (gm d s inf los rel))) (ku d (eA s inf los)-gm d s inf los rel)=mh d s inf los rel:=rfl;have hP0:=p.P0;have hP1:=p.P1;have hO:max 0 (eA s inf los-(gm d s inf los rel+mh d s inf los rel)-ld d)=tV d s inf los rel:=by unfold tV;omega
   have hO0:0≤tV d s inf los rel∧tV d s inf los rel≤4611686018427387904:=by unfold tV;omega
   have hmn:min 1073741824 (gm d s inf los rel+mh d s inf los rel)=min (gm d s inf los rel+mh d s inf los rel) 1073741824:=Oq _ _;unfold mB mi at hQ;generalize tV d s inf los rel=O at *;generalize mh d s inf los rel=P at *;generalize oa d rel (eA s inf los) (gm d s inf los rel)=W at *;generalize gm d s inf los rel=T at *;generalize hLL:eA s inf los=L at *;simp (config:={ maxSteps:=2000000 }) +contextual (disch:=omega) [-getElem?_pos,-List.length_eq_zero_iff,-Int.natCast_eq_zero,wrap64,Fy,JO,hd,yn,c7,i1,i2,i3,Nt,hV2]
   simp (config:={ maxSteps:=2000000 }) +contextual (disch:=omega) [-getElem?_pos,-List.length_eq_zero_iff,-Int.natCast_eq_zero,wrap64,hL,tz,hU];simp (config:={ maxSteps:=2000000 }) +contextual (disch:=omega) [-getElem?_pos,-List.length_eq_zero_iff,-Int.natCast_eq_zero,wrap64,hW,hS,hP,hO,hmn];exact hQ _
  ·have ho:[inf,los,rel].any yS=true:=(Og _).resolve_right ho
   have he:oL d s inf los rel=1:=by unfold oL;rw[ay (fun g=>g hd),ho];rfl
   unfold tW at hQ;rw[he,ay (by omega)]at hQ
   simp only[yS,GN,GP,GH]at ho;by_cases i1:0≤inf∧inf≤1073741824
   ·by_cases i2:0≤los∧los≤1073741824
    ·by_cases i3:0≤rel∧rel≤1073741824
     ·simp[i1,i2,i3]at ho
     ·have j1:(decide (0≤inf)&&decide (inf≤1073741824))=true:=by simp;omega
      have j2:(decide (0≤los)&&decide (los≤1073741824))=true:=by simp;omega
      have j3:(decide (0≤rel)&&decide (rel≤1073741824))=false:=by simp;omega
      simp (config:={ maxSteps:=2000000 }) +contextual (disch:=omega) [-getElem?_pos,-List.length_eq_zero_iff,-Int.natCast_eq_zero,wrap64,Fy,JO,hd,yn,c7,j1,j2,j3];exact hQ _
    ·have j1:(decide (0≤inf)&&decide (inf≤1073741824))=true:=by simp;omega
     have j2:(decide (0≤los)&&decide (los≤1073741824))=false:=by simp;omega
     simp (config:={ maxSteps:=2000000 }) +contextual (disch:=omega) [-getElem?_pos,-List.length_eq_zero_iff,-Int.natCast_eq_zero,wrap64,Fy,JO,hd,yn,c7,j1,j2];exact hQ _
   ·have j1:(decide (0≤inf)&&decide (inf≤1073741824))=false:=by simp;omega
    simp (config:={ maxSteps:=2000000 }) +contextual (disch:=omega) [-getElem?_pos,-List.length_eq_zero_iff,-Int.natCast_eq_zero,wrap64,Fy,JO,hd,yn,c7,j1];exact hQ _
 ·have he:oL d s inf los rel=dE d s:=by unfold oL;rw[aM hd]
  unfold tW at hQ;rw[he,ay hd]at hQ;simp[wrap64,Fy,JO,hd];exact hQ _
theorem at7(s:List Us)(hs:s.length≤1000)(G:List aS):aZ F 171 [kn s] G=some (Jd s,G):=by
 cases s with
 |nil =>
  refine Qs (p:=0) (m:=3) rfl rfl rfl rfl ?_ ?_
  ·simp (disch:=omega) [wrap64,Mq]
  ·simp (disch:=omega) [wrap64,Mq]
 |cons a s =>
  have hs:s.length+1≤1000:=by simpa using hs
  show aZ F 171 [.slice none 3 (a.row::s.map Us.row)] G=some (.slice (some 0) 3 (a.row::s.map Us.row),G);refine Qt (p:=0) rfl rfl rfl (fun m=>by simp) ?_
  simp (disch:=omega) [wrap64,Mq]
theorem aua(s:List Gs)(hs:s.length≤1000)(G:List aS):aZ F 172 [lC s] G=some (Nr s,G):=by
 cases s with
 |nil =>
  refine Qs (p:=0) (m:=2) rfl rfl rfl rfl ?_ ?_
  ·simp (disch:=omega) [wrap64,Mr]
  ·simp (disch:=omega) [wrap64,Mr]
 |cons a s =>
  have hs:s.length+1≤1000:=by simpa using hs
  show aZ F 172 [.slice none 2 (a.row::s.map Gs.row)] G=some (.slice (some 0) 2 (a.row::s.map Gs.row),G);refine Qt (p:=0) rfl rfl rfl (fun m=>by simp) ?_
  simp (disch:=omega) [wrap64,Mr]
noncomputable def DW(d:Dm)(s:Ds)(A B C:List Int):Nat→Ds
 |0=>s
 |i+1=>mB d (DW d s A B C i) (nth A i) (nth B i) (nth C i)
noncomputable def rnR(d:Dm)(s:Ds)(A B C:List Int)(i:Nat):Dr:=mi d (DW d s A B C i) (nth A i) (nth B i) (nth C i)
noncomputable def Nu(d:Dm)(s:Ds)(A B C:List Int)(n:Nat):List Dr:=(List.range n).map (rnR d s A B C)
end Go.Proofs.YtmppfkgfnnebeaaGreatDoor
namespace Go.Proofs.YtmppfkgfnnebeaaGreatDoor
set_option linter.all false
open Go.Vm
end Go.Proofs.YtmppfkgfnnebeaaGreatDoor
namespace Go.Proofs.YtmppfkgfnnebeaaGreatDoor
set_option linter.all false
open Go.Vm
theorem F9{α:Type}[Inhabited α]{l:List α}{i k:Nat}:nth (l.drop k) i=nth l (k+i):=by simp[nth,mn]
theorem afF{d:Dm}{s:Ds}{A B C:List Int}{m:Nat}:∀i,DW d (DW d s A B C m) (A.drop m) (B.drop m) (C.drop m) i=DW d s A B C (m+i)
 |0=>rfl
 |i+1=>by
  rw[←Cr];simp only[DW];rw[afF i,F9,F9,F9]
theorem aCE{d:Dm}{s:Ds}{A B C:List Int}{m n:Nat}:Nu d s A B C m++Nu d (DW d s A B C m) (A.drop m) (B.drop m) (C.drop m) n=Nu d s A B C (m+n):=by
 unfold Nu;rw[List.range_add,GV,wG];congr 1;refine Ee fun i _=>?_;unfold rnR;rw[afF,F9,F9,F9];rfl
end Go.Proofs.YtmppfkgfnnebeaaGreatDoor
