/- Parts of the proof, joined: Ref3, Rng1, Gat2, Gat3, Gat4, Gat5, Gat6, Gat7, Dam1. -/
import Derived.Test.YtcelmhaoipbdiaaGreatDoorDb
import Derived.Test.YtcelmhaoipbdiaaGreatDoorDa
namespace Go.Proofs.YtcelmhaoipbdiaaGreatDoor
set_option linter.all false
open Go.Vm
attribute [local simp] mK mL lN mJ
abbrev Hz(R:List (List Int)):V:=.slice none 1 (R.map fun o=>[ints o])
def rb(best:Option (List Int)):V:=match best with
 |none=>.b9
 |some F=>ints F
noncomputable def rv(us:List Un)(ss:List Us)(best:Option (List Int)):List V:=match best with
 |none=>[i64 0,i64 0]
 |some F=>[i64 (iH us F),i64 (iI ss F)]
def iJ(a:List Nat):List V:=dN (a.map fun d:Nat=>(d:Int))
def ob(o:Option (List V)):List (Nat×List V):=match o with
 |none=>[]
 |some c=>[(56,c)]
@[simp] theorem QP{best:Option (List Int)}{d:Nat}:(rb best).ch d=false:=by cases best<;>rfl
@[simp] theorem av9{us:List Un}{ss:List Us}{best:Option (List Int)}{d:Nat}:((rv us ss best).all fun v => !v.cA d)=true:=by cases best<;>rfl
@[simp] theorem awa{a:List Nat}{d:Nat}:((iJ a).all fun v => !v.cA d)=true:=agt
@[simp] theorem awb{o:Option (List V)}:vT 56 (ob o)=[]:=by cases o<;>rfl
@[simp] theorem awc:ob none=[]:=rfl
@[simp] theorem awd{c:List V}:ob (some c)=[(56,c)]:=rfl
@[simp] theorem awe{o:Option (List V)}:kp (Go.Vm.look 56 (ob o)) 56 []=ob o:=by cases o<;>rfl
theorem Ea{a:List Nat}{i:Nat}(h:i<a.length):(iJ a)[i]?=some (i64 ((nth a i:Nat):Int)):=by
 have:=lx (l:=a.map fun d:Nat=>(d:Int)) (i:=i) (by simpa using h)
 rw[xc h]at this;exact this
@[simp] theorem awf{a:List Nat}:(iJ a).length=a.length:=by simp[iJ]
theorem HA{a:List Nat}{i d:Nat}:(iJ a).set i (i64 (d:Int))=iJ (a.set i d):=by
 simp[iJ,List.map_set]
theorem amR{α:Type}[Inhabited α]{l m:List α}{i:Nat}(h:l.length≤i):nth (l++m) i=nth m (i-l.length):=by
 simp[nth,u5 h]
theorem tD{α:Type}[Inhabited α]{l:List α}{i k:Nat}(h:i<k):nth (l.take k) i=nth l i:=by
 simp[nth,kn,h]
theorem amS{n i:Nat}:nth (List.replicate n (0:Int)) i=0:=by
 simp only[nth,List.getD,Mi];split<;>rfl
theorem aaG{l:List Int}{B:Int}(h:∀x∈l,0≤x∧x≤B):∀j:Nat,j≤l.length→0≤(l.take j).sum∧(l.take j).sum≤B*j
 |0,_=>by simp
 |j+1,hj=>by
  have ih:=aaG h j (by omega)
  have:=h _ (rp (show j<l.length from hj));rw[jQ hj];simp only[IE,Mr,List.sum_nil];have e:B*((j+1:Nat):Int)=B*j+B:=by
   rw[show((j+1:Nat):Int)=(j:Int)+1 from rfl,Io,Int.mul_one]
  omega
theorem aaH{R:List (List Int)}{a:List Nat}(h:a.length=R.length):(eh R a).length=R.length:=by simp[eh,h]
theorem amT{R:List (List Int)}{a:List Nat}{us:List Un}{ss:List Us}{release:Int}{fd:Bool}{best:Option (List Int)}{G:List aT}{K:cB}(hn:R.length≤6)(ha:Vd (R.map List.length) a)
  (hb:∀o∈R,∀q∈o,0≤q∧q≤1073741824)
  (hK:∀z,K (.exit 2) ⟨[(0,kc us),(1,jO ss),(3,i64 release),(11,Hz R),(13,.bool fd),(14,rb best),(15,.bG 15 0),(16,.bP 53 1 R.length),(17,.bP 56 1 R.length),(18,i64 (eh R a).sum),(57,.bP 53 1 R.length),(58,i64 R.length),(59,i64 R.length),(60,z)],
   [(15,rv us ss best),(53,iJ a),(56,dN (eh R a))],[],G⟩) :
  go (bd F) Yb (Yc (kc us) (jO ss) release (Hz R) fd (rb best) R.length R.length 0 R.length R.length 0 (rv us ss best) (iJ a) (dN (List.replicate R.length 0)) G) K:=by
 have qT:=D8 ha;simp only[xr]at qT;have lL:=aaH qT;have hpm:∀x∈eh R a,0≤x∧x≤1073741824:=by
  intro x hx;obtain⟨i,hi,rfl⟩:=D5 hx;rw[lL]at hi;have h1:nth (eh R a) i=nth (nth R i) (nth a i):=D6 hi (by omega)
  have h2:=yJ ha i (by simpa using hi)
  rw[xc hi]at h2;rw[h1];exact hb _ (rp hi) _ (rp h2)
 refine go_loop (fun j:Nat=>Yc (kc us) (jO ss) release (Hz R) fd (rb best) R.length R.length ((eh R a).take j).sum R.length R.length j (rv us ss best) (iJ a) (dN ((eh R a).take j++List.replicate (R.length-j) 0)) G)
  (fun j=>j≤R.length) (fun j=>R.length-j) 0 rfl (by simp) (by omega) ?_
 intro j hj;have hs:=aaG hpm j (by omega)
 simp (disch:=omega) [-getElem?_pos,wrap64,Ya];refine bS (fun h1=>?_) (fun h1=>?_)
 ·have h1:j<R.length:=by omega
  have h2:j<a.length:=by omega
  have h3:=yJ ha j (by simpa using h1)
  rw[xc h1]at h3;have h4:nth (eh R a) j=nth (nth R j) (nth a j):=D6 h1 h2;have h5:=hpm _ (rp (show j<(eh R a).length by omega))
  have h6:(dN ((eh R a).take j++List.replicate (R.length-j) 0))[j]?=some (i64 0):=by
   rw[lx (by simp;omega),amR (by simp;omega),amS]
  have e2:((eh R a).take j++List.replicate (R.length-j) (0:Int)).set j (nth (nth R j) (nth a j))=(eh R a).take (j+1)++List.replicate (R.length-(j+1)) 0:=by
   rw[AY _ _ (by simp;omega),jQ (show j<(eh R a).length by omega),h4]
   have:j-((eh R a).take j).length=0:=by simp;omega
   rw[this];obtain⟨m,hm⟩:∃m,R.length-j=m+1:=⟨R.length-j-1,by omega⟩
   rw[hm,zC,ID,show R.length-(j+1)=m by omega]
   simp
  have e3:((eh R a).take (j+1)).sum=((eh R a).take j).sum+nth (nth R j) (nth a j):=by
   rw[jQ (show j<(eh R a).length by omega),h4];simp
  have h7:(dN ((eh R a).take (j+1)++List.replicate (R.length-(j+1)) 0))[j]?=some (i64 (nth (nth R j) (nth a j))):=by
   rw[lx (by simp;omega),qp (by simp;omega),tD (by omega),h4]
  rw[h4]at h5;simp (disch:=omega) [-getElem?_pos,wrap64,Ea h2,bg (l:=R),dV h3,h6,e2,h7];exact bV (j+1) (by simp[e3]) (by omega) (by omega)
 ·obtain rfl:j=R.length:=by omega
  rw[kG (by omega)]
  simpa using hK _
noncomputable abbrev Eb(us:List Un)(ss:List Us)(R:List (List Int))(release:Int)(fd:Bool)(best:Option (List Int))(x:Int)(a:List Nat)(o:Option (List V))(G:List aT):St :=
 ⟨[(0,kc us),(1,jO ss),(3,i64 release),(11,Hz R),(13,.bool fd),(14,rb best),(15,.bG 15 0),(16,.bP 53 1 R.length),(26,i64 x)],(15,rv us ss best)::(53,iJ a)::ob o,[],G⟩
theorem KZ{R:List (List Int)}{a:List Nat}{us:List Un}{ss:List Us}{release:Int}{fd:Bool}{best:Option (List Int)}{o:Option (List V)}{G:List aT}{K:cB}(hn:R.length≤6)(ha:Vd (R.map List.length) a)(hlen:∀o∈R,o.length≤1000)
  (h0:∀z b,inc (R.map List.length) a=none→K (.exit 4) { Eb us ss R release fd best (-1) b o G with env:=(Eb us ss R release fd best (-1) b o G).env++[(124,z)] })
  (h1:∀z (i:Nat),i<R.length→nth a i+1<nth (R.map List.length) i→inc (R.map List.length) a=some (a.take i++(nth a i+1)::List.replicate (R.length-1-i) 0) →
   K (.exit 4) { Eb us ss R release fd best i (a.take (i+1)++List.replicate (R.length-1-i) 0) o G with env:=(Eb us ss R release fd best i a o G).env++[(124,z)] }) :
  go (bd F) Yd (Eb us ss R release fd best (R.length-1) a o G) K:=by
 have qT:=D8 ha;simp only[xr]at qT;refine go_loop (fun k:Nat=>Eb us ss R release fd best (k-1) (a.take k++List.replicate (R.length-k) 0) o G)
  (fun k=>k≤R.length∧∀j,k≤j→j<R.length→nth a j+1=nth (R.map List.length) j) (fun k=>k) R.length rfl (by rw[kG (by omega)];simp) ⟨by omega,by omega⟩ ?_
 rintro k ⟨hk,hm⟩;by_cases JZ:k=0
 ·subst JZ
  simp +contextual (disch:=omega) [-getElem?_pos,wrap64,PJ];exact h0 _ _ (QM ha fun j hj=>hm j (by omega) (by simpa using hj))
 ·have e1:0≤(k:Int)-1:=by omega
  have e2:((k:Int)-1).toNat=k-1:=by omega
  have h3:k-1<R.length:=by omega
  have h4:(iJ (a.take k++List.replicate (R.length-k) 0))[k-1]?=some (i64 ((nth a (k-1):Nat):Int)):=by
   rw[Ea (by simp;omega),qp (by simp;omega),tD (by omega)]
  have h5:=hlen _ (rp h3);have h6:=yJ ha (k-1) (by simpa using h3)
  rw[xc h3]at h6;have h7:(iJ (a.take k++List.replicate (R.length-k) 0)).set (k-1) (i64 0)=iJ (a.take (k-1)++List.replicate (R.length-(k-1)) 0):=by
   have:=HA (a:=a.take k++List.replicate (R.length-k) 0) (i:=k-1) (d:=0);rw[show(i64 ((0:Nat):Int))=i64 0 from rfl]at this;rw[this];congr 1;obtain⟨m,rfl⟩:∃m,k=m+1:=⟨k-1,by omega⟩
   rw[jQ (show m<a.length by omega)]
   have hl:(a.take m).length=m:=by simp;omega
   rw[u4,qC,AY _ _ (by omega),hl,qD]
   simp only[SO,ID];rw[show R.length-m=(R.length-(m+1))+1 by omega,zC]
  have h8:nth (R.map List.length) (k-1)=(nth R (k-1)).length:=xc h3;simp +contextual (disch:=omega) [-getElem?_pos,wrap64,PJ,e1,e2,h4,bg (l:=R)];refine bS (fun h9=>?_) (fun h9=>?_)
  ·have fT:k≤(iJ (a.take k++List.replicate (R.length-k) 0)).length:=by simp;omega
   simp +contextual (disch:=omega) [-getElem?_pos,wrap64,fT,h7];refine bV (k-1) ?_ ⟨by omega,fun j a1 a2=>?_⟩ (by omega)
   ·rw[show(((k-1:Nat)):Int)=(k:Int)-1 by omega]
    simp
   ·rcases cF j k with kL|kL
    ·obtain rfl:j=k-1:=by omega
     rw[h8];omega
    ·exact hm j kL a2
  ·have bB:nth a (k-1)+1<nth (R.map List.length) (k-1):=by rw[h8];omega
   have hi:=aaE (i:=k-1) ha (by simpa using h3) (fun j a1 a2=>hm j (by omega) (by simpa using a2)) bB
   simp only[xr]at hi;have:=h1 (.bool (decide (((nth a (k-1):Nat):Int)=((nth R (k-1)).length:Int)-1))) (k-1) h3 bB hi;rw[show(((k-1:Nat)):Int)=(k:Int)-1 by omega,show k-1+1=k by omega,show R.length-1-(k-1)=R.length-k by omega]at this
   exact this
theorem aaJ{us:List Un}{ss:List Us}{g:Int}(h:us.length=ss.length):(nf us ss g).length=us.length:=by simp[nf,h]
theorem amU(us:List Un)(ss:List Us)(g:Int):List.zipWith (KY g) us ss=(nf us ss g).map fun o=>[ints o]:=by
 rw[nf,List.map_zipWith]
theorem amV{us:List Un}{ss:List Us}{g:Int}(h:KV us ss g){o:List Int}(ho:o∈nf us ss g):(0<o.length∧o.length≤1000)∧∀q∈o,0≤q∧q≤1073741824:=by
 have hl:=h.len;obtain⟨i,hi,rfl⟩:=D5 ho;rw[aaJ hl]at hi;have e:nth (nf us ss g) i=tC (nth us i) (nth ss i) g:=D6 hi (by omega)
 rw[e];have h1:=amI (s:=nth ss i) (h.aai i hi);refine⟨⟨amO (h.valid i hi),by omega⟩,fun q hq=>?_⟩
 simp only[tC,xt,jA]at hq;exact KR hq.2
noncomputable abbrev K0(us:List Un)(ss:List Us)(R:List (List Int))(release:Int)(best:Option (List Int))(a:List Nat)(o:Option (List V))(G:List aT):St :=
 ⟨[(0,kc us),(1,jO ss),(3,i64 release),(11,Hz R),(13,.bool best.isSome),(14,rb best),(15,.bG 15 0),(16,.bP 53 1 R.length)],(15,rv us ss best)::(53,iJ a)::ob o,[],G⟩
theorem amW{R:List (List Int)}{us:List Un}{ss:List Us}{release:Int}{G:List aT}{K:cB}(hn:R.length≤6)(vG:us.length≤6)(hRl:R.length=us.length)(uM:∀o∈R,(0<o.length∧o.length≤1000)∧∀q∈o,0≤q∧q≤1073741824)
  (oW:∀a,Vd (R.map List.length) a→B2 us ss (eh R a)=some ((eh R a).sum,iH us (eh R a),iI ss (eh R a)))
  (hz:Vd (R.map List.length) (List.replicate R.length 0))
  (hK:∀best b o z,Kn us ss R release (qu (R.map List.length)) best→K (.exit 0) { K0 us ss R release best b o G with env:=(K0 us ss R release best b o G).env++[(26,i64 (-1)),(131,z)] }) :
  go (bd F) Yf (K0 us ss R release none (List.replicate R.length 0) none G) K:=by
 refine go_loop (fun x:List Nat×Option (List Int)×Option (List V)=>K0 us ss R release x.2.1 x.1 x.2.2 G) (fun x=>Vd (R.map List.length) x.1∧Kn us ss R release (rk (R.map List.length) x.1) x.2.1)
  (fun x=>qu (R.map List.length)-rk (R.map List.length) x.1) (List.replicate R.length 0,none,none) rfl (by simp[rb]) ⟨hz,by simp only[QK];intro b _ h;omega⟩ ?_
 rintro⟨a,best,o⟩ ⟨ha,jw⟩;simp only at ha jw;have hrk:=D9 ha;have qT:=D8 ha;simp only[xr]at qT;have lL:=aaH qT;have g5:=aaD ha;replace jw:=amP ha jw;have hva:=oW a ha;have hV:=aae us ss (eh R a) (by omega) []
 rw[hva]at hV;simp only[D3]at hV;have QQ:(List.replicate R.length [V.int .i64 0]).flatten=dN (List.replicate R.length 0):=by
  rw[dN];simp
 simp (disch:=omega) [-getElem?_pos,wrap64,Ye,QQ];refine amT hn ha (fun o ho=>(uM o ho).2) fun z=>?_;simp (disch:=omega) [-getElem?_pos,wrap64,wrap64];refine bS (fun h1=>?_) (fun h1=>?_)
 ·have QR:kH [none] (chunks 1 (dN (eh R a)) 0 R.length)=some ((eh R a).map fun n=>[V.int .i64 n]):=Ot (by omega)
  cases best with
  |none =>
   have xO:uL us ss release (eh R a) none=some (eh R a):=by simp[uL,h1]
   rw[xO]at jw;simp (disch:=omega) [-getElem?_pos,wrap64,QR,hV,rb,rv];refine KZ (best:=some (eh R a)) (o:=none) (fd:=true) hn ha (fun o ho=>(uM o ho).1.2) (fun z b he=>?_) (fun z i hi bB he=>?_)
   ·rw[he]at g5
    simp only at g5;rw[g5]at jw;simp (disch:=omega) [-getElem?_pos,wrap64,rb,rv];exact hK _ b none _ jw
   ·rw[he]at g5
    simp only at g5;rw[←g5.2]at jw;have q1:(iJ (a.take (i+1)++List.replicate (R.length-1-i) 0))[i]?=some (i64 ((nth a i:Nat):Int)):=by
     rw[Ea (by simp;omega),qp (by simp;omega),tD (by omega)]
    have q2:=yJ ha i (by simpa using hi)
    rw[xc hi]at q2;have q3:=(uM _ (rp hi)).1.2;have q7:¬(i:Int)<0:=by omega
    have q4:i<a.length:=by omega
    have q5:(iJ (a.take (i+1)++List.replicate (R.length-1-i) 0)).set i (i64 (((nth a i:Nat):Int)+1))=iJ (a.take i++(nth a i+1)::List.replicate (R.length-1-i) 0):=by
     have:=HA (a:=a.take (i+1)++List.replicate (R.length-1-i) 0) (i:=i) (d:=nth a i+1);rw[show(i64 ((nth a i+1:Nat):Int))=i64 (((nth a i:Nat):Int)+1) from rfl]at this;rw[this,jQ q4,u4,AY _ _ (by simp;omega)]
     have:(a.take i).length=i:=by simp;omega
     rw[this,qD];rfl
    have q6:i<(iJ (a.take (i+1)++List.replicate (R.length-1-i) 0)).length:=by simp;omega
    simp (disch:=omega) [-getElem?_pos,wrap64,q1,q5,q6,q7,rb,rv];exact bV (a.take i++(nth a i+1)::List.replicate (R.length-1-i) 0,some (eh R a),none) (by simp[rb,rv]) ⟨g5.1,jw⟩ (by simp only;omega)
  |some E =>
   by_cases yH:jP (iH us (eh R a),iI ss (eh R a)) (iH us E,iI ss E) (eh R a) E
   ·have xO:uL us ss release (eh R a) (some E)=some (eh R a):=by simp[uL,h1,yH]
    rw[xO]at jw;have hB:=aad (iH us (eh R a),iI ss (eh R a)) (iH us E,iI ss E) (eh R a) E (by omega) []
    rw[fL yH]at hB;simp (disch:=omega) [-getElem?_pos,wrap64,QR,hV,rb,rv,hB];refine KZ (best:=some (eh R a)) (o:=none) (fd:=true) hn ha (fun o ho=>(uM o ho).1.2) (fun z b he=>?_) (fun z i hi bB he=>?_)
    ·rw[he]at g5
     simp only at g5;rw[g5]at jw;simp (disch:=omega) [-getElem?_pos,wrap64,rb,rv];exact hK _ b none _ jw
    ·rw[he]at g5
     simp only at g5;rw[←g5.2]at jw;have q1:(iJ (a.take (i+1)++List.replicate (R.length-1-i) 0))[i]?=some (i64 ((nth a i:Nat):Int)):=by
      rw[Ea (by simp;omega),qp (by simp;omega),tD (by omega)]
     have q2:=yJ ha i (by simpa using hi)
     rw[xc hi]at q2;have q3:=(uM _ (rp hi)).1.2;have q7:¬(i:Int)<0:=by omega
     have q4:i<a.length:=by omega
     have q5:(iJ (a.take (i+1)++List.replicate (R.length-1-i) 0)).set i (i64 (((nth a i:Nat):Int)+1))=iJ (a.take i++(nth a i+1)::List.replicate (R.length-1-i) 0):=by
      have:=HA (a:=a.take (i+1)++List.replicate (R.length-1-i) 0) (i:=i) (d:=nth a i+1);rw[show(i64 ((nth a i+1:Nat):Int))=i64 (((nth a i:Nat):Int)+1) from rfl]at this;rw[this,jQ q4,u4,AY _ _ (by simp;omega)]
      have:(a.take i).length=i:=by simp;omega
      rw[this,qD];rfl
     have q6:i<(iJ (a.take (i+1)++List.replicate (R.length-1-i) 0)).length:=by simp;omega
     simp (disch:=omega) [-getElem?_pos,wrap64,q1,q5,q6,q7,rb,rv];exact bV (a.take i++(nth a i+1)::List.replicate (R.length-1-i) 0,some (eh R a),none) (by simp[rb,rv]) ⟨g5.1,jw⟩ (by simp only;omega)
   ·have xO:uL us ss release (eh R a) (some E)=some E:=by simp[uL,h1,yH]
    rw[xO]at jw;have hB:=aad (iH us (eh R a),iI ss (eh R a)) (iH us E,iI ss E) (eh R a) E (by omega) []
    rw[decide_eq_false yH]at hB;simp (disch:=omega) [-getElem?_pos,wrap64,QR,hV,rb,rv,hB];refine KZ (best:=some E) (o:=none) (fd:=true) hn ha (fun o ho=>(uM o ho).1.2) (fun z b he=>?_) (fun z i hi bB he=>?_)
    ·rw[he]at g5
     simp only at g5;rw[g5]at jw;simp (disch:=omega) [-getElem?_pos,wrap64,rb,rv];exact hK _ b none _ jw
    ·rw[he]at g5
     simp only at g5;rw[←g5.2]at jw;have q1:(iJ (a.take (i+1)++List.replicate (R.length-1-i) 0))[i]?=some (i64 ((nth a i:Nat):Int)):=by
      rw[Ea (by simp;omega),qp (by simp;omega),tD (by omega)]
     have q2:=yJ ha i (by simpa using hi)
     rw[xc hi]at q2;have q3:=(uM _ (rp hi)).1.2;have q7:¬(i:Int)<0:=by omega
     have q4:i<a.length:=by omega
     have q5:(iJ (a.take (i+1)++List.replicate (R.length-1-i) 0)).set i (i64 (((nth a i:Nat):Int)+1))=iJ (a.take i++(nth a i+1)::List.replicate (R.length-1-i) 0):=by
      have:=HA (a:=a.take (i+1)++List.replicate (R.length-1-i) 0) (i:=i) (d:=nth a i+1);rw[show(i64 ((nth a i+1:Nat):Int))=i64 (((nth a i:Nat):Int)+1) from rfl]at this;rw[this,jQ q4,u4,AY _ _ (by simp;omega)]
      have:(a.take i).length=i:=by simp;omega
      rw[this,qD];rfl
     have q6:i<(iJ (a.take (i+1)++List.replicate (R.length-1-i) 0)).length:=by simp;omega
     simp (disch:=omega) [-getElem?_pos,wrap64,q1,q5,q6,q7,rb,rv];exact bV (a.take i++(nth a i+1)::List.replicate (R.length-1-i) 0,some E,none) (by simp[rb,rv]) ⟨g5.1,jw⟩ (by simp only;omega)
 ·have xO:uL us ss release (eh R a) best=best:=by
   cases best with
   |none=>simp[uL,h1]
   |some F=>simp[uL,h1]
  rw[xO]at jw;refine KZ (best:=best) (o:=(some (dN (eh R a)))) (fd:=best.isSome) hn ha (fun o ho=>(uM o ho).1.2) (fun z b he=>?_) (fun z i hi bB he=>?_)
  ·rw[he]at g5
   simp only at g5;rw[g5]at jw;simp (disch:=omega) [-getElem?_pos,wrap64,QP];exact hK _ b (some (dN (eh R a))) _ jw
  ·rw[he]at g5
   simp only at g5;rw[←g5.2]at jw;have q1:(iJ (a.take (i+1)++List.replicate (R.length-1-i) 0))[i]?=some (i64 ((nth a i:Nat):Int)):=by
    rw[Ea (by simp;omega),qp (by simp;omega),tD (by omega)]
   have q2:=yJ ha i (by simpa using hi)
   rw[xc hi]at q2;have q3:=(uM _ (rp hi)).1.2;have q7:¬(i:Int)<0:=by omega
   have q4:i<a.length:=by omega
   have q5:(iJ (a.take (i+1)++List.replicate (R.length-1-i) 0)).set i (i64 (((nth a i:Nat):Int)+1))=iJ (a.take i++(nth a i+1)::List.replicate (R.length-1-i) 0):=by
    have:=HA (a:=a.take (i+1)++List.replicate (R.length-1-i) 0) (i:=i) (d:=nth a i+1);rw[show(i64 ((nth a i+1:Nat):Int))=i64 (((nth a i:Nat):Int)+1) from rfl]at this;rw[this,jQ q4,u4,AY _ _ (by simp;omega)]
    have:(a.take i).length=i:=by simp;omega
    rw[this,qD];rfl
   have q6:i<(iJ (a.take (i+1)++List.replicate (R.length-1-i) 0)).length:=by simp;omega
   simp (disch:=omega) [-getElem?_pos,wrap64,q1,q5,q6,q7,QP];exact bV (a.take i++(nth a i+1)::List.replicate (R.length-1-i) 0,best,(some (dN (eh R a)))) (by simp[QP]) ⟨g5.1,jw⟩ (by simp only;omega)
theorem amY(us:List Un)(ss:List Us)(g release:Int)(G:List aT):∃t,bd F 144 [kc us,jO ss,i64 g,i64 release] G=some (.tuple [.slice t 1 ((g7 us ss g release).map fun n=>[i64 n]),i64 (ke us ss g release)],G):=by
 suffices h:∀Q:V→Prop,(∀t,Q (.tuple [.slice t 1 ((g7 us ss g release).map fun n=>[i64 n]),i64 (ke us ss g release)]))→gU (bd F) 144 [kc us,jO ss,i64 g,i64 release] G fun v G'=>Q v∧G'=G by
  obtain⟨_,_,h,⟨t,rfl⟩,rfl⟩:=h (fun v=>∃t,v=.tuple [.slice t 1 ((g7 us ss g release).map fun n=>[i64 n]),i64 (ke us ss g release)]) fun t=>⟨t,rfl⟩;exact⟨t,h⟩
 intro Q hQ;refine ic rfl rfl ?_;have HB:=amH us ss g [];by_cases hw:AE us ss g=0
 ·obtain⟨w1,w2,w3,w4⟩:us.length≤6∧us.length=ss.length∧B3 us ss∧(1≤g∧g≤1073741824):=by
   unfold AE at hw;split at hw
   ·cases hw
   ·split at hw
    ·cases hw
    ·split at hw
     ·cases hw
     ·split at hw
      ·cases hw
      ·rename_i a1 a2 a3 a4
       exact⟨by omega,gW a2,gW a3,by omega⟩
  have pe:qq us ss g release=if g<1∨1073741824<g∨release<0∨1073741824<release then 1 else if 200*g<release then 10 else if ¬B4 us g then 10 else 0:=by
   unfold qq;rw[aA (by omega),aA (fun h=>h w2),aA (fun h=>h w3)]
  by_cases hr:release<0∨1073741824<release
  ·rw[aP (by omega)]at pe
   have eL:g7 us ss g release=[]:=by simp[g7,pe]
   have eE:ke us ss g release=1:=by simp[ke,pe]
   rw[eL,eE]at hQ;have h8:(!decide (0≤release) || !decide (release≤1073741824))=true:=by simp;omega
   simp (disch:=omega) [wrap64,DX,HB,hw,cV,h8];exact hQ _
  ·rw[aA (by omega)]at pe
   have h8:(!decide (0≤release) || !decide (release≤1073741824))=false:=by simp;omega
   by_cases h9:200*g<release
   ·rw[aP h9]at pe
    have eL:g7 us ss g release=[]:=by simp[g7,pe]
    have eE:ke us ss g release=10:=by simp[ke,pe]
    rw[eL,eE]at hQ;simp (disch:=omega) [wrap64,DX,HB,hw,cV,h8,h9];exact hQ _
   ·rw[aA h9]at pe
    have hA:=amM w2 (by omega) w3 g []
    by_cases hF:B4 us g
    ·rw[aA (fun h=>h hF)]at pe
     have hE:AF us g=0:=by simp[AF,hF]
     rw[hE,aP rfl,amU]at hA;have h0:=(QH pe).1;have B9:=aau h0 (left:=release) (by omega)
     have eL:g7 us ss g release=(mN (ja us ss g) release).getD []:=by simp[g7,pe]
     have eE:ke us ss g release=if mN (ja us ss g) release=none then 9 else 0:=by simp[ke,pe]
     have hRl:=aaJ (g:=g) w2;have uM:=fun o (ho:o∈nf us ss g)=>amV h0 ho;have oW:∀a,Vd ((nf us ss g).map List.length) a→B2 us ss (eh (nf us ss g) a)=some ((eh (nf us ss g) a).sum,iH us (eh (nf us ss g) a),iI ss (eh (nf us ss g) a)):=fun a ha=>aax ((Hy w2).1 (QN ha));have amZ:Kn us ss (nf us ss g) release (qu ((nf us ss g).map List.length)) none→∀F,mh g us ss F→release<F.sum:=aaF (g:=g) w2;have am0:∀F,Kn us ss (nf us ss g) release (qu ((nf us ss g).map List.length)) (some F)→B7 g us ss release F:=fun F=>aaF (g:=g) w2;generalize hR:nf us ss g=R at *
     have hz:Vd (R.map List.length) (List.replicate R.length 0):=by
      have:=QL (ns:=R.map List.length) fun n hn=>by
       obtain⟨o,ho,rfl⟩:=lV.1 hn;exact(uM o ho).1.1
      simpa using this
     simp (disch:=omega) [wrap64,DX,HB,hw,cV,h8,h9,hA];have QQ:List.replicate R.length (V.int .i64 0)=iJ (List.replicate R.length 0):=by simp[iJ,dN]
     rw[QQ];refine amW (us:=us) (ss:=ss) (release:=release) (by omega) w1 hRl uM oW hz fun best b o z jw=>?_
     cases best with
     |none =>
      have hb:=amZ jw;have ji:mN (ja us ss g) release=none:=by
       cases hc:mN (ja us ss g) release with
       |none=>rfl
       |some F =>
        rw[hc]at B9;have:=hb F B9.mh;have:=B9.sum;omega
      rw[eL,eE,ji]at hQ;simp only[if_true,Mx]at hQ;simp (disch:=omega) [wrap64,rb];exact hQ _
     |some F =>
      have hb:=am0 F jw;have hso:mN (ja us ss g) release=some F:=by
       cases hc:mN (ja us ss g) release with
       |none =>
        rw[hc]at B9;have:=B9 F hb.mh;have:=hb.sum;omega
       |some E =>
        rw[hc]at B9;rw[B7.unique B9 hb]
      rw[eL,eE,hso]at hQ;simp only[IL,reduceCtorEq,if_false]at hQ;simp (disch:=omega) [wrap64,rb];exact hQ _
    ·rw[aP hF]at pe
     have hE:AF us g=10:=by simp[AF,hF]
     have eL:g7 us ss g release=[]:=by simp[g7,pe]
     have eE:ke us ss g release=10:=by simp[ke,pe]
     rw[hE,aA (by omega)]at hA
     rw[eL,eE]at hQ;simp (disch:=omega) [wrap64,DX,HB,hw,cV,h8,h9,hA];exact hQ _
 ·have pe:qq us ss g release=AE us ss g:=by
   unfold AE at hw ⊢;unfold qq;split
   ·rfl
   ·split
    ·rfl
    ·split
     ·rfl
     ·rename_i a1 a2 a3
      simp only[a1,a2,a3,if_false]at hw;split at hw
      ·rw[aP (by omega),aP (by assumption)]
      ·exact absurd rfl hw
  have am2:¬qq us ss g release=0:=by rw[pe];exact hw
  have eL:g7 us ss g release=[]:=by simp[g7,am2]
  have eE:ke us ss g release=AE us ss g:=by simp[ke,pe,hw]
  rw[eL,eE]at hQ;simp (disch:=omega) [wrap64,DX,HB,hw];exact hQ _
end Go.Proofs.YtcelmhaoipbdiaaGreatDoor
namespace Go.Proofs.YtcelmhaoipbdiaaGreatDoor
set_option linter.all false
open Go.Vm
end Go.Proofs.YtcelmhaoipbdiaaGreatDoor
namespace Go.Proofs.YtcelmhaoipbdiaaGreatDoor
set_option linter.all false
open Go.Vm
attribute [local simp] mK mL lN mJ
structure Gs where
 o:Int
 j:Bool
 deriving Inhabited,DecidableEq
abbrev Gs.row(s:Gs):List V:=[i64 s.o,.bool s.j]
abbrev gs(s:Gs):V:=.agg s.row
abbrev jR(l:List Gt):V:=.slice none 3 (l.map Gt.row)
abbrev jH(l:List Gs):V:=.slice none 2 (l.map Gs.row)
def uN(l:List Rt)(lv:Int):Option (List Pt):=l.foldl (fun a r=>if r.lv≤lv then some r.c else a) none
def ru(l:List Rt)(lv:Int):List Pt:=(uN l lv).getD []
theorem HC{l:List Rt}{r:Rt}{lv:Int}:uN (l++[r]) lv=if r.lv≤lv then some r.c else uN l lv:=by
 simp[uN,List.foldl_append]
def AG:Option (List Pt)→V
 |none=>.b9
 |some c=>iA c
@[simp] theorem awh{o:Option (List Pt)}{d:Nat}:(AG o).cA d=false:=by cases o<;>rfl
@[simp] theorem awi{o:Option (List Pt)}:(AG o).cI=true:=by cases o<;>rfl
def sM(c:List Pt)(o:Int):Int:=if c.length=0 then 0 else ig c o
structure Gv(g:Gt):Prop where
 cur:∀i,i<g.r.length→fW (nth g.r i).c=0
 top:∀i,i<g.r.length→(nth (nth g.r i).c ((nth g.r i).c.length-1)).y≤1073741824
 bot:∀i,i<g.r.length→(nth (nth g.r i).c 0).x=0∧(nth (nth g.r i).c 0).y=0
 kb:0<g.r.length∧g.r.length≤10
 c9:0≤g.c9∧g.c9≤1000
 move:0≤g.move∧g.move≤1000
theorem aaL{g:Gt}(h:kd g=0):Gv g:=by
 unfold kd at h;split at h
 ·cases h
 split at h
 ·cases h
 split at h
 ·rename_i h3;exact absurd h h3
 split at h
 ·cases h
 rename_i h1 h2 h3 h4;have h3:dI (oA g.r) g.r.length 0=0:=gW h3;have at_:∀i,i<g.r.length→fW (nth g.r i).c=0∧((nth (nth g.r i).c 0).x=0∧(nth (nth g.r i).c 0).y=0)∧(nth (nth g.r i).c ((nth g.r i).c.length-1)).y≤1073741824:=fun i hi=>by
  have:=sy h3 i (by omega) (by omega)
  unfold oA at this;split at this
  ·cases this
  split at this
  ·cases this
  split at this
  ·rename_i h5;exact absurd this h5
  split at this
  ·cases this
  split at this
  ·cases this
  rename_i h5 h6 h7;exact⟨gW h5,gW h6,by omega⟩
 exact⟨fun i hi=>(at_ i hi).1,fun i hi=>(at_ i hi).2.2,fun i hi=>(at_ i hi).2.1,by omega,by omega,by omega⟩
theorem aaM{P:List Pt→Prop}{l:List Rt}{lv:Int}(h:∀i,i<l.length→P (nth l i).c):ru l lv=[]∨P (ru l lv):=by
 have key:∀k,k≤l.length→∀c,uN (l.take k) lv=some c→P c:=by
  intro k;induction k with
  |zero=>intro _ c hc;simp[uN]at hc
  |succ k ih =>
   intro hk c hc;rw[jQ (by omega),HC]at hc
   split at hc
   ·cases hc;exact h k (by omega)
   ·exact ih (by omega) c hc
 have:=key l.length (bR _);rw[pq]at this;unfold ru;cases hc:uN l lv with
 |none=>exact .inl rfl
 |some c=>exact .inr (this c hc)
theorem aaN{g:Gt}(hv:Gv g)(lv:Int)(G:List aT):∃t,bd F 240 [gt g,i64 lv] G=some (.agg [.slice t 2 ((ru g.r lv).map Pt.row),i64 0],G):=by
 suffices h:∀Q:V→List aT→Prop,(∀t,Q (.agg [.slice t 2 ((ru g.r lv).map Pt.row),i64 0]) G)→gU (bd F) 240 [gt g,i64 lv] G Q by
  obtain⟨_,_,h,t,rfl,rfl⟩:=h (fun v G'=>∃t,v=.agg [.slice t 2 ((ru g.r lv).map Pt.row),i64 0]∧G'=G) fun t=>⟨t,rfl,rfl⟩;exact⟨t,h⟩
 intro Q hQ;obtain⟨l,c9,move⟩:=g;have D2:=hv.kb;simp only at D2;refine ic rfl rfl ?_;simp (disch:=omega) [-getElem?_pos,wrap64,Zv];refine go_loop (fun i:Nat=>aln lv (B1 l) l.length i [.b9,i64 0] [AG (uN (l.take i) lv),i64 0] G) (fun i=>i≤l.length) (fun i=>l.length-i) 0 rfl (by simp[uN,AG]) (by omega) ?_
 rintro i hi;simp (disch:=omega) [-getElem?_pos,wrap64,Zu];refine bS (fun h3=>?_) (fun h3=>?_)
 ·have h3:i<l.length:=by omega
  by_cases h4:(nth l i).lv≤lv
  ·simp (disch:=omega) [-getElem?_pos,wrap64,bg (l:=l),h3,h4]
   refine bV (i+1) (by simp[jQ h3,HC,h4,AG]) (by omega) (by omega)
  ·simp (disch:=omega) [-getElem?_pos,wrap64,bg (l:=l),h3,h4]
   refine bV (i+1) (by simp[jQ h3,HC,h4,AG]) (by omega) (by omega)
 ·obtain rfl:i=l.length:=by omega
  rw[pq];cases hc:uN l lv with
  |none =>
   simp only[ru,hc]at hQ;simp (disch:=omega) [-getElem?_pos,wrap64,AG];exact hQ _
  |some c =>
   simp only[ru,hc]at hQ;simp (disch:=omega) [-getElem?_pos,wrap64,AG];exact hQ _
theorem QS{c:List Pt}(h:c=[]∨fW c=0)(w o:Int)(G:List aT):bd F 242 [.agg [iA c,i64 w],i64 o] G=some (i64 (sM c o),G) :=
 bX rfl rfl (by
  rcases h with rfl|h
  ·simp[wrap64,P8,sM]
  ·have hp:=tB h
   have h1:¬ c.length=0:=by omega
   have h2:¬ (c.length:Int)=0:=by omega
   simp[wrap64,P8,sM,KK (mf h),h1,h2])
theorem am3{c:List Pt}(h:c=[]∨fW c=0)(w o:Int)(G:List aT):bd F 239 [.agg [iA c,i64 w],i64 o] G=some (.bool (decide (w≤sM c o)),G) :=
 bX rfl rfl (by
  simp[wrap64,Zt,QS h])
def iT(g:Gt)(o lv:Int):Int:=sM (ru g.r lv) o
theorem am4{g:Gt}(h:Gv g)(o lv:Int)(G:List aT):bd F 185 [gt g,i64 o,i64 lv] G=some (i64 (iT g o lv),G) :=
 bX rfl rfl (by
  obtain⟨l,c9,move⟩:=g;have QT:=h.cur;have D2:=h.kb;simp only at QT D2;generalize hW:iT ⟨l,c9,move⟩ o lv=W;unfold iT ru at hW;simp only at hW;simp (disch:=omega) [-getElem?_pos,wrap64,YO];refine go_loop (fun i:Nat=>akC o lv (sM ((uN (l.take i) lv).getD []) o) (B1 l) l.length i G) (fun i=>i≤l.length) (fun i=>l.length-i) 0 rfl (by simp[uN,sM]) (by omega) ?_
  rintro i hi;simp (disch:=omega) [-getElem?_pos,wrap64,YN];refine bS (fun h3=>?_) (fun h3=>?_)
  ·have h3:i<l.length:=by omega
   have hp:=tB (QT i h3);have hn:¬ (nth l i).c=[]:=fun e=>by rw[e]at hp;simp at hp
   by_cases h4:(nth l i).lv≤lv
   ·simp (disch:=omega) [-getElem?_pos,wrap64,bg (l:=l),h3,h4,Qk,QT]
    refine bV (i+1) (by simp[jQ h3,HC,h4,sM,hn]) (by omega) (by omega)
   ·simp (disch:=omega) [-getElem?_pos,wrap64,bg (l:=l),h3,h4]
    refine bV (i+1) (by simp[jQ h3,HC,h4]) (by omega) (by omega)
  ·obtain rfl:i=l.length:=by omega
   rw[pq];simp (disch:=omega) [-getElem?_pos,wrap64,hW])
def ni(g:Gt)(s:Gs):Prop:=0≤s.o∧s.o≤g.c9
instance {g:Gt} {s:Gs}:Decidable (ni g s):=inferInstanceAs (Decidable (_∧_))
def e8(g:Gt)(s:Gs):Bd:=if s.j then ⟨s.o,s.o⟩ else ⟨max (s.o-g.move) 0,min (s.o+g.move) g.c9⟩
theorem aaO{g:Gt}{s:Gs}(h:Gv g)(hs:ni g s)(G:List aT):bd F 241 [gt g,gs s] G=some (.agg (e8 g s).row,G) :=
 bX rfl rfl (by
  obtain⟨l,c9,move⟩:=g;obtain⟨o,j⟩:=s;have h1:=h.c9;have h2:=h.move;have h3:=hs.1;have h4:=hs.2;simp only at h1 h2 h3 h4;cases j with
  |true=>simp (disch:=omega) [wrap64,P7,e8]
  |false =>
   have e1:max (0:Int) (o-move)=max (o-move) 0:=Int.max_comm _ _;have e2:min c9 (o+move)=min (o+move) c9:=Ma _ _;simp (disch:=omega) [wrap64,P7,e8,e1,e2])
theorem am5{g:Gt}{s:Gs}(h:Gv g)(hs:ni g s)(G:List aT):bd F 184 [gt g,gs s] G=some (.agg (e8 g s).row,G) :=
 bX rfl rfl (by
  obtain⟨l,c9,move⟩:=g;obtain⟨o,j⟩:=s;have h1:=h.c9;have h2:=h.move;have h3:=hs.1;have h4:=hs.2;simp only at h1 h2 h3 h4;cases j with
  |true=>simp (disch:=omega) [wrap64,PT,e8]
  |false =>
   have e1:max (0:Int) (o-move)=max (o-move) 0:=Int.max_comm _ _;have e2:min c9 (o+move)=min (o+move) c9:=Ma _ _;simp (disch:=omega) [wrap64,PT,e8,e1,e2])
theorem K1(g:Gt)(s:Gs)(G:List aT):bd F 255 [gt g,gs s] G=some (.bool (decide (ni g s)),G) :=
 bX rfl rfl (by
  simp[wrap64,Qa,PH,dD,cV,ni];by_cases h1:0≤s.o<;>by_cases h2:s.o≤g.c9<;>simp[h1,h2])
theorem AH(g:Gt)(s:Gs)(G:List aT):bd F 136 [gt g,gs s] G=some (.bool (decide (ni g s)),G) :=
 bX rfl rfl (by
  simp[wrap64,Qa,PH,dD,cV,ni];by_cases h1:0≤s.o<;>by_cases h2:s.o≤g.c9<;>simp[h1,h2])
def yK(g:List Gt)(s:List Gs):Prop:=∀i,i<g.length→ni (nth g i) (nth s i)
noncomputable instance {g:List Gt} {s:List Gs}:Decidable (yK g s):=Classical.propDecidable _
noncomputable def aE(g:List Gt)(s:List Gs)(lv:Int):Int :=
 if 8<g.length then 10 else if g.length≠s.length then 3 else if ¬yK g s then 3
 else if dI (fun i=>kd (nth g i)) g.length 0≠0 then dI (fun i=>kd (nth g i)) g.length 0 else if ¬(0≤lv∧lv≤16777216) then 1 else 0
theorem aaP(g:List Gt)(s:List Gs)(lv:Int)(G:List aT):bd F 250 [jR g,jH s,i64 lv] G=some (i64 (aE g s lv),G) :=
 bX rfl rfl (by
  generalize hW:aE g s lv=W;unfold aE at hW;simp (disch:=omega) [-getElem?_pos,wrap64,P9,PK];refine bS (fun h1=>?_) (fun h1=>gT (fun h2=>?_) (fun h2=>?_))
  ·rw[aP (by omega)]at hW
   exact hW
  ·simp[-List.length_eq_zero_iff,-Int.natCast_eq_zero]at h2
   rw[aA (by omega),aP (by omega)]at hW
   exact hW
  ·simp[-List.length_eq_zero_iff,-Int.natCast_eq_zero]at h2
   rw[aA (by omega),aA (by omega)]at hW
   have hl:g.length=s.length:=by omega
   refine go_loop (fun i:Nat=>alx (jR g) (jH s) lv (jR g) g.length i G) (fun i=>i≤g.length∧∀j,j<i→ni (nth g j) (nth s j)) (fun i=>g.length-i) 0 rfl (by simp) ⟨by omega,by omega⟩ ?_
   rintro i ⟨hi,hv⟩;simp (disch:=omega) [-getElem?_pos,wrap64,ZC];refine bS (fun h3=>?_) (fun h3=>?_)
   ·have h3:i<g.length:=by omega
    by_cases h4:ni (nth g i) (nth s i)
    ·simp (disch:=omega) [-getElem?_pos,wrap64,bg (l:=g),bg (l:=s),K1,AH,h4]
     refine bV (i+1) (by simp) ⟨by omega,fun j hj=>?_⟩ (by omega)
     rcases cF j i with h5|h5
     ·exact hv j h5
     ·rwa [show j=i by omega]
    ·rw[aP (fun h=>h4 (h i h3))]at hW
     simp (disch:=omega) [-getElem?_pos,wrap64,bg (l:=g),bg (l:=s),K1,AH,h4];exact hW
   ·obtain rfl:i=g.length:=by omega
    rw[aA (fun h=>h hv)]at hW;refine go_loop (fun i:Nat=>alz lv (jR g) g.length i G) (fun i=>i≤g.length∧dI (fun i=>kd (nth g i)) (g.length-i) i=dI (fun i=>kd (nth g i)) g.length 0) (fun i=>g.length-i) 0 rfl (by simp) ⟨by omega,rfl⟩ ?_
    rintro i ⟨hi,hq⟩;simp (disch:=omega) [-getElem?_pos,wrap64,ZD];refine bS (fun h3=>?_) (fun h3=>?_)
    ·have h3:i<g.length:=by omega
     rw[ly h3]at hq;by_cases h4:kd (nth g i)=0
     ·rw[aP h4]at hq
      simp (disch:=omega) [-getElem?_pos,wrap64,bg (l:=g),AA,AB,h4];exact bV (i+1) (by simp) ⟨by omega,hq⟩ (by omega)
     ·rw[aA h4]at hq
      rw[←hq,aP h4]at hW;simp (disch:=omega) [-getElem?_pos,wrap64,bg (l:=g),AA,AB,h4];exact hW
    ·obtain rfl:i=g.length:=by omega
     rw[nc]at hq;rw[←hq,aA (by omega)]at hW
     by_cases m1:0≤lv∧lv≤16777216
     ·have m2:(!decide (0≤lv) || !decide (lv≤16777216))=false:=by simp;omega
      rw[aA (by omega)]at hW
      simp (disch:=omega) [-getElem?_pos,wrap64,dD,cV,m2];exact hW
     ·have m2:(!decide (0≤lv) || !decide (lv≤16777216))=true:=by simp;omega
      rw[aP (by omega)]at hW
      simp (disch:=omega) [-getElem?_pos,wrap64,dD,cV,m2];exact hW)
theorem K2(g:List Gt)(s:List Gs)(lv:Int)(G:List aT):bd F 147 [jR g,jH s,i64 lv] G=some (i64 (aE g s lv),G) :=
 bX rfl rfl (by
  generalize hW:aE g s lv=W;unfold aE at hW;simp (disch:=omega) [-getElem?_pos,wrap64,P9,PK];refine bS (fun h1=>?_) (fun h1=>gT (fun h2=>?_) (fun h2=>?_))
  ·rw[aP (by omega)]at hW
   exact hW
  ·simp[-List.length_eq_zero_iff,-Int.natCast_eq_zero]at h2
   rw[aA (by omega),aP (by omega)]at hW
   exact hW
  ·simp[-List.length_eq_zero_iff,-Int.natCast_eq_zero]at h2
   rw[aA (by omega),aA (by omega)]at hW
   have hl:g.length=s.length:=by omega
   refine go_loop (fun i:Nat=>aj2 (jR g) (jH s) lv (jR g) g.length i G) (fun i=>i≤g.length∧∀j,j<i→ni (nth g j) (nth s j)) (fun i=>g.length-i) 0 rfl (by simp) ⟨by omega,by omega⟩ ?_
   rintro i ⟨hi,hv⟩;simp (disch:=omega) [-getElem?_pos,wrap64,Yh];refine bS (fun h3=>?_) (fun h3=>?_)
   ·have h3:i<g.length:=by omega
    by_cases h4:ni (nth g i) (nth s i)
    ·simp (disch:=omega) [-getElem?_pos,wrap64,bg (l:=g),bg (l:=s),K1,AH,h4]
     refine bV (i+1) (by simp) ⟨by omega,fun j hj=>?_⟩ (by omega)
     rcases cF j i with h5|h5
     ·exact hv j h5
     ·rwa [show j=i by omega]
    ·rw[aP (fun h=>h4 (h i h3))]at hW
     simp (disch:=omega) [-getElem?_pos,wrap64,bg (l:=g),bg (l:=s),K1,AH,h4];exact hW
   ·obtain rfl:i=g.length:=by omega
    rw[aA (fun h=>h hv)]at hW;refine go_loop (fun i:Nat=>aj6 lv (jR g) g.length i G) (fun i=>i≤g.length∧dI (fun i=>kd (nth g i)) (g.length-i) i=dI (fun i=>kd (nth g i)) g.length 0) (fun i=>g.length-i) 0 rfl (by simp) ⟨by omega,rfl⟩ ?_
    rintro i ⟨hi,hq⟩;simp (disch:=omega) [-getElem?_pos,wrap64,Yi];refine bS (fun h3=>?_) (fun h3=>?_)
    ·have h3:i<g.length:=by omega
     rw[ly h3]at hq;by_cases h4:kd (nth g i)=0
     ·rw[aP h4]at hq
      simp (disch:=omega) [-getElem?_pos,wrap64,bg (l:=g),AA,AB,h4];exact bV (i+1) (by simp) ⟨by omega,hq⟩ (by omega)
     ·rw[aA h4]at hq
      rw[←hq,aP h4]at hW;simp (disch:=omega) [-getElem?_pos,wrap64,bg (l:=g),AA,AB,h4];exact hW
    ·obtain rfl:i=g.length:=by omega
     rw[nc]at hq;rw[←hq,aA (by omega)]at hW
     by_cases m1:0≤lv∧lv≤16777216
     ·have m2:(!decide (0≤lv) || !decide (lv≤16777216))=false:=by simp;omega
      rw[aA (by omega)]at hW
      simp (disch:=omega) [-getElem?_pos,wrap64,dD,cV,m2];exact hW
     ·have m2:(!decide (0≤lv) || !decide (lv≤16777216))=true:=by simp;omega
      rw[aP (by omega)]at hW
      simp (disch:=omega) [-getElem?_pos,wrap64,dD,cV,m2];exact hW)
theorem am6{c:List Pt}{i:Nat}:oZ c i (nth c (i-1)).x=(nth c (i-1)).y:=by simp[oZ]
theorem am7{c:List Pt}(h:Cv c){k:Nat}(hk:k<c.length){x:Int}(hx:x≤(nth c k).x):ig c x≤(nth c k).y:=by
 rcases Qi h x with h1 | ⟨i,a,b,d,e⟩ | h1
 ·rw[BW h h1];exact h.le (by omega) hk
 ·rw[w7 h a b d e]
  have h2:=Hl h a b d e;rcases cF k i with h3|h3
  ·rcases cF k (i-1) with h4|h4
   ·have:=h.lt h4 (by omega);omega
   ·obtain rfl:k=i-1:=by omega
    have:x=(nth c (i-1)).x:=by omega
    rw[this,am6];omega
  ·have:=h.le h3 hk
   unfold oZ;omega
 ·have hp:=h.pos
  rcases cF k (c.length-1) with h4|h4
  ·have:=h.lt h4 (by omega);omega
  ·obtain rfl:k=c.length-1:=by omega
   rw[KJ h h1];omega
theorem QU{c:List Pt}(h:Cv c){x x':Int}(hx:x≤x'):ig c x≤ig c x':=by
 rcases Qi h x' with h1 | ⟨i,a,b,d,e⟩ | h1
 ·rw[BW h h1,BW h (by omega)];omega
 ·by_cases h2:(nth c (i-1)).x≤x
  ·rw[w7 h a b d e,w7 h a b h2 (by omega)]
   have h3:=h.up i a b;have h4:=h.mono i a b;unfold oZ;have:=Int.tdiv_le_tdiv (a:=((nth c i).y-(nth c (i-1)).y)*(x-(nth c (i-1)).x)) (b:=((nth c i).y-(nth c (i-1)).y)*(x'-(nth c (i-1)).x)) (c:=(nth c i).x-(nth c (i-1)).x) (by omega)
    (Iq (by omega) (by omega))
   omega
  ·have h5:=am7 h (k:=i-1) (by omega) (x:=x) (by omega)
   have h6:=Hl h a b d e;rw[w7 h a b d e];unfold oZ;omega
 ·rw[KJ h h1]
  exact(D0 h x).2
theorem am8{c:List Pt}(h:c=[]∨fW c=0){o o':Int}(ho:o≤o'):sM c o≤sM c o':=by
 rcases h with rfl|h
 ·simp[sM]
 ·unfold sM
  rw[aA (by have:=tB h;omega),aA (by have:=tB h;omega)]
  exact QU (mf h) ho
theorem QV{g:Gt}(h:Gv g)(lv:Int):ru g.r lv=[]∨fW (ru g.r lv)=0:=aaM (P:=fun c=>fW c=0) h.cur
theorem am9{g:Gt}(h:Gv g){lv o o':Int}(ho:o≤o'):iT g o lv≤iT g o' lv:=am8 (QV h lv) ho
theorem tE{g:Gt}(h:Gv g)(o lv:Int):0≤iT g o lv∧iT g o lv≤1073741824:=by
 unfold iT sM;have h1:=aaM (P:=fun c=>fW c=0∧(nth c (c.length-1)).y≤1073741824) (l:=g.r) (lv:=lv) (fun i hi=>⟨h.cur i hi,h.top i hi⟩);rcases h1 with h1 | ⟨h1,h2⟩
 ·rw[h1];simp
 ·rw[aA (by have:=tB h1;omega)]
  have h3:=D0 (mf h1) o;have h4:=(mf h1).y0 0 (tB h1);omega
theorem HD{g:List Gt}{s:List Gs}{lv:Int}(h:aE g s lv=0):g.length≤8∧g.length=s.length∧yK g s∧(∀i,i<g.length→Gv (nth g i))∧0≤lv∧lv≤16777216:=by
 unfold aE at h;split at h
 ·cases h
 split at h
 ·cases h
 split at h
 ·cases h
 split at h
 ·rename_i h1;exact absurd h h1
 split at h
 ·cases h
 rename_i h1 h2 h3 h4 h5;have h4:=gW h4;exact⟨by omega,by omega,gW h3,fun i hi=>aaL (sy h4 i (by omega) (by omega)),by omega⟩
def lB(f:Gt→Gs→Int)(g:List Gt)(s:List Gs)(i:Nat):Int:=(List.zipWith f (g.take i) (s.take i)).sum
theorem HE{f:Gt→Gs→Int}{g:List Gt}{s:List Gs}:lB f g s 0=0:=by simp[lB]
theorem Ca{f:Gt→Gs→Int}{g:List Gt}{s:List Gs}{i:Nat}(h1:i<g.length)(h2:i<s.length):lB f g s (i+1)=lB f g s i+f (nth g i) (nth s i):=by
 unfold lB;rw[yG h1 h2,IE];simp
theorem QW{f:Gt→Gs→Int}{g:List Gt}{s:List Gs}(hl:g.length=s.length)(h:∀i,i<g.length→0≤f (nth g i) (nth s i)∧f (nth g i) (nth s i)≤1073741824):∀i,i≤g.length→0≤lB f g s i∧lB f g s i≤1073741824*i:=by
 intro i;induction i with
 |zero=>intro _;rw[HE];omega
 |succ i ih =>
  intro hi;rw[Ca (by omega) (by omega)]
  have:=ih (by omega)
  have:=h i (by omega)
  omega
def fX(lv:Int)(g:Gt)(s:Gs):Int:=iT g (e8 g s).lo lv
def K3(lv:Int)(g:Gt)(s:Gs):Int:=iT g (e8 g s).hi lv
noncomputable def Ec(g:List Gt)(s:List Gs)(lv:Int):V:=if aE g s lv=0 then .tuple [.agg [i64 (lB (fX lv) g s g.length),i64 (lB (K3 lv) g s g.length)],i64 0] else .tuple [.agg [i64 0,i64 0],i64 (aE g s lv)]
theorem QX(g:List Gt)(s:List Gs)(lv:Int)(G:List aT):bd F 238 [jR g,jH s,i64 lv] G=some (Ec g s lv,G) :=
 bX rfl rfl (by
  generalize hW:Ec g s lv=W;unfold Ec at hW;by_cases he:aE g s lv=0
  ·rw[aP he]at hW
   obtain⟨h1,h2,h3,h4,h5⟩:=HD he;have r1:=QW (f:=fX lv) h2 (fun i hi=>tE (h4 i hi) _ _);have r2:=QW (f:=K3 lv) h2 (fun i hi=>tE (h4 i hi) _ _);simp (disch:=omega) [-getElem?_pos,wrap64,P6,aaP,he];refine go_loop (fun i:Nat=>alk (jH s) lv (jR g) g.length i [i64 0,i64 0] [i64 (lB (fX lv) g s i),i64 (lB (K3 lv) g s i)] G) (fun i=>i≤g.length) (fun i=>g.length-i) 0 rfl (by simp[HE]) (by omega) ?_
   rintro i hi;simp (disch:=omega) [-getElem?_pos,wrap64,Zs];refine bS (fun h6=>?_) (fun h6=>?_)
   ·have h6:i<g.length:=by omega
    have h7:i<s.length:=by omega
    obtain⟨t,ht⟩:=aaN (h4 i h6) lv [];have hr:=aaO (h4 i h6) (h3 i h6);have hf:=QS (QV (h4 i h6) lv);have b1:=r1 i (by omega)
    have b2:=r2 i (by omega)
    have b3:=tE (h4 i h6) (e8 (nth g i) (nth s i)).lo lv;have b4:=tE (h4 i h6) (e8 (nth g i) (nth s i)).hi lv;unfold iT at b3 b4;simp (disch:=omega) [-getElem?_pos,wrap64,bg (l:=g),bg (l:=s),ht,hr,hf];exact bV (i+1) (by simp[Ca h6 h7,fX,K3,iT]) (by omega) (by omega)
   ·obtain rfl:i=g.length:=by omega
    exact hW
  ·rw[aA he]at hW
   simp (disch:=omega) [-getElem?_pos,wrap64,P6,aaP,he];exact hW)
def lC(f:Bd→Int)(g:List Gt)(s:List Gs):List Int:=List.zipWith (fun g s=>f (e8 g s)) g s
theorem AI{f:Bd→Int}{g:List Gt}{s:List Gs}(h:g.length=s.length):(lC f g s).length=g.length:=by simp[lC,h]
theorem HF{f:Bd→Int}{g:List Gt}{s:List Gs}{i:Nat}(h1:i<g.length)(h2:i<s.length):nth (lC f g s) i=f (e8 (nth g i) (nth s i)):=D6 h1 h2
theorem ana{g:List Gt}{s:List Gs}(hl:g.length=s.length)(hn:g.length≤8)(hs:yK g s)(hv:∀i,i<g.length→Gv (nth g i))(G:List aT) :
  bd F 148 [jR g,jH s] G=some (.tuple [own (lC Bd.lo g s),own (lC Bd.hi g s)],G) :=
 bX rfl rfl (by
  simp (disch:=omega) [-getElem?_pos,wrap64,Yk];refine go_loop (fun i:Nat=>aj8 (jH s) (.slice (some 1028) 1 ((lC Bd.lo (g.take i) (s.take i)).map fun n=>[i64 n])) (.slice (some 1033) 1 ((lC Bd.hi (g.take i) (s.take i)).map fun n=>[i64 n])) (jR g) g.length i i i G) (fun i=>i≤g.length) (fun i=>g.length-i) 0 rfl (by simp[lC]) (by omega) ?_
  rintro i hi;have e1:(lC Bd.lo (g.take i) (s.take i)).length=i:=by rw[AI (by simp;omega)];simp;omega
  have e2:(lC Bd.hi (g.take i) (s.take i)).length=i:=by rw[AI (by simp;omega)];simp;omega
  simp (disch:=omega) [-getElem?_pos,wrap64,Yj,e1,e2];refine bS (fun h6=>?_) (fun h6=>?_)
  ·have h6:i<g.length:=by omega
   have h7:i<s.length:=by omega
   have hr:=am5 (hv i h6) (hs i h6);simp (disch:=omega) [-getElem?_pos,wrap64,bg (l:=g),bg (l:=s),hr,e1,e2];refine bV (i+1) ?_ (by omega) (by omega)
   unfold lC;rw[yG h6 h7,yG h6 h7];simp
  ·obtain rfl:i=g.length:=by omega
   have t1:g.take g.length=g:=pq;have t2:s.take g.length=s:=by rw[hl];exact pq
   rw[t1,t2]at *;simp (disch:=omega) [-getElem?_pos,wrap64,e1,e2])
def pV(g:List Gt)(l:List Int)(lv:Int)(i:Nat):Int:=(List.zipWith (fun g o=>iT g o lv) (g.take i) (l.take i)).sum
theorem K4{g:List Gt}{l:List Int}{lv:Int}:pV g l lv 0=0:=by simp[pV]
theorem HG{g:List Gt}{l:List Int}{lv:Int}{i:Nat}(h1:i<g.length)(h2:i<l.length):pV g l lv (i+1)=pV g l lv i+iT (nth g i) (nth l i) lv:=by
 unfold pV;rw[yG h1 h2,IE];simp
theorem anb{g:List Gt}{l:List Int}{lv:Int}(hl:g.length=l.length)(hv:∀i,i<g.length→Gv (nth g i)):∀i,i≤g.length→0≤pV g l lv i∧pV g l lv i≤1073741824*i:=by
 intro i;induction i with
 |zero=>intro _;rw[K4];omega
 |succ i ih =>
  intro hi;rw[HG (by omega) (by omega)]
  have:=ih (by omega)
  have:=tE (hv i (by omega)) (nth l i) lv
  omega
theorem HH{g:List Gt}{l:List Int}(hl:g.length=l.length)(hn:g.length≤8)(hv:∀i,i<g.length→Gv (nth g i))(lv:Int)(G:List aT) :
  bd F 149 [jR g,ints l,i64 lv] G=some (i64 (pV g l lv g.length),G) :=
 bX rfl rfl (by
  generalize hW:pV g l lv g.length=W;simp (disch:=omega) [-getElem?_pos,wrap64,Ym];refine go_loop (fun i:Nat=>akc (ints l) lv (pV g l lv i) (jR g) g.length i G) (fun i=>i≤g.length) (fun i=>g.length-i) 0 rfl (by simp[K4]) (by omega) ?_
  rintro i hi;simp (disch:=omega) [-getElem?_pos,wrap64,Yl];refine bS (fun h6=>?_) (fun h6=>?_)
  ·have h6:i<g.length:=by omega
   have h7:i<l.length:=by omega
   have hr:=am4 (hv i h6);have b1:=anb (lv:=lv) hl hv i (by omega)
   have b2:=tE (hv i h6) (nth l i) lv;simp (disch:=omega) [-getElem?_pos,wrap64,bg (l:=g),dV h7,hr];exact bV (i+1) (by simp[HG h6 h7]) (by omega) (by omega)
  ·obtain rfl:i=g.length:=by omega
   exact hW)
theorem anc{f:Bd→Int}{g:List Gt}{s:List Gs}{lv:Int}(hl:g.length=s.length):∀i,i≤g.length→pV g (lC f g s) lv i=lB (fun g s=>iT g (f (e8 g s)) lv) g s i:=by
 intro i;induction i with
 |zero=>intro _;rw[K4,HE]
 |succ i ih =>
  intro hi;rw[HG (by omega) (by rw[AI hl];omega),Ca (by omega) (by omega),ih (by omega),HF (by omega) (by omega)]
theorem ane{n:Int}(h1:0≤n)(h2:n≤18446744073709551615):IntKind.u64.wrap n=n:=by
 simp[IntKind.wrap,IntKind.bits,IntKind.signed];omega
def aaQ(f:FuncId)(cap:List V)(G:List aT)(N:Int)(p:Int→Bool):Prop:=∀m,0≤m→m<N→bd F f (i64 m::cap) G=some (.bool (p m),G)
theorem anf{f:FuncId}{cap:List V}{G:List aT}{N:Int}{p:Int→Bool}(hN:0≤N)(hN2:N≤1000000)(h:aaQ f cap G N p) :
  ∃r,bd F 251 [i64 N,.fn f cap] G=some (i64 r,G)∧0≤r∧r≤N∧(0<r→p (r-1)=false)∧(r<N→p r=true):=by
 suffices hs:∀Q:V→List aT→Prop,(∀r,0≤r→r≤N→(0<r→p (r-1)=false)→(r<N→p r=true)→Q (i64 r) G)→gU (bd F) 251 [i64 N,.fn f cap] G Q by
  obtain⟨_,_,h,r,rfl,rfl,h1⟩:=hs (fun v G'=>∃r,v=i64 r∧G'=G∧0≤r∧r≤N∧(0<r→p (r-1)=false)∧(r<N→p r=true)) fun r a b c d=>⟨r,rfl,rfl,a,b,c,d⟩;exact⟨r,h,h1⟩
 intro Q hQ;refine ic rfl rfl ?_;simp (disch:=omega) [wrap64,ZF];refine go_loop (fun s:Int×Int=>alB (.fn f cap) s.1 s.2 G) (fun s=>0≤s.1∧s.1≤s.2∧s.2≤N∧(0<s.1→p (s.1-1)=false)∧(s.2<N→p s.2=true)) (fun s=>(s.2-s.1).toNat) (0,N) rfl (by simp) ⟨by simp,by simpa using hN,by simp,by simp,by simp⟩ ?_
 rintro⟨a,b⟩ ⟨h1,h2,h3,h4,h5⟩;simp only at h1 h2 h3 h4 h5;simp (disch:=omega) [wrap64,ZE];refine bS (fun h6=>?_) (fun h6=>?_)
 ·have e1:IntKind.u64.wrap (a+b)=a+b:=ane (by omega) (by omega)
  have e2:(a+b).fdiv 2=(a+b) / 2:=Int.fdiv_eq_ediv_of_nonneg _ (by omega)
  have hp:=h ((a+b) / 2) (by omega) (by omega)
  have e3:(2:Int) ^ (min 1 IntKind.u64.bits)=2:=rfl;simp (disch:=omega) [wrap64,e1,e2,e3,hp];cases hq:p ((a+b) / 2) with
  |false =>
   simp (disch:=omega) [wrap64,wrap64];refine bV ((a+b) / 2+1,b) (by simp) ⟨by simp;omega,by simp;omega,h3,fun _=>?_,h5⟩ (by simp;omega)
   simpa using hq
  |true =>
   simp (disch:=omega) [wrap64,wrap64];exact bV (a,(a+b) / 2) (by simp) ⟨h1,by simp;omega,by simp;omega,h4,fun _=>hq⟩ (by simp;omega)
 ·obtain rfl:a=b:=by omega
  exact hQ a (by omega) (by omega) h4 h5
def uO(p:Int→Bool):Nat→Int→Int
 |0,o=>o
 |n+1,o=>if p o then o else uO p n (o+1)
theorem QY{p:Int→Bool}:∀{n:Nat} {o x:Int},o≤x→x≤o+n→(∀m,o≤m→m<x→p m=false)→(x<o+n→p x=true)→uO p n o=x
 |0,o,x,h1,h2,_,_=>by simp[uO];omega
 |n+1,o,x,h1,h2,h3,h4=>by
  unfold uO;by_cases h:o=x
  ·subst h
   rw[aP (h4 (by omega))]
  ·rw[aA (by rw[h3 o (by omega) (by omega)];simp)]
   exact QY (by omega) (by omega) (fun m a b=>h3 m (by omega) b) (fun a=>h4 (by omega))
theorem ang{f:FuncId}{cap:List V}{G:List aT}{i j:Nat}{lo hi m:Int}{b:Bool}(h1:G[i]?=some (.cells [.fn f cap]))(h2:G[j]?=some (.cells [i64 lo,i64 hi]))
  (hw:-1000000≤lo+m∧lo+m≤1000000) (h:bd F f (i64 (lo+m)::cap) G=some (.bool b,G)):bd F 252 [i64 m,.bI i 0,.bI j 0] G=some (.bool b,G) :=
 bX rfl rfl (by
  have e:IntKind.i64.wrap (lo+m)=lo+m:=wrap64 (by omega) (by omega)
  simp[wrap64,ZG,h1,h2,h,e])
theorem anh{f:FuncId}{cap:List V}{G:List aT}{lo hi:Int}{p:Int→Bool}(hl:0≤lo∧lo≤hi∧hi≤1000)(hp:∀m m',p m=true→m≤m'→p m'=true)
  (h:∀E m,lo≤m→m≤hi→bd F f (i64 m::cap) (G++E)=some (.bool (p m),G++E)) :
  bd F 243 [.agg [i64 lo,i64 hi],.fn f cap] G=some (i64 (uO p (hi-lo).toNat lo),G++[.cells [i64 lo,i64 hi],.cells [.fn f cap]]):=by
 have hs:aaQ 252 [.bI (G.length+1) 0,.bI G.length 0] (G++[.cells [i64 lo,i64 hi],.cells [.fn f cap]]) (hi-lo+1) (fun m=>p (lo+m)):=fun m a b =>
  ang Vu DD (by omega) (h _ _ (by omega) (by omega))
 obtain⟨r,h1,h2,h3,h4,h5⟩:=anf (by omega) (by omega) hs
 have e:uO p (hi-lo).toNat lo=min (lo+r) hi:=by
  refine QY (by omega) (by omega) (fun m a b=>?_) (fun a=>?_)
  ·have h6:=h4 (by omega)
   cases hq:p m with
   |false=>rfl
   |true =>
    have:=hp m (lo+(r-1)) hq (by omega)
    rw[h6]at this;cases this
  ·have:=h5 (by omega)
   rw[show min (lo+r) hi=lo+r by omega]
   exact this
 rw[e];exact bX rfl rfl (by
  simp (disch:=omega) [wrap64,Zw,h1,DD,Vu])
theorem ani{G:List aT}{i j:Nat}{m w:Int}{c:List Pt}(h1:G[i]?=some (.cells [.fn 239 []]))(h2:G[j]?=some (.cells [iA c,i64 w]))(hc:c=[]∨fW c=0) :
  bd F 244 [i64 m,.bI i 0,.bI j 0] G=some (.bool (decide (w≤sM c m)),G) :=
 bX rfl rfl (by
  simp[wrap64,Zx,h1,h2,am3 hc])
def pW(lv w:Int)(g:Gt)(s:Gs)(sum:Int):Int :=
 if sum<w then uO (fun o=>decide (w-(sum-fX lv g s)≤iT g o lv)) ((e8 g s).hi-(e8 g s).lo).toNat (e8 g s).lo else (e8 g s).lo
def bs(lv w:Int)(g:List Gt)(s:List Gs):Nat→List Int×Int
 |0=>(lC Bd.lo g s,lB (fX lv) g s g.length)
 |i+1=>((bs lv w g s i).1.set i (pW lv w (nth g i) (nth s i) (bs lv w g s i).2),(bs lv w g s i).2-fX lv (nth g i) (nth s i)+iT (nth g i) (pW lv w (nth g i) (nth s i) (bs lv w g s i).2) lv)
def Ed(o:Int)(s:Gs):Gs:=⟨o,s.j⟩
def mP(l:List Int)(s:List Gs):List Gs:=List.zipWith Ed l s
noncomputable def kR(g:List Gt)(s:List Gs)(lv w:Int):Int:=if aE g s lv≠0 then aE g s lv else if ¬(0≤w∧w≤1073741824) then 1 else 0
noncomputable def oD(g:List Gt)(s:List Gs)(lv w:Int):List Gs:=if kR g s lv w=0 then mP (bs lv w g s g.length).1 s else []
noncomputable def nN(g:List Gt)(s:List Gs)(lv w:Int):Int:=if kR g s lv w=0 then (bs lv w g s g.length).2 else 0
theorem oE{lv w:Int}{g:List Gt}{s:List Gs}(hl:g.length=s.length):∀i,(bs lv w g s i).1.length=g.length
 |0=>AI hl
 |i+1=>by simp[bs,oE hl i]
theorem Cb{g:Gt}{s:Gs}(h:Gv g)(hs:ni g s):0≤(e8 g s).lo∧(e8 g s).lo≤(e8 g s).hi∧(e8 g s).hi≤g.c9:=by
 have h1:=h.c9;have h2:=h.move;have h3:=hs.1;have h4:=hs.2;unfold e8;split
 ·simp only;omega
 ·simp only;omega
theorem aaR{p:Int→Bool}:∀{n:Nat} {o:Int},o≤uO p n o∧uO p n o≤o+n
 |0,o=>by simp[uO]
 |n+1,o=>by
  unfold uO;have:=aaR (p:=p) (n:=n) (o:=o+1);split
  ·omega
  ·omega
theorem anj{lv w:Int}{g:Gt}{s:Gs}(h:Gv g)(hs:ni g s)(sum:Int):(e8 g s).lo≤pW lv w g s sum∧pW lv w g s sum≤(e8 g s).hi:=by
 have:=Cb h hs;unfold pW;split
 ·have:=aaR (p:=fun o=>decide (w-(sum-fX lv g s)≤iT g o lv)) (n:=((e8 g s).hi-(e8 g s).lo).toNat) (o:=(e8 g s).lo)
  omega
 ·omega
theorem ank{lv w:Int}{g:List Gt}{s:List Gs}(hl:g.length=s.length)(hs:yK g s)(hv:∀i,i<g.length→Gv (nth g i)):∀i,i≤g.length →
  lB (fX lv) g s g.length-lB (fX lv) g s i≤(bs lv w g s i).2∧(bs lv w g s i).2≤lB (fX lv) g s g.length-lB (fX lv) g s i+1073741824*i:=by
 intro i;induction i with
 |zero=>intro _;simp[bs,HE]
 |succ i ih =>
  intro hi;have h1:=ih (by omega)
  have h2:=tE (hv i (by omega)) (pW lv w (nth g i) (nth s i) (bs lv w g s i).2) lv
  have h3:=tE (hv i (by omega)) (e8 (nth g i) (nth s i)).lo lv
  rw[Ca (by omega) (by omega)]
  simp only[bs,fX]at h1 ⊢;omega
theorem aaS{lv w:Int}{g:List Gt}{s:List Gs}(hl:g.length=s.length)(hn:g.length≤8)(hs:yK g s)(hv:∀i,i<g.length→Gv (nth g i)){i:Nat}(hi:i≤g.length) :
  0≤(bs lv w g s i).2∧(bs lv w g s i).2≤17179869184∧(i<g.length→fX lv (nth g i) (nth s i)≤(bs lv w g s i).2):=by
 have h1:=ank (lv:=lv) (w:=w) hl hs hv i hi;have r:=QW (f:=fX lv) hl (fun i hi=>tE (hv i hi) _ _);have r1:=r g.length (bR _);have r2:=r i hi;have mono:∀k,i≤k→k≤g.length→lB (fX lv) g s i≤lB (fX lv) g s k:=by
  intro k h;induction k with
  |zero=>intro _;obtain rfl:i=0:=by omega
         omega
  |succ k ih =>
   intro hk;rcases cF k i with h3|h3
   ·obtain rfl:i=k+1:=by omega
    omega
   ·rw[Ca (by omega) (by omega)]
    have:=ih h3 (by omega)
    have:=tE (hv k (by omega)) (e8 (nth g k) (nth s k)).lo lv
    unfold fX;unfold fX at *;omega
 have m1:=mono g.length hi (bR _);refine⟨by omega,by omega,fun h=>?_⟩
 have m2:=mono (i+1) (by omega) (by omega)
 have m3:lB (fX lv) g s (i+1)≤lB (fX lv) g s g.length:=by
  have anl:∀k,i+1≤k→k≤g.length→lB (fX lv) g s (i+1)≤lB (fX lv) g s k:=by
   intro k hk;induction k with
   |zero=>omega
   |succ k ih =>
    intro og;rcases cF k (i+1) with h3|h3
    ·obtain rfl:i=k:=by omega
     omega
    ·rw[Ca (i:=k) (by omega) (by omega)]
     have:=ih h3 (by omega)
     have:=tE (hv k (by omega)) (e8 (nth g k) (nth s k)).lo lv
     unfold fX;unfold fX at *;omega
  exact anl g.length (by omega) (bR _)
 rw[Ca (by omega) (by omega)]at m3
 omega
theorem anm(g:List Gt)(s:List Gs)(lv w:Int):∃G',bd F 231 [jR g,jH s,i64 lv,i64 w] []=some (.tuple [.slice (some 0) 2 ((oD g s lv w).map Gs.row),i64 (nN g s lv w),i64 (kR g s lv w)],G'):=by
 suffices h:∀Q:V→List aT→Prop,(∀G',Q (.tuple [.slice (some 0) 2 ((oD g s lv w).map Gs.row),i64 (nN g s lv w),i64 (kR g s lv w)]) G')→gU (bd F) 231 [jR g,jH s,i64 lv,i64 w] [] Q by
  obtain⟨_,G',h,rfl⟩:=h (fun v G'=>v=.tuple [.slice (some 0) 2 ((oD g s lv w).map Gs.row),i64 (nN g s lv w),i64 (kR g s lv w)]) fun _=>rfl;exact⟨G',h⟩
 intro Q hQ;refine ic rfl rfl ?_;by_cases he:aE g s lv=0
 ·obtain⟨h1,h2,h3,h4,h5⟩:=HD he
  by_cases hw:0≤w∧w≤1073741824
  ·have hE:kR g s lv w=0:=by simp[kR,he,hw]
   simp only[oD,nN,hE,if_true]at hQ;have tp:(!decide (0≤w) || !decide (w≤1073741824))=false:=by simp;omega
   have wj:(decide (0≤w)&&decide (w≤1073741824))=true:=by simp;omega
   have e0:bs lv w g s 0=(lC Bd.lo g s,lB (fX lv) g s g.length):=rfl;simp (disch:=omega) [-getElem?_pos,wrap64,KD,QX,Ec,he,dD,tp,wj];have hou:∀i,i≤g.length→(mP ((bs lv w g s i).1.take i) (s.take i)).length=i:=fun i hi=>by
    have:=oE (lv:=lv) (w:=w) h2 i;simp[mP];omega
   refine go_loop (fun x:Nat×List aT=>ala (jH s) lv w (bs lv w g s x.1).2 (.bI 0 0) (.slice (some 1083) 2 ((mP ((bs lv w g s x.1).1.take x.1) (s.take x.1)).map Gs.row)) (jR g) g.length x.1 x.1 x.2)
    (fun x=>x.1≤g.length∧x.2[0]?=some (.cells [.fn 239 []])) (fun x=>g.length-x.1) (0,[.cells [.fn 239 []]]) rfl (by simp[bs,mP]) ⟨by simp,rfl⟩ ?_
   rintro⟨i,G⟩ ⟨hi,hG⟩;simp only at hi hG;have Ee:=hou i hi;have QZ:0<G.length:=by
    rcases mw G.length with h|h
    ·rw[kF (by omega)]at hG;cases hG
    ·exact h
   simp (disch:=omega) [-getElem?_pos,wrap64,Zm];refine bS (fun h6=>?_) (fun h6=>?_)
   ·have h6:i<g.length:=by omega
    have h7:i<s.length:=by omega
    obtain⟨t,ht⟩:=aaN (h4 i h6) lv [];have hr:=aaO (h4 i h6) (h3 i h6);have hk:=QV (h4 i h6) lv;have hf:=QS hk;have hro:=Cb (h4 i h6) (h3 i h6);have hm:=(h4 i h6).c9;obtain⟨b1,b2,b3⟩:=aaS (lv:=lv) (w:=w) h2 h1 h3 h4 (i:=i) hi;have b3:=b3 h6;have b4:=tE (h4 i h6) (e8 (nth g i) (nth s i)).lo lv;have b5:=tE (h4 i h6) (pW lv w (nth g i) (nth s i) (bs lv w g s i).2) lv;have Cc:=oE (lv:=lv) (w:=w) h2 i;have aaT:mP ((bs lv w g s (i+1)).1.take (i+1)) (s.take (i+1))=mP ((bs lv w g s i).1.take i) (s.take i)++[Ed (pW lv w (nth g i) (nth s i) (bs lv w g s i).2) (nth s i)]:=by
     unfold mP;rw[yG (by rw[oE h2];exact h6) h7]
     simp only[bs];rw[List.take_set_of_le (bR _)];congr 2;simp[nth,Cc,h6]
    by_cases wi:(bs lv w g s i).2<w
    ·have xK:pW lv w (nth g i) (nth s i) (bs lv w g s i).2=uO (fun o=>decide (w-((bs lv w g s i).2-fX lv (nth g i) (nth s i))≤iT (nth g i) o lv)) ((e8 (nth g i) (nth s i)).hi-(e8 (nth g i) (nth s i)).lo).toNat (e8 (nth g i) (nth s i)).lo:=by
      unfold pW;rw[aP wi]
     have hL:=anh (f:=244) (cap:=[.bI 0 0,.bI G.length 0]) (G:=G++[.cells [iA (ru (nth g i).r lv),i64 (w-((bs lv w g s i).2-fX lv (nth g i) (nth s i)))]]) (lo:=(e8 (nth g i) (nth s i)).lo) (hi:=(e8 (nth g i) (nth s i)).hi)
      (p:=fun o=>decide (w-((bs lv w g s i).2-fX lv (nth g i) (nth s i))≤iT (nth g i) o lv)) (by omega) (fun m m' hp xz=>by
       have:=am9 (h4 i h6) (lv:=lv) xz;simp only[jA]at hp ⊢;omega) (fun E m _ _=>ani (by rw[u4,sW QZ];exact hG) (by rw[u4];exact DD) hk)
     rw[←xK]at hL;unfold fX iT at hL b3;unfold iT at b4 b5;simp (disch:=omega) [-getElem?_pos,wrap64,bg (l:=g),bg (l:=s),ht,hr,hf,DD,wi];simp (disch:=omega) [-getElem?_pos,wrap64,hL,DD,hf,bg (l:=s),Ee];refine bV (i+1,G++[.cells [iA (ru (nth g i).r lv),i64 (w-((bs lv w g s i).2-fX lv (nth g i) (nth s i)))],.cells [i64 (e8 (nth g i) (nth s i)).lo,i64 (e8 (nth g i) (nth s i)).hi],.cells [.fn 244 [.bI 0 0,.bI G.length 0]]])
      (by rw[aaT];simp[bs,fX,iT,Ed,Ee]) ⟨by simp;omega,by simp only;rw[sW QZ];exact hG⟩ (by simp;omega)
    ·have xK:pW lv w (nth g i) (nth s i) (bs lv w g s i).2=(e8 (nth g i) (nth s i)).lo:=by
      unfold pW;rw[aA wi]
     have hb:(bs lv w g s (i+1)).2=(bs lv w g s i).2:=by
      simp only[bs,fX,xK];omega
     simp (disch:=omega) [-getElem?_pos,wrap64,bg (l:=g),bg (l:=s),ht,hr,hf,DD,wi,Ee];refine bV (i+1,G++[.cells [iA (ru (nth g i).r lv),i64 0]])
      (by rw[aaT,hb,xK];simp[Ed,Ee]) ⟨by simp;omega,by simp only;rw[sW QZ];exact hG⟩ (by simp;omega)
   ·obtain rfl:i=g.length:=by omega
    have t1:(bs lv w g s g.length).1.take g.length=(bs lv w g s g.length).1:=kG (by rw[oE h2];omega)
    have t2:s.take g.length=s:=kG (by omega)
    rw[t1,t2]at Ee ⊢;simp (disch:=omega) [-getElem?_pos,wrap64,Ee];exact hQ _
  ·have wj:(decide (0≤w)&&decide (w≤1073741824))=false:=by simp;omega
   have hE:kR g s lv w=1:=by simp[kR,he];omega
   have xd:¬ kR g s lv w=0:=by rw[hE];omega
   simp only[oD,nN,aA xd]at hQ;rw[hE]at hQ;have tp:(!decide (0≤w) || !decide (w≤1073741824))=true:=by simp;omega
   simp (disch:=omega) [-getElem?_pos,wrap64,KD,QX,Ec,he,dD,tp,wj];exact hQ _
 ·have hE:kR g s lv w=aE g s lv:=by simp[kR,he]
  have xd:¬ kR g s lv w=0:=by rw[hE];exact he
  simp only[oD,nN,aA xd]at hQ;rw[hE]at hQ;simp (disch:=omega) [-getElem?_pos,wrap64,KD,QX,Ec,he];exact hQ _
end Go.Proofs.YtcelmhaoipbdiaaGreatDoor
namespace Go.Proofs.YtcelmhaoipbdiaaGreatDoor
set_option linter.all false
open Go.Vm
theorem K5{l:List Int}{i:Nat}{o:Int}(h:i<l.length):nth (l.set i o) i=o:=by simp[nth,h]
theorem aaU{l:List Int}{i k:Nat}{o:Int}(h:i≠k):nth (l.set i o) k=nth l k:=by simp[nth,h]
theorem aaV{l:List Int}{i:Nat}(h:i<l.length):l.set i (nth l i)=l:=by
 apply xq;intro k;by_cases hk:i=k
 ·subst hk
  rw[SH h,bg h]
 ·rw[SG hk]
theorem anp{g:List Gt}{l:List Int}{lv o:Int}{i:Nat}(hl:g.length=l.length)(hi:i<g.length):∀k,k≤g.length→pV g (l.set i o) lv k=pV g l lv k+(if i<k then iT (nth g i) o lv-iT (nth g i) (nth l i) lv else 0):=by
 intro k;induction k with
 |zero=>intro _;simp[K4]
 |succ k ih =>
  intro hk;rw[HG (by omega) (by simp;omega),HG (by omega) (by omega),ih (by omega)]
  by_cases h1:i=k
  ·subst h1
   rw[K5 (by omega),aA (by omega),aP (by omega)]
   omega
  ·rw[aaU h1]
   by_cases h2:i<k
   ·rw[aP h2,aP (by omega)];omega
   ·rw[aA h2,aA (by omega)];omega
section
variable {g:List Gt} {s:List Gs} {lv w:Int}
theorem K6(hl:g.length=s.length):∀{i k:Nat},i≤k→k<g.length→nth (bs lv w g s i).1 k=(e8 (nth g k) (nth s k)).lo:=by
 intro i;induction i with
 |zero=>intro k _ hk;exact HF hk (by omega)
 |succ i ih =>
  intro k h hk;simp only[bs];rw[aaU (by omega)]
  exact ih (by omega) hk
theorem Q0(hl:g.length=s.length){i:Nat}(ht:pV g (bs lv w g s i).1 lv g.length=(bs lv w g s i).2)(hi:i<g.length)(o:Int) :
  pV g ((bs lv w g s i).1.set i o) lv g.length=(bs lv w g s i).2-fX lv (nth g i) (nth s i)+iT (nth g i) o lv:=by
 rw[anp (by rw[oE hl]) hi _ (bR _),aP hi,ht,K6 hl (bR _) hi]
 unfold fX;omega
theorem K7(hl:g.length=s.length):∀i,i≤g.length→pV g (bs lv w g s i).1 lv g.length=(bs lv w g s i).2:=by
 intro i;induction i with
 |zero=>intro _;exact anc hl _ (bR _)
 |succ i ih =>
  intro hi;have:=Q0 hl (ih (by omega)) (by omega) (pW lv w (nth g i) (nth s i) (bs lv w g s i).2)
  simpa only[bs] using this
theorem anq(hl:g.length=s.length){j:Nat}(hw:w≤(bs lv w g s j).2):∀k,j≤k→k≤g.length→bs lv w g s k=bs lv w g s j:=by
 intro k hjk;induction k with
 |zero=>intro _;obtain rfl:j=0:=by omega
        rfl
 |succ k ih =>
  intro hk;rcases cF k j with h|h
  ·obtain rfl:j=k+1:=by omega
   rfl
  ·have h1:=ih h (by omega)
   have ho:pW lv w (nth g k) (nth s k) (bs lv w g s k).2=(e8 (nth g k) (nth s k)).lo:=by
    unfold pW;rw[aA (by rw[h1];omega)]
   have h2:bs lv w g s (k+1)=bs lv w g s k:=by
    have e1:(bs lv w g s k).1.set k (e8 (nth g k) (nth s k)).lo=(bs lv w g s k).1:=by
     rw[←K6 (lv:=lv) (w:=w) hl (bR k) (by omega)]
     exact aaV (by rw[oE hl];omega)
    simp only[bs,ho,fX,e1];rw[show(bs lv w g s k).2-iT (nth g k) (e8 (nth g k) (nth s k)).lo lv+iT (nth g k) (e8 (nth g k) (nth s k)).lo lv=(bs lv w g s k).2 by omega]
   rw[h2,h1]
structure Way(lv w:Int)(g:List Gt)(s:List Gs)(i:Nat)(o:Int):Prop where
 lt:i<g.length
 lo:(e8 (nth g i) (nth s i)).lo≤o
 hi:o≤(e8 (nth g i) (nth s i)).hi
 no:∀p,(e8 (nth g i) (nth s i)).lo≤p→p<o→(bs lv w g s i).2-fX lv (nth g i) (nth s i)+iT (nth g i) p lv<w
theorem Way.done{i:Nat}{o:Int}(h:Way lv w g s i o)(hv:Gv (nth g i))(hs:ni (nth g i) (nth s i))(hd:o=(e8 (nth g i) (nth s i)).hi∨w≤(bs lv w g s i).2-fX lv (nth g i) (nth s i)+iT (nth g i) o lv) :
  pW lv w (nth g i) (nth s i) (bs lv w g s i).2=o:=by
 have h1:=h.lo;have h2:=h.hi;unfold pW;split
 ·refine QY h1 (by omega) (fun p a b=>?_) (fun a=>?_)
  ·have:=h.no p a b
   exact decide_eq_false (by omega)
  ·rcases hd with hd|hd
   ·omega
   ·exact fL (by omega)
 ·rename_i hn
  by_cases he:(e8 (nth g i) (nth s i)).lo=o
  ·exact he
  ·have:=h.no _ (wA _) (by omega)
   unfold fX at this;omega
theorem aaW(hl:g.length=s.length){i:Nat}(hi:i<g.length)(hv:Gv (nth g i))(hs:ni (nth g i) (nth s i)):Way lv w g s i (e8 (nth g i) (nth s i)).lo :=
 ⟨hi,wA _,(Cb hv hs).2.1,fun p a b=>by omega⟩
theorem aaX(hl:g.length=s.length){i:Nat}(hi:i<g.length):(bs lv w g s i).1.set i (e8 (nth g i) (nth s i)).lo=(bs lv w g s i).1:=by
 rw[←K6 (lv:=lv) (w:=w) hl (bR i) hi];exact aaV (by rw[oE hl];exact hi)
end
end Go.Proofs.YtcelmhaoipbdiaaGreatDoor
namespace Go.Proofs.YtcelmhaoipbdiaaGreatDoor
set_option linter.all false
open Go.Vm
attribute [local simp] mK mL lN mJ
theorem aaY{l:List Int}{i:Nat}(h:l.length≤i):nth l i=0:=by
 simp only[nth,List.getD,kF h];rfl
theorem anr(g:List Gt)(s:List Gs)(lv w:Int)(G:List aT):bd F 104 [jR g,jH s,i64 lv,i64 w] G=some (.tuple [.slice (some 0) 2 ((oD g s lv w).map Gs.row),i64 (nN g s lv w),i64 (kR g s lv w)],G) :=
 bX rfl rfl (by
  generalize hW:V.tuple [.slice (some 0) 2 ((oD g s lv w).map Gs.row),i64 (nN g s lv w),i64 (kR g s lv w)]=W;by_cases he:aE g s lv=0
  ·obtain⟨h1,h2,h3,h4,h5⟩:=HD he
   by_cases hw:0≤w∧w≤1073741824
   ·have hE:kR g s lv w=0:=by simp[kR,he,hw]
    simp only[oD,nN,hE,if_true]at hW;have tp:(!decide (0≤w) || !decide (w≤1073741824))=false:=by simp;omega
    have wj:(decide (0≤w)&&decide (w≤1073741824))=true:=by simp;omega
    have xd:=ana h2 h1 h3 h4;by_cases hg:g=[]
    ·subst hg
     have hs0:s=[]:=by simpa using h2.symm
     subst hs0;have hE3:bd F 148 [.slice none 3 [],.slice none 2 []] []=some (.tuple [.slice (some 0) 1 [],.slice (some 0) 1 []],[]):=xd [];have hT3:bd F 149 [.slice none 3 [],.slice none 1 [],i64 lv] []=some (i64 0,[]):=HH (g:=[]) (l:=[]) rfl (by simp) (by simp) lv []
     have e2:jW 20031 0 (.tuple [.slice (some 0) 1 [],.slice (some 0) 1 []])=some (.tuple [.dX 1,.slice none 1 []],none):=rfl;have he0:bd F 147 [.slice none 3 [],.slice none 2 [],i64 lv] []=some (i64 0,[]):=by
      have:=K2 [] [] lv [];rw[he]at this;exact this
     simp (disch:=omega) [-getElem?_pos,wrap64,G5,he0,cV,tp,wj,hE3,e2,Xx,Kl,Xy,Km,yu,hT3];simpa [mP,bs,lB] using hW
    ·have cf:lC Bd.lo g s≠[]:=fun e=>hg (by have:=AI (f:=Bd.lo) h2;rw[e]at this;exact bW.1 this.symm)
     have e2:=agX (id:=20031) (t:=0) (u:=0) (m:=lC Bd.hi g s) cf;have kK:=AI (f:=Bd.lo) h2;simp (disch:=omega) [-getElem?_pos,wrap64,G5,K2,he,cV,tp,wj,xd,e2,kK];have gR:0<g.length:=AU.2 hg;refine go_loop (fun x:Nat×List Int=>ai4 (jR g) (jH s) lv w g.length (ints (lC Bd.hi g s)) x.1 (dN x.2) G)
      (fun x=>(∃o,Way lv w g s x.1 o∧x.2=(bs lv w g s x.1).1.set x.1 o)∨(x.1=g.length∧x.2=(bs lv w g s g.length).1)) (fun x=>(g.length-x.1)*2000+(nth (lC Bd.hi g s) x.1-nth x.2 x.1).toNat) (0,lC Bd.lo g s) rfl (by simp) (.inl ⟨_,aaW h2 gR (h4 0 gR) (h3 0 gR),by rw[aaX h2 gR];rfl⟩) ?_
     rintro⟨i,l⟩ hinv;simp only at hinv;have hlen:l.length=g.length:=by
      rcases hinv with⟨o,_,rfl⟩ | ⟨_,rfl⟩
      ·rw[oJ,oE h2]
      ·rw[oE h2]
     have hT:=HH hlen.symm h1 h4 lv;rcases hinv with⟨o,hway,hl⟩ | ⟨rfl,rfl⟩
     ·have hi:=hway.lt
      have aaZ:pV g l lv g.length=(bs lv w g s i).2-fX lv (nth g i) (nth s i)+iT (nth g i) o lv:=by
       rw[hl];exact Q0 h2 (K7 h2 i (by omega)) hi o
      rw[aaZ]at hT;generalize hTT:(bs lv w g s i).2-fX lv (nth g i) (nth s i)+iT (nth g i) o lv=T at *;have bB:i<l.length:=by omega
      simp (disch:=omega) [-getElem?_pos,wrap64,Kl,hi,hT,hlen];have K8:i<(lC Bd.hi g s).length:=by rw[AI h2];exact hi
      have K9:nth l i=o:=by rw[hl];exact K5 (by rw[oE h2];exact hi)
      have Ef:nth (lC Bd.hi g s) i=(e8 (nth g i) (nth s i)).hi:=HF hi (by omega)
      refine bS (fun h6=>?_) (fun h6=>?_)
      ·simp (disch:=omega) [-getElem?_pos,wrap64,lx bB,dV K8,K9,Ef]
       refine bS (fun h7=>?_) (fun h7=>?_)
       ·have hd:=hway.done (h4 i hi) (h3 i hi) (.inl h7)
        have hn:(bs lv w g s (i+1)).1=l:=by simp only[bs,hd,hl]
        refine bV (i+1,l) (by simp) ?_ ?_
        ·by_cases sI:i+1<g.length
         ·refine .inl ⟨_,aaW h2 sI (h4 _ sI) (h3 _ sI),?_⟩
          simp only;rw[aaX h2 sI,hn]
         ·exact .inr ⟨by simp only;omega,by simp only;rw[←hn,show g.length=i+1 by omega]⟩
        ·have od:nth (lC Bd.hi g s) (i+1)-nth l (i+1)≤1000:=by
          by_cases sI:i+1<g.length
          ·rw[HF sI (by omega),← hn,K6 h2 (bR _) sI]
           have:=Cb (h4 _ sI) (h3 _ sI);have:=(h4 _ sI).c9;omega
          ·have e1:nth (lC Bd.hi g s) (i+1)=0:=aaY (by rw[AI h2];omega)
           have e2:nth l (i+1)=0:=aaY (by omega)
           omega
         simp only;omega
       ·have mF:=hway.lo
        have tf:=hway.hi;have hro:=Cb (h4 i hi) (h3 i hi);have hmo:=(h4 i hi).c9;refine go_loop (fun l:List Int=>ai3 (jR g) (jH s) lv w g.length (ints (lC Bd.hi g s)) i (dN l) G)
         (fun m=>∃o',Way lv w g s i o'∧o≤o'∧m=(bs lv w g s i).1.set i o') (fun m=>(nth (lC Bd.hi g s) i-nth m i).toNat) l rfl (by simp[hlen]) ⟨o,hway,wA _,hl⟩ ?_
        rintro m ⟨o',hway',Ad,rfl⟩;have awm:=hway'.lo;have awn:=hway'.hi;have HI:((bs lv w g s i).1.set i o').length=g.length:=by rw[oJ,oE h2]
        have wc:i<((bs lv w g s i).1.set i o').length:=by omega
        have Eg:nth ((bs lv w g s i).1.set i o') i=o':=K5 (by rw[oE h2];exact hi)
        have HJ:=HH HI.symm h1 h4 lv;rw[Q0 h2 (K7 h2 i (by omega)) hi o']at HJ
        have IX:∀z,((bs lv w g s i).1.set i o').set i z=(bs lv w g s i).1.set i z:=fun z=>by simp
        generalize hm:(bs lv w g s i).1.set i o'=m at HI wc Eg HJ IX ⊢;by_cases h8:o'<(e8 (nth g i) (nth s i)).hi
        ·by_cases h9:(bs lv w g s i).2-fX lv (nth g i) (nth s i)+iT (nth g i) o' lv<w
         ·simp (disch:=omega) [-getElem?_pos,wrap64,Kk,lx wc,dV K8,Eg,Ef,h8,HJ,HI,h9]
          refine bV (m.set i (o'+1)) (by simp) ⟨o'+1,⟨hi,by omega,by omega,fun p a b=>?_⟩,by omega,IX _⟩ ?_
          ·by_cases hp:p=o'
           ·rw[hp];exact h9
           ·exact hway'.no p a (by omega)
          ·rw[K5 wc];omega
         ·simp (disch:=omega) [-getElem?_pos,wrap64,Kk,lx wc,dV K8,Eg,Ef,h8,HJ,HI,h9]
          refine bV (i,m) (by simp) (.inl ⟨o',hway',hm.symm⟩) ?_
          have:o≠o':=fun e=>by rw[←e,hTT]at h9;exact h9 h6
          simp only[Eg,K9,Ef];omega
        ·simp (disch:=omega) [-getElem?_pos,wrap64,Kk,lx wc,dV K8,Eg,Ef,h8,HJ,HI]
         refine bV (i,m) (by simp) (.inl ⟨o',hway',hm.symm⟩) ?_
         simp only[Eg,K9,Ef];omega
      ·have hd:=hway.done (h4 i hi) (h3 i hi) (.inr (by omega))
       have hs2:(bs lv w g s (i+1)).2=T:=by rw[←hTT];simp only[bs,hd]
       have hn:l=(bs lv w g s g.length).1:=by
        rw[anq h2 (j:=i+1) (by omega) g.length (by omega) (bR _),hl]
        simp only[bs,hd]
       clear hT aaZ bB K9
       subst hn;refine go_loop (fun k:Nat=>Xz (jR g) lv g.length (.slice (some 1096) 2 ((mP ((bs lv w g s g.length).1.take k) (s.take k)).map Gs.row)) (jH s) s.length k (dN (bs lv w g s g.length).1) k G) (fun k=>k≤s.length) (fun k=>s.length-k) 0 rfl (by simp[mP]) (by omega) ?_
       rintro k hk;have bo:(mP ((bs lv w g s g.length).1.take k) (s.take k)).length=k:=by
        have:=oE (lv:=lv) (w:=w) h2 g.length;simp[mP];omega
       have Cc:=oE (lv:=lv) (w:=w) h2 g.length;have HK:=HH Cc.symm h1 h4 lv;rw[K7 h2 g.length (bR _)]at HK;simp (disch:=omega) [-getElem?_pos,wrap64,Km,bo];refine bS (fun h6=>?_) (fun h6=>?_)
       ·have h6:k<s.length:=by omega
        have h7:k<(bs lv w g s g.length).1.length:=by omega
        simp (disch:=omega) [-getElem?_pos,wrap64,bg (l:=s),lx h7,bo];refine bV (k+1) ?_ (by omega) (by omega)
        unfold mP;rw[yG h7 h6];simp[Ed]
       ·obtain rfl:k=s.length:=by omega
        have t1:(bs lv w g s g.length).1.take s.length=(bs lv w g s g.length).1:=kG (by omega)
        rw[t1,pq]at bo ⊢;simp (disch:=omega) [-getElem?_pos,wrap64,bo,Cc,HK];exact hW
     ·have hi:¬ g.length<g.length:=gO _
      simp (disch:=omega) [-getElem?_pos,wrap64,Kl,hlen];refine go_loop (fun k:Nat=>Xz (jR g) lv g.length (.slice (some 1096) 2 ((mP ((bs lv w g s g.length).1.take k) (s.take k)).map Gs.row)) (jH s) s.length k (dN (bs lv w g s g.length).1) k G) (fun k=>k≤s.length) (fun k=>s.length-k) 0 rfl (by simp[mP]) (by omega) ?_
      rintro k hk;have bo:(mP ((bs lv w g s g.length).1.take k) (s.take k)).length=k:=by
       have:=oE (lv:=lv) (w:=w) h2 g.length;simp[mP];omega
      have Cc:=oE (lv:=lv) (w:=w) h2 g.length;have HK:=HH Cc.symm h1 h4 lv;rw[K7 h2 g.length (bR _)]at HK;simp (disch:=omega) [-getElem?_pos,wrap64,Km,bo];refine bS (fun h6=>?_) (fun h6=>?_)
      ·have h6:k<s.length:=by omega
       have h7:k<(bs lv w g s g.length).1.length:=by omega
       simp (disch:=omega) [-getElem?_pos,wrap64,bg (l:=s),lx h7,bo];refine bV (k+1) ?_ (by omega) (by omega)
       unfold mP;rw[yG h7 h6];simp[Ed]
      ·obtain rfl:k=s.length:=by omega
       have t1:(bs lv w g s g.length).1.take s.length=(bs lv w g s g.length).1:=kG (by omega)
       rw[t1,pq]at bo ⊢;simp (disch:=omega) [-getElem?_pos,wrap64,bo,Cc,HK];exact hW
   ·have wj:(decide (0≤w)&&decide (w≤1073741824))=false:=by simp;omega
    have hE:kR g s lv w=1:=by simp[kR,he];omega
    have xd:¬ kR g s lv w=0:=by rw[hE];omega
    simp only[oD,nN,aA xd]at hW;rw[hE]at hW;have tp:(!decide (0≤w) || !decide (w≤1073741824))=true:=by simp;omega
    simp (disch:=omega) [-getElem?_pos,wrap64,G5,K2,he,cV,tp,wj];exact hW
  ·have hE:kR g s lv w=aE g s lv:=by simp[kR,he]
   have xd:¬ kR g s lv w=0:=by rw[hE];exact he
   simp only[oD,nN,aA xd]at hW;rw[hE]at hW;simp (disch:=omega) [-getElem?_pos,wrap64,G5,K2,he];exact hW)
structure Dm where
 r:Rs
 u:List Un
 g:List Gt
 gr:Int
abbrev Dm.row(d:Dm):List V:=[iA d.r.c,i64 d.r.d,i64 d.r.l,i64 d.r.f,i64 d.r.s,i64 d.r.t,kc d.u,jR d.g,i64 d.gr]
abbrev dm(d:Dm):V:=.agg d.row
structure Ds where
 v:Int
 rel:Int
 u:List Us
 g:List Gs
 deriving Inhabited
abbrev Ds.row(s:Ds):List V:=[i64 s.v,i64 s.rel,jO s.u,jH s.g]
abbrev dst(s:Ds):V:=.agg s.row
def uE(u:List Un):Int:=dI (fun i=>gV (nth u i)) u.length 0
def gE(g:List Gt):Int:=dI (fun i=>kd (nth g i)) g.length 0
def fw(d:Dm):Int :=
 if ij d.r≠0 then ij d.r else if 6<d.u.length∨8<d.g.length then 10 else if uE d.u≠0 then uE d.u else if gE d.g≠0 then gE d.g
 else if d.gr<1∨1073741824<d.gr then 1 else 0
theorem Cd(d:Dm)(G:List aT):bd F 112 [dm d] G=some (i64 (fw d),G) :=
 bX rfl rfl (by
  obtain⟨r,u,g,gr⟩:=d;generalize hW:fw ⟨r,u,g,gr⟩=W;unfold fw at hW;simp only at hW;have hS:=fun G=>ZU r G;have yL:=fun G=>Au r G;by_cases h1:ij r=0
  ·rw[aA (by omega)]at hW
   by_cases h2:6<u.length
   ·rw[aP (.inl h2)]at hW
    have mi:(6:Int)<u.length:=by omega
    simp (disch:=omega) [-getElem?_pos,wrap64,G6,hS,yL,h1,mi];exact hW
   by_cases h3:8<g.length
   ·rw[aP (.inr h3)]at hW
    have mi:¬ (6:Int)<u.length:=by omega
    have iK:(8:Int)<g.length:=by omega
    simp (disch:=omega) [-getElem?_pos,wrap64,G6,hS,yL,h1,mi,iK];exact hW
   rw[aA (by omega)]at hW
   have mi:¬ (6:Int)<u.length:=by omega
   have iK:¬ (8:Int)<g.length:=by omega
   simp (disch:=omega) [-getElem?_pos,wrap64,G6,hS,yL,h1,mi,iK];refine go_loop (fun i:Nat=>ajn (kc u) u.length i (Dm.row ⟨r,u,g,gr⟩) G) (fun i=>i≤u.length∧dI (fun i=>gV (nth u i)) (u.length-i) i=uE u) (fun i=>u.length-i) 0 rfl (by simp) ⟨by omega,rfl⟩ ?_
   rintro i ⟨hi,hq⟩;simp (disch:=omega) [-getElem?_pos,wrap64,XH];refine bS (fun h4=>?_) (fun h4=>?_)
   ·have h4:i<u.length:=by omega
    rw[ly h4]at hq;by_cases h5:gV (nth u i)=0
    ·rw[aP h5]at hq
     simp (disch:=omega) [-getElem?_pos,wrap64,bg (l:=u),sE,nd,h5];exact bV (i+1) (by simp) ⟨by omega,hq⟩ (by omega)
    ·rw[aA h5]at hq
     rw[←hq,aP h5]at hW;simp (disch:=omega) [-getElem?_pos,wrap64,bg (l:=u),sE,nd,h5];exact hW
   ·obtain rfl:i=u.length:=by omega
    rw[nc]at hq;rw[←hq,aA (by omega)]at hW
    refine go_loop (fun i:Nat=>ajp (jR g) g.length i (Dm.row ⟨r,u,g,gr⟩) G) (fun i=>i≤g.length∧dI (fun i=>kd (nth g i)) (g.length-i) i=gE g) (fun i=>g.length-i) 0 rfl (by simp) ⟨by omega,rfl⟩ ?_
    rintro i ⟨hi,hq⟩;simp (disch:=omega) [-getElem?_pos,wrap64,XI];refine bS (fun h4=>?_) (fun h4=>?_)
    ·have h4:i<g.length:=by omega
     rw[ly h4]at hq;by_cases h5:kd (nth g i)=0
     ·rw[aP h5]at hq
      simp (disch:=omega) [-getElem?_pos,wrap64,bg (l:=g),AA,AB,h5];exact bV (i+1) (by simp) ⟨by omega,hq⟩ (by omega)
     ·rw[aA h5]at hq
      rw[←hq,aP h5]at hW;simp (disch:=omega) [-getElem?_pos,wrap64,bg (l:=g),AA,AB,h5];exact hW
    ·obtain rfl:i=g.length:=by omega
     rw[nc]at hq;rw[←hq,aA (by omega)]at hW
     by_cases h6:gr<1
     ·rw[aP (.inl h6)]at hW
      simp (disch:=omega) [-getElem?_pos,wrap64,h6];exact hW
     ·by_cases h7:1073741824<gr
      ·rw[aP (.inr h7)]at hW
       simp (disch:=omega) [-getElem?_pos,wrap64,h6,h7];exact hW
      ·rw[aA (by omega)]at hW
       simp (disch:=omega) [-getElem?_pos,wrap64,h6,h7];exact hW
  ·rw[aP h1]at hW
   simp (disch:=omega) [-getElem?_pos,wrap64,G6,hS,yL,h1];exact hW)
theorem Ce(d:Dm)(G:List aT):bd F 88 [dm d] G=some (i64 (fw d),G) :=
 bX rfl rfl (by
  obtain⟨r,u,g,gr⟩:=d;generalize hW:fw ⟨r,u,g,gr⟩=W;unfold fw at hW;simp only at hW;have hS:=fun G=>ZU r G;have yL:=fun G=>Au r G;by_cases h1:ij r=0
  ·rw[aA (by omega)]at hW
   by_cases h2:6<u.length
   ·rw[aP (.inl h2)]at hW
    have mi:(6:Int)<u.length:=by omega
    simp (disch:=omega) [-getElem?_pos,wrap64,GY,hS,yL,h1,mi];exact hW
   by_cases h3:8<g.length
   ·rw[aP (.inr h3)]at hW
    have mi:¬ (6:Int)<u.length:=by omega
    have iK:(8:Int)<g.length:=by omega
    simp (disch:=omega) [-getElem?_pos,wrap64,GY,hS,yL,h1,mi,iK];exact hW
   rw[aA (by omega)]at hW
   have mi:¬ (6:Int)<u.length:=by omega
   have iK:¬ (8:Int)<g.length:=by omega
   simp (disch:=omega) [-getElem?_pos,wrap64,GY,hS,yL,h1,mi,iK];refine go_loop (fun i:Nat=>aiv (kc u) u.length i (Dm.row ⟨r,u,g,gr⟩) G) (fun i=>i≤u.length∧dI (fun i=>gV (nth u i)) (u.length-i) i=uE u) (fun i=>u.length-i) 0 rfl (by simp) ⟨by omega,rfl⟩ ?_
   rintro i ⟨hi,hq⟩;simp (disch:=omega) [-getElem?_pos,wrap64,Xh];refine bS (fun h4=>?_) (fun h4=>?_)
   ·have h4:i<u.length:=by omega
    rw[ly h4]at hq;by_cases h5:gV (nth u i)=0
    ·rw[aP h5]at hq
     simp (disch:=omega) [-getElem?_pos,wrap64,bg (l:=u),sE,nd,h5];exact bV (i+1) (by simp) ⟨by omega,hq⟩ (by omega)
    ·rw[aA h5]at hq
     rw[←hq,aP h5]at hW;simp (disch:=omega) [-getElem?_pos,wrap64,bg (l:=u),sE,nd,h5];exact hW
   ·obtain rfl:i=u.length:=by omega
    rw[nc]at hq;rw[←hq,aA (by omega)]at hW
    refine go_loop (fun i:Nat=>aix (jR g) g.length i (Dm.row ⟨r,u,g,gr⟩) G) (fun i=>i≤g.length∧dI (fun i=>kd (nth g i)) (g.length-i) i=gE g) (fun i=>g.length-i) 0 rfl (by simp) ⟨by omega,rfl⟩ ?_
    rintro i ⟨hi,hq⟩;simp (disch:=omega) [-getElem?_pos,wrap64,Xi];refine bS (fun h4=>?_) (fun h4=>?_)
    ·have h4:i<g.length:=by omega
     rw[ly h4]at hq;by_cases h5:kd (nth g i)=0
     ·rw[aP h5]at hq
      simp (disch:=omega) [-getElem?_pos,wrap64,bg (l:=g),AA,AB,h5];exact bV (i+1) (by simp) ⟨by omega,hq⟩ (by omega)
     ·rw[aA h5]at hq
      rw[←hq,aP h5]at hW;simp (disch:=omega) [-getElem?_pos,wrap64,bg (l:=g),AA,AB,h5];exact hW
    ·obtain rfl:i=g.length:=by omega
     rw[nc]at hq;rw[←hq,aA (by omega)]at hW
     by_cases h6:gr<1
     ·rw[aP (.inl h6)]at hW
      simp (disch:=omega) [-getElem?_pos,wrap64,h6];exact hW
     ·by_cases h7:1073741824<gr
      ·rw[aP (.inr h7)]at hW
       simp (disch:=omega) [-getElem?_pos,wrap64,h6,h7];exact hW
      ·rw[aA (by omega)]at hW
       simp (disch:=omega) [-getElem?_pos,wrap64,h6,h7];exact hW
  ·rw[aP h1]at hW
   simp (disch:=omega) [-getElem?_pos,wrap64,GY,hS,yL,h1];exact hW)
end Go.Proofs.YtcelmhaoipbdiaaGreatDoor
