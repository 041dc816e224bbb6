/- Parts of the proof, joined: Ref3, Rng1, Gat2, Gat3, Gat4, Gat5, Gat6, Gat7, Dam1. -/
import Derived.Test.YtcelmhaoipbdiaaGreatDb
import Derived.Test.YtcelmhaoipbdiaaGreatDa
namespace Go.Proofs.YtcelmhaoipbdiaaGreat
set_option linter.all false
open Go.Vm
attribute [local simp] ly lz kF lx
abbrev JM(R:List (List Int)):V:=.slice none 1 (R.map fun o=>[ints o])
def rb(best:Option (List Int)):V:=match best with
 |none=>.bU
 |some F=>ints F
noncomputable def rv(us:List Un)(ss:List Us)(best:Option (List Int)):List V:=match best with
 |none=>[i64 0,i64 0]
 |some F=>[i64 (js us F),i64 (jt ss F)]
def ju(a:List Nat):List V:=cP (a.map fun d:Nat=>(d:Int))
def ob(o:Option (List V)):List (Nat×List V):=match o with
 |none=>[]
 |some c=>[(56,c)]
@[simp] theorem UF{best:Option (List Int)}{d:Nat}:(rb best).cA d=false:=by cases best<;>rfl
@[simp] theorem aC9{us:List Un}{ss:List Us}{best:Option (List Int)}{d:Nat}:((rv us ss best).all fun v => !v.cI d)=true:=by cases best<;>rfl
@[simp] theorem aDa{a:List Nat}{d:Nat}:((ju a).all fun v => !v.cI d)=true:=alC
@[simp] theorem aDb{o:Option (List V)}:xr 56 (ob o)=[]:=by cases o<;>rfl
@[simp] theorem aDc:ob none=[]:=rfl
@[simp] theorem aDd{c:List V}:ob (some c)=[(56,c)]:=rfl
@[simp] theorem aDe{o:Option (List V)}:kp (Go.Vm.look 56 (ob o)) 56 []=ob o:=by cases o<;>rfl
theorem Gn{a:List Nat}{i:Nat}(h:i<a.length):(ju a)[i]?=some (i64 ((nth a i:Nat):Int)):=by
 have:=lA (l:=a.map fun d:Nat=>(d:Int)) (i:=i) (by simpa using h)
 rw[ua h]at this;exact this
@[simp] theorem aDf{a:List Nat}:(ju a).length=a.length:=by simp[ju]
theorem JN{a:List Nat}{i d:Nat}:(ju a).set i (i64 (d:Int))=ju (a.set i d):=by
 simp[ju,Pm]
theorem atv{α:Type}[Inhabited α]{l m:List α}{i:Nat}(h:l.length≤i):nth (l++m) i=nth m (i-l.length):=by
 simp[nth,wL h]
theorem Cj{α:Type}[Inhabited α]{l:List α}{i k:Nat}(h:i<k):nth (l.take k) i=nth l i:=by
 simp[nth,lN,h]
theorem atw{n i:Nat}:nth (List.replicate n (0:Int)) i=0:=by
 simp only[nth,List.getD,Pe];split<;>rfl
theorem afi{l:List Int}{B:Int}(h:∀x∈l,0≤x∧x≤B):∀j:Nat,j≤l.length→0≤(l.take j).sum∧(l.take j).sum≤B*j
 |0,_=>by simp
 |j+1,hj=>by
  have ih:=afi h j (by omega)
  have:=h _ (oo (show j<l.length from hj));rw[jr hj];simp only[KU,Pr,List.sum_nil];have e:B*((j+1:Nat):Int)=B*j+B:=by
   rw[show((j+1:Nat):Int)=(j:Int)+1 from rfl,Hf,Int.mul_one]
  omega
theorem afj{R:List (List Int)}{a:List Nat}(h:a.length=R.length):(eF R a).length=R.length:=by simp[eF,h]
theorem atx{R:List (List Int)}{a:List Nat}{us:List Un}{ss:List Us}{release:Int}{fd:Bool}{best:Option (List Int)}{G:List aP}{K:cH}(hn:R.length≤6)(ha:Vd (R.map List.length) a)
  (hb:∀o∈R,∀q∈o,0≤q∧q≤1073741824)
  (hK:∀z,K (.exit 2) ⟨[(0,lG us),(1,jJ ss),(3,i64 release),(11,JM R),(13,.bool fd),(14,rb best),(15,.bj 15 0),(16,.bR 53 1 R.length),(17,.bR 56 1 R.length),(18,i64 (eF R a).sum),(57,.bR 53 1 R.length),(58,i64 R.length),(59,i64 R.length),(60,z)],
   [(15,rv us ss best),(53,ju a),(56,cP (eF R a))],[],G⟩) :
  go (aX F) acP (acQ (lG us) (jJ ss) release (JM R) fd (rb best) R.length R.length 0 R.length R.length 0 (rv us ss best) (ju a) (cP (List.replicate R.length 0)) G) K:=by
 have s7:=Gl ha;simp only[zJ]at s7;have lj:=afj s7;have JO:∀x∈eF R a,0≤x∧x≤1073741824:=by
  intro x hx;obtain⟨i,hi,rfl⟩:=Gi hx;rw[lj]at hi;have h1:nth (eF R a) i=nth (nth R i) (nth a i):=Gj hi (by omega)
  have h2:=AP ha i (by simpa using hi)
  rw[ua hi]at h2;rw[h1];exact hb _ (oo hi) _ (oo h2)
 refine go_loop (fun j:Nat=>acQ (lG us) (jJ ss) release (JM R) fd (rb best) R.length R.length ((eF R a).take j).sum R.length R.length j (rv us ss best) (ju a) (cP ((eF R a).take j++List.replicate (R.length-j) 0)) G)
  (fun j=>j≤R.length) (fun j=>R.length-j) 0 rfl (by simp) (by omega) ?_
 intro j hj;have hs:=afi JO j (by omega)
 simp (disch:=omega) [-getElem?_pos,wrap64,acO];refine bB (fun h1=>?_) (fun h1=>?_)
 ·have h1:j<R.length:=by omega
  have h2:j<a.length:=by omega
  have h3:=AP ha j (by simpa using h1)
  rw[ua h1]at h3;have h4:nth (eF R a) j=nth (nth R j) (nth a j):=Gj h1 h2;have h5:=JO _ (oo (show j<(eF R a).length by omega))
  have h6:(cP ((eF R a).take j++List.replicate (R.length-j) 0))[j]?=some (i64 0):=by
   rw[lA (by simp;omega),atv (by simp;omega),atw]
  have e2:((eF R a).take j++List.replicate (R.length-j) (0:Int)).set j (nth (nth R j) (nth a j))=(eF R a).take (j+1)++List.replicate (R.length-(j+1)) 0:=by
   rw[CS _ _ (by simp;omega),jr (show j<(eF R a).length by omega),h4]
   have:j-((eF R a).take j).length=0:=by simp;omega
   rw[this];obtain⟨m,hm⟩:∃m,R.length-j=m+1:=⟨R.length-j-1,by omega⟩
   rw[hm,Bh,KT,show R.length-(j+1)=m by omega]
   simp
  have e3:((eF R a).take (j+1)).sum=((eF R a).take j).sum+nth (nth R j) (nth a j):=by
   rw[jr (show j<(eF R a).length by omega),h4];simp
  have h7:(cP ((eF R a).take (j+1)++List.replicate (R.length-(j+1)) 0))[j]?=some (i64 (nth (nth R j) (nth a j))):=by
   rw[lA (by simp;omega),so (by simp;omega),Cj (by omega),h4]
  rw[h4]at h5;simp (disch:=omega) [-getElem?_pos,wrap64,Gn h2,aY (l:=R),dA h3,h6,e2,h7];exact bu (j+1) (by simp[e3]) (by omega) (by omega)
 ·obtain rfl:j=R.length:=by omega
  rw[lZ (by omega)]
  simpa using hK _
noncomputable abbrev Gp(us:List Un)(ss:List Us)(R:List (List Int))(release:Int)(fd:Bool)(best:Option (List Int))(x:Int)(a:List Nat)(o:Option (List V))(G:List aP):St :=
 ⟨[(0,lG us),(1,jJ ss),(3,i64 release),(11,JM R),(13,.bool fd),(14,rb best),(15,.bj 15 0),(16,.bR 53 1 R.length),(26,i64 x)],(15,rv us ss best)::(53,ju a)::ob o,[],G⟩
theorem Nx{R:List (List Int)}{a:List Nat}{us:List Un}{ss:List Us}{release:Int}{fd:Bool}{best:Option (List Int)}{o:Option (List V)}{G:List aP}{K:cH}(hn:R.length≤6)(ha:Vd (R.map List.length) a)(hlen:∀o∈R,o.length≤1000)
  (h0:∀z b,inc (R.map List.length) a=none→K (.exit 4) { Gp us ss R release fd best (-1) b o G with env:=(Gp us ss R release fd best (-1) b o G).env++[(124,z)] })
  (h1:∀z (i:Nat),i<R.length→nth a i+1<nth (R.map List.length) i→inc (R.map List.length) a=some (a.take i++(nth a i+1)::List.replicate (R.length-1-i) 0) →
   K (.exit 4) { Gp us ss R release fd best i (a.take (i+1)++List.replicate (R.length-1-i) 0) o G with env:=(Gp us ss R release fd best i a o G).env++[(124,z)] }) :
  go (aX F) acR (Gp us ss R release fd best (R.length-1) a o G) K:=by
 have s7:=Gl ha;simp only[zJ]at s7;refine go_loop (fun k:Nat=>Gp us ss R release fd best (k-1) (a.take k++List.replicate (R.length-k) 0) o G)
  (fun k=>k≤R.length∧∀j,k≤j→j<R.length→nth a j+1=nth (R.map List.length) j) (fun k=>k) R.length rfl (by rw[lZ (by omega)];simp) ⟨by omega,by omega⟩ ?_
 rintro k ⟨hk,hm⟩;by_cases Mo:k=0
 ·subst Mo
  simp +contextual (disch:=omega) [-getElem?_pos,wrap64,Tv];exact h0 _ _ (UC ha fun j hj=>hm j (by omega) (by simpa using hj))
 ·have e1:0≤(k:Int)-1:=by omega
  have e2:((k:Int)-1).toNat=k-1:=by omega
  have h3:k-1<R.length:=by omega
  have h4:(ju (a.take k++List.replicate (R.length-k) 0))[k-1]?=some (i64 ((nth a (k-1):Nat):Int)):=by
   rw[Gn (by simp;omega),so (by simp;omega),Cj (by omega)]
  have h5:=hlen _ (oo h3);have h6:=AP ha (k-1) (by simpa using h3)
  rw[ua h3]at h6;have h7:(ju (a.take k++List.replicate (R.length-k) 0)).set (k-1) (i64 0)=ju (a.take (k-1)++List.replicate (R.length-(k-1)) 0):=by
   have:=JN (a:=a.take k++List.replicate (R.length-k) 0) (i:=k-1) (d:=0);rw[show(i64 ((0:Nat):Int))=i64 0 from rfl]at this;rw[this];congr 1;obtain⟨m,rfl⟩:∃m,k=m+1:=⟨k-1,by omega⟩
   rw[jr (show m<a.length by omega)]
   have hl:(a.take m).length=m:=by simp;omega
   rw[wK,sI,CS _ _ (by omega),hl,qd]
   simp only[WO,KT];rw[show R.length-m=(R.length-(m+1))+1 by omega,Bh]
  have h8:nth (R.map List.length) (k-1)=(nth R (k-1)).length:=ua h3;simp +contextual (disch:=omega) [-getElem?_pos,wrap64,Tv,e1,e2,h4,aY (l:=R)];refine bB (fun h9=>?_) (fun h9=>?_)
  ·have gf:k≤(ju (a.take k++List.replicate (R.length-k) 0)).length:=by simp;omega
   simp +contextual (disch:=omega) [-getElem?_pos,wrap64,gf,h7];refine bu (k-1) ?_ ⟨by omega,fun j a1 a2=>?_⟩ (by omega)
   ·rw[show(((k-1:Nat)):Int)=(k:Int)-1 by omega]
    simp
   ·rcases cM j k with kR|kR
    ·obtain rfl:j=k-1:=by omega
     rw[h8];omega
    ·exact hm j kR a2
  ·have bI:nth a (k-1)+1<nth (R.map List.length) (k-1):=by rw[h8];omega
   have hi:=afg (i:=k-1) ha (by simpa using h3) (fun j a1 a2=>hm j (by omega) (by simpa using a2)) bI
   simp only[zJ]at hi;have:=h1 (.bool (decide (((nth a (k-1):Nat):Int)=((nth R (k-1)).length:Int)-1))) (k-1) h3 bI hi;rw[show(((k-1:Nat)):Int)=(k:Int)-1 by omega,show k-1+1=k by omega,show R.length-1-(k-1)=R.length-k by omega]at this
   exact this
theorem afk{us:List Un}{ss:List Us}{g:Int}(h:us.length=ss.length):(oq us ss g).length=us.length:=by simp[oq,h]
theorem aty(us:List Un)(ss:List Us)(g:Int):List.zipWith (Nw g) us ss=(oq us ss g).map fun o=>[ints o]:=by
 rw[oq,List.map_zipWith]
theorem atz{us:List Un}{ss:List Us}{g:Int}(h:Nt us ss g){o:List Int}(ho:o∈oq us ss g):(0<o.length∧o.length≤1000)∧∀q∈o,0≤q∧q≤1073741824:=by
 have hl:=h.len;obtain⟨i,hi,rfl⟩:=Gi ho;rw[afk hl]at hi;have e:nth (oq us ss g) i=u9 (nth us i) (nth ss i) g:=Gj hi (by omega)
 rw[e];have h1:=atn (s:=nth ss i) (h.aeU i hi);refine⟨⟨ats (h.valid i hi),by omega⟩,fun q hq=>?_⟩
 simp only[u9,zK,kA]at hq;exact Np hq.2
noncomputable abbrev Ny(us:List Un)(ss:List Us)(R:List (List Int))(release:Int)(best:Option (List Int))(a:List Nat)(o:Option (List V))(G:List aP):St :=
 ⟨[(0,lG us),(1,jJ ss),(3,i64 release),(11,JM R),(13,.bool best.isSome),(14,rb best),(15,.bj 15 0),(16,.bR 53 1 R.length)],(15,rv us ss best)::(53,ju a)::ob o,[],G⟩
theorem atA{R:List (List Int)}{us:List Un}{ss:List Us}{release:Int}{G:List aP}{K:cH}(hn:R.length≤6)(xi:us.length≤6)(hRl:R.length=us.length)(wo:∀o∈R,(0<o.length∧o.length≤1000)∧∀q∈o,0≤q∧q≤1073741824)
  (nQ:∀a,Vd (R.map List.length) a→D4 us ss (eF R a)=some ((eF R a).sum,js us (eF R a),jt ss (eF R a)))
  (hz:Vd (R.map List.length) (List.replicate R.length 0))
  (hK:∀best b o z,Kn us ss R release (sw (R.map List.length)) best→K (.exit 0) { Ny us ss R release best b o G with env:=(Ny us ss R release best b o G).env++[(26,i64 (-1)),(131,z)] }) :
  go (aX F) acT (Ny us ss R release none (List.replicate R.length 0) none G) K:=by
 refine go_loop (fun x:List Nat×Option (List Int)×Option (List V)=>Ny us ss R release x.2.1 x.1 x.2.2 G) (fun x=>Vd (R.map List.length) x.1∧Kn us ss R release (rk (R.map List.length) x.1) x.2.1)
  (fun x=>sw (R.map List.length)-rk (R.map List.length) x.1) (List.replicate R.length 0,none,none) rfl (by simp[rb]) ⟨hz,by simp only[UA];intro b _ h;omega⟩ ?_
 rintro⟨a,best,o⟩ ⟨ha,jZ⟩;simp only at ha jZ;have hrk:=Gm ha;have s7:=Gl ha;simp only[zJ]at s7;have lj:=afj s7;have ib:=aff ha;replace jZ:=att ha jZ;have hva:=nQ a ha;have hV:=aeQ us ss (eF R a) (by omega) []
 rw[hva]at hV;simp only[Gf]at hV;have UG:(List.replicate R.length [V.int .i64 0]).flatten=cP (List.replicate R.length 0):=by
  rw[cP];simp
 simp (disch:=omega) [-getElem?_pos,wrap64,acS,UG];refine atx hn ha (fun o ho=>(wo o ho).2) fun z=>?_;simp (disch:=omega) [-getElem?_pos,wrap64,wrap64];refine bB (fun h1=>?_) (fun h1=>?_)
 ·have UH:lb [none] (chunks 1 (cP (eF R a)) 0 R.length)=some ((eF R a).map fun n=>[V.int .i64 n]):=BX (by omega)
  cases best with
  |none =>
   have Ab:wm us ss release (eF R a) none=some (eF R a):=by simp[wm,h1]
   rw[Ab]at jZ;simp (disch:=omega) [-getElem?_pos,wrap64,UH,hV,rb,rv];refine Nx (best:=some (eF R a)) (o:=none) (fd:=true) hn ha (fun o ho=>(wo o ho).1.2) (fun z b he=>?_) (fun z i hi bI he=>?_)
   ·rw[he]at ib
    simp only at ib;rw[ib]at jZ;simp (disch:=omega) [-getElem?_pos,wrap64,rb,rv];exact hK _ b none _ jZ
   ·rw[he]at ib
    simp only at ib;rw[←ib.2]at jZ;have q1:(ju (a.take (i+1)++List.replicate (R.length-1-i) 0))[i]?=some (i64 ((nth a i:Nat):Int)):=by
     rw[Gn (by simp;omega),so (by simp;omega),Cj (by omega)]
    have q2:=AP ha i (by simpa using hi)
    rw[ua hi]at q2;have q3:=(wo _ (oo hi)).1.2;have q7:¬(i:Int)<0:=by omega
    have q4:i<a.length:=by omega
    have q5:(ju (a.take (i+1)++List.replicate (R.length-1-i) 0)).set i (i64 (((nth a i:Nat):Int)+1))=ju (a.take i++(nth a i+1)::List.replicate (R.length-1-i) 0):=by
     have:=JN (a:=a.take (i+1)++List.replicate (R.length-1-i) 0) (i:=i) (d:=nth a i+1);rw[show(i64 ((nth a i+1:Nat):Int))=i64 (((nth a i:Nat):Int)+1) from rfl]at this;rw[this,jr q4,wK,CS _ _ (by simp;omega)]
     have:(a.take i).length=i:=by simp;omega
     rw[this,qd];rfl
    have q6:i<(ju (a.take (i+1)++List.replicate (R.length-1-i) 0)).length:=by simp;omega
    simp (disch:=omega) [-getElem?_pos,wrap64,q1,q5,q6,q7,rb,rv];exact bu (a.take i++(nth a i+1)::List.replicate (R.length-1-i) 0,some (eF R a),none) (by simp[rb,rv]) ⟨ib.1,jZ⟩ (by simp only;omega)
  |some E =>
   by_cases xF:kV (js us (eF R a),jt ss (eF R a)) (js us E,jt ss E) (eF R a) E
   ·have Ab:wm us ss release (eF R a) (some E)=some (eF R a):=by simp[wm,h1,xF]
    rw[Ab]at jZ;have hB:=aeP (js us (eF R a),jt ss (eF R a)) (js us E,jt ss E) (eF R a) E (by omega) []
    rw[dD xF]at hB;simp (disch:=omega) [-getElem?_pos,wrap64,UH,hV,rb,rv,hB];refine Nx (best:=some (eF R a)) (o:=none) (fd:=true) hn ha (fun o ho=>(wo o ho).1.2) (fun z b he=>?_) (fun z i hi bI he=>?_)
    ·rw[he]at ib
     simp only at ib;rw[ib]at jZ;simp (disch:=omega) [-getElem?_pos,wrap64,rb,rv];exact hK _ b none _ jZ
    ·rw[he]at ib
     simp only at ib;rw[←ib.2]at jZ;have q1:(ju (a.take (i+1)++List.replicate (R.length-1-i) 0))[i]?=some (i64 ((nth a i:Nat):Int)):=by
      rw[Gn (by simp;omega),so (by simp;omega),Cj (by omega)]
     have q2:=AP ha i (by simpa using hi)
     rw[ua hi]at q2;have q3:=(wo _ (oo hi)).1.2;have q7:¬(i:Int)<0:=by omega
     have q4:i<a.length:=by omega
     have q5:(ju (a.take (i+1)++List.replicate (R.length-1-i) 0)).set i (i64 (((nth a i:Nat):Int)+1))=ju (a.take i++(nth a i+1)::List.replicate (R.length-1-i) 0):=by
      have:=JN (a:=a.take (i+1)++List.replicate (R.length-1-i) 0) (i:=i) (d:=nth a i+1);rw[show(i64 ((nth a i+1:Nat):Int))=i64 (((nth a i:Nat):Int)+1) from rfl]at this;rw[this,jr q4,wK,CS _ _ (by simp;omega)]
      have:(a.take i).length=i:=by simp;omega
      rw[this,qd];rfl
     have q6:i<(ju (a.take (i+1)++List.replicate (R.length-1-i) 0)).length:=by simp;omega
     simp (disch:=omega) [-getElem?_pos,wrap64,q1,q5,q6,q7,rb,rv];exact bu (a.take i++(nth a i+1)::List.replicate (R.length-1-i) 0,some (eF R a),none) (by simp[rb,rv]) ⟨ib.1,jZ⟩ (by simp only;omega)
   ·have Ab:wm us ss release (eF R a) (some E)=some E:=by simp[wm,h1,xF]
    rw[Ab]at jZ;have hB:=aeP (js us (eF R a),jt ss (eF R a)) (js us E,jt ss E) (eF R a) E (by omega) []
    rw[decide_eq_false xF]at hB;simp (disch:=omega) [-getElem?_pos,wrap64,UH,hV,rb,rv,hB];refine Nx (best:=some E) (o:=none) (fd:=true) hn ha (fun o ho=>(wo o ho).1.2) (fun z b he=>?_) (fun z i hi bI he=>?_)
    ·rw[he]at ib
     simp only at ib;rw[ib]at jZ;simp (disch:=omega) [-getElem?_pos,wrap64,rb,rv];exact hK _ b none _ jZ
    ·rw[he]at ib
     simp only at ib;rw[←ib.2]at jZ;have q1:(ju (a.take (i+1)++List.replicate (R.length-1-i) 0))[i]?=some (i64 ((nth a i:Nat):Int)):=by
      rw[Gn (by simp;omega),so (by simp;omega),Cj (by omega)]
     have q2:=AP ha i (by simpa using hi)
     rw[ua hi]at q2;have q3:=(wo _ (oo hi)).1.2;have q7:¬(i:Int)<0:=by omega
     have q4:i<a.length:=by omega
     have q5:(ju (a.take (i+1)++List.replicate (R.length-1-i) 0)).set i (i64 (((nth a i:Nat):Int)+1))=ju (a.take i++(nth a i+1)::List.replicate (R.length-1-i) 0):=by
      have:=JN (a:=a.take (i+1)++List.replicate (R.length-1-i) 0) (i:=i) (d:=nth a i+1);rw[show(i64 ((nth a i+1:Nat):Int))=i64 (((nth a i:Nat):Int)+1) from rfl]at this;rw[this,jr q4,wK,CS _ _ (by simp;omega)]
      have:(a.take i).length=i:=by simp;omega
      rw[this,qd];rfl
     have q6:i<(ju (a.take (i+1)++List.replicate (R.length-1-i) 0)).length:=by simp;omega
     simp (disch:=omega) [-getElem?_pos,wrap64,q1,q5,q6,q7,rb,rv];exact bu (a.take i++(nth a i+1)::List.replicate (R.length-1-i) 0,some E,none) (by simp[rb,rv]) ⟨ib.1,jZ⟩ (by simp only;omega)
 ·have Ab:wm us ss release (eF R a) best=best:=by
   cases best with
   |none=>simp[wm,h1]
   |some F=>simp[wm,h1]
  rw[Ab]at jZ;refine Nx (best:=best) (o:=(some (cP (eF R a)))) (fd:=best.isSome) hn ha (fun o ho=>(wo o ho).1.2) (fun z b he=>?_) (fun z i hi bI he=>?_)
  ·rw[he]at ib
   simp only at ib;rw[ib]at jZ;simp (disch:=omega) [-getElem?_pos,wrap64,UF];exact hK _ b (some (cP (eF R a))) _ jZ
  ·rw[he]at ib
   simp only at ib;rw[←ib.2]at jZ;have q1:(ju (a.take (i+1)++List.replicate (R.length-1-i) 0))[i]?=some (i64 ((nth a i:Nat):Int)):=by
    rw[Gn (by simp;omega),so (by simp;omega),Cj (by omega)]
   have q2:=AP ha i (by simpa using hi)
   rw[ua hi]at q2;have q3:=(wo _ (oo hi)).1.2;have q7:¬(i:Int)<0:=by omega
   have q4:i<a.length:=by omega
   have q5:(ju (a.take (i+1)++List.replicate (R.length-1-i) 0)).set i (i64 (((nth a i:Nat):Int)+1))=ju (a.take i++(nth a i+1)::List.replicate (R.length-1-i) 0):=by
    have:=JN (a:=a.take (i+1)++List.replicate (R.length-1-i) 0) (i:=i) (d:=nth a i+1);rw[show(i64 ((nth a i+1:Nat):Int))=i64 (((nth a i:Nat):Int)+1) from rfl]at this;rw[this,jr q4,wK,CS _ _ (by simp;omega)]
    have:(a.take i).length=i:=by simp;omega
    rw[this,qd];rfl
   have q6:i<(ju (a.take (i+1)++List.replicate (R.length-1-i) 0)).length:=by simp;omega
   simp (disch:=omega) [-getElem?_pos,wrap64,q1,q5,q6,q7,UF];exact bu (a.take i++(nth a i+1)::List.replicate (R.length-1-i) 0,best,(some (cP (eF R a)))) (by simp[UF]) ⟨ib.1,jZ⟩ (by simp only;omega)
theorem atC(us:List Un)(ss:List Us)(g release:Int)(G:List aP):∃t,aX F 149 [lG us,jJ ss,i64 g,i64 release] G=some (.tuple [.slice t 1 ((iT us ss g release).map fun n=>[i64 n]),i64 (lI us ss g release)],G):=by
 suffices h:∀Q:V→Prop,(∀t,Q (.tuple [.slice t 1 ((iT us ss g release).map fun n=>[i64 n]),i64 (lI us ss g release)]))→gw (aX F) 149 [lG us,jJ ss,i64 g,i64 release] G fun v G'=>Q v∧G'=G by
  obtain⟨_,_,h,⟨t,rfl⟩,rfl⟩:=h (fun v=>∃t,v=.tuple [.slice t 1 ((iT us ss g release).map fun n=>[i64 n]),i64 (lI us ss g release)]) fun t=>⟨t,rfl⟩;exact⟨t,h⟩
 intro Q hQ;refine gF rfl rfl ?_;have JP:=atm us ss g [];by_cases hw:Cg us ss g=0
 ·obtain⟨w1,w2,w3,w4⟩:us.length≤6∧us.length=ss.length∧D5 us ss∧(1≤g∧g≤1073741824):=by
   unfold Cg at hw;split at hw
   ·cases hw
   ·split at hw
    ·cases hw
    ·split at hw
     ·cases hw
     ·split at hw
      ·cases hw
      ·rename_i a1 a2 a3 a4
       exact⟨by omega,iu a2,iu a3,by omega⟩
  have qu:sr us ss g release=if g<1∨1073741824<g∨release<0∨1073741824<release then 1 else if 200*g<release then 10 else if ¬D6 us g then 10 else 0:=by
   unfold sr;rw[av (by omega),av (fun h=>h w2),av (fun h=>h w3)]
  by_cases hr:release<0∨1073741824<release
  ·rw[aK (by omega)]at qu
   have eL:iT us ss g release=[]:=by simp[iT,qu]
   have eE:lI us ss g release=1:=by simp[lI,qu]
   rw[eL,eE]at hQ;have h8:(!decide (0≤release) || !decide (release≤1073741824))=true:=by simp;omega
   simp (disch:=omega) [wrap64,F7,JP,hw,dh,h8];exact hQ _
  ·rw[av (by omega)]at qu
   have h8:(!decide (0≤release) || !decide (release≤1073741824))=false:=by simp;omega
   by_cases h9:200*g<release
   ·rw[aK h9]at qu
    have eL:iT us ss g release=[]:=by simp[iT,qu]
    have eE:lI us ss g release=10:=by simp[lI,qu]
    rw[eL,eE]at hQ;simp (disch:=omega) [wrap64,F7,JP,hw,dh,h8,h9];exact hQ _
   ·rw[av h9]at qu
    have hA:=atq w2 (by omega) w3 g []
    by_cases hF:D6 us g
    ·rw[av (fun h=>h hF)]at qu
     have hE:Ci us g=0:=by simp[Ci,hF]
     rw[hE,aK rfl,aty]at hA;have h0:=(Uu qu).1;have Eb:=ae6 h0 (left:=release) (by omega)
     have eL:iT us ss g release=(nR (jY us ss g) release).getD []:=by simp[iT,qu]
     have eE:lI us ss g release=if nR (jY us ss g) release=none then 9 else 0:=by simp[lI,qu]
     have hRl:=afk (g:=g) w2;have wo:=fun o (ho:o∈oq us ss g)=>atz h0 ho;have nQ:∀a,Vd ((oq us ss g).map List.length) a→D4 us ss (eF (oq us ss g) a)=some ((eF (oq us ss g) a).sum,js us (eF (oq us ss g) a),jt ss (eF (oq us ss g) a)):=fun a ha=>ae9 ((JL w2).1 (UD ha));have atD:Kn us ss (oq us ss g) release (sw ((oq us ss g).map List.length)) none→∀F,ny g us ss F→release<F.sum:=afh (g:=g) w2;have atE:∀F,Kn us ss (oq us ss g) release (sw ((oq us ss g).map List.length)) (some F)→D9 g us ss release F:=fun F=>afh (g:=g) w2;generalize hR:oq us ss g=R at *
     have hz:Vd (R.map List.length) (List.replicate R.length 0):=by
      have:=UB (ns:=R.map List.length) fun n hn=>by
       obtain⟨o,ho,rfl⟩:=nc.1 hn;exact(wo o ho).1.1
      simpa using this
     simp (disch:=omega) [wrap64,F7,JP,hw,dh,h8,h9,hA];have UG:List.replicate R.length (V.int .i64 0)=ju (List.replicate R.length 0):=by simp[ju,cP]
     rw[UG];refine atA (us:=us) (ss:=ss) (release:=release) (by omega) w1 hRl wo nQ hz fun best b o z jZ=>?_
     cases best with
     |none =>
      have hb:=atD jZ;have kc:nR (jY us ss g) release=none:=by
       cases hc:nR (jY us ss g) release with
       |none=>rfl
       |some F =>
        rw[hc]at Eb;have:=hb F Eb.ny;have:=Eb.sum;omega
      rw[eL,eE,kc]at hQ;simp only[if_true,PC]at hQ;simp (disch:=omega) [wrap64,rb];exact hQ _
     |some F =>
      have hb:=atE F jZ;have hso:nR (jY us ss g) release=some F:=by
       cases hc:nR (jY us ss g) release with
       |none =>
        rw[hc]at Eb;have:=Eb F hb.ny;have:=hb.sum;omega
       |some E =>
        rw[hc]at Eb;rw[D9.unique Eb hb]
      rw[eL,eE,hso]at hQ;simp only[K1,reduceCtorEq,if_false]at hQ;simp (disch:=omega) [wrap64,rb];exact hQ _
    ·rw[aK hF]at qu
     have hE:Ci us g=10:=by simp[Ci,hF]
     have eL:iT us ss g release=[]:=by simp[iT,qu]
     have eE:lI us ss g release=10:=by simp[lI,qu]
     rw[hE,av (by omega)]at hA
     rw[eL,eE]at hQ;simp (disch:=omega) [wrap64,F7,JP,hw,dh,h8,h9,hA];exact hQ _
 ·have qu:sr us ss g release=Cg us ss g:=by
   unfold Cg at hw ⊢;unfold sr;split
   ·rfl
   ·split
    ·rfl
    ·split
     ·rfl
     ·rename_i a1 a2 a3
      simp only[a1,a2,a3,if_false]at hw;split at hw
      ·rw[aK (by omega),aK (by assumption)]
      ·exact absurd rfl hw
  have atG:¬sr us ss g release=0:=by rw[qu];exact hw
  have eL:iT us ss g release=[]:=by simp[iT,atG]
  have eE:lI us ss g release=Cg us ss g:=by simp[lI,qu,hw]
  rw[eL,eE]at hQ;simp (disch:=omega) [wrap64,F7,JP,hw];exact hQ _
end Go.Proofs.YtcelmhaoipbdiaaGreat
namespace Go.Proofs.YtcelmhaoipbdiaaGreat
set_option linter.all false
open Go.Vm
end Go.Proofs.YtcelmhaoipbdiaaGreat
namespace Go.Proofs.YtcelmhaoipbdiaaGreat
set_option linter.all false
open Go.Vm
attribute [local simp] ly lz kF lx
structure Gs where
 o:Int
 j:Bool
 deriving Inhabited,DecidableEq
abbrev Gs.row(s:Gs):List V:=[i64 s.o,.bool s.j]
abbrev gs(s:Gs):V:=.agg s.row
abbrev kX(l:List Gt):V:=.slice none 3 (l.map Gt.row)
abbrev jw(l:List Gs):V:=.slice none 2 (l.map Gs.row)
def wq(l:List Rt)(lv:Int):Option (List Pt):=l.foldl (fun a r=>if r.lv≤lv then some r.c else a) none
def tq(l:List Rt)(lv:Int):List Pt:=(wq l lv).getD []
theorem JQ{l:List Rt}{r:Rt}{lv:Int}:wq (l++[r]) lv=if r.lv≤lv then some r.c else wq l lv:=by
 simp[wq,List.foldl_append]
def Ck:Option (List Pt)→V
 |none=>.bU
 |some c=>jg c
@[simp] theorem aDh{o:Option (List Pt)}{d:Nat}:(Ck o).cI d=false:=by cases o<;>rfl
@[simp] theorem aDi{o:Option (List Pt)}:(Ck o).cQ=true:=by cases o<;>rfl
def ud(c:List Pt)(o:Int):Int:=if c.length=0 then 0 else iR c o
structure Gv(g:Gt):Prop where
 cur:∀i,i<g.r.length→gT (nth g.r i).c=0
 top:∀i,i<g.r.length→(nth (nth g.r i).c ((nth g.r i).c.length-1)).y≤1073741824
 bot:∀i,i<g.r.length→(nth (nth g.r i).c 0).x=0∧(nth (nth g.r i).c 0).y=0
 jI:0<g.r.length∧g.r.length≤10
 dC:0≤g.dC∧g.dC≤1000
 move:0≤g.move∧g.move≤1000
theorem afm{g:Gt}(h:lH g=0):Gv g:=by
 unfold lH at h;split at h
 ·cases h
 split at h
 ·cases h
 split at h
 ·rename_i h3;exact absurd h h3
 split at h
 ·cases h
 rename_i h1 h2 h3 h4;have h3:du (pU g.r) g.r.length 0=0:=iu h3;have at_:∀i,i<g.r.length→gT (nth g.r i).c=0∧((nth (nth g.r i).c 0).x=0∧(nth (nth g.r i).c 0).y=0)∧(nth (nth g.r i).c ((nth g.r i).c.length-1)).y≤1073741824:=fun i hi=>by
  have:=sj h3 i (by omega) (by omega)
  unfold pU at this;split at this
  ·cases this
  split at this
  ·cases this
  split at this
  ·rename_i h5;exact absurd this h5
  split at this
  ·cases this
  split at this
  ·cases this
  rename_i h5 h6 h7;exact⟨iu h5,iu h6,by omega⟩
 exact⟨fun i hi=>(at_ i hi).1,fun i hi=>(at_ i hi).2.2,fun i hi=>(at_ i hi).2.1,by omega,by omega,by omega⟩
theorem afn{P:List Pt→Prop}{l:List Rt}{lv:Int}(h:∀i,i<l.length→P (nth l i).c):tq l lv=[]∨P (tq l lv):=by
 have key:∀k,k≤l.length→∀c,wq (l.take k) lv=some c→P c:=by
  intro k;induction k with
  |zero=>intro _ c hc;simp[wq]at hc
  |succ k ih =>
   intro hk c hc;rw[jr (by omega),JQ]at hc
   split at hc
   ·cases hc;exact h k (by omega)
   ·exact ih (by omega) c hc
 have:=key l.length (bY _);rw[pt]at this;unfold tq;cases hc:wq l lv with
 |none=>exact .inl rfl
 |some c=>exact .inr (this c hc)
theorem afo{g:Gt}(hv:Gv g)(lv:Int)(G:List aP):∃t,aX F 210 [gt g,i64 lv] G=some (.agg [.slice t 2 ((tq g.r lv).map Pt.row),i64 0],G):=by
 suffices h:∀Q:V→List aP→Prop,(∀t,Q (.agg [.slice t 2 ((tq g.r lv).map Pt.row),i64 0]) G)→gw (aX F) 210 [gt g,i64 lv] G Q by
  obtain⟨_,_,h,t,rfl,rfl⟩:=h (fun v G'=>∃t,v=.agg [.slice t 2 ((tq g.r lv).map Pt.row),i64 0]∧G'=G) fun t=>⟨t,rfl,rfl⟩;exact⟨t,h⟩
 intro Q hQ;obtain⟨l,dC,move⟩:=g;have Ge:=hv.jI;simp only at Ge;refine gF rfl rfl ?_;simp (disch:=omega) [-getElem?_pos,wrap64,ad3];refine go_loop (fun i:Nat=>ar8 lv (D3 l) l.length i [.bU,i64 0] [Ck (wq (l.take i) lv),i64 0] G) (fun i=>i≤l.length) (fun i=>l.length-i) 0 rfl (by simp[wq,Ck]) (by omega) ?_
 rintro i hi;simp (disch:=omega) [-getElem?_pos,wrap64,ad2];refine bB (fun h3=>?_) (fun h3=>?_)
 ·have h3:i<l.length:=by omega
  by_cases h4:(nth l i).lv≤lv
  ·simp (disch:=omega) [-getElem?_pos,wrap64,aY (l:=l),h3,h4]
   refine bu (i+1) (by simp[jr h3,JQ,h4,Ck]) (by omega) (by omega)
  ·simp (disch:=omega) [-getElem?_pos,wrap64,aY (l:=l),h3,h4]
   refine bu (i+1) (by simp[jr h3,JQ,h4,Ck]) (by omega) (by omega)
 ·obtain rfl:i=l.length:=by omega
  rw[pt];cases hc:wq l lv with
  |none =>
   simp only[tq,hc]at hQ;simp (disch:=omega) [-getElem?_pos,wrap64,Ck];exact hQ _
  |some c =>
   simp only[tq,hc]at hQ;simp (disch:=omega) [-getElem?_pos,wrap64,Ck];exact hQ _
theorem UI{c:List Pt}(h:c=[]∨gT c=0)(w o:Int)(G:List aP):aX F 212 [.agg [jg c,i64 w],i64 o] G=some (i64 (ud c o),G) :=
 bL rfl rfl (by
  rcases h with rfl|h
  ·simp[wrap64,TN,ud]
  ·have hp:=u7 h
   have h1:¬ c.length=0:=by omega
   have h2:¬ (c.length:Int)=0:=by omega
   simp[wrap64,TN,ud,Jy (m6 h),h1,h2])
theorem atH{c:List Pt}(h:c=[]∨gT c=0)(w o:Int)(G:List aP):aX F 209 [.agg [jg c,i64 w],i64 o] G=some (.bool (decide (w≤ud c o)),G) :=
 bL rfl rfl (by
  simp[wrap64,ad1,UI h])
def jK(g:Gt)(o lv:Int):Int:=ud (tq g.r lv) o
theorem atI{g:Gt}(h:Gv g)(o lv:Int)(G:List aP):aX F 185 [gt g,i64 o,i64 lv] G=some (i64 (jK g o lv),G) :=
 bL rfl rfl (by
  obtain⟨l,dC,move⟩:=g;have UJ:=h.cur;have Ge:=h.jI;simp only at UJ Ge;generalize hW:jK ⟨l,dC,move⟩ o lv=W;unfold jK tq at hW;simp only at hW;simp (disch:=omega) [-getElem?_pos,wrap64,adD];refine go_loop (fun i:Nat=>arE o lv (ud ((wq (l.take i) lv).getD []) o) (D3 l) l.length i G) (fun i=>i≤l.length) (fun i=>l.length-i) 0 rfl (by simp[wq,ud]) (by omega) ?_
  rintro i hi;simp (disch:=omega) [-getElem?_pos,wrap64,adC];refine bB (fun h3=>?_) (fun h3=>?_)
  ·have h3:i<l.length:=by omega
   have hp:=u7 (UJ i h3);have hn:¬ (nth l i).c=[]:=fun e=>by rw[e]at hp;simp at hp
   by_cases h4:(nth l i).lv≤lv
   ·simp (disch:=omega) [-getElem?_pos,wrap64,aY (l:=l),h3,h4,T4,UJ]
    refine bu (i+1) (by simp[jr h3,JQ,h4,ud,hn]) (by omega) (by omega)
   ·simp (disch:=omega) [-getElem?_pos,wrap64,aY (l:=l),h3,h4]
    refine bu (i+1) (by simp[jr h3,JQ,h4]) (by omega) (by omega)
  ·obtain rfl:i=l.length:=by omega
   rw[pt];simp (disch:=omega) [-getElem?_pos,wrap64,hW])
def ot(g:Gt)(s:Gs):Prop:=0≤s.o∧s.o≤g.dC
instance {g:Gt} {s:Gs}:Decidable (ot g s):=inferInstanceAs (Decidable (_∧_))
def fD(g:Gt)(s:Gs):Bd:=if s.j then ⟨s.o,s.o⟩ else ⟨max (s.o-g.move) 0,min (s.o+g.move) g.dC⟩
theorem afp{g:Gt}{s:Gs}(h:Gv g)(hs:ot g s)(G:List aP):aX F 211 [gt g,gs s] G=some (.agg (fD g s).row,G) :=
 bL rfl rfl (by
  obtain⟨l,dC,move⟩:=g;obtain⟨o,j⟩:=s;have h1:=h.dC;have h2:=h.move;have h3:=hs.1;have h4:=hs.2;simp only at h1 h2 h3 h4;cases j with
  |true=>simp (disch:=omega) [wrap64,TM,fD]
  |false =>
   have e1:max (0:Int) (o-move)=max (o-move) 0:=Int.max_comm _ _;have e2:min dC (o+move)=min (o+move) dC:=O3 _ _;simp (disch:=omega) [wrap64,TM,fD,e1,e2])
theorem atJ{g:Gt}{s:Gs}(h:Gv g)(hs:ot g s)(G:List aP):aX F 184 [gt g,gs s] G=some (.agg (fD g s).row,G) :=
 bL rfl rfl (by
  obtain⟨l,dC,move⟩:=g;obtain⟨o,j⟩:=s;have h1:=h.dC;have h2:=h.move;have h3:=hs.1;have h4:=hs.2;simp only at h1 h2 h3 h4;cases j with
  |true=>simp (disch:=omega) [wrap64,TD,fD]
  |false =>
   have e1:max (0:Int) (o-move)=max (o-move) 0:=Int.max_comm _ _;have e2:min dC (o+move)=min (o+move) dC:=O3 _ _;simp (disch:=omega) [wrap64,TD,fD,e1,e2])
theorem Nz(g:Gt)(s:Gs)(G:List aP):aX F 224 [gt g,gs s] G=some (.bool (decide (ot g s)),G) :=
 bL rfl rfl (by
  simp[wrap64,TP,Ts,dM,dh,ot];by_cases h1:0≤s.o<;>by_cases h2:s.o≤g.dC<;>simp[h1,h2])
theorem Cl(g:Gt)(s:Gs)(G:List aP):aX F 143 [gt g,gs s] G=some (.bool (decide (ot g s)),G) :=
 bL rfl rfl (by
  simp[wrap64,TP,Ts,dM,dh,ot];by_cases h1:0≤s.o<;>by_cases h2:s.o≤g.dC<;>simp[h1,h2])
def AQ(g:List Gt)(s:List Gs):Prop:=∀i,i<g.length→ot (nth g i) (nth s i)
noncomputable instance {g:List Gt} {s:List Gs}:Decidable (AQ g s):=Classical.propDecidable _
noncomputable def aE(g:List Gt)(s:List Gs)(lv:Int):Int :=
 if 8<g.length then 10 else if g.length≠s.length then 3 else if ¬AQ g s then 3
 else if du (fun i=>lH (nth g i)) g.length 0≠0 then du (fun i=>lH (nth g i)) g.length 0 else if ¬(0≤lv∧lv≤16777216) then 1 else 0
theorem afq(g:List Gt)(s:List Gs)(lv:Int)(G:List aP):aX F 220 [kX g,jw s,i64 lv] G=some (i64 (aE g s lv),G) :=
 bL rfl rfl (by
  generalize hW:aE g s lv=W;unfold aE at hW;simp (disch:=omega) [-getElem?_pos,wrap64,TO,Tw];refine bB (fun h1=>?_) (fun h1=>ic (fun h2=>?_) (fun h2=>?_))
  ·rw[aK (by omega)]at hW
   exact hW
  ·simp[-List.length_eq_zero_iff,-Int.natCast_eq_zero]at h2
   rw[av (by omega),aK (by omega)]at hW
   exact hW
  ·simp[-List.length_eq_zero_iff,-Int.natCast_eq_zero]at h2
   rw[av (by omega),av (by omega)]at hW
   have hl:g.length=s.length:=by omega
   refine go_loop (fun i:Nat=>asn (kX g) (jw s) lv (kX g) g.length i G) (fun i=>i≤g.length∧∀j,j<i→ot (nth g j) (nth s j)) (fun i=>g.length-i) 0 rfl (by simp) ⟨by omega,by omega⟩ ?_
   rintro i ⟨hi,hv⟩;simp (disch:=omega) [-getElem?_pos,wrap64,aed];refine bB (fun h3=>?_) (fun h3=>?_)
   ·have h3:i<g.length:=by omega
    by_cases h4:ot (nth g i) (nth s i)
    ·simp (disch:=omega) [-getElem?_pos,wrap64,aY (l:=g),aY (l:=s),Nz,Cl,h4]
     refine bu (i+1) (by simp) ⟨by omega,fun j hj=>?_⟩ (by omega)
     rcases cM j i with h5|h5
     ·exact hv j h5
     ·rwa [show j=i by omega]
    ·rw[aK (fun h=>h4 (h i h3))]at hW
     simp (disch:=omega) [-getElem?_pos,wrap64,aY (l:=g),aY (l:=s),Nz,Cl,h4];exact hW
   ·obtain rfl:i=g.length:=by omega
    rw[av (fun h=>h hv)]at hW;refine go_loop (fun i:Nat=>asp lv (kX g) g.length i G) (fun i=>i≤g.length∧du (fun i=>lH (nth g i)) (g.length-i) i=du (fun i=>lH (nth g i)) g.length 0) (fun i=>g.length-i) 0 rfl (by simp) ⟨by omega,rfl⟩ ?_
    rintro i ⟨hi,hq⟩;simp (disch:=omega) [-getElem?_pos,wrap64,aee];refine bB (fun h3=>?_) (fun h3=>?_)
    ·have h3:i<g.length:=by omega
     rw[jq h3]at hq;by_cases h4:lH (nth g i)=0
     ·rw[aK h4]at hq
      simp (disch:=omega) [-getElem?_pos,wrap64,aY (l:=g),Cd,Ce,h4];exact bu (i+1) (by simp) ⟨by omega,hq⟩ (by omega)
     ·rw[av h4]at hq
      rw[←hq,aK h4]at hW;simp (disch:=omega) [-getElem?_pos,wrap64,aY (l:=g),Cd,Ce,h4];exact hW
    ·obtain rfl:i=g.length:=by omega
     rw[lC]at hq;rw[←hq,av (by omega)]at hW
     by_cases m1:0≤lv∧lv≤16777216
     ·have m2:(!decide (0≤lv) || !decide (lv≤16777216))=false:=by simp;omega
      rw[av (by omega)]at hW
      simp (disch:=omega) [-getElem?_pos,wrap64,dM,dh,m2];exact hW
     ·have m2:(!decide (0≤lv) || !decide (lv≤16777216))=true:=by simp;omega
      rw[aK (by omega)]at hW
      simp (disch:=omega) [-getElem?_pos,wrap64,dM,dh,m2];exact hW)
theorem NA(g:List Gt)(s:List Gs)(lv:Int)(G:List aP):aX F 152 [kX g,jw s,i64 lv] G=some (i64 (aE g s lv),G) :=
 bL rfl rfl (by
  generalize hW:aE g s lv=W;unfold aE at hW;simp (disch:=omega) [-getElem?_pos,wrap64,TO,Tw];refine bB (fun h1=>?_) (fun h1=>ic (fun h2=>?_) (fun h2=>?_))
  ·rw[aK (by omega)]at hW
   exact hW
  ·simp[-List.length_eq_zero_iff,-Int.natCast_eq_zero]at h2
   rw[av (by omega),aK (by omega)]at hW
   exact hW
  ·simp[-List.length_eq_zero_iff,-Int.natCast_eq_zero]at h2
   rw[av (by omega),av (by omega)]at hW
   have hl:g.length=s.length:=by omega
   refine go_loop (fun i:Nat=>aqP (kX g) (jw s) lv (kX g) g.length i G) (fun i=>i≤g.length∧∀j,j<i→ot (nth g j) (nth s j)) (fun i=>g.length-i) 0 rfl (by simp) ⟨by omega,by omega⟩ ?_
   rintro i ⟨hi,hv⟩;simp (disch:=omega) [-getElem?_pos,wrap64,acV];refine bB (fun h3=>?_) (fun h3=>?_)
   ·have h3:i<g.length:=by omega
    by_cases h4:ot (nth g i) (nth s i)
    ·simp (disch:=omega) [-getElem?_pos,wrap64,aY (l:=g),aY (l:=s),Nz,Cl,h4]
     refine bu (i+1) (by simp) ⟨by omega,fun j hj=>?_⟩ (by omega)
     rcases cM j i with h5|h5
     ·exact hv j h5
     ·rwa [show j=i by omega]
    ·rw[aK (fun h=>h4 (h i h3))]at hW
     simp (disch:=omega) [-getElem?_pos,wrap64,aY (l:=g),aY (l:=s),Nz,Cl,h4];exact hW
   ·obtain rfl:i=g.length:=by omega
    rw[av (fun h=>h hv)]at hW;refine go_loop (fun i:Nat=>aqS lv (kX g) g.length i G) (fun i=>i≤g.length∧du (fun i=>lH (nth g i)) (g.length-i) i=du (fun i=>lH (nth g i)) g.length 0) (fun i=>g.length-i) 0 rfl (by simp) ⟨by omega,rfl⟩ ?_
    rintro i ⟨hi,hq⟩;simp (disch:=omega) [-getElem?_pos,wrap64,acW];refine bB (fun h3=>?_) (fun h3=>?_)
    ·have h3:i<g.length:=by omega
     rw[jq h3]at hq;by_cases h4:lH (nth g i)=0
     ·rw[aK h4]at hq
      simp (disch:=omega) [-getElem?_pos,wrap64,aY (l:=g),Cd,Ce,h4];exact bu (i+1) (by simp) ⟨by omega,hq⟩ (by omega)
     ·rw[av h4]at hq
      rw[←hq,aK h4]at hW;simp (disch:=omega) [-getElem?_pos,wrap64,aY (l:=g),Cd,Ce,h4];exact hW
    ·obtain rfl:i=g.length:=by omega
     rw[lC]at hq;rw[←hq,av (by omega)]at hW
     by_cases m1:0≤lv∧lv≤16777216
     ·have m2:(!decide (0≤lv) || !decide (lv≤16777216))=false:=by simp;omega
      rw[av (by omega)]at hW
      simp (disch:=omega) [-getElem?_pos,wrap64,dM,dh,m2];exact hW
     ·have m2:(!decide (0≤lv) || !decide (lv≤16777216))=true:=by simp;omega
      rw[aK (by omega)]at hW
      simp (disch:=omega) [-getElem?_pos,wrap64,dM,dh,m2];exact hW)
theorem atK{c:List Pt}{i:Nat}:qp c i (nth c (i-1)).x=(nth c (i-1)).y:=by simp[qp]
theorem atL{c:List Pt}(h:Cv c){k:Nat}(hk:k<c.length){x:Int}(hx:x≤(nth c k).x):iR c x≤(nth c k).y:=by
 rcases TZ h x with h1 | ⟨i,a,b,d,e⟩ | h1
 ·rw[DZ h h1];exact h.le (by omega) hk
 ·rw[yN h a b d e]
  have h2:=Jv h a b d e;rcases cM k i with h3|h3
  ·rcases cM k (i-1) with h4|h4
   ·have:=h.lt h4 (by omega);omega
   ·obtain rfl:k=i-1:=by omega
    have:x=(nth c (i-1)).x:=by omega
    rw[this,atK];omega
  ·have:=h.le h3 hk
   unfold qp;omega
 ·have hp:=h.pos
  rcases cM k (c.length-1) with h4|h4
  ·have:=h.lt h4 (by omega);omega
  ·obtain rfl:k=c.length-1:=by omega
   rw[Ni h h1];omega
theorem UK{c:List Pt}(h:Cv c){x x':Int}(hx:x≤x'):iR c x≤iR c x':=by
 rcases TZ h x' with h1 | ⟨i,a,b,d,e⟩ | h1
 ·rw[DZ h h1,DZ h (by omega)];omega
 ·by_cases h2:(nth c (i-1)).x≤x
  ·rw[yN h a b d e,yN h a b h2 (by omega)]
   have h3:=h.up i a b;have h4:=h.mono i a b;unfold qp;have:=Int.tdiv_le_tdiv (a:=((nth c i).y-(nth c (i-1)).y)*(x-(nth c (i-1)).x)) (b:=((nth c i).y-(nth c (i-1)).y)*(x'-(nth c (i-1)).x)) (c:=(nth c i).x-(nth c (i-1)).x) (by omega)
    (KJ (by omega) (by omega))
   omega
  ·have h5:=atL h (k:=i-1) (by omega) (x:=x) (by omega)
   have h6:=Jv h a b d e;rw[yN h a b d e];unfold qp;omega
 ·rw[Ni h h1]
  exact(F9 h x).2
theorem atM{c:List Pt}(h:c=[]∨gT c=0){o o':Int}(ho:o≤o'):ud c o≤ud c o':=by
 rcases h with rfl|h
 ·simp[ud]
 ·unfold ud
  rw[av (by have:=u7 h;omega),av (by have:=u7 h;omega)]
  exact UK (m6 h) ho
theorem UL{g:Gt}(h:Gv g)(lv:Int):tq g.r lv=[]∨gT (tq g.r lv)=0:=afn (P:=fun c=>gT c=0) h.cur
theorem atN{g:Gt}(h:Gv g){lv o o':Int}(ho:o≤o'):jK g o lv≤jK g o' lv:=atM (UL h lv) ho
theorem vd{g:Gt}(h:Gv g)(o lv:Int):0≤jK g o lv∧jK g o lv≤1073741824:=by
 unfold jK ud;have h1:=afn (P:=fun c=>gT c=0∧(nth c (c.length-1)).y≤1073741824) (l:=g.r) (lv:=lv) (fun i hi=>⟨h.cur i hi,h.top i hi⟩);rcases h1 with h1 | ⟨h1,h2⟩
 ·rw[h1];simp
 ·rw[av (by have:=u7 h1;omega)]
  have h3:=F9 (m6 h1) o;have h4:=(m6 h1).y0 0 (u7 h1);omega
theorem JR{g:List Gt}{s:List Gs}{lv:Int}(h:aE g s lv=0):g.length≤8∧g.length=s.length∧AQ g s∧(∀i,i<g.length→Gv (nth g i))∧0≤lv∧lv≤16777216:=by
 unfold aE at h;split at h
 ·cases h
 split at h
 ·cases h
 split at h
 ·cases h
 split at h
 ·rename_i h1;exact absurd h h1
 split at h
 ·cases h
 rename_i h1 h2 h3 h4 h5;have h4:=iu h4;exact⟨by omega,by omega,iu h3,fun i hi=>afm (sj h4 i (by omega) (by omega)),by omega⟩
def mM(f:Gt→Gs→Int)(g:List Gt)(s:List Gs)(i:Nat):Int:=(List.zipWith f (g.take i) (s.take i)).sum
theorem JS{f:Gt→Gs→Int}{g:List Gt}{s:List Gs}:mM f g s 0=0:=by simp[mM]
theorem Ec{f:Gt→Gs→Int}{g:List Gt}{s:List Gs}{i:Nat}(h1:i<g.length)(h2:i<s.length):mM f g s (i+1)=mM f g s i+f (nth g i) (nth s i):=by
 unfold mM;rw[AN h1 h2,KU];simp
theorem UM{f:Gt→Gs→Int}{g:List Gt}{s:List Gs}(hl:g.length=s.length)(h:∀i,i<g.length→0≤f (nth g i) (nth s i)∧f (nth g i) (nth s i)≤1073741824):∀i,i≤g.length→0≤mM f g s i∧mM f g s i≤1073741824*i:=by
 intro i;induction i with
 |zero=>intro _;rw[JS];omega
 |succ i ih =>
  intro hi;rw[Ec (by omega) (by omega)]
  have:=ih (by omega)
  have:=h i (by omega)
  omega
def gU(lv:Int)(g:Gt)(s:Gs):Int:=jK g (fD g s).lo lv
def NB(lv:Int)(g:Gt)(s:Gs):Int:=jK g (fD g s).hi lv
noncomputable def Gq(g:List Gt)(s:List Gs)(lv:Int):V:=if aE g s lv=0 then .tuple [.agg [i64 (mM (gU lv) g s g.length),i64 (mM (NB lv) g s g.length)],i64 0] else .tuple [.agg [i64 0,i64 0],i64 (aE g s lv)]
theorem UN(g:List Gt)(s:List Gs)(lv:Int)(G:List aP):aX F 208 [kX g,jw s,i64 lv] G=some (Gq g s lv,G) :=
 bL rfl rfl (by
  generalize hW:Gq g s lv=W;unfold Gq at hW;by_cases he:aE g s lv=0
  ·rw[aK he]at hW
   obtain⟨h1,h2,h3,h4,h5⟩:=JR he;have r1:=UM (f:=gU lv) h2 (fun i hi=>vd (h4 i hi) _ _);have r2:=UM (f:=NB lv) h2 (fun i hi=>vd (h4 i hi) _ _);simp (disch:=omega) [-getElem?_pos,wrap64,TL,afq,he];refine go_loop (fun i:Nat=>ar6 (jw s) lv (kX g) g.length i [i64 0,i64 0] [i64 (mM (gU lv) g s i),i64 (mM (NB lv) g s i)] G) (fun i=>i≤g.length) (fun i=>g.length-i) 0 rfl (by simp[JS]) (by omega) ?_
   rintro i hi;simp (disch:=omega) [-getElem?_pos,wrap64,ad0];refine bB (fun h6=>?_) (fun h6=>?_)
   ·have h6:i<g.length:=by omega
    have h7:i<s.length:=by omega
    obtain⟨t,ht⟩:=afo (h4 i h6) lv [];have hr:=afp (h4 i h6) (h3 i h6);have hf:=UI (UL (h4 i h6) lv);have b1:=r1 i (by omega)
    have b2:=r2 i (by omega)
    have b3:=vd (h4 i h6) (fD (nth g i) (nth s i)).lo lv;have b4:=vd (h4 i h6) (fD (nth g i) (nth s i)).hi lv;unfold jK at b3 b4;simp (disch:=omega) [-getElem?_pos,wrap64,aY (l:=g),aY (l:=s),ht,hr,hf];exact bu (i+1) (by simp[Ec h6 h7,gU,NB,jK]) (by omega) (by omega)
   ·obtain rfl:i=g.length:=by omega
    exact hW
  ·rw[av he]at hW
   simp (disch:=omega) [-getElem?_pos,wrap64,TL,afq,he];exact hW)
def mN(f:Bd→Int)(g:List Gt)(s:List Gs):List Int:=List.zipWith (fun g s=>f (fD g s)) g s
theorem Cn{f:Bd→Int}{g:List Gt}{s:List Gs}(h:g.length=s.length):(mN f g s).length=g.length:=by simp[mN,h]
theorem JT{f:Bd→Int}{g:List Gt}{s:List Gs}{i:Nat}(h1:i<g.length)(h2:i<s.length):nth (mN f g s) i=f (fD (nth g i) (nth s i)):=Gj h1 h2
theorem atO{g:List Gt}{s:List Gs}(hl:g.length=s.length)(hn:g.length≤8)(hs:AQ g s)(hv:∀i,i<g.length→Gv (nth g i))(G:List aP) :
  aX F 153 [kX g,jw s] G=some (.tuple [own (mN Bd.lo g s),own (mN Bd.hi g s)],G) :=
 bL rfl rfl (by
  simp (disch:=omega) [-getElem?_pos,wrap64,acY];refine go_loop (fun i:Nat=>aqU (jw s) (.slice (some 1028) 1 ((mN Bd.lo (g.take i) (s.take i)).map fun n=>[i64 n])) (.slice (some 1033) 1 ((mN Bd.hi (g.take i) (s.take i)).map fun n=>[i64 n])) (kX g) g.length i i i G) (fun i=>i≤g.length) (fun i=>g.length-i) 0 rfl (by simp[mN]) (by omega) ?_
  rintro i hi;have e1:(mN Bd.lo (g.take i) (s.take i)).length=i:=by rw[Cn (by simp;omega)];simp;omega
  have e2:(mN Bd.hi (g.take i) (s.take i)).length=i:=by rw[Cn (by simp;omega)];simp;omega
  simp (disch:=omega) [-getElem?_pos,wrap64,acX,e1,e2];refine bB (fun h6=>?_) (fun h6=>?_)
  ·have h6:i<g.length:=by omega
   have h7:i<s.length:=by omega
   have hr:=atJ (hv i h6) (hs i h6);simp (disch:=omega) [-getElem?_pos,wrap64,aY (l:=g),aY (l:=s),hr,e1,e2];refine bu (i+1) ?_ (by omega) (by omega)
   unfold mN;rw[AN h6 h7,AN h6 h7];simp
  ·obtain rfl:i=g.length:=by omega
   have t1:g.take g.length=g:=pt;have t2:s.take g.length=s:=by rw[hl];exact pt
   rw[t1,t2]at *;simp (disch:=omega) [-getElem?_pos,wrap64,e1,e2])
def rj(g:List Gt)(l:List Int)(lv:Int)(i:Nat):Int:=(List.zipWith (fun g o=>jK g o lv) (g.take i) (l.take i)).sum
theorem NC{g:List Gt}{l:List Int}{lv:Int}:rj g l lv 0=0:=by simp[rj]
theorem JU{g:List Gt}{l:List Int}{lv:Int}{i:Nat}(h1:i<g.length)(h2:i<l.length):rj g l lv (i+1)=rj g l lv i+jK (nth g i) (nth l i) lv:=by
 unfold rj;rw[AN h1 h2,KU];simp
theorem atP{g:List Gt}{l:List Int}{lv:Int}(hl:g.length=l.length)(hv:∀i,i<g.length→Gv (nth g i)):∀i,i≤g.length→0≤rj g l lv i∧rj g l lv i≤1073741824*i:=by
 intro i;induction i with
 |zero=>intro _;rw[NC];omega
 |succ i ih =>
  intro hi;rw[JU (by omega) (by omega)]
  have:=ih (by omega)
  have:=vd (hv i (by omega)) (nth l i) lv
  omega
theorem JV{g:List Gt}{l:List Int}(hl:g.length=l.length)(hn:g.length≤8)(hv:∀i,i<g.length→Gv (nth g i))(lv:Int)(G:List aP) :
  aX F 154 [kX g,ints l,i64 lv] G=some (i64 (rj g l lv g.length),G) :=
 bL rfl rfl (by
  generalize hW:rj g l lv g.length=W;simp (disch:=omega) [-getElem?_pos,wrap64,ac0];refine go_loop (fun i:Nat=>aqY (ints l) lv (rj g l lv i) (kX g) g.length i G) (fun i=>i≤g.length) (fun i=>g.length-i) 0 rfl (by simp[NC]) (by omega) ?_
  rintro i hi;simp (disch:=omega) [-getElem?_pos,wrap64,acZ];refine bB (fun h6=>?_) (fun h6=>?_)
  ·have h6:i<g.length:=by omega
   have h7:i<l.length:=by omega
   have hr:=atI (hv i h6);have b1:=atP (lv:=lv) hl hv i (by omega)
   have b2:=vd (hv i h6) (nth l i) lv;simp (disch:=omega) [-getElem?_pos,wrap64,aY (l:=g),dA h7,hr];exact bu (i+1) (by simp[JU h6 h7]) (by omega) (by omega)
  ·obtain rfl:i=g.length:=by omega
   exact hW)
theorem atQ{f:Bd→Int}{g:List Gt}{s:List Gs}{lv:Int}(hl:g.length=s.length):∀i,i≤g.length→rj g (mN f g s) lv i=mM (fun g s=>jK g (f (fD g s)) lv) g s i:=by
 intro i;induction i with
 |zero=>intro _;rw[NC,JS]
 |succ i ih =>
  intro hi;rw[JU (by omega) (by rw[Cn hl];omega),Ec (by omega) (by omega),ih (by omega),JT (by omega) (by omega)]
theorem atS{n:Int}(h1:0≤n)(h2:n≤18446744073709551615):IntKind.u64.wrap n=n:=by
 simp[IntKind.wrap,IntKind.bits,IntKind.signed];omega
def afr(f:FuncId)(cap:List V)(G:List aP)(N:Int)(p:Int→Bool):Prop:=∀m,0≤m→m<N→aX F f (i64 m::cap) G=some (.bool (p m),G)
theorem atT{f:FuncId}{cap:List V}{G:List aP}{N:Int}{p:Int→Bool}(hN:0≤N)(hN2:N≤1000000)(h:afr f cap G N p) :
  ∃r,aX F 221 [i64 N,.fn f cap] G=some (i64 r,G)∧0≤r∧r≤N∧(0<r→p (r-1)=false)∧(r<N→p r=true):=by
 suffices hs:∀Q:V→List aP→Prop,(∀r,0≤r→r≤N→(0<r→p (r-1)=false)→(r<N→p r=true)→Q (i64 r) G)→gw (aX F) 221 [i64 N,.fn f cap] G Q by
  obtain⟨_,_,h,r,rfl,rfl,h1⟩:=hs (fun v G'=>∃r,v=i64 r∧G'=G∧0≤r∧r≤N∧(0<r→p (r-1)=false)∧(r<N→p r=true)) fun r a b c d=>⟨r,rfl,rfl,a,b,c,d⟩;exact⟨r,h,h1⟩
 intro Q hQ;refine gF rfl rfl ?_;simp (disch:=omega) [wrap64,aeg];refine go_loop (fun s:Int×Int=>asr (.fn f cap) s.1 s.2 G) (fun s=>0≤s.1∧s.1≤s.2∧s.2≤N∧(0<s.1→p (s.1-1)=false)∧(s.2<N→p s.2=true)) (fun s=>(s.2-s.1).toNat) (0,N) rfl (by simp) ⟨by simp,by simpa using hN,by simp,by simp,by simp⟩ ?_
 rintro⟨a,b⟩ ⟨h1,h2,h3,h4,h5⟩;simp only at h1 h2 h3 h4 h5;simp (disch:=omega) [wrap64,aef];refine bB (fun h6=>?_) (fun h6=>?_)
 ·have e1:IntKind.u64.wrap (a+b)=a+b:=atS (by omega) (by omega)
  have e2:(a+b).fdiv 2=(a+b) / 2:=Int.fdiv_eq_ediv_of_nonneg _ (by omega)
  have hp:=h ((a+b) / 2) (by omega) (by omega)
  have e3:(2:Int) ^ (min 1 IntKind.u64.bits)=2:=rfl;simp (disch:=omega) [wrap64,e1,e2,e3,hp];cases hq:p ((a+b) / 2) with
  |false =>
   simp (disch:=omega) [wrap64,wrap64];refine bu ((a+b) / 2+1,b) (by simp) ⟨by simp;omega,by simp;omega,h3,fun _=>?_,h5⟩ (by simp;omega)
   simpa using hq
  |true =>
   simp (disch:=omega) [wrap64,wrap64];exact bu (a,(a+b) / 2) (by simp) ⟨h1,by simp;omega,by simp;omega,h4,fun _=>hq⟩ (by simp;omega)
 ·obtain rfl:a=b:=by omega
  exact hQ a (by omega) (by omega) h4 h5
def wu(p:Int→Bool):Nat→Int→Int
 |0,o=>o
 |n+1,o=>if p o then o else wu p n (o+1)
theorem UO{p:Int→Bool}:∀{n:Nat} {o x:Int},o≤x→x≤o+n→(∀m,o≤m→m<x→p m=false)→(x<o+n→p x=true)→wu p n o=x
 |0,o,x,h1,h2,_,_=>by simp[wu];omega
 |n+1,o,x,h1,h2,h3,h4=>by
  unfold wu;by_cases h:o=x
  ·subst h
   rw[aK (h4 (by omega))]
  ·rw[av (by rw[h3 o (by omega) (by omega)];simp)]
   exact UO (by omega) (by omega) (fun m a b=>h3 m (by omega) b) (fun a=>h4 (by omega))
theorem atU{f:FuncId}{cap:List V}{G:List aP}{i j:Nat}{lo hi m:Int}{b:Bool}(h1:G[i]?=some (.cells [.fn f cap]))(h2:G[j]?=some (.cells [i64 lo,i64 hi]))
  (hw:-1000000≤lo+m∧lo+m≤1000000) (h:aX F f (i64 (lo+m)::cap) G=some (.bool b,G)):aX F 222 [i64 m,.bH i 0,.bH j 0] G=some (.bool b,G) :=
 bL rfl rfl (by
  have e:IntKind.i64.wrap (lo+m)=lo+m:=wrap64 (by omega) (by omega)
  simp[wrap64,aeh,h1,h2,h,e])
theorem atV{f:FuncId}{cap:List V}{G:List aP}{lo hi:Int}{p:Int→Bool}(hl:0≤lo∧lo≤hi∧hi≤1000)(hp:∀m m',p m=true→m≤m'→p m'=true)
  (h:∀E m,lo≤m→m≤hi→aX F f (i64 m::cap) (G++E)=some (.bool (p m),G++E)) :
  aX F 213 [.agg [i64 lo,i64 hi],.fn f cap] G=some (i64 (wu p (hi-lo).toNat lo),G++[.cells [i64 lo,i64 hi],.cells [.fn f cap]]):=by
 have hs:afr 222 [.bH (G.length+1) 0,.bH G.length 0] (G++[.cells [i64 lo,i64 hi],.cells [.fn f cap]]) (hi-lo+1) (fun m=>p (lo+m)):=fun m a b =>
  atU Y8 FJ (by omega) (h _ _ (by omega) (by omega))
 obtain⟨r,h1,h2,h3,h4,h5⟩:=atT (by omega) (by omega) hs
 have e:wu p (hi-lo).toNat lo=min (lo+r) hi:=by
  refine UO (by omega) (by omega) (fun m a b=>?_) (fun a=>?_)
  ·have h6:=h4 (by omega)
   cases hq:p m with
   |false=>rfl
   |true =>
    have:=hp m (lo+(r-1)) hq (by omega)
    rw[h6]at this;cases this
  ·have:=h5 (by omega)
   rw[show min (lo+r) hi=lo+r by omega]
   exact this
 rw[e];exact bL rfl rfl (by
  simp (disch:=omega) [wrap64,ad4,h1,FJ,Y8])
theorem atW{G:List aP}{i j:Nat}{m w:Int}{c:List Pt}(h1:G[i]?=some (.cells [.fn 209 []]))(h2:G[j]?=some (.cells [jg c,i64 w]))(hc:c=[]∨gT c=0) :
  aX F 214 [i64 m,.bH i 0,.bH j 0] G=some (.bool (decide (w≤ud c m)),G) :=
 bL rfl rfl (by
  simp[wrap64,ad5,h1,h2,atH hc])
def rm(lv w:Int)(g:Gt)(s:Gs)(sum:Int):Int :=
 if sum<w then wu (fun o=>decide (w-(sum-gU lv g s)≤jK g o lv)) ((fD g s).hi-(fD g s).lo).toNat (fD g s).lo else (fD g s).lo
def bs(lv w:Int)(g:List Gt)(s:List Gs):Nat→List Int×Int
 |0=>(mN Bd.lo g s,mM (gU lv) g s g.length)
 |i+1=>((bs lv w g s i).1.set i (rm lv w (nth g i) (nth s i) (bs lv w g s i).2),(bs lv w g s i).2-gU lv (nth g i) (nth s i)+jK (nth g i) (rm lv w (nth g i) (nth s i) (bs lv w g s i).2) lv)
def Gr(o:Int)(s:Gs):Gs:=⟨o,s.j⟩
def nT(l:List Int)(s:List Gs):List Gs:=List.zipWith Gr l s
noncomputable def mi(g:List Gt)(s:List Gs)(lv w:Int):Int:=if aE g s lv≠0 then aE g s lv else if ¬(0≤w∧w≤1073741824) then 1 else 0
noncomputable def pX(g:List Gt)(s:List Gs)(lv w:Int):List Gs:=if mi g s lv w=0 then nT (bs lv w g s g.length).1 s else []
noncomputable def pe(g:List Gt)(s:List Gs)(lv w:Int):Int:=if mi g s lv w=0 then (bs lv w g s g.length).2 else 0
theorem pY{lv w:Int}{g:List Gt}{s:List Gs}(hl:g.length=s.length):∀i,(bs lv w g s i).1.length=g.length
 |0=>Cn hl
 |i+1=>by simp[bs,pY hl i]
theorem Ed{g:Gt}{s:Gs}(h:Gv g)(hs:ot g s):0≤(fD g s).lo∧(fD g s).lo≤(fD g s).hi∧(fD g s).hi≤g.dC:=by
 have h1:=h.dC;have h2:=h.move;have h3:=hs.1;have h4:=hs.2;unfold fD;split
 ·simp only;omega
 ·simp only;omega
theorem afs{p:Int→Bool}:∀{n:Nat} {o:Int},o≤wu p n o∧wu p n o≤o+n
 |0,o=>by simp[wu]
 |n+1,o=>by
  unfold wu;have:=afs (p:=p) (n:=n) (o:=o+1);split
  ·omega
  ·omega
theorem atX{lv w:Int}{g:Gt}{s:Gs}(h:Gv g)(hs:ot g s)(sum:Int):(fD g s).lo≤rm lv w g s sum∧rm lv w g s sum≤(fD g s).hi:=by
 have:=Ed h hs;unfold rm;split
 ·have:=afs (p:=fun o=>decide (w-(sum-gU lv g s)≤jK g o lv)) (n:=((fD g s).hi-(fD g s).lo).toNat) (o:=(fD g s).lo)
  omega
 ·omega
theorem atY{lv w:Int}{g:List Gt}{s:List Gs}(hl:g.length=s.length)(hs:AQ g s)(hv:∀i,i<g.length→Gv (nth g i)):∀i,i≤g.length →
  mM (gU lv) g s g.length-mM (gU lv) g s i≤(bs lv w g s i).2∧(bs lv w g s i).2≤mM (gU lv) g s g.length-mM (gU lv) g s i+1073741824*i:=by
 intro i;induction i with
 |zero=>intro _;simp[bs,JS]
 |succ i ih =>
  intro hi;have h1:=ih (by omega)
  have h2:=vd (hv i (by omega)) (rm lv w (nth g i) (nth s i) (bs lv w g s i).2) lv
  have h3:=vd (hv i (by omega)) (fD (nth g i) (nth s i)).lo lv
  rw[Ec (by omega) (by omega)]
  simp only[bs,gU]at h1 ⊢;omega
theorem aft{lv w:Int}{g:List Gt}{s:List Gs}(hl:g.length=s.length)(hn:g.length≤8)(hs:AQ g s)(hv:∀i,i<g.length→Gv (nth g i)){i:Nat}(hi:i≤g.length) :
  0≤(bs lv w g s i).2∧(bs lv w g s i).2≤17179869184∧(i<g.length→gU lv (nth g i) (nth s i)≤(bs lv w g s i).2):=by
 have h1:=atY (lv:=lv) (w:=w) hl hs hv i hi;have r:=UM (f:=gU lv) hl (fun i hi=>vd (hv i hi) _ _);have r1:=r g.length (bY _);have r2:=r i hi;have mono:∀k,i≤k→k≤g.length→mM (gU lv) g s i≤mM (gU lv) g s k:=by
  intro k h;induction k with
  |zero=>intro _;obtain rfl:i=0:=by omega
         omega
  |succ k ih =>
   intro hk;rcases cM k i with h3|h3
   ·obtain rfl:i=k+1:=by omega
    omega
   ·rw[Ec (by omega) (by omega)]
    have:=ih h3 (by omega)
    have:=vd (hv k (by omega)) (fD (nth g k) (nth s k)).lo lv
    unfold gU;unfold gU at *;omega
 have m1:=mono g.length hi (bY _);refine⟨by omega,by omega,fun h=>?_⟩
 have m2:=mono (i+1) (by omega) (by omega)
 have m3:mM (gU lv) g s (i+1)≤mM (gU lv) g s g.length:=by
  have atZ:∀k,i+1≤k→k≤g.length→mM (gU lv) g s (i+1)≤mM (gU lv) g s k:=by
   intro k hk;induction k with
   |zero=>omega
   |succ k ih =>
    intro oT;rcases cM k (i+1) with h3|h3
    ·obtain rfl:i=k:=by omega
     omega
    ·rw[Ec (i:=k) (by omega) (by omega)]
     have:=ih h3 (by omega)
     have:=vd (hv k (by omega)) (fD (nth g k) (nth s k)).lo lv
     unfold gU;unfold gU at *;omega
  exact atZ g.length (by omega) (bY _)
 rw[Ec (by omega) (by omega)]at m3
 omega
theorem at0(g:List Gt)(s:List Gs)(lv w:Int):∃G',aX F 202 [kX g,jw s,i64 lv,i64 w] []=some (.tuple [.slice (some 0) 2 ((pX g s lv w).map Gs.row),i64 (pe g s lv w),i64 (mi g s lv w)],G'):=by
 suffices h:∀Q:V→List aP→Prop,(∀G',Q (.tuple [.slice (some 0) 2 ((pX g s lv w).map Gs.row),i64 (pe g s lv w),i64 (mi g s lv w)]) G')→gw (aX F) 202 [kX g,jw s,i64 lv,i64 w] [] Q by
  obtain⟨_,G',h,rfl⟩:=h (fun v G'=>v=.tuple [.slice (some 0) 2 ((pX g s lv w).map Gs.row),i64 (pe g s lv w),i64 (mi g s lv w)]) fun _=>rfl;exact⟨G',h⟩
 intro Q hQ;refine gF rfl rfl ?_;by_cases he:aE g s lv=0
 ·obtain⟨h1,h2,h3,h4,h5⟩:=JR he
  by_cases hw:0≤w∧w≤1073741824
  ·have hE:mi g s lv w=0:=by simp[mi,he,hw]
   simp only[pX,pe,hE,if_true]at hQ;have uP:(!decide (0≤w) || !decide (w≤1073741824))=false:=by simp;omega
   have wx:(decide (0≤w)&&decide (w≤1073741824))=true:=by simp;omega
   have e0:bs lv w g s 0=(mN Bd.lo g s,mM (gU lv) g s g.length):=rfl;simp (disch:=omega) [-getElem?_pos,wrap64,Nb,UN,Gq,he,dM,uP,wx];have hou:∀i,i≤g.length→(nT ((bs lv w g s i).1.take i) (s.take i)).length=i:=fun i hi=>by
    have:=pY (lv:=lv) (w:=w) h2 i;simp[nT];omega
   refine go_loop (fun x:Nat×List aP=>ar0 (jw s) lv w (bs lv w g s x.1).2 (.bH 0 0) (.slice (some 1083) 2 ((nT ((bs lv w g s x.1).1.take x.1) (s.take x.1)).map Gs.row)) (kX g) g.length x.1 x.1 x.2)
    (fun x=>x.1≤g.length∧x.2[0]?=some (.cells [.fn 209 []])) (fun x=>g.length-x.1) (0,[.cells [.fn 209 []]]) rfl (by simp[bs,nT]) ⟨by simp,rfl⟩ ?_
   rintro⟨i,G⟩ ⟨hi,hG⟩;simp only at hi hG;have Gu:=hou i hi;have UP:0<G.length:=by
    rcases nG G.length with h|h
    ·rw[mo (by omega)]at hG;cases hG
    ·exact h
   simp (disch:=omega) [-getElem?_pos,wrap64,adW];refine bB (fun h6=>?_) (fun h6=>?_)
   ·have h6:i<g.length:=by omega
    have h7:i<s.length:=by omega
    obtain⟨t,ht⟩:=afo (h4 i h6) lv [];have hr:=afp (h4 i h6) (h3 i h6);have hk:=UL (h4 i h6) lv;have hf:=UI hk;have hro:=Ed (h4 i h6) (h3 i h6);have hm:=(h4 i h6).dC;obtain⟨b1,b2,b3⟩:=aft (lv:=lv) (w:=w) h2 h1 h3 h4 (i:=i) hi;have b3:=b3 h6;have b4:=vd (h4 i h6) (fD (nth g i) (nth s i)).lo lv;have b5:=vd (h4 i h6) (rm lv w (nth g i) (nth s i) (bs lv w g s i).2) lv;have Ee:=pY (lv:=lv) (w:=w) h2 i;have afu:nT ((bs lv w g s (i+1)).1.take (i+1)) (s.take (i+1))=nT ((bs lv w g s i).1.take i) (s.take i)++[Gr (rm lv w (nth g i) (nth s i) (bs lv w g s i).2) (nth s i)]:=by
     unfold nT;rw[AN (by rw[pY h2];exact h6) h7]
     simp only[bs];rw[List.take_set_of_le (bY _)];congr 2;simp[nth,Ee,h6]
    by_cases xJ:(bs lv w g s i).2<w
    ·have z6:rm lv w (nth g i) (nth s i) (bs lv w g s i).2=wu (fun o=>decide (w-((bs lv w g s i).2-gU lv (nth g i) (nth s i))≤jK (nth g i) o lv)) ((fD (nth g i) (nth s i)).hi-(fD (nth g i) (nth s i)).lo).toNat (fD (nth g i) (nth s i)).lo:=by
      unfold rm;rw[aK xJ]
     have hL:=atV (f:=214) (cap:=[.bH 0 0,.bH G.length 0]) (G:=G++[.cells [jg (tq (nth g i).r lv),i64 (w-((bs lv w g s i).2-gU lv (nth g i) (nth s i)))]]) (lo:=(fD (nth g i) (nth s i)).lo) (hi:=(fD (nth g i) (nth s i)).hi)
      (p:=fun o=>decide (w-((bs lv w g s i).2-gU lv (nth g i) (nth s i))≤jK (nth g i) o lv)) (by omega) (fun m m' hp zO=>by
       have:=atN (h4 i h6) (lv:=lv) zO;simp only[kA]at hp ⊢;omega) (fun E m _ _=>atW (by rw[wK,ux UP];exact hG) (by rw[wK];exact FJ) hk)
     rw[←z6]at hL;unfold gU jK at hL b3;unfold jK at b4 b5;simp (disch:=omega) [-getElem?_pos,wrap64,aY (l:=g),aY (l:=s),ht,hr,hf,FJ,xJ];simp (disch:=omega) [-getElem?_pos,wrap64,hL,FJ,hf,aY (l:=s),Gu];refine bu (i+1,G++[.cells [jg (tq (nth g i).r lv),i64 (w-((bs lv w g s i).2-gU lv (nth g i) (nth s i)))],.cells [i64 (fD (nth g i) (nth s i)).lo,i64 (fD (nth g i) (nth s i)).hi],.cells [.fn 214 [.bH 0 0,.bH G.length 0]]])
      (by rw[afu];simp[bs,gU,jK,Gr,Gu]) ⟨by simp;omega,by simp only;rw[ux UP];exact hG⟩ (by simp;omega)
    ·have z6:rm lv w (nth g i) (nth s i) (bs lv w g s i).2=(fD (nth g i) (nth s i)).lo:=by
      unfold rm;rw[av xJ]
     have hb:(bs lv w g s (i+1)).2=(bs lv w g s i).2:=by
      simp only[bs,gU,z6];omega
     simp (disch:=omega) [-getElem?_pos,wrap64,aY (l:=g),aY (l:=s),ht,hr,hf,FJ,xJ,Gu];refine bu (i+1,G++[.cells [jg (tq (nth g i).r lv),i64 0]])
      (by rw[afu,hb,z6];simp[Gr,Gu]) ⟨by simp;omega,by simp only;rw[ux UP];exact hG⟩ (by simp;omega)
   ·obtain rfl:i=g.length:=by omega
    have t1:(bs lv w g s g.length).1.take g.length=(bs lv w g s g.length).1:=lZ (by rw[pY h2];omega)
    have t2:s.take g.length=s:=lZ (by omega)
    rw[t1,t2]at Gu ⊢;simp (disch:=omega) [-getElem?_pos,wrap64,Gu];exact hQ _
  ·have wx:(decide (0≤w)&&decide (w≤1073741824))=false:=by simp;omega
   have hE:mi g s lv w=1:=by simp[mi,he];omega
   have ue:¬ mi g s lv w=0:=by rw[hE];omega
   simp only[pX,pe,av ue]at hQ;rw[hE]at hQ;have uP:(!decide (0≤w) || !decide (w≤1073741824))=true:=by simp;omega
   simp (disch:=omega) [-getElem?_pos,wrap64,Nb,UN,Gq,he,dM,uP,wx];exact hQ _
 ·have hE:mi g s lv w=aE g s lv:=by simp[mi,he]
  have ue:¬ mi g s lv w=0:=by rw[hE];exact he
  simp only[pX,pe,av ue]at hQ;rw[hE]at hQ;simp (disch:=omega) [-getElem?_pos,wrap64,Nb,UN,Gq,he];exact hQ _
end Go.Proofs.YtcelmhaoipbdiaaGreat
namespace Go.Proofs.YtcelmhaoipbdiaaGreat
set_option linter.all false
open Go.Vm
theorem ND{l:List Int}{i:Nat}{o:Int}(h:i<l.length):nth (l.set i o) i=o:=by simp[nth,h]
theorem afv{l:List Int}{i k:Nat}{o:Int}(h:i≠k):nth (l.set i o) k=nth l k:=by simp[nth,h]
theorem afw{l:List Int}{i:Nat}(h:i<l.length):l.set i (nth l i)=l:=by
 apply xU;intro k;by_cases hk:i=k
 ·subst hk
  rw[WJ h,aY h]
 ·rw[WI hk]
theorem at3{g:List Gt}{l:List Int}{lv o:Int}{i:Nat}(hl:g.length=l.length)(hi:i<g.length):∀k,k≤g.length→rj g (l.set i o) lv k=rj g l lv k+(if i<k then jK (nth g i) o lv-jK (nth g i) (nth l i) lv else 0):=by
 intro k;induction k with
 |zero=>intro _;simp[NC]
 |succ k ih =>
  intro hk;rw[JU (by omega) (by simp;omega),JU (by omega) (by omega),ih (by omega)]
  by_cases h1:i=k
  ·subst h1
   rw[ND (by omega),av (by omega),aK (by omega)]
   omega
  ·rw[afv h1]
   by_cases h2:i<k
   ·rw[aK h2,aK (by omega)];omega
   ·rw[av h2,av (by omega)];omega
section
variable {g:List Gt} {s:List Gs} {lv w:Int}
theorem NF(hl:g.length=s.length):∀{i k:Nat},i≤k→k<g.length→nth (bs lv w g s i).1 k=(fD (nth g k) (nth s k)).lo:=by
 intro i;induction i with
 |zero=>intro k _ hk;exact JT hk (by omega)
 |succ i ih =>
  intro k h hk;simp only[bs];rw[afv (by omega)]
  exact ih (by omega) hk
theorem UQ(hl:g.length=s.length){i:Nat}(ht:rj g (bs lv w g s i).1 lv g.length=(bs lv w g s i).2)(hi:i<g.length)(o:Int) :
  rj g ((bs lv w g s i).1.set i o) lv g.length=(bs lv w g s i).2-gU lv (nth g i) (nth s i)+jK (nth g i) o lv:=by
 rw[at3 (by rw[pY hl]) hi _ (bY _),aK hi,ht,NF hl (bY _) hi]
 unfold gU;omega
theorem NG(hl:g.length=s.length):∀i,i≤g.length→rj g (bs lv w g s i).1 lv g.length=(bs lv w g s i).2:=by
 intro i;induction i with
 |zero=>intro _;exact atQ hl _ (bY _)
 |succ i ih =>
  intro hi;have:=UQ hl (ih (by omega)) (by omega) (rm lv w (nth g i) (nth s i) (bs lv w g s i).2)
  simpa only[bs] using this
theorem at4(hl:g.length=s.length){j:Nat}(hw:w≤(bs lv w g s j).2):∀k,j≤k→k≤g.length→bs lv w g s k=bs lv w g s j:=by
 intro k hjk;induction k with
 |zero=>intro _;obtain rfl:j=0:=by omega
        rfl
 |succ k ih =>
  intro hk;rcases cM k j with h|h
  ·obtain rfl:j=k+1:=by omega
   rfl
  ·have h1:=ih h (by omega)
   have ho:rm lv w (nth g k) (nth s k) (bs lv w g s k).2=(fD (nth g k) (nth s k)).lo:=by
    unfold rm;rw[av (by rw[h1];omega)]
   have h2:bs lv w g s (k+1)=bs lv w g s k:=by
    have e1:(bs lv w g s k).1.set k (fD (nth g k) (nth s k)).lo=(bs lv w g s k).1:=by
     rw[←NF (lv:=lv) (w:=w) hl (bY k) (by omega)]
     exact afw (by rw[pY hl];omega)
    simp only[bs,ho,gU,e1];rw[show(bs lv w g s k).2-jK (nth g k) (fD (nth g k) (nth s k)).lo lv+jK (nth g k) (fD (nth g k) (nth s k)).lo lv=(bs lv w g s k).2 by omega]
   rw[h2,h1]
structure Way(lv w:Int)(g:List Gt)(s:List Gs)(i:Nat)(o:Int):Prop where
 lt:i<g.length
 lo:(fD (nth g i) (nth s i)).lo≤o
 hi:o≤(fD (nth g i) (nth s i)).hi
 no:∀p,(fD (nth g i) (nth s i)).lo≤p→p<o→(bs lv w g s i).2-gU lv (nth g i) (nth s i)+jK (nth g i) p lv<w
theorem Way.done{i:Nat}{o:Int}(h:Way lv w g s i o)(hv:Gv (nth g i))(hs:ot (nth g i) (nth s i))(hd:o=(fD (nth g i) (nth s i)).hi∨w≤(bs lv w g s i).2-gU lv (nth g i) (nth s i)+jK (nth g i) o lv) :
  rm lv w (nth g i) (nth s i) (bs lv w g s i).2=o:=by
 have h1:=h.lo;have h2:=h.hi;unfold rm;split
 ·refine UO h1 (by omega) (fun p a b=>?_) (fun a=>?_)
  ·have:=h.no p a b
   exact decide_eq_false (by omega)
  ·rcases hd with hd|hd
   ·omega
   ·exact dD (by omega)
 ·rename_i hn
  by_cases he:(fD (nth g i) (nth s i)).lo=o
  ·exact he
  ·have:=h.no _ (xT _) (by omega)
   unfold gU at this;omega
theorem afx(hl:g.length=s.length){i:Nat}(hi:i<g.length)(hv:Gv (nth g i))(hs:ot (nth g i) (nth s i)):Way lv w g s i (fD (nth g i) (nth s i)).lo :=
 ⟨hi,xT _,(Ed hv hs).2.1,fun p a b=>by omega⟩
theorem afy(hl:g.length=s.length){i:Nat}(hi:i<g.length):(bs lv w g s i).1.set i (fD (nth g i) (nth s i)).lo=(bs lv w g s i).1:=by
 rw[←NF (lv:=lv) (w:=w) hl (bY i) hi];exact afw (by rw[pY hl];exact hi)
end
end Go.Proofs.YtcelmhaoipbdiaaGreat
namespace Go.Proofs.YtcelmhaoipbdiaaGreat
set_option linter.all false
open Go.Vm
attribute [local simp] ly lz kF lx
theorem afz{l:List Int}{i:Nat}(h:l.length≤i):nth l i=0:=by
 simp only[nth,List.getD,mo h];rfl
theorem at5(g:List Gt)(s:List Gs)(lv w:Int)(G:List aP):aX F 99 [kX g,jw s,i64 lv,i64 w] G=some (.tuple [.slice (some 0) 2 ((pX g s lv w).map Gs.row),i64 (pe g s lv w),i64 (mi g s lv w)],G) :=
 bL rfl rfl (by
  generalize hW:V.tuple [.slice (some 0) 2 ((pX g s lv w).map Gs.row),i64 (pe g s lv w),i64 (mi g s lv w)]=W;by_cases he:aE g s lv=0
  ·obtain⟨h1,h2,h3,h4,h5⟩:=JR he
   by_cases hw:0≤w∧w≤1073741824
   ·have hE:mi g s lv w=0:=by simp[mi,he,hw]
    simp only[pX,pe,hE,if_true]at hW;have uP:(!decide (0≤w) || !decide (w≤1073741824))=false:=by simp;omega
    have wx:(decide (0≤w)&&decide (w≤1073741824))=true:=by simp;omega
    have ue:=atO h2 h1 h3 h4;by_cases hg:g=[]
    ·subst hg
     have hs0:s=[]:=by simpa using h2.symm
     subst hs0;have hE3:aX F 153 [.slice none 3 [],.slice none 2 []] []=some (.tuple [.slice (some 0) 1 [],.slice (some 0) 1 []],[]):=ue [];have hT3:aX F 154 [.slice none 3 [],.slice none 1 [],i64 lv] []=some (i64 0,[]):=JV (g:=[]) (l:=[]) rfl (by simp) (by simp) lv []
     have e2:kC 20031 0 (.tuple [.slice (some 0) 1 [],.slice (some 0) 1 []])=some (.tuple [.ea 1,.slice none 1 []],none):=rfl;have he0:aX F 152 [.slice none 3 [],.slice none 2 [],i64 lv] []=some (i64 0,[]):=by
      have:=NA [] [] lv [];rw[he]at this;exact this
     simp (disch:=omega) [-getElem?_pos,wrap64,Jh,he0,dh,uP,wx,hE3,e2,ab0,MU,ab1,MV,yJ,hT3];simpa [nT,bs,mM] using hW
    ·have cq:mN Bd.lo g s≠[]:=fun e=>hg (by have:=Cn (f:=Bd.lo) h2;rw[e]at this;exact a8.1 this.symm)
     have e2:=al9 (id:=20031) (t:=0) (u:=0) (m:=mN Bd.hi g s) cq;have mb:=Cn (f:=Bd.lo) h2;simp (disch:=omega) [-getElem?_pos,wrap64,Jh,NA,he,dh,uP,wx,ue,e2,mb];have gX:0<g.length:=CP.2 hg;refine go_loop (fun x:Nat×List Int=>apN (kX g) (jw s) lv w g.length (ints (mN Bd.hi g s)) x.1 (cP x.2) G)
      (fun x=>(∃o,Way lv w g s x.1 o∧x.2=(bs lv w g s x.1).1.set x.1 o)∨(x.1=g.length∧x.2=(bs lv w g s g.length).1)) (fun x=>(g.length-x.1)*2000+(nth (mN Bd.hi g s) x.1-nth x.2 x.1).toNat) (0,mN Bd.lo g s) rfl (by simp) (.inl ⟨_,afx h2 gX (h4 0 gX) (h3 0 gX),by rw[afy h2 gX];rfl⟩) ?_
     rintro⟨i,l⟩ hinv;simp only at hinv;have hlen:l.length=g.length:=by
      rcases hinv with⟨o,_,rfl⟩ | ⟨_,rfl⟩
      ·rw[pj,pY h2]
      ·rw[pY h2]
     have hT:=JV hlen.symm h1 h4 lv;rcases hinv with⟨o,hway,hl⟩ | ⟨rfl,rfl⟩
     ·have hi:=hway.lt
      have afA:rj g l lv g.length=(bs lv w g s i).2-gU lv (nth g i) (nth s i)+jK (nth g i) o lv:=by
       rw[hl];exact UQ h2 (NG h2 i (by omega)) hi o
      rw[afA]at hT;generalize hTT:(bs lv w g s i).2-gU lv (nth g i) (nth s i)+jK (nth g i) o lv=T at *;have bI:i<l.length:=by omega
      simp (disch:=omega) [-getElem?_pos,wrap64,MU,hi,hT,hlen];have NH:i<(mN Bd.hi g s).length:=by rw[Cn h2];exact hi
      have NI:nth l i=o:=by rw[hl];exact ND (by rw[pY h2];exact hi)
      have Gx:nth (mN Bd.hi g s) i=(fD (nth g i) (nth s i)).hi:=JT hi (by omega)
      refine bB (fun h6=>?_) (fun h6=>?_)
      ·simp (disch:=omega) [-getElem?_pos,wrap64,lA bI,dA NH,NI,Gx]
       refine bB (fun h7=>?_) (fun h7=>?_)
       ·have hd:=hway.done (h4 i hi) (h3 i hi) (.inl h7)
        have hn:(bs lv w g s (i+1)).1=l:=by simp only[bs,hd,hl]
        refine bu (i+1,l) (by simp) ?_ ?_
        ·by_cases tZ:i+1<g.length
         ·refine .inl ⟨_,afx h2 tZ (h4 _ tZ) (h3 _ tZ),?_⟩
          simp only;rw[afy h2 tZ,hn]
         ·exact .inr ⟨by simp only;omega,by simp only;rw[←hn,show g.length=i+1 by omega]⟩
        ·have lh:nth (mN Bd.hi g s) (i+1)-nth l (i+1)≤1000:=by
          by_cases tZ:i+1<g.length
          ·rw[JT tZ (by omega),← hn,NF h2 (bY _) tZ]
           have:=Ed (h4 _ tZ) (h3 _ tZ);have:=(h4 _ tZ).dC;omega
          ·have e1:nth (mN Bd.hi g s) (i+1)=0:=afz (by rw[Cn h2];omega)
           have e2:nth l (i+1)=0:=afz (by omega)
           omega
         simp only;omega
       ·have nM:=hway.lo
        have uK:=hway.hi;have hro:=Ed (h4 i hi) (h3 i hi);have hmo:=(h4 i hi).dC;refine go_loop (fun l:List Int=>apM (kX g) (jw s) lv w g.length (ints (mN Bd.hi g s)) i (cP l) G)
         (fun m=>∃o',Way lv w g s i o'∧o≤o'∧m=(bs lv w g s i).1.set i o') (fun m=>(nth (mN Bd.hi g s) i-nth m i).toNat) l rfl (by simp[hlen]) ⟨o,hway,xT _,hl⟩ ?_
        rintro m ⟨o',hway',BO,rfl⟩;have aDm:=hway'.lo;have aDn:=hway'.hi;have JW:((bs lv w g s i).1.set i o').length=g.length:=by rw[pj,pY h2]
        have xE:i<((bs lv w g s i).1.set i o').length:=by omega
        have Gy:nth ((bs lv w g s i).1.set i o') i=o':=ND (by rw[pY h2];exact hi)
        have JX:=JV JW.symm h1 h4 lv;rw[UQ h2 (NG h2 i (by omega)) hi o']at JX
        have Ld:∀z,((bs lv w g s i).1.set i o').set i z=(bs lv w g s i).1.set i z:=fun z=>by simp
        generalize hm:(bs lv w g s i).1.set i o'=m at JW xE Gy JX Ld ⊢;by_cases h8:o'<(fD (nth g i) (nth s i)).hi
        ·by_cases h9:(bs lv w g s i).2-gU lv (nth g i) (nth s i)+jK (nth g i) o' lv<w
         ·simp (disch:=omega) [-getElem?_pos,wrap64,MT,lA xE,dA NH,Gy,Gx,h8,JX,JW,h9]
          refine bu (m.set i (o'+1)) (by simp) ⟨o'+1,⟨hi,by omega,by omega,fun p a b=>?_⟩,by omega,Ld _⟩ ?_
          ·by_cases hp:p=o'
           ·rw[hp];exact h9
           ·exact hway'.no p a (by omega)
          ·rw[ND xE];omega
         ·simp (disch:=omega) [-getElem?_pos,wrap64,MT,lA xE,dA NH,Gy,Gx,h8,JX,JW,h9]
          refine bu (i,m) (by simp) (.inl ⟨o',hway',hm.symm⟩) ?_
          have:o≠o':=fun e=>by rw[←e,hTT]at h9;exact h9 h6
          simp only[Gy,NI,Gx];omega
        ·simp (disch:=omega) [-getElem?_pos,wrap64,MT,lA xE,dA NH,Gy,Gx,h8,JX,JW]
         refine bu (i,m) (by simp) (.inl ⟨o',hway',hm.symm⟩) ?_
         simp only[Gy,NI,Gx];omega
      ·have hd:=hway.done (h4 i hi) (h3 i hi) (.inr (by omega))
       have hs2:(bs lv w g s (i+1)).2=T:=by rw[←hTT];simp only[bs,hd]
       have hn:l=(bs lv w g s g.length).1:=by
        rw[at4 h2 (j:=i+1) (by omega) g.length (by omega) (bY _),hl]
        simp only[bs,hd]
       clear hT afA bI NI
       subst hn;refine go_loop (fun k:Nat=>ab2 (kX g) lv g.length (.slice (some 1096) 2 ((nT ((bs lv w g s g.length).1.take k) (s.take k)).map Gs.row)) (jw s) s.length k (cP (bs lv w g s g.length).1) k G) (fun k=>k≤s.length) (fun k=>s.length-k) 0 rfl (by simp[nT]) (by omega) ?_
       rintro k hk;have bz:(nT ((bs lv w g s g.length).1.take k) (s.take k)).length=k:=by
        have:=pY (lv:=lv) (w:=w) h2 g.length;simp[nT];omega
       have Ee:=pY (lv:=lv) (w:=w) h2 g.length;have JY:=JV Ee.symm h1 h4 lv;rw[NG h2 g.length (bY _)]at JY;simp (disch:=omega) [-getElem?_pos,wrap64,MV,bz];refine bB (fun h6=>?_) (fun h6=>?_)
       ·have h6:k<s.length:=by omega
        have h7:k<(bs lv w g s g.length).1.length:=by omega
        simp (disch:=omega) [-getElem?_pos,wrap64,aY (l:=s),lA h7,bz];refine bu (k+1) ?_ (by omega) (by omega)
        unfold nT;rw[AN h7 h6];simp[Gr]
       ·obtain rfl:k=s.length:=by omega
        have t1:(bs lv w g s g.length).1.take s.length=(bs lv w g s g.length).1:=lZ (by omega)
        rw[t1,pt]at bz ⊢;simp (disch:=omega) [-getElem?_pos,wrap64,bz,Ee,JY];exact hW
     ·have hi:¬ g.length<g.length:=iC _
      simp (disch:=omega) [-getElem?_pos,wrap64,MU,hlen];refine go_loop (fun k:Nat=>ab2 (kX g) lv g.length (.slice (some 1096) 2 ((nT ((bs lv w g s g.length).1.take k) (s.take k)).map Gs.row)) (jw s) s.length k (cP (bs lv w g s g.length).1) k G) (fun k=>k≤s.length) (fun k=>s.length-k) 0 rfl (by simp[nT]) (by omega) ?_
      rintro k hk;have bz:(nT ((bs lv w g s g.length).1.take k) (s.take k)).length=k:=by
       have:=pY (lv:=lv) (w:=w) h2 g.length;simp[nT];omega
      have Ee:=pY (lv:=lv) (w:=w) h2 g.length;have JY:=JV Ee.symm h1 h4 lv;rw[NG h2 g.length (bY _)]at JY;simp (disch:=omega) [-getElem?_pos,wrap64,MV,bz];refine bB (fun h6=>?_) (fun h6=>?_)
      ·have h6:k<s.length:=by omega
       have h7:k<(bs lv w g s g.length).1.length:=by omega
       simp (disch:=omega) [-getElem?_pos,wrap64,aY (l:=s),lA h7,bz];refine bu (k+1) ?_ (by omega) (by omega)
       unfold nT;rw[AN h7 h6];simp[Gr]
      ·obtain rfl:k=s.length:=by omega
       have t1:(bs lv w g s g.length).1.take s.length=(bs lv w g s g.length).1:=lZ (by omega)
       rw[t1,pt]at bz ⊢;simp (disch:=omega) [-getElem?_pos,wrap64,bz,Ee,JY];exact hW
   ·have wx:(decide (0≤w)&&decide (w≤1073741824))=false:=by simp;omega
    have hE:mi g s lv w=1:=by simp[mi,he];omega
    have ue:¬ mi g s lv w=0:=by rw[hE];omega
    simp only[pX,pe,av ue]at hW;rw[hE]at hW;have uP:(!decide (0≤w) || !decide (w≤1073741824))=true:=by simp;omega
    simp (disch:=omega) [-getElem?_pos,wrap64,Jh,NA,he,dh,uP,wx];exact hW
  ·have hE:mi g s lv w=aE g s lv:=by simp[mi,he]
   have ue:¬ mi g s lv w=0:=by rw[hE];exact he
   simp only[pX,pe,av ue]at hW;rw[hE]at hW;simp (disch:=omega) [-getElem?_pos,wrap64,Jh,NA,he];exact hW)
structure Dm where
 r:Rs
 u:List Un
 g:List Gt
 gr:Int
abbrev Dm.row(d:Dm):List V:=[jg d.r.c,i64 d.r.d,i64 d.r.l,i64 d.r.f,i64 d.r.s,i64 d.r.t,lG d.u,kX d.g,i64 d.gr]
abbrev dm(d:Dm):V:=.agg d.row
structure Ds where
 v:Int
 rel:Int
 u:List Us
 g:List Gs
 deriving Inhabited
abbrev Ds.row(s:Ds):List V:=[i64 s.v,i64 s.rel,jJ s.u,jw s.g]
abbrev dst(s:Ds):V:=.agg s.row
def uE(u:List Un):Int:=du (fun i=>iG (nth u i)) u.length 0
def gE(g:List Gt):Int:=du (fun i=>lH (nth g i)) g.length 0
def fW(d:Dm):Int :=
 if iS d.r≠0 then iS d.r else if 6<d.u.length∨8<d.g.length then 10 else if uE d.u≠0 then uE d.u else if gE d.g≠0 then gE d.g
 else if d.gr<1∨1073741824<d.gr then 1 else 0
theorem Ef(d:Dm)(G:List aP):aX F 121 [dm d] G=some (i64 (fW d),G) :=
 bL rfl rfl (by
  obtain⟨r,u,g,gr⟩:=d;generalize hW:fW ⟨r,u,g,gr⟩=W;unfold fW at hW;simp only at hW;have hS:=fun G=>Gb r G;have AR:=fun G=>B7 r G;by_cases h1:iS r=0
  ·rw[av (by omega)]at hW
   by_cases h2:6<u.length
   ·rw[aK (.inl h2)]at hW
    have iz:(6:Int)<u.length:=by omega
    simp (disch:=omega) [-getElem?_pos,wrap64,Ji,hS,AR,h1,iz];exact hW
   by_cases h3:8<g.length
   ·rw[aK (.inr h3)]at hW
    have iz:¬ (6:Int)<u.length:=by omega
    have iH:(8:Int)<g.length:=by omega
    simp (disch:=omega) [-getElem?_pos,wrap64,Ji,hS,AR,h1,iz,iH];exact hW
   rw[av (by omega)]at hW
   have iz:¬ (6:Int)<u.length:=by omega
   have iH:¬ (8:Int)<g.length:=by omega
   simp (disch:=omega) [-getElem?_pos,wrap64,Ji,hS,AR,h1,iz,iH];refine go_loop (fun i:Nat=>aqe (lG u) u.length i (Dm.row ⟨r,u,g,gr⟩) G) (fun i=>i≤u.length∧du (fun i=>iG (nth u i)) (u.length-i) i=uE u) (fun i=>u.length-i) 0 rfl (by simp) ⟨by omega,rfl⟩ ?_
   rintro i ⟨hi,hq⟩;simp (disch:=omega) [-getElem?_pos,wrap64,acm];refine bB (fun h4=>?_) (fun h4=>?_)
   ·have h4:i<u.length:=by omega
    rw[jq h4]at hq;by_cases h5:iG (nth u i)=0
    ·rw[aK h5]at hq
     simp (disch:=omega) [-getElem?_pos,wrap64,aY (l:=u),tW,om,h5];exact bu (i+1) (by simp) ⟨by omega,hq⟩ (by omega)
    ·rw[av h5]at hq
     rw[←hq,aK h5]at hW;simp (disch:=omega) [-getElem?_pos,wrap64,aY (l:=u),tW,om,h5];exact hW
   ·obtain rfl:i=u.length:=by omega
    rw[lC]at hq;rw[←hq,av (by omega)]at hW
    refine go_loop (fun i:Nat=>aqg (kX g) g.length i (Dm.row ⟨r,u,g,gr⟩) G) (fun i=>i≤g.length∧du (fun i=>lH (nth g i)) (g.length-i) i=gE g) (fun i=>g.length-i) 0 rfl (by simp) ⟨by omega,rfl⟩ ?_
    rintro i ⟨hi,hq⟩;simp (disch:=omega) [-getElem?_pos,wrap64,acn];refine bB (fun h4=>?_) (fun h4=>?_)
    ·have h4:i<g.length:=by omega
     rw[jq h4]at hq;by_cases h5:lH (nth g i)=0
     ·rw[aK h5]at hq
      simp (disch:=omega) [-getElem?_pos,wrap64,aY (l:=g),Cd,Ce,h5];exact bu (i+1) (by simp) ⟨by omega,hq⟩ (by omega)
     ·rw[av h5]at hq
      rw[←hq,aK h5]at hW;simp (disch:=omega) [-getElem?_pos,wrap64,aY (l:=g),Cd,Ce,h5];exact hW
    ·obtain rfl:i=g.length:=by omega
     rw[lC]at hq;rw[←hq,av (by omega)]at hW
     by_cases h6:gr<1
     ·rw[aK (.inl h6)]at hW
      simp (disch:=omega) [-getElem?_pos,wrap64,h6];exact hW
     ·by_cases h7:1073741824<gr
      ·rw[aK (.inr h7)]at hW
       simp (disch:=omega) [-getElem?_pos,wrap64,h6,h7];exact hW
      ·rw[av (by omega)]at hW
       simp (disch:=omega) [-getElem?_pos,wrap64,h6,h7];exact hW
  ·rw[aK h1]at hW
   simp (disch:=omega) [-getElem?_pos,wrap64,Ji,hS,AR,h1];exact hW)
theorem Eg(d:Dm)(G:List aP):aX F 91 [dm d] G=some (i64 (fW d),G) :=
 bL rfl rfl (by
  obtain⟨r,u,g,gr⟩:=d;generalize hW:fW ⟨r,u,g,gr⟩=W;unfold fW at hW;simp only at hW;have hS:=fun G=>Gb r G;have AR:=fun G=>B7 r G;by_cases h1:iS r=0
  ·rw[av (by omega)]at hW
   by_cases h2:6<u.length
   ·rw[aK (.inl h2)]at hW
    have iz:(6:Int)<u.length:=by omega
    simp (disch:=omega) [-getElem?_pos,wrap64,Jf,hS,AR,h1,iz];exact hW
   by_cases h3:8<g.length
   ·rw[aK (.inr h3)]at hW
    have iz:¬ (6:Int)<u.length:=by omega
    have iH:(8:Int)<g.length:=by omega
    simp (disch:=omega) [-getElem?_pos,wrap64,Jf,hS,AR,h1,iz,iH];exact hW
   rw[av (by omega)]at hW
   have iz:¬ (6:Int)<u.length:=by omega
   have iH:¬ (8:Int)<g.length:=by omega
   simp (disch:=omega) [-getElem?_pos,wrap64,Jf,hS,AR,h1,iz,iH];refine go_loop (fun i:Nat=>apr (lG u) u.length i (Dm.row ⟨r,u,g,gr⟩) G) (fun i=>i≤u.length∧du (fun i=>iG (nth u i)) (u.length-i) i=uE u) (fun i=>u.length-i) 0 rfl (by simp) ⟨by omega,rfl⟩ ?_
   rintro i ⟨hi,hq⟩;simp (disch:=omega) [-getElem?_pos,wrap64,abR];refine bB (fun h4=>?_) (fun h4=>?_)
   ·have h4:i<u.length:=by omega
    rw[jq h4]at hq;by_cases h5:iG (nth u i)=0
    ·rw[aK h5]at hq
     simp (disch:=omega) [-getElem?_pos,wrap64,aY (l:=u),tW,om,h5];exact bu (i+1) (by simp) ⟨by omega,hq⟩ (by omega)
    ·rw[av h5]at hq
     rw[←hq,aK h5]at hW;simp (disch:=omega) [-getElem?_pos,wrap64,aY (l:=u),tW,om,h5];exact hW
   ·obtain rfl:i=u.length:=by omega
    rw[lC]at hq;rw[←hq,av (by omega)]at hW
    refine go_loop (fun i:Nat=>apt (kX g) g.length i (Dm.row ⟨r,u,g,gr⟩) G) (fun i=>i≤g.length∧du (fun i=>lH (nth g i)) (g.length-i) i=gE g) (fun i=>g.length-i) 0 rfl (by simp) ⟨by omega,rfl⟩ ?_
    rintro i ⟨hi,hq⟩;simp (disch:=omega) [-getElem?_pos,wrap64,abS];refine bB (fun h4=>?_) (fun h4=>?_)
    ·have h4:i<g.length:=by omega
     rw[jq h4]at hq;by_cases h5:lH (nth g i)=0
     ·rw[aK h5]at hq
      simp (disch:=omega) [-getElem?_pos,wrap64,aY (l:=g),Cd,Ce,h5];exact bu (i+1) (by simp) ⟨by omega,hq⟩ (by omega)
     ·rw[av h5]at hq
      rw[←hq,aK h5]at hW;simp (disch:=omega) [-getElem?_pos,wrap64,aY (l:=g),Cd,Ce,h5];exact hW
    ·obtain rfl:i=g.length:=by omega
     rw[lC]at hq;rw[←hq,av (by omega)]at hW
     by_cases h6:gr<1
     ·rw[aK (.inl h6)]at hW
      simp (disch:=omega) [-getElem?_pos,wrap64,h6];exact hW
     ·by_cases h7:1073741824<gr
      ·rw[aK (.inr h7)]at hW
       simp (disch:=omega) [-getElem?_pos,wrap64,h6,h7];exact hW
      ·rw[av (by omega)]at hW
       simp (disch:=omega) [-getElem?_pos,wrap64,h6,h7];exact hW
  ·rw[aK h1]at hW
   simp (disch:=omega) [-getElem?_pos,wrap64,Jf,hS,AR,h1];exact hW)
end Go.Proofs.YtcelmhaoipbdiaaGreat
