/- Parts of the proof, joined: Ref3, Rng1, Gat2, Gat3, Gat4, Gat5, Gat6, Gat7, Dam1. -/
import Derived.Test.YtmpikpodpgnjhaaGreatDb
import Derived.Test.YtmpikpodpgnjhaaGreatDa
namespace Go.Proofs.YtmpikpodpgnjhaaGreat
set_option linter.all false
open Go.Vm
attribute [local simp] eU eV eS eT
abbrev Ed(R:List (List Int)):V:=.slice none 1 (R.map fun o=>[ints o])
def rb(best:Option (List Int)):V:=match best with
 |none=>.aK
 |some F=>ints F
noncomputable def rv(us:List Un)(ss:List Us)(best:Option (List Int)):List V:=match best with
 |none=>[i64 0,i64 0]
 |some F=>[i64 (iA us F),i64 (iB ss F)]
def iC(a:List Nat):List V:=dS (a.map fun d:Nat=>(d:Int))
def ob(o:Option (List V)):List (Nat×List V):=match o with
 |none=>[]
 |some c=>[(56,c)]
@[simp] theorem MK{best:Option (List Int)}{d:Nat}:(rb best).cu d=false:=by cases best<;>rfl
@[simp] theorem apa{us:List Un}{ss:List Us}{best:Option (List Int)}{d:Nat}:((rv us ss best).all fun v => !v.cI d)=true:=by cases best<;>rfl
@[simp] theorem apb{a:List Nat}{d:Nat}:((iC a).all fun v => !v.cI d)=true:=Zp
@[simp] theorem apc{o:Option (List V)}:tA 56 (ob o)=[]:=by cases o<;>rfl
@[simp] theorem apd:ob none=[]:=rfl
@[simp] theorem ape{c:List V}:ob (some c)=[(56,c)]:=rfl
@[simp] theorem apf{o:Option (List V)}:kp (Go.Vm.look 56 (ob o)) 56 []=ob o:=by cases o<;>rfl
theorem BA{a:List Nat}{i:Nat}(h:i<a.length):(iC a)[i]?=some (i64 ((nth a i:Nat):Int)):=by
 have:=kT (l:=a.map fun d:Nat=>(d:Int)) (i:=i) (by simpa using h)
 rw[uO h]at this;exact this
@[simp] theorem apg{a:List Nat}:(iC a).length=a.length:=by simp[iC]
theorem Ee{a:List Nat}{i d:Nat}:(iC a).set i (i64 (d:Int))=iC (a.set i d):=by
 simp[iC,List.map_set]
theorem ahz{α:Type}[Inhabited α]{l m:List α}{i:Nat}(h:l.length≤i):nth (l++m) i=nth m (i-l.length):=by
 simp[nth,List.getElem?_append_right h]
theorem BB{α:Type}[Inhabited α]{l:List α}{i k:Nat}(h:i<k):nth (l.take k) i=nth l i:=by
 simp[nth,List.getElem?_take,h]
theorem ahA{n i:Nat}:nth (List.replicate n (0:Int)) i=0:=by
 simp only[nth,List.getD,List.getElem?_replicate];split<;>rfl
theorem Ue{l:List Int}{B:Int}(h:∀x∈l,0≤x∧x≤B):∀j:Nat,j≤l.length→0≤(l.take j).sum∧(l.take j).sum≤B*j
 |0,_=>by simp
 |j+1,hj=>by
  have ih:=Ue h j (by omega)
  have:=h _ (rZ (show j<l.length from hj));rw[jF hj];simp only[List.sum_append,List.sum_cons,List.sum_nil];have e:B*((j+1:Nat):Int)=B*j+B:=by
   rw[show((j+1:Nat):Int)=(j:Int)+1 from rfl,Int.mul_add,Int.mul_one]
  omega
theorem Uf{R:List (List Int)}{a:List Nat}(h:a.length=R.length):(er R a).length=R.length:=by simp[er,h]
theorem ahB{R:List (List Int)}{a:List Nat}{us:List Un}{ss:List Us}{release:Int}{fd:Bool}{best:Option (List Int)}{G:List aW}{K:cH}(hn:R.length≤6)(ha:Vd (R.map List.length) a)
  (hb:∀o∈R,∀q∈o,0≤q∧q≤1073741824)
  (hK:∀z,K (.exit 2) ⟨[(0,jX us),(1,jD ss),(3,i64 release),(11,Ed R),(13,.bool fd),(14,rb best),(15,.bK 15 0),(16,.cb 53 1 R.length),(17,.cb 56 1 R.length),(18,i64 (er R a).sum),(57,.cb 53 1 R.length),(58,i64 R.length),(59,i64 R.length),(60,z)],
   [(15,rv us ss best),(53,iC a),(56,dS (er R a))],[],G⟩) :
  go (bt F) RZ (R0 (jX us) (jD ss) release (Ed R) fd (rb best) R.length R.length 0 R.length R.length 0 (rv us ss best) (iC a) (dS (List.replicate R.length 0)) G) K:=by
 have pW:=By ha;simp only[List.length_map]at pW;have mn:=Uf pW;have Ug:∀x∈er R a,0≤x∧x≤1073741824:=by
  intro x hx;obtain⟨i,hi,rfl⟩:=Bv hx;rw[mn]at hi;have h1:nth (er R a) i=nth (nth R i) (nth a i):=Bw hi (by omega)
  have h2:=vW ha i (by simpa using hi)
  rw[uO hi]at h2;rw[h1];exact hb _ (rZ hi) _ (rZ h2)
 refine go_loop (fun j:Nat=>R0 (jX us) (jD ss) release (Ed R) fd (rb best) R.length R.length ((er R a).take j).sum R.length R.length j (rv us ss best) (iC a) (dS ((er R a).take j++List.replicate (R.length-j) 0)) G)
  (fun j=>j≤R.length) (fun j=>R.length-j) 0 rfl (by simp) (by omega) ?_
 intro j hj;have hs:=Ue Ug j (by omega)
 simp (disch:=omega) [-getElem?_pos,wrap64,RY];refine b9 (fun h1=>?_) (fun h1=>?_)
 ·have h1:j<R.length:=by omega
  have h2:j<a.length:=by omega
  have h3:=vW ha j (by simpa using h1)
  rw[uO h1]at h3;have h4:nth (er R a) j=nth (nth R j) (nth a j):=Bw h1 h2;have h5:=Ug _ (rZ (show j<(er R a).length by omega))
  have h6:(dS ((er R a).take j++List.replicate (R.length-j) 0))[j]?=some (i64 0):=by
   rw[kT (by simp;omega),ahz (by simp;omega),ahA]
  have e2:((er R a).take j++List.replicate (R.length-j) (0:Int)).set j (nth (nth R j) (nth a j))=(er R a).take (j+1)++List.replicate (R.length-(j+1)) 0:=by
   rw[List.set_append_right _ _ (by simp;omega),jF (show j<(er R a).length by omega),h4]
   have:j-((er R a).take j).length=0:=by simp;omega
   rw[this];obtain⟨m,hm⟩:∃m,R.length-j=m+1:=⟨R.length-j-1,by omega⟩
   rw[hm,List.replicate_succ,List.set_cons_zero,show R.length-(j+1)=m by omega]
   simp
  have e3:((er R a).take (j+1)).sum=((er R a).take j).sum+nth (nth R j) (nth a j):=by
   rw[jF (show j<(er R a).length by omega),h4];simp
  have h7:(dS ((er R a).take (j+1)++List.replicate (R.length-(j+1)) 0))[j]?=some (i64 (nth (nth R j) (nth a j))):=by
   rw[kT (by simp;omega),og (by simp;omega),BB (by omega),h4]
  rw[h4]at h5;simp (disch:=omega) [-getElem?_pos,wrap64,BA h2,bo (l:=R),eA h3,h6,e2,h7];exact cc (j+1) (by simp[e3]) (by omega) (by omega)
 ·obtain rfl:j=R.length:=by omega
  rw[List.take_of_length_le (by omega)]
  simpa using hK _
noncomputable abbrev BC(us:List Un)(ss:List Us)(R:List (List Int))(release:Int)(fd:Bool)(best:Option (List Int))(x:Int)(a:List Nat)(o:Option (List V))(G:List aW):St :=
 ⟨[(0,jX us),(1,jD ss),(3,i64 release),(11,Ed R),(13,.bool fd),(14,rb best),(15,.bK 15 0),(16,.cb 53 1 R.length),(26,i64 x)],(15,rv us ss best)::(53,iC a)::ob o,[],G⟩
theorem Hl{R:List (List Int)}{a:List Nat}{us:List Un}{ss:List Us}{release:Int}{fd:Bool}{best:Option (List Int)}{o:Option (List V)}{G:List aW}{K:cH}(hn:R.length≤6)(ha:Vd (R.map List.length) a)(hlen:∀o∈R,o.length≤1000)
  (h0:∀z b,inc (R.map List.length) a=none→K (.exit 4) { BC us ss R release fd best (-1) b o G with env:=(BC us ss R release fd best (-1) b o G).env++[(124,z)] })
  (h1:∀z (i:Nat),i<R.length→nth a i+1<nth (R.map List.length) i→inc (R.map List.length) a=some (a.take i++(nth a i+1)::List.replicate (R.length-1-i) 0) →
   K (.exit 4) { BC us ss R release fd best i (a.take (i+1)++List.replicate (R.length-1-i) 0) o G with env:=(BC us ss R release fd best i a o G).env++[(124,z)] }) :
  go (bt F) R1 (BC us ss R release fd best (R.length-1) a o G) K:=by
 have pW:=By ha;simp only[List.length_map]at pW;refine go_loop (fun k:Nat=>BC us ss R release fd best (k-1) (a.take k++List.replicate (R.length-k) 0) o G)
  (fun k=>k≤R.length∧∀j,k≤j→j<R.length→nth a j+1=nth (R.map List.length) j) (fun k=>k) R.length rfl (by rw[List.take_of_length_le (by omega)];simp) ⟨by omega,by omega⟩ ?_
 rintro k ⟨hk,hm⟩;by_cases FV:k=0
 ·subst FV
  simp +contextual (disch:=omega) [-getElem?_pos,wrap64,K3];exact h0 _ _ (MH ha fun j hj=>hm j (by omega) (by simpa using hj))
 ·have e1:0≤(k:Int)-1:=by omega
  have e2:((k:Int)-1).toNat=k-1:=by omega
  have h3:k-1<R.length:=by omega
  have h4:(iC (a.take k++List.replicate (R.length-k) 0))[k-1]?=some (i64 ((nth a (k-1):Nat):Int)):=by
   rw[BA (by simp;omega),og (by simp;omega),BB (by omega)]
  have h5:=hlen _ (rZ h3);have h6:=vW ha (k-1) (by simpa using h3)
  rw[uO h3]at h6;have h7:(iC (a.take k++List.replicate (R.length-k) 0)).set (k-1) (i64 0)=iC (a.take (k-1)++List.replicate (R.length-(k-1)) 0):=by
   have:=Ee (a:=a.take k++List.replicate (R.length-k) 0) (i:=k-1) (d:=0);rw[show(i64 ((0:Nat):Int))=i64 0 from rfl]at this;rw[this];congr 1;obtain⟨m,rfl⟩:∃m,k=m+1:=⟨k-1,by omega⟩
   rw[jF (show m<a.length by omega)]
   have hl:(a.take m).length=m:=by simp;omega
   rw[List.append_assoc,Nat.add_sub_cancel,List.set_append_right _ _ (by omega),hl,Nat.sub_self]
   simp only[List.singleton_append,List.set_cons_zero];rw[show R.length-m=(R.length-(m+1))+1 by omega,List.replicate_succ]
  have h8:nth (R.map List.length) (k-1)=(nth R (k-1)).length:=uO h3;simp +contextual (disch:=omega) [-getElem?_pos,wrap64,K3,e1,e2,h4,bo (l:=R)];refine b9 (fun h9=>?_) (fun h9=>?_)
  ·have fW:k≤(iC (a.take k++List.replicate (R.length-k) 0)).length:=by simp;omega
   simp +contextual (disch:=omega) [-getElem?_pos,wrap64,fW,h7];refine cc (k-1) ?_ ⟨by omega,fun j a1 a2=>?_⟩ (by omega)
   ·rw[show(((k-1:Nat)):Int)=(k:Int)-1 by omega]
    simp
   ·rcases Nat.lt_or_ge j k with ma|ma
    ·obtain rfl:j=k-1:=by omega
     rw[h8];omega
    ·exact hm j ma a2
  ·have bG:nth a (k-1)+1<nth (R.map List.length) (k-1):=by rw[h8];omega
   have hi:=Uc (i:=k-1) ha (by simpa using h3) (fun j a1 a2=>hm j (by omega) (by simpa using a2)) bG
   simp only[List.length_map]at hi;have:=h1 (.bool (decide (((nth a (k-1):Nat):Int)=((nth R (k-1)).length:Int)-1))) (k-1) h3 bG hi;rw[show(((k-1:Nat)):Int)=(k:Int)-1 by omega,show k-1+1=k by omega,show R.length-1-(k-1)=R.length-k by omega]at this
   exact this
theorem Uh{us:List Un}{ss:List Us}{g:Int}(h:us.length=ss.length):(mB us ss g).length=us.length:=by simp[mB,h]
theorem ahC(us:List Un)(ss:List Us)(g:Int):List.zipWith (Hk g) us ss=(mB us ss g).map fun o=>[ints o]:=by
 rw[mB,List.map_zipWith]
theorem ahD{us:List Un}{ss:List Us}{g:Int}(h:Hg us ss g){o:List Int}(ho:o∈mB us ss g):(0<o.length∧o.length≤1000)∧∀q∈o,0≤q∧q≤1073741824:=by
 have hl:=h.len;obtain⟨i,hi,rfl⟩:=Bv ho;rw[Uh hl]at hi;have e:nth (mB us ss g) i=rF (nth us i) (nth ss i) g:=Bw hi (by omega)
 rw[e];have h1:=ahq (s:=nth ss i) (h.TH i hi);refine⟨⟨ahw (h.valid i hi),by omega⟩,fun q hq=>?_⟩
 simp only[rF,List.mem_filter,decide_eq_true_eq]at hq;exact Hc hq.2
noncomputable abbrev Hm(us:List Un)(ss:List Us)(R:List (List Int))(release:Int)(best:Option (List Int))(a:List Nat)(o:Option (List V))(G:List aW):St :=
 ⟨[(0,jX us),(1,jD ss),(3,i64 release),(11,Ed R),(13,.bool best.isSome),(14,rb best),(15,.bK 15 0),(16,.cb 53 1 R.length)],(15,rv us ss best)::(53,iC a)::ob o,[],G⟩
theorem ahE{R:List (List Int)}{us:List Un}{ss:List Us}{release:Int}{G:List aW}{K:cH}(hn:R.length≤6)(tu:us.length≤6)(Ui:R.length=us.length)(sM:∀o∈R,(0<o.length∧o.length≤1000)∧∀q∈o,0≤q∧q≤1073741824)
  (bfX:∀a,Vd (R.map List.length) a→y5 us ss (er R a)=some ((er R a).sum,iA us (er R a),iB ss (er R a)))
  (hz:Vd (R.map List.length) (List.replicate R.length 0))
  (hK:∀best b o z,Kn us ss R release (py (R.map List.length)) best→K (.exit 0) { Hm us ss R release best b o G with env:=(Hm us ss R release best b o G).env++[(26,i64 (-1)),(131,z)] }) :
  go (bt F) R3 (Hm us ss R release none (List.replicate R.length 0) none G) K:=by
 refine go_loop (fun x:List Nat×Option (List Int)×Option (List V)=>Hm us ss R release x.2.1 x.1 x.2.2 G) (fun x=>Vd (R.map List.length) x.1∧Kn us ss R release (rk (R.map List.length) x.1) x.2.1)
  (fun x=>py (R.map List.length)-rk (R.map List.length) x.1) (List.replicate R.length 0,none,none) rfl (by simp[rb]) ⟨hz,by simp only[MF];intro b _ h;omega⟩ ?_
 rintro⟨a,best,o⟩ ⟨ha,ji⟩;simp only at ha ji;have hrk:=Bz ha;have pW:=By ha;simp only[List.length_map]at pW;have mn:=Uf pW;have g5:=Ub ha;replace ji:=ahx ha ji;have hva:=bfX a ha;have hV:=TD us ss (er R a) (by omega) []
 rw[hva]at hV;simp only[Bt]at hV;have ML:(List.replicate R.length [V.int .i64 0]).flatten=dS (List.replicate R.length 0):=by
  rw[dS];simp
 simp (disch:=omega) [-getElem?_pos,wrap64,R2,ML];refine ahB hn ha (fun o ho=>(sM o ho).2) fun z=>?_;simp (disch:=omega) [-getElem?_pos,wrap64,wrap64];refine b9 (fun h1=>?_) (fun h1=>?_)
 ·have MM:ly [none] (chunks 1 (dS (er R a)) 0 R.length)=some ((er R a).map fun n=>[V.int .i64 n]):=J8 (by omega)
  cases best with
  |none =>
   have vl:sL us ss release (er R a) none=some (er R a):=by simp[sL,h1]
   rw[vl]at ji;simp (disch:=omega) [-getElem?_pos,wrap64,MM,hV,rb,rv];refine Hl (best:=some (er R a)) (o:=none) (fd:=true) hn ha (fun o ho=>(sM o ho).1.2) (fun z b he=>?_) (fun z i hi bG he=>?_)
   ·rw[he]at g5
    simp only at g5;rw[g5]at ji;simp (disch:=omega) [-getElem?_pos,wrap64,rb,rv];exact hK _ b none _ ji
   ·rw[he]at g5
    simp only at g5;rw[←g5.2]at ji;have q1:(iC (a.take (i+1)++List.replicate (R.length-1-i) 0))[i]?=some (i64 ((nth a i:Nat):Int)):=by
     rw[BA (by simp;omega),og (by simp;omega),BB (by omega)]
    have q2:=vW ha i (by simpa using hi)
    rw[uO hi]at q2;have q3:=(sM _ (rZ hi)).1.2;have q7:¬(i:Int)<0:=by omega
    have q4:i<a.length:=by omega
    have q5:(iC (a.take (i+1)++List.replicate (R.length-1-i) 0)).set i (i64 (((nth a i:Nat):Int)+1))=iC (a.take i++(nth a i+1)::List.replicate (R.length-1-i) 0):=by
     have:=Ee (a:=a.take (i+1)++List.replicate (R.length-1-i) 0) (i:=i) (d:=nth a i+1);rw[show(i64 ((nth a i+1:Nat):Int))=i64 (((nth a i:Nat):Int)+1) from rfl]at this;rw[this,jF q4,List.append_assoc,List.set_append_right _ _ (by simp;omega)]
     have:(a.take i).length=i:=by simp;omega
     rw[this,Nat.sub_self];rfl
    have q6:i<(iC (a.take (i+1)++List.replicate (R.length-1-i) 0)).length:=by simp;omega
    simp (disch:=omega) [-getElem?_pos,wrap64,q1,q5,q6,q7,rb,rv];exact cc (a.take i++(nth a i+1)::List.replicate (R.length-1-i) 0,some (er R a),none) (by simp[rb,rv]) ⟨g5.1,ji⟩ (by simp only;omega)
  |some E =>
   by_cases B5:jE (iA us (er R a),iB ss (er R a)) (iA us E,iB ss E) (er R a) E
   ·have vl:sL us ss release (er R a) (some E)=some (er R a):=by simp[sL,h1,B5]
    rw[vl]at ji;have hB:=TC (iA us (er R a),iB ss (er R a)) (iA us E,iB ss E) (er R a) E (by omega) []
    rw[decide_eq_true B5]at hB;simp (disch:=omega) [-getElem?_pos,wrap64,MM,hV,rb,rv,hB];refine Hl (best:=some (er R a)) (o:=none) (fd:=true) hn ha (fun o ho=>(sM o ho).1.2) (fun z b he=>?_) (fun z i hi bG he=>?_)
    ·rw[he]at g5
     simp only at g5;rw[g5]at ji;simp (disch:=omega) [-getElem?_pos,wrap64,rb,rv];exact hK _ b none _ ji
    ·rw[he]at g5
     simp only at g5;rw[←g5.2]at ji;have q1:(iC (a.take (i+1)++List.replicate (R.length-1-i) 0))[i]?=some (i64 ((nth a i:Nat):Int)):=by
      rw[BA (by simp;omega),og (by simp;omega),BB (by omega)]
     have q2:=vW ha i (by simpa using hi)
     rw[uO hi]at q2;have q3:=(sM _ (rZ hi)).1.2;have q7:¬(i:Int)<0:=by omega
     have q4:i<a.length:=by omega
     have q5:(iC (a.take (i+1)++List.replicate (R.length-1-i) 0)).set i (i64 (((nth a i:Nat):Int)+1))=iC (a.take i++(nth a i+1)::List.replicate (R.length-1-i) 0):=by
      have:=Ee (a:=a.take (i+1)++List.replicate (R.length-1-i) 0) (i:=i) (d:=nth a i+1);rw[show(i64 ((nth a i+1:Nat):Int))=i64 (((nth a i:Nat):Int)+1) from rfl]at this;rw[this,jF q4,List.append_assoc,List.set_append_right _ _ (by simp;omega)]
      have:(a.take i).length=i:=by simp;omega
      rw[this,Nat.sub_self];rfl
     have q6:i<(iC (a.take (i+1)++List.replicate (R.length-1-i) 0)).length:=by simp;omega
     simp (disch:=omega) [-getElem?_pos,wrap64,q1,q5,q6,q7,rb,rv];exact cc (a.take i++(nth a i+1)::List.replicate (R.length-1-i) 0,some (er R a),none) (by simp[rb,rv]) ⟨g5.1,ji⟩ (by simp only;omega)
   ·have vl:sL us ss release (er R a) (some E)=some E:=by simp[sL,h1,B5]
    rw[vl]at ji;have hB:=TC (iA us (er R a),iB ss (er R a)) (iA us E,iB ss E) (er R a) E (by omega) []
    rw[decide_eq_false B5]at hB;simp (disch:=omega) [-getElem?_pos,wrap64,MM,hV,rb,rv,hB];refine Hl (best:=some E) (o:=none) (fd:=true) hn ha (fun o ho=>(sM o ho).1.2) (fun z b he=>?_) (fun z i hi bG he=>?_)
    ·rw[he]at g5
     simp only at g5;rw[g5]at ji;simp (disch:=omega) [-getElem?_pos,wrap64,rb,rv];exact hK _ b none _ ji
    ·rw[he]at g5
     simp only at g5;rw[←g5.2]at ji;have q1:(iC (a.take (i+1)++List.replicate (R.length-1-i) 0))[i]?=some (i64 ((nth a i:Nat):Int)):=by
      rw[BA (by simp;omega),og (by simp;omega),BB (by omega)]
     have q2:=vW ha i (by simpa using hi)
     rw[uO hi]at q2;have q3:=(sM _ (rZ hi)).1.2;have q7:¬(i:Int)<0:=by omega
     have q4:i<a.length:=by omega
     have q5:(iC (a.take (i+1)++List.replicate (R.length-1-i) 0)).set i (i64 (((nth a i:Nat):Int)+1))=iC (a.take i++(nth a i+1)::List.replicate (R.length-1-i) 0):=by
      have:=Ee (a:=a.take (i+1)++List.replicate (R.length-1-i) 0) (i:=i) (d:=nth a i+1);rw[show(i64 ((nth a i+1:Nat):Int))=i64 (((nth a i:Nat):Int)+1) from rfl]at this;rw[this,jF q4,List.append_assoc,List.set_append_right _ _ (by simp;omega)]
      have:(a.take i).length=i:=by simp;omega
      rw[this,Nat.sub_self];rfl
     have q6:i<(iC (a.take (i+1)++List.replicate (R.length-1-i) 0)).length:=by simp;omega
     simp (disch:=omega) [-getElem?_pos,wrap64,q1,q5,q6,q7,rb,rv];exact cc (a.take i++(nth a i+1)::List.replicate (R.length-1-i) 0,some E,none) (by simp[rb,rv]) ⟨g5.1,ji⟩ (by simp only;omega)
 ·have vl:sL us ss release (er R a) best=best:=by
   cases best with
   |none=>simp[sL,h1]
   |some F=>simp[sL,h1]
  rw[vl]at ji;refine Hl (best:=best) (o:=(some (dS (er R a)))) (fd:=best.isSome) hn ha (fun o ho=>(sM o ho).1.2) (fun z b he=>?_) (fun z i hi bG he=>?_)
  ·rw[he]at g5
   simp only at g5;rw[g5]at ji;simp (disch:=omega) [-getElem?_pos,wrap64,MK];exact hK _ b (some (dS (er R a))) _ ji
  ·rw[he]at g5
   simp only at g5;rw[←g5.2]at ji;have q1:(iC (a.take (i+1)++List.replicate (R.length-1-i) 0))[i]?=some (i64 ((nth a i:Nat):Int)):=by
    rw[BA (by simp;omega),og (by simp;omega),BB (by omega)]
   have q2:=vW ha i (by simpa using hi)
   rw[uO hi]at q2;have q3:=(sM _ (rZ hi)).1.2;have q7:¬(i:Int)<0:=by omega
   have q4:i<a.length:=by omega
   have q5:(iC (a.take (i+1)++List.replicate (R.length-1-i) 0)).set i (i64 (((nth a i:Nat):Int)+1))=iC (a.take i++(nth a i+1)::List.replicate (R.length-1-i) 0):=by
    have:=Ee (a:=a.take (i+1)++List.replicate (R.length-1-i) 0) (i:=i) (d:=nth a i+1);rw[show(i64 ((nth a i+1:Nat):Int))=i64 (((nth a i:Nat):Int)+1) from rfl]at this;rw[this,jF q4,List.append_assoc,List.set_append_right _ _ (by simp;omega)]
    have:(a.take i).length=i:=by simp;omega
    rw[this,Nat.sub_self];rfl
   have q6:i<(iC (a.take (i+1)++List.replicate (R.length-1-i) 0)).length:=by simp;omega
   simp (disch:=omega) [-getElem?_pos,wrap64,q1,q5,q6,q7,MK];exact cc (a.take i++(nth a i+1)::List.replicate (R.length-1-i) 0,best,(some (dS (er R a)))) (by simp[MK]) ⟨g5.1,ji⟩ (by simp only;omega)
theorem ahG(us:List Un)(ss:List Us)(g release:Int)(G:List aW):∃t,bt F 120 [jX us,jD ss,i64 g,i64 release] G=some (.tuple [.slice t 1 ((g7 us ss g release).map fun n=>[i64 n]),i64 (jY us ss g release)],G):=by
 suffices h:∀Q:V→Prop,(∀t,Q (.tuple [.slice t 1 ((g7 us ss g release).map fun n=>[i64 n]),i64 (jY us ss g release)]))→jq (bt F) 120 [jX us,jD ss,i64 g,i64 release] G fun v G'=>Q v∧G'=G by
  obtain⟨_,_,h,⟨t,rfl⟩,rfl⟩:=h (fun v=>∃t,v=.tuple [.slice t 1 ((g7 us ss g release).map fun n=>[i64 n]),i64 (jY us ss g release)]) fun t=>⟨t,rfl⟩;exact⟨t,h⟩
 intro Q hQ;refine jV rfl rfl ?_;have Ef:=ahp us ss g [];by_cases hw:xm us ss g=0
 ·obtain⟨w1,w2,w3,w4⟩:us.length≤6∧us.length=ss.length∧y6 us ss∧(1≤g∧g≤1073741824):=by
   unfold xm at hw;split at hw
   ·cases hw
   ·split at hw
    ·cases hw
    ·split at hw
     ·cases hw
     ·split at hw
      ·cases hw
      ·rename_i a1 a2 a3 a4
       exact⟨by omega,Decidable.of_not_not a2,Decidable.of_not_not a3,by omega⟩
  have oh:px us ss g release=if g<1∨1073741824<g∨release<0∨1073741824<release then 1 else if 200*g<release then 10 else if ¬y7 us g then 10 else 0:=by
   unfold px;rw[if_neg (by omega),if_neg (fun h=>h w2),if_neg (fun h=>h w3)]
  by_cases hr:release<0∨1073741824<release
  ·rw[if_pos (by omega)]at oh
   have eL:g7 us ss g release=[]:=by simp[g7,oh]
   have eE:jY us ss g release=1:=by simp[jY,oh]
   rw[eL,eE]at hQ;have h8:(!decide (0≤release) || !decide (release≤1073741824))=true:=by simp;omega
   simp (disch:=omega) [wrap64,yX,Ef,hw,c5,h8];exact hQ _
  ·rw[if_neg (by omega)]at oh
   have h8:(!decide (0≤release) || !decide (release≤1073741824))=false:=by simp;omega
   by_cases h9:200*g<release
   ·rw[if_pos h9]at oh
    have eL:g7 us ss g release=[]:=by simp[g7,oh]
    have eE:jY us ss g release=10:=by simp[jY,oh]
    rw[eL,eE]at hQ;simp (disch:=omega) [wrap64,yX,Ef,hw,c5,h8,h9];exact hQ _
   ·rw[if_neg h9]at oh
    have hA:=ahu w2 (by omega) w3 g []
    by_cases hF:y7 us g
    ·rw[if_neg (fun h=>h hF)]at oh
     have hE:xn us g=0:=by simp[xn,hF]
     rw[hE,if_pos rfl,ahC]at hA;have h0:=(MB oh).1;have zE:=TT h0 (left:=release) (by omega)
     have eL:g7 us ss g release=(l8 (iW us ss g) release).getD []:=by simp[g7,oh]
     have eE:jY us ss g release=if l8 (iW us ss g) release=none then 9 else 0:=by simp[jY,oh]
     have Ui:=Uh (g:=g) w2;have sM:=fun o (ho:o∈mB us ss g)=>ahD h0 ho;have bfX:∀a,Vd ((mB us ss g).map List.length) a→y5 us ss (er (mB us ss g) a)=some ((er (mB us ss g) a).sum,iA us (er (mB us ss g) a),iB ss (er (mB us ss g) a)):=fun a ha=>TW ((Ec w2).1 (MI ha));have ahH:Kn us ss (mB us ss g) release (py ((mB us ss g).map List.length)) none→∀F,lL g us ss F→release<F.sum:=Ud (g:=g) w2;have ahI:∀F,Kn us ss (mB us ss g) release (py ((mB us ss g).map List.length)) (some F)→zA g us ss release F:=fun F=>Ud (g:=g) w2;generalize hR:mB us ss g=R at *
     have hz:Vd (R.map List.length) (List.replicate R.length 0):=by
      have:=MG (ns:=R.map List.length) fun n hn=>by
       obtain⟨o,ho,rfl⟩:=List.mem_map.1 hn;exact(sM o ho).1.1
      simpa using this
     simp (disch:=omega) [wrap64,yX,Ef,hw,c5,h8,h9,hA];have ML:List.replicate R.length (V.int .i64 0)=iC (List.replicate R.length 0):=by simp[iC,dS]
     rw[ML];refine ahE (us:=us) (ss:=ss) (release:=release) (by omega) w1 Ui sM bfX hz fun best b o z ji=>?_
     cases best with
     |none =>
      have hb:=ahH ji;have lh:l8 (iW us ss g) release=none:=by
       cases hc:l8 (iW us ss g) release with
       |none=>rfl
       |some F =>
        rw[hc]at zE;have:=hb F zE.lL;have:=zE.sum;omega
      rw[eL,eE,lh]at hQ;simp only[if_true,Option.getD_none]at hQ;simp (disch:=omega) [wrap64,rb];exact hQ _
     |some F =>
      have hb:=ahI F ji;have hso:l8 (iW us ss g) release=some F:=by
       cases hc:l8 (iW us ss g) release with
       |none =>
        rw[hc]at zE;have:=zE F hb.lL;have:=hb.sum;omega
       |some E =>
        rw[hc]at zE;rw[zA.unique zE hb]
      rw[eL,eE,hso]at hQ;simp only[Option.getD_some,reduceCtorEq,if_false]at hQ;simp (disch:=omega) [wrap64,rb];exact hQ _
    ·rw[if_pos hF]at oh
     have hE:xn us g=10:=by simp[xn,hF]
     have eL:g7 us ss g release=[]:=by simp[g7,oh]
     have eE:jY us ss g release=10:=by simp[jY,oh]
     rw[hE,if_neg (by omega)]at hA
     rw[eL,eE]at hQ;simp (disch:=omega) [wrap64,yX,Ef,hw,c5,h8,h9,hA];exact hQ _
 ·have oh:px us ss g release=xm us ss g:=by
   unfold xm at hw ⊢;unfold px;split
   ·rfl
   ·split
    ·rfl
    ·split
     ·rfl
     ·rename_i a1 a2 a3
      simp only[a1,a2,a3,if_false]at hw;split at hw
      ·rw[if_pos (by omega),if_pos (by assumption)]
      ·exact absurd rfl hw
  have ahK:¬px us ss g release=0:=by rw[oh];exact hw
  have eL:g7 us ss g release=[]:=by simp[g7,ahK]
  have eE:jY us ss g release=xm us ss g:=by simp[jY,oh,hw]
  rw[eL,eE]at hQ;simp (disch:=omega) [wrap64,yX,Ef,hw];exact hQ _
end Go.Proofs.YtmpikpodpgnjhaaGreat
namespace Go.Proofs.YtmpikpodpgnjhaaGreat
set_option linter.all false
open Go.Vm
end Go.Proofs.YtmpikpodpgnjhaaGreat
namespace Go.Proofs.YtmpikpodpgnjhaaGreat
set_option linter.all false
open Go.Vm
attribute [local simp] eU eV eS eT
structure Gs where
 o:Int
 j:Bool
 deriving Inhabited,DecidableEq
abbrev Gs.row(s:Gs):List V:=[i64 s.o,.bool s.j]
abbrev gs(s:Gs):V:=.agg s.row
abbrev jG(l:List Gt):V:=.slice none 3 (l.map Gt.row)
abbrev ju(l:List Gs):V:=.slice none 2 (l.map Gs.row)
def sN(l:List Rt)(lv:Int):Option (List Pt):=l.foldl (fun a r=>if r.lv≤lv then some r.c else a) none
def qg(l:List Rt)(lv:Int):List Pt:=(sN l lv).getD []
theorem Eg{l:List Rt}{r:Rt}{lv:Int}:sN (l++[r]) lv=if r.lv≤lv then some r.c else sN l lv:=by
 simp[sN,List.foldl_append]
def xq:Option (List Pt)→V
 |none=>.aK
 |some c=>im c
@[simp] theorem api{o:Option (List Pt)}{d:Nat}:(xq o).cI d=false:=by cases o<;>rfl
@[simp] theorem apj{o:Option (List Pt)}:(xq o).cM=true:=by cases o<;>rfl
def qR(c:List Pt)(o:Int):Int:=if c.length=0 then 0 else ia c o
structure Gv(g:Gt):Prop where
 cur:∀i,i<g.r.length→gd (nth g.r i).c=0
 top:∀i,i<g.r.length→(nth (nth g.r i).c ((nth g.r i).c.length-1)).y≤1073741824
 bot:∀i,i<g.r.length→(nth (nth g.r i).c 0).x=0∧(nth (nth g.r i).c 0).y=0
 kc:0<g.r.length∧g.r.length≤10
 dI:0≤g.dI∧g.dI≤1000
 move:0≤g.move∧g.move≤1000
theorem Uj{g:Gt}(h:j0 g=0):Gv g:=by
 unfold j0 at h;split at h
 ·cases h
 split at h
 ·cases h
 split at h
 ·rename_i h3;exact absurd h h3
 split at h
 ·cases h
 rename_i h1 h2 h3 h4;have h3:ed (nG g.r) g.r.length 0=0:=Decidable.of_not_not h3;have at_:∀i,i<g.r.length→gd (nth g.r i).c=0∧((nth (nth g.r i).c 0).x=0∧(nth (nth g.r i).c 0).y=0)∧(nth (nth g.r i).c ((nth g.r i).c.length-1)).y≤1073741824:=fun i hi=>by
  have:=sE h3 i (by omega) (by omega)
  unfold nG at this;split at this
  ·cases this
  split at this
  ·cases this
  split at this
  ·rename_i h5;exact absurd this h5
  split at this
  ·cases this
  split at this
  ·cases this
  rename_i h5 h6 h7;exact⟨Decidable.of_not_not h5,Decidable.of_not_not h6,by omega⟩
 exact⟨fun i hi=>(at_ i hi).1,fun i hi=>(at_ i hi).2.2,fun i hi=>(at_ i hi).2.1,by omega,by omega,by omega⟩
theorem Uk{P:List Pt→Prop}{l:List Rt}{lv:Int}(h:∀i,i<l.length→P (nth l i).c):qg l lv=[]∨P (qg l lv):=by
 have key:∀k,k≤l.length→∀c,sN (l.take k) lv=some c→P c:=by
  intro k;induction k with
  |zero=>intro _ c hc;simp[sN]at hc
  |succ k ih =>
   intro hk c hc;rw[jF (by omega),Eg]at hc
   split at hc
   ·cases hc;exact h k (by omega)
   ·exact ih (by omega) c hc
 have:=key l.length (Nat.le_refl _);rw[List.take_length]at this;unfold qg;cases hc:sN l lv with
 |none=>exact .inl rfl
 |some c=>exact .inr (this c hc)
theorem Ul{g:Gt}(hv:Gv g)(lv:Int)(G:List aW):∃t,bt F 212 [gt g,i64 lv] G=some (.agg [.slice t 2 ((qg g.r lv).map Pt.row),i64 0],G):=by
 suffices h:∀Q:V→List aW→Prop,(∀t,Q (.agg [.slice t 2 ((qg g.r lv).map Pt.row),i64 0]) G)→jq (bt F) 212 [gt g,i64 lv] G Q by
  obtain⟨_,_,h,t,rfl,rfl⟩:=h (fun v G'=>∃t,v=.agg [.slice t 2 ((qg g.r lv).map Pt.row),i64 0]∧G'=G) fun t=>⟨t,rfl,rfl⟩;exact⟨t,h⟩
 intro Q hQ;obtain⟨l,dI,move⟩:=g;have Bs:=hv.kc;simp only at Bs;refine jV rfl rfl ?_;simp (disch:=omega) [-getElem?_pos,wrap64,LX];refine go_loop (fun i:Nat=>ady lv (zF l) l.length i [.aK,i64 0] [xq (sN (l.take i) lv),i64 0] G) (fun i=>i≤l.length) (fun i=>l.length-i) 0 rfl (by simp[sN,xq]) (by omega) ?_
 rintro i hi;simp (disch:=omega) [-getElem?_pos,wrap64,S5];refine b9 (fun h3=>?_) (fun h3=>?_)
 ·have h3:i<l.length:=by omega
  by_cases h4:(nth l i).lv≤lv
  ·simp (disch:=omega) [-getElem?_pos,wrap64,bo (l:=l),h3,h4]
   refine cc (i+1) (by simp[jF h3,Eg,h4,xq]) (by omega) (by omega)
  ·simp (disch:=omega) [-getElem?_pos,wrap64,bo (l:=l),h3,h4]
   refine cc (i+1) (by simp[jF h3,Eg,h4,xq]) (by omega) (by omega)
 ·obtain rfl:i=l.length:=by omega
  rw[List.take_length];cases hc:sN l lv with
  |none =>
   simp only[qg,hc]at hQ;simp (disch:=omega) [-getElem?_pos,wrap64,xq];exact hQ _
  |some c =>
   simp only[qg,hc]at hQ;simp (disch:=omega) [-getElem?_pos,wrap64,xq];exact hQ _
theorem MN{c:List Pt}(h:c=[]∨gd c=0)(w o:Int)(G:List aW):bt F 214 [.agg [im c,i64 w],i64 o] G=some (i64 (qR c o),G) :=
 cg rfl rfl (by
  rcases h with rfl|h
  ·simp[wrap64,GS,qR]
  ·have hp:=rD h
   have h1:¬ c.length=0:=by omega
   have h2:¬ (c.length:Int)=0:=by omega
   simp[wrap64,GS,qR,ajJ (lJ h),h1,h2])
theorem ahM{c:List Pt}(h:c=[]∨gd c=0)(w o:Int)(G:List aW):bt F 211 [.agg [im c,i64 w],i64 o] G=some (.bool (decide (w≤qR c o)),G) :=
 cg rfl rfl (by
  simp[wrap64,LW,MN h])
def iN(g:Gt)(o lv:Int):Int:=qR (qg g.r lv) o
theorem ahN{g:Gt}(h:Gv g)(o lv:Int)(G:List aW):bt F 172 [gt g,i64 o,i64 lv] G=some (i64 (iN g o lv),G) :=
 cg rfl rfl (by
  obtain⟨l,dI,move⟩:=g;have MO:=h.cur;have Bs:=h.kc;simp only at MO Bs;generalize hW:iN ⟨l,dI,move⟩ o lv=W;unfold iN qg at hW;simp only at hW;simp (disch:=omega) [-getElem?_pos,wrap64,Ly];refine go_loop (fun i:Nat=>acK o lv (qR ((sN (l.take i) lv).getD []) o) (zF l) l.length i G) (fun i=>i≤l.length) (fun i=>l.length-i) 0 rfl (by simp[sN,qR]) (by omega) ?_
  rintro i hi;simp (disch:=omega) [-getElem?_pos,wrap64,SE];refine b9 (fun h3=>?_) (fun h3=>?_)
  ·have h3:i<l.length:=by omega
   have hp:=rD (MO i h3);have hn:¬ (nth l i).c=[]:=fun e=>by rw[e]at hp;simp at hp
   by_cases h4:(nth l i).lv≤lv
   ·simp (disch:=omega) [-getElem?_pos,wrap64,bo (l:=l),h3,h4,Md,MO]
    refine cc (i+1) (by simp[jF h3,Eg,h4,qR,hn]) (by omega) (by omega)
   ·simp (disch:=omega) [-getElem?_pos,wrap64,bo (l:=l),h3,h4]
    refine cc (i+1) (by simp[jF h3,Eg,h4]) (by omega) (by omega)
  ·obtain rfl:i=l.length:=by omega
   rw[List.take_length];simp (disch:=omega) [-getElem?_pos,wrap64,hW])
def mD(g:Gt)(s:Gs):Prop:=0≤s.o∧s.o≤g.dI
instance {g:Gt} {s:Gs}:Decidable (mD g s):=inferInstanceAs (Decidable (_∧_))
def ff(g:Gt)(s:Gs):Bd:=if s.j then ⟨s.o,s.o⟩ else ⟨max (s.o-g.move) 0,min (s.o+g.move) g.dI⟩
theorem Um{g:Gt}{s:Gs}(h:Gv g)(hs:mD g s)(G:List aW):bt F 213 [gt g,gs s] G=some (.agg (ff g s).row,G) :=
 cg rfl rfl (by
  obtain⟨l,dI,move⟩:=g;obtain⟨o,j⟩:=s;have h1:=h.dI;have h2:=h.move;have h3:=hs.1;have h4:=hs.2;simp only at h1 h2 h3 h4;cases j with
  |true=>simp (disch:=omega) [wrap64,GR,ff]
  |false =>
   have e1:max (0:Int) (o-move)=max (o-move) 0:=Int.max_comm _ _;have e2:min dI (o+move)=min (o+move) dI:=Int.min_comm _ _;simp (disch:=omega) [wrap64,GR,ff,e1,e2])
theorem ahO{g:Gt}{s:Gs}(h:Gv g)(hs:mD g s)(G:List aW):bt F 171 [gt g,gs s] G=some (.agg (ff g s).row,G) :=
 cg rfl rfl (by
  obtain⟨l,dI,move⟩:=g;obtain⟨o,j⟩:=s;have h1:=h.dI;have h2:=h.move;have h3:=hs.1;have h4:=hs.2;simp only at h1 h2 h3 h4;cases j with
  |true=>simp (disch:=omega) [wrap64,GB,ff]
  |false =>
   have e1:max (0:Int) (o-move)=max (o-move) 0:=Int.max_comm _ _;have e2:min dI (o+move)=min (o+move) dI:=Int.min_comm _ _;simp (disch:=omega) [wrap64,GB,ff,e1,e2])
theorem Hn(g:Gt)(s:Gs)(G:List aW):bt F 227 [gt g,gs s] G=some (.bool (decide (mD g s)),G) :=
 cg rfl rfl (by
  simp[wrap64,GV,Gr,dG,c5,mD];by_cases h1:0≤s.o<;>by_cases h2:s.o≤g.dI<;>simp[h1,h2])
theorem xr(g:Gt)(s:Gs)(G:List aW):bt F 136 [gt g,gs s] G=some (.bool (decide (mD g s)),G) :=
 cg rfl rfl (by
  simp[wrap64,GV,Gr,dG,c5,mD];by_cases h1:0≤s.o<;>by_cases h2:s.o≤g.dI<;>simp[h1,h2])
def vY(g:List Gt)(s:List Gs):Prop:=∀i,i<g.length→mD (nth g i) (nth s i)
noncomputable instance {g:List Gt} {s:List Gs}:Decidable (vY g s):=Classical.propDecidable _
noncomputable def aE(g:List Gt)(s:List Gs)(lv:Int):Int :=
 if 8<g.length then 10 else if g.length≠s.length then 3 else if ¬vY g s then 3
 else if ed (fun i=>j0 (nth g i)) g.length 0≠0 then ed (fun i=>j0 (nth g i)) g.length 0 else if ¬(0≤lv∧lv≤16777216) then 1 else 0
theorem Uo(g:List Gt)(s:List Gs)(lv:Int)(G:List aW):bt F 222 [jG g,ju s,i64 lv] G=some (i64 (aE g s lv),G) :=
 cg rfl rfl (by
  generalize hW:aE g s lv=W;unfold aE at hW;simp (disch:=omega) [-getElem?_pos,wrap64,GU,Gl];refine b9 (fun h1=>?_) (fun h1=>gT (fun h2=>?_) (fun h2=>?_))
  ·rw[if_pos (by omega)]at hW
   exact hW
  ·simp[-List.length_eq_zero_iff,-Int.natCast_eq_zero]at h2
   rw[if_neg (by omega),if_pos (by omega)]at hW
   exact hW
  ·simp[-List.length_eq_zero_iff,-Int.natCast_eq_zero]at h2
   rw[if_neg (by omega),if_neg (by omega)]at hW
   have hl:g.length=s.length:=by omega
   refine go_loop (fun i:Nat=>adL (jG g) (ju s) lv (jG g) g.length i G) (fun i=>i≤g.length∧∀j,j<i→mD (nth g j) (nth s j)) (fun i=>g.length-i) 0 rfl (by simp) ⟨by omega,by omega⟩ ?_
   rintro i ⟨hi,hv⟩;simp (disch:=omega) [-getElem?_pos,wrap64,Tb];refine b9 (fun h3=>?_) (fun h3=>?_)
   ·have h3:i<g.length:=by omega
    by_cases h4:mD (nth g i) (nth s i)
    ·simp (disch:=omega) [-getElem?_pos,wrap64,bo (l:=g),bo (l:=s),Hn,xr,h4]
     refine cc (i+1) (by simp) ⟨by omega,fun j hj=>?_⟩ (by omega)
     rcases Nat.lt_or_ge j i with h5|h5
     ·exact hv j h5
     ·rwa [show j=i by omega]
    ·rw[if_pos (fun h=>h4 (h i h3))]at hW
     simp (disch:=omega) [-getElem?_pos,wrap64,bo (l:=g),bo (l:=s),Hn,xr,h4];exact hW
   ·obtain rfl:i=g.length:=by omega
    rw[if_neg (fun h=>h hv)]at hW;refine go_loop (fun i:Nat=>adN lv (jG g) g.length i G) (fun i=>i≤g.length∧ed (fun i=>j0 (nth g i)) (g.length-i) i=ed (fun i=>j0 (nth g i)) g.length 0) (fun i=>g.length-i) 0 rfl (by simp) ⟨by omega,rfl⟩ ?_
    rintro i ⟨hi,hq⟩;simp (disch:=omega) [-getElem?_pos,wrap64,Tc];refine b9 (fun h3=>?_) (fun h3=>?_)
    ·have h3:i<g.length:=by omega
     rw[l7 h3]at hq;by_cases h4:j0 (nth g i)=0
     ·rw[if_pos h4]at hq
      simp (disch:=omega) [-getElem?_pos,wrap64,bo (l:=g),xo,xp,h4];exact cc (i+1) (by simp) ⟨by omega,hq⟩ (by omega)
     ·rw[if_neg h4]at hq
      rw[←hq,if_pos h4]at hW;simp (disch:=omega) [-getElem?_pos,wrap64,bo (l:=g),xo,xp,h4];exact hW
    ·obtain rfl:i=g.length:=by omega
     rw[mR]at hq;rw[←hq,if_neg (by omega)]at hW
     by_cases m1:0≤lv∧lv≤16777216
     ·have m2:(!decide (0≤lv) || !decide (lv≤16777216))=false:=by simp;omega
      rw[if_neg (by omega)]at hW
      simp (disch:=omega) [-getElem?_pos,wrap64,dG,c5,m2];exact hW
     ·have m2:(!decide (0≤lv) || !decide (lv≤16777216))=true:=by simp;omega
      rw[if_pos (by omega)]at hW
      simp (disch:=omega) [-getElem?_pos,wrap64,dG,c5,m2];exact hW)
theorem Ho(g:List Gt)(s:List Gs)(lv:Int)(G:List aW):bt F 123 [jG g,ju s,i64 lv] G=some (i64 (aE g s lv),G) :=
 cg rfl rfl (by
  generalize hW:aE g s lv=W;unfold aE at hW;simp (disch:=omega) [-getElem?_pos,wrap64,GU,Gl];refine b9 (fun h1=>?_) (fun h1=>gT (fun h2=>?_) (fun h2=>?_))
  ·rw[if_pos (by omega)]at hW
   exact hW
  ·simp[-List.length_eq_zero_iff,-Int.natCast_eq_zero]at h2
   rw[if_neg (by omega),if_pos (by omega)]at hW
   exact hW
  ·simp[-List.length_eq_zero_iff,-Int.natCast_eq_zero]at h2
   rw[if_neg (by omega),if_neg (by omega)]at hW
   have hl:g.length=s.length:=by omega
   refine go_loop (fun i:Nat=>abG (jG g) (ju s) lv (jG g) g.length i G) (fun i=>i≤g.length∧∀j,j<i→mD (nth g j) (nth s j)) (fun i=>g.length-i) 0 rfl (by simp) ⟨by omega,by omega⟩ ?_
   rintro i ⟨hi,hv⟩;simp (disch:=omega) [-getElem?_pos,wrap64,R5];refine b9 (fun h3=>?_) (fun h3=>?_)
   ·have h3:i<g.length:=by omega
    by_cases h4:mD (nth g i) (nth s i)
    ·simp (disch:=omega) [-getElem?_pos,wrap64,bo (l:=g),bo (l:=s),Hn,xr,h4]
     refine cc (i+1) (by simp) ⟨by omega,fun j hj=>?_⟩ (by omega)
     rcases Nat.lt_or_ge j i with h5|h5
     ·exact hv j h5
     ·rwa [show j=i by omega]
    ·rw[if_pos (fun h=>h4 (h i h3))]at hW
     simp (disch:=omega) [-getElem?_pos,wrap64,bo (l:=g),bo (l:=s),Hn,xr,h4];exact hW
   ·obtain rfl:i=g.length:=by omega
    rw[if_neg (fun h=>h hv)]at hW;refine go_loop (fun i:Nat=>abK lv (jG g) g.length i G) (fun i=>i≤g.length∧ed (fun i=>j0 (nth g i)) (g.length-i) i=ed (fun i=>j0 (nth g i)) g.length 0) (fun i=>g.length-i) 0 rfl (by simp) ⟨by omega,rfl⟩ ?_
    rintro i ⟨hi,hq⟩;simp (disch:=omega) [-getElem?_pos,wrap64,R6];refine b9 (fun h3=>?_) (fun h3=>?_)
    ·have h3:i<g.length:=by omega
     rw[l7 h3]at hq;by_cases h4:j0 (nth g i)=0
     ·rw[if_pos h4]at hq
      simp (disch:=omega) [-getElem?_pos,wrap64,bo (l:=g),xo,xp,h4];exact cc (i+1) (by simp) ⟨by omega,hq⟩ (by omega)
     ·rw[if_neg h4]at hq
      rw[←hq,if_pos h4]at hW;simp (disch:=omega) [-getElem?_pos,wrap64,bo (l:=g),xo,xp,h4];exact hW
    ·obtain rfl:i=g.length:=by omega
     rw[mR]at hq;rw[←hq,if_neg (by omega)]at hW
     by_cases m1:0≤lv∧lv≤16777216
     ·have m2:(!decide (0≤lv) || !decide (lv≤16777216))=false:=by simp;omega
      rw[if_neg (by omega)]at hW
      simp (disch:=omega) [-getElem?_pos,wrap64,dG,c5,m2];exact hW
     ·have m2:(!decide (0≤lv) || !decide (lv≤16777216))=true:=by simp;omega
      rw[if_pos (by omega)]at hW
      simp (disch:=omega) [-getElem?_pos,wrap64,dG,c5,m2];exact hW)
theorem ahP{c:List Pt}{i:Nat}:od c i (nth c (i-1)).x=(nth c (i-1)).y:=by simp[od]
theorem ahQ{c:List Pt}(h:Cv c){k:Nat}(hk:k<c.length){x:Int}(hx:x≤(nth c k).x):ia c x≤(nth c k).y:=by
 rcases Mb h x with h1 | ⟨i,a,b,d,e⟩ | h1
 ·rw[y3 h h1];exact h.le (by omega) hk
 ·rw[uK h a b d e]
  have h2:=DX h a b d e;rcases Nat.lt_or_ge k i with h3|h3
  ·rcases Nat.lt_or_ge k (i-1) with h4|h4
   ·have:=h.lt h4 (by omega);omega
   ·obtain rfl:k=i-1:=by omega
    have:x=(nth c (i-1)).x:=by omega
    rw[this,ahP];omega
  ·have:=h.le h3 hk
   unfold od;omega
 ·have hp:=h.pos
  rcases Nat.lt_or_ge k (c.length-1) with h4|h4
  ·have:=h.lt h4 (by omega);omega
  ·obtain rfl:k=c.length-1:=by omega
   rw[ajG h h1];omega
theorem MP{c:List Pt}(h:Cv c){x x':Int}(hx:x≤x'):ia c x≤ia c x':=by
 rcases Mb h x' with h1 | ⟨i,a,b,d,e⟩ | h1
 ·rw[y3 h h1,y3 h (by omega)];omega
 ·by_cases h2:(nth c (i-1)).x≤x
  ·rw[uK h a b d e,uK h a b h2 (by omega)]
   have h3:=h.up i a b;have h4:=h.mono i a b;unfold od;have:=Int.tdiv_le_tdiv (a:=((nth c i).y-(nth c (i-1)).y)*(x-(nth c (i-1)).x)) (b:=((nth c i).y-(nth c (i-1)).y)*(x'-(nth c (i-1)).x)) (c:=(nth c i).x-(nth c (i-1)).x) (by omega)
    (Int.mul_le_mul_of_nonneg_left (by omega) (by omega))
   omega
  ·have h5:=ahQ h (k:=i-1) (by omega) (x:=x) (by omega)
   have h6:=DX h a b d e;rw[uK h a b d e];unfold od;omega
 ·rw[ajG h h1]
  exact(Bq h x).2
theorem ahR{c:List Pt}(h:c=[]∨gd c=0){o o':Int}(ho:o≤o'):qR c o≤qR c o':=by
 rcases h with rfl|h
 ·simp[qR]
 ·unfold qR
  rw[if_neg (by have:=rD h;omega),if_neg (by have:=rD h;omega)]
  exact MP (lJ h) ho
theorem MQ{g:Gt}(h:Gv g)(lv:Int):qg g.r lv=[]∨gd (qg g.r lv)=0:=Uk (P:=fun c=>gd c=0) h.cur
theorem ahS{g:Gt}(h:Gv g){lv o o':Int}(ho:o≤o'):iN g o lv≤iN g o' lv:=ahR (MQ h lv) ho
theorem rG{g:Gt}(h:Gv g)(o lv:Int):0≤iN g o lv∧iN g o lv≤1073741824:=by
 unfold iN qR;have h1:=Uk (P:=fun c=>gd c=0∧(nth c (c.length-1)).y≤1073741824) (l:=g.r) (lv:=lv) (fun i hi=>⟨h.cur i hi,h.top i hi⟩);rcases h1 with h1 | ⟨h1,h2⟩
 ·rw[h1];simp
 ·rw[if_neg (by have:=rD h1;omega)]
  have h3:=Bq (lJ h1) o;have h4:=(lJ h1).y0 0 (rD h1);omega
theorem Eh{g:List Gt}{s:List Gs}{lv:Int}(h:aE g s lv=0):g.length≤8∧g.length=s.length∧vY g s∧(∀i,i<g.length→Gv (nth g i))∧0≤lv∧lv≤16777216:=by
 unfold aE at h;split at h
 ·cases h
 split at h
 ·cases h
 split at h
 ·cases h
 split at h
 ·rename_i h1;exact absurd h h1
 split at h
 ·cases h
 rename_i h1 h2 h3 h4 h5;have h4:=Decidable.of_not_not h4;exact⟨by omega,by omega,Decidable.of_not_not h3,fun i hi=>Uj (sE h4 i (by omega) (by omega)),by omega⟩
def kX(f:Gt→Gs→Int)(g:List Gt)(s:List Gs)(i:Nat):Int:=(List.zipWith f (g.take i) (s.take i)).sum
theorem Ei{f:Gt→Gs→Int}{g:List Gt}{s:List Gs}:kX f g s 0=0:=by simp[kX]
theorem zH{f:Gt→Gs→Int}{g:List Gt}{s:List Gs}{i:Nat}(h1:i<g.length)(h2:i<s.length):kX f g s (i+1)=kX f g s i+f (nth g i) (nth s i):=by
 unfold kX;rw[vT h1 h2,List.sum_append];simp
theorem MR{f:Gt→Gs→Int}{g:List Gt}{s:List Gs}(hl:g.length=s.length)(h:∀i,i<g.length→0≤f (nth g i) (nth s i)∧f (nth g i) (nth s i)≤1073741824):∀i,i≤g.length→0≤kX f g s i∧kX f g s i≤1073741824*i:=by
 intro i;induction i with
 |zero=>intro _;rw[Ei];omega
 |succ i ih =>
  intro hi;rw[zH (by omega) (by omega)]
  have:=ih (by omega)
  have:=h i (by omega)
  omega
def gf(lv:Int)(g:Gt)(s:Gs):Int:=iN g (ff g s).lo lv
def Hp(lv:Int)(g:Gt)(s:Gs):Int:=iN g (ff g s).hi lv
noncomputable def BD(g:List Gt)(s:List Gs)(lv:Int):V:=if aE g s lv=0 then .tuple [.agg [i64 (kX (gf lv) g s g.length),i64 (kX (Hp lv) g s g.length)],i64 0] else .tuple [.agg [i64 0,i64 0],i64 (aE g s lv)]
theorem MS(g:List Gt)(s:List Gs)(lv:Int)(G:List aW):bt F 210 [jG g,ju s,i64 lv] G=some (BD g s lv,G) :=
 cg rfl rfl (by
  generalize hW:BD g s lv=W;unfold BD at hW;by_cases he:aE g s lv=0
  ·rw[if_pos he]at hW
   obtain⟨h1,h2,h3,h4,h5⟩:=Eh he;have r1:=MR (f:=gf lv) h2 (fun i hi=>rG (h4 i hi) _ _);have r2:=MR (f:=Hp lv) h2 (fun i hi=>rG (h4 i hi) _ _);simp (disch:=omega) [-getElem?_pos,wrap64,GQ,Uo,he];refine go_loop (fun i:Nat=>adv (ju s) lv (jG g) g.length i [i64 0,i64 0] [i64 (kX (gf lv) g s i),i64 (kX (Hp lv) g s i)] G) (fun i=>i≤g.length) (fun i=>g.length-i) 0 rfl (by simp[Ei]) (by omega) ?_
   rintro i hi;simp (disch:=omega) [-getElem?_pos,wrap64,S4];refine b9 (fun h6=>?_) (fun h6=>?_)
   ·have h6:i<g.length:=by omega
    have h7:i<s.length:=by omega
    obtain⟨t,ht⟩:=Ul (h4 i h6) lv [];have hr:=Um (h4 i h6) (h3 i h6);have hf:=MN (MQ (h4 i h6) lv);have b1:=r1 i (by omega)
    have b2:=r2 i (by omega)
    have b3:=rG (h4 i h6) (ff (nth g i) (nth s i)).lo lv;have b4:=rG (h4 i h6) (ff (nth g i) (nth s i)).hi lv;unfold iN at b3 b4;simp (disch:=omega) [-getElem?_pos,wrap64,bo (l:=g),bo (l:=s),ht,hr,hf];exact cc (i+1) (by simp[zH h6 h7,gf,Hp,iN]) (by omega) (by omega)
   ·obtain rfl:i=g.length:=by omega
    exact hW
  ·rw[if_neg he]at hW
   simp (disch:=omega) [-getElem?_pos,wrap64,GQ,Uo,he];exact hW)
def kY(f:Bd→Int)(g:List Gt)(s:List Gs):List Int:=List.zipWith (fun g s=>f (ff g s)) g s
theorem xt{f:Bd→Int}{g:List Gt}{s:List Gs}(h:g.length=s.length):(kY f g s).length=g.length:=by simp[kY,h]
theorem Ej{f:Bd→Int}{g:List Gt}{s:List Gs}{i:Nat}(h1:i<g.length)(h2:i<s.length):nth (kY f g s) i=f (ff (nth g i) (nth s i)):=Bw h1 h2
theorem ahT{g:List Gt}{s:List Gs}(hl:g.length=s.length)(hn:g.length≤8)(hs:vY g s)(hv:∀i,i<g.length→Gv (nth g i))(G:List aW) :
  bt F 124 [jG g,ju s] G=some (.tuple [own (kY Bd.lo g s),own (kY Bd.hi g s)],G) :=
 cg rfl rfl (by
  simp (disch:=omega) [-getElem?_pos,wrap64,K5];refine go_loop (fun i:Nat=>abM (ju s) (.slice (some 1028) 1 ((kY Bd.lo (g.take i) (s.take i)).map fun n=>[i64 n])) (.slice (some 1033) 1 ((kY Bd.hi (g.take i) (s.take i)).map fun n=>[i64 n])) (jG g) g.length i i i G) (fun i=>i≤g.length) (fun i=>g.length-i) 0 rfl (by simp[kY]) (by omega) ?_
  rintro i hi;have e1:(kY Bd.lo (g.take i) (s.take i)).length=i:=by rw[xt (by simp;omega)];simp;omega
  have e2:(kY Bd.hi (g.take i) (s.take i)).length=i:=by rw[xt (by simp;omega)];simp;omega
  simp (disch:=omega) [-getElem?_pos,wrap64,R7,e1,e2];refine b9 (fun h6=>?_) (fun h6=>?_)
  ·have h6:i<g.length:=by omega
   have h7:i<s.length:=by omega
   have hr:=ahO (hv i h6) (hs i h6);simp (disch:=omega) [-getElem?_pos,wrap64,bo (l:=g),bo (l:=s),hr,e1,e2];refine cc (i+1) ?_ (by omega) (by omega)
   unfold kY;rw[vT h6 h7,vT h6 h7];simp
  ·obtain rfl:i=g.length:=by omega
   have t1:g.take g.length=g:=List.take_length;have t2:s.take g.length=s:=by rw[hl];exact List.take_length
   rw[t1,t2]at *;simp (disch:=omega) [-getElem?_pos,wrap64,e1,e2])
def oW(g:List Gt)(l:List Int)(lv:Int)(i:Nat):Int:=(List.zipWith (fun g o=>iN g o lv) (g.take i) (l.take i)).sum
theorem Hq{g:List Gt}{l:List Int}{lv:Int}:oW g l lv 0=0:=by simp[oW]
theorem Ek{g:List Gt}{l:List Int}{lv:Int}{i:Nat}(h1:i<g.length)(h2:i<l.length):oW g l lv (i+1)=oW g l lv i+iN (nth g i) (nth l i) lv:=by
 unfold oW;rw[vT h1 h2,List.sum_append];simp
theorem ahU{g:List Gt}{l:List Int}{lv:Int}(hl:g.length=l.length)(hv:∀i,i<g.length→Gv (nth g i)):∀i,i≤g.length→0≤oW g l lv i∧oW g l lv i≤1073741824*i:=by
 intro i;induction i with
 |zero=>intro _;rw[Hq];omega
 |succ i ih =>
  intro hi;rw[Ek (by omega) (by omega)]
  have:=ih (by omega)
  have:=rG (hv i (by omega)) (nth l i) lv
  omega
theorem El{g:List Gt}{l:List Int}(hl:g.length=l.length)(hn:g.length≤8)(hv:∀i,i<g.length→Gv (nth g i))(lv:Int)(G:List aW) :
  bt F 125 [jG g,ints l,i64 lv] G=some (i64 (oW g l lv g.length),G) :=
 cg rfl rfl (by
  generalize hW:oW g l lv g.length=W;simp (disch:=omega) [-getElem?_pos,wrap64,K6];refine go_loop (fun i:Nat=>abQ (ints l) lv (oW g l lv i) (jG g) g.length i G) (fun i=>i≤g.length) (fun i=>g.length-i) 0 rfl (by simp[Hq]) (by omega) ?_
  rintro i hi;simp (disch:=omega) [-getElem?_pos,wrap64,R8];refine b9 (fun h6=>?_) (fun h6=>?_)
  ·have h6:i<g.length:=by omega
   have h7:i<l.length:=by omega
   have hr:=ahN (hv i h6);have b1:=ahU (lv:=lv) hl hv i (by omega)
   have b2:=rG (hv i h6) (nth l i) lv;simp (disch:=omega) [-getElem?_pos,wrap64,bo (l:=g),eA h7,hr];exact cc (i+1) (by simp[Ek h6 h7]) (by omega) (by omega)
  ·obtain rfl:i=g.length:=by omega
   exact hW)
theorem ahV{f:Bd→Int}{g:List Gt}{s:List Gs}{lv:Int}(hl:g.length=s.length):∀i,i≤g.length→oW g (kY f g s) lv i=kX (fun g s=>iN g (f (ff g s)) lv) g s i:=by
 intro i;induction i with
 |zero=>intro _;rw[Hq,Ei]
 |succ i ih =>
  intro hi;rw[Ek (by omega) (by rw[xt hl];omega),zH (by omega) (by omega),ih (by omega),Ej (by omega) (by omega)]
theorem ahW{n:Int}(h1:0≤n)(h2:n≤18446744073709551615):IntKind.u64.wrap n=n:=by
 simp[IntKind.wrap,IntKind.bits,IntKind.signed];omega
def Up(f:FuncId)(cap:List V)(G:List aW)(N:Int)(p:Int→Bool):Prop:=∀m,0≤m→m<N→bt F f (i64 m::cap) G=some (.bool (p m),G)
theorem ahX{f:FuncId}{cap:List V}{G:List aW}{N:Int}{p:Int→Bool}(hN:0≤N)(hN2:N≤1000000)(h:Up f cap G N p) :
  ∃r,bt F 223 [i64 N,.fn f cap] G=some (i64 r,G)∧0≤r∧r≤N∧(0<r→p (r-1)=false)∧(r<N→p r=true):=by
 suffices hs:∀Q:V→List aW→Prop,(∀r,0≤r→r≤N→(0<r→p (r-1)=false)→(r<N→p r=true)→Q (i64 r) G)→jq (bt F) 223 [i64 N,.fn f cap] G Q by
  obtain⟨_,_,h,r,rfl,rfl,h1⟩:=hs (fun v G'=>∃r,v=i64 r∧G'=G∧0≤r∧r≤N∧(0<r→p (r-1)=false)∧(r<N→p r=true)) fun r a b c d=>⟨r,rfl,rfl,a,b,c,d⟩;exact⟨r,h,h1⟩
 intro Q hQ;refine jV rfl rfl ?_;simp (disch:=omega) [wrap64,L2];refine go_loop (fun s:Int×Int=>adP (.fn f cap) s.1 s.2 G) (fun s=>0≤s.1∧s.1≤s.2∧s.2≤N∧(0<s.1→p (s.1-1)=false)∧(s.2<N→p s.2=true)) (fun s=>(s.2-s.1).toNat) (0,N) rfl (by simp) ⟨by simp,by simpa using hN,by simp,by simp,by simp⟩ ?_
 rintro⟨a,b⟩ ⟨h1,h2,h3,h4,h5⟩;simp only at h1 h2 h3 h4 h5;simp (disch:=omega) [wrap64,Td];refine b9 (fun h6=>?_) (fun h6=>?_)
 ·have e1:IntKind.u64.wrap (a+b)=a+b:=ahW (by omega) (by omega)
  have e2:(a+b).fdiv 2=(a+b) / 2:=Int.fdiv_eq_ediv_of_nonneg _ (by omega)
  have hp:=h ((a+b) / 2) (by omega) (by omega)
  have e3:(2:Int) ^ (min 1 IntKind.u64.bits)=2:=rfl;simp (disch:=omega) [wrap64,e1,e2,e3,hp];cases hq:p ((a+b) / 2) with
  |false =>
   simp (disch:=omega) [wrap64,wrap64];refine cc ((a+b) / 2+1,b) (by simp) ⟨by simp;omega,by simp;omega,h3,fun _=>?_,h5⟩ (by simp;omega)
   simpa using hq
  |true =>
   simp (disch:=omega) [wrap64,wrap64];exact cc (a,(a+b) / 2) (by simp) ⟨h1,by simp;omega,by simp;omega,h4,fun _=>hq⟩ (by simp;omega)
 ·obtain rfl:a=b:=by omega
  exact hQ a (by omega) (by omega) h4 h5
def sO(p:Int→Bool):Nat→Int→Int
 |0,o=>o
 |n+1,o=>if p o then o else sO p n (o+1)
theorem MT{p:Int→Bool}:∀{n:Nat} {o x:Int},o≤x→x≤o+n→(∀m,o≤m→m<x→p m=false)→(x<o+n→p x=true)→sO p n o=x
 |0,o,x,h1,h2,_,_=>by simp[sO];omega
 |n+1,o,x,h1,h2,h3,h4=>by
  unfold sO;by_cases h:o=x
  ·subst h
   rw[if_pos (h4 (by omega))]
  ·rw[if_neg (by rw[h3 o (by omega) (by omega)];simp)]
   exact MT (by omega) (by omega) (fun m a b=>h3 m (by omega) b) (fun a=>h4 (by omega))
theorem ahY{f:FuncId}{cap:List V}{G:List aW}{i j:Nat}{lo hi m:Int}{b:Bool}(h1:G[i]?=some (.cells [.fn f cap]))(h2:G[j]?=some (.cells [i64 lo,i64 hi]))
  (hw:-1000000≤lo+m∧lo+m≤1000000) (h:bt F f (i64 (lo+m)::cap) G=some (.bool b,G)):bt F 224 [i64 m,.bO i 0,.bO j 0] G=some (.bool b,G) :=
 cg rfl rfl (by
  have e:IntKind.i64.wrap (lo+m)=lo+m:=wrap64 (by omega) (by omega)
  simp[wrap64,L3,h1,h2,h,e])
theorem ahZ{f:FuncId}{cap:List V}{G:List aW}{lo hi:Int}{p:Int→Bool}(hl:0≤lo∧lo≤hi∧hi≤1000)(hp:∀m m',p m=true→m≤m'→p m'=true)
  (h:∀E m,lo≤m→m≤hi→bt F f (i64 m::cap) (G++E)=some (.bool (p m),G++E)) :
  bt F 215 [.agg [i64 lo,i64 hi],.fn f cap] G=some (i64 (sO p (hi-lo).toNat lo),G++[.cells [i64 lo,i64 hi],.cells [.fn f cap]]):=by
 have hs:Up 224 [.bO (G.length+1) 0,.bO G.length 0] (G++[.cells [i64 lo,i64 hi],.cells [.fn f cap]]) (hi-lo+1) (fun m=>p (lo+m)):=fun m a b =>
  ahY Qq AU (by omega) (h _ _ (by omega) (by omega))
 obtain⟨r,h1,h2,h3,h4,h5⟩:=ahX (by omega) (by omega) hs
 have e:sO p (hi-lo).toNat lo=min (lo+r) hi:=by
  refine MT (by omega) (by omega) (fun m a b=>?_) (fun a=>?_)
  ·have h6:=h4 (by omega)
   cases hq:p m with
   |false=>rfl
   |true =>
    have:=hp m (lo+(r-1)) hq (by omega)
    rw[h6]at this;cases this
  ·have:=h5 (by omega)
   rw[show min (lo+r) hi=lo+r by omega]
   exact this
 rw[e];exact cg rfl rfl (by
  simp (disch:=omega) [wrap64,LY,h1,AU,Qq])
theorem ah0{G:List aW}{i j:Nat}{m w:Int}{c:List Pt}(h1:G[i]?=some (.cells [.fn 211 []]))(h2:G[j]?=some (.cells [im c,i64 w]))(hc:c=[]∨gd c=0) :
  bt F 216 [i64 m,.bO i 0,.bO j 0] G=some (.bool (decide (w≤qR c m)),G) :=
 cg rfl rfl (by
  simp[wrap64,LZ,h1,h2,ahM hc])
def oX(lv w:Int)(g:Gt)(s:Gs)(sum:Int):Int :=
 if sum<w then sO (fun o=>decide (w-(sum-gf lv g s)≤iN g o lv)) ((ff g s).hi-(ff g s).lo).toNat (ff g s).lo else (ff g s).lo
def bs(lv w:Int)(g:List Gt)(s:List Gs):Nat→List Int×Int
 |0=>(kY Bd.lo g s,kX (gf lv) g s g.length)
 |i+1=>((bs lv w g s i).1.set i (oX lv w (nth g i) (nth s i) (bs lv w g s i).2),(bs lv w g s i).2-gf lv (nth g i) (nth s i)+iN (nth g i) (oX lv w (nth g i) (nth s i) (bs lv w g s i).2) lv)
def BE(o:Int)(s:Gs):Gs:=⟨o,s.j⟩
def mb(l:List Int)(s:List Gs):List Gs:=List.zipWith BE l s
noncomputable def kz(g:List Gt)(s:List Gs)(lv w:Int):Int:=if aE g s lv≠0 then aE g s lv else if ¬(0≤w∧w≤1073741824) then 1 else 0
noncomputable def nI(g:List Gt)(s:List Gs)(lv w:Int):List Gs:=if kz g s lv w=0 then mb (bs lv w g s g.length).1 s else []
noncomputable def mX(g:List Gt)(s:List Gs)(lv w:Int):Int:=if kz g s lv w=0 then (bs lv w g s g.length).2 else 0
theorem nJ{lv w:Int}{g:List Gt}{s:List Gs}(hl:g.length=s.length):∀i,(bs lv w g s i).1.length=g.length
 |0=>xt hl
 |i+1=>by simp[bs,nJ hl i]
theorem zI{g:Gt}{s:Gs}(h:Gv g)(hs:mD g s):0≤(ff g s).lo∧(ff g s).lo≤(ff g s).hi∧(ff g s).hi≤g.dI:=by
 have h1:=h.dI;have h2:=h.move;have h3:=hs.1;have h4:=hs.2;unfold ff;split
 ·simp only;omega
 ·simp only;omega
theorem Uq{p:Int→Bool}:∀{n:Nat} {o:Int},o≤sO p n o∧sO p n o≤o+n
 |0,o=>by simp[sO]
 |n+1,o=>by
  unfold sO;have:=Uq (p:=p) (n:=n) (o:=o+1);split
  ·omega
  ·omega
theorem ah1{lv w:Int}{g:Gt}{s:Gs}(h:Gv g)(hs:mD g s)(sum:Int):(ff g s).lo≤oX lv w g s sum∧oX lv w g s sum≤(ff g s).hi:=by
 have:=zI h hs;unfold oX;split
 ·have:=Uq (p:=fun o=>decide (w-(sum-gf lv g s)≤iN g o lv)) (n:=((ff g s).hi-(ff g s).lo).toNat) (o:=(ff g s).lo)
  omega
 ·omega
theorem ah2{lv w:Int}{g:List Gt}{s:List Gs}(hl:g.length=s.length)(hs:vY g s)(hv:∀i,i<g.length→Gv (nth g i)):∀i,i≤g.length →
  kX (gf lv) g s g.length-kX (gf lv) g s i≤(bs lv w g s i).2∧(bs lv w g s i).2≤kX (gf lv) g s g.length-kX (gf lv) g s i+1073741824*i:=by
 intro i;induction i with
 |zero=>intro _;simp[bs,Ei]
 |succ i ih =>
  intro hi;have h1:=ih (by omega)
  have h2:=rG (hv i (by omega)) (oX lv w (nth g i) (nth s i) (bs lv w g s i).2) lv
  have h3:=rG (hv i (by omega)) (ff (nth g i) (nth s i)).lo lv
  rw[zH (by omega) (by omega)]
  simp only[bs,gf]at h1 ⊢;omega
theorem Ur{lv w:Int}{g:List Gt}{s:List Gs}(hl:g.length=s.length)(hn:g.length≤8)(hs:vY g s)(hv:∀i,i<g.length→Gv (nth g i)){i:Nat}(hi:i≤g.length) :
  0≤(bs lv w g s i).2∧(bs lv w g s i).2≤17179869184∧(i<g.length→gf lv (nth g i) (nth s i)≤(bs lv w g s i).2):=by
 have h1:=ah2 (lv:=lv) (w:=w) hl hs hv i hi;have r:=MR (f:=gf lv) hl (fun i hi=>rG (hv i hi) _ _);have r1:=r g.length (Nat.le_refl _);have r2:=r i hi;have mono:∀k,i≤k→k≤g.length→kX (gf lv) g s i≤kX (gf lv) g s k:=by
  intro k h;induction k with
  |zero=>intro _;obtain rfl:i=0:=by omega
         omega
  |succ k ih =>
   intro hk;rcases Nat.lt_or_ge k i with h3|h3
   ·obtain rfl:i=k+1:=by omega
    omega
   ·rw[zH (by omega) (by omega)]
    have:=ih h3 (by omega)
    have:=rG (hv k (by omega)) (ff (nth g k) (nth s k)).lo lv
    unfold gf;unfold gf at *;omega
 have m1:=mono g.length hi (Nat.le_refl _);refine⟨by omega,by omega,fun h=>?_⟩
 have m2:=mono (i+1) (by omega) (by omega)
 have m3:kX (gf lv) g s (i+1)≤kX (gf lv) g s g.length:=by
  have ah3:∀k,i+1≤k→k≤g.length→kX (gf lv) g s (i+1)≤kX (gf lv) g s k:=by
   intro k hk;induction k with
   |zero=>omega
   |succ k ih =>
    intro lC;rcases Nat.lt_or_ge k (i+1) with h3|h3
    ·obtain rfl:i=k:=by omega
     omega
    ·rw[zH (i:=k) (by omega) (by omega)]
     have:=ih h3 (by omega)
     have:=rG (hv k (by omega)) (ff (nth g k) (nth s k)).lo lv
     unfold gf;unfold gf at *;omega
  exact ah3 g.length (by omega) (Nat.le_refl _)
 rw[zH (by omega) (by omega)]at m3
 omega
theorem ah4(g:List Gt)(s:List Gs)(lv w:Int):∃G',bt F 204 [jG g,ju s,i64 lv,i64 w] []=some (.tuple [.slice (some 0) 2 ((nI g s lv w).map Gs.row),i64 (mX g s lv w),i64 (kz g s lv w)],G'):=by
 suffices h:∀Q:V→List aW→Prop,(∀G',Q (.tuple [.slice (some 0) 2 ((nI g s lv w).map Gs.row),i64 (mX g s lv w),i64 (kz g s lv w)]) G')→jq (bt F) 204 [jG g,ju s,i64 lv,i64 w] [] Q by
  obtain⟨_,G',h,rfl⟩:=h (fun v G'=>v=.tuple [.slice (some 0) 2 ((nI g s lv w).map Gs.row),i64 (mX g s lv w),i64 (kz g s lv w)]) fun _=>rfl;exact⟨G',h⟩
 intro Q hQ;refine jV rfl rfl ?_;by_cases he:aE g s lv=0
 ·obtain⟨h1,h2,h3,h4,h5⟩:=Eh he
  by_cases hw:0≤w∧w≤1073741824
  ·have hE:kz g s lv w=0:=by simp[kz,he,hw]
   simp only[nI,mX,hE,if_true]at hQ;have ru:(!decide (0≤w) || !decide (w≤1073741824))=false:=by simp;omega
   have tV:(decide (0≤w)&&decide (w≤1073741824))=true:=by simp;omega
   have e0:bs lv w g s 0=(kY Bd.lo g s,kX (gf lv) g s g.length):=rfl;simp (disch:=omega) [-getElem?_pos,wrap64,DT,MS,BD,he,dG,ru,tV];have hou:∀i,i≤g.length→(mb ((bs lv w g s i).1.take i) (s.take i)).length=i:=fun i hi=>by
    have:=nJ (lv:=lv) (w:=w) h2 i;simp[mb];omega
   refine go_loop (fun x:Nat×List aW=>adp (ju s) lv w (bs lv w g s x.1).2 (.bO 0 0) (.slice (some 1083) 2 ((mb ((bs lv w g s x.1).1.take x.1) (s.take x.1)).map Gs.row)) (jG g) g.length x.1 x.1 x.2)
    (fun x=>x.1≤g.length∧x.2[0]?=some (.cells [.fn 211 []])) (fun x=>g.length-x.1) (0,[.cells [.fn 211 []]]) rfl (by simp[bs,mb]) ⟨by simp,rfl⟩ ?_
   rintro⟨i,G⟩ ⟨hi,hG⟩;simp only at hi hG;have BF:=hou i hi;have MU:0<G.length:=by
    rcases Nat.eq_zero_or_pos G.length with h|h
    ·rw[List.getElem?_eq_none (by omega)]at hG;cases hG
    ·exact h
   simp (disch:=omega) [-getElem?_pos,wrap64,SY];refine b9 (fun h6=>?_) (fun h6=>?_)
   ·have h6:i<g.length:=by omega
    have h7:i<s.length:=by omega
    obtain⟨t,ht⟩:=Ul (h4 i h6) lv [];have hr:=Um (h4 i h6) (h3 i h6);have hk:=MQ (h4 i h6) lv;have hf:=MN hk;have hro:=zI (h4 i h6) (h3 i h6);have hm:=(h4 i h6).dI;obtain⟨b1,b2,b3⟩:=Ur (lv:=lv) (w:=w) h2 h1 h3 h4 (i:=i) hi;have b3:=b3 h6;have b4:=rG (h4 i h6) (ff (nth g i) (nth s i)).lo lv;have b5:=rG (h4 i h6) (oX lv w (nth g i) (nth s i) (bs lv w g s i).2) lv;have zJ:=nJ (lv:=lv) (w:=w) h2 i;have Ut:mb ((bs lv w g s (i+1)).1.take (i+1)) (s.take (i+1))=mb ((bs lv w g s i).1.take i) (s.take i)++[BE (oX lv w (nth g i) (nth s i) (bs lv w g s i).2) (nth s i)]:=by
     unfold mb;rw[vT (by rw[nJ h2];exact h6) h7]
     simp only[bs];rw[List.take_set_of_le (Nat.le_refl _)];congr 2;simp[nth,zJ,h6]
    by_cases tU:(bs lv w g s i).2<w
    ·have vh:oX lv w (nth g i) (nth s i) (bs lv w g s i).2=sO (fun o=>decide (w-((bs lv w g s i).2-gf lv (nth g i) (nth s i))≤iN (nth g i) o lv)) ((ff (nth g i) (nth s i)).hi-(ff (nth g i) (nth s i)).lo).toNat (ff (nth g i) (nth s i)).lo:=by
      unfold oX;rw[if_pos tU]
     have hL:=ahZ (f:=216) (cap:=[.bO 0 0,.bO G.length 0]) (G:=G++[.cells [im (qg (nth g i).r lv),i64 (w-((bs lv w g s i).2-gf lv (nth g i) (nth s i)))]]) (lo:=(ff (nth g i) (nth s i)).lo) (hi:=(ff (nth g i) (nth s i)).hi)
      (p:=fun o=>decide (w-((bs lv w g s i).2-gf lv (nth g i) (nth s i))≤iN (nth g i) o lv)) (by omega) (fun m m' hp xJ=>by
       have:=ahS (h4 i h6) (lv:=lv) xJ;simp only[decide_eq_true_eq]at hp ⊢;omega) (fun E m _ _=>ah0 (by rw[List.append_assoc,List.getElem?_append_left MU];exact hG) (by rw[List.append_assoc];exact AU) hk)
     rw[←vh]at hL;unfold gf iN at hL b3;unfold iN at b4 b5;simp (disch:=omega) [-getElem?_pos,wrap64,bo (l:=g),bo (l:=s),ht,hr,hf,AU,tU];simp (disch:=omega) [-getElem?_pos,wrap64,hL,AU,hf,bo (l:=s),BF];refine cc (i+1,G++[.cells [im (qg (nth g i).r lv),i64 (w-((bs lv w g s i).2-gf lv (nth g i) (nth s i)))],.cells [i64 (ff (nth g i) (nth s i)).lo,i64 (ff (nth g i) (nth s i)).hi],.cells [.fn 216 [.bO 0 0,.bO G.length 0]]])
      (by rw[Ut];simp[bs,gf,iN,BE,BF]) ⟨by simp;omega,by simp only;rw[List.getElem?_append_left MU];exact hG⟩ (by simp;omega)
    ·have vh:oX lv w (nth g i) (nth s i) (bs lv w g s i).2=(ff (nth g i) (nth s i)).lo:=by
      unfold oX;rw[if_neg tU]
     have hb:(bs lv w g s (i+1)).2=(bs lv w g s i).2:=by
      simp only[bs,gf,vh];omega
     simp (disch:=omega) [-getElem?_pos,wrap64,bo (l:=g),bo (l:=s),ht,hr,hf,AU,tU,BF];refine cc (i+1,G++[.cells [im (qg (nth g i).r lv),i64 0]])
      (by rw[Ut,hb,vh];simp[BE,BF]) ⟨by simp;omega,by simp only;rw[List.getElem?_append_left MU];exact hG⟩ (by simp;omega)
   ·obtain rfl:i=g.length:=by omega
    have t1:(bs lv w g s g.length).1.take g.length=(bs lv w g s g.length).1:=List.take_of_length_le (by rw[nJ h2];omega)
    have t2:s.take g.length=s:=List.take_of_length_le (by omega)
    rw[t1,t2]at BF ⊢;simp (disch:=omega) [-getElem?_pos,wrap64,BF];exact hQ _
  ·have tV:(decide (0≤w)&&decide (w≤1073741824))=false:=by simp;omega
   have hE:kz g s lv w=1:=by simp[kz,he];omega
   have uQ:¬ kz g s lv w=0:=by rw[hE];omega
   simp only[nI,mX,if_neg uQ]at hQ;rw[hE]at hQ;have ru:(!decide (0≤w) || !decide (w≤1073741824))=true:=by simp;omega
   simp (disch:=omega) [-getElem?_pos,wrap64,DT,MS,BD,he,dG,ru,tV];exact hQ _
 ·have hE:kz g s lv w=aE g s lv:=by simp[kz,he]
  have uQ:¬ kz g s lv w=0:=by rw[hE];exact he
  simp only[nI,mX,if_neg uQ]at hQ;rw[hE]at hQ;simp (disch:=omega) [-getElem?_pos,wrap64,DT,MS,BD,he];exact hQ _
end Go.Proofs.YtmpikpodpgnjhaaGreat
namespace Go.Proofs.YtmpikpodpgnjhaaGreat
set_option linter.all false
open Go.Vm
theorem Hr{l:List Int}{i:Nat}{o:Int}(h:i<l.length):nth (l.set i o) i=o:=by simp[nth,h]
theorem Uu{l:List Int}{i k:Nat}{o:Int}(h:i≠k):nth (l.set i o) k=nth l k:=by simp[nth,h]
theorem Ux{l:List Int}{i:Nat}(h:i<l.length):l.set i (nth l i)=l:=by
 apply List.ext_getElem?;intro k;by_cases hk:i=k
 ·subst hk
  rw[List.getElem?_set_self h,bo h]
 ·rw[List.getElem?_set_ne hk]
theorem ah7{g:List Gt}{l:List Int}{lv o:Int}{i:Nat}(hl:g.length=l.length)(hi:i<g.length):∀k,k≤g.length→oW g (l.set i o) lv k=oW g l lv k+(if i<k then iN (nth g i) o lv-iN (nth g i) (nth l i) lv else 0):=by
 intro k;induction k with
 |zero=>intro _;simp[Hq]
 |succ k ih =>
  intro hk;rw[Ek (by omega) (by simp;omega),Ek (by omega) (by omega),ih (by omega)]
  by_cases h1:i=k
  ·subst h1
   rw[Hr (by omega),if_neg (by omega),if_pos (by omega)]
   omega
  ·rw[Uu h1]
   by_cases h2:i<k
   ·rw[if_pos h2,if_pos (by omega)];omega
   ·rw[if_neg h2,if_neg (by omega)];omega
section
variable {g:List Gt} {s:List Gs} {lv w:Int}
theorem Hs(hl:g.length=s.length):∀{i k:Nat},i≤k→k<g.length→nth (bs lv w g s i).1 k=(ff (nth g k) (nth s k)).lo:=by
 intro i;induction i with
 |zero=>intro k _ hk;exact Ej hk (by omega)
 |succ i ih =>
  intro k h hk;simp only[bs];rw[Uu (by omega)]
  exact ih (by omega) hk
theorem MV(hl:g.length=s.length){i:Nat}(ht:oW g (bs lv w g s i).1 lv g.length=(bs lv w g s i).2)(hi:i<g.length)(o:Int) :
  oW g ((bs lv w g s i).1.set i o) lv g.length=(bs lv w g s i).2-gf lv (nth g i) (nth s i)+iN (nth g i) o lv:=by
 rw[ah7 (by rw[nJ hl]) hi _ (Nat.le_refl _),if_pos hi,ht,Hs hl (Nat.le_refl _) hi]
 unfold gf;omega
theorem Ht(hl:g.length=s.length):∀i,i≤g.length→oW g (bs lv w g s i).1 lv g.length=(bs lv w g s i).2:=by
 intro i;induction i with
 |zero=>intro _;exact ahV hl _ (Nat.le_refl _)
 |succ i ih =>
  intro hi;have:=MV hl (ih (by omega)) (by omega) (oX lv w (nth g i) (nth s i) (bs lv w g s i).2)
  simpa only[bs] using this
theorem ah8(hl:g.length=s.length){j:Nat}(hw:w≤(bs lv w g s j).2):∀k,j≤k→k≤g.length→bs lv w g s k=bs lv w g s j:=by
 intro k hjk;induction k with
 |zero=>intro _;obtain rfl:j=0:=by omega
        rfl
 |succ k ih =>
  intro hk;rcases Nat.lt_or_ge k j with h|h
  ·obtain rfl:j=k+1:=by omega
   rfl
  ·have h1:=ih h (by omega)
   have ho:oX lv w (nth g k) (nth s k) (bs lv w g s k).2=(ff (nth g k) (nth s k)).lo:=by
    unfold oX;rw[if_neg (by rw[h1];omega)]
   have h2:bs lv w g s (k+1)=bs lv w g s k:=by
    have e1:(bs lv w g s k).1.set k (ff (nth g k) (nth s k)).lo=(bs lv w g s k).1:=by
     rw[←Hs (lv:=lv) (w:=w) hl (Nat.le_refl k) (by omega)]
     exact Ux (by rw[nJ hl];omega)
    simp only[bs,ho,gf,e1];rw[show(bs lv w g s k).2-iN (nth g k) (ff (nth g k) (nth s k)).lo lv+iN (nth g k) (ff (nth g k) (nth s k)).lo lv=(bs lv w g s k).2 by omega]
   rw[h2,h1]
structure Way(lv w:Int)(g:List Gt)(s:List Gs)(i:Nat)(o:Int):Prop where
 lt:i<g.length
 lo:(ff (nth g i) (nth s i)).lo≤o
 hi:o≤(ff (nth g i) (nth s i)).hi
 no:∀p,(ff (nth g i) (nth s i)).lo≤p→p<o→(bs lv w g s i).2-gf lv (nth g i) (nth s i)+iN (nth g i) p lv<w
theorem Way.done{i:Nat}{o:Int}(h:Way lv w g s i o)(hv:Gv (nth g i))(hs:mD (nth g i) (nth s i))(hd:o=(ff (nth g i) (nth s i)).hi∨w≤(bs lv w g s i).2-gf lv (nth g i) (nth s i)+iN (nth g i) o lv) :
  oX lv w (nth g i) (nth s i) (bs lv w g s i).2=o:=by
 have h1:=h.lo;have h2:=h.hi;unfold oX;split
 ·refine MT h1 (by omega) (fun p a b=>?_) (fun a=>?_)
  ·have:=h.no p a b
   exact decide_eq_false (by omega)
  ·rcases hd with hd|hd
   ·omega
   ·exact decide_eq_true (by omega)
 ·rename_i hn
  by_cases he:(ff (nth g i) (nth s i)).lo=o
  ·exact he
  ·have:=h.no _ (Int.le_refl _) (by omega)
   unfold gf at this;omega
theorem Uy(hl:g.length=s.length){i:Nat}(hi:i<g.length)(hv:Gv (nth g i))(hs:mD (nth g i) (nth s i)):Way lv w g s i (ff (nth g i) (nth s i)).lo :=
 ⟨hi,Int.le_refl _,(zI hv hs).2.1,fun p a b=>by omega⟩
theorem Uz(hl:g.length=s.length){i:Nat}(hi:i<g.length):(bs lv w g s i).1.set i (ff (nth g i) (nth s i)).lo=(bs lv w g s i).1:=by
 rw[←Hs (lv:=lv) (w:=w) hl (Nat.le_refl i) hi];exact Ux (by rw[nJ hl];exact hi)
end
end Go.Proofs.YtmpikpodpgnjhaaGreat
namespace Go.Proofs.YtmpikpodpgnjhaaGreat
set_option linter.all false
open Go.Vm
attribute [local simp] eU eV eS eT
theorem UA{l:List Int}{i:Nat}(h:l.length≤i):nth l i=0:=by
 simp only[nth,List.getD,List.getElem?_eq_none h];rfl
theorem ah9(g:List Gt)(s:List Gs)(lv w:Int)(G:List aW):bt F 61 [jG g,ju s,i64 lv,i64 w] G=some (.tuple [.slice (some 0) 2 ((nI g s lv w).map Gs.row),i64 (mX g s lv w),i64 (kz g s lv w)],G) :=
 cg rfl rfl (by
  generalize hW:V.tuple [.slice (some 0) 2 ((nI g s lv w).map Gs.row),i64 (mX g s lv w),i64 (kz g s lv w)]=W;by_cases he:aE g s lv=0
  ·obtain⟨h1,h2,h3,h4,h5⟩:=Eh he
   by_cases hw:0≤w∧w≤1073741824
   ·have hE:kz g s lv w=0:=by simp[kz,he,hw]
    simp only[nI,mX,hE,if_true]at hW;have ru:(!decide (0≤w) || !decide (w≤1073741824))=false:=by simp;omega
    have tV:(decide (0≤w)&&decide (w≤1073741824))=true:=by simp;omega
    have uQ:=ahT h2 h1 h3 h4;by_cases hg:g=[]
    ·subst hg
     have hs0:s=[]:=by simpa using h2.symm
     subst hs0;have hE3:bt F 124 [.slice none 3 [],.slice none 2 []] []=some (.tuple [.slice (some 0) 1 [],.slice (some 0) 1 []],[]):=uQ [];have hT3:bt F 125 [.slice none 3 [],.slice none 1 [],i64 lv] []=some (i64 0,[]):=El (g:=[]) (l:=[]) rfl (by simp) (by simp) lv []
     have e2:jN 20031 0 (.tuple [.slice (some 0) 1 [],.slice (some 0) 1 []])=some (.tuple [.dW 1,.slice none 1 []],none):=rfl;have he0:bt F 123 [.slice none 3 [],.slice none 2 [],i64 lv] []=some (i64 0,[]):=by
      have:=Ho [] [] lv [];rw[he]at this;exact this
     simp (disch:=omega) [-getElem?_pos,wrap64,A8,he0,c5,ru,tV,hE3,e2,RA,Gd,RB,Ge,yH,hT3];simpa [mb,bs,kX] using hW
    ·have cF:kY Bd.lo g s≠[]:=fun e=>hg (by have:=xt (f:=Bd.lo) h2;rw[e]at this;exact List.length_eq_zero_iff.1 this.symm)
     have e2:=ZU (id:=20031) (t:=0) (u:=0) (m:=kY Bd.hi g s) cF;have km:=xt (f:=Bd.lo) h2;simp (disch:=omega) [-getElem?_pos,wrap64,A8,Ho,he,c5,ru,tV,uQ,e2,km];have hH:0<g.length:=List.length_pos_iff.2 hg;refine go_loop (fun x:Nat×List Int=>aaS (jG g) (ju s) lv w g.length (ints (kY Bd.hi g s)) x.1 (dS x.2) G)
      (fun x=>(∃o,Way lv w g s x.1 o∧x.2=(bs lv w g s x.1).1.set x.1 o)∨(x.1=g.length∧x.2=(bs lv w g s g.length).1)) (fun x=>(g.length-x.1)*2000+(nth (kY Bd.hi g s) x.1-nth x.2 x.1).toNat) (0,kY Bd.lo g s) rfl (by simp) (.inl ⟨_,Uy h2 hH (h4 0 hH) (h3 0 hH),by rw[Uz h2 hH];rfl⟩) ?_
     rintro⟨i,l⟩ hinv;simp only at hinv;have hlen:l.length=g.length:=by
      rcases hinv with⟨o,_,rfl⟩ | ⟨_,rfl⟩
      ·rw[List.length_set,nJ h2]
      ·rw[nJ h2]
     have hT:=El hlen.symm h1 h4 lv;rcases hinv with⟨o,hway,hl⟩ | ⟨rfl,rfl⟩
     ·have hi:=hway.lt
      have UB:oW g l lv g.length=(bs lv w g s i).2-gf lv (nth g i) (nth s i)+iN (nth g i) o lv:=by
       rw[hl];exact MV h2 (Ht h2 i (by omega)) hi o
      rw[UB]at hT;generalize UC:(bs lv w g s i).2-gf lv (nth g i) (nth s i)+iN (nth g i) o lv=T at *;have bG:i<l.length:=by omega
      simp (disch:=omega) [-getElem?_pos,wrap64,Gd,hi,hT,hlen];have Hu:i<(kY Bd.hi g s).length:=by rw[xt h2];exact hi
      have Hv:nth l i=o:=by rw[hl];exact Hr (by rw[nJ h2];exact hi)
      have BG:nth (kY Bd.hi g s) i=(ff (nth g i) (nth s i)).hi:=Ej hi (by omega)
      refine b9 (fun h6=>?_) (fun h6=>?_)
      ·simp (disch:=omega) [-getElem?_pos,wrap64,kT bG,eA Hu,Hv,BG]
       refine b9 (fun h7=>?_) (fun h7=>?_)
       ·have hd:=hway.done (h4 i hi) (h3 i hi) (.inl h7)
        have hn:(bs lv w g s (i+1)).1=l:=by simp only[bs,hd,hl]
        refine cc (i+1,l) (by simp) ?_ ?_
        ·by_cases qK:i+1<g.length
         ·refine .inl ⟨_,Uy h2 qK (h4 _ qK) (h3 _ qK),?_⟩
          simp only;rw[Uz h2 qK,hn]
         ·exact .inr ⟨by simp only;omega,by simp only;rw[←hn,show g.length=i+1 by omega]⟩
        ·have oF:nth (kY Bd.hi g s) (i+1)-nth l (i+1)≤1000:=by
          by_cases qK:i+1<g.length
          ·rw[Ej qK (by omega),← hn,Hs h2 (Nat.le_refl _) qK]
           have:=zI (h4 _ qK) (h3 _ qK);have:=(h4 _ qK).dI;omega
          ·have e1:nth (kY Bd.hi g s) (i+1)=0:=UA (by rw[xt h2];omega)
           have e2:nth l (i+1)=0:=UA (by omega)
           omega
         simp only;omega
       ·have nj:=hway.lo
        have ux:=hway.hi;have hro:=zI (h4 i hi) (h3 i hi);have hmo:=(h4 i hi).dI;refine go_loop (fun l:List Int=>aaR (jG g) (ju s) lv w g.length (ints (kY Bd.hi g s)) i (dS l) G)
         (fun m=>∃o',Way lv w g s i o'∧o≤o'∧m=(bs lv w g s i).1.set i o') (fun m=>(nth (kY Bd.hi g s) i-nth m i).toNat) l rfl (by simp[hlen]) ⟨o,hway,Int.le_refl _,hl⟩ ?_
        rintro m ⟨o',hway',wY,rfl⟩;have apn:=hway'.lo;have apo:=hway'.hi;have Em:((bs lv w g s i).1.set i o').length=g.length:=by rw[List.length_set,nJ h2]
        have tQ:i<((bs lv w g s i).1.set i o').length:=by omega
        have BH:nth ((bs lv w g s i).1.set i o') i=o':=Hr (by rw[nJ h2];exact hi)
        have En:=El Em.symm h1 h4 lv;rw[MV h2 (Ht h2 i (by omega)) hi o']at En
        have EO:∀z,((bs lv w g s i).1.set i o').set i z=(bs lv w g s i).1.set i z:=fun z=>by simp
        generalize hm:(bs lv w g s i).1.set i o'=m at Em tQ BH En EO ⊢;by_cases h8:o'<(ff (nth g i) (nth s i)).hi
        ·by_cases h9:(bs lv w g s i).2-gf lv (nth g i) (nth s i)+iN (nth g i) o' lv<w
         ·simp (disch:=omega) [-getElem?_pos,wrap64,Gb,kT tQ,eA Hu,BH,BG,h8,En,Em,h9]
          refine cc (m.set i (o'+1)) (by simp) ⟨o'+1,⟨hi,by omega,by omega,fun p a b=>?_⟩,by omega,EO _⟩ ?_
          ·by_cases hp:p=o'
           ·rw[hp];exact h9
           ·exact hway'.no p a (by omega)
          ·rw[Hr tQ];omega
         ·simp (disch:=omega) [-getElem?_pos,wrap64,Gb,kT tQ,eA Hu,BH,BG,h8,En,Em,h9]
          refine cc (i,m) (by simp) (.inl ⟨o',hway',hm.symm⟩) ?_
          have:o≠o':=fun e=>by rw[←e,UC]at h9;exact h9 h6
          simp only[BH,Hv,BG];omega
        ·simp (disch:=omega) [-getElem?_pos,wrap64,Gb,kT tQ,eA Hu,BH,BG,h8,En,Em]
         refine cc (i,m) (by simp) (.inl ⟨o',hway',hm.symm⟩) ?_
         simp only[BH,Hv,BG];omega
      ·have hd:=hway.done (h4 i hi) (h3 i hi) (.inr (by omega))
       have hs2:(bs lv w g s (i+1)).2=T:=by rw[←UC];simp only[bs,hd]
       have hn:l=(bs lv w g s g.length).1:=by
        rw[ah8 h2 (j:=i+1) (by omega) g.length (by omega) (Nat.le_refl _),hl]
        simp only[bs,hd]
       clear hT UB bG Hv
       subst hn;refine go_loop (fun k:Nat=>RC (jG g) lv g.length (.slice (some 1096) 2 ((mb ((bs lv w g s g.length).1.take k) (s.take k)).map Gs.row)) (ju s) s.length k (dS (bs lv w g s g.length).1) k G) (fun k=>k≤s.length) (fun k=>s.length-k) 0 rfl (by simp[mb]) (by omega) ?_
       rintro k hk;have bz:(mb ((bs lv w g s g.length).1.take k) (s.take k)).length=k:=by
        have:=nJ (lv:=lv) (w:=w) h2 g.length;simp[mb];omega
       have zJ:=nJ (lv:=lv) (w:=w) h2 g.length;have Eo:=El zJ.symm h1 h4 lv;rw[Ht h2 g.length (Nat.le_refl _)]at Eo;simp (disch:=omega) [-getElem?_pos,wrap64,Ge,bz];refine b9 (fun h6=>?_) (fun h6=>?_)
       ·have h6:k<s.length:=by omega
        have h7:k<(bs lv w g s g.length).1.length:=by omega
        simp (disch:=omega) [-getElem?_pos,wrap64,bo (l:=s),kT h7,bz];refine cc (k+1) ?_ (by omega) (by omega)
        unfold mb;rw[vT h7 h6];simp[BE]
       ·obtain rfl:k=s.length:=by omega
        have t1:(bs lv w g s g.length).1.take s.length=(bs lv w g s g.length).1:=List.take_of_length_le (by omega)
        rw[t1,List.take_length]at bz ⊢;simp (disch:=omega) [-getElem?_pos,wrap64,bz,zJ,Eo];exact hW
     ·have hi:¬ g.length<g.length:=Nat.lt_irrefl _
      simp (disch:=omega) [-getElem?_pos,wrap64,Gd,hlen];refine go_loop (fun k:Nat=>RC (jG g) lv g.length (.slice (some 1096) 2 ((mb ((bs lv w g s g.length).1.take k) (s.take k)).map Gs.row)) (ju s) s.length k (dS (bs lv w g s g.length).1) k G) (fun k=>k≤s.length) (fun k=>s.length-k) 0 rfl (by simp[mb]) (by omega) ?_
      rintro k hk;have bz:(mb ((bs lv w g s g.length).1.take k) (s.take k)).length=k:=by
       have:=nJ (lv:=lv) (w:=w) h2 g.length;simp[mb];omega
      have zJ:=nJ (lv:=lv) (w:=w) h2 g.length;have Eo:=El zJ.symm h1 h4 lv;rw[Ht h2 g.length (Nat.le_refl _)]at Eo;simp (disch:=omega) [-getElem?_pos,wrap64,Ge,bz];refine b9 (fun h6=>?_) (fun h6=>?_)
      ·have h6:k<s.length:=by omega
       have h7:k<(bs lv w g s g.length).1.length:=by omega
       simp (disch:=omega) [-getElem?_pos,wrap64,bo (l:=s),kT h7,bz];refine cc (k+1) ?_ (by omega) (by omega)
       unfold mb;rw[vT h7 h6];simp[BE]
      ·obtain rfl:k=s.length:=by omega
       have t1:(bs lv w g s g.length).1.take s.length=(bs lv w g s g.length).1:=List.take_of_length_le (by omega)
       rw[t1,List.take_length]at bz ⊢;simp (disch:=omega) [-getElem?_pos,wrap64,bz,zJ,Eo];exact hW
   ·have tV:(decide (0≤w)&&decide (w≤1073741824))=false:=by simp;omega
    have hE:kz g s lv w=1:=by simp[kz,he];omega
    have uQ:¬ kz g s lv w=0:=by rw[hE];omega
    simp only[nI,mX,if_neg uQ]at hW;rw[hE]at hW;have ru:(!decide (0≤w) || !decide (w≤1073741824))=true:=by simp;omega
    simp (disch:=omega) [-getElem?_pos,wrap64,A8,Ho,he,c5,ru,tV];exact hW
  ·have hE:kz g s lv w=aE g s lv:=by simp[kz,he]
   have uQ:¬ kz g s lv w=0:=by rw[hE];exact he
   simp only[nI,mX,if_neg uQ]at hW;rw[hE]at hW;simp (disch:=omega) [-getElem?_pos,wrap64,A8,Ho,he];exact hW)
structure Dm where
 r:Rs
 u:List Un
 g:List Gt
 gr:Int
abbrev Dm.row(d:Dm):List V:=[im d.r.c,i64 d.r.d,i64 d.r.l,i64 d.r.f,i64 d.r.s,i64 d.r.t,jX d.u,jG d.g,i64 d.gr]
abbrev dm(d:Dm):V:=.agg d.row
structure Ds where
 v:Int
 rel:Int
 u:List Us
 g:List Gs
 deriving Inhabited
abbrev Ds.row(s:Ds):List V:=[i64 s.v,i64 s.rel,jD s.u,ju s.g]
abbrev dst(s:Ds):V:=.agg s.row
def uE(u:List Un):Int:=ed (fun i=>gV (nth u i)) u.length 0
def gE(g:List Gt):Int:=ed (fun i=>j0 (nth g i)) g.length 0
def fB(d:Dm):Int :=
 if ib d.r≠0 then ib d.r else if 6<d.u.length∨8<d.g.length then 10 else if uE d.u≠0 then uE d.u else if gE d.g≠0 then gE d.g
 else if d.gr<1∨1073741824<d.gr then 1 else 0
theorem zK(d:Dm)(G:List aW):bt F 68 [dm d] G=some (i64 (fB d),G) :=
 cg rfl rfl (by
  obtain⟨r,u,g,gr⟩:=d;generalize hW:fB ⟨r,u,g,gr⟩=W;unfold fB at hW;simp only at hW;have hS:=fun G=>TY r G;have vZ:=fun G=>xl r G;by_cases h1:ib r=0
  ·rw[if_neg (by omega)]at hW
   by_cases h2:6<u.length
   ·rw[if_pos (.inl h2)]at hW
    have lM:(6:Int)<u.length:=by omega
    simp (disch:=omega) [-getElem?_pos,wrap64,A9,hS,vZ,h1,lM];exact hW
   by_cases h3:8<g.length
   ·rw[if_pos (.inr h3)]at hW
    have lM:¬ (6:Int)<u.length:=by omega
    have jw:(8:Int)<g.length:=by omega
    simp (disch:=omega) [-getElem?_pos,wrap64,A9,hS,vZ,h1,lM,jw];exact hW
   rw[if_neg (by omega)]at hW
   have lM:¬ (6:Int)<u.length:=by omega
   have jw:¬ (8:Int)<g.length:=by omega
   simp (disch:=omega) [-getElem?_pos,wrap64,A9,hS,vZ,h1,lM,jw];refine go_loop (fun i:Nat=>aa3 (jX u) u.length i (Dm.row ⟨r,u,g,gr⟩) G) (fun i=>i≤u.length∧ed (fun i=>gV (nth u i)) (u.length-i) i=uE u) (fun i=>u.length-i) 0 rfl (by simp) ⟨by omega,rfl⟩ ?_
   rintro i ⟨hi,hq⟩;simp (disch:=omega) [-getElem?_pos,wrap64,RG];refine b9 (fun h4=>?_) (fun h4=>?_)
   ·have h4:i<u.length:=by omega
    rw[l7 h4]at hq;by_cases h5:gV (nth u i)=0
    ·rw[if_pos h5]at hq
     simp (disch:=omega) [-getElem?_pos,wrap64,bo (l:=u),qH,mA,h5];exact cc (i+1) (by simp) ⟨by omega,hq⟩ (by omega)
    ·rw[if_neg h5]at hq
     rw[←hq,if_pos h5]at hW;simp (disch:=omega) [-getElem?_pos,wrap64,bo (l:=u),qH,mA,h5];exact hW
   ·obtain rfl:i=u.length:=by omega
    rw[mR]at hq;rw[←hq,if_neg (by omega)]at hW
    refine go_loop (fun i:Nat=>aa5 (jG g) g.length i (Dm.row ⟨r,u,g,gr⟩) G) (fun i=>i≤g.length∧ed (fun i=>j0 (nth g i)) (g.length-i) i=gE g) (fun i=>g.length-i) 0 rfl (by simp) ⟨by omega,rfl⟩ ?_
    rintro i ⟨hi,hq⟩;simp (disch:=omega) [-getElem?_pos,wrap64,RH];refine b9 (fun h4=>?_) (fun h4=>?_)
    ·have h4:i<g.length:=by omega
     rw[l7 h4]at hq;by_cases h5:j0 (nth g i)=0
     ·rw[if_pos h5]at hq
      simp (disch:=omega) [-getElem?_pos,wrap64,bo (l:=g),xo,xp,h5];exact cc (i+1) (by simp) ⟨by omega,hq⟩ (by omega)
     ·rw[if_neg h5]at hq
      rw[←hq,if_pos h5]at hW;simp (disch:=omega) [-getElem?_pos,wrap64,bo (l:=g),xo,xp,h5];exact hW
    ·obtain rfl:i=g.length:=by omega
     rw[mR]at hq;rw[←hq,if_neg (by omega)]at hW
     by_cases h6:gr<1
     ·rw[if_pos (.inl h6)]at hW
      simp (disch:=omega) [-getElem?_pos,wrap64,h6];exact hW
     ·by_cases h7:1073741824<gr
      ·rw[if_pos (.inr h7)]at hW
       simp (disch:=omega) [-getElem?_pos,wrap64,h6,h7];exact hW
      ·rw[if_neg (by omega)]at hW
       simp (disch:=omega) [-getElem?_pos,wrap64,h6,h7];exact hW
  ·rw[if_pos h1]at hW
   simp (disch:=omega) [-getElem?_pos,wrap64,A9,hS,vZ,h1];exact hW)
theorem zL(d:Dm)(G:List aW):bt F 69 [dm d] G=some (i64 (fB d),G) :=
 cg rfl rfl (by
  obtain⟨r,u,g,gr⟩:=d;generalize hW:fB ⟨r,u,g,gr⟩=W;unfold fB at hW;simp only at hW;have hS:=fun G=>TY r G;have vZ:=fun G=>xl r G;by_cases h1:ib r=0
  ·rw[if_neg (by omega)]at hW
   by_cases h2:6<u.length
   ·rw[if_pos (.inl h2)]at hW
    have lM:(6:Int)<u.length:=by omega
    simp (disch:=omega) [-getElem?_pos,wrap64,Ba,hS,vZ,h1,lM];exact hW
   by_cases h3:8<g.length
   ·rw[if_pos (.inr h3)]at hW
    have lM:¬ (6:Int)<u.length:=by omega
    have jw:(8:Int)<g.length:=by omega
    simp (disch:=omega) [-getElem?_pos,wrap64,Ba,hS,vZ,h1,lM,jw];exact hW
   rw[if_neg (by omega)]at hW
   have lM:¬ (6:Int)<u.length:=by omega
   have jw:¬ (8:Int)<g.length:=by omega
   simp (disch:=omega) [-getElem?_pos,wrap64,Ba,hS,vZ,h1,lM,jw];refine go_loop (fun i:Nat=>aa7 (jX u) u.length i (Dm.row ⟨r,u,g,gr⟩) G) (fun i=>i≤u.length∧ed (fun i=>gV (nth u i)) (u.length-i) i=uE u) (fun i=>u.length-i) 0 rfl (by simp) ⟨by omega,rfl⟩ ?_
   rintro i ⟨hi,hq⟩;simp (disch:=omega) [-getElem?_pos,wrap64,RI];refine b9 (fun h4=>?_) (fun h4=>?_)
   ·have h4:i<u.length:=by omega
    rw[l7 h4]at hq;by_cases h5:gV (nth u i)=0
    ·rw[if_pos h5]at hq
     simp (disch:=omega) [-getElem?_pos,wrap64,bo (l:=u),qH,mA,h5];exact cc (i+1) (by simp) ⟨by omega,hq⟩ (by omega)
    ·rw[if_neg h5]at hq
     rw[←hq,if_pos h5]at hW;simp (disch:=omega) [-getElem?_pos,wrap64,bo (l:=u),qH,mA,h5];exact hW
   ·obtain rfl:i=u.length:=by omega
    rw[mR]at hq;rw[←hq,if_neg (by omega)]at hW
    refine go_loop (fun i:Nat=>aa9 (jG g) g.length i (Dm.row ⟨r,u,g,gr⟩) G) (fun i=>i≤g.length∧ed (fun i=>j0 (nth g i)) (g.length-i) i=gE g) (fun i=>g.length-i) 0 rfl (by simp) ⟨by omega,rfl⟩ ?_
    rintro i ⟨hi,hq⟩;simp (disch:=omega) [-getElem?_pos,wrap64,RJ];refine b9 (fun h4=>?_) (fun h4=>?_)
    ·have h4:i<g.length:=by omega
     rw[l7 h4]at hq;by_cases h5:j0 (nth g i)=0
     ·rw[if_pos h5]at hq
      simp (disch:=omega) [-getElem?_pos,wrap64,bo (l:=g),xo,xp,h5];exact cc (i+1) (by simp) ⟨by omega,hq⟩ (by omega)
     ·rw[if_neg h5]at hq
      rw[←hq,if_pos h5]at hW;simp (disch:=omega) [-getElem?_pos,wrap64,bo (l:=g),xo,xp,h5];exact hW
    ·obtain rfl:i=g.length:=by omega
     rw[mR]at hq;rw[←hq,if_neg (by omega)]at hW
     by_cases h6:gr<1
     ·rw[if_pos (.inl h6)]at hW
      simp (disch:=omega) [-getElem?_pos,wrap64,h6];exact hW
     ·by_cases h7:1073741824<gr
      ·rw[if_pos (.inr h7)]at hW
       simp (disch:=omega) [-getElem?_pos,wrap64,h6,h7];exact hW
      ·rw[if_neg (by omega)]at hW
       simp (disch:=omega) [-getElem?_pos,wrap64,h6,h7];exact hW
  ·rw[if_pos h1]at hW
   simp (disch:=omega) [-getElem?_pos,wrap64,Ba,hS,vZ,h1];exact hW)
end Go.Proofs.YtmpikpodpgnjhaaGreat
