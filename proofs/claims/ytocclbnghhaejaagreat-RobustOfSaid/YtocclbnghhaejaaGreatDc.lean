/- Parts of the proof, joined: Ref3, Rng1, Gat2, Gat3, Gat4, Gat5, Gat6, Gat7, Dam1. -/
import Derived.Test.YtocclbnghhaejaaGreatDb
import Derived.Test.YtocclbnghhaejaaGreatDa
namespace Go.Proofs.YtocclbnghhaejaaGreat
set_option linter.all false
open Go.Vm
attribute [local simp] lQ lR kP lP
abbrev Gn(R:List (List Int)):V:=.slice none 1 (R.map fun o=>[ints o])
def rb(best:Option (List Int)):V:=match best with
 |none=>.bV
 |some F=>ints F
noncomputable def rv(us:List Un)(ss:List Us)(best:Option (List Int)):List V:=match best with
 |none=>[i64 0,i64 0]
 |some F=>[i64 (iG us F),i64 (iH ss F)]
def iI(a:List Nat):List V:=dM (a.map fun d:Nat=>(d:Int))
def ob(o:Option (List V)):List (Nat×List V):=match o with
 |none=>[]
 |some c=>[(56,c)]
@[simp] theorem Pe{best:Option (List Int)}{d:Nat}:(rb best).cj d=false:=by cases best<;>rfl
@[simp] theorem avw{us:List Un}{ss:List Us}{best:Option (List Int)}{d:Nat}:((rv us ss best).all fun v => !v.cD d)=true:=by cases best<;>rfl
@[simp] theorem avx{a:List Nat}{d:Nat}:((iI a).all fun v => !v.cD d)=true:=afi
@[simp] theorem avy{o:Option (List V)}:vi 56 (ob o)=[]:=by cases o<;>rfl
@[simp] theorem avz:ob none=[]:=rfl
@[simp] theorem avA{c:List V}:ob (some c)=[(56,c)]:=rfl
@[simp] theorem avB{o:Option (List V)}:kp (Go.Vm.look 56 (ob o)) 56 []=ob o:=by cases o<;>rfl
theorem DK{a:List Nat}{i:Nat}(h:i<a.length):(iI a)[i]?=some (i64 ((nth a i:Nat):Int)):=by
 have:=lx (l:=a.map fun d:Nat=>(d:Int)) (i:=i) (by simpa using h)
 rw[wF h]at this;exact this
@[simp] theorem avC{a:List Nat}:(iI a).length=a.length:=by simp[iI]
theorem Gp{a:List Nat}{i d:Nat}:(iI a).set i (i64 (d:Int))=iI (a.set i d):=by
 simp[iI,List.map_set]
theorem amj{α:Type}[Inhabited α]{l m:List α}{i:Nat}(h:l.length≤i):nth (l++m) i=nth m (i-l.length):=by
 simp[nth,List.getElem?_append_right h]
theorem Ab{α:Type}[Inhabited α]{l:List α}{i k:Nat}(h:i<k):nth (l.take k) i=nth l i:=by
 simp[nth,List.getElem?_take,h]
theorem amk{n i:Nat}:nth (List.replicate n (0:Int)) i=0:=by
 simp only[nth,List.getD,List.getElem?_replicate];split<;>rfl
theorem Zw{l:List Int}{B:Int}(h:∀x∈l,0≤x∧x≤B):∀j:Nat,j≤l.length→0≤(l.take j).sum∧(l.take j).sum≤B*j
 |0,_=>by simp
 |j+1,hj=>by
  have ih:=Zw h j (by omega)
  have:=h _ (oK (show j<l.length from hj));rw[jI hj];simp only[List.sum_append,List.sum_cons,List.sum_nil];have e:B*((j+1:Nat):Int)=B*j+B:=by
   rw[show((j+1:Nat):Int)=(j:Int)+1 from rfl,Int.mul_add,Int.mul_one]
  omega
theorem Zx{R:List (List Int)}{a:List Nat}(h:a.length=R.length):(ea R a).length=R.length:=by simp[ea,h]
theorem aml{R:List (List Int)}{a:List Nat}{us:List Un}{ss:List Us}{release:Int}{fd:Bool}{best:Option (List Int)}{G:List aP}{K:cz}(hn:R.length≤6)(ha:Vd (R.map List.length) a)
  (hb:∀o∈R,∀q∈o,0≤q∧q≤1073741824)
  (hK:∀z,K (.exit 2) ⟨[(0,ke us),(1,jT ss),(3,i64 release),(11,Gn R),(13,.bool fd),(14,rb best),(15,.bf 15 0),(16,.bQ 53 1 R.length),(17,.bQ 56 1 R.length),(18,i64 (ea R a).sum),(57,.bQ 53 1 R.length),(58,i64 R.length),(59,i64 R.length),(60,z)],
   [(15,rv us ss best),(53,iI a),(56,dM (ea R a))],[],G⟩) :
  go (aX F) Xf (Xg (ke us) (jT ss) release (Gn R) fd (rb best) R.length R.length 0 R.length R.length 0 (rv us ss best) (iI a) (dM (List.replicate R.length 0)) G) K:=by
 have qG:=DI ha;simp only[List.length_map]at qG;have lM:=Zx qG;have Zy:∀x∈ea R a,0≤x∧x≤1073741824:=by
  intro x hx;obtain⟨i,hi,rfl⟩:=DF hx;rw[lM]at hi;have h1:nth (ea R a) i=nth (nth R i) (nth a i):=DG hi (by omega)
  have h2:=yd ha i (by simpa using hi)
  rw[wF hi]at h2;rw[h1];exact hb _ (oK hi) _ (oK h2)
 refine go_loop (fun j:Nat=>Xg (ke us) (jT ss) release (Gn R) fd (rb best) R.length R.length ((ea R a).take j).sum R.length R.length j (rv us ss best) (iI a) (dM ((ea R a).take j++List.replicate (R.length-j) 0)) G)
  (fun j=>j≤R.length) (fun j=>R.length-j) 0 rfl (by simp) (by omega) ?_
 intro j hj;have hs:=Zw Zy j (by omega)
 simp (disch:=omega) [-getElem?_pos,wrap64,Xe];refine bE (fun h1=>?_) (fun h1=>?_)
 ·have h1:j<R.length:=by omega
  have h2:j<a.length:=by omega
  have h3:=yd ha j (by simpa using h1)
  rw[wF h1]at h3;have h4:nth (ea R a) j=nth (nth R j) (nth a j):=DG h1 h2;have h5:=Zy _ (oK (show j<(ea R a).length by omega))
  have h6:(dM ((ea R a).take j++List.replicate (R.length-j) 0))[j]?=some (i64 0):=by
   rw[lx (by simp;omega),amj (by simp;omega),amk]
  have e2:((ea R a).take j++List.replicate (R.length-j) (0:Int)).set j (nth (nth R j) (nth a j))=(ea R a).take (j+1)++List.replicate (R.length-(j+1)) 0:=by
   rw[List.set_append_right _ _ (by simp;omega),jI (show j<(ea R a).length by omega),h4]
   have:j-((ea R a).take j).length=0:=by simp;omega
   rw[this];obtain⟨m,hm⟩:∃m,R.length-j=m+1:=⟨R.length-j-1,by omega⟩
   rw[hm,List.replicate_succ,List.set_cons_zero,show R.length-(j+1)=m by omega]
   simp
  have e3:((ea R a).take (j+1)).sum=((ea R a).take j).sum+nth (nth R j) (nth a j):=by
   rw[jI (show j<(ea R a).length by omega),h4];simp
  have h7:(dM ((ea R a).take (j+1)++List.replicate (R.length-(j+1)) 0))[j]?=some (i64 (nth (nth R j) (nth a j))):=by
   rw[lx (by simp;omega),p8 (by simp;omega),Ab (by omega),h4]
  rw[h4]at h5;simp (disch:=omega) [-getElem?_pos,wrap64,DK h2,aW (l:=R),dj h3,h6,e2,h7];exact bF (j+1) (by simp[e3]) (by omega) (by omega)
 ·obtain rfl:j=R.length:=by omega
  rw[List.take_of_length_le (by omega)]
  simpa using hK _
noncomputable abbrev DL(us:List Un)(ss:List Us)(R:List (List Int))(release:Int)(fd:Bool)(best:Option (List Int))(x:Int)(a:List Nat)(o:Option (List V))(G:List aP):St :=
 ⟨[(0,ke us),(1,jT ss),(3,i64 release),(11,Gn R),(13,.bool fd),(14,rb best),(15,.bf 15 0),(16,.bQ 53 1 R.length),(26,i64 x)],(15,rv us ss best)::(53,iI a)::ob o,[],G⟩
theorem JH{R:List (List Int)}{a:List Nat}{us:List Un}{ss:List Us}{release:Int}{fd:Bool}{best:Option (List Int)}{o:Option (List V)}{G:List aP}{K:cz}(hn:R.length≤6)(ha:Vd (R.map List.length) a)(hlen:∀o∈R,o.length≤1000)
  (h0:∀z b,inc (R.map List.length) a=none→K (.exit 4) { DL us ss R release fd best (-1) b o G with env:=(DL us ss R release fd best (-1) b o G).env++[(124,z)] })
  (h1:∀z (i:Nat),i<R.length→nth a i+1<nth (R.map List.length) i→inc (R.map List.length) a=some (a.take i++(nth a i+1)::List.replicate (R.length-1-i) 0) →
   K (.exit 4) { DL us ss R release fd best i (a.take (i+1)++List.replicate (R.length-1-i) 0) o G with env:=(DL us ss R release fd best i a o G).env++[(124,z)] }) :
  go (aX F) Xh (DL us ss R release fd best (R.length-1) a o G) K:=by
 have qG:=DI ha;simp only[List.length_map]at qG;refine go_loop (fun k:Nat=>DL us ss R release fd best (k-1) (a.take k++List.replicate (R.length-k) 0) o G)
  (fun k=>k≤R.length∧∀j,k≤j→j<R.length→nth a j+1=nth (R.map List.length) j) (fun k=>k) R.length rfl (by rw[List.take_of_length_le (by omega)];simp) ⟨by omega,by omega⟩ ?_
 rintro k ⟨hk,hm⟩;by_cases ID:k=0
 ·subst ID
  simp +contextual (disch:=omega) [-getElem?_pos,wrap64,Ob];exact h0 _ _ (Pb ha fun j hj=>hm j (by omega) (by simpa using hj))
 ·have e1:0≤(k:Int)-1:=by omega
  have e2:((k:Int)-1).toNat=k-1:=by omega
  have h3:k-1<R.length:=by omega
  have h4:(iI (a.take k++List.replicate (R.length-k) 0))[k-1]?=some (i64 ((nth a (k-1):Nat):Int)):=by
   rw[DK (by simp;omega),p8 (by simp;omega),Ab (by omega)]
  have h5:=hlen _ (oK h3);have h6:=yd ha (k-1) (by simpa using h3)
  rw[wF h3]at h6;have h7:(iI (a.take k++List.replicate (R.length-k) 0)).set (k-1) (i64 0)=iI (a.take (k-1)++List.replicate (R.length-(k-1)) 0):=by
   have:=Gp (a:=a.take k++List.replicate (R.length-k) 0) (i:=k-1) (d:=0);rw[show(i64 ((0:Nat):Int))=i64 0 from rfl]at this;rw[this];congr 1;obtain⟨m,rfl⟩:∃m,k=m+1:=⟨k-1,by omega⟩
   rw[jI (show m<a.length by omega)]
   have hl:(a.take m).length=m:=by simp;omega
   rw[List.append_assoc,Nat.add_sub_cancel,List.set_append_right _ _ (by omega),hl,Nat.sub_self]
   simp only[List.singleton_append,List.set_cons_zero];rw[show R.length-m=(R.length-(m+1))+1 by omega,List.replicate_succ]
  have h8:nth (R.map List.length) (k-1)=(nth R (k-1)).length:=wF h3;simp +contextual (disch:=omega) [-getElem?_pos,wrap64,Ob,e1,e2,h4,aW (l:=R)];refine bE (fun h9=>?_) (fun h9=>?_)
  ·have fO:k≤(iI (a.take k++List.replicate (R.length-k) 0)).length:=by simp;omega
   simp +contextual (disch:=omega) [-getElem?_pos,wrap64,fO,h7];refine bF (k-1) ?_ ⟨by omega,fun j a1 a2=>?_⟩ (by omega)
   ·rw[show(((k-1:Nat)):Int)=(k:Int)-1 by omega]
    simp
   ·rcases Nat.lt_or_ge j k with iA|iA
    ·obtain rfl:j=k-1:=by omega
     rw[h8];omega
    ·exact hm j iA a2
  ·have bA:nth a (k-1)+1<nth (R.map List.length) (k-1):=by rw[h8];omega
   have hi:=Zu (i:=k-1) ha (by simpa using h3) (fun j a1 a2=>hm j (by omega) (by simpa using a2)) bA
   simp only[List.length_map]at hi;have:=h1 (.bool (decide (((nth a (k-1):Nat):Int)=((nth R (k-1)).length:Int)-1))) (k-1) h3 bA hi;rw[show(((k-1:Nat)):Int)=(k:Int)-1 by omega,show k-1+1=k by omega,show R.length-1-(k-1)=R.length-k by omega]at this
   exact this
theorem Zz{us:List Un}{ss:List Us}{g:Int}(h:us.length=ss.length):(mW us ss g).length=us.length:=by simp[mW,h]
theorem amm(us:List Un)(ss:List Us)(g:Int):List.zipWith (JG g) us ss=(mW us ss g).map fun o=>[ints o]:=by
 rw[mW,List.map_zipWith]
theorem amn{us:List Un}{ss:List Us}{g:Int}(h:JD us ss g){o:List Int}(ho:o∈mW us ss g):(0<o.length∧o.length≤1000)∧∀q∈o,0≤q∧q≤1073741824:=by
 have hl:=h.len;obtain⟨i,hi,rfl⟩:=DF ho;rw[Zz hl]at hi;have e:nth (mW us ss g) i=ta (nth us i) (nth ss i) g:=DG hi (by omega)
 rw[e];have h1:=ama (s:=nth ss i) (h.Y8 i hi);refine⟨⟨amg (h.valid i hi),by omega⟩,fun q hq=>?_⟩
 simp only[ta,List.mem_filter,decide_eq_true_eq]at hq;exact Jz hq.2
noncomputable abbrev JI(us:List Un)(ss:List Us)(R:List (List Int))(release:Int)(best:Option (List Int))(a:List Nat)(o:Option (List V))(G:List aP):St :=
 ⟨[(0,ke us),(1,jT ss),(3,i64 release),(11,Gn R),(13,.bool best.isSome),(14,rb best),(15,.bf 15 0),(16,.bQ 53 1 R.length)],(15,rv us ss best)::(53,iI a)::ob o,[],G⟩
theorem amo{R:List (List Int)}{us:List Un}{ss:List Us}{release:Int}{G:List aP}{K:cz}(hn:R.length≤6)(u5:us.length≤6)(ZA:R.length=us.length)(uj:∀o∈R,(0<o.length∧o.length≤1000)∧∀q∈o,0≤q∧q≤1073741824)
  (lO:∀a,Vd (R.map List.length) a→BE us ss (ea R a)=some ((ea R a).sum,iG us (ea R a),iH ss (ea R a)))
  (hz:Vd (R.map List.length) (List.replicate R.length 0))
  (hK:∀best b o z,Kn us ss R release (qa (R.map List.length)) best→K (.exit 0) { JI us ss R release best b o G with env:=(JI us ss R release best b o G).env++[(26,i64 (-1)),(131,z)] }) :
  go (aX F) Xj (JI us ss R release none (List.replicate R.length 0) none G) K:=by
 refine go_loop (fun x:List Nat×Option (List Int)×Option (List V)=>JI us ss R release x.2.1 x.1 x.2.2 G) (fun x=>Vd (R.map List.length) x.1∧Kn us ss R release (rk (R.map List.length) x.1) x.2.1)
  (fun x=>qa (R.map List.length)-rk (R.map List.length) x.1) (List.replicate R.length 0,none,none) rfl (by simp[rb]) ⟨hz,by simp only[O8];intro b _ h;omega⟩ ?_
 rintro⟨a,best,o⟩ ⟨ha,jc⟩;simp only at ha jc;have hrk:=DJ ha;have qG:=DI ha;simp only[List.length_map]at qG;have lM:=Zx qG;have iO:=Zt ha;replace jc:=amh ha jc;have hva:=lO a ha;have hV:=Y4 us ss (ea R a) (by omega) []
 rw[hva]at hV;simp only[DD]at hV;have Pf:(List.replicate R.length [V.int .i64 0]).flatten=dM (List.replicate R.length 0):=by
  rw[dM];simp
 simp (disch:=omega) [-getElem?_pos,wrap64,Xi,Pf];refine aml hn ha (fun o ho=>(uj o ho).2) fun z=>?_;simp (disch:=omega) [-getElem?_pos,wrap64,wrap64];refine bE (fun h1=>?_) (fun h1=>?_)
 ·have Pg:kr [none] (chunks 1 (dM (ea R a)) 0 R.length)=some ((ea R a).map fun n=>[V.int .i64 n]):=MD (by omega)
  cases best with
  |none =>
   have xj:ui us ss release (ea R a) none=some (ea R a):=by simp[ui,h1]
   rw[xj]at jc;simp (disch:=omega) [-getElem?_pos,wrap64,Pg,hV,rb,rv];refine JH (best:=some (ea R a)) (o:=none) (fd:=true) hn ha (fun o ho=>(uj o ho).1.2) (fun z b he=>?_) (fun z i hi bA he=>?_)
   ·rw[he]at iO
    simp only at iO;rw[iO]at jc;simp (disch:=omega) [-getElem?_pos,wrap64,rb,rv];exact hK _ b none _ jc
   ·rw[he]at iO
    simp only at iO;rw[←iO.2]at jc;have q1:(iI (a.take (i+1)++List.replicate (R.length-1-i) 0))[i]?=some (i64 ((nth a i:Nat):Int)):=by
     rw[DK (by simp;omega),p8 (by simp;omega),Ab (by omega)]
    have q2:=yd ha i (by simpa using hi)
    rw[wF hi]at q2;have q3:=(uj _ (oK hi)).1.2;have q7:¬(i:Int)<0:=by omega
    have q4:i<a.length:=by omega
    have q5:(iI (a.take (i+1)++List.replicate (R.length-1-i) 0)).set i (i64 (((nth a i:Nat):Int)+1))=iI (a.take i++(nth a i+1)::List.replicate (R.length-1-i) 0):=by
     have:=Gp (a:=a.take (i+1)++List.replicate (R.length-1-i) 0) (i:=i) (d:=nth a i+1);rw[show(i64 ((nth a i+1:Nat):Int))=i64 (((nth a i:Nat):Int)+1) from rfl]at this;rw[this,jI q4,List.append_assoc,List.set_append_right _ _ (by simp;omega)]
     have:(a.take i).length=i:=by simp;omega
     rw[this,Nat.sub_self];rfl
    have q6:i<(iI (a.take (i+1)++List.replicate (R.length-1-i) 0)).length:=by simp;omega
    simp (disch:=omega) [-getElem?_pos,wrap64,q1,q5,q6,q7,rb,rv];exact bF (a.take i++(nth a i+1)::List.replicate (R.length-1-i) 0,some (ea R a),none) (by simp[rb,rv]) ⟨iO.1,jc⟩ (by simp only;omega)
  |some E =>
   by_cases xY:jU (iG us (ea R a),iH ss (ea R a)) (iG us E,iH ss E) (ea R a) E
   ·have xj:ui us ss release (ea R a) (some E)=some (ea R a):=by simp[ui,h1,xY]
    rw[xj]at jc;have hB:=Y3 (iG us (ea R a),iH ss (ea R a)) (iG us E,iH ss E) (ea R a) E (by omega) []
    rw[decide_eq_true xY]at hB;simp (disch:=omega) [-getElem?_pos,wrap64,Pg,hV,rb,rv,hB];refine JH (best:=some (ea R a)) (o:=none) (fd:=true) hn ha (fun o ho=>(uj o ho).1.2) (fun z b he=>?_) (fun z i hi bA he=>?_)
    ·rw[he]at iO
     simp only at iO;rw[iO]at jc;simp (disch:=omega) [-getElem?_pos,wrap64,rb,rv];exact hK _ b none _ jc
    ·rw[he]at iO
     simp only at iO;rw[←iO.2]at jc;have q1:(iI (a.take (i+1)++List.replicate (R.length-1-i) 0))[i]?=some (i64 ((nth a i:Nat):Int)):=by
      rw[DK (by simp;omega),p8 (by simp;omega),Ab (by omega)]
     have q2:=yd ha i (by simpa using hi)
     rw[wF hi]at q2;have q3:=(uj _ (oK hi)).1.2;have q7:¬(i:Int)<0:=by omega
     have q4:i<a.length:=by omega
     have q5:(iI (a.take (i+1)++List.replicate (R.length-1-i) 0)).set i (i64 (((nth a i:Nat):Int)+1))=iI (a.take i++(nth a i+1)::List.replicate (R.length-1-i) 0):=by
      have:=Gp (a:=a.take (i+1)++List.replicate (R.length-1-i) 0) (i:=i) (d:=nth a i+1);rw[show(i64 ((nth a i+1:Nat):Int))=i64 (((nth a i:Nat):Int)+1) from rfl]at this;rw[this,jI q4,List.append_assoc,List.set_append_right _ _ (by simp;omega)]
      have:(a.take i).length=i:=by simp;omega
      rw[this,Nat.sub_self];rfl
     have q6:i<(iI (a.take (i+1)++List.replicate (R.length-1-i) 0)).length:=by simp;omega
     simp (disch:=omega) [-getElem?_pos,wrap64,q1,q5,q6,q7,rb,rv];exact bF (a.take i++(nth a i+1)::List.replicate (R.length-1-i) 0,some (ea R a),none) (by simp[rb,rv]) ⟨iO.1,jc⟩ (by simp only;omega)
   ·have xj:ui us ss release (ea R a) (some E)=some E:=by simp[ui,h1,xY]
    rw[xj]at jc;have hB:=Y3 (iG us (ea R a),iH ss (ea R a)) (iG us E,iH ss E) (ea R a) E (by omega) []
    rw[decide_eq_false xY]at hB;simp (disch:=omega) [-getElem?_pos,wrap64,Pg,hV,rb,rv,hB];refine JH (best:=some E) (o:=none) (fd:=true) hn ha (fun o ho=>(uj o ho).1.2) (fun z b he=>?_) (fun z i hi bA he=>?_)
    ·rw[he]at iO
     simp only at iO;rw[iO]at jc;simp (disch:=omega) [-getElem?_pos,wrap64,rb,rv];exact hK _ b none _ jc
    ·rw[he]at iO
     simp only at iO;rw[←iO.2]at jc;have q1:(iI (a.take (i+1)++List.replicate (R.length-1-i) 0))[i]?=some (i64 ((nth a i:Nat):Int)):=by
      rw[DK (by simp;omega),p8 (by simp;omega),Ab (by omega)]
     have q2:=yd ha i (by simpa using hi)
     rw[wF hi]at q2;have q3:=(uj _ (oK hi)).1.2;have q7:¬(i:Int)<0:=by omega
     have q4:i<a.length:=by omega
     have q5:(iI (a.take (i+1)++List.replicate (R.length-1-i) 0)).set i (i64 (((nth a i:Nat):Int)+1))=iI (a.take i++(nth a i+1)::List.replicate (R.length-1-i) 0):=by
      have:=Gp (a:=a.take (i+1)++List.replicate (R.length-1-i) 0) (i:=i) (d:=nth a i+1);rw[show(i64 ((nth a i+1:Nat):Int))=i64 (((nth a i:Nat):Int)+1) from rfl]at this;rw[this,jI q4,List.append_assoc,List.set_append_right _ _ (by simp;omega)]
      have:(a.take i).length=i:=by simp;omega
      rw[this,Nat.sub_self];rfl
     have q6:i<(iI (a.take (i+1)++List.replicate (R.length-1-i) 0)).length:=by simp;omega
     simp (disch:=omega) [-getElem?_pos,wrap64,q1,q5,q6,q7,rb,rv];exact bF (a.take i++(nth a i+1)::List.replicate (R.length-1-i) 0,some E,none) (by simp[rb,rv]) ⟨iO.1,jc⟩ (by simp only;omega)
 ·have xj:ui us ss release (ea R a) best=best:=by
   cases best with
   |none=>simp[ui,h1]
   |some F=>simp[ui,h1]
  rw[xj]at jc;refine JH (best:=best) (o:=(some (dM (ea R a)))) (fd:=best.isSome) hn ha (fun o ho=>(uj o ho).1.2) (fun z b he=>?_) (fun z i hi bA he=>?_)
  ·rw[he]at iO
   simp only at iO;rw[iO]at jc;simp (disch:=omega) [-getElem?_pos,wrap64,Pe];exact hK _ b (some (dM (ea R a))) _ jc
  ·rw[he]at iO
   simp only at iO;rw[←iO.2]at jc;have q1:(iI (a.take (i+1)++List.replicate (R.length-1-i) 0))[i]?=some (i64 ((nth a i:Nat):Int)):=by
    rw[DK (by simp;omega),p8 (by simp;omega),Ab (by omega)]
   have q2:=yd ha i (by simpa using hi)
   rw[wF hi]at q2;have q3:=(uj _ (oK hi)).1.2;have q7:¬(i:Int)<0:=by omega
   have q4:i<a.length:=by omega
   have q5:(iI (a.take (i+1)++List.replicate (R.length-1-i) 0)).set i (i64 (((nth a i:Nat):Int)+1))=iI (a.take i++(nth a i+1)::List.replicate (R.length-1-i) 0):=by
    have:=Gp (a:=a.take (i+1)++List.replicate (R.length-1-i) 0) (i:=i) (d:=nth a i+1);rw[show(i64 ((nth a i+1:Nat):Int))=i64 (((nth a i:Nat):Int)+1) from rfl]at this;rw[this,jI q4,List.append_assoc,List.set_append_right _ _ (by simp;omega)]
    have:(a.take i).length=i:=by simp;omega
    rw[this,Nat.sub_self];rfl
   have q6:i<(iI (a.take (i+1)++List.replicate (R.length-1-i) 0)).length:=by simp;omega
   simp (disch:=omega) [-getElem?_pos,wrap64,q1,q5,q6,q7,Pe];exact bF (a.take i++(nth a i+1)::List.replicate (R.length-1-i) 0,best,(some (dM (ea R a)))) (by simp[Pe]) ⟨iO.1,jc⟩ (by simp only;omega)
theorem amq(us:List Un)(ss:List Us)(g release:Int)(G:List aP):∃t,aX F 170 [ke us,jT ss,i64 g,i64 release] G=some (.tuple [.slice t 1 ((hH us ss g release).map fun n=>[i64 n]),i64 (kh us ss g release)],G):=by
 suffices h:∀Q:V→Prop,(∀t,Q (.tuple [.slice t 1 ((hH us ss g release).map fun n=>[i64 n]),i64 (kh us ss g release)]))→gy (aX F) 170 [ke us,jT ss,i64 g,i64 release] G fun v G'=>Q v∧G'=G by
  obtain⟨_,_,h,⟨t,rfl⟩,rfl⟩:=h (fun v=>∃t,v=.tuple [.slice t 1 ((hH us ss g release).map fun n=>[i64 n]),i64 (kh us ss g release)]) fun t=>⟨t,rfl⟩;exact⟨t,h⟩
 intro Q hQ;refine gS rfl rfl ?_;have Gq:=al9 us ss g [];by_cases hw:z8 us ss g=0
 ·obtain⟨w1,w2,w3,w4⟩:us.length≤6∧us.length=ss.length∧BF us ss∧(1≤g∧g≤1073741824):=by
   unfold z8 at hw;split at hw
   ·cases hw
   ·split at hw
    ·cases hw
    ·split at hw
     ·cases hw
     ·split at hw
      ·cases hw
      ·rename_i a1 a2 a3 a4
       exact⟨by omega,Decidable.of_not_not a2,Decidable.of_not_not a3,by omega⟩
  have oL:p9 us ss g release=if g<1∨1073741824<g∨release<0∨1073741824<release then 1 else if 200*g<release then 10 else if ¬BG us g then 10 else 0:=by
   unfold p9;rw[if_neg (by omega),if_neg (fun h=>h w2),if_neg (fun h=>h w3)]
  by_cases hr:release<0∨1073741824<release
  ·rw[if_pos (by omega)]at oL
   have eL:hH us ss g release=[]:=by simp[hH,oL]
   have eE:kh us ss g release=1:=by simp[kh,oL]
   rw[eL,eE]at hQ;have h8:(!decide (0≤release) || !decide (release≤1073741824))=true:=by simp;omega
   simp (disch:=omega) [wrap64,Dy,Gq,hw,cT,h8];exact hQ _
  ·rw[if_neg (by omega)]at oL
   have h8:(!decide (0≤release) || !decide (release≤1073741824))=false:=by simp;omega
   by_cases h9:200*g<release
   ·rw[if_pos h9]at oL
    have eL:hH us ss g release=[]:=by simp[hH,oL]
    have eE:kh us ss g release=10:=by simp[kh,oL]
    rw[eL,eE]at hQ;simp (disch:=omega) [wrap64,Dy,Gq,hw,cT,h8,h9];exact hQ _
   ·rw[if_neg h9]at oL
    have hA:=ame w2 (by omega) w3 g []
    by_cases hF:BG us g
    ·rw[if_neg (fun h=>h hF)]at oL
     have hE:Aa us g=0:=by simp[Aa,hF]
     rw[hE,if_pos rfl,amm]at hA;have h0:=(O5 oL).1;have BL:=Zk h0 (left:=release) (by omega)
     have eL:hH us ss g release=(mF (jb us ss g) release).getD []:=by simp[hH,oL]
     have eE:kh us ss g release=if mF (jb us ss g) release=none then 9 else 0:=by simp[kh,oL]
     have ZA:=Zz (g:=g) w2;have uj:=fun o (ho:o∈mW us ss g)=>amn h0 ho;have lO:∀a,Vd ((mW us ss g).map List.length) a→BE us ss (ea (mW us ss g) a)=some ((ea (mW us ss g) a).sum,iG us (ea (mW us ss g) a),iH ss (ea (mW us ss g) a)):=fun a ha=>Zn ((Gm w2).1 (Pc ha));have amr:Kn us ss (mW us ss g) release (qa ((mW us ss g).map List.length)) none→∀F,mf g us ss F→release<F.sum:=Zv (g:=g) w2;have ams:∀F,Kn us ss (mW us ss g) release (qa ((mW us ss g).map List.length)) (some F)→BJ g us ss release F:=fun F=>Zv (g:=g) w2;generalize hR:mW us ss g=R at *
     have hz:Vd (R.map List.length) (List.replicate R.length 0):=by
      have:=O9 (ns:=R.map List.length) fun n hn=>by
       obtain⟨o,ho,rfl⟩:=List.mem_map.1 hn;exact(uj o ho).1.1
      simpa using this
     simp (disch:=omega) [wrap64,Dy,Gq,hw,cT,h8,h9,hA];have Pf:List.replicate R.length (V.int .i64 0)=iI (List.replicate R.length 0):=by simp[iI,dM]
     rw[Pf];refine amo (us:=us) (ss:=ss) (release:=release) (by omega) w1 ZA uj lO hz fun best b o z jc=>?_
     cases best with
     |none =>
      have hb:=amr jc;have ji:mF (jb us ss g) release=none:=by
       cases hc:mF (jb us ss g) release with
       |none=>rfl
       |some F =>
        rw[hc]at BL;have:=hb F BL.mf;have:=BL.sum;omega
      rw[eL,eE,ji]at hQ;simp only[if_true,Option.getD_none]at hQ;simp (disch:=omega) [wrap64,rb];exact hQ _
     |some F =>
      have hb:=ams F jc;have hso:mF (jb us ss g) release=some F:=by
       cases hc:mF (jb us ss g) release with
       |none =>
        rw[hc]at BL;have:=BL F hb.mf;have:=hb.sum;omega
       |some E =>
        rw[hc]at BL;rw[BJ.unique BL hb]
      rw[eL,eE,hso]at hQ;simp only[Option.getD_some,reduceCtorEq,if_false]at hQ;simp (disch:=omega) [wrap64,rb];exact hQ _
    ·rw[if_pos hF]at oL
     have hE:Aa us g=10:=by simp[Aa,hF]
     have eL:hH us ss g release=[]:=by simp[hH,oL]
     have eE:kh us ss g release=10:=by simp[kh,oL]
     rw[hE,if_neg (by omega)]at hA
     rw[eL,eE]at hQ;simp (disch:=omega) [wrap64,Dy,Gq,hw,cT,h8,h9,hA];exact hQ _
 ·have oL:p9 us ss g release=z8 us ss g:=by
   unfold z8 at hw ⊢;unfold p9;split
   ·rfl
   ·split
    ·rfl
    ·split
     ·rfl
     ·rename_i a1 a2 a3
      simp only[a1,a2,a3,if_false]at hw;split at hw
      ·rw[if_pos (by omega),if_pos (by assumption)]
      ·exact absurd rfl hw
  have amu:¬p9 us ss g release=0:=by rw[oL];exact hw
  have eL:hH us ss g release=[]:=by simp[hH,amu]
  have eE:kh us ss g release=z8 us ss g:=by simp[kh,oL,hw]
  rw[eL,eE]at hQ;simp (disch:=omega) [wrap64,Dy,Gq,hw];exact hQ _
end Go.Proofs.YtocclbnghhaejaaGreat
namespace Go.Proofs.YtocclbnghhaejaaGreat
set_option linter.all false
open Go.Vm
end Go.Proofs.YtocclbnghhaejaaGreat
namespace Go.Proofs.YtocclbnghhaejaaGreat
set_option linter.all false
open Go.Vm
attribute [local simp] lQ lR kP lP
structure Gs where
 o:Int
 j:Bool
 deriving Inhabited,DecidableEq
abbrev Gs.row(s:Gs):List V:=[i64 s.o,.bool s.j]
abbrev gs(s:Gs):V:=.agg s.row
abbrev jV(l:List Gt):V:=.slice none 3 (l.map Gt.row)
abbrev jJ(l:List Gs):V:=.slice none 2 (l.map Gs.row)
def uk(l:List Rt)(lv:Int):Option (List Pt):=l.foldl (fun a r=>if r.lv≤lv then some r.c else a) none
def qR(l:List Rt)(lv:Int):List Pt:=(uk l lv).getD []
theorem Gr{l:List Rt}{r:Rt}{lv:Int}:uk (l++[r]) lv=if r.lv≤lv then some r.c else uk l lv:=by
 simp[uk,List.foldl_append]
def Ad:Option (List Pt)→V
 |none=>.bV
 |some c=>iv c
@[simp] theorem avE{o:Option (List Pt)}{d:Nat}:(Ad o).cD d=false:=by cases o<;>rfl
@[simp] theorem avF{o:Option (List Pt)}:(Ad o).cI=true:=by cases o<;>rfl
def sj(c:List Pt)(o:Int):Int:=if c.length=0 then 0 else ik c o
structure Gv(g:Gt):Prop where
 cur:∀i,i<g.r.length→gi (nth g.r i).c=0
 top:∀i,i<g.r.length→(nth (nth g.r i).c ((nth g.r i).c.length-1)).y≤1073741824
 bot:∀i,i<g.r.length→(nth (nth g.r i).c 0).x=0∧(nth (nth g.r i).c 0).y=0
 jo:0<g.r.length∧g.r.length≤10
 c9:0≤g.c9∧g.c9≤1000
 move:0≤g.move∧g.move≤1000
theorem ZC{g:Gt}(h:kg g=0):Gv g:=by
 unfold kg at h;split at h
 ·cases h
 split at h
 ·cases h
 split at h
 ·rename_i h3;exact absurd h h3
 split at h
 ·cases h
 rename_i h1 h2 h3 h4;have h3:dB (oe g.r) g.r.length 0=0:=Decidable.of_not_not h3;have at_:∀i,i<g.r.length→gi (nth g.r i).c=0∧((nth (nth g.r i).c 0).x=0∧(nth (nth g.r i).c 0).y=0)∧(nth (nth g.r i).c ((nth g.r i).c.length-1)).y≤1073741824:=fun i hi=>by
  have:=rU h3 i (by omega) (by omega)
  unfold oe at this;split at this
  ·cases this
  split at this
  ·cases this
  split at this
  ·rename_i h5;exact absurd this h5
  split at this
  ·cases this
  split at this
  ·cases this
  rename_i h5 h6 h7;exact⟨Decidable.of_not_not h5,Decidable.of_not_not h6,by omega⟩
 exact⟨fun i hi=>(at_ i hi).1,fun i hi=>(at_ i hi).2.2,fun i hi=>(at_ i hi).2.1,by omega,by omega,by omega⟩
theorem ZD{P:List Pt→Prop}{l:List Rt}{lv:Int}(h:∀i,i<l.length→P (nth l i).c):qR l lv=[]∨P (qR l lv):=by
 have key:∀k,k≤l.length→∀c,uk (l.take k) lv=some c→P c:=by
  intro k;induction k with
  |zero=>intro _ c hc;simp[uk]at hc
  |succ k ih =>
   intro hk c hc;rw[jI (by omega),Gr]at hc
   split at hc
   ·cases hc;exact h k (by omega)
   ·exact ih (by omega) c hc
 have:=key l.length (Nat.le_refl _);rw[List.take_length]at this;unfold qR;cases hc:uk l lv with
 |none=>exact .inl rfl
 |some c=>exact .inr (this c hc)
theorem ZE{g:Gt}(hv:Gv g)(lv:Int)(G:List aP):∃t,aX F 231 [gt g,i64 lv] G=some (.agg [.slice t 2 ((qR g.r lv).map Pt.row),i64 0],G):=by
 suffices h:∀Q:V→List aP→Prop,(∀t,Q (.agg [.slice t 2 ((qR g.r lv).map Pt.row),i64 0]) G)→gy (aX F) 231 [gt g,i64 lv] G Q by
  obtain⟨_,_,h,t,rfl,rfl⟩:=h (fun v G'=>∃t,v=.agg [.slice t 2 ((qR g.r lv).map Pt.row),i64 0]∧G'=G) fun t=>⟨t,rfl,rfl⟩;exact⟨t,h⟩
 intro Q hQ;obtain⟨l,c9,move⟩:=g;have DC:=hv.jo;simp only at DC;refine gS rfl rfl ?_;simp (disch:=omega) [-getElem?_pos,wrap64,Yl];refine go_loop (fun i:Nat=>ak3 lv (BD l) l.length i [.bV,i64 0] [Ad (uk (l.take i) lv),i64 0] G) (fun i=>i≤l.length) (fun i=>l.length-i) 0 rfl (by simp[uk,Ad]) (by omega) ?_
 rintro i hi;simp (disch:=omega) [-getElem?_pos,wrap64,Yk];refine bE (fun h3=>?_) (fun h3=>?_)
 ·have h3:i<l.length:=by omega
  by_cases h4:(nth l i).lv≤lv
  ·simp (disch:=omega) [-getElem?_pos,wrap64,aW (l:=l),h3,h4]
   refine bF (i+1) (by simp[jI h3,Gr,h4,Ad]) (by omega) (by omega)
  ·simp (disch:=omega) [-getElem?_pos,wrap64,aW (l:=l),h3,h4]
   refine bF (i+1) (by simp[jI h3,Gr,h4,Ad]) (by omega) (by omega)
 ·obtain rfl:i=l.length:=by omega
  rw[List.take_length];cases hc:uk l lv with
  |none =>
   simp only[qR,hc]at hQ;simp (disch:=omega) [-getElem?_pos,wrap64,Ad];exact hQ _
  |some c =>
   simp only[qR,hc]at hQ;simp (disch:=omega) [-getElem?_pos,wrap64,Ad];exact hQ _
theorem Ph{c:List Pt}(h:c=[]∨gi c=0)(w o:Int)(G:List aP):aX F 233 [.agg [iv c,i64 w],i64 o] G=some (i64 (sj c o),G) :=
 bM rfl rfl (by
  rcases h with rfl|h
  ·simp[wrap64,Ou,sj]
  ·have hp:=s9 h
   have h1:¬ c.length=0:=by omega
   have h2:¬ (c.length:Int)=0:=by omega
   simp[wrap64,Ou,sj,Jq (mb h),h1,h2])
theorem amv{c:List Pt}(h:c=[]∨gi c=0)(w o:Int)(G:List aP):aX F 230 [.agg [iv c,i64 w],i64 o] G=some (.bool (decide (w≤sj c o)),G) :=
 bM rfl rfl (by
  simp[wrap64,Yj,Ph h])
def iR(g:Gt)(o lv:Int):Int:=sj (qR g.r lv) o
theorem amw{g:Gt}(h:Gv g)(o lv:Int)(G:List aP):aX F 206 [gt g,i64 o,i64 lv] G=some (i64 (iR g o lv),G) :=
 bM rfl rfl (by
  obtain⟨l,c9,move⟩:=g;have Pj:=h.cur;have DC:=h.jo;simp only at Pj DC;generalize hW:iR ⟨l,c9,move⟩ o lv=W;unfold iR qR at hW;simp only at hW;simp (disch:=omega) [-getElem?_pos,wrap64,XW];refine go_loop (fun i:Nat=>aky o lv (sj ((uk (l.take i) lv).getD []) o) (BD l) l.length i G) (fun i=>i≤l.length) (fun i=>l.length-i) 0 rfl (by simp[uk,sj]) (by omega) ?_
  rintro i hi;simp (disch:=omega) [-getElem?_pos,wrap64,XV];refine bE (fun h3=>?_) (fun h3=>?_)
  ·have h3:i<l.length:=by omega
   have hp:=s9 (Pj i h3);have hn:¬ (nth l i).c=[]:=fun e=>by rw[e]at hp;simp at hp
   by_cases h4:(nth l i).lv≤lv
   ·simp (disch:=omega) [-getElem?_pos,wrap64,aW (l:=l),h3,h4,OG,Pj]
    refine bF (i+1) (by simp[jI h3,Gr,h4,sj,hn]) (by omega) (by omega)
   ·simp (disch:=omega) [-getElem?_pos,wrap64,aW (l:=l),h3,h4]
    refine bF (i+1) (by simp[jI h3,Gr,h4]) (by omega) (by omega)
  ·obtain rfl:i=l.length:=by omega
   rw[List.take_length];simp (disch:=omega) [-getElem?_pos,wrap64,hW])
def mY(g:Gt)(s:Gs):Prop:=0≤s.o∧s.o≤g.c9
instance {g:Gt} {s:Gs}:Decidable (mY g s):=inferInstanceAs (Decidable (_∧_))
def eV(g:Gt)(s:Gs):Bd:=if s.j then ⟨s.o,s.o⟩ else ⟨max (s.o-g.move) 0,min (s.o+g.move) g.c9⟩
theorem ZF{g:Gt}{s:Gs}(h:Gv g)(hs:mY g s)(G:List aP):aX F 232 [gt g,gs s] G=some (.agg (eV g s).row,G) :=
 bM rfl rfl (by
  obtain⟨l,c9,move⟩:=g;obtain⟨o,j⟩:=s;have h1:=h.c9;have h2:=h.move;have h3:=hs.1;have h4:=hs.2;simp only at h1 h2 h3 h4;cases j with
  |true=>simp (disch:=omega) [wrap64,Ot,eV]
  |false =>
   have e1:max (0:Int) (o-move)=max (o-move) 0:=Int.max_comm _ _;have e2:min c9 (o+move)=min (o+move) c9:=Int.min_comm _ _;simp (disch:=omega) [wrap64,Ot,eV,e1,e2])
theorem amx{g:Gt}{s:Gs}(h:Gv g)(hs:mY g s)(G:List aP):aX F 205 [gt g,gs s] G=some (.agg (eV g s).row,G) :=
 bM rfl rfl (by
  obtain⟨l,c9,move⟩:=g;obtain⟨o,j⟩:=s;have h1:=h.c9;have h2:=h.move;have h3:=hs.1;have h4:=hs.2;simp only at h1 h2 h3 h4;cases j with
  |true=>simp (disch:=omega) [wrap64,Oh,eV]
  |false =>
   have e1:max (0:Int) (o-move)=max (o-move) 0:=Int.max_comm _ _;have e2:min c9 (o+move)=min (o+move) c9:=Int.min_comm _ _;simp (disch:=omega) [wrap64,Oh,eV,e1,e2])
theorem JJ(g:Gt)(s:Gs)(G:List aP):aX F 244 [gt g,gs s] G=some (.bool (decide (mY g s)),G) :=
 bM rfl rfl (by
  simp[wrap64,Ox,NT,dC,cT,mY];by_cases h1:0≤s.o<;>by_cases h2:s.o≤g.c9<;>simp[h1,h2])
theorem Ae(g:Gt)(s:Gs)(G:List aP):aX F 122 [gt g,gs s] G=some (.bool (decide (mY g s)),G) :=
 bM rfl rfl (by
  simp[wrap64,Ox,NT,dC,cT,mY];by_cases h1:0≤s.o<;>by_cases h2:s.o≤g.c9<;>simp[h1,h2])
def yh(g:List Gt)(s:List Gs):Prop:=∀i,i<g.length→mY (nth g i) (nth s i)
noncomputable instance {g:List Gt} {s:List Gs}:Decidable (yh g s):=Classical.propDecidable _
noncomputable def aE(g:List Gt)(s:List Gs)(lv:Int):Int :=
 if 8<g.length then 10 else if g.length≠s.length then 3 else if ¬yh g s then 3
 else if dB (fun i=>kg (nth g i)) g.length 0≠0 then dB (fun i=>kg (nth g i)) g.length 0 else if ¬(0≤lv∧lv≤16777216) then 1 else 0
theorem ZG(g:List Gt)(s:List Gs)(lv:Int)(G:List aP):aX F 240 [jV g,jJ s,i64 lv] G=some (i64 (aE g s lv),G) :=
 bM rfl rfl (by
  generalize hW:aE g s lv=W;unfold aE at hW;simp (disch:=omega) [-getElem?_pos,wrap64,Ov,Oc];refine bE (fun h1=>?_) (fun h1=>fe (fun h2=>?_) (fun h2=>?_))
  ·rw[if_pos (by omega)]at hW
   exact hW
  ·simp[-List.length_eq_zero_iff,-Int.natCast_eq_zero]at h2
   rw[if_neg (by omega),if_pos (by omega)]at hW
   exact hW
  ·simp[-List.length_eq_zero_iff,-Int.natCast_eq_zero]at h2
   rw[if_neg (by omega),if_neg (by omega)]at hW
   have hl:g.length=s.length:=by omega
   refine go_loop (fun i:Nat=>alc (jV g) (jJ s) lv (jV g) g.length i G) (fun i=>i≤g.length∧∀j,j<i→mY (nth g j) (nth s j)) (fun i=>g.length-i) 0 rfl (by simp) ⟨by omega,by omega⟩ ?_
   rintro i ⟨hi,hv⟩;simp (disch:=omega) [-getElem?_pos,wrap64,Ys];refine bE (fun h3=>?_) (fun h3=>?_)
   ·have h3:i<g.length:=by omega
    by_cases h4:mY (nth g i) (nth s i)
    ·simp (disch:=omega) [-getElem?_pos,wrap64,aW (l:=g),aW (l:=s),JJ,Ae,h4]
     refine bF (i+1) (by simp) ⟨by omega,fun j hj=>?_⟩ (by omega)
     rcases Nat.lt_or_ge j i with h5|h5
     ·exact hv j h5
     ·rwa [show j=i by omega]
    ·rw[if_pos (fun h=>h4 (h i h3))]at hW
     simp (disch:=omega) [-getElem?_pos,wrap64,aW (l:=g),aW (l:=s),JJ,Ae,h4];exact hW
   ·obtain rfl:i=g.length:=by omega
    rw[if_neg (fun h=>h hv)]at hW;refine go_loop (fun i:Nat=>ale lv (jV g) g.length i G) (fun i=>i≤g.length∧dB (fun i=>kg (nth g i)) (g.length-i) i=dB (fun i=>kg (nth g i)) g.length 0) (fun i=>g.length-i) 0 rfl (by simp) ⟨by omega,rfl⟩ ?_
    rintro i ⟨hi,hq⟩;simp (disch:=omega) [-getElem?_pos,wrap64,Yt];refine bE (fun h3=>?_) (fun h3=>?_)
    ·have h3:i<g.length:=by omega
     rw[kB h3]at hq;by_cases h4:kg (nth g i)=0
     ·rw[if_pos h4]at hq
      simp (disch:=omega) [-getElem?_pos,wrap64,aW (l:=g),zZ,z6,h4];exact bF (i+1) (by simp) ⟨by omega,hq⟩ (by omega)
     ·rw[if_neg h4]at hq
      rw[←hq,if_pos h4]at hW;simp (disch:=omega) [-getElem?_pos,wrap64,aW (l:=g),zZ,z6,h4];exact hW
    ·obtain rfl:i=g.length:=by omega
     rw[mE]at hq;rw[←hq,if_neg (by omega)]at hW
     by_cases m1:0≤lv∧lv≤16777216
     ·have m2:(!decide (0≤lv) || !decide (lv≤16777216))=false:=by simp;omega
      rw[if_neg (by omega)]at hW
      simp (disch:=omega) [-getElem?_pos,wrap64,dC,cT,m2];exact hW
     ·have m2:(!decide (0≤lv) || !decide (lv≤16777216))=true:=by simp;omega
      rw[if_pos (by omega)]at hW
      simp (disch:=omega) [-getElem?_pos,wrap64,dC,cT,m2];exact hW)
theorem JK(g:List Gt)(s:List Gs)(lv:Int)(G:List aP):aX F 173 [jV g,jJ s,i64 lv] G=some (i64 (aE g s lv),G) :=
 bM rfl rfl (by
  generalize hW:aE g s lv=W;unfold aE at hW;simp (disch:=omega) [-getElem?_pos,wrap64,Ov,Oc];refine bE (fun h1=>?_) (fun h1=>fe (fun h2=>?_) (fun h2=>?_))
  ·rw[if_pos (by omega)]at hW
   exact hW
  ·simp[-List.length_eq_zero_iff,-Int.natCast_eq_zero]at h2
   rw[if_neg (by omega),if_pos (by omega)]at hW
   exact hW
  ·simp[-List.length_eq_zero_iff,-Int.natCast_eq_zero]at h2
   rw[if_neg (by omega),if_neg (by omega)]at hW
   have hl:g.length=s.length:=by omega
   refine go_loop (fun i:Nat=>ajY (jV g) (jJ s) lv (jV g) g.length i G) (fun i=>i≤g.length∧∀j,j<i→mY (nth g j) (nth s j)) (fun i=>g.length-i) 0 rfl (by simp) ⟨by omega,by omega⟩ ?_
   rintro i ⟨hi,hv⟩;simp (disch:=omega) [-getElem?_pos,wrap64,Xl];refine bE (fun h3=>?_) (fun h3=>?_)
   ·have h3:i<g.length:=by omega
    by_cases h4:mY (nth g i) (nth s i)
    ·simp (disch:=omega) [-getElem?_pos,wrap64,aW (l:=g),aW (l:=s),JJ,Ae,h4]
     refine bF (i+1) (by simp) ⟨by omega,fun j hj=>?_⟩ (by omega)
     rcases Nat.lt_or_ge j i with h5|h5
     ·exact hv j h5
     ·rwa [show j=i by omega]
    ·rw[if_pos (fun h=>h4 (h i h3))]at hW
     simp (disch:=omega) [-getElem?_pos,wrap64,aW (l:=g),aW (l:=s),JJ,Ae,h4];exact hW
   ·obtain rfl:i=g.length:=by omega
    rw[if_neg (fun h=>h hv)]at hW;refine go_loop (fun i:Nat=>aj1 lv (jV g) g.length i G) (fun i=>i≤g.length∧dB (fun i=>kg (nth g i)) (g.length-i) i=dB (fun i=>kg (nth g i)) g.length 0) (fun i=>g.length-i) 0 rfl (by simp) ⟨by omega,rfl⟩ ?_
    rintro i ⟨hi,hq⟩;simp (disch:=omega) [-getElem?_pos,wrap64,Xm];refine bE (fun h3=>?_) (fun h3=>?_)
    ·have h3:i<g.length:=by omega
     rw[kB h3]at hq;by_cases h4:kg (nth g i)=0
     ·rw[if_pos h4]at hq
      simp (disch:=omega) [-getElem?_pos,wrap64,aW (l:=g),zZ,z6,h4];exact bF (i+1) (by simp) ⟨by omega,hq⟩ (by omega)
     ·rw[if_neg h4]at hq
      rw[←hq,if_pos h4]at hW;simp (disch:=omega) [-getElem?_pos,wrap64,aW (l:=g),zZ,z6,h4];exact hW
    ·obtain rfl:i=g.length:=by omega
     rw[mE]at hq;rw[←hq,if_neg (by omega)]at hW
     by_cases m1:0≤lv∧lv≤16777216
     ·have m2:(!decide (0≤lv) || !decide (lv≤16777216))=false:=by simp;omega
      rw[if_neg (by omega)]at hW
      simp (disch:=omega) [-getElem?_pos,wrap64,dC,cT,m2];exact hW
     ·have m2:(!decide (0≤lv) || !decide (lv≤16777216))=true:=by simp;omega
      rw[if_pos (by omega)]at hW
      simp (disch:=omega) [-getElem?_pos,wrap64,dC,cT,m2];exact hW)
theorem amy{c:List Pt}{i:Nat}:oI c i (nth c (i-1)).x=(nth c (i-1)).y:=by simp[oI]
theorem amz{c:List Pt}(h:Cv c){k:Nat}(hk:k<c.length){x:Int}(hx:x≤(nth c k).x):ik c x≤(nth c k).y:=by
 rcases OE h x with h1 | ⟨i,a,b,d,e⟩ | h1
 ·rw[Bz h h1];exact h.le (by omega) hk
 ·rw[CM h a b d e]
  have h2:=F7 h a b d e;rcases Nat.lt_or_ge k i with h3|h3
  ·rcases Nat.lt_or_ge k (i-1) with h4|h4
   ·have:=h.lt h4 (by omega);omega
   ·obtain rfl:k=i-1:=by omega
    have:x=(nth c (i-1)).x:=by omega
    rw[this,amy];omega
  ·have:=h.le h3 hk
   unfold oI;omega
 ·have hp:=h.pos
  rcases Nat.lt_or_ge k (c.length-1) with h4|h4
  ·have:=h.lt h4 (by omega);omega
  ·obtain rfl:k=c.length-1:=by omega
   rw[Jp h h1];omega
theorem Pk{c:List Pt}(h:Cv c){x x':Int}(hx:x≤x'):ik c x≤ik c x':=by
 rcases OE h x' with h1 | ⟨i,a,b,d,e⟩ | h1
 ·rw[Bz h h1,Bz h (by omega)];omega
 ·by_cases h2:(nth c (i-1)).x≤x
  ·rw[CM h a b d e,CM h a b h2 (by omega)]
   have h3:=h.up i a b;have h4:=h.mono i a b;unfold oI;have:=Int.tdiv_le_tdiv (a:=((nth c i).y-(nth c (i-1)).y)*(x-(nth c (i-1)).x)) (b:=((nth c i).y-(nth c (i-1)).y)*(x'-(nth c (i-1)).x)) (c:=(nth c i).x-(nth c (i-1)).x) (by omega)
    (Int.mul_le_mul_of_nonneg_left (by omega) (by omega))
   omega
  ·have h5:=amz h (k:=i-1) (by omega) (x:=x) (by omega)
   have h6:=F7 h a b d e;rw[CM h a b d e];unfold oI;omega
 ·rw[Jp h h1]
  exact(DA h x).2
theorem amA{c:List Pt}(h:c=[]∨gi c=0){o o':Int}(ho:o≤o'):sj c o≤sj c o':=by
 rcases h with rfl|h
 ·simp[sj]
 ·unfold sj
  rw[if_neg (by have:=s9 h;omega),if_neg (by have:=s9 h;omega)]
  exact Pk (mb h) ho
theorem Pl{g:Gt}(h:Gv g)(lv:Int):qR g.r lv=[]∨gi (qR g.r lv)=0:=ZD (P:=fun c=>gi c=0) h.cur
theorem amB{g:Gt}(h:Gv g){lv o o':Int}(ho:o≤o'):iR g o lv≤iR g o' lv:=amA (Pl h lv) ho
theorem tc{g:Gt}(h:Gv g)(o lv:Int):0≤iR g o lv∧iR g o lv≤1073741824:=by
 unfold iR sj;have h1:=ZD (P:=fun c=>gi c=0∧(nth c (c.length-1)).y≤1073741824) (l:=g.r) (lv:=lv) (fun i hi=>⟨h.cur i hi,h.top i hi⟩);rcases h1 with h1 | ⟨h1,h2⟩
 ·rw[h1];simp
 ·rw[if_neg (by have:=s9 h1;omega)]
  have h3:=DA (mb h1) o;have h4:=(mb h1).y0 0 (s9 h1);omega
theorem Gu{g:List Gt}{s:List Gs}{lv:Int}(h:aE g s lv=0):g.length≤8∧g.length=s.length∧yh g s∧(∀i,i<g.length→Gv (nth g i))∧0≤lv∧lv≤16777216:=by
 unfold aE at h;split at h
 ·cases h
 split at h
 ·cases h
 split at h
 ·cases h
 split at h
 ·rename_i h1;exact absurd h h1
 split at h
 ·cases h
 rename_i h1 h2 h3 h4 h5;have h4:=Decidable.of_not_not h4;exact⟨by omega,by omega,Decidable.of_not_not h3,fun i hi=>ZC (rU h4 i (by omega) (by omega)),by omega⟩
def lA(f:Gt→Gs→Int)(g:List Gt)(s:List Gs)(i:Nat):Int:=(List.zipWith f (g.take i) (s.take i)).sum
theorem Gx{f:Gt→Gs→Int}{g:List Gt}{s:List Gs}:lA f g s 0=0:=by simp[lA]
theorem BM{f:Gt→Gs→Int}{g:List Gt}{s:List Gs}{i:Nat}(h1:i<g.length)(h2:i<s.length):lA f g s (i+1)=lA f g s i+f (nth g i) (nth s i):=by
 unfold lA;rw[xX h1 h2,List.sum_append];simp
theorem Pm{f:Gt→Gs→Int}{g:List Gt}{s:List Gs}(hl:g.length=s.length)(h:∀i,i<g.length→0≤f (nth g i) (nth s i)∧f (nth g i) (nth s i)≤1073741824):∀i,i≤g.length→0≤lA f g s i∧lA f g s i≤1073741824*i:=by
 intro i;induction i with
 |zero=>intro _;rw[Gx];omega
 |succ i ih =>
  intro hi;rw[BM (by omega) (by omega)]
  have:=ih (by omega)
  have:=h i (by omega)
  omega
def gj(lv:Int)(g:Gt)(s:Gs):Int:=iR g (eV g s).lo lv
def JL(lv:Int)(g:Gt)(s:Gs):Int:=iR g (eV g s).hi lv
noncomputable def DM(g:List Gt)(s:List Gs)(lv:Int):V:=if aE g s lv=0 then .tuple [.agg [i64 (lA (gj lv) g s g.length),i64 (lA (JL lv) g s g.length)],i64 0] else .tuple [.agg [i64 0,i64 0],i64 (aE g s lv)]
theorem Po(g:List Gt)(s:List Gs)(lv:Int)(G:List aP):aX F 229 [jV g,jJ s,i64 lv] G=some (DM g s lv,G) :=
 bM rfl rfl (by
  generalize hW:DM g s lv=W;unfold DM at hW;by_cases he:aE g s lv=0
  ·rw[if_pos he]at hW
   obtain⟨h1,h2,h3,h4,h5⟩:=Gu he;have r1:=Pm (f:=gj lv) h2 (fun i hi=>tc (h4 i hi) _ _);have r2:=Pm (f:=JL lv) h2 (fun i hi=>tc (h4 i hi) _ _);simp (disch:=omega) [-getElem?_pos,wrap64,Oq,ZG,he];refine go_loop (fun i:Nat=>ak1 (jJ s) lv (jV g) g.length i [i64 0,i64 0] [i64 (lA (gj lv) g s i),i64 (lA (JL lv) g s i)] G) (fun i=>i≤g.length) (fun i=>g.length-i) 0 rfl (by simp[Gx]) (by omega) ?_
   rintro i hi;simp (disch:=omega) [-getElem?_pos,wrap64,Yi];refine bE (fun h6=>?_) (fun h6=>?_)
   ·have h6:i<g.length:=by omega
    have h7:i<s.length:=by omega
    obtain⟨t,ht⟩:=ZE (h4 i h6) lv [];have hr:=ZF (h4 i h6) (h3 i h6);have hf:=Ph (Pl (h4 i h6) lv);have b1:=r1 i (by omega)
    have b2:=r2 i (by omega)
    have b3:=tc (h4 i h6) (eV (nth g i) (nth s i)).lo lv;have b4:=tc (h4 i h6) (eV (nth g i) (nth s i)).hi lv;unfold iR at b3 b4;simp (disch:=omega) [-getElem?_pos,wrap64,aW (l:=g),aW (l:=s),ht,hr,hf];exact bF (i+1) (by simp[BM h6 h7,gj,JL,iR]) (by omega) (by omega)
   ·obtain rfl:i=g.length:=by omega
    exact hW
  ·rw[if_neg he]at hW
   simp (disch:=omega) [-getElem?_pos,wrap64,Oq,ZG,he];exact hW)
def lB(f:Bd→Int)(g:List Gt)(s:List Gs):List Int:=List.zipWith (fun g s=>f (eV g s)) g s
theorem Af{f:Bd→Int}{g:List Gt}{s:List Gs}(h:g.length=s.length):(lB f g s).length=g.length:=by simp[lB,h]
theorem Gy{f:Bd→Int}{g:List Gt}{s:List Gs}{i:Nat}(h1:i<g.length)(h2:i<s.length):nth (lB f g s) i=f (eV (nth g i) (nth s i)):=DG h1 h2
theorem amC{g:List Gt}{s:List Gs}(hl:g.length=s.length)(hn:g.length≤8)(hs:yh g s)(hv:∀i,i<g.length→Gv (nth g i))(G:List aP) :
  aX F 174 [jV g,jJ s] G=some (.tuple [own (lB Bd.lo g s),own (lB Bd.hi g s)],G) :=
 bM rfl rfl (by
  simp (disch:=omega) [-getElem?_pos,wrap64,Xo];refine go_loop (fun i:Nat=>aj3 (jJ s) (.slice (some 1028) 1 ((lB Bd.lo (g.take i) (s.take i)).map fun n=>[i64 n])) (.slice (some 1033) 1 ((lB Bd.hi (g.take i) (s.take i)).map fun n=>[i64 n])) (jV g) g.length i i i G) (fun i=>i≤g.length) (fun i=>g.length-i) 0 rfl (by simp[lB]) (by omega) ?_
  rintro i hi;have e1:(lB Bd.lo (g.take i) (s.take i)).length=i:=by rw[Af (by simp;omega)];simp;omega
  have e2:(lB Bd.hi (g.take i) (s.take i)).length=i:=by rw[Af (by simp;omega)];simp;omega
  simp (disch:=omega) [-getElem?_pos,wrap64,Xn,e1,e2];refine bE (fun h6=>?_) (fun h6=>?_)
  ·have h6:i<g.length:=by omega
   have h7:i<s.length:=by omega
   have hr:=amx (hv i h6) (hs i h6);simp (disch:=omega) [-getElem?_pos,wrap64,aW (l:=g),aW (l:=s),hr,e1,e2];refine bF (i+1) ?_ (by omega) (by omega)
   unfold lB;rw[xX h6 h7,xX h6 h7];simp
  ·obtain rfl:i=g.length:=by omega
   have t1:g.take g.length=g:=List.take_length;have t2:s.take g.length=s:=by rw[hl];exact List.take_length
   rw[t1,t2]at *;simp (disch:=omega) [-getElem?_pos,wrap64,e1,e2])
def pH(g:List Gt)(l:List Int)(lv:Int)(i:Nat):Int:=(List.zipWith (fun g o=>iR g o lv) (g.take i) (l.take i)).sum
theorem JM{g:List Gt}{l:List Int}{lv:Int}:pH g l lv 0=0:=by simp[pH]
theorem Gz{g:List Gt}{l:List Int}{lv:Int}{i:Nat}(h1:i<g.length)(h2:i<l.length):pH g l lv (i+1)=pH g l lv i+iR (nth g i) (nth l i) lv:=by
 unfold pH;rw[xX h1 h2,List.sum_append];simp
theorem amD{g:List Gt}{l:List Int}{lv:Int}(hl:g.length=l.length)(hv:∀i,i<g.length→Gv (nth g i)):∀i,i≤g.length→0≤pH g l lv i∧pH g l lv i≤1073741824*i:=by
 intro i;induction i with
 |zero=>intro _;rw[JM];omega
 |succ i ih =>
  intro hi;rw[Gz (by omega) (by omega)]
  have:=ih (by omega)
  have:=tc (hv i (by omega)) (nth l i) lv
  omega
theorem GA{g:List Gt}{l:List Int}(hl:g.length=l.length)(hn:g.length≤8)(hv:∀i,i<g.length→Gv (nth g i))(lv:Int)(G:List aP) :
  aX F 175 [jV g,ints l,i64 lv] G=some (i64 (pH g l lv g.length),G) :=
 bM rfl rfl (by
  generalize hW:pH g l lv g.length=W;simp (disch:=omega) [-getElem?_pos,wrap64,Xq];refine go_loop (fun i:Nat=>aj7 (ints l) lv (pH g l lv i) (jV g) g.length i G) (fun i=>i≤g.length) (fun i=>g.length-i) 0 rfl (by simp[JM]) (by omega) ?_
  rintro i hi;simp (disch:=omega) [-getElem?_pos,wrap64,Xp];refine bE (fun h6=>?_) (fun h6=>?_)
  ·have h6:i<g.length:=by omega
   have h7:i<l.length:=by omega
   have hr:=amw (hv i h6);have b1:=amD (lv:=lv) hl hv i (by omega)
   have b2:=tc (hv i h6) (nth l i) lv;simp (disch:=omega) [-getElem?_pos,wrap64,aW (l:=g),dj h7,hr];exact bF (i+1) (by simp[Gz h6 h7]) (by omega) (by omega)
  ·obtain rfl:i=g.length:=by omega
   exact hW)
theorem amE{f:Bd→Int}{g:List Gt}{s:List Gs}{lv:Int}(hl:g.length=s.length):∀i,i≤g.length→pH g (lB f g s) lv i=lA (fun g s=>iR g (f (eV g s)) lv) g s i:=by
 intro i;induction i with
 |zero=>intro _;rw[JM,Gx]
 |succ i ih =>
  intro hi;rw[Gz (by omega) (by rw[Af hl];omega),BM (by omega) (by omega),ih (by omega),Gy (by omega) (by omega)]
theorem amF{n:Int}(h1:0≤n)(h2:n≤18446744073709551615):IntKind.u64.wrap n=n:=by
 simp[IntKind.wrap,IntKind.bits,IntKind.signed];omega
def ZH(f:FuncId)(cap:List V)(G:List aP)(N:Int)(p:Int→Bool):Prop:=∀m,0≤m→m<N→aX F f (i64 m::cap) G=some (.bool (p m),G)
theorem amG{f:FuncId}{cap:List V}{G:List aP}{N:Int}{p:Int→Bool}(hN:0≤N)(hN2:N≤1000000)(h:ZH f cap G N p) :
  ∃r,aX F 241 [i64 N,.fn f cap] G=some (i64 r,G)∧0≤r∧r≤N∧(0<r→p (r-1)=false)∧(r<N→p r=true):=by
 suffices hs:∀Q:V→List aP→Prop,(∀r,0≤r→r≤N→(0<r→p (r-1)=false)→(r<N→p r=true)→Q (i64 r) G)→gy (aX F) 241 [i64 N,.fn f cap] G Q by
  obtain⟨_,_,h,r,rfl,rfl,h1⟩:=hs (fun v G'=>∃r,v=i64 r∧G'=G∧0≤r∧r≤N∧(0<r→p (r-1)=false)∧(r<N→p r=true)) fun r a b c d=>⟨r,rfl,rfl,a,b,c,d⟩;exact⟨r,h,h1⟩
 intro Q hQ;refine gS rfl rfl ?_;simp (disch:=omega) [wrap64,Yv];refine go_loop (fun s:Int×Int=>alg (.fn f cap) s.1 s.2 G) (fun s=>0≤s.1∧s.1≤s.2∧s.2≤N∧(0<s.1→p (s.1-1)=false)∧(s.2<N→p s.2=true)) (fun s=>(s.2-s.1).toNat) (0,N) rfl (by simp) ⟨by simp,by simpa using hN,by simp,by simp,by simp⟩ ?_
 rintro⟨a,b⟩ ⟨h1,h2,h3,h4,h5⟩;simp only at h1 h2 h3 h4 h5;simp (disch:=omega) [wrap64,Yu];refine bE (fun h6=>?_) (fun h6=>?_)
 ·have e1:IntKind.u64.wrap (a+b)=a+b:=amF (by omega) (by omega)
  have e2:(a+b).fdiv 2=(a+b) / 2:=Int.fdiv_eq_ediv_of_nonneg _ (by omega)
  have hp:=h ((a+b) / 2) (by omega) (by omega)
  have e3:(2:Int) ^ (min 1 IntKind.u64.bits)=2:=rfl;simp (disch:=omega) [wrap64,e1,e2,e3,hp];cases hq:p ((a+b) / 2) with
  |false =>
   simp (disch:=omega) [wrap64,wrap64];refine bF ((a+b) / 2+1,b) (by simp) ⟨by simp;omega,by simp;omega,h3,fun _=>?_,h5⟩ (by simp;omega)
   simpa using hq
  |true =>
   simp (disch:=omega) [wrap64,wrap64];exact bF (a,(a+b) / 2) (by simp) ⟨h1,by simp;omega,by simp;omega,h4,fun _=>hq⟩ (by simp;omega)
 ·obtain rfl:a=b:=by omega
  exact hQ a (by omega) (by omega) h4 h5
def um(p:Int→Bool):Nat→Int→Int
 |0,o=>o
 |n+1,o=>if p o then o else um p n (o+1)
theorem Pp{p:Int→Bool}:∀{n:Nat} {o x:Int},o≤x→x≤o+n→(∀m,o≤m→m<x→p m=false)→(x<o+n→p x=true)→um p n o=x
 |0,o,x,h1,h2,_,_=>by simp[um];omega
 |n+1,o,x,h1,h2,h3,h4=>by
  unfold um;by_cases h:o=x
  ·subst h
   rw[if_pos (h4 (by omega))]
  ·rw[if_neg (by rw[h3 o (by omega) (by omega)];simp)]
   exact Pp (by omega) (by omega) (fun m a b=>h3 m (by omega) b) (fun a=>h4 (by omega))
theorem amH{f:FuncId}{cap:List V}{G:List aP}{i j:Nat}{lo hi m:Int}{b:Bool}(h1:G[i]?=some (.cells [.fn f cap]))(h2:G[j]?=some (.cells [i64 lo,i64 hi]))
  (hw:-1000000≤lo+m∧lo+m≤1000000) (h:aX F f (i64 (lo+m)::cap) G=some (.bool b,G)):aX F 242 [i64 m,.bG i 0,.bG j 0] G=some (.bool b,G) :=
 bM rfl rfl (by
  have e:IntKind.i64.wrap (lo+m)=lo+m:=wrap64 (by omega) (by omega)
  simp[wrap64,Yw,h1,h2,h,e])
theorem amI{f:FuncId}{cap:List V}{G:List aP}{lo hi:Int}{p:Int→Bool}(hl:0≤lo∧lo≤hi∧hi≤1000)(hp:∀m m',p m=true→m≤m'→p m'=true)
  (h:∀E m,lo≤m→m≤hi→aX F f (i64 m::cap) (G++E)=some (.bool (p m),G++E)) :
  aX F 234 [.agg [i64 lo,i64 hi],.fn f cap] G=some (i64 (um p (hi-lo).toNat lo),G++[.cells [i64 lo,i64 hi],.cells [.fn f cap]]):=by
 have hs:ZH 242 [.bG (G.length+1) 0,.bG G.length 0] (G++[.cells [i64 lo,i64 hi],.cells [.fn f cap]]) (hi-lo+1) (fun m=>p (lo+m)):=fun m a b =>
  amH Tw C5 (by omega) (h _ _ (by omega) (by omega))
 obtain⟨r,h1,h2,h3,h4,h5⟩:=amG (by omega) (by omega) hs
 have e:um p (hi-lo).toNat lo=min (lo+r) hi:=by
  refine Pp (by omega) (by omega) (fun m a b=>?_) (fun a=>?_)
  ·have h6:=h4 (by omega)
   cases hq:p m with
   |false=>rfl
   |true =>
    have:=hp m (lo+(r-1)) hq (by omega)
    rw[h6]at this;cases this
  ·have:=h5 (by omega)
   rw[show min (lo+r) hi=lo+r by omega]
   exact this
 rw[e];exact bM rfl rfl (by
  simp (disch:=omega) [wrap64,Ym,h1,C5,Tw])
theorem amJ{G:List aP}{i j:Nat}{m w:Int}{c:List Pt}(h1:G[i]?=some (.cells [.fn 230 []]))(h2:G[j]?=some (.cells [iv c,i64 w]))(hc:c=[]∨gi c=0) :
  aX F 235 [i64 m,.bG i 0,.bG j 0] G=some (.bool (decide (w≤sj c m)),G) :=
 bM rfl rfl (by
  simp[wrap64,Yn,h1,h2,amv hc])
def pI(lv w:Int)(g:Gt)(s:Gs)(sum:Int):Int :=
 if sum<w then um (fun o=>decide (w-(sum-gj lv g s)≤iR g o lv)) ((eV g s).hi-(eV g s).lo).toNat (eV g s).lo else (eV g s).lo
def bs(lv w:Int)(g:List Gt)(s:List Gs):Nat→List Int×Int
 |0=>(lB Bd.lo g s,lA (gj lv) g s g.length)
 |i+1=>((bs lv w g s i).1.set i (pI lv w (nth g i) (nth s i) (bs lv w g s i).2),(bs lv w g s i).2-gj lv (nth g i) (nth s i)+iR (nth g i) (pI lv w (nth g i) (nth s i) (bs lv w g s i).2) lv)
def DN(o:Int)(s:Gs):Gs:=⟨o,s.j⟩
def mH(l:List Int)(s:List Gs):List Gs:=List.zipWith DN l s
noncomputable def kS(g:List Gt)(s:List Gs)(lv w:Int):Int:=if aE g s lv≠0 then aE g s lv else if ¬(0≤w∧w≤1073741824) then 1 else 0
noncomputable def oi(g:List Gt)(s:List Gs)(lv w:Int):List Gs:=if kS g s lv w=0 then mH (bs lv w g s g.length).1 s else []
noncomputable def nA(g:List Gt)(s:List Gs)(lv w:Int):Int:=if kS g s lv w=0 then (bs lv w g s g.length).2 else 0
theorem oj{lv w:Int}{g:List Gt}{s:List Gs}(hl:g.length=s.length):∀i,(bs lv w g s i).1.length=g.length
 |0=>Af hl
 |i+1=>by simp[bs,oj hl i]
theorem BN{g:Gt}{s:Gs}(h:Gv g)(hs:mY g s):0≤(eV g s).lo∧(eV g s).lo≤(eV g s).hi∧(eV g s).hi≤g.c9:=by
 have h1:=h.c9;have h2:=h.move;have h3:=hs.1;have h4:=hs.2;unfold eV;split
 ·simp only;omega
 ·simp only;omega
theorem ZI{p:Int→Bool}:∀{n:Nat} {o:Int},o≤um p n o∧um p n o≤o+n
 |0,o=>by simp[um]
 |n+1,o=>by
  unfold um;have:=ZI (p:=p) (n:=n) (o:=o+1);split
  ·omega
  ·omega
theorem amK{lv w:Int}{g:Gt}{s:Gs}(h:Gv g)(hs:mY g s)(sum:Int):(eV g s).lo≤pI lv w g s sum∧pI lv w g s sum≤(eV g s).hi:=by
 have:=BN h hs;unfold pI;split
 ·have:=ZI (p:=fun o=>decide (w-(sum-gj lv g s)≤iR g o lv)) (n:=((eV g s).hi-(eV g s).lo).toNat) (o:=(eV g s).lo)
  omega
 ·omega
theorem amL{lv w:Int}{g:List Gt}{s:List Gs}(hl:g.length=s.length)(hs:yh g s)(hv:∀i,i<g.length→Gv (nth g i)):∀i,i≤g.length →
  lA (gj lv) g s g.length-lA (gj lv) g s i≤(bs lv w g s i).2∧(bs lv w g s i).2≤lA (gj lv) g s g.length-lA (gj lv) g s i+1073741824*i:=by
 intro i;induction i with
 |zero=>intro _;simp[bs,Gx]
 |succ i ih =>
  intro hi;have h1:=ih (by omega)
  have h2:=tc (hv i (by omega)) (pI lv w (nth g i) (nth s i) (bs lv w g s i).2) lv
  have h3:=tc (hv i (by omega)) (eV (nth g i) (nth s i)).lo lv
  rw[BM (by omega) (by omega)]
  simp only[bs,gj]at h1 ⊢;omega
theorem ZJ{lv w:Int}{g:List Gt}{s:List Gs}(hl:g.length=s.length)(hn:g.length≤8)(hs:yh g s)(hv:∀i,i<g.length→Gv (nth g i)){i:Nat}(hi:i≤g.length) :
  0≤(bs lv w g s i).2∧(bs lv w g s i).2≤17179869184∧(i<g.length→gj lv (nth g i) (nth s i)≤(bs lv w g s i).2):=by
 have h1:=amL (lv:=lv) (w:=w) hl hs hv i hi;have r:=Pm (f:=gj lv) hl (fun i hi=>tc (hv i hi) _ _);have r1:=r g.length (Nat.le_refl _);have r2:=r i hi;have mono:∀k,i≤k→k≤g.length→lA (gj lv) g s i≤lA (gj lv) g s k:=by
  intro k h;induction k with
  |zero=>intro _;obtain rfl:i=0:=by omega
         omega
  |succ k ih =>
   intro hk;rcases Nat.lt_or_ge k i with h3|h3
   ·obtain rfl:i=k+1:=by omega
    omega
   ·rw[BM (by omega) (by omega)]
    have:=ih h3 (by omega)
    have:=tc (hv k (by omega)) (eV (nth g k) (nth s k)).lo lv
    unfold gj;unfold gj at *;omega
 have m1:=mono g.length hi (Nat.le_refl _);refine⟨by omega,by omega,fun h=>?_⟩
 have m2:=mono (i+1) (by omega) (by omega)
 have m3:lA (gj lv) g s (i+1)≤lA (gj lv) g s g.length:=by
  have amM:∀k,i+1≤k→k≤g.length→lA (gj lv) g s (i+1)≤lA (gj lv) g s k:=by
   intro k hk;induction k with
   |zero=>omega
   |succ k ih =>
    intro mP;rcases Nat.lt_or_ge k (i+1) with h3|h3
    ·obtain rfl:i=k:=by omega
     omega
    ·rw[BM (i:=k) (by omega) (by omega)]
     have:=ih h3 (by omega)
     have:=tc (hv k (by omega)) (eV (nth g k) (nth s k)).lo lv
     unfold gj;unfold gj at *;omega
  exact amM g.length (by omega) (Nat.le_refl _)
 rw[BM (by omega) (by omega)]at m3
 omega
theorem amN(g:List Gt)(s:List Gs)(lv w:Int):∃G',aX F 223 [jV g,jJ s,i64 lv,i64 w] []=some (.tuple [.slice (some 0) 2 ((oi g s lv w).map Gs.row),i64 (nA g s lv w),i64 (kS g s lv w)],G'):=by
 suffices h:∀Q:V→List aP→Prop,(∀G',Q (.tuple [.slice (some 0) 2 ((oi g s lv w).map Gs.row),i64 (nA g s lv w),i64 (kS g s lv w)]) G')→gy (aX F) 223 [jV g,jJ s,i64 lv,i64 w] [] Q by
  obtain⟨_,G',h,rfl⟩:=h (fun v G'=>v=.tuple [.slice (some 0) 2 ((oi g s lv w).map Gs.row),i64 (nA g s lv w),i64 (kS g s lv w)]) fun _=>rfl;exact⟨G',h⟩
 intro Q hQ;refine gS rfl rfl ?_;by_cases he:aE g s lv=0
 ·obtain⟨h1,h2,h3,h4,h5⟩:=Gu he
  by_cases hw:0≤w∧w≤1073741824
  ·have hE:kS g s lv w=0:=by simp[kS,he,hw]
   simp only[oi,nA,hE,if_true]at hQ;have sQ:(!decide (0≤w) || !decide (w≤1073741824))=false:=by simp;omega
   have vC:(decide (0≤w)&&decide (w≤1073741824))=true:=by simp;omega
   have e0:bs lv w g s 0=(lB Bd.lo g s,lA (gj lv) g s g.length):=rfl;simp (disch:=omega) [-getElem?_pos,wrap64,Ji,Po,DM,he,dC,sQ,vC];have hou:∀i,i≤g.length→(mH ((bs lv w g s i).1.take i) (s.take i)).length=i:=fun i hi=>by
    have:=oj (lv:=lv) (w:=w) h2 i;simp[mH];omega
   refine go_loop (fun x:Nat×List aP=>akR (jJ s) lv w (bs lv w g s x.1).2 (.bG 0 0) (.slice (some 1083) 2 ((mH ((bs lv w g s x.1).1.take x.1) (s.take x.1)).map Gs.row)) (jV g) g.length x.1 x.1 x.2)
    (fun x=>x.1≤g.length∧x.2[0]?=some (.cells [.fn 230 []])) (fun x=>g.length-x.1) (0,[.cells [.fn 230 []]]) rfl (by simp[bs,mH]) ⟨by simp,rfl⟩ ?_
   rintro⟨i,G⟩ ⟨hi,hG⟩;simp only at hi hG;have DO:=hou i hi;have Pq:0<G.length:=by
    rcases Nat.eq_zero_or_pos G.length with h|h
    ·rw[List.getElem?_eq_none (by omega)]at hG;cases hG
    ·exact h
   simp (disch:=omega) [-getElem?_pos,wrap64,Yc];refine bE (fun h6=>?_) (fun h6=>?_)
   ·have h6:i<g.length:=by omega
    have h7:i<s.length:=by omega
    obtain⟨t,ht⟩:=ZE (h4 i h6) lv [];have hr:=ZF (h4 i h6) (h3 i h6);have hk:=Pl (h4 i h6) lv;have hf:=Ph hk;have hro:=BN (h4 i h6) (h3 i h6);have hm:=(h4 i h6).c9;obtain⟨b1,b2,b3⟩:=ZJ (lv:=lv) (w:=w) h2 h1 h3 h4 (i:=i) hi;have b3:=b3 h6;have b4:=tc (h4 i h6) (eV (nth g i) (nth s i)).lo lv;have b5:=tc (h4 i h6) (pI lv w (nth g i) (nth s i) (bs lv w g s i).2) lv;have BO:=oj (lv:=lv) (w:=w) h2 i;have ZK:mH ((bs lv w g s (i+1)).1.take (i+1)) (s.take (i+1))=mH ((bs lv w g s i).1.take i) (s.take i)++[DN (pI lv w (nth g i) (nth s i) (bs lv w g s i).2) (nth s i)]:=by
     unfold mH;rw[xX (by rw[oj h2];exact h6) h7]
     simp only[bs];rw[List.take_set_of_le (Nat.le_refl _)];congr 2;simp[nth,BO,h6]
    by_cases vB:(bs lv w g s i).2<w
    ·have xf:pI lv w (nth g i) (nth s i) (bs lv w g s i).2=um (fun o=>decide (w-((bs lv w g s i).2-gj lv (nth g i) (nth s i))≤iR (nth g i) o lv)) ((eV (nth g i) (nth s i)).hi-(eV (nth g i) (nth s i)).lo).toNat (eV (nth g i) (nth s i)).lo:=by
      unfold pI;rw[if_pos vB]
     have hL:=amI (f:=235) (cap:=[.bG 0 0,.bG G.length 0]) (G:=G++[.cells [iv (qR (nth g i).r lv),i64 (w-((bs lv w g s i).2-gj lv (nth g i) (nth s i)))]]) (lo:=(eV (nth g i) (nth s i)).lo) (hi:=(eV (nth g i) (nth s i)).hi)
      (p:=fun o=>decide (w-((bs lv w g s i).2-gj lv (nth g i) (nth s i))≤iR (nth g i) o lv)) (by omega) (fun m m' hp wY=>by
       have:=amB (h4 i h6) (lv:=lv) wY;simp only[decide_eq_true_eq]at hp ⊢;omega) (fun E m _ _=>amJ (by rw[List.append_assoc,List.getElem?_append_left Pq];exact hG) (by rw[List.append_assoc];exact C5) hk)
     rw[←xf]at hL;unfold gj iR at hL b3;unfold iR at b4 b5;simp (disch:=omega) [-getElem?_pos,wrap64,aW (l:=g),aW (l:=s),ht,hr,hf,C5,vB];simp (disch:=omega) [-getElem?_pos,wrap64,hL,C5,hf,aW (l:=s),DO];refine bF (i+1,G++[.cells [iv (qR (nth g i).r lv),i64 (w-((bs lv w g s i).2-gj lv (nth g i) (nth s i)))],.cells [i64 (eV (nth g i) (nth s i)).lo,i64 (eV (nth g i) (nth s i)).hi],.cells [.fn 235 [.bG 0 0,.bG G.length 0]]])
      (by rw[ZK];simp[bs,gj,iR,DN,DO]) ⟨by simp;omega,by simp only;rw[List.getElem?_append_left Pq];exact hG⟩ (by simp;omega)
    ·have xf:pI lv w (nth g i) (nth s i) (bs lv w g s i).2=(eV (nth g i) (nth s i)).lo:=by
      unfold pI;rw[if_neg vB]
     have hb:(bs lv w g s (i+1)).2=(bs lv w g s i).2:=by
      simp only[bs,gj,xf];omega
     simp (disch:=omega) [-getElem?_pos,wrap64,aW (l:=g),aW (l:=s),ht,hr,hf,C5,vB,DO];refine bF (i+1,G++[.cells [iv (qR (nth g i).r lv),i64 0]])
      (by rw[ZK,hb,xf];simp[DN,DO]) ⟨by simp;omega,by simp only;rw[List.getElem?_append_left Pq];exact hG⟩ (by simp;omega)
   ·obtain rfl:i=g.length:=by omega
    have t1:(bs lv w g s g.length).1.take g.length=(bs lv w g s g.length).1:=List.take_of_length_le (by rw[oj h2];omega)
    have t2:s.take g.length=s:=List.take_of_length_le (by omega)
    rw[t1,t2]at DO ⊢;simp (disch:=omega) [-getElem?_pos,wrap64,DO];exact hQ _
  ·have vC:(decide (0≤w)&&decide (w≤1073741824))=false:=by simp;omega
   have hE:kS g s lv w=1:=by simp[kS,he];omega
   have wG:¬ kS g s lv w=0:=by rw[hE];omega
   simp only[oi,nA,if_neg wG]at hQ;rw[hE]at hQ;have sQ:(!decide (0≤w) || !decide (w≤1073741824))=true:=by simp;omega
   simp (disch:=omega) [-getElem?_pos,wrap64,Ji,Po,DM,he,dC,sQ,vC];exact hQ _
 ·have hE:kS g s lv w=aE g s lv:=by simp[kS,he]
  have wG:¬ kS g s lv w=0:=by rw[hE];exact he
  simp only[oi,nA,if_neg wG]at hQ;rw[hE]at hQ;simp (disch:=omega) [-getElem?_pos,wrap64,Ji,Po,DM,he];exact hQ _
end Go.Proofs.YtocclbnghhaejaaGreat
namespace Go.Proofs.YtocclbnghhaejaaGreat
set_option linter.all false
open Go.Vm
theorem JN{l:List Int}{i:Nat}{o:Int}(h:i<l.length):nth (l.set i o) i=o:=by simp[nth,h]
theorem ZL{l:List Int}{i k:Nat}{o:Int}(h:i≠k):nth (l.set i o) k=nth l k:=by simp[nth,h]
theorem ZM{l:List Int}{i:Nat}(h:i<l.length):l.set i (nth l i)=l:=by
 apply List.ext_getElem?;intro k;by_cases hk:i=k
 ·subst hk
  rw[List.getElem?_set_self h,aW h]
 ·rw[List.getElem?_set_ne hk]
theorem amQ{g:List Gt}{l:List Int}{lv o:Int}{i:Nat}(hl:g.length=l.length)(hi:i<g.length):∀k,k≤g.length→pH g (l.set i o) lv k=pH g l lv k+(if i<k then iR (nth g i) o lv-iR (nth g i) (nth l i) lv else 0):=by
 intro k;induction k with
 |zero=>intro _;simp[JM]
 |succ k ih =>
  intro hk;rw[Gz (by omega) (by simp;omega),Gz (by omega) (by omega),ih (by omega)]
  by_cases h1:i=k
  ·subst h1
   rw[JN (by omega),if_neg (by omega),if_pos (by omega)]
   omega
  ·rw[ZL h1]
   by_cases h2:i<k
   ·rw[if_pos h2,if_pos (by omega)];omega
   ·rw[if_neg h2,if_neg (by omega)];omega
section
variable {g:List Gt} {s:List Gs} {lv w:Int}
theorem JO(hl:g.length=s.length):∀{i k:Nat},i≤k→k<g.length→nth (bs lv w g s i).1 k=(eV (nth g k) (nth s k)).lo:=by
 intro i;induction i with
 |zero=>intro k _ hk;exact Gy hk (by omega)
 |succ i ih =>
  intro k h hk;simp only[bs];rw[ZL (by omega)]
  exact ih (by omega) hk
theorem Pr(hl:g.length=s.length){i:Nat}(ht:pH g (bs lv w g s i).1 lv g.length=(bs lv w g s i).2)(hi:i<g.length)(o:Int) :
  pH g ((bs lv w g s i).1.set i o) lv g.length=(bs lv w g s i).2-gj lv (nth g i) (nth s i)+iR (nth g i) o lv:=by
 rw[amQ (by rw[oj hl]) hi _ (Nat.le_refl _),if_pos hi,ht,JO hl (Nat.le_refl _) hi]
 unfold gj;omega
theorem JP(hl:g.length=s.length):∀i,i≤g.length→pH g (bs lv w g s i).1 lv g.length=(bs lv w g s i).2:=by
 intro i;induction i with
 |zero=>intro _;exact amE hl _ (Nat.le_refl _)
 |succ i ih =>
  intro hi;have:=Pr hl (ih (by omega)) (by omega) (pI lv w (nth g i) (nth s i) (bs lv w g s i).2)
  simpa only[bs] using this
theorem amR(hl:g.length=s.length){j:Nat}(hw:w≤(bs lv w g s j).2):∀k,j≤k→k≤g.length→bs lv w g s k=bs lv w g s j:=by
 intro k Pu;induction k with
 |zero=>intro _;obtain rfl:j=0:=by omega
        rfl
 |succ k ih =>
  intro hk;rcases Nat.lt_or_ge k j with h|h
  ·obtain rfl:j=k+1:=by omega
   rfl
  ·have h1:=ih h (by omega)
   have ho:pI lv w (nth g k) (nth s k) (bs lv w g s k).2=(eV (nth g k) (nth s k)).lo:=by
    unfold pI;rw[if_neg (by rw[h1];omega)]
   have h2:bs lv w g s (k+1)=bs lv w g s k:=by
    have e1:(bs lv w g s k).1.set k (eV (nth g k) (nth s k)).lo=(bs lv w g s k).1:=by
     rw[←JO (lv:=lv) (w:=w) hl (Nat.le_refl k) (by omega)]
     exact ZM (by rw[oj hl];omega)
    simp only[bs,ho,gj,e1];rw[show(bs lv w g s k).2-iR (nth g k) (eV (nth g k) (nth s k)).lo lv+iR (nth g k) (eV (nth g k) (nth s k)).lo lv=(bs lv w g s k).2 by omega]
   rw[h2,h1]
structure Way(lv w:Int)(g:List Gt)(s:List Gs)(i:Nat)(o:Int):Prop where
 lt:i<g.length
 lo:(eV (nth g i) (nth s i)).lo≤o
 hi:o≤(eV (nth g i) (nth s i)).hi
 no:∀p,(eV (nth g i) (nth s i)).lo≤p→p<o→(bs lv w g s i).2-gj lv (nth g i) (nth s i)+iR (nth g i) p lv<w
theorem Way.done{i:Nat}{o:Int}(h:Way lv w g s i o)(hv:Gv (nth g i))(hs:mY (nth g i) (nth s i))(hd:o=(eV (nth g i) (nth s i)).hi∨w≤(bs lv w g s i).2-gj lv (nth g i) (nth s i)+iR (nth g i) o lv) :
  pI lv w (nth g i) (nth s i) (bs lv w g s i).2=o:=by
 have h1:=h.lo;have h2:=h.hi;unfold pI;split
 ·refine Pp h1 (by omega) (fun p a b=>?_) (fun a=>?_)
  ·have:=h.no p a b
   exact decide_eq_false (by omega)
  ·rcases hd with hd|hd
   ·omega
   ·exact decide_eq_true (by omega)
 ·rename_i hn
  by_cases he:(eV (nth g i) (nth s i)).lo=o
  ·exact he
  ·have:=h.no _ (Int.le_refl _) (by omega)
   unfold gj at this;omega
theorem ZN(hl:g.length=s.length){i:Nat}(hi:i<g.length)(hv:Gv (nth g i))(hs:mY (nth g i) (nth s i)):Way lv w g s i (eV (nth g i) (nth s i)).lo :=
 ⟨hi,Int.le_refl _,(BN hv hs).2.1,fun p a b=>by omega⟩
theorem ZO(hl:g.length=s.length){i:Nat}(hi:i<g.length):(bs lv w g s i).1.set i (eV (nth g i) (nth s i)).lo=(bs lv w g s i).1:=by
 rw[←JO (lv:=lv) (w:=w) hl (Nat.le_refl i) hi];exact ZM (by rw[oj hl];exact hi)
end
end Go.Proofs.YtocclbnghhaejaaGreat
namespace Go.Proofs.YtocclbnghhaejaaGreat
set_option linter.all false
open Go.Vm
attribute [local simp] lQ lR kP lP
theorem ZP{l:List Int}{i:Nat}(h:l.length≤i):nth l i=0:=by
 simp only[nth,List.getD,List.getElem?_eq_none h];rfl
theorem amS(g:List Gt)(s:List Gs)(lv w:Int)(G:List aP):aX F 135 [jV g,jJ s,i64 lv,i64 w] G=some (.tuple [.slice (some 0) 2 ((oi g s lv w).map Gs.row),i64 (nA g s lv w),i64 (kS g s lv w)],G) :=
 bM rfl rfl (by
  generalize hW:V.tuple [.slice (some 0) 2 ((oi g s lv w).map Gs.row),i64 (nA g s lv w),i64 (kS g s lv w)]=W;by_cases he:aE g s lv=0
  ·obtain⟨h1,h2,h3,h4,h5⟩:=Gu he
   by_cases hw:0≤w∧w≤1073741824
   ·have hE:kS g s lv w=0:=by simp[kS,he,hw]
    simp only[oi,nA,hE,if_true]at hW;have sQ:(!decide (0≤w) || !decide (w≤1073741824))=false:=by simp;omega
    have vC:(decide (0≤w)&&decide (w≤1073741824))=true:=by simp;omega
    have wG:=amC h2 h1 h3 h4;by_cases hg:g=[]
    ·subst hg
     have hs0:s=[]:=by simpa using h2.symm
     subst hs0;have hE3:aX F 174 [.slice none 3 [],.slice none 2 []] []=some (.tuple [.slice (some 0) 1 [],.slice (some 0) 1 []],[]):=wG [];have hT3:aX F 175 [.slice none 3 [],.slice none 1 [],i64 lv] []=some (i64 0,[]):=GA (g:=[]) (l:=[]) rfl (by simp) (by simp) lv []
     have e2:j8 20031 0 (.tuple [.slice (some 0) 1 [],.slice (some 0) 1 []])=some (.tuple [.dR 1,.slice none 1 []],none):=rfl;have he0:aX F 173 [.slice none 3 [],.slice none 2 [],i64 lv] []=some (i64 0,[]):=by
      have:=JK [] [] lv [];rw[he]at this;exact this
     simp (disch:=omega) [-getElem?_pos,wrap64,FT,he0,cT,sQ,vC,hE3,e2,WI,I3,WJ,I4,Bc,hT3];simpa [mH,bs,lA] using hW
    ·have cg:lB Bd.lo g s≠[]:=fun e=>hg (by have:=Af (f:=Bd.lo) h2;rw[e]at this;exact List.length_eq_zero_iff.1 this.symm)
     have e2:=afL (id:=20031) (t:=0) (u:=0) (m:=lB Bd.hi g s) cg;have ky:=Af (f:=Bd.lo) h2;simp (disch:=omega) [-getElem?_pos,wrap64,FT,JK,he,cT,sQ,vC,wG,e2,ky];have gM:0<g.length:=List.length_pos_iff.2 hg;refine go_loop (fun x:Nat×List Int=>ajo (jV g) (jJ s) lv w g.length (ints (lB Bd.hi g s)) x.1 (dM x.2) G)
      (fun x=>(∃o,Way lv w g s x.1 o∧x.2=(bs lv w g s x.1).1.set x.1 o)∨(x.1=g.length∧x.2=(bs lv w g s g.length).1)) (fun x=>(g.length-x.1)*2000+(nth (lB Bd.hi g s) x.1-nth x.2 x.1).toNat) (0,lB Bd.lo g s) rfl (by simp) (.inl ⟨_,ZN h2 gM (h4 0 gM) (h3 0 gM),by rw[ZO h2 gM];rfl⟩) ?_
     rintro⟨i,l⟩ hinv;simp only at hinv;have hlen:l.length=g.length:=by
      rcases hinv with⟨o,_,rfl⟩ | ⟨_,rfl⟩
      ·rw[List.length_set,oj h2]
      ·rw[oj h2]
     have hT:=GA hlen.symm h1 h4 lv;rcases hinv with⟨o,hway,hl⟩ | ⟨rfl,rfl⟩
     ·have hi:=hway.lt
      have ZQ:pH g l lv g.length=(bs lv w g s i).2-gj lv (nth g i) (nth s i)+iR (nth g i) o lv:=by
       rw[hl];exact Pr h2 (JP h2 i (by omega)) hi o
      rw[ZQ]at hT;generalize ZR:(bs lv w g s i).2-gj lv (nth g i) (nth s i)+iR (nth g i) o lv=T at *;have bA:i<l.length:=by omega
      simp (disch:=omega) [-getElem?_pos,wrap64,I3,hi,hT,hlen];have JQ:i<(lB Bd.hi g s).length:=by rw[Af h2];exact hi
      have JR:nth l i=o:=by rw[hl];exact JN (by rw[oj h2];exact hi)
      have DP:nth (lB Bd.hi g s) i=(eV (nth g i) (nth s i)).hi:=Gy hi (by omega)
      refine bE (fun h6=>?_) (fun h6=>?_)
      ·simp (disch:=omega) [-getElem?_pos,wrap64,lx bA,dj JQ,JR,DP]
       refine bE (fun h7=>?_) (fun h7=>?_)
       ·have hd:=hway.done (h4 i hi) (h3 i hi) (.inl h7)
        have hn:(bs lv w g s (i+1)).1=l:=by simp only[bs,hd,hl]
        refine bF (i+1,l) (by simp) ?_ ?_
        ·by_cases sd:i+1<g.length
         ·refine .inl ⟨_,ZN h2 sd (h4 _ sd) (h3 _ sd),?_⟩
          simp only;rw[ZO h2 sd,hn]
         ·exact .inr ⟨by simp only;omega,by simp only;rw[←hn,show g.length=i+1 by omega]⟩
        ·have nL:nth (lB Bd.hi g s) (i+1)-nth l (i+1)≤1000:=by
          by_cases sd:i+1<g.length
          ·rw[Gy sd (by omega),← hn,JO h2 (Nat.le_refl _) sd]
           have:=BN (h4 _ sd) (h3 _ sd);have:=(h4 _ sd).c9;omega
          ·have e1:nth (lB Bd.hi g s) (i+1)=0:=ZP (by rw[Af h2];omega)
           have e2:nth l (i+1)=0:=ZP (by omega)
           omega
         simp only;omega
       ·have nQ:=hway.lo
        have Cz:=hway.hi;have hro:=BN (h4 i hi) (h3 i hi);have hmo:=(h4 i hi).c9;refine go_loop (fun l:List Int=>ajn (jV g) (jJ s) lv w g.length (ints (lB Bd.hi g s)) i (dM l) G)
         (fun m=>∃o',Way lv w g s i o'∧o≤o'∧m=(bs lv w g s i).1.set i o') (fun m=>(nth (lB Bd.hi g s) i-nth m i).toNat) l rfl (by simp[hlen]) ⟨o,hway,Int.le_refl _,hl⟩ ?_
        rintro m ⟨o',hway',zC,rfl⟩;have avI:=hway'.lo;have avJ:=hway'.hi;have GB:((bs lv w g s i).1.set i o').length=g.length:=by rw[List.length_set,oj h2]
        have vx:i<((bs lv w g s i).1.set i o').length:=by omega
        have DQ:nth ((bs lv w g s i).1.set i o') i=o':=JN (by rw[oj h2];exact hi)
        have GC:=GA GB.symm h1 h4 lv;rw[Pr h2 (JP h2 i (by omega)) hi o']at GC
        have Ht:∀z,((bs lv w g s i).1.set i o').set i z=(bs lv w g s i).1.set i z:=fun z=>by simp
        generalize hm:(bs lv w g s i).1.set i o'=m at GB vx DQ GC Ht ⊢;by_cases h8:o'<(eV (nth g i) (nth s i)).hi
        ·by_cases h9:(bs lv w g s i).2-gj lv (nth g i) (nth s i)+iR (nth g i) o' lv<w
         ·simp (disch:=omega) [-getElem?_pos,wrap64,I2,lx vx,dj JQ,DQ,DP,h8,GC,GB,h9]
          refine bF (m.set i (o'+1)) (by simp) ⟨o'+1,⟨hi,by omega,by omega,fun p a b=>?_⟩,by omega,Ht _⟩ ?_
          ·by_cases hp:p=o'
           ·rw[hp];exact h9
           ·exact hway'.no p a (by omega)
          ·rw[JN vx];omega
         ·simp (disch:=omega) [-getElem?_pos,wrap64,I2,lx vx,dj JQ,DQ,DP,h8,GC,GB,h9]
          refine bF (i,m) (by simp) (.inl ⟨o',hway',hm.symm⟩) ?_
          have:o≠o':=fun e=>by rw[←e,ZR]at h9;exact h9 h6
          simp only[DQ,JR,DP];omega
        ·simp (disch:=omega) [-getElem?_pos,wrap64,I2,lx vx,dj JQ,DQ,DP,h8,GC,GB]
         refine bF (i,m) (by simp) (.inl ⟨o',hway',hm.symm⟩) ?_
         simp only[DQ,JR,DP];omega
      ·have hd:=hway.done (h4 i hi) (h3 i hi) (.inr (by omega))
       have hs2:(bs lv w g s (i+1)).2=T:=by rw[←ZR];simp only[bs,hd]
       have hn:l=(bs lv w g s g.length).1:=by
        rw[amR h2 (j:=i+1) (by omega) g.length (by omega) (Nat.le_refl _),hl]
        simp only[bs,hd]
       clear hT ZQ bA JR
       subst hn;refine go_loop (fun k:Nat=>WK (jV g) lv g.length (.slice (some 1096) 2 ((mH ((bs lv w g s g.length).1.take k) (s.take k)).map Gs.row)) (jJ s) s.length k (dM (bs lv w g s g.length).1) k G) (fun k=>k≤s.length) (fun k=>s.length-k) 0 rfl (by simp[mH]) (by omega) ?_
       rintro k hk;have bn:(mH ((bs lv w g s g.length).1.take k) (s.take k)).length=k:=by
        have:=oj (lv:=lv) (w:=w) h2 g.length;simp[mH];omega
       have BO:=oj (lv:=lv) (w:=w) h2 g.length;have GD:=GA BO.symm h1 h4 lv;rw[JP h2 g.length (Nat.le_refl _)]at GD;simp (disch:=omega) [-getElem?_pos,wrap64,I4,bn];refine bE (fun h6=>?_) (fun h6=>?_)
       ·have h6:k<s.length:=by omega
        have h7:k<(bs lv w g s g.length).1.length:=by omega
        simp (disch:=omega) [-getElem?_pos,wrap64,aW (l:=s),lx h7,bn];refine bF (k+1) ?_ (by omega) (by omega)
        unfold mH;rw[xX h7 h6];simp[DN]
       ·obtain rfl:k=s.length:=by omega
        have t1:(bs lv w g s g.length).1.take s.length=(bs lv w g s g.length).1:=List.take_of_length_le (by omega)
        rw[t1,List.take_length]at bn ⊢;simp (disch:=omega) [-getElem?_pos,wrap64,bn,BO,GD];exact hW
     ·have hi:¬ g.length<g.length:=Nat.lt_irrefl _
      simp (disch:=omega) [-getElem?_pos,wrap64,I3,hlen];refine go_loop (fun k:Nat=>WK (jV g) lv g.length (.slice (some 1096) 2 ((mH ((bs lv w g s g.length).1.take k) (s.take k)).map Gs.row)) (jJ s) s.length k (dM (bs lv w g s g.length).1) k G) (fun k=>k≤s.length) (fun k=>s.length-k) 0 rfl (by simp[mH]) (by omega) ?_
      rintro k hk;have bn:(mH ((bs lv w g s g.length).1.take k) (s.take k)).length=k:=by
       have:=oj (lv:=lv) (w:=w) h2 g.length;simp[mH];omega
      have BO:=oj (lv:=lv) (w:=w) h2 g.length;have GD:=GA BO.symm h1 h4 lv;rw[JP h2 g.length (Nat.le_refl _)]at GD;simp (disch:=omega) [-getElem?_pos,wrap64,I4,bn];refine bE (fun h6=>?_) (fun h6=>?_)
      ·have h6:k<s.length:=by omega
       have h7:k<(bs lv w g s g.length).1.length:=by omega
       simp (disch:=omega) [-getElem?_pos,wrap64,aW (l:=s),lx h7,bn];refine bF (k+1) ?_ (by omega) (by omega)
       unfold mH;rw[xX h7 h6];simp[DN]
      ·obtain rfl:k=s.length:=by omega
       have t1:(bs lv w g s g.length).1.take s.length=(bs lv w g s g.length).1:=List.take_of_length_le (by omega)
       rw[t1,List.take_length]at bn ⊢;simp (disch:=omega) [-getElem?_pos,wrap64,bn,BO,GD];exact hW
   ·have vC:(decide (0≤w)&&decide (w≤1073741824))=false:=by simp;omega
    have hE:kS g s lv w=1:=by simp[kS,he];omega
    have wG:¬ kS g s lv w=0:=by rw[hE];omega
    simp only[oi,nA,if_neg wG]at hW;rw[hE]at hW;have sQ:(!decide (0≤w) || !decide (w≤1073741824))=true:=by simp;omega
    simp (disch:=omega) [-getElem?_pos,wrap64,FT,JK,he,cT,sQ,vC];exact hW
  ·have hE:kS g s lv w=aE g s lv:=by simp[kS,he]
   have wG:¬ kS g s lv w=0:=by rw[hE];exact he
   simp only[oi,nA,if_neg wG]at hW;rw[hE]at hW;simp (disch:=omega) [-getElem?_pos,wrap64,FT,JK,he];exact hW)
structure Dm where
 r:Rs
 u:List Un
 g:List Gt
 gr:Int
abbrev Dm.row(d:Dm):List V:=[iv d.r.c,i64 d.r.d,i64 d.r.l,i64 d.r.f,i64 d.r.s,i64 d.r.t,ke d.u,jV d.g,i64 d.gr]
abbrev dm(d:Dm):V:=.agg d.row
structure Ds where
 v:Int
 rel:Int
 u:List Us
 g:List Gs
 deriving Inhabited
abbrev Ds.row(s:Ds):List V:=[i64 s.v,i64 s.rel,jT s.u,jJ s.g]
abbrev dst(s:Ds):V:=.agg s.row
def uE(u:List Un):Int:=dB (fun i=>gT (nth u i)) u.length 0
def gE(g:List Gt):Int:=dB (fun i=>kg (nth g i)) g.length 0
def fq(d:Dm):Int :=
 if il d.r≠0 then il d.r else if 6<d.u.length∨8<d.g.length then 10 else if uE d.u≠0 then uE d.u else if gE d.g≠0 then gE d.g
 else if d.gr<1∨1073741824<d.gr then 1 else 0
theorem BP(d:Dm)(G:List aP):aX F 61 [dm d] G=some (i64 (fq d),G) :=
 bM rfl rfl (by
  obtain⟨r,u,g,gr⟩:=d;generalize hW:fq ⟨r,u,g,gr⟩=W;unfold fq at hW;simp only at hW;have hS:=fun G=>YJ r G;have yk:=fun G=>zS r G;by_cases h1:il r=0
  ·rw[if_neg (by omega)]at hW
   by_cases h2:6<u.length
   ·rw[if_pos (.inl h2)]at hW
    have mg:(6:Int)<u.length:=by omega
    simp (disch:=omega) [-getElem?_pos,wrap64,FJ,hS,yk,h1,mg];exact hW
   by_cases h3:8<g.length
   ·rw[if_pos (.inr h3)]at hW
    have mg:¬ (6:Int)<u.length:=by omega
    have gU:(8:Int)<g.length:=by omega
    simp (disch:=omega) [-getElem?_pos,wrap64,FJ,hS,yk,h1,mg,gU];exact hW
   rw[if_neg (by omega)]at hW
   have mg:¬ (6:Int)<u.length:=by omega
   have gU:¬ (8:Int)<g.length:=by omega
   simp (disch:=omega) [-getElem?_pos,wrap64,FJ,hS,yk,h1,mg,gU];refine go_loop (fun i:Nat=>ahs (ke u) u.length i (Dm.row ⟨r,u,g,gr⟩) G) (fun i=>i≤u.length∧dB (fun i=>gT (nth u i)) (u.length-i) i=uE u) (fun i=>u.length-i) 0 rfl (by simp) ⟨by omega,rfl⟩ ?_
   rintro i ⟨hi,hq⟩;simp (disch:=omega) [-getElem?_pos,wrap64,Vs];refine bE (fun h4=>?_) (fun h4=>?_)
   ·have h4:i<u.length:=by omega
    rw[kB h4]at hq;by_cases h5:gT (nth u i)=0
    ·rw[if_pos h5]at hq
     simp (disch:=omega) [-getElem?_pos,wrap64,aW (l:=u),r9,mV,h5];exact bF (i+1) (by simp) ⟨by omega,hq⟩ (by omega)
    ·rw[if_neg h5]at hq
     rw[←hq,if_pos h5]at hW;simp (disch:=omega) [-getElem?_pos,wrap64,aW (l:=u),r9,mV,h5];exact hW
   ·obtain rfl:i=u.length:=by omega
    rw[mE]at hq;rw[←hq,if_neg (by omega)]at hW
    refine go_loop (fun i:Nat=>ahu (jV g) g.length i (Dm.row ⟨r,u,g,gr⟩) G) (fun i=>i≤g.length∧dB (fun i=>kg (nth g i)) (g.length-i) i=gE g) (fun i=>g.length-i) 0 rfl (by simp) ⟨by omega,rfl⟩ ?_
    rintro i ⟨hi,hq⟩;simp (disch:=omega) [-getElem?_pos,wrap64,Vt];refine bE (fun h4=>?_) (fun h4=>?_)
    ·have h4:i<g.length:=by omega
     rw[kB h4]at hq;by_cases h5:kg (nth g i)=0
     ·rw[if_pos h5]at hq
      simp (disch:=omega) [-getElem?_pos,wrap64,aW (l:=g),zZ,z6,h5];exact bF (i+1) (by simp) ⟨by omega,hq⟩ (by omega)
     ·rw[if_neg h5]at hq
      rw[←hq,if_pos h5]at hW;simp (disch:=omega) [-getElem?_pos,wrap64,aW (l:=g),zZ,z6,h5];exact hW
    ·obtain rfl:i=g.length:=by omega
     rw[mE]at hq;rw[←hq,if_neg (by omega)]at hW
     by_cases h6:gr<1
     ·rw[if_pos (.inl h6)]at hW
      simp (disch:=omega) [-getElem?_pos,wrap64,h6];exact hW
     ·by_cases h7:1073741824<gr
      ·rw[if_pos (.inr h7)]at hW
       simp (disch:=omega) [-getElem?_pos,wrap64,h6,h7];exact hW
      ·rw[if_neg (by omega)]at hW
       simp (disch:=omega) [-getElem?_pos,wrap64,h6,h7];exact hW
  ·rw[if_pos h1]at hW
   simp (disch:=omega) [-getElem?_pos,wrap64,FJ,hS,yk,h1];exact hW)
theorem BQ(d:Dm)(G:List aP):aX F 63 [dm d] G=some (i64 (fq d),G) :=
 bM rfl rfl (by
  obtain⟨r,u,g,gr⟩:=d;generalize hW:fq ⟨r,u,g,gr⟩=W;unfold fq at hW;simp only at hW;have hS:=fun G=>YJ r G;have yk:=fun G=>zS r G;by_cases h1:il r=0
  ·rw[if_neg (by omega)]at hW
   by_cases h2:6<u.length
   ·rw[if_pos (.inl h2)]at hW
    have mg:(6:Int)<u.length:=by omega
    simp (disch:=omega) [-getElem?_pos,wrap64,FK,hS,yk,h1,mg];exact hW
   by_cases h3:8<g.length
   ·rw[if_pos (.inr h3)]at hW
    have mg:¬ (6:Int)<u.length:=by omega
    have gU:(8:Int)<g.length:=by omega
    simp (disch:=omega) [-getElem?_pos,wrap64,FK,hS,yk,h1,mg,gU];exact hW
   rw[if_neg (by omega)]at hW
   have mg:¬ (6:Int)<u.length:=by omega
   have gU:¬ (8:Int)<g.length:=by omega
   simp (disch:=omega) [-getElem?_pos,wrap64,FK,hS,yk,h1,mg,gU];refine go_loop (fun i:Nat=>ahy (ke u) u.length i (Dm.row ⟨r,u,g,gr⟩) G) (fun i=>i≤u.length∧dB (fun i=>gT (nth u i)) (u.length-i) i=uE u) (fun i=>u.length-i) 0 rfl (by simp) ⟨by omega,rfl⟩ ?_
   rintro i ⟨hi,hq⟩;simp (disch:=omega) [-getElem?_pos,wrap64,Vv];refine bE (fun h4=>?_) (fun h4=>?_)
   ·have h4:i<u.length:=by omega
    rw[kB h4]at hq;by_cases h5:gT (nth u i)=0
    ·rw[if_pos h5]at hq
     simp (disch:=omega) [-getElem?_pos,wrap64,aW (l:=u),r9,mV,h5];exact bF (i+1) (by simp) ⟨by omega,hq⟩ (by omega)
    ·rw[if_neg h5]at hq
     rw[←hq,if_pos h5]at hW;simp (disch:=omega) [-getElem?_pos,wrap64,aW (l:=u),r9,mV,h5];exact hW
   ·obtain rfl:i=u.length:=by omega
    rw[mE]at hq;rw[←hq,if_neg (by omega)]at hW
    refine go_loop (fun i:Nat=>ahA (jV g) g.length i (Dm.row ⟨r,u,g,gr⟩) G) (fun i=>i≤g.length∧dB (fun i=>kg (nth g i)) (g.length-i) i=gE g) (fun i=>g.length-i) 0 rfl (by simp) ⟨by omega,rfl⟩ ?_
    rintro i ⟨hi,hq⟩;simp (disch:=omega) [-getElem?_pos,wrap64,Vw];refine bE (fun h4=>?_) (fun h4=>?_)
    ·have h4:i<g.length:=by omega
     rw[kB h4]at hq;by_cases h5:kg (nth g i)=0
     ·rw[if_pos h5]at hq
      simp (disch:=omega) [-getElem?_pos,wrap64,aW (l:=g),zZ,z6,h5];exact bF (i+1) (by simp) ⟨by omega,hq⟩ (by omega)
     ·rw[if_neg h5]at hq
      rw[←hq,if_pos h5]at hW;simp (disch:=omega) [-getElem?_pos,wrap64,aW (l:=g),zZ,z6,h5];exact hW
    ·obtain rfl:i=g.length:=by omega
     rw[mE]at hq;rw[←hq,if_neg (by omega)]at hW
     by_cases h6:gr<1
     ·rw[if_pos (.inl h6)]at hW
      simp (disch:=omega) [-getElem?_pos,wrap64,h6];exact hW
     ·by_cases h7:1073741824<gr
      ·rw[if_pos (.inr h7)]at hW
       simp (disch:=omega) [-getElem?_pos,wrap64,h6,h7];exact hW
      ·rw[if_neg (by omega)]at hW
       simp (disch:=omega) [-getElem?_pos,wrap64,h6,h7];exact hW
  ·rw[if_pos h1]at hW
   simp (disch:=omega) [-getElem?_pos,wrap64,FK,hS,yk,h1];exact hW)
end Go.Proofs.YtocclbnghhaejaaGreat
