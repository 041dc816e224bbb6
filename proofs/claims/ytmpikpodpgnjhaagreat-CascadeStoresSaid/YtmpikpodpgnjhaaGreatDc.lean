/- Parts of the proof, joined: Ref3, Rng1, Gat2, Gat3, Gat4, Gat5, Gat6, Gat7, Dam1. -/
import Derived.Test.YtmpikpodpgnjhaaGreatDb
import Derived.Test.YtmpikpodpgnjhaaGreatDa
namespace Go.Proofs.YtmpikpodpgnjhaaGreat
set_option linter.all false
open Go.Vm
attribute [local simp] mc me ma mb
abbrev DT(R:List (List Int)):V:=.slice none 1 (R.map fun o=>[ints o])
def rb(best:Option (List Int)):V:=match best with
 |none=>.bW
 |some F=>ints F
noncomputable def rv(us:List Un)(ss:List Us)(best:Option (List Int)):List V:=match best with
 |none=>[i64 0,i64 0]
 |some F=>[i64 (g6 us F),i64 (g7 ss F)]
def g8(a:List Nat):List V:=dv (a.map fun d:Nat=>(d:Int))
def ob(o:Option (List V)):List (Nat×List V):=match o with
 |none=>[]
 |some c=>[(56,c)]
@[simp] theorem Mi{best:Option (List Int)}{d:Nat}:(rb best).ca d=false:=by cases best<;>rfl
@[simp] theorem aoM{us:List Un}{ss:List Us}{best:Option (List Int)}{d:Nat}:((rv us ss best).all fun v => !v.cj d)=true:=by cases best<;>rfl
@[simp] theorem aoN{a:List Nat}{d:Nat}:((g8 a).all fun v => !v.cj d)=true:=aa5
@[simp] theorem aoO{o:Option (List V)}:tU 56 (ob o)=[]:=by cases o<;>rfl
@[simp] theorem aoP:ob none=[]:=rfl
@[simp] theorem aoQ{c:List V}:ob (some c)=[(56,c)]:=rfl
@[simp] theorem aoR{o:Option (List V)}:kp (Go.Vm.look 56 (ob o)) 56 []=ob o:=by cases o<;>rfl
theorem Br{a:List Nat}{i:Nat}(h:i<a.length):(g8 a)[i]?=some (i64 ((nth a i:Nat):Int)):=by
 have:=jI (l:=a.map fun d:Nat=>(d:Int)) (i:=i) (by simpa using h)
 rw[vh h]at this;exact this
@[simp] theorem aoS{a:List Nat}:(g8 a).length=a.length:=by simp[g8]
theorem DU{a:List Nat}{i d:Nat}:(g8 a).set i (i64 (d:Int))=g8 (a.set i d):=by
 simp[g8,List.map_set]
theorem agX{α:Type}[Inhabited α]{l m:List α}{i:Nat}(h:l.length≤i):nth (l++m) i=nth m (i-l.length):=by
 simp[nth,List.getElem?_append_right h]
theorem xQ{α:Type}[Inhabited α]{l:List α}{i k:Nat}(h:i<k):nth (l.take k) i=nth l i:=by
 simp[nth,List.getElem?_take,h]
theorem agY{n i:Nat}:nth (List.replicate n (0:Int)) i=0:=by
 simp only[nth,List.getD,List.getElem?_replicate];split<;>rfl
theorem VK{l:List Int}{B:Int}(h:∀x∈l,0≤x∧x≤B):∀j:Nat,j≤l.length→0≤(l.take j).sum∧(l.take j).sum≤B*j
 |0,_=>by simp
 |j+1,hj=>by
  have ih:=VK h j (by omega)
  have:=h _ (pR (show j<l.length from hj));rw[ji hj];simp only[List.sum_append,List.sum_cons,List.sum_nil];have e:B*((j+1:Nat):Int)=B*j+B:=by
   rw[show((j+1:Nat):Int)=(j:Int)+1 from rfl,Int.mul_add,Int.mul_one]
  omega
theorem VL{R:List (List Int)}{a:List Nat}(h:a.length=R.length):(dV R a).length=R.length:=by simp[dV,h]
theorem agZ{R:List (List Int)}{a:List Nat}{us:List Un}{ss:List Us}{release:Int}{fd:Bool}{best:Option (List Int)}{G:List aP}{K:cf}(hn:R.length≤6)(ha:Vd (R.map List.length) a)
  (hb:∀o∈R,∀q∈o,0≤q∧q≤1073741824)
  (hK:∀z,K (.exit 2) ⟨[(0,jy us),(1,jg ss),(3,i64 release),(11,DT R),(13,.bool fd),(14,rb best),(15,.bA 15 0),(16,.bO 53 1 R.length),(17,.bO 56 1 R.length),(18,i64 (dV R a).sum),(57,.bO 53 1 R.length),(58,i64 R.length),(59,i64 R.length),(60,z)],
   [(15,rv us ss best),(53,g8 a),(56,dv (dV R a))],[],G⟩) :
  go (a8 F) SD (SE (jy us) (jg ss) release (DT R) fd (rb best) R.length R.length 0 R.length R.length 0 (rv us ss best) (g8 a) (dv (List.replicate R.length 0)) G) K:=by
 have om:=Bp ha;simp only[List.length_map]at om;have kq:=VL om;have VM:∀x∈dV R a,0≤x∧x≤1073741824:=by
  intro x hx;obtain⟨i,hi,rfl⟩:=Bk hx;rw[kq]at hi;have h1:nth (dV R a) i=nth (nth R i) (nth a i):=Bl hi (by omega)
  have h2:=wC ha i (by simpa using hi)
  rw[vh hi]at h2;rw[h1];exact hb _ (pR hi) _ (pR h2)
 refine go_loop (fun j:Nat=>SE (jy us) (jg ss) release (DT R) fd (rb best) R.length R.length ((dV R a).take j).sum R.length R.length j (rv us ss best) (g8 a) (dv ((dV R a).take j++List.replicate (R.length-j) 0)) G)
  (fun j=>j≤R.length) (fun j=>R.length-j) 0 rfl (by simp) (by omega) ?_
 intro j hj;have hs:=VK VM j (by omega)
 simp (disch:=omega) [-getElem?_pos,wrap64,SC];refine bK (fun h1=>?_) (fun h1=>?_)
 ·have h1:j<R.length:=by omega
  have h2:j<a.length:=by omega
  have h3:=wC ha j (by simpa using h1)
  rw[vh h1]at h3;have h4:nth (dV R a) j=nth (nth R j) (nth a j):=Bl h1 h2;have h5:=VM _ (pR (show j<(dV R a).length by omega))
  have h6:(dv ((dV R a).take j++List.replicate (R.length-j) 0))[j]?=some (i64 0):=by
   rw[jI (by simp;omega),agX (by simp;omega),agY]
  have e2:((dV R a).take j++List.replicate (R.length-j) (0:Int)).set j (nth (nth R j) (nth a j))=(dV R a).take (j+1)++List.replicate (R.length-(j+1)) 0:=by
   rw[List.set_append_right _ _ (by simp;omega),ji (show j<(dV R a).length by omega),h4]
   have:j-((dV R a).take j).length=0:=by simp;omega
   rw[this];obtain⟨m,hm⟩:∃m,R.length-j=m+1:=⟨R.length-j-1,by omega⟩
   rw[hm,List.replicate_succ,List.set_cons_zero,show R.length-(j+1)=m by omega]
   simp
  have e3:((dV R a).take (j+1)).sum=((dV R a).take j).sum+nth (nth R j) (nth a j):=by
   rw[ji (show j<(dV R a).length by omega),h4];simp
  have h7:(dv ((dV R a).take (j+1)++List.replicate (R.length-(j+1)) 0))[j]?=some (i64 (nth (nth R j) (nth a j))):=by
   rw[jI (by simp;omega),nP (by simp;omega),xQ (by omega),h4]
  rw[h4]at h5;simp (disch:=omega) [-getElem?_pos,wrap64,Br h2,bb (l:=R),dD h3,h6,e2,h7];exact bL (j+1) (by simp[e3]) (by omega) (by omega)
 ·obtain rfl:j=R.length:=by omega
  rw[List.take_of_length_le (by omega)]
  simpa using hK _
noncomputable abbrev Bs(us:List Un)(ss:List Us)(R:List (List Int))(release:Int)(fd:Bool)(best:Option (List Int))(x:Int)(a:List Nat)(o:Option (List V))(G:List aP):St :=
 ⟨[(0,jy us),(1,jg ss),(3,i64 release),(11,DT R),(13,.bool fd),(14,rb best),(15,.bA 15 0),(16,.bO 53 1 R.length),(26,i64 x)],(15,rv us ss best)::(53,g8 a)::ob o,[],G⟩
theorem G8{R:List (List Int)}{a:List Nat}{us:List Un}{ss:List Us}{release:Int}{fd:Bool}{best:Option (List Int)}{o:Option (List V)}{G:List aP}{K:cf}(hn:R.length≤6)(ha:Vd (R.map List.length) a)(hlen:∀o∈R,o.length≤1000)
  (h0:∀z b,inc (R.map List.length) a=none→K (.exit 4) { Bs us ss R release fd best (-1) b o G with env:=(Bs us ss R release fd best (-1) b o G).env++[(124,z)] })
  (h1:∀z (i:Nat),i<R.length→nth a i+1<nth (R.map List.length) i→inc (R.map List.length) a=some (a.take i++(nth a i+1)::List.replicate (R.length-1-i) 0) →
   K (.exit 4) { Bs us ss R release fd best i (a.take (i+1)++List.replicate (R.length-1-i) 0) o G with env:=(Bs us ss R release fd best i a o G).env++[(124,z)] }) :
  go (a8 F) SF (Bs us ss R release fd best (R.length-1) a o G) K:=by
 have om:=Bp ha;simp only[List.length_map]at om;refine go_loop (fun k:Nat=>Bs us ss R release fd best (k-1) (a.take k++List.replicate (R.length-k) 0) o G)
  (fun k=>k≤R.length∧∀j,k≤j→j<R.length→nth a j+1=nth (R.map List.length) j) (fun k=>k) R.length rfl (by rw[List.take_of_length_le (by omega)];simp) ⟨by omega,by omega⟩ ?_
 rintro k ⟨hk,hm⟩;by_cases FT:k=0
 ·subst FT
  simp +contextual (disch:=omega) [-getElem?_pos,wrap64,KW];exact h0 _ _ (Mf ha fun j hj=>hm j (by omega) (by simpa using hj))
 ·have e1:0≤(k:Int)-1:=by omega
  have e2:((k:Int)-1).toNat=k-1:=by omega
  have h3:k-1<R.length:=by omega
  have h4:(g8 (a.take k++List.replicate (R.length-k) 0))[k-1]?=some (i64 ((nth a (k-1):Nat):Int)):=by
   rw[Br (by simp;omega),nP (by simp;omega),xQ (by omega)]
  have h5:=hlen _ (pR h3);have h6:=wC ha (k-1) (by simpa using h3)
  rw[vh h3]at h6;have h7:(g8 (a.take k++List.replicate (R.length-k) 0)).set (k-1) (i64 0)=g8 (a.take (k-1)++List.replicate (R.length-(k-1)) 0):=by
   have:=DU (a:=a.take k++List.replicate (R.length-k) 0) (i:=k-1) (d:=0);rw[show(i64 ((0:Nat):Int))=i64 0 from rfl]at this;rw[this];congr 1;obtain⟨m,rfl⟩:∃m,k=m+1:=⟨k-1,by omega⟩
   rw[ji (show m<a.length by omega)]
   have hl:(a.take m).length=m:=by simp;omega
   rw[List.append_assoc,Nat.add_sub_cancel,List.set_append_right _ _ (by omega),hl,Nat.sub_self]
   simp only[List.singleton_append,List.set_cons_zero];rw[show R.length-m=(R.length-(m+1))+1 by omega,List.replicate_succ]
  have h8:nth (R.map List.length) (k-1)=(nth R (k-1)).length:=vh h3;simp +contextual (disch:=omega) [-getElem?_pos,wrap64,KW,e1,e2,h4,bb (l:=R)];refine bK (fun h9=>?_) (fun h9=>?_)
  ·have fx:k≤(g8 (a.take k++List.replicate (R.length-k) 0)).length:=by simp;omega
   simp +contextual (disch:=omega) [-getElem?_pos,wrap64,fx,h7];refine bL (k-1) ?_ ⟨by omega,fun j a1 a2=>?_⟩ (by omega)
   ·rw[show(((k-1:Nat)):Int)=(k:Int)-1 by omega]
    simp
   ·rcases Nat.lt_or_ge j k with jW|jW
    ·obtain rfl:j=k-1:=by omega
     rw[h8];omega
    ·exact hm j jW a2
  ·have br:nth a (k-1)+1<nth (R.map List.length) (k-1):=by rw[h8];omega
   have hi:=VI (i:=k-1) ha (by simpa using h3) (fun j a1 a2=>hm j (by omega) (by simpa using a2)) br
   simp only[List.length_map]at hi;have:=h1 (.bool (decide (((nth a (k-1):Nat):Int)=((nth R (k-1)).length:Int)-1))) (k-1) h3 br hi;rw[show(((k-1:Nat)):Int)=(k:Int)-1 by omega,show k-1+1=k by omega,show R.length-1-(k-1)=R.length-k by omega]at this
   exact this
theorem VN{us:List Un}{ss:List Us}{g:Int}(h:us.length=ss.length):(mi us ss g).length=us.length:=by simp[mi,h]
theorem ag0(us:List Un)(ss:List Us)(g:Int):List.zipWith (G7 g) us ss=(mi us ss g).map fun o=>[ints o]:=by
 rw[mi,List.map_zipWith]
theorem ag1{us:List Un}{ss:List Us}{g:Int}(h:G4 us ss g){o:List Int}(ho:o∈mi us ss g):(0<o.length∧o.length≤1000)∧∀q∈o,0≤q∧q≤1073741824:=by
 have hl:=h.len;obtain⟨i,hi,rfl⟩:=Bk ho;rw[VN hl]at hi;have e:nth (mi us ss g) i=ru (nth us i) (nth ss i) g:=Bl hi (by omega)
 rw[e];have h1:=agO (s:=nth ss i) (h.Vj i hi);refine⟨⟨agU (h.valid i hi),by omega⟩,fun q hq=>?_⟩
 simp only[ru,List.mem_filter,decide_eq_true_eq]at hq;exact GW hq.2
noncomputable abbrev G9(us:List Un)(ss:List Us)(R:List (List Int))(release:Int)(best:Option (List Int))(a:List Nat)(o:Option (List V))(G:List aP):St :=
 ⟨[(0,jy us),(1,jg ss),(3,i64 release),(11,DT R),(13,.bool best.isSome),(14,rb best),(15,.bA 15 0),(16,.bO 53 1 R.length)],(15,rv us ss best)::(53,g8 a)::ob o,[],G⟩
theorem ag2{R:List (List Int)}{us:List Un}{ss:List Us}{release:Int}{G:List aP}{K:cf}(hn:R.length≤6)(tP:us.length≤6)(VP:R.length=us.length)(s8:∀o∈R,(0<o.length∧o.length≤1000)∧∀q∈o,0≤q∧q≤1073741824)
  (nK:∀a,Vd (R.map List.length) a→zt us ss (dV R a)=some ((dV R a).sum,g6 us (dV R a),g7 ss (dV R a)))
  (hz:Vd (R.map List.length) (List.replicate R.length 0))
  (hK:∀best b o z,Kn us ss R release (oW (R.map List.length)) best→K (.exit 0) { G9 us ss R release best b o G with env:=(G9 us ss R release best b o G).env++[(26,i64 (-1)),(131,z)] }) :
  go (a8 F) SH (G9 us ss R release none (List.replicate R.length 0) none G) K:=by
 refine go_loop (fun x:List Nat×Option (List Int)×Option (List V)=>G9 us ss R release x.2.1 x.1 x.2.2 G) (fun x=>Vd (R.map List.length) x.1∧Kn us ss R release (rk (R.map List.length) x.1) x.2.1)
  (fun x=>oW (R.map List.length)-rk (R.map List.length) x.1) (List.replicate R.length 0,none,none) rfl (by simp[rb]) ⟨hz,by simp only[Md];intro b _ h;omega⟩ ?_
 rintro⟨a,best,o⟩ ⟨ha,iy⟩;simp only at ha iy;have hrk:=Bq ha;have om:=Bp ha;simp only[List.length_map]at om;have kq:=VL om;have gx:=VH ha;replace iy:=agV ha iy;have hva:=nK a ha;have hV:=Ve us ss (dV R a) (by omega) []
 rw[hva]at hV;simp only[Bi]at hV;have Mj:(List.replicate R.length [V.int .i64 0]).flatten=dv (List.replicate R.length 0):=by
  rw[dv];simp
 simp (disch:=omega) [-getElem?_pos,wrap64,SG,Mj];refine agZ hn ha (fun o ho=>(s8 o ho).2) fun z=>?_;simp (disch:=omega) [-getElem?_pos,wrap64,wrap64];refine bK (fun h1=>?_) (fun h1=>?_)
 ·have Mk:kV [none] (chunks 1 (dv (dV R a)) 0 R.length)=some ((dV R a).map fun n=>[V.int .i64 n]):=JZ (by omega)
  cases best with
  |none =>
   have vM:s7 us ss release (dV R a) none=some (dV R a):=by simp[s7,h1]
   rw[vM]at iy;simp (disch:=omega) [-getElem?_pos,wrap64,Mk,hV,rb,rv];refine G8 (best:=some (dV R a)) (o:=none) (fd:=true) hn ha (fun o ho=>(s8 o ho).1.2) (fun z b he=>?_) (fun z i hi br he=>?_)
   ·rw[he]at gx
    simp only at gx;rw[gx]at iy;simp (disch:=omega) [-getElem?_pos,wrap64,rb,rv];exact hK _ b none _ iy
   ·rw[he]at gx
    simp only at gx;rw[←gx.2]at iy;have q1:(g8 (a.take (i+1)++List.replicate (R.length-1-i) 0))[i]?=some (i64 ((nth a i:Nat):Int)):=by
     rw[Br (by simp;omega),nP (by simp;omega),xQ (by omega)]
    have q2:=wC ha i (by simpa using hi)
    rw[vh hi]at q2;have q3:=(s8 _ (pR hi)).1.2;have q7:¬(i:Int)<0:=by omega
    have q4:i<a.length:=by omega
    have q5:(g8 (a.take (i+1)++List.replicate (R.length-1-i) 0)).set i (i64 (((nth a i:Nat):Int)+1))=g8 (a.take i++(nth a i+1)::List.replicate (R.length-1-i) 0):=by
     have:=DU (a:=a.take (i+1)++List.replicate (R.length-1-i) 0) (i:=i) (d:=nth a i+1);rw[show(i64 ((nth a i+1:Nat):Int))=i64 (((nth a i:Nat):Int)+1) from rfl]at this;rw[this,ji q4,List.append_assoc,List.set_append_right _ _ (by simp;omega)]
     have:(a.take i).length=i:=by simp;omega
     rw[this,Nat.sub_self];rfl
    have q6:i<(g8 (a.take (i+1)++List.replicate (R.length-1-i) 0)).length:=by simp;omega
    simp (disch:=omega) [-getElem?_pos,wrap64,q1,q5,q6,q7,rb,rv];exact bL (a.take i++(nth a i+1)::List.replicate (R.length-1-i) 0,some (dV R a),none) (by simp[rb,rv]) ⟨gx.1,iy⟩ (by simp only;omega)
  |some E =>
   by_cases wA:jh (g6 us (dV R a),g7 ss (dV R a)) (g6 us E,g7 ss E) (dV R a) E
   ·have vM:s7 us ss release (dV R a) (some E)=some (dV R a):=by simp[s7,h1,wA]
    rw[vM]at iy;have hB:=Vb (g6 us (dV R a),g7 ss (dV R a)) (g6 us E,g7 ss E) (dV R a) E (by omega) []
    rw[decide_eq_true wA]at hB;simp (disch:=omega) [-getElem?_pos,wrap64,Mk,hV,rb,rv,hB];refine G8 (best:=some (dV R a)) (o:=none) (fd:=true) hn ha (fun o ho=>(s8 o ho).1.2) (fun z b he=>?_) (fun z i hi br he=>?_)
    ·rw[he]at gx
     simp only at gx;rw[gx]at iy;simp (disch:=omega) [-getElem?_pos,wrap64,rb,rv];exact hK _ b none _ iy
    ·rw[he]at gx
     simp only at gx;rw[←gx.2]at iy;have q1:(g8 (a.take (i+1)++List.replicate (R.length-1-i) 0))[i]?=some (i64 ((nth a i:Nat):Int)):=by
      rw[Br (by simp;omega),nP (by simp;omega),xQ (by omega)]
     have q2:=wC ha i (by simpa using hi)
     rw[vh hi]at q2;have q3:=(s8 _ (pR hi)).1.2;have q7:¬(i:Int)<0:=by omega
     have q4:i<a.length:=by omega
     have q5:(g8 (a.take (i+1)++List.replicate (R.length-1-i) 0)).set i (i64 (((nth a i:Nat):Int)+1))=g8 (a.take i++(nth a i+1)::List.replicate (R.length-1-i) 0):=by
      have:=DU (a:=a.take (i+1)++List.replicate (R.length-1-i) 0) (i:=i) (d:=nth a i+1);rw[show(i64 ((nth a i+1:Nat):Int))=i64 (((nth a i:Nat):Int)+1) from rfl]at this;rw[this,ji q4,List.append_assoc,List.set_append_right _ _ (by simp;omega)]
      have:(a.take i).length=i:=by simp;omega
      rw[this,Nat.sub_self];rfl
     have q6:i<(g8 (a.take (i+1)++List.replicate (R.length-1-i) 0)).length:=by simp;omega
     simp (disch:=omega) [-getElem?_pos,wrap64,q1,q5,q6,q7,rb,rv];exact bL (a.take i++(nth a i+1)::List.replicate (R.length-1-i) 0,some (dV R a),none) (by simp[rb,rv]) ⟨gx.1,iy⟩ (by simp only;omega)
   ·have vM:s7 us ss release (dV R a) (some E)=some E:=by simp[s7,h1,wA]
    rw[vM]at iy;have hB:=Vb (g6 us (dV R a),g7 ss (dV R a)) (g6 us E,g7 ss E) (dV R a) E (by omega) []
    rw[decide_eq_false wA]at hB;simp (disch:=omega) [-getElem?_pos,wrap64,Mk,hV,rb,rv,hB];refine G8 (best:=some E) (o:=none) (fd:=true) hn ha (fun o ho=>(s8 o ho).1.2) (fun z b he=>?_) (fun z i hi br he=>?_)
    ·rw[he]at gx
     simp only at gx;rw[gx]at iy;simp (disch:=omega) [-getElem?_pos,wrap64,rb,rv];exact hK _ b none _ iy
    ·rw[he]at gx
     simp only at gx;rw[←gx.2]at iy;have q1:(g8 (a.take (i+1)++List.replicate (R.length-1-i) 0))[i]?=some (i64 ((nth a i:Nat):Int)):=by
      rw[Br (by simp;omega),nP (by simp;omega),xQ (by omega)]
     have q2:=wC ha i (by simpa using hi)
     rw[vh hi]at q2;have q3:=(s8 _ (pR hi)).1.2;have q7:¬(i:Int)<0:=by omega
     have q4:i<a.length:=by omega
     have q5:(g8 (a.take (i+1)++List.replicate (R.length-1-i) 0)).set i (i64 (((nth a i:Nat):Int)+1))=g8 (a.take i++(nth a i+1)::List.replicate (R.length-1-i) 0):=by
      have:=DU (a:=a.take (i+1)++List.replicate (R.length-1-i) 0) (i:=i) (d:=nth a i+1);rw[show(i64 ((nth a i+1:Nat):Int))=i64 (((nth a i:Nat):Int)+1) from rfl]at this;rw[this,ji q4,List.append_assoc,List.set_append_right _ _ (by simp;omega)]
      have:(a.take i).length=i:=by simp;omega
      rw[this,Nat.sub_self];rfl
     have q6:i<(g8 (a.take (i+1)++List.replicate (R.length-1-i) 0)).length:=by simp;omega
     simp (disch:=omega) [-getElem?_pos,wrap64,q1,q5,q6,q7,rb,rv];exact bL (a.take i++(nth a i+1)::List.replicate (R.length-1-i) 0,some E,none) (by simp[rb,rv]) ⟨gx.1,iy⟩ (by simp only;omega)
 ·have vM:s7 us ss release (dV R a) best=best:=by
   cases best with
   |none=>simp[s7,h1]
   |some F=>simp[s7,h1]
  rw[vM]at iy;refine G8 (best:=best) (o:=(some (dv (dV R a)))) (fd:=best.isSome) hn ha (fun o ho=>(s8 o ho).1.2) (fun z b he=>?_) (fun z i hi br he=>?_)
  ·rw[he]at gx
   simp only at gx;rw[gx]at iy;simp (disch:=omega) [-getElem?_pos,wrap64,Mi];exact hK _ b (some (dv (dV R a))) _ iy
  ·rw[he]at gx
   simp only at gx;rw[←gx.2]at iy;have q1:(g8 (a.take (i+1)++List.replicate (R.length-1-i) 0))[i]?=some (i64 ((nth a i:Nat):Int)):=by
    rw[Br (by simp;omega),nP (by simp;omega),xQ (by omega)]
   have q2:=wC ha i (by simpa using hi)
   rw[vh hi]at q2;have q3:=(s8 _ (pR hi)).1.2;have q7:¬(i:Int)<0:=by omega
   have q4:i<a.length:=by omega
   have q5:(g8 (a.take (i+1)++List.replicate (R.length-1-i) 0)).set i (i64 (((nth a i:Nat):Int)+1))=g8 (a.take i++(nth a i+1)::List.replicate (R.length-1-i) 0):=by
    have:=DU (a:=a.take (i+1)++List.replicate (R.length-1-i) 0) (i:=i) (d:=nth a i+1);rw[show(i64 ((nth a i+1:Nat):Int))=i64 (((nth a i:Nat):Int)+1) from rfl]at this;rw[this,ji q4,List.append_assoc,List.set_append_right _ _ (by simp;omega)]
    have:(a.take i).length=i:=by simp;omega
    rw[this,Nat.sub_self];rfl
   have q6:i<(g8 (a.take (i+1)++List.replicate (R.length-1-i) 0)).length:=by simp;omega
   simp (disch:=omega) [-getElem?_pos,wrap64,q1,q5,q6,q7,Mi];exact bL (a.take i++(nth a i+1)::List.replicate (R.length-1-i) 0,best,(some (dv (dV R a)))) (by simp[Mi]) ⟨gx.1,iy⟩ (by simp only;omega)
theorem ag4(us:List Un)(ss:List Us)(g release:Int)(G:List aP):∃t,a8 F 120 [jy us,jg ss,i64 g,i64 release] G=some (.tuple [.slice t 1 ((gB us ss g release).map fun n=>[i64 n]),i64 (jA us ss g release)],G):=by
 suffices h:∀Q:V→Prop,(∀t,Q (.tuple [.slice t 1 ((gB us ss g release).map fun n=>[i64 n]),i64 (jA us ss g release)]))→gY (a8 F) 120 [jy us,jg ss,i64 g,i64 release] G fun v G'=>Q v∧G'=G by
  obtain⟨_,_,h,⟨t,rfl⟩,rfl⟩:=h (fun v=>∃t,v=.tuple [.slice t 1 ((gB us ss g release).map fun n=>[i64 n]),i64 (jA us ss g release)]) fun t=>⟨t,rfl⟩;exact⟨t,h⟩
 intro Q hQ;refine iu rfl rfl ?_;have DV:=agN us ss g [];by_cases hw:xO us ss g=0
 ·obtain⟨w1,w2,w3,w4⟩:us.length≤6∧us.length=ss.length∧zu us ss∧(1≤g∧g≤1073741824):=by
   unfold xO at hw;split at hw
   ·cases hw
   ·split at hw
    ·cases hw
    ·split at hw
     ·cases hw
     ·split at hw
      ·cases hw
      ·rename_i a1 a2 a3 a4
       exact⟨by omega,Decidable.of_not_not a2,Decidable.of_not_not a3,by omega⟩
  have nQ:oV us ss g release=if g<1∨1073741824<g∨release<0∨1073741824<release then 1 else if 200*g<release then 10 else if ¬zw us g then 10 else 0:=by
   unfold oV;rw[if_neg (by omega),if_neg (fun h=>h w2),if_neg (fun h=>h w3)]
  by_cases hr:release<0∨1073741824<release
  ·rw[if_pos (by omega)]at nQ
   have eL:gB us ss g release=[]:=by simp[gB,nQ]
   have eE:jA us ss g release=1:=by simp[jA,nQ]
   rw[eL,eE]at hQ;have h8:(!decide (0≤release) || !decide (release≤1073741824))=true:=by simp;omega
   simp (disch:=omega) [wrap64,Ba,DV,hw,cN,h8];exact hQ _
  ·rw[if_neg (by omega)]at nQ
   have h8:(!decide (0≤release) || !decide (release≤1073741824))=false:=by simp;omega
   by_cases h9:200*g<release
   ·rw[if_pos h9]at nQ
    have eL:gB us ss g release=[]:=by simp[gB,nQ]
    have eE:jA us ss g release=10:=by simp[jA,nQ]
    rw[eL,eE]at hQ;simp (disch:=omega) [wrap64,Ba,DV,hw,cN,h8,h9];exact hQ _
   ·rw[if_neg h9]at nQ
    have hA:=agS w2 (by omega) w3 g []
    by_cases hF:zw us g
    ·rw[if_neg (fun h=>h hF)]at nQ
     have hE:xP us g=0:=by simp[xP,hF]
     rw[hE,if_pos rfl,ag0]at hA;have h0:=(Ma nQ).1;have zC:=Vx h0 (left:=release) (by omega)
     have eL:gB us ss g release=(lN (iw us ss g) release).getD []:=by simp[gB,nQ]
     have eE:jA us ss g release=if lN (iw us ss g) release=none then 9 else 0:=by simp[jA,nQ]
     have VP:=VN (g:=g) w2;have s8:=fun o (ho:o∈mi us ss g)=>ag1 h0 ho;have nK:∀a,Vd ((mi us ss g).map List.length) a→zt us ss (dV (mi us ss g) a)=some ((dV (mi us ss g) a).sum,g6 us (dV (mi us ss g) a),g7 ss (dV (mi us ss g) a)):=fun a ha=>VA ((DS w2).1 (Mg ha));have ag5:Kn us ss (mi us ss g) release (oW ((mi us ss g).map List.length)) none→∀F,lp g us ss F→release<F.sum:=VJ (g:=g) w2;have ag6:∀F,Kn us ss (mi us ss g) release (oW ((mi us ss g).map List.length)) (some F)→zA g us ss release F:=fun F=>VJ (g:=g) w2;generalize hR:mi us ss g=R at *
     have hz:Vd (R.map List.length) (List.replicate R.length 0):=by
      have:=Me (ns:=R.map List.length) fun n hn=>by
       obtain⟨o,ho,rfl⟩:=List.mem_map.1 hn;exact(s8 o ho).1.1
      simpa using this
     simp (disch:=omega) [wrap64,Ba,DV,hw,cN,h8,h9,hA];have Mj:List.replicate R.length (V.int .i64 0)=g8 (List.replicate R.length 0):=by simp[g8,dv]
     rw[Mj];refine ag2 (us:=us) (ss:=ss) (release:=release) (by omega) w1 VP s8 nK hz fun best b o z iy=>?_
     cases best with
     |none =>
      have hb:=ag5 iy;have gO:lN (iw us ss g) release=none:=by
       cases hc:lN (iw us ss g) release with
       |none=>rfl
       |some F =>
        rw[hc]at zC;have:=hb F zC.lp;have:=zC.sum;omega
      rw[eL,eE,gO]at hQ;simp only[if_true,Option.getD_none]at hQ;simp (disch:=omega) [wrap64,rb];exact hQ _
     |some F =>
      have hb:=ag6 F iy;have hso:lN (iw us ss g) release=some F:=by
       cases hc:lN (iw us ss g) release with
       |none =>
        rw[hc]at zC;have:=zC F hb.lp;have:=hb.sum;omega
       |some E =>
        rw[hc]at zC;rw[zA.unique zC hb]
      rw[eL,eE,hso]at hQ;simp only[Option.getD_some,reduceCtorEq,if_false]at hQ;simp (disch:=omega) [wrap64,rb];exact hQ _
    ·rw[if_pos hF]at nQ
     have hE:xP us g=10:=by simp[xP,hF]
     have eL:gB us ss g release=[]:=by simp[gB,nQ]
     have eE:jA us ss g release=10:=by simp[jA,nQ]
     rw[hE,if_neg (by omega)]at hA
     rw[eL,eE]at hQ;simp (disch:=omega) [wrap64,Ba,DV,hw,cN,h8,h9,hA];exact hQ _
 ·have nQ:oV us ss g release=xO us ss g:=by
   unfold xO at hw ⊢;unfold oV;split
   ·rfl
   ·split
    ·rfl
    ·split
     ·rfl
     ·rename_i a1 a2 a3
      simp only[a1,a2,a3,if_false]at hw;split at hw
      ·rw[if_pos (by omega),if_pos (by assumption)]
      ·exact absurd rfl hw
  have ag8:¬oV us ss g release=0:=by rw[nQ];exact hw
  have eL:gB us ss g release=[]:=by simp[gB,ag8]
  have eE:jA us ss g release=xO us ss g:=by simp[jA,nQ,hw]
  rw[eL,eE]at hQ;simp (disch:=omega) [wrap64,Ba,DV,hw];exact hQ _
end Go.Proofs.YtmpikpodpgnjhaaGreat
namespace Go.Proofs.YtmpikpodpgnjhaaGreat
set_option linter.all false
open Go.Vm
end Go.Proofs.YtmpikpodpgnjhaaGreat
namespace Go.Proofs.YtmpikpodpgnjhaaGreat
set_option linter.all false
open Go.Vm
attribute [local simp] mc me ma mb
structure Gs where
 o:Int
 j:Bool
 deriving Inhabited,DecidableEq
abbrev Gs.row(s:Gs):List V:=[i64 s.o,.bool s.j]
abbrev gs(s:Gs):V:=.agg s.row
abbrev jk(l:List Gt):V:=.slice none 3 (l.map Gt.row)
abbrev j8(l:List Gs):V:=.slice none 2 (l.map Gs.row)
def s9(l:List Rt)(lv:Int):Option (List Pt):=l.foldl (fun a r=>if r.lv≤lv then some r.c else a) none
def pS(l:List Rt)(lv:Int):List Pt:=(s9 l lv).getD []
theorem DW{l:List Rt}{r:Rt}{lv:Int}:s9 (l++[r]) lv=if r.lv≤lv then some r.c else s9 l lv:=by
 simp[s9,List.foldl_append]
def xR:Option (List Pt)→V
 |none=>.bW
 |some c=>gQ c
@[simp] theorem aoU{o:Option (List Pt)}{d:Nat}:(xR o).cj d=false:=by cases o<;>rfl
@[simp] theorem aoV{o:Option (List Pt)}:(xR o).cz=true:=by cases o<;>rfl
def qD(c:List Pt)(o:Int):Int:=if c.length=0 then 0 else gK c o
structure Gv(g:Gt):Prop where
 cur:∀i,i<g.r.length→fD (nth g.r i).c=0
 top:∀i,i<g.r.length→(nth (nth g.r i).c ((nth g.r i).c.length-1)).y≤1073741824
 bot:∀i,i<g.r.length→(nth (nth g.r i).c 0).x=0∧(nth (nth g.r i).c 0).y=0
 jJ:0<g.r.length∧g.r.length≤10
 c5:0≤g.c5∧g.c5≤1000
 move:0≤g.move∧g.move≤1000
theorem VQ{g:Gt}(h:jz g=0):Gv g:=by
 unfold jz at h;split at h
 ·cases h
 split at h
 ·cases h
 split at h
 ·rename_i h3;exact absurd h h3
 split at h
 ·cases h
 rename_i h1 h2 h3 h4;have h3:dK (nk g.r) g.r.length 0=0:=Decidable.of_not_not h3;have at_:∀i,i<g.r.length→fD (nth g.r i).c=0∧((nth (nth g.r i).c 0).x=0∧(nth (nth g.r i).c 0).y=0)∧(nth (nth g.r i).c ((nth g.r i).c.length-1)).y≤1073741824:=fun i hi=>by
  have:=rm h3 i (by omega) (by omega)
  unfold nk at this;split at this
  ·cases this
  split at this
  ·cases this
  split at this
  ·rename_i h5;exact absurd this h5
  split at this
  ·cases this
  split at this
  ·cases this
  rename_i h5 h6 h7;exact⟨Decidable.of_not_not h5,Decidable.of_not_not h6,by omega⟩
 exact⟨fun i hi=>(at_ i hi).1,fun i hi=>(at_ i hi).2.2,fun i hi=>(at_ i hi).2.1,by omega,by omega,by omega⟩
theorem VR{P:List Pt→Prop}{l:List Rt}{lv:Int}(h:∀i,i<l.length→P (nth l i).c):pS l lv=[]∨P (pS l lv):=by
 have key:∀k,k≤l.length→∀c,s9 (l.take k) lv=some c→P c:=by
  intro k;induction k with
  |zero=>intro _ c hc;simp[s9]at hc
  |succ k ih =>
   intro hk c hc;rw[ji (by omega),DW]at hc
   split at hc
   ·cases hc;exact h k (by omega)
   ·exact ih (by omega) c hc
 have:=key l.length (Nat.le_refl _);rw[List.take_length]at this;unfold pS;cases hc:s9 l lv with
 |none=>exact .inl rfl
 |some c=>exact .inr (this c hc)
theorem VS{g:Gt}(hv:Gv g)(lv:Int)(G:List aP):∃t,a8 F 212 [gt g,i64 lv] G=some (.agg [.slice t 2 ((pS g.r lv).map Pt.row),i64 0],G):=by
 suffices h:∀Q:V→List aP→Prop,(∀t,Q (.agg [.slice t 2 ((pS g.r lv).map Pt.row),i64 0]) G)→gY (a8 F) 212 [gt g,i64 lv] G Q by
  obtain⟨_,_,h,t,rfl,rfl⟩:=h (fun v G'=>∃t,v=.agg [.slice t 2 ((pS g.r lv).map Pt.row),i64 0]∧G'=G) fun t=>⟨t,rfl,rfl⟩;exact⟨t,h⟩
 intro Q hQ;obtain⟨l,c5,move⟩:=g;have Bh:=hv.jJ;simp only at Bh;refine iu rfl rfl ?_;simp (disch:=omega) [-getElem?_pos,wrap64,Uk];refine go_loop (fun i:Nat=>afy lv (zq l) l.length i [.bW,i64 0] [xR (s9 (l.take i) lv),i64 0] G) (fun i=>i≤l.length) (fun i=>l.length-i) 0 rfl (by simp[s9,xR]) (by omega) ?_
 rintro i hi;simp (disch:=omega) [-getElem?_pos,wrap64,Uj];refine bK (fun h3=>?_) (fun h3=>?_)
 ·have h3:i<l.length:=by omega
  by_cases h4:(nth l i).lv≤lv
  ·simp (disch:=omega) [-getElem?_pos,wrap64,bb (l:=l),h3,h4]
   refine bL (i+1) (by simp[ji h3,DW,h4,xR]) (by omega) (by omega)
  ·simp (disch:=omega) [-getElem?_pos,wrap64,bb (l:=l),h3,h4]
   refine bL (i+1) (by simp[ji h3,DW,h4,xR]) (by omega) (by omega)
 ·obtain rfl:i=l.length:=by omega
  rw[List.take_length];cases hc:s9 l lv with
  |none =>
   simp only[pS,hc]at hQ;simp (disch:=omega) [-getElem?_pos,wrap64,xR];exact hQ _
  |some c =>
   simp only[pS,hc]at hQ;simp (disch:=omega) [-getElem?_pos,wrap64,xR];exact hQ _
theorem Ml{c:List Pt}(h:c=[]∨fD c=0)(w o:Int)(G:List aP):a8 F 214 [.agg [gQ c,i64 w],i64 o] G=some (i64 (qD c o),G) :=
 bV rfl rfl (by
  rcases h with rfl|h
  ·simp[wrap64,Lw,qD]
  ·have hp:=rn h
   have h1:¬ c.length=0:=by omega
   have h2:¬ (c.length:Int)=0:=by omega
   simp[wrap64,Lw,qD,GO (lh h),h1,h2])
theorem ag9{c:List Pt}(h:c=[]∨fD c=0)(w o:Int)(G:List aP):a8 F 211 [.agg [gQ c,i64 w],i64 o] G=some (.bool (decide (w≤qD c o)),G) :=
 bV rfl rfl (by
  simp[wrap64,Ui,Ml h])
def ig(g:Gt)(o lv:Int):Int:=qD (pS g.r lv) o
theorem aha{g:Gt}(h:Gv g)(o lv:Int)(G:List aP):a8 F 172 [gt g,i64 o,i64 lv] G=some (i64 (ig g o lv),G) :=
 bV rfl rfl (by
  obtain⟨l,c5,move⟩:=g;have Mm:=h.cur;have Bh:=h.jJ;simp only at Mm Bh;generalize hW:ig ⟨l,c5,move⟩ o lv=W;unfold ig pS at hW;simp only at hW;simp (disch:=omega) [-getElem?_pos,wrap64,TD];refine go_loop (fun i:Nat=>aeM o lv (qD ((s9 (l.take i) lv).getD []) o) (zq l) l.length i G) (fun i=>i≤l.length) (fun i=>l.length-i) 0 rfl (by simp[s9,qD]) (by omega) ?_
  rintro i hi;simp (disch:=omega) [-getElem?_pos,wrap64,TC];refine bK (fun h3=>?_) (fun h3=>?_)
  ·have h3:i<l.length:=by omega
   have hp:=rn (Mm i h3);have hn:¬ (nth l i).c=[]:=fun e=>by rw[e]at hp;simp at hp
   by_cases h4:(nth l i).lv≤lv
   ·simp (disch:=omega) [-getElem?_pos,wrap64,bb (l:=l),h3,h4,LJ,Mm]
    refine bL (i+1) (by simp[ji h3,DW,h4,qD,hn]) (by omega) (by omega)
   ·simp (disch:=omega) [-getElem?_pos,wrap64,bb (l:=l),h3,h4]
    refine bL (i+1) (by simp[ji h3,DW,h4]) (by omega) (by omega)
  ·obtain rfl:i=l.length:=by omega
   rw[List.take_length];simp (disch:=omega) [-getElem?_pos,wrap64,hW])
def ml(g:Gt)(s:Gs):Prop:=0≤s.o∧s.o≤g.c5
instance {g:Gt} {s:Gs}:Decidable (ml g s):=inferInstanceAs (Decidable (_∧_))
def eK(g:Gt)(s:Gs):Bd:=if s.j then ⟨s.o,s.o⟩ else ⟨max (s.o-g.move) 0,min (s.o+g.move) g.c5⟩
theorem VT{g:Gt}{s:Gs}(h:Gv g)(hs:ml g s)(G:List aP):a8 F 213 [gt g,gs s] G=some (.agg (eK g s).row,G) :=
 bV rfl rfl (by
  obtain⟨l,c5,move⟩:=g;obtain⟨o,j⟩:=s;have h1:=h.c5;have h2:=h.move;have h3:=hs.1;have h4:=hs.2;simp only at h1 h2 h3 h4;cases j with
  |true=>simp (disch:=omega) [wrap64,Lu,eK]
  |false =>
   have e1:max (0:Int) (o-move)=max (o-move) 0:=Int.max_comm _ _;have e2:min c5 (o+move)=min (o+move) c5:=Int.min_comm _ _;simp (disch:=omega) [wrap64,Lu,eK,e1,e2])
theorem ahb{g:Gt}{s:Gs}(h:Gv g)(hs:ml g s)(G:List aP):a8 F 171 [gt g,gs s] G=some (.agg (eK g s).row,G) :=
 bV rfl rfl (by
  obtain⟨l,c5,move⟩:=g;obtain⟨o,j⟩:=s;have h1:=h.c5;have h2:=h.move;have h3:=hs.1;have h4:=hs.2;simp only at h1 h2 h3 h4;cases j with
  |true=>simp (disch:=omega) [wrap64,Ld,eK]
  |false =>
   have e1:max (0:Int) (o-move)=max (o-move) 0:=Int.max_comm _ _;have e2:min c5 (o+move)=min (o+move) c5:=Int.min_comm _ _;simp (disch:=omega) [wrap64,Ld,eK,e1,e2])
theorem Ha(g:Gt)(s:Gs)(G:List aP):a8 F 227 [gt g,gs s] G=some (.bool (decide (ml g s)),G) :=
 bV rfl rfl (by
  simp[wrap64,Ly,K4,dj,cN,ml];by_cases h1:0≤s.o<;>by_cases h2:s.o≤g.c5<;>simp[h1,h2])
theorem xS(g:Gt)(s:Gs)(G:List aP):a8 F 136 [gt g,gs s] G=some (.bool (decide (ml g s)),G) :=
 bV rfl rfl (by
  simp[wrap64,Ly,K4,dj,cN,ml];by_cases h1:0≤s.o<;>by_cases h2:s.o≤g.c5<;>simp[h1,h2])
def wD(g:List Gt)(s:List Gs):Prop:=∀i,i<g.length→ml (nth g i) (nth s i)
noncomputable instance {g:List Gt} {s:List Gs}:Decidable (wD g s):=Classical.propDecidable _
noncomputable def aE(g:List Gt)(s:List Gs)(lv:Int):Int :=
 if 8<g.length then 10 else if g.length≠s.length then 3 else if ¬wD g s then 3
 else if dK (fun i=>jz (nth g i)) g.length 0≠0 then dK (fun i=>jz (nth g i)) g.length 0 else if ¬(0≤lv∧lv≤16777216) then 1 else 0
theorem VU(g:List Gt)(s:List Gs)(lv:Int)(G:List aP):a8 F 222 [jk g,j8 s,i64 lv] G=some (i64 (aE g s lv),G) :=
 bV rfl rfl (by
  generalize hW:aE g s lv=W;unfold aE at hW;simp (disch:=omega) [-getElem?_pos,wrap64,Lx,KX];refine bK (fun h1=>?_) (fun h1=>gm (fun h2=>?_) (fun h2=>?_))
  ·rw[if_pos (by omega)]at hW
   exact hW
  ·simp[-List.length_eq_zero_iff,-Int.natCast_eq_zero]at h2
   rw[if_neg (by omega),if_pos (by omega)]at hW
   exact hW
  ·simp[-List.length_eq_zero_iff,-Int.natCast_eq_zero]at h2
   rw[if_neg (by omega),if_neg (by omega)]at hW
   have hl:g.length=s.length:=by omega
   refine go_loop (fun i:Nat=>afL (jk g) (j8 s) lv (jk g) g.length i G) (fun i=>i≤g.length∧∀j,j<i→ml (nth g j) (nth s j)) (fun i=>g.length-i) 0 rfl (by simp) ⟨by omega,by omega⟩ ?_
   rintro i ⟨hi,hv⟩;simp (disch:=omega) [-getElem?_pos,wrap64,Uy];refine bK (fun h3=>?_) (fun h3=>?_)
   ·have h3:i<g.length:=by omega
    by_cases h4:ml (nth g i) (nth s i)
    ·simp (disch:=omega) [-getElem?_pos,wrap64,bb (l:=g),bb (l:=s),Ha,xS,h4]
     refine bL (i+1) (by simp) ⟨by omega,fun j hj=>?_⟩ (by omega)
     rcases Nat.lt_or_ge j i with h5|h5
     ·exact hv j h5
     ·rwa [show j=i by omega]
    ·rw[if_pos (fun h=>h4 (h i h3))]at hW
     simp (disch:=omega) [-getElem?_pos,wrap64,bb (l:=g),bb (l:=s),Ha,xS,h4];exact hW
   ·obtain rfl:i=g.length:=by omega
    rw[if_neg (fun h=>h hv)]at hW;refine go_loop (fun i:Nat=>afN lv (jk g) g.length i G) (fun i=>i≤g.length∧dK (fun i=>jz (nth g i)) (g.length-i) i=dK (fun i=>jz (nth g i)) g.length 0) (fun i=>g.length-i) 0 rfl (by simp) ⟨by omega,rfl⟩ ?_
    rintro i ⟨hi,hq⟩;simp (disch:=omega) [-getElem?_pos,wrap64,Uz];refine bK (fun h3=>?_) (fun h3=>?_)
    ·have h3:i<g.length:=by omega
     rw[ld h3]at hq;by_cases h4:jz (nth g i)=0
     ·rw[if_pos h4]at hq
      simp (disch:=omega) [-getElem?_pos,wrap64,bb (l:=g),xL,xM,h4];exact bL (i+1) (by simp) ⟨by omega,hq⟩ (by omega)
     ·rw[if_neg h4]at hq
      rw[←hq,if_pos h4]at hW;simp (disch:=omega) [-getElem?_pos,wrap64,bb (l:=g),xL,xM,h4];exact hW
    ·obtain rfl:i=g.length:=by omega
     rw[mI]at hq;rw[←hq,if_neg (by omega)]at hW
     by_cases m1:0≤lv∧lv≤16777216
     ·have m2:(!decide (0≤lv) || !decide (lv≤16777216))=false:=by simp;omega
      rw[if_neg (by omega)]at hW
      simp (disch:=omega) [-getElem?_pos,wrap64,dj,cN,m2];exact hW
     ·have m2:(!decide (0≤lv) || !decide (lv≤16777216))=true:=by simp;omega
      rw[if_pos (by omega)]at hW
      simp (disch:=omega) [-getElem?_pos,wrap64,dj,cN,m2];exact hW)
theorem Hb(g:List Gt)(s:List Gs)(lv:Int)(G:List aP):a8 F 123 [jk g,j8 s,i64 lv] G=some (i64 (aE g s lv),G) :=
 bV rfl rfl (by
  generalize hW:aE g s lv=W;unfold aE at hW;simp (disch:=omega) [-getElem?_pos,wrap64,Lx,KX];refine bK (fun h1=>?_) (fun h1=>gm (fun h2=>?_) (fun h2=>?_))
  ·rw[if_pos (by omega)]at hW
   exact hW
  ·simp[-List.length_eq_zero_iff,-Int.natCast_eq_zero]at h2
   rw[if_neg (by omega),if_pos (by omega)]at hW
   exact hW
  ·simp[-List.length_eq_zero_iff,-Int.natCast_eq_zero]at h2
   rw[if_neg (by omega),if_neg (by omega)]at hW
   have hl:g.length=s.length:=by omega
   refine go_loop (fun i:Nat=>adL (jk g) (j8 s) lv (jk g) g.length i G) (fun i=>i≤g.length∧∀j,j<i→ml (nth g j) (nth s j)) (fun i=>g.length-i) 0 rfl (by simp) ⟨by omega,by omega⟩ ?_
   rintro i ⟨hi,hv⟩;simp (disch:=omega) [-getElem?_pos,wrap64,SJ];refine bK (fun h3=>?_) (fun h3=>?_)
   ·have h3:i<g.length:=by omega
    by_cases h4:ml (nth g i) (nth s i)
    ·simp (disch:=omega) [-getElem?_pos,wrap64,bb (l:=g),bb (l:=s),Ha,xS,h4]
     refine bL (i+1) (by simp) ⟨by omega,fun j hj=>?_⟩ (by omega)
     rcases Nat.lt_or_ge j i with h5|h5
     ·exact hv j h5
     ·rwa [show j=i by omega]
    ·rw[if_pos (fun h=>h4 (h i h3))]at hW
     simp (disch:=omega) [-getElem?_pos,wrap64,bb (l:=g),bb (l:=s),Ha,xS,h4];exact hW
   ·obtain rfl:i=g.length:=by omega
    rw[if_neg (fun h=>h hv)]at hW;refine go_loop (fun i:Nat=>adO lv (jk g) g.length i G) (fun i=>i≤g.length∧dK (fun i=>jz (nth g i)) (g.length-i) i=dK (fun i=>jz (nth g i)) g.length 0) (fun i=>g.length-i) 0 rfl (by simp) ⟨by omega,rfl⟩ ?_
    rintro i ⟨hi,hq⟩;simp (disch:=omega) [-getElem?_pos,wrap64,SK];refine bK (fun h3=>?_) (fun h3=>?_)
    ·have h3:i<g.length:=by omega
     rw[ld h3]at hq;by_cases h4:jz (nth g i)=0
     ·rw[if_pos h4]at hq
      simp (disch:=omega) [-getElem?_pos,wrap64,bb (l:=g),xL,xM,h4];exact bL (i+1) (by simp) ⟨by omega,hq⟩ (by omega)
     ·rw[if_neg h4]at hq
      rw[←hq,if_pos h4]at hW;simp (disch:=omega) [-getElem?_pos,wrap64,bb (l:=g),xL,xM,h4];exact hW
    ·obtain rfl:i=g.length:=by omega
     rw[mI]at hq;rw[←hq,if_neg (by omega)]at hW
     by_cases m1:0≤lv∧lv≤16777216
     ·have m2:(!decide (0≤lv) || !decide (lv≤16777216))=false:=by simp;omega
      rw[if_neg (by omega)]at hW
      simp (disch:=omega) [-getElem?_pos,wrap64,dj,cN,m2];exact hW
     ·have m2:(!decide (0≤lv) || !decide (lv≤16777216))=true:=by simp;omega
      rw[if_pos (by omega)]at hW
      simp (disch:=omega) [-getElem?_pos,wrap64,dj,cN,m2];exact hW)
theorem ahc{c:List Pt}{i:Nat}:nM c i (nth c (i-1)).x=(nth c (i-1)).y:=by simp[nM]
theorem ahd{c:List Pt}(h:Cv c){k:Nat}(hk:k<c.length){x:Int}(hx:x≤(nth c k).x):gK c x≤(nth c k).y:=by
 rcases LH h x with h1 | ⟨i,a,b,d,e⟩ | h1
 ·rw[zm h h1];exact h.le (by omega) hk
 ·rw[u7 h a b d e]
  have h2:=DF h a b d e;rcases Nat.lt_or_ge k i with h3|h3
  ·rcases Nat.lt_or_ge k (i-1) with h4|h4
   ·have:=h.lt h4 (by omega);omega
   ·obtain rfl:k=i-1:=by omega
    have:x=(nth c (i-1)).x:=by omega
    rw[this,ahc];omega
  ·have:=h.le h3 hk
   unfold nM;omega
 ·have hp:=h.pos
  rcases Nat.lt_or_ge k (c.length-1) with h4|h4
  ·have:=h.lt h4 (by omega);omega
  ·obtain rfl:k=c.length-1:=by omega
   rw[GN h h1];omega
theorem Mn{c:List Pt}(h:Cv c){x x':Int}(hx:x≤x'):gK c x≤gK c x':=by
 rcases LH h x' with h1 | ⟨i,a,b,d,e⟩ | h1
 ·rw[zm h h1,zm h (by omega)];omega
 ·by_cases h2:(nth c (i-1)).x≤x
  ·rw[u7 h a b d e,u7 h a b h2 (by omega)]
   have h3:=h.up i a b;have h4:=h.mono i a b;unfold nM;have:=Int.tdiv_le_tdiv (a:=((nth c i).y-(nth c (i-1)).y)*(x-(nth c (i-1)).x)) (b:=((nth c i).y-(nth c (i-1)).y)*(x'-(nth c (i-1)).x)) (c:=(nth c i).x-(nth c (i-1)).x) (by omega)
    (Int.mul_le_mul_of_nonneg_left (by omega) (by omega))
   omega
  ·have h5:=ahd h (k:=i-1) (by omega) (x:=x) (by omega)
   have h6:=DF h a b d e;rw[u7 h a b d e];unfold nM;omega
 ·rw[GN h h1]
  exact(Bf h x).2
theorem ahe{c:List Pt}(h:c=[]∨fD c=0){o o':Int}(ho:o≤o'):qD c o≤qD c o':=by
 rcases h with rfl|h
 ·simp[qD]
 ·unfold qD
  rw[if_neg (by have:=rn h;omega),if_neg (by have:=rn h;omega)]
  exact Mn (lh h) ho
theorem Mo{g:Gt}(h:Gv g)(lv:Int):pS g.r lv=[]∨fD (pS g.r lv)=0:=VR (P:=fun c=>fD c=0) h.cur
theorem ahf{g:Gt}(h:Gv g){lv o o':Int}(ho:o≤o'):ig g o lv≤ig g o' lv:=ahe (Mo h lv) ho
theorem ry{g:Gt}(h:Gv g)(o lv:Int):0≤ig g o lv∧ig g o lv≤1073741824:=by
 unfold ig qD;have h1:=VR (P:=fun c=>fD c=0∧(nth c (c.length-1)).y≤1073741824) (l:=g.r) (lv:=lv) (fun i hi=>⟨h.cur i hi,h.top i hi⟩);rcases h1 with h1 | ⟨h1,h2⟩
 ·rw[h1];simp
 ·rw[if_neg (by have:=rn h1;omega)]
  have h3:=Bf (lh h1) o;have h4:=(lh h1).y0 0 (rn h1);omega
theorem DX{g:List Gt}{s:List Gs}{lv:Int}(h:aE g s lv=0):g.length≤8∧g.length=s.length∧wD g s∧(∀i,i<g.length→Gv (nth g i))∧0≤lv∧lv≤16777216:=by
 unfold aE at h;split at h
 ·cases h
 split at h
 ·cases h
 split at h
 ·cases h
 split at h
 ·rename_i h1;exact absurd h h1
 split at h
 ·cases h
 rename_i h1 h2 h3 h4 h5;have h4:=Decidable.of_not_not h4;exact⟨by omega,by omega,Decidable.of_not_not h3,fun i hi=>VQ (rm h4 i (by omega) (by omega)),by omega⟩
def kH(f:Gt→Gs→Int)(g:List Gt)(s:List Gs)(i:Nat):Int:=(List.zipWith f (g.take i) (s.take i)).sum
theorem DY{f:Gt→Gs→Int}{g:List Gt}{s:List Gs}:kH f g s 0=0:=by simp[kH]
theorem zD{f:Gt→Gs→Int}{g:List Gt}{s:List Gs}{i:Nat}(h1:i<g.length)(h2:i<s.length):kH f g s (i+1)=kH f g s i+f (nth g i) (nth s i):=by
 unfold kH;rw[wz h1 h2,List.sum_append];simp
theorem Mp{f:Gt→Gs→Int}{g:List Gt}{s:List Gs}(hl:g.length=s.length)(h:∀i,i<g.length→0≤f (nth g i) (nth s i)∧f (nth g i) (nth s i)≤1073741824):∀i,i≤g.length→0≤kH f g s i∧kH f g s i≤1073741824*i:=by
 intro i;induction i with
 |zero=>intro _;rw[DY];omega
 |succ i ih =>
  intro hi;rw[zD (by omega) (by omega)]
  have:=ih (by omega)
  have:=h i (by omega)
  omega
def fE(lv:Int)(g:Gt)(s:Gs):Int:=ig g (eK g s).lo lv
def Hc(lv:Int)(g:Gt)(s:Gs):Int:=ig g (eK g s).hi lv
noncomputable def Bt(g:List Gt)(s:List Gs)(lv:Int):V:=if aE g s lv=0 then .tuple [.agg [i64 (kH (fE lv) g s g.length),i64 (kH (Hc lv) g s g.length)],i64 0] else .tuple [.agg [i64 0,i64 0],i64 (aE g s lv)]
theorem Mq(g:List Gt)(s:List Gs)(lv:Int)(G:List aP):a8 F 210 [jk g,j8 s,i64 lv] G=some (Bt g s lv,G) :=
 bV rfl rfl (by
  generalize hW:Bt g s lv=W;unfold Bt at hW;by_cases he:aE g s lv=0
  ·rw[if_pos he]at hW
   obtain⟨h1,h2,h3,h4,h5⟩:=DX he;have r1:=Mp (f:=fE lv) h2 (fun i hi=>ry (h4 i hi) _ _);have r2:=Mp (f:=Hc lv) h2 (fun i hi=>ry (h4 i hi) _ _);simp (disch:=omega) [-getElem?_pos,wrap64,Lt,VU,he];refine go_loop (fun i:Nat=>afv (j8 s) lv (jk g) g.length i [i64 0,i64 0] [i64 (kH (fE lv) g s i),i64 (kH (Hc lv) g s i)] G) (fun i=>i≤g.length) (fun i=>g.length-i) 0 rfl (by simp[DY]) (by omega) ?_
   rintro i hi;simp (disch:=omega) [-getElem?_pos,wrap64,Uh];refine bK (fun h6=>?_) (fun h6=>?_)
   ·have h6:i<g.length:=by omega
    have h7:i<s.length:=by omega
    obtain⟨t,ht⟩:=VS (h4 i h6) lv [];have hr:=VT (h4 i h6) (h3 i h6);have hf:=Ml (Mo (h4 i h6) lv);have b1:=r1 i (by omega)
    have b2:=r2 i (by omega)
    have b3:=ry (h4 i h6) (eK (nth g i) (nth s i)).lo lv;have b4:=ry (h4 i h6) (eK (nth g i) (nth s i)).hi lv;unfold ig at b3 b4;simp (disch:=omega) [-getElem?_pos,wrap64,bb (l:=g),bb (l:=s),ht,hr,hf];exact bL (i+1) (by simp[zD h6 h7,fE,Hc,ig]) (by omega) (by omega)
   ·obtain rfl:i=g.length:=by omega
    exact hW
  ·rw[if_neg he]at hW
   simp (disch:=omega) [-getElem?_pos,wrap64,Lt,VU,he];exact hW)
def kI(f:Bd→Int)(g:List Gt)(s:List Gs):List Int:=List.zipWith (fun g s=>f (eK g s)) g s
theorem xT{f:Bd→Int}{g:List Gt}{s:List Gs}(h:g.length=s.length):(kI f g s).length=g.length:=by simp[kI,h]
theorem DZ{f:Bd→Int}{g:List Gt}{s:List Gs}{i:Nat}(h1:i<g.length)(h2:i<s.length):nth (kI f g s) i=f (eK (nth g i) (nth s i)):=Bl h1 h2
theorem ahg{g:List Gt}{s:List Gs}(hl:g.length=s.length)(hn:g.length≤8)(hs:wD g s)(hv:∀i,i<g.length→Gv (nth g i))(G:List aP) :
  a8 F 124 [jk g,j8 s] G=some (.tuple [own (kI Bd.lo g s),own (kI Bd.hi g s)],G) :=
 bV rfl rfl (by
  simp (disch:=omega) [-getElem?_pos,wrap64,SM];refine go_loop (fun i:Nat=>adQ (j8 s) (.slice (some 1028) 1 ((kI Bd.lo (g.take i) (s.take i)).map fun n=>[i64 n])) (.slice (some 1033) 1 ((kI Bd.hi (g.take i) (s.take i)).map fun n=>[i64 n])) (jk g) g.length i i i G) (fun i=>i≤g.length) (fun i=>g.length-i) 0 rfl (by simp[kI]) (by omega) ?_
  rintro i hi;have e1:(kI Bd.lo (g.take i) (s.take i)).length=i:=by rw[xT (by simp;omega)];simp;omega
  have e2:(kI Bd.hi (g.take i) (s.take i)).length=i:=by rw[xT (by simp;omega)];simp;omega
  simp (disch:=omega) [-getElem?_pos,wrap64,SL,e1,e2];refine bK (fun h6=>?_) (fun h6=>?_)
  ·have h6:i<g.length:=by omega
   have h7:i<s.length:=by omega
   have hr:=ahb (hv i h6) (hs i h6);simp (disch:=omega) [-getElem?_pos,wrap64,bb (l:=g),bb (l:=s),hr,e1,e2];refine bL (i+1) ?_ (by omega) (by omega)
   unfold kI;rw[wz h6 h7,wz h6 h7];simp
  ·obtain rfl:i=g.length:=by omega
   have t1:g.take g.length=g:=List.take_length;have t2:s.take g.length=s:=by rw[hl];exact List.take_length
   rw[t1,t2]at *;simp (disch:=omega) [-getElem?_pos,wrap64,e1,e2])
def oC(g:List Gt)(l:List Int)(lv:Int)(i:Nat):Int:=(List.zipWith (fun g o=>ig g o lv) (g.take i) (l.take i)).sum
theorem Hd{g:List Gt}{l:List Int}{lv:Int}:oC g l lv 0=0:=by simp[oC]
theorem D0{g:List Gt}{l:List Int}{lv:Int}{i:Nat}(h1:i<g.length)(h2:i<l.length):oC g l lv (i+1)=oC g l lv i+ig (nth g i) (nth l i) lv:=by
 unfold oC;rw[wz h1 h2,List.sum_append];simp
theorem ahh{g:List Gt}{l:List Int}{lv:Int}(hl:g.length=l.length)(hv:∀i,i<g.length→Gv (nth g i)):∀i,i≤g.length→0≤oC g l lv i∧oC g l lv i≤1073741824*i:=by
 intro i;induction i with
 |zero=>intro _;rw[Hd];omega
 |succ i ih =>
  intro hi;rw[D0 (by omega) (by omega)]
  have:=ih (by omega)
  have:=ry (hv i (by omega)) (nth l i) lv
  omega
theorem D1{g:List Gt}{l:List Int}(hl:g.length=l.length)(hn:g.length≤8)(hv:∀i,i<g.length→Gv (nth g i))(lv:Int)(G:List aP) :
  a8 F 125 [jk g,ints l,i64 lv] G=some (i64 (oC g l lv g.length),G) :=
 bV rfl rfl (by
  generalize hW:oC g l lv g.length=W;simp (disch:=omega) [-getElem?_pos,wrap64,SO];refine go_loop (fun i:Nat=>adU (ints l) lv (oC g l lv i) (jk g) g.length i G) (fun i=>i≤g.length) (fun i=>g.length-i) 0 rfl (by simp[Hd]) (by omega) ?_
  rintro i hi;simp (disch:=omega) [-getElem?_pos,wrap64,SN];refine bK (fun h6=>?_) (fun h6=>?_)
  ·have h6:i<g.length:=by omega
   have h7:i<l.length:=by omega
   have hr:=aha (hv i h6);have b1:=ahh (lv:=lv) hl hv i (by omega)
   have b2:=ry (hv i h6) (nth l i) lv;simp (disch:=omega) [-getElem?_pos,wrap64,bb (l:=g),dD h7,hr];exact bL (i+1) (by simp[D0 h6 h7]) (by omega) (by omega)
  ·obtain rfl:i=g.length:=by omega
   exact hW)
theorem ahi{f:Bd→Int}{g:List Gt}{s:List Gs}{lv:Int}(hl:g.length=s.length):∀i,i≤g.length→oC g (kI f g s) lv i=kH (fun g s=>ig g (f (eK g s)) lv) g s i:=by
 intro i;induction i with
 |zero=>intro _;rw[Hd,DY]
 |succ i ih =>
  intro hi;rw[D0 (by omega) (by rw[xT hl];omega),zD (by omega) (by omega),ih (by omega),DZ (by omega) (by omega)]
theorem ahj{n:Int}(h1:0≤n)(h2:n≤18446744073709551615):IntKind.u64.wrap n=n:=by
 simp[IntKind.wrap,IntKind.bits,IntKind.signed];omega
def VV(f:FuncId)(cap:List V)(G:List aP)(N:Int)(p:Int→Bool):Prop:=∀m,0≤m→m<N→a8 F f (i64 m::cap) G=some (.bool (p m),G)
theorem ahk{f:FuncId}{cap:List V}{G:List aP}{N:Int}{p:Int→Bool}(hN:0≤N)(hN2:N≤1000000)(h:VV f cap G N p) :
  ∃r,a8 F 223 [i64 N,.fn f cap] G=some (i64 r,G)∧0≤r∧r≤N∧(0<r→p (r-1)=false)∧(r<N→p r=true):=by
 suffices hs:∀Q:V→List aP→Prop,(∀r,0≤r→r≤N→(0<r→p (r-1)=false)→(r<N→p r=true)→Q (i64 r) G)→gY (a8 F) 223 [i64 N,.fn f cap] G Q by
  obtain⟨_,_,h,r,rfl,rfl,h1⟩:=hs (fun v G'=>∃r,v=i64 r∧G'=G∧0≤r∧r≤N∧(0<r→p (r-1)=false)∧(r<N→p r=true)) fun r a b c d=>⟨r,rfl,rfl,a,b,c,d⟩;exact⟨r,h,h1⟩
 intro Q hQ;refine iu rfl rfl ?_;simp (disch:=omega) [wrap64,UB];refine go_loop (fun s:Int×Int=>afP (.fn f cap) s.1 s.2 G) (fun s=>0≤s.1∧s.1≤s.2∧s.2≤N∧(0<s.1→p (s.1-1)=false)∧(s.2<N→p s.2=true)) (fun s=>(s.2-s.1).toNat) (0,N) rfl (by simp) ⟨by simp,by simpa using hN,by simp,by simp,by simp⟩ ?_
 rintro⟨a,b⟩ ⟨h1,h2,h3,h4,h5⟩;simp only at h1 h2 h3 h4 h5;simp (disch:=omega) [wrap64,UA];refine bK (fun h6=>?_) (fun h6=>?_)
 ·have e1:IntKind.u64.wrap (a+b)=a+b:=ahj (by omega) (by omega)
  have e2:(a+b).fdiv 2=(a+b) / 2:=Int.fdiv_eq_ediv_of_nonneg _ (by omega)
  have hp:=h ((a+b) / 2) (by omega) (by omega)
  have e3:(2:Int) ^ (min 1 IntKind.u64.bits)=2:=rfl;simp (disch:=omega) [wrap64,e1,e2,e3,hp];cases hq:p ((a+b) / 2) with
  |false =>
   simp (disch:=omega) [wrap64,wrap64];refine bL ((a+b) / 2+1,b) (by simp) ⟨by simp;omega,by simp;omega,h3,fun _=>?_,h5⟩ (by simp;omega)
   simpa using hq
  |true =>
   simp (disch:=omega) [wrap64,wrap64];exact bL (a,(a+b) / 2) (by simp) ⟨h1,by simp;omega,by simp;omega,h4,fun _=>hq⟩ (by simp;omega)
 ·obtain rfl:a=b:=by omega
  exact hQ a (by omega) (by omega) h4 h5
def ta(p:Int→Bool):Nat→Int→Int
 |0,o=>o
 |n+1,o=>if p o then o else ta p n (o+1)
theorem Mr{p:Int→Bool}:∀{n:Nat} {o x:Int},o≤x→x≤o+n→(∀m,o≤m→m<x→p m=false)→(x<o+n→p x=true)→ta p n o=x
 |0,o,x,h1,h2,_,_=>by simp[ta];omega
 |n+1,o,x,h1,h2,h3,h4=>by
  unfold ta;by_cases h:o=x
  ·subst h
   rw[if_pos (h4 (by omega))]
  ·rw[if_neg (by rw[h3 o (by omega) (by omega)];simp)]
   exact Mr (by omega) (by omega) (fun m a b=>h3 m (by omega) b) (fun a=>h4 (by omega))
theorem ahl{f:FuncId}{cap:List V}{G:List aP}{i j:Nat}{lo hi m:Int}{b:Bool}(h1:G[i]?=some (.cells [.fn f cap]))(h2:G[j]?=some (.cells [i64 lo,i64 hi]))
  (hw:-1000000≤lo+m∧lo+m≤1000000) (h:a8 F f (i64 (lo+m)::cap) G=some (.bool b,G)):a8 F 224 [i64 m,.bB i 0,.bB j 0] G=some (.bool b,G) :=
 bV rfl rfl (by
  have e:IntKind.i64.wrap (lo+m)=lo+m:=wrap64 (by omega) (by omega)
  simp[wrap64,UC,h1,h2,h,e])
theorem ahm{f:FuncId}{cap:List V}{G:List aP}{lo hi:Int}{p:Int→Bool}(hl:0≤lo∧lo≤hi∧hi≤1000)(hp:∀m m',p m=true→m≤m'→p m'=true)
  (h:∀E m,lo≤m→m≤hi→a8 F f (i64 m::cap) (G++E)=some (.bool (p m),G++E)) :
  a8 F 215 [.agg [i64 lo,i64 hi],.fn f cap] G=some (i64 (ta p (hi-lo).toNat lo),G++[.cells [i64 lo,i64 hi],.cells [.fn f cap]]):=by
 have hs:VV 224 [.bB (G.length+1) 0,.bB G.length 0] (G++[.cells [i64 lo,i64 hi],.cells [.fn f cap]]) (hi-lo+1) (fun m=>p (lo+m)):=fun m a b =>
  ahl Qk AV (by omega) (h _ _ (by omega) (by omega))
 obtain⟨r,h1,h2,h3,h4,h5⟩:=ahk (by omega) (by omega) hs
 have e:ta p (hi-lo).toNat lo=min (lo+r) hi:=by
  refine Mr (by omega) (by omega) (fun m a b=>?_) (fun a=>?_)
  ·have h6:=h4 (by omega)
   cases hq:p m with
   |false=>rfl
   |true =>
    have:=hp m (lo+(r-1)) hq (by omega)
    rw[h6]at this;cases this
  ·have:=h5 (by omega)
   rw[show min (lo+r) hi=lo+r by omega]
   exact this
 rw[e];exact bV rfl rfl (by
  simp (disch:=omega) [wrap64,Ul,h1,AV,Qk])
theorem ahn{G:List aP}{i j:Nat}{m w:Int}{c:List Pt}(h1:G[i]?=some (.cells [.fn 211 []]))(h2:G[j]?=some (.cells [gQ c,i64 w]))(hc:c=[]∨fD c=0) :
  a8 F 216 [i64 m,.bB i 0,.bB j 0] G=some (.bool (decide (w≤qD c m)),G) :=
 bV rfl rfl (by
  simp[wrap64,Um,h1,h2,ag9 hc])
def oD(lv w:Int)(g:Gt)(s:Gs)(sum:Int):Int :=
 if sum<w then ta (fun o=>decide (w-(sum-fE lv g s)≤ig g o lv)) ((eK g s).hi-(eK g s).lo).toNat (eK g s).lo else (eK g s).lo
def bs(lv w:Int)(g:List Gt)(s:List Gs):Nat→List Int×Int
 |0=>(kI Bd.lo g s,kH (fE lv) g s g.length)
 |i+1=>((bs lv w g s i).1.set i (oD lv w (nth g i) (nth s i) (bs lv w g s i).2),(bs lv w g s i).2-fE lv (nth g i) (nth s i)+ig (nth g i) (oD lv w (nth g i) (nth s i) (bs lv w g s i).2) lv)
def Bu(o:Int)(s:Gs):Gs:=⟨o,s.j⟩
def lP(l:List Int)(s:List Gs):List Gs:=List.zipWith Bu l s
noncomputable def j9(g:List Gt)(s:List Gs)(lv w:Int):Int:=if aE g s lv≠0 then aE g s lv else if ¬(0≤w∧w≤1073741824) then 1 else 0
noncomputable def np(g:List Gt)(s:List Gs)(lv w:Int):List Gs:=if j9 g s lv w=0 then lP (bs lv w g s g.length).1 s else []
noncomputable def mM(g:List Gt)(s:List Gs)(lv w:Int):Int:=if j9 g s lv w=0 then (bs lv w g s g.length).2 else 0
theorem nq{lv w:Int}{g:List Gt}{s:List Gs}(hl:g.length=s.length):∀i,(bs lv w g s i).1.length=g.length
 |0=>xT hl
 |i+1=>by simp[bs,nq hl i]
theorem zE{g:Gt}{s:Gs}(h:Gv g)(hs:ml g s):0≤(eK g s).lo∧(eK g s).lo≤(eK g s).hi∧(eK g s).hi≤g.c5:=by
 have h1:=h.c5;have h2:=h.move;have h3:=hs.1;have h4:=hs.2;unfold eK;split
 ·simp only;omega
 ·simp only;omega
theorem VW{p:Int→Bool}:∀{n:Nat} {o:Int},o≤ta p n o∧ta p n o≤o+n
 |0,o=>by simp[ta]
 |n+1,o=>by
  unfold ta;have:=VW (p:=p) (n:=n) (o:=o+1);split
  ·omega
  ·omega
theorem aho{lv w:Int}{g:Gt}{s:Gs}(h:Gv g)(hs:ml g s)(sum:Int):(eK g s).lo≤oD lv w g s sum∧oD lv w g s sum≤(eK g s).hi:=by
 have:=zE h hs;unfold oD;split
 ·have:=VW (p:=fun o=>decide (w-(sum-fE lv g s)≤ig g o lv)) (n:=((eK g s).hi-(eK g s).lo).toNat) (o:=(eK g s).lo)
  omega
 ·omega
theorem ahp{lv w:Int}{g:List Gt}{s:List Gs}(hl:g.length=s.length)(hs:wD g s)(hv:∀i,i<g.length→Gv (nth g i)):∀i,i≤g.length →
  kH (fE lv) g s g.length-kH (fE lv) g s i≤(bs lv w g s i).2∧(bs lv w g s i).2≤kH (fE lv) g s g.length-kH (fE lv) g s i+1073741824*i:=by
 intro i;induction i with
 |zero=>intro _;simp[bs,DY]
 |succ i ih =>
  intro hi;have h1:=ih (by omega)
  have h2:=ry (hv i (by omega)) (oD lv w (nth g i) (nth s i) (bs lv w g s i).2) lv
  have h3:=ry (hv i (by omega)) (eK (nth g i) (nth s i)).lo lv
  rw[zD (by omega) (by omega)]
  simp only[bs,fE]at h1 ⊢;omega
theorem VX{lv w:Int}{g:List Gt}{s:List Gs}(hl:g.length=s.length)(hn:g.length≤8)(hs:wD g s)(hv:∀i,i<g.length→Gv (nth g i)){i:Nat}(hi:i≤g.length) :
  0≤(bs lv w g s i).2∧(bs lv w g s i).2≤17179869184∧(i<g.length→fE lv (nth g i) (nth s i)≤(bs lv w g s i).2):=by
 have h1:=ahp (lv:=lv) (w:=w) hl hs hv i hi;have r:=Mp (f:=fE lv) hl (fun i hi=>ry (hv i hi) _ _);have r1:=r g.length (Nat.le_refl _);have r2:=r i hi;have mono:∀k,i≤k→k≤g.length→kH (fE lv) g s i≤kH (fE lv) g s k:=by
  intro k h;induction k with
  |zero=>intro _;obtain rfl:i=0:=by omega
         omega
  |succ k ih =>
   intro hk;rcases Nat.lt_or_ge k i with h3|h3
   ·obtain rfl:i=k+1:=by omega
    omega
   ·rw[zD (by omega) (by omega)]
    have:=ih h3 (by omega)
    have:=ry (hv k (by omega)) (eK (nth g k) (nth s k)).lo lv
    unfold fE;unfold fE at *;omega
 have m1:=mono g.length hi (Nat.le_refl _);refine⟨by omega,by omega,fun h=>?_⟩
 have m2:=mono (i+1) (by omega) (by omega)
 have m3:kH (fE lv) g s (i+1)≤kH (fE lv) g s g.length:=by
  have ahq:∀k,i+1≤k→k≤g.length→kH (fE lv) g s (i+1)≤kH (fE lv) g s k:=by
   intro k hk;induction k with
   |zero=>omega
   |succ k ih =>
    intro mZ;rcases Nat.lt_or_ge k (i+1) with h3|h3
    ·obtain rfl:i=k:=by omega
     omega
    ·rw[zD (i:=k) (by omega) (by omega)]
     have:=ih h3 (by omega)
     have:=ry (hv k (by omega)) (eK (nth g k) (nth s k)).lo lv
     unfold fE;unfold fE at *;omega
  exact ahq g.length (by omega) (Nat.le_refl _)
 rw[zD (by omega) (by omega)]at m3
 omega
theorem ahr(g:List Gt)(s:List Gs)(lv w:Int):∃G',a8 F 204 [jk g,j8 s,i64 lv,i64 w] []=some (.tuple [.slice (some 0) 2 ((np g s lv w).map Gs.row),i64 (mM g s lv w),i64 (j9 g s lv w)],G'):=by
 suffices h:∀Q:V→List aP→Prop,(∀G',Q (.tuple [.slice (some 0) 2 ((np g s lv w).map Gs.row),i64 (mM g s lv w),i64 (j9 g s lv w)]) G')→gY (a8 F) 204 [jk g,j8 s,i64 lv,i64 w] [] Q by
  obtain⟨_,G',h,rfl⟩:=h (fun v G'=>v=.tuple [.slice (some 0) 2 ((np g s lv w).map Gs.row),i64 (mM g s lv w),i64 (j9 g s lv w)]) fun _=>rfl;exact⟨G',h⟩
 intro Q hQ;refine iu rfl rfl ?_;by_cases he:aE g s lv=0
 ·obtain⟨h1,h2,h3,h4,h5⟩:=DX he
  by_cases hw:0≤w∧w≤1073741824
  ·have hE:j9 g s lv w=0:=by simp[j9,he,hw]
   simp only[np,mM,hE,if_true]at hQ;have qX:(!decide (0≤w) || !decide (w≤1073741824))=false:=by simp;omega
   have uj:(decide (0≤w)&&decide (w≤1073741824))=true:=by simp;omega
   have e0:bs lv w g s 0=(kI Bd.lo g s,kH (fE lv) g s g.length):=rfl;simp (disch:=omega) [-getElem?_pos,wrap64,GD,Mq,Bt,he,dj,qX,uj];have hou:∀i,i≤g.length→(lP ((bs lv w g s i).1.take i) (s.take i)).length=i:=fun i hi=>by
    have:=nq (lv:=lv) (w:=w) h2 i;simp[lP];omega
   refine go_loop (fun x:Nat×List aP=>afp (j8 s) lv w (bs lv w g s x.1).2 (.bB 0 0) (.slice (some 1083) 2 ((lP ((bs lv w g s x.1).1.take x.1) (s.take x.1)).map Gs.row)) (jk g) g.length x.1 x.1 x.2)
    (fun x=>x.1≤g.length∧x.2[0]?=some (.cells [.fn 211 []])) (fun x=>g.length-x.1) (0,[.cells [.fn 211 []]]) rfl (by simp[bs,lP]) ⟨by simp,rfl⟩ ?_
   rintro⟨i,G⟩ ⟨hi,hG⟩;simp only at hi hG;have Bv:=hou i hi;have Ms:0<G.length:=by
    rcases Nat.eq_zero_or_pos G.length with h|h
    ·rw[List.getElem?_eq_none (by omega)]at hG;cases hG
    ·exact h
   simp (disch:=omega) [-getElem?_pos,wrap64,Ud];refine bK (fun h6=>?_) (fun h6=>?_)
   ·have h6:i<g.length:=by omega
    have h7:i<s.length:=by omega
    obtain⟨t,ht⟩:=VS (h4 i h6) lv [];have hr:=VT (h4 i h6) (h3 i h6);have hk:=Mo (h4 i h6) lv;have hf:=Ml hk;have hro:=zE (h4 i h6) (h3 i h6);have hm:=(h4 i h6).c5;obtain⟨b1,b2,b3⟩:=VX (lv:=lv) (w:=w) h2 h1 h3 h4 (i:=i) hi;have b3:=b3 h6;have b4:=ry (h4 i h6) (eK (nth g i) (nth s i)).lo lv;have b5:=ry (h4 i h6) (oD lv w (nth g i) (nth s i) (bs lv w g s i).2) lv;have uk:=nq (lv:=lv) (w:=w) h2 i;have VY:lP ((bs lv w g s (i+1)).1.take (i+1)) (s.take (i+1))=lP ((bs lv w g s i).1.take i) (s.take i)++[Bu (oD lv w (nth g i) (nth s i) (bs lv w g s i).2) (nth s i)]:=by
     unfold lP;rw[wz (by rw[nq h2];exact h6) h7]
     simp only[bs];rw[List.take_set_of_le (Nat.le_refl _)];congr 2;simp[nth,uk,h6]
    by_cases jj:(bs lv w g s i).2<w
    ·have vH:oD lv w (nth g i) (nth s i) (bs lv w g s i).2=ta (fun o=>decide (w-((bs lv w g s i).2-fE lv (nth g i) (nth s i))≤ig (nth g i) o lv)) ((eK (nth g i) (nth s i)).hi-(eK (nth g i) (nth s i)).lo).toNat (eK (nth g i) (nth s i)).lo:=by
      unfold oD;rw[if_pos jj]
     have hL:=ahm (f:=216) (cap:=[.bB 0 0,.bB G.length 0]) (G:=G++[.cells [gQ (pS (nth g i).r lv),i64 (w-((bs lv w g s i).2-fE lv (nth g i) (nth s i)))]]) (lo:=(eK (nth g i) (nth s i)).lo) (hi:=(eK (nth g i) (nth s i)).hi)
      (p:=fun o=>decide (w-((bs lv w g s i).2-fE lv (nth g i) (nth s i))≤ig (nth g i) o lv)) (by omega) (fun m m' hp yo=>by
       have:=ahf (h4 i h6) (lv:=lv) yo;simp only[decide_eq_true_eq]at hp ⊢;omega) (fun E m _ _=>ahn (by rw[List.append_assoc,List.getElem?_append_left Ms];exact hG) (by rw[List.append_assoc];exact AV) hk)
     rw[←vH]at hL;unfold fE ig at hL b3;unfold ig at b4 b5;simp (disch:=omega) [-getElem?_pos,wrap64,bb (l:=g),bb (l:=s),ht,hr,hf,AV,jj];simp (disch:=omega) [-getElem?_pos,wrap64,hL,AV,hf,bb (l:=s),Bv];refine bL (i+1,G++[.cells [gQ (pS (nth g i).r lv),i64 (w-((bs lv w g s i).2-fE lv (nth g i) (nth s i)))],.cells [i64 (eK (nth g i) (nth s i)).lo,i64 (eK (nth g i) (nth s i)).hi],.cells [.fn 216 [.bB 0 0,.bB G.length 0]]])
      (by rw[VY];simp[bs,fE,ig,Bu,Bv]) ⟨by simp;omega,by simp only;rw[List.getElem?_append_left Ms];exact hG⟩ (by simp;omega)
    ·have vH:oD lv w (nth g i) (nth s i) (bs lv w g s i).2=(eK (nth g i) (nth s i)).lo:=by
      unfold oD;rw[if_neg jj]
     have hb:(bs lv w g s (i+1)).2=(bs lv w g s i).2:=by
      simp only[bs,fE,vH];omega
     simp (disch:=omega) [-getElem?_pos,wrap64,bb (l:=g),bb (l:=s),ht,hr,hf,AV,jj,Bv];refine bL (i+1,G++[.cells [gQ (pS (nth g i).r lv),i64 0]])
      (by rw[VY,hb,vH];simp[Bu,Bv]) ⟨by simp;omega,by simp only;rw[List.getElem?_append_left Ms];exact hG⟩ (by simp;omega)
   ·obtain rfl:i=g.length:=by omega
    have t1:(bs lv w g s g.length).1.take g.length=(bs lv w g s g.length).1:=List.take_of_length_le (by rw[nq h2];omega)
    have t2:s.take g.length=s:=List.take_of_length_le (by omega)
    rw[t1,t2]at Bv ⊢;simp (disch:=omega) [-getElem?_pos,wrap64,Bv];exact hQ _
  ·have uj:(decide (0≤w)&&decide (w≤1073741824))=false:=by simp;omega
   have hE:j9 g s lv w=1:=by simp[j9,he];omega
   have vi:¬ j9 g s lv w=0:=by rw[hE];omega
   simp only[np,mM,if_neg vi]at hQ;rw[hE]at hQ;have qX:(!decide (0≤w) || !decide (w≤1073741824))=true:=by simp;omega
   simp (disch:=omega) [-getElem?_pos,wrap64,GD,Mq,Bt,he,dj,qX,uj];exact hQ _
 ·have hE:j9 g s lv w=aE g s lv:=by simp[j9,he]
  have vi:¬ j9 g s lv w=0:=by rw[hE];exact he
  simp only[np,mM,if_neg vi]at hQ;rw[hE]at hQ;simp (disch:=omega) [-getElem?_pos,wrap64,GD,Mq,Bt,he];exact hQ _
end Go.Proofs.YtmpikpodpgnjhaaGreat
namespace Go.Proofs.YtmpikpodpgnjhaaGreat
set_option linter.all false
open Go.Vm
theorem He{l:List Int}{i:Nat}{o:Int}(h:i<l.length):nth (l.set i o) i=o:=by simp[nth,h]
theorem VZ{l:List Int}{i k:Nat}{o:Int}(h:i≠k):nth (l.set i o) k=nth l k:=by simp[nth,h]
theorem V4{l:List Int}{i:Nat}(h:i<l.length):l.set i (nth l i)=l:=by
 apply List.ext_getElem?;intro k;by_cases hk:i=k
 ·subst hk
  rw[List.getElem?_set_self h,bb h]
 ·rw[List.getElem?_set_ne hk]
theorem ahu{g:List Gt}{l:List Int}{lv o:Int}{i:Nat}(hl:g.length=l.length)(hi:i<g.length):∀k,k≤g.length→oC g (l.set i o) lv k=oC g l lv k+(if i<k then ig (nth g i) o lv-ig (nth g i) (nth l i) lv else 0):=by
 intro k;induction k with
 |zero=>intro _;simp[Hd]
 |succ k ih =>
  intro hk;rw[D0 (by omega) (by simp;omega),D0 (by omega) (by omega),ih (by omega)]
  by_cases h1:i=k
  ·subst h1
   rw[He (by omega),if_neg (by omega),if_pos (by omega)]
   omega
  ·rw[VZ h1]
   by_cases h2:i<k
   ·rw[if_pos h2,if_pos (by omega)];omega
   ·rw[if_neg h2,if_neg (by omega)];omega
section
variable {g:List Gt} {s:List Gs} {lv w:Int}
theorem Hf(hl:g.length=s.length):∀{i k:Nat},i≤k→k<g.length→nth (bs lv w g s i).1 k=(eK (nth g k) (nth s k)).lo:=by
 intro i;induction i with
 |zero=>intro k _ hk;exact DZ hk (by omega)
 |succ i ih =>
  intro k h hk;simp only[bs];rw[VZ (by omega)]
  exact ih (by omega) hk
theorem Mt(hl:g.length=s.length){i:Nat}(ht:oC g (bs lv w g s i).1 lv g.length=(bs lv w g s i).2)(hi:i<g.length)(o:Int) :
  oC g ((bs lv w g s i).1.set i o) lv g.length=(bs lv w g s i).2-fE lv (nth g i) (nth s i)+ig (nth g i) o lv:=by
 rw[ahu (by rw[nq hl]) hi _ (Nat.le_refl _),if_pos hi,ht,Hf hl (Nat.le_refl _) hi]
 unfold fE;omega
theorem Hg(hl:g.length=s.length):∀i,i≤g.length→oC g (bs lv w g s i).1 lv g.length=(bs lv w g s i).2:=by
 intro i;induction i with
 |zero=>intro _;exact ahi hl _ (Nat.le_refl _)
 |succ i ih =>
  intro hi;have:=Mt hl (ih (by omega)) (by omega) (oD lv w (nth g i) (nth s i) (bs lv w g s i).2)
  simpa only[bs] using this
theorem ahv(hl:g.length=s.length){j:Nat}(hw:w≤(bs lv w g s j).2):∀k,j≤k→k≤g.length→bs lv w g s k=bs lv w g s j:=by
 intro k hjk;induction k with
 |zero=>intro _;obtain rfl:j=0:=by omega
        rfl
 |succ k ih =>
  intro hk;rcases Nat.lt_or_ge k j with h|h
  ·obtain rfl:j=k+1:=by omega
   rfl
  ·have h1:=ih h (by omega)
   have ho:oD lv w (nth g k) (nth s k) (bs lv w g s k).2=(eK (nth g k) (nth s k)).lo:=by
    unfold oD;rw[if_neg (by rw[h1];omega)]
   have h2:bs lv w g s (k+1)=bs lv w g s k:=by
    have e1:(bs lv w g s k).1.set k (eK (nth g k) (nth s k)).lo=(bs lv w g s k).1:=by
     rw[←Hf (lv:=lv) (w:=w) hl (Nat.le_refl k) (by omega)]
     exact V4 (by rw[nq hl];omega)
    simp only[bs,ho,fE,e1];rw[show(bs lv w g s k).2-ig (nth g k) (eK (nth g k) (nth s k)).lo lv+ig (nth g k) (eK (nth g k) (nth s k)).lo lv=(bs lv w g s k).2 by omega]
   rw[h2,h1]
structure Way(lv w:Int)(g:List Gt)(s:List Gs)(i:Nat)(o:Int):Prop where
 lt:i<g.length
 lo:(eK (nth g i) (nth s i)).lo≤o
 hi:o≤(eK (nth g i) (nth s i)).hi
 no:∀p,(eK (nth g i) (nth s i)).lo≤p→p<o→(bs lv w g s i).2-fE lv (nth g i) (nth s i)+ig (nth g i) p lv<w
theorem Way.done{i:Nat}{o:Int}(h:Way lv w g s i o)(hv:Gv (nth g i))(hs:ml (nth g i) (nth s i))(hd:o=(eK (nth g i) (nth s i)).hi∨w≤(bs lv w g s i).2-fE lv (nth g i) (nth s i)+ig (nth g i) o lv) :
  oD lv w (nth g i) (nth s i) (bs lv w g s i).2=o:=by
 have h1:=h.lo;have h2:=h.hi;unfold oD;split
 ·refine Mr h1 (by omega) (fun p a b=>?_) (fun a=>?_)
  ·have:=h.no p a b
   exact decide_eq_false (by omega)
  ·rcases hd with hd|hd
   ·omega
   ·exact decide_eq_true (by omega)
 ·rename_i hn
  by_cases he:(eK (nth g i) (nth s i)).lo=o
  ·exact he
  ·have:=h.no _ (Int.le_refl _) (by omega)
   unfold fE at this;omega
theorem V5(hl:g.length=s.length){i:Nat}(hi:i<g.length)(hv:Gv (nth g i))(hs:ml (nth g i) (nth s i)):Way lv w g s i (eK (nth g i) (nth s i)).lo :=
 ⟨hi,Int.le_refl _,(zE hv hs).2.1,fun p a b=>by omega⟩
theorem V6(hl:g.length=s.length){i:Nat}(hi:i<g.length):(bs lv w g s i).1.set i (eK (nth g i) (nth s i)).lo=(bs lv w g s i).1:=by
 rw[←Hf (lv:=lv) (w:=w) hl (Nat.le_refl i) hi];exact V4 (by rw[nq hl];exact hi)
end
end Go.Proofs.YtmpikpodpgnjhaaGreat
namespace Go.Proofs.YtmpikpodpgnjhaaGreat
set_option linter.all false
open Go.Vm
attribute [local simp] mc me ma mb
theorem V7{l:List Int}{i:Nat}(h:l.length≤i):nth l i=0:=by
 simp only[nth,List.getD,List.getElem?_eq_none h];rfl
theorem ahw(g:List Gt)(s:List Gs)(lv w:Int)(G:List aP):a8 F 61 [jk g,j8 s,i64 lv,i64 w] G=some (.tuple [.slice (some 0) 2 ((np g s lv w).map Gs.row),i64 (mM g s lv w),i64 (j9 g s lv w)],G) :=
 bV rfl rfl (by
  generalize hW:V.tuple [.slice (some 0) 2 ((np g s lv w).map Gs.row),i64 (mM g s lv w),i64 (j9 g s lv w)]=W;by_cases he:aE g s lv=0
  ·obtain⟨h1,h2,h3,h4,h5⟩:=DX he
   by_cases hw:0≤w∧w≤1073741824
   ·have hE:j9 g s lv w=0:=by simp[j9,he,hw]
    simp only[np,mM,hE,if_true]at hW;have qX:(!decide (0≤w) || !decide (w≤1073741824))=false:=by simp;omega
    have uj:(decide (0≤w)&&decide (w≤1073741824))=true:=by simp;omega
    have vi:=ahg h2 h1 h3 h4;by_cases hg:g=[]
    ·subst hg
     have hs0:s=[]:=by simpa using h2.symm
     subst hs0;have hE3:a8 F 124 [.slice none 3 [],.slice none 2 []] []=some (.tuple [.slice (some 0) 1 [],.slice (some 0) 1 []],[]):=vi [];have hT3:a8 F 125 [.slice none 3 [],.slice none 1 [],i64 lv] []=some (i64 0,[]):=D1 (g:=[]) (l:=[]) rfl (by simp) (by simp) lv []
     have e2:iD 20031 0 (.tuple [.slice (some 0) 1 [],.slice (some 0) 1 []])=some (.tuple [.dH 1,.slice none 1 []],none):=rfl;have he0:a8 F 123 [.slice none 3 [],.slice none 2 [],i64 lv] []=some (i64 0,[]):=by
      have:=Hb [] [] lv [];rw[he]at this;exact this
     simp (disch:=omega) [-getElem?_pos,wrap64,Df,he0,cN,qX,uj,hE3,e2,RS,Gg,RT,Gi,y6,hT3];simpa [lP,bs,kH] using hW
    ·have ch:kI Bd.lo g s≠[]:=fun e=>hg (by have:=xT (f:=Bd.lo) h2;rw[e]at this;exact List.length_eq_zero_iff.1 this.symm)
     have e2:=abB (id:=20031) (t:=0) (u:=0) (m:=kI Bd.hi g s) ch;have jV:=xT (f:=Bd.lo) h2;simp (disch:=omega) [-getElem?_pos,wrap64,Df,Hb,he,cN,qX,uj,vi,e2,jV];have gG:0<g.length:=List.length_pos_iff.2 hg;refine go_loop (fun x:Nat×List Int=>acU (jk g) (j8 s) lv w g.length (ints (kI Bd.hi g s)) x.1 (dv x.2) G)
      (fun x=>(∃o,Way lv w g s x.1 o∧x.2=(bs lv w g s x.1).1.set x.1 o)∨(x.1=g.length∧x.2=(bs lv w g s g.length).1)) (fun x=>(g.length-x.1)*2000+(nth (kI Bd.hi g s) x.1-nth x.2 x.1).toNat) (0,kI Bd.lo g s) rfl (by simp) (.inl ⟨_,V5 h2 gG (h4 0 gG) (h3 0 gG),by rw[V6 h2 gG];rfl⟩) ?_
     rintro⟨i,l⟩ hinv;simp only at hinv;have hlen:l.length=g.length:=by
      rcases hinv with⟨o,_,rfl⟩ | ⟨_,rfl⟩
      ·rw[List.length_set,nq h2]
      ·rw[nq h2]
     have hT:=D1 hlen.symm h1 h4 lv;rcases hinv with⟨o,hway,hl⟩ | ⟨rfl,rfl⟩
     ·have hi:=hway.lt
      have V8:oC g l lv g.length=(bs lv w g s i).2-fE lv (nth g i) (nth s i)+ig (nth g i) o lv:=by
       rw[hl];exact Mt h2 (Hg h2 i (by omega)) hi o
      rw[V8]at hT;generalize V9:(bs lv w g s i).2-fE lv (nth g i) (nth s i)+ig (nth g i) o lv=T at *;have br:i<l.length:=by omega
      simp (disch:=omega) [-getElem?_pos,wrap64,Gg,hi,hT,hlen];have Hh:i<(kI Bd.hi g s).length:=by rw[xT h2];exact hi
      have Hj:nth l i=o:=by rw[hl];exact He (by rw[nq h2];exact hi)
      have Bw:nth (kI Bd.hi g s) i=(eK (nth g i) (nth s i)).hi:=DZ hi (by omega)
      refine bK (fun h6=>?_) (fun h6=>?_)
      ·simp (disch:=omega) [-getElem?_pos,wrap64,jI br,dD Hh,Hj,Bw]
       refine bK (fun h7=>?_) (fun h7=>?_)
       ·have hd:=hway.done (h4 i hi) (h3 i hi) (.inl h7)
        have hn:(bs lv w g s (i+1)).1=l:=by simp only[bs,hd,hl]
        refine bL (i+1,l) (by simp) ?_ ?_
        ·by_cases qA:i+1<g.length
         ·refine .inl ⟨_,V5 h2 qA (h4 _ qA) (h3 _ qA),?_⟩
          simp only;rw[V6 h2 qA,hn]
         ·exact .inr ⟨by simp only;omega,by simp only;rw[←hn,show g.length=i+1 by omega]⟩
        ·have oa:nth (kI Bd.hi g s) (i+1)-nth l (i+1)≤1000:=by
          by_cases qA:i+1<g.length
          ·rw[DZ qA (by omega),← hn,Hf h2 (Nat.le_refl _) qA]
           have:=zE (h4 _ qA) (h3 _ qA);have:=(h4 _ qA).c5;omega
          ·have e1:nth (kI Bd.hi g s) (i+1)=0:=V7 (by rw[xT h2];omega)
           have e2:nth l (i+1)=0:=V7 (by omega)
           omega
         simp only;omega
       ·have mY:=hway.lo
        have uR:=hway.hi;have hro:=zE (h4 i hi) (h3 i hi);have hmo:=(h4 i hi).c5;refine go_loop (fun l:List Int=>acT (jk g) (j8 s) lv w g.length (ints (kI Bd.hi g s)) i (dv l) G)
         (fun m=>∃o',Way lv w g s i o'∧o≤o'∧m=(bs lv w g s i).1.set i o') (fun m=>(nth (kI Bd.hi g s) i-nth m i).toNat) l rfl (by simp[hlen]) ⟨o,hway,Int.le_refl _,hl⟩ ?_
        rintro m ⟨o',hway',xk,rfl⟩;have aoZ:=hway'.lo;have ao0:=hway'.hi;have D2:((bs lv w g s i).1.set i o').length=g.length:=by rw[List.length_set,nq h2]
        have uf:i<((bs lv w g s i).1.set i o').length:=by omega
        have Bx:nth ((bs lv w g s i).1.set i o') i=o':=He (by rw[nq h2];exact hi)
        have D3:=D1 D2.symm h1 h4 lv;rw[Mt h2 (Hg h2 i (by omega)) hi o']at D3
        have EM:∀z,((bs lv w g s i).1.set i o').set i z=(bs lv w g s i).1.set i z:=fun z=>by simp
        generalize hm:(bs lv w g s i).1.set i o'=m at D2 uf Bx D3 EM ⊢;by_cases h8:o'<(eK (nth g i) (nth s i)).hi
        ·by_cases h9:(bs lv w g s i).2-fE lv (nth g i) (nth s i)+ig (nth g i) o' lv<w
         ·simp (disch:=omega) [-getElem?_pos,wrap64,Gf,jI uf,dD Hh,Bx,Bw,h8,D3,D2,h9]
          refine bL (m.set i (o'+1)) (by simp) ⟨o'+1,⟨hi,by omega,by omega,fun p a b=>?_⟩,by omega,EM _⟩ ?_
          ·by_cases hp:p=o'
           ·rw[hp];exact h9
           ·exact hway'.no p a (by omega)
          ·rw[He uf];omega
         ·simp (disch:=omega) [-getElem?_pos,wrap64,Gf,jI uf,dD Hh,Bx,Bw,h8,D3,D2,h9]
          refine bL (i,m) (by simp) (.inl ⟨o',hway',hm.symm⟩) ?_
          have:o≠o':=fun e=>by rw[←e,V9]at h9;exact h9 h6
          simp only[Bx,Hj,Bw];omega
        ·simp (disch:=omega) [-getElem?_pos,wrap64,Gf,jI uf,dD Hh,Bx,Bw,h8,D3,D2]
         refine bL (i,m) (by simp) (.inl ⟨o',hway',hm.symm⟩) ?_
         simp only[Bx,Hj,Bw];omega
      ·have hd:=hway.done (h4 i hi) (h3 i hi) (.inr (by omega))
       have hs2:(bs lv w g s (i+1)).2=T:=by rw[←V9];simp only[bs,hd]
       have hn:l=(bs lv w g s g.length).1:=by
        rw[ahv h2 (j:=i+1) (by omega) g.length (by omega) (Nat.le_refl _),hl]
        simp only[bs,hd]
       clear hT V8 br Hj
       subst hn;refine go_loop (fun k:Nat=>RU (jk g) lv g.length (.slice (some 1096) 2 ((lP ((bs lv w g s g.length).1.take k) (s.take k)).map Gs.row)) (j8 s) s.length k (dv (bs lv w g s g.length).1) k G) (fun k=>k≤s.length) (fun k=>s.length-k) 0 rfl (by simp[lP]) (by omega) ?_
       rintro k hk;have bg:(lP ((bs lv w g s g.length).1.take k) (s.take k)).length=k:=by
        have:=nq (lv:=lv) (w:=w) h2 g.length;simp[lP];omega
       have uk:=nq (lv:=lv) (w:=w) h2 g.length;have D4:=D1 uk.symm h1 h4 lv;rw[Hg h2 g.length (Nat.le_refl _)]at D4;simp (disch:=omega) [-getElem?_pos,wrap64,Gi,bg];refine bK (fun h6=>?_) (fun h6=>?_)
       ·have h6:k<s.length:=by omega
        have h7:k<(bs lv w g s g.length).1.length:=by omega
        simp (disch:=omega) [-getElem?_pos,wrap64,bb (l:=s),jI h7,bg];refine bL (k+1) ?_ (by omega) (by omega)
        unfold lP;rw[wz h7 h6];simp[Bu]
       ·obtain rfl:k=s.length:=by omega
        have t1:(bs lv w g s g.length).1.take s.length=(bs lv w g s g.length).1:=List.take_of_length_le (by omega)
        rw[t1,List.take_length]at bg ⊢;simp (disch:=omega) [-getElem?_pos,wrap64,bg,uk,D4];exact hW
     ·have hi:¬ g.length<g.length:=Nat.lt_irrefl _
      simp (disch:=omega) [-getElem?_pos,wrap64,Gg,hlen];refine go_loop (fun k:Nat=>RU (jk g) lv g.length (.slice (some 1096) 2 ((lP ((bs lv w g s g.length).1.take k) (s.take k)).map Gs.row)) (j8 s) s.length k (dv (bs lv w g s g.length).1) k G) (fun k=>k≤s.length) (fun k=>s.length-k) 0 rfl (by simp[lP]) (by omega) ?_
      rintro k hk;have bg:(lP ((bs lv w g s g.length).1.take k) (s.take k)).length=k:=by
       have:=nq (lv:=lv) (w:=w) h2 g.length;simp[lP];omega
      have uk:=nq (lv:=lv) (w:=w) h2 g.length;have D4:=D1 uk.symm h1 h4 lv;rw[Hg h2 g.length (Nat.le_refl _)]at D4;simp (disch:=omega) [-getElem?_pos,wrap64,Gi,bg];refine bK (fun h6=>?_) (fun h6=>?_)
      ·have h6:k<s.length:=by omega
       have h7:k<(bs lv w g s g.length).1.length:=by omega
       simp (disch:=omega) [-getElem?_pos,wrap64,bb (l:=s),jI h7,bg];refine bL (k+1) ?_ (by omega) (by omega)
       unfold lP;rw[wz h7 h6];simp[Bu]
      ·obtain rfl:k=s.length:=by omega
       have t1:(bs lv w g s g.length).1.take s.length=(bs lv w g s g.length).1:=List.take_of_length_le (by omega)
       rw[t1,List.take_length]at bg ⊢;simp (disch:=omega) [-getElem?_pos,wrap64,bg,uk,D4];exact hW
   ·have uj:(decide (0≤w)&&decide (w≤1073741824))=false:=by simp;omega
    have hE:j9 g s lv w=1:=by simp[j9,he];omega
    have vi:¬ j9 g s lv w=0:=by rw[hE];omega
    simp only[np,mM,if_neg vi]at hW;rw[hE]at hW;have qX:(!decide (0≤w) || !decide (w≤1073741824))=true:=by simp;omega
    simp (disch:=omega) [-getElem?_pos,wrap64,Df,Hb,he,cN,qX,uj];exact hW
  ·have hE:j9 g s lv w=aE g s lv:=by simp[j9,he]
   have vi:¬ j9 g s lv w=0:=by rw[hE];exact he
   simp only[np,mM,if_neg vi]at hW;rw[hE]at hW;simp (disch:=omega) [-getElem?_pos,wrap64,Df,Hb,he];exact hW)
structure Dm where
 r:Rs
 u:List Un
 g:List Gt
 gr:Int
abbrev Dm.row(d:Dm):List V:=[gQ d.r.c,i64 d.r.d,i64 d.r.l,i64 d.r.f,i64 d.r.s,i64 d.r.t,jy d.u,jk d.g,i64 d.gr]
abbrev dm(d:Dm):V:=.agg d.row
structure Ds where
 v:Int
 rel:Int
 u:List Us
 g:List Gs
 deriving Inhabited
abbrev Ds.row(s:Ds):List V:=[i64 s.v,i64 s.rel,jg s.u,j8 s.g]
abbrev dst(s:Ds):V:=.agg s.row
def uE(u:List Un):Int:=dK (fun i=>gp (nth u i)) u.length 0
def gE(g:List Gt):Int:=dK (fun i=>jz (nth g i)) g.length 0
def eZ(d:Dm):Int :=
 if gL d.r≠0 then gL d.r else if 6<d.u.length∨8<d.g.length then 10 else if uE d.u≠0 then uE d.u else if gE d.g≠0 then gE d.g
 else if d.gr<1∨1073741824<d.gr then 1 else 0
theorem zF(d:Dm)(G:List aP):a8 F 68 [dm d] G=some (i64 (eZ d),G) :=
 bV rfl rfl (by
  obtain⟨r,u,g,gr⟩:=d;generalize hW:eZ ⟨r,u,g,gr⟩=W;unfold eZ at hW;simp only at hW;have hS:=fun G=>UQ r G;have wE:=fun G=>xF r G;by_cases h1:gL r=0
  ·rw[if_neg (by omega)]at hW
   by_cases h2:6<u.length
   ·rw[if_pos (.inl h2)]at hW
    have lq:(6:Int)<u.length:=by omega
    simp (disch:=omega) [-getElem?_pos,wrap64,Dj,hS,wE,h1,lq];exact hW
   by_cases h3:8<g.length
   ·rw[if_pos (.inr h3)]at hW
    have lq:¬ (6:Int)<u.length:=by omega
    have iZ:(8:Int)<g.length:=by omega
    simp (disch:=omega) [-getElem?_pos,wrap64,Dj,hS,wE,h1,lq,iZ];exact hW
   rw[if_neg (by omega)]at hW
   have lq:¬ (6:Int)<u.length:=by omega
   have iZ:¬ (8:Int)<g.length:=by omega
   simp (disch:=omega) [-getElem?_pos,wrap64,Dj,hS,wE,h1,lq,iZ];refine go_loop (fun i:Nat=>ac4 (jy u) u.length i (Dm.row ⟨r,u,g,gr⟩) G) (fun i=>i≤u.length∧dK (fun i=>gp (nth u i)) (u.length-i) i=uE u) (fun i=>u.length-i) 0 rfl (by simp) ⟨by omega,rfl⟩ ?_
   rintro i ⟨hi,hq⟩;simp (disch:=omega) [-getElem?_pos,wrap64,R1];refine bK (fun h4=>?_) (fun h4=>?_)
   ·have h4:i<u.length:=by omega
    rw[ld h4]at hq;by_cases h5:gp (nth u i)=0
    ·rw[if_pos h5]at hq
     simp (disch:=omega) [-getElem?_pos,wrap64,bb (l:=u),qx,mg,h5];exact bL (i+1) (by simp) ⟨by omega,hq⟩ (by omega)
    ·rw[if_neg h5]at hq
     rw[←hq,if_pos h5]at hW;simp (disch:=omega) [-getElem?_pos,wrap64,bb (l:=u),qx,mg,h5];exact hW
   ·obtain rfl:i=u.length:=by omega
    rw[mI]at hq;rw[←hq,if_neg (by omega)]at hW
    refine go_loop (fun i:Nat=>ac6 (jk g) g.length i (Dm.row ⟨r,u,g,gr⟩) G) (fun i=>i≤g.length∧dK (fun i=>jz (nth g i)) (g.length-i) i=gE g) (fun i=>g.length-i) 0 rfl (by simp) ⟨by omega,rfl⟩ ?_
    rintro i ⟨hi,hq⟩;simp (disch:=omega) [-getElem?_pos,wrap64,R2];refine bK (fun h4=>?_) (fun h4=>?_)
    ·have h4:i<g.length:=by omega
     rw[ld h4]at hq;by_cases h5:jz (nth g i)=0
     ·rw[if_pos h5]at hq
      simp (disch:=omega) [-getElem?_pos,wrap64,bb (l:=g),xL,xM,h5];exact bL (i+1) (by simp) ⟨by omega,hq⟩ (by omega)
     ·rw[if_neg h5]at hq
      rw[←hq,if_pos h5]at hW;simp (disch:=omega) [-getElem?_pos,wrap64,bb (l:=g),xL,xM,h5];exact hW
    ·obtain rfl:i=g.length:=by omega
     rw[mI]at hq;rw[←hq,if_neg (by omega)]at hW
     by_cases h6:gr<1
     ·rw[if_pos (.inl h6)]at hW
      simp (disch:=omega) [-getElem?_pos,wrap64,h6];exact hW
     ·by_cases h7:1073741824<gr
      ·rw[if_pos (.inr h7)]at hW
       simp (disch:=omega) [-getElem?_pos,wrap64,h6,h7];exact hW
      ·rw[if_neg (by omega)]at hW
       simp (disch:=omega) [-getElem?_pos,wrap64,h6,h7];exact hW
  ·rw[if_pos h1]at hW
   simp (disch:=omega) [-getElem?_pos,wrap64,Dj,hS,wE,h1];exact hW)
theorem zG(d:Dm)(G:List aP):a8 F 69 [dm d] G=some (i64 (eZ d),G) :=
 bV rfl rfl (by
  obtain⟨r,u,g,gr⟩:=d;generalize hW:eZ ⟨r,u,g,gr⟩=W;unfold eZ at hW;simp only at hW;have hS:=fun G=>UQ r G;have wE:=fun G=>xF r G;by_cases h1:gL r=0
  ·rw[if_neg (by omega)]at hW
   by_cases h2:6<u.length
   ·rw[if_pos (.inl h2)]at hW
    have lq:(6:Int)<u.length:=by omega
    simp (disch:=omega) [-getElem?_pos,wrap64,Dk,hS,wE,h1,lq];exact hW
   by_cases h3:8<g.length
   ·rw[if_pos (.inr h3)]at hW
    have lq:¬ (6:Int)<u.length:=by omega
    have iZ:(8:Int)<g.length:=by omega
    simp (disch:=omega) [-getElem?_pos,wrap64,Dk,hS,wE,h1,lq,iZ];exact hW
   rw[if_neg (by omega)]at hW
   have lq:¬ (6:Int)<u.length:=by omega
   have iZ:¬ (8:Int)<g.length:=by omega
   simp (disch:=omega) [-getElem?_pos,wrap64,Dk,hS,wE,h1,lq,iZ];refine go_loop (fun i:Nat=>ac8 (jy u) u.length i (Dm.row ⟨r,u,g,gr⟩) G) (fun i=>i≤u.length∧dK (fun i=>gp (nth u i)) (u.length-i) i=uE u) (fun i=>u.length-i) 0 rfl (by simp) ⟨by omega,rfl⟩ ?_
   rintro i ⟨hi,hq⟩;simp (disch:=omega) [-getElem?_pos,wrap64,R3];refine bK (fun h4=>?_) (fun h4=>?_)
   ·have h4:i<u.length:=by omega
    rw[ld h4]at hq;by_cases h5:gp (nth u i)=0
    ·rw[if_pos h5]at hq
     simp (disch:=omega) [-getElem?_pos,wrap64,bb (l:=u),qx,mg,h5];exact bL (i+1) (by simp) ⟨by omega,hq⟩ (by omega)
    ·rw[if_neg h5]at hq
     rw[←hq,if_pos h5]at hW;simp (disch:=omega) [-getElem?_pos,wrap64,bb (l:=u),qx,mg,h5];exact hW
   ·obtain rfl:i=u.length:=by omega
    rw[mI]at hq;rw[←hq,if_neg (by omega)]at hW
    refine go_loop (fun i:Nat=>ada (jk g) g.length i (Dm.row ⟨r,u,g,gr⟩) G) (fun i=>i≤g.length∧dK (fun i=>jz (nth g i)) (g.length-i) i=gE g) (fun i=>g.length-i) 0 rfl (by simp) ⟨by omega,rfl⟩ ?_
    rintro i ⟨hi,hq⟩;simp (disch:=omega) [-getElem?_pos,wrap64,R4];refine bK (fun h4=>?_) (fun h4=>?_)
    ·have h4:i<g.length:=by omega
     rw[ld h4]at hq;by_cases h5:jz (nth g i)=0
     ·rw[if_pos h5]at hq
      simp (disch:=omega) [-getElem?_pos,wrap64,bb (l:=g),xL,xM,h5];exact bL (i+1) (by simp) ⟨by omega,hq⟩ (by omega)
     ·rw[if_neg h5]at hq
      rw[←hq,if_pos h5]at hW;simp (disch:=omega) [-getElem?_pos,wrap64,bb (l:=g),xL,xM,h5];exact hW
    ·obtain rfl:i=g.length:=by omega
     rw[mI]at hq;rw[←hq,if_neg (by omega)]at hW
     by_cases h6:gr<1
     ·rw[if_pos (.inl h6)]at hW
      simp (disch:=omega) [-getElem?_pos,wrap64,h6];exact hW
     ·by_cases h7:1073741824<gr
      ·rw[if_pos (.inr h7)]at hW
       simp (disch:=omega) [-getElem?_pos,wrap64,h6,h7];exact hW
      ·rw[if_neg (by omega)]at hW
       simp (disch:=omega) [-getElem?_pos,wrap64,h6,h7];exact hW
  ·rw[if_pos h1]at hW
   simp (disch:=omega) [-getElem?_pos,wrap64,Dk,hS,wE,h1];exact hW)
end Go.Proofs.YtmpikpodpgnjhaaGreat
