/- - -/
import Derived.Test.YtabckmbjnjnegaaGreatDoorDi
import Derived.Test.YtabckmbjnjnegaaGreatDoorDh
import Derived.Test.YtabckmbjnjnegaaGreatDoorDg
import Derived.Test.YtabckmbjnjnegaaGreatDoorDf
attribute [local simp] Go.Vm.wrap64
namespace Go.Proofs.YtabckmbjnjnegaaGreatDoor
set_option linter.all false
set_option maxRecDepth 100000
set_option maxHeartbeats 400000
section
open Go.Vm
attribute [local simp] mX mY lX mW
def A3(n m:Int)(G:List aM):aX F 93 [i64 n,i64 m] G=some (.bool (fP n m),G):=dj n m G
def Rk(d:Int)(G:List aM):aX F 137 [i64 d] G=some (.bool (fP d 364),G) :=
 bD rfl rfl (by simp[afr,A3])
def alr(f t:Int)(G:List aM):aX F 173 [.agg [i64 f,i64 t]] G=some (.bool (fP f 364&&fP t 364),G) :=
 bD rfl rfl (by
  have h1:=Rk f;have h2:=Rk t;cases e1:fP f 364<;>rw[e1]at h1
  .simp[V7,h1]
  .simp[V7,h1,h2])
def aB7(f t d:Int)(G:List aM):aX F 182 [.agg [i64 f,i64 t],i64 d] G=some (.bool (Cq f t d),G) :=
 bD rfl rfl (by
  generalize hW:Cq f t d=W;unfold Cq at hW;have h1:=alr f t;have h2:=Rk d;cases e1:(fP f 364&&fP t 364)<;>rw[e1]at h1 hW
  .rw[ax (by simp)]at hW
   simp[Fi,h1];exact hW.symm
  cases e2:fP d 364<;>rw[e2]at h2 hW
  .rw[ax (by simp)]at hW
   simp[Fi,h1,h2];exact hW.symm
  rw[aJ (by simp)]at hW
  by_cases h3:f<=t
  .rw[aJ h3]at hW
   by_cases h4:f<=d
   .simp[Fi,h1,h2,h3,h4]
    simpa [h4] using hW
   .simp[Fi,h1,h2,h3,h4]
    simpa [h4] using hW
  .rw[ax h3]at hW
   by_cases h4:f<=d
   .simp[Fi,h1,h2,h3,h4]
    simpa [h4] using hW
   .simp[Fi,h1,h2,h3,h4]
    simpa [h4] using hW)
def als{t:Int}(ht:0<=t/\t<=16777216)(G:List aM):aX F 56 [i64 t] G=some (.tuple [i64 (px t),i64 0],G) :=
 bD rfl rfl (by
  have h1:∀G,aX F 89 [i64 t] G=some (.tuple [i64 (t.tdiv 35040),i64 (px t),i64 (t.tmod 96),i64 0],G):=λG=>bD rfl rfl (by
   have h2:=A3 t 16777216;rw[wq.2 ht]at h2;have q1:0<=t.tdiv 35040/\t.tdiv 35040<=16777216:=by rw[uh ht.1];omega
   have q2:0<=t.tdiv 96/\t.tdiv 96<=16777216:=by rw[uh ht.1];omega
   have q3:(t.tdiv 96).tdiv 365=t.tdiv 35040:=by
    rw[uh q2.1,uh ht.1,uh ht.1];omega
   simp (disch:=omega) [aeC,h2,px,q3])
  simp (disch:=omega) [ad1,h1])
def YP(c:Cd)(G:List aM):aX F 128 [.agg c.row] G=some (i64 (nQ c),G) :=
 bD rfl rfl (by
  generalize hW:nQ c=W;unfold nQ at hW;by_cases h1:c.rk<1
  .rw[aJ (.inl h1)]at hW
   simp[zE,h1];exact hW
  by_cases h2:9<c.rk
  .rw[aJ (.inr h2)]at hW
   simp[zE,h1,h2];exact hW
  rw[ax']at hW
  by_cases h3:c.kd<1
  .rw[aJ (.inl h3)]at hW
   simp[zE,h1,h2,h3];exact hW
  by_cases h4:4<c.kd
  .rw[aJ (.inr h4)]at hW
   simp[zE,h1,h2,h3,h4];exact hW
  rw[ax']at hW
  have w1:=A3 c.v 1073741824;have w2:=alr c.f c.t;have w3:=A3 c.a 16777216;have w4:=A3 c.b 16777216;cases e1:fP c.v 1073741824<;>rw[e1]at w1 hW
  .rw[ax (by simp)]at hW
   simp[zE,h1,h2,h3,h4,w1];exact hW
  cases e2:(fP c.f 364&&fP c.t 364)<;>rw[e2]at w2 hW
  .rw[ax (by simp)]at hW
   simp[zE,h1,h2,h3,h4,w1,w2];exact hW
  cases e3:fP c.a 16777216<;>rw[e3]at w3 hW
  .rw[ax (by simp)]at hW
   simp[zE,h1,h2,h3,h4,w1,w2,w3];exact hW
  cases e4:fP c.b 16777216<;>rw[e4]at w4 hW
  .rw[ax (by simp)]at hW
   simp[zE,h1,h2,h3,h4,w1,w2,w3,w4];exact hW
  by_cases h5:c.b<c.a
  .rw[ax (by simp;omega)]at hW
   simp[zE,h1,h2,h3,h4,w1,w2,w3,w4,h5];exact hW
  .rw[aJ (by simp;omega)]at hW
   simp[zE,h1,h2,h3,h4,w1,w2,w3,w4,h5];exact hW)
def alu(l:List Cd)(G:List aM):aX F 84 [dB l] G=some (i64 (oP l),G) :=
 bD rfl rfl (by
  generalize hW:oP l=W;unfold oP at hW;by_cases h1:200<l.length
  .rw[aJ h1]at hW
   have fA:(200:Int)<l.length:=by omega
   simp (disch:=omega) [-getElem?_pos,Vw,fA];exact hW
  rw[ax h1]at hW;have fA:¬ (200:Int)<l.length:=by omega
  simp (disch:=omega) [-getElem?_pos,Vw,fA];refine go_loop (λi:Nat=>asL (dB l) l.length i G) (λi=>i<=l.length/\dH (λi=>nQ (nth l i)) (l.length-i) i=W) (λi=>l.length-i) 0 rfl (by simp) ⟨by omega,hW⟩ ?_
  rintro i ⟨hi,hq⟩;simp (disch:=omega) [-getElem?_pos,aev];refine bO (λh3=>?_) (λh3=>?_)
  .have h3:i<l.length:=by omega
   rw[kl h3]at hq;have h4:=YP (nth l i);by_cases h5:nQ (nth l i)=0
   .rw[aJ h5]at hq
    simp (disch:=omega) [-getElem?_pos,bc (l:=l),h4,h5];exact bB' (i+1) ⟨by omega,hq⟩
   .rw[ax h5]at hq
    simp (disch:=omega) [-getElem?_pos,bc (l:=l),h4,h5];exact hq
  .obtain rfl:i=l.length:=by omega
   rw[l7]at hq;exact hq)
def aB8(c:Cd)(day level:Int)(G:List aM):aX F 139 [.agg c.row,i64 day,i64 level] G=some (.bool (D5 c day level),G) :=
 bD rfl rfl (by
  generalize hW:D5 c day level=W;unfold D5 at hW;have w1:=YP c;have w2:=aB7 c.f c.t day;by_cases h1:nQ c=0
  case neg =>
   simp[Ll,w1,h1];simpa [h1] using hW
  cases e2:Cq c.f c.t day<;>rw[e2]at w2 hW
  .simp[Ll,w1,h1,w2]
   simpa [h1] using hW
  by_cases h3:c.a<=level
  .simp[Ll,w1,h1,w2,h3]
   simpa [h1,h3] using hW
  .simp[Ll,w1,h1,w2,h3]
   simpa [h1,h3] using hW)
variable{before:Int}
def alv{c:Cd}(hc:nQ c=0)(hb:0<=before/\before<=1073741824)(G:List aM) :
  aX F 130 [.agg c.row,i64 before] G=some (.tuple [.agg [i64 (mg c before).1,i64 (mg c before).2],.bool true],G) :=
 bD rfl rfl (by
  have w1:∀G,aX F 93 [i64 before,i64 1073741824] G=some (.bool true,G):=λG=>(show fP before 1073741824=true from wq.2 hb) ▸ A3 before 1073741824 G;obtain⟨_,hk,hv⟩:=I4 hc;obtain⟨rk,kd,v,f,t,a,b⟩:=c;simp only at hk hv;have w0:=λG=>hc ▸ YP ⟨rk,kd,v,f,t,a,b⟩ G;rcases (by omega:kd=1\/kd=2\/kd=3\/kd=4) with rfl|rfl|rfl|rfl
  .simp (disch:=omega) [Lj,w0,w1,mg]
  .simp (disch:=omega) [Lj,w0,w1,mg]
  .have e:min 1073741824 (before+v)=min (before+v) 1073741824:=by omega
   simp (disch:=omega) [Lj,w0,w1,mg,e]
  .have e:max 0 (before-v)=max (before-v) 0:=by omega
   simp (disch:=omega) [Lj,w0,w1,mg,e])
def aB9{c:Cd}(hc:nQ c=0){r:Int}(hb:0<=before/\before<=1073741824)(G:List aM) :
  aX F 94 [.agg c.row,i64 before,i64 r] G=some (.bool (decide ((mg c before).1<=r)&&decide (r<=(mg c before).2)),G) :=
 bD rfl rfl (by
  have w2:=alv hc hb;obtain⟨b1,b2,Ea⟩:∃b1 b2,mg c before=(b1,b2):=⟨_,_,rfl⟩;rw[Ea]at w2 ⊢;by_cases h1:b1<=r
  .simp[Vz,w2,h1]
  .simp[Vz,w2,h1])
def YQ(a b:List Int)(ha:a.length<=17592186044416)(G:List aM):aX F 19 [ints a,ints b] G=some (.bool (decide (a=b)),G) :=
 bD rfl rfl (by
  generalize hW:decide (a=b)=W;by_cases h1:a.length=b.length
  case neg =>
   have fA:¬ (a.length:Int)=b.length:=by omega
   simp +contextual (disch:=omega) [-getElem?_pos,-List.length_eq_zero_iff,-Int.natCast_eq_zero,UY,fA];rw[<-hW,decide_eq_false λh=>h1 (by rw[h])]
  have fA:(a.length:Int)=b.length:=by omega
  simp +contextual (disch:=omega) [-getElem?_pos,-List.length_eq_zero_iff,-Int.natCast_eq_zero,UY,fA];refine go_loop (λi:Nat=>aqK (ints a) (ints b) b.length i G) (λi=>i<=a.length/\∀j,j<i->nth a j=nth b j) (λi=>a.length-i) 0 rfl (by simp) (by simp) ?_
  rintro i ⟨hi,hj⟩;simp +contextual (disch:=omega) [-getElem?_pos,-List.length_eq_zero_iff,-Int.natCast_eq_zero,adb];refine bO (λh5=>?_) (λh5=>?_)
  .have h5:i<b.length:=by omega
   by_cases h7:nth a i=nth b i
   .simp +contextual (disch:=omega) [-getElem?_pos,-List.length_eq_zero_iff,-Int.natCast_eq_zero,dQ (l:=a),dQ (l:=b),h7]
    exact bB' (i+1) ⟨by omega,λj nz=>by
     by_cases g:j=i
     .subst g;exact h7
     .exact hj j (by omega)⟩
   .simp +contextual (disch:=omega) [-getElem?_pos,-List.length_eq_zero_iff,-Int.natCast_eq_zero,dQ (l:=a),dQ (l:=b),h7]
    rw[<-hW,decide_eq_false λh=>h7 (by rw[h])]
  .obtain rfl:i=a.length:=by omega
   rw[<-hW,fJ (FT h1 hj)])
def Rl(a b:Pn)(ha:a.l.length<=17592186044416)(h:∀i,i<a.l.length->(nth a.l i).length<=17592186044416)(G:List aM):aX F 16 [pn a,pn b] G=some (.bool (decide (a=b)),G) :=
 bD rfl rfl (by
  obtain⟨f,l⟩:=a;obtain⟨g,m⟩:=b;simp only at ha h;by_cases h1:f=g
  case neg =>
   rw[show decide ((⟨f,l⟩:Pn)=⟨g,m⟩)=false by simp[h1]]
   simp +contextual (disch:=omega) [-getElem?_pos,-List.length_eq_zero_iff,-Int.natCast_eq_zero,OV,h1]
  subst h1;rw[show decide ((⟨f,l⟩:Pn)=⟨f,m⟩)=decide (l=m) by simp]
  generalize hW:decide (l=m)=W;by_cases h2:l.length=m.length
  case neg =>
   have mC:¬ (l.length:Int)=m.length:=by omega
   simp +contextual (disch:=omega) [-getElem?_pos,-List.length_eq_zero_iff,-Int.natCast_eq_zero,OV,mC];rw[<-hW,decide_eq_false λh=>h2 (by rw[h])]
  have mC:(l.length:Int)=m.length:=by omega
  simp +contextual (disch:=omega) [-getElem?_pos,-List.length_eq_zero_iff,-Int.natCast_eq_zero,OV,mC];refine go_loop (λi:Nat=>aqI m.length i [i64 f,og l] [i64 f,og m] G) (λi=>i<=l.length/\∀j,j<i->nth l j=nth m j) (λi=>l.length-i) 0 rfl (by simp) (by simp) ?_
  rintro i ⟨hi,hj⟩;simp +contextual (disch:=omega) [-getElem?_pos,-List.length_eq_zero_iff,-Int.natCast_eq_zero,ada];refine bO (λh5=>?_) (λh5=>?_)
  .have h5:i<m.length:=by omega
   have he:=YQ (nth l i) (nth m i) (h i (by omega))
   by_cases h7:nth l i=nth m i
   .rw[fJ h7]at he
    simp +contextual (disch:=omega) [-getElem?_pos,-List.length_eq_zero_iff,-Int.natCast_eq_zero,bc (l:=l),bc (l:=m),he];exact bB' (i+1) ⟨by omega,λj nz=>by
     by_cases g:j=i
     .subst g;exact h7
     .exact hj j (by omega)⟩
   .rw[decide_eq_false h7]at he
    simp +contextual (disch:=omega) [-getElem?_pos,-List.length_eq_zero_iff,-Int.natCast_eq_zero,bc (l:=l),bc (l:=m),he];rw[<-hW,decide_eq_false λh=>h7 (by rw[h])]
  .obtain rfl:i=l.length:=by omega
   rw[<-hW,fJ (FT h2 hj)])
def oT(p:Pn)(t:Int):Bool:=!decide (t<p.f)&&(!decide (IntKind.i64.wrap (t-p.f)<0) && !decide ((p.l.length:Int)<=IntKind.i64.wrap (t-p.f)))
def mj(p:Pn)(t:Int):List Int:=if oT p t then nth p.l (IntKind.i64.wrap (t-p.f)).toNat else []
def alw(p:Pn)(t:Int)(h:∀i,i<p.l.length->(nth p.l i).length<=17592186044416)(G:List aM):aX F 18 [pn p,i64 t] G=some (.tuple [.slice (some 0) 1 ((mj p t).map λn=>[i64 n]),.bool (oT p t)],G):=by
 obtain⟨f,l⟩:=p;simp only at h;obtain⟨w,hw⟩:∃w,w=IntKind.i64.wrap (t-f):=⟨_,rfl⟩;by_cases h1:t<f
 .have e:oT ⟨f,l⟩ t=false:=by simp[oT,h1]
  rw[show mj ⟨f,l⟩ t=[] by simp[mj,e],e]
  exact bD rfl rfl (by simp +contextual (disch:=omega) [-getElem?_pos,-List.length_eq_zero_iff,-Int.natCast_eq_zero,KO,h1])
 by_cases h2:w<0
 .have e:oT ⟨f,l⟩ t=false:=by simp[oT,h1,<- hw,h2]
  rw[show mj ⟨f,l⟩ t=[] by simp[mj,e],e]
  exact bD rfl rfl (by simp +contextual (disch:=omega) [-getElem?_pos,-List.length_eq_zero_iff,-Int.natCast_eq_zero,KO,h1,<- hw,h2])
 by_cases h3:(l.length:Int)<=w
 .have e:oT ⟨f,l⟩ t=false:=by simp[oT,h1,<- hw,h3]
  rw[show mj ⟨f,l⟩ t=[] by simp[mj,e],e]
  exact bD rfl rfl (by simp +contextual (disch:=omega) [-getElem?_pos,-List.length_eq_zero_iff,-Int.natCast_eq_zero,KO,h1,<- hw,h2,h3])
 have e:oT ⟨f,l⟩ t=true:=by simp[oT,h1,<- hw];omega
 obtain⟨k,rfl⟩:∃k:Nat,w=k:=⟨w.toNat,by omega⟩
 have hk:k<l.length:=by omega
 have ev:mj ⟨f,l⟩ t=nth l k:=by simp[mj,e,<- hw]
 rw[ev,e];have hm:=h k hk;have qu:(nth l k).length<=17592186044416:=by omega
 exact bD rfl rfl (by simp +contextual (disch:=omega) [-getElem?_pos,-List.length_eq_zero_iff,-Int.natCast_eq_zero,KO,h1,<- hw,h2,h3,bc (l:=l),qu])
def alx(p:Pn)(t:Int)(h:∀i,i<p.l.length->(nth p.l i).length<=17592186044416)  :∃k,∀G,aX F 17 [pn p,i64 t] G=some (.tuple [.slice k 1 ((mj p t).map λn=>[i64 n]),.bool (oT p t)],G):=by
 obtain⟨f,l⟩:=p;simp only at h;obtain⟨w,hw⟩:∃w,w=IntKind.i64.wrap (t-f):=⟨_,rfl⟩;by_cases h1:t<f
 .have e:oT ⟨f,l⟩ t=false:=by simp[oT,h1]
  rw[show mj ⟨f,l⟩ t=[] by simp[mj,e],e]
  exact⟨some 0,λG=>bD rfl rfl (by simp +contextual (disch:=omega) [-getElem?_pos,-List.length_eq_zero_iff,-Int.natCast_eq_zero,HP,h1])⟩
 by_cases h2:w<0
 .have e:oT ⟨f,l⟩ t=false:=by simp[oT,h1,<- hw,h2]
  rw[show mj ⟨f,l⟩ t=[] by simp[mj,e],e]
  exact⟨some 0,λG=>bD rfl rfl (by simp +contextual (disch:=omega) [-getElem?_pos,-List.length_eq_zero_iff,-Int.natCast_eq_zero,HP,h1,<- hw,h2])⟩
 by_cases h3:(l.length:Int)<=w
 .have e:oT ⟨f,l⟩ t=false:=by simp[oT,h1,<- hw,h3]
  rw[show mj ⟨f,l⟩ t=[] by simp[mj,e],e]
  exact⟨some 0,λG=>bD rfl rfl (by simp +contextual (disch:=omega) [-getElem?_pos,-List.length_eq_zero_iff,-Int.natCast_eq_zero,HP,h1,<- hw,h2,h3])⟩
 have e:oT ⟨f,l⟩ t=true:=by simp[oT,h1,<- hw];omega
 obtain⟨k,rfl⟩:∃k:Nat,w=k:=⟨w.toNat,by omega⟩
 have hk:k<l.length:=by omega
 have ev:mj ⟨f,l⟩ t=nth l k:=by simp[mj,e,<- hw]
 rw[ev,e];have hm:=h k hk;have qu:(nth l k).length<=17592186044416:=by omega
 exact⟨none,λG=>bD rfl rfl (by simp +contextual (disch:=omega) [-getElem?_pos,-List.length_eq_zero_iff,-Int.natCast_eq_zero,HP,h1,<- hw,h2,h3,bc (l:=l),Qz _ qu])⟩
def aly(c:Cs)(L:List (List Cd))(hl:L.length<=1000)(G:List aM):aX F 52 [cs c,gf L] G=some (i64 (kC c L),G) :=
 bD rfl rfl (by
  generalize hW:kC c L=W;unfold kC at hW;by_cases h1:L.length=c.s.length
  case neg =>
   rw[ax h1]at hW;have fA:¬ (L.length:Int)=c.s.length:=by omega
   simp +contextual (disch:=omega) [-getElem?_pos,-List.length_eq_zero_iff,-Int.natCast_eq_zero,Vh,fA];exact hW
  rw[aJ h1]at hW;simp +contextual (disch:=omega) [-getElem?_pos,-List.length_eq_zero_iff,-Int.natCast_eq_zero,Vh,h1];refine go_loop (λi:Nat=>arY (gf L) L.length i G) (λi=>i<=L.length/\dH (λi=>oP (nth L i)) (L.length-i) i=W) (λi=>L.length-i) 0 rfl (by simp[h1]) ⟨by omega,hW⟩ ?_
  rintro i ⟨hi,hq⟩;simp +contextual (disch:=omega) [-getElem?_pos,-List.length_eq_zero_iff,-Int.natCast_eq_zero,adV];refine bO (λh3=>?_) (λh3=>?_)
  .have h3:i<L.length:=by omega
   rw[kl h3]at hq;have h4:=alu (nth L i);by_cases h5:oP (nth L i)=0
   .rw[aJ h5]at hq
    have tr:(oP (nth L i) != 0)=false:=by simp[h5]
    simp +contextual (disch:=omega) [-getElem?_pos,-List.length_eq_zero_iff,-Int.natCast_eq_zero,bc (l:=L),h4,tr];exact bB' (i+1) ⟨by omega,hq⟩
   .rw[ax h5]at hq
    have tr:(oP (nth L i) != 0)=true:=by simp[h5]
    simp +contextual (disch:=omega) [-getElem?_pos,-List.length_eq_zero_iff,-Int.natCast_eq_zero,bc (l:=L),h4,tr];exact hq
  .obtain rfl:i=L.length:=by omega
   rw[l7]at hq;exact hq)
end
section
open Go.Vm Go.Chs
def HO(l:List Cd):Prop:=∀G,aX F 138 [dB l] G=some (.slice none 1 (iV (iM (cZ l) (List.range l.length))),G)
variable{l:List Nat}{i:Nat}
def Rn(h:i<l.length):(iV l)[i]?=some [i64 ((nth l i:Nat):Int)]:=by simp[iV,nth,List.getD,h]
variable{level:Int}
def YR{l:List Cd}{day:Int}(h:AY l day level)(hO:HO l)(G:List aM) :
  aX F 92 [dB l,i64 day,i64 level] G=some (.tuple [.slice (some 0) 1 (iV (j8 l day level)),i64 0],G) :=
 bD rfl rfl (by
  have w0:∀G,aX F 84 [dB l] G=some (i64 0,G):=λG=>h.e ▸ alu l G;have w1:∀G,aX F 137 [i64 day] G=some (.bool true,G):=λG=>(wq.2 h.d) ▸ Rk day G;have w2:∀G,aX F 93 [i64 level,i64 16777216] G=some (.bool true,G):=λG=>(wq.2 h.v) ▸ A3 level 16777216 G;have w3:∀G,aX F 138 [dB l] G=some (.slice none 1 (iV (iM (cZ l) (List.range l.length))),G):=hO;have hn:=h.n;have F3:(iM (cZ l) (List.range l.length)).length=l.length:=IY _;have YS:∀x∈iM (cZ l) (List.range l.length),x<l.length:=λx hx=>((FX _).2 x).1 hx;unfold j8 IX;generalize iM (cZ l) (List.range l.length)=O at *
  simp (disch:=omega) [-getElem?_pos,aeE,w0,w1,w2,w3];refine go_loop (λp:Nat×List Nat=>asU (dB l) day level (.slice (some 1042) 1 (iV p.2)) (.slice none 1 (iV O)) O.length p.1 p.2.length G) (λp=>p.1<=O.length/\p.2=(O.take p.1).filter (p7 l day level)) (λp=>O.length-p.1) (0,[]) rfl (by simp[iV]) ⟨by simp,rfl⟩ ?_
  rintro⟨i,K⟩ ⟨hi,hK⟩;simp only at hi hK;simp (disch:=omega) [-getElem?_pos,aeD];refine bO (λg=>?_) (λg=>?_)
  .have g:i<O.length:=by omega
   have c1:=Rn g;have hx:=YS (nth O i) (by simp[nth,List.getD,g])
   have hs:=jV g;generalize nth O i=x at *;have w4:=aB8 (nth l x) day level;have F7:K.length<=17592186044415:=by
    have:K.length<=(O.take i).length:=by rw[hK];exact ui _ _
    simp at this;omega
   change ∀G,aX F _ _ G=some (.bool (p7 l day level x),G)at w4;cases e:p7 l day level x<;>rw[e]at w4
   .simp (disch:=omega) [-getElem?_pos,g,c1,bc (l:=l),w4]
    exact bB (i+1,K) (by simp) ⟨by simp;omega,by simp[hs,e,hK]⟩ (by simp;omega)
   .simp (disch:=omega) [-getElem?_pos,g,c1,bc (l:=l),w4,F7,MH]
    exact bB (i+1,K++[x]) (by simp) ⟨by simp;omega,by simp[hs,e,hK]⟩ (by simp;omega)
  .obtain rfl:i=O.length:=by omega
   rw[mL]at hK;subst hK;simp)
variable{before:Int}
def aCa{l:List Cd}{day r:Int}(h:AY l day level)(hO:HO l)(hb:0<=before/\before<=1073741824)(hw:0<=r/\r<=1073741824)(G:List aM) :
  aX F 58 [dB l,i64 day,i64 level,i64 before,i64 r] G=some (.tuple [.slice (some 0) 1 (iV ((j8 l day level).filter (keeps (mI l before) r))),.slice (some 0) 1 (iV (yx l day level before r)),i64 0],G) :=
 bD rfl rfl (by
  have w0:=YR h hO;have w1:∀G,aX F 93 [i64 before,i64 1073741824] G=some (.bool true,G):=λG=>(wq.2 hb) ▸ A3 before 1073741824 G;have w2:∀G,aX F 93 [i64 r,i64 1073741824] G=some (.bool true,G):=λG=>(wq.2 hw) ▸ A3 r 1073741824 G;obtain⟨zU,F6⟩:=Q8 h.n (day:=day) (level:=level);unfold yx;generalize j8 l day level=A at *;simp (disch:=omega) [-getElem?_pos,ad3,w0,w1,w2]
  refine go_loop (λp:Nat×List Nat×List Nat=>ar5 (dB l) before r (.slice (some 1053) 1 (iV p.2.1)) (.slice (some 1057) 1 (iV p.2.2)) (.slice none 1 (iV A)) A.length p.1 p.2.1.length p.2.2.length G) (λp=>p.1<=A.length/\p.2.1=(A.take p.1).filter (keeps (mI l before) r)/\p.2.2=(A.take p.1).filter (λi => !keeps (mI l before) r i)) (λp=>A.length-p.1) (0,[],[]) rfl (by simp[iV]) ⟨by simp,rfl,rfl⟩ ?_
  rintro⟨i,K,W⟩ ⟨hi,hK,hW⟩;simp only at hi hK hW;simp (disch:=omega) [-getElem?_pos,ad2];refine bO (λg=>?_) (λg=>?_)
  .have g:i<A.length:=by omega
   obtain⟨⟨xi,tN⟩,_⟩:=F6 i g;have c1:=Rn g;have hs:=jV g;have hk9:K.length<=200:=by rw[hK];exact iO (ui _ _) (by simp;omega)
   have MI:W.length<=200:=by rw[hW];exact iO (ui _ _) (by simp;omega)
   have F7:K.length<=17592186044415:=by omega
   have MJ:W.length<=17592186044415:=by omega
   generalize nth A i=x at *;have w3:=aB9 xi (r:=r) hb;change ∀G,aX F _ _ G=some (.bool (keeps (mI l before) r x),G)at w3;cases e:keeps (mI l before) r x<;>rw[e]at w3
   .simp (disch:=omega) [-getElem?_pos,g,c1,bc (l:=l),w3,F7,MJ,MH]
    exact bB (i+1,K,W++[x]) (by simp) ⟨by simp;omega,by simp[hs,e,hK],by simp[hs,e,hW]⟩ (by simp;omega)
   .simp (disch:=omega) [-getElem?_pos,g,c1,bc (l:=l),w3,F7,MJ,MH]
    exact bB (i+1,K++[x],W) (by simp) ⟨by simp;omega,by simp[hs,e,hK],by simp[hs,e,hW]⟩ (by simp;omega)
  .obtain rfl:i=A.length:=by omega
   rw[mL]at hK hW;subst hK hW;simp)
def aCb{a b:Int×Int}(ha:a.1<=a.2)(hb:b.1<=b.2)(G:List aM):aX F 131 [.agg [i64 a.1,i64 a.2],.agg [i64 b.1,i64 b.2]] G =
  some (.tuple (if max a.1 b.1<=min a.2 b.2 then [.agg [i64 (max a.1 b.1),i64 (min a.2 b.2)],.bool true] else [.agg [i64 0,i64 0],.bool false]),G) :=
 bD rfl rfl (by
  have h1:¬ a.2<a.1:=by omega
  have h2:¬ b.2<b.1:=by omega
  obtain⟨x,hx⟩:∃x,x=max a.1 b.1:=⟨_,rfl⟩;obtain⟨y,hy⟩:∃y,y=min a.2 b.2:=⟨_,rfl⟩;by_cases h:max a.1 b.1<=min a.2 b.2
  .have h3:¬ min a.2 b.2<max a.1 b.1:=by omega
   rw[aJ h];rw[<-hx,<- hy]at h3 ⊢;simp[VS,h1,h2,<- hx,<- hy,h3]
  .have h3:min a.2 b.2<max a.1 b.1:=by omega
   rw[ax h];rw[<-hx,<- hy]at h3;simp[VS,h1,h2,<- hx,<- hy,h3])
def aCc(w lo hi:Int)(h:lo<=hi)(G:List aM):aX F 132 [i64 w,.agg [i64 lo,i64 hi]] G=some (i64 (Cr w lo hi),G) :=
 bD rfl rfl (by
  have h1:¬ hi<lo:=by omega
  have:max lo (min w hi)=Cr w lo hi:=by unfold Cr;split<;>(try split)<;>omega
  simp[afo,h1,this])
variable{lo hi w:Int}
def aCd{l:List Cd}{day:Int}(h:AY l day level)(hO:HO l)(hb:0<=before/\before<=1073741824)(hw:0<=w/\w<=1073741824)(Cz:0<=lo/\lo<=hi/\hi<=1073741824)(G:List aM) :
  aX F 129 [dB l,i64 day,i64 level,i64 before,.agg [i64 lo,i64 hi],i64 w] G=some (i64 0,G) :=
 bD rfl rfl (by
  have w0:=YR h hO;have h1:¬ hi<lo:=by omega
  simp (disch:=omega) [-getElem?_pos,afn,w0];refine go_loop (λi:Nat=>aub (.slice none 1 [[i64 before],[i64 w],[i64 lo],[i64 hi]]) 4 i [i64 lo,i64 hi] G) (λi=>i<=4) (λi=>4-i) 0 rfl (by simp) (by omega) ?_
  rintro i hi4;simp (disch:=omega) [-getElem?_pos,afm];refine bO (λg=>?_) (λg=>?_)
  .have g:i<4:=by omega
   obtain⟨x,hx,hxb⟩:∃x:Int,[[i64 before],[i64 w],[i64 lo],[i64 hi]][i]?=some [i64 x]/\0<=x/\x<=1073741824:=by
    rcases (by omega:i=0\/i=1\/i=2\/i=3) with rfl|rfl|rfl|rfl
    .exact⟨before,rfl,hb⟩
    .exact⟨w,rfl,hw⟩
    .exact⟨lo,rfl,by omega⟩
    .exact⟨hi,rfl,by omega⟩
   have w1:∀G,aX F 93 [i64 x,i64 1073741824] G=some (.bool true,G):=λG=>(wq.2 hxb) ▸ A3 x 1073741824 G;simp (disch:=omega) [-getElem?_pos,hx,w1];exact bB' (i+1)
  .simp (disch:=omega) [-getElem?_pos,h1])
set_option maxHeartbeats 1000000 in
def aCe{l:List Cd}{day:Int}(h:AY l day level)(hO:HO l)(hb:0<=before/\before<=1073741824)(hw:0<=w/\w<=1073741824)(Cz:0<=lo/\lo<=hi/\hi<=1073741824)(G:List aM) :
  aX F 85 [dB l,i64 day,i64 level,i64 before,.agg [i64 lo,i64 hi],i64 w] G=some (.tuple [YI (I5 l day level before lo hi) w,i64 0],G) :=
 bD rfl rfl (by
  have w0:=aCd h hO hb hw Cz;have w1:=YR h hO;obtain⟨zU,F6⟩:=Q8 h.n (day:=day) (level:=level);have YJ:∀j,j∈j8 l day level->nQ (nth l j)=0:=λj hj=>Q7 (vq.1 hj).2;rw[I5];generalize j8 l day level=A at *;obtain⟨b,Q5⟩:∃b,b=zW (mI l before) A:=⟨_,rfl⟩;have xa:∀i,(b i).1<=(b i).2:=by rw[Q5];exact ald λj hj=>(YH (YJ j hj) hb).2.1
  have hbA:∀j,j∈A->b j=mg (nth l j) before:=λj hj=>by rw[Q5];simp[zW,hj,mI]
  have D8:nj (mI l before) A (oo lo hi)=nj b A (oo lo hi):=by rw[Q5,ale]
  rw[D8];simp (disch:=omega) [-getElem?_pos,aex,w0,w1];refine go_loop (λp:Nat×Chs.Ch×(Int×Int)=>asN (dB l) before w p.2.1.lb p.2.1.hb (.slice none 1 (iV A)) A.length p.1 [z0,z0,z0,.cj] [z0,i64 p.2.1.lo,i64 p.2.1.hi,.slice (some 1092) 2 (j9 p.2.1.ys)] [i64 p.2.2.1,i64 p.2.2.2] p.2.1.ys.length G) (λp=>p.1<=A.length/\p.2.1=nj b (A.take p.1) (oo lo hi)/\QY b p.2.1 p.2.2/\p.2.1.ys.length<=p.1) (λp=>A.length-p.1) (0,oo lo hi,(0,0)) rfl (by simp[oo,j9]) ⟨by simp,rfl,⟨by simp[oo],by simp[oo],by simp,λ_=>rfl⟩,by simp[oo]⟩ ?_
  rintro⟨i,C,f⟩ ⟨hi3,hCi,hF,oR⟩;simp only at hi3 hCi hF oR;have hv:Inv b lo _ (A.take i) C:=hCi ▸ aky xa Cz.2.1 (A.take i);have I6:=hv.m;simp (disch:=omega) [-getElem?_pos,aew];refine bO (λg=>?_) (λg=>?_)
  .have g:i<A.length:=by omega
   obtain⟨⟨xi,tN⟩,_⟩:=F6 i g;have c1:=Rn g;have hs:=jV g;have Ea:=hbA (nth A i) (by simp[nth,List.getD,g])
   have na:nj b (A.take (i+1)) (oo lo hi)=rA b C (nth A i):=by rw[hs,alb,<- hCi]
   have nk:=aAV xa hv hF (nth A i);generalize nth A i=x at *;have w2:=alv xi hb;rw[<-Ea]at w2;have alz:=xa x;have w3:=aCb (a:=(C.lo,C.hi)) (b:=b x) I6 alz;unfold rA at na nk;obtain⟨b1,b2,hbe⟩:∃b1 b2,b x=(b1,b2):=⟨_,_,rfl⟩;simp only[hbe,out]at w2 w3 na nk alz;obtain⟨kV,fN,lb,my,ys,up⟩:=C;simp only at w3 na nk I6 oR;have Eb:ys.length<=8796093022207:=by omega
   by_cases g1:b2<kV
   .rw[ax']at w3
    rw[aJ g1]at na nk;by_cases CB:ys=[]
    .subst CB
     rw[aJ (by simp[g1])]at nk
     simp (disch:=omega) [-getElem?_pos,g,c1,bc (l:=l),w2,w3,g1,Eb,j9];exact bB (i+1,⟨kV,fN,lb,my,[]++[(x,lb)],up⟩,(b1,b2)) (by simp[j9]) ⟨by simp;omega,na.symm,nk,by simp⟩ (by simp;omega)
    .rw[ax (λq=>CB q.2)]at nk
     have cy:((ys.length:Int)==0)=false:=tC.2 (by have:=nS.2 CB;omega)
     have EH:ys.isEmpty=false:=by simpa using CB
     simp (disch:=omega) [-getElem?_pos,g,c1,bc (l:=l),w2,w3,g1,Eb,cy,MG];exact bB (i+1,⟨kV,fN,lb,my,ys++[(x,lb)],up⟩,f) (by simp) ⟨by simp;omega,na.symm,nk,by simp;omega⟩ (by simp;omega)
   rw[ax g1]at na nk;by_cases g2:fN<b1
   .rw[ax']at w3
    rw[aJ g2]at na nk;by_cases CB:ys=[]
    .subst CB
     rw[aJ (by simp[g2])]at nk
     simp (disch:=omega) [-getElem?_pos,g,c1,bc (l:=l),w2,w3,g1,Eb,j9];exact bB (i+1,⟨kV,fN,lb,my,[]++[(x,my)],up || true⟩,(b1,b2)) (by simp[j9]) ⟨by simp;omega,na.symm,nk,by simp⟩ (by simp;omega)
    .rw[ax (λq=>CB q.2)]at nk
     have cy:((ys.length:Int)==0)=false:=tC.2 (by have:=nS.2 CB;omega)
     have EH:ys.isEmpty=false:=by simpa using CB
     simp (disch:=omega) [-getElem?_pos,g,c1,bc (l:=l),w2,w3,g1,Eb,cy,MG];exact bB (i+1,⟨kV,fN,lb,my,ys++[(x,my)],up || ys.isEmpty⟩,f) (by simp) ⟨by simp;omega,na.symm,nk,by simp;omega⟩ (by simp;omega)
   rw[ax g2]at na nk;rw[aJ',RL kV b1,MX fN b2]at w3
   have Uz:¬ (decide (b2<kV\/fN<b1)=true/\ys=[]):=by simp;omega
   rw[ax Uz]at nk;have x1:kV<max b1 kV<->¬ max b1 kV=kV:=by omega
   have x2:min b2 fN<fN<->¬ min b2 fN=fN:=by omega
   generalize max b1 kV=X at *;generalize min b2 fN=Y at *;by_cases e1:X=kV
   .rw[aJ e1]at na nk
    have z1:¬ kV<X:=by omega
    by_cases e2:Y=fN
    .rw[aJ e2]at na nk
     have z2:¬ Y<fN:=by omega
     simp (disch:=omega) [-getElem?_pos,g,c1,bc (l:=l),w2,w3,z1,z2];exact bB (i+1,⟨X,Y,lb,my,ys,up⟩,f) (by simp) ⟨by simp;omega,na.symm,nk,by simp;omega⟩ (by simp;omega)
    .rw[ax e2]at na nk
     have z2:Y<fN:=x2.2 e2;simp (disch:=omega) [-getElem?_pos,g,c1,bc (l:=l),w2,w3,z1,z2];exact bB (i+1,⟨X,Y,lb,x,ys,up⟩,f) (by simp) ⟨by simp;omega,na.symm,nk,by simp;omega⟩ (by simp;omega)
   .rw[ax e1]at na nk
    have z1:kV<X:=x1.2 e1;by_cases e2:Y=fN
    .rw[aJ e2]at na nk
     have z2:¬ Y<fN:=by omega
     simp (disch:=omega) [-getElem?_pos,g,c1,bc (l:=l),w2,w3,z1,z2];exact bB (i+1,⟨X,Y,x,my,ys,up⟩,f) (by simp) ⟨by simp;omega,na.symm,nk,by simp;omega⟩ (by simp;omega)
    .rw[ax e2]at na nk
     have z2:Y<fN:=x2.2 e2;simp (disch:=omega) [-getElem?_pos,g,c1,bc (l:=l),w2,w3,z1,z2];exact bB (i+1,⟨X,Y,x,x,ys,up⟩,f) (by simp) ⟨by simp;omega,na.symm,nk,by simp;omega⟩ (by simp;omega)
  .obtain rfl:i=A.length:=by omega
   rw[mL]at hCi;rw[<-hCi];have uI:=aAU hv hF w;have w4:=aCc w C.lo C.hi I6;obtain⟨kV,fN,lb,my,ys,up⟩:=C;simp only at uI w4;cases ys with
   |nil =>
    rw[aJ rfl]at uI;simp (disch:=omega) [-getElem?_pos,w4,uI]
   |cons y ys =>
    rw[ax (by simp)]at uI
    have gR:(0:Int)<(ys.length:Int)+1:=by omega
    have alA:0<ys.length+1:=by omega
    by_cases e:f.2<kV
    .rw[aJ e]at uI
     simp (disch:=omega) [-getElem?_pos,w4,uI,e,gR,alA]
    .rw[ax e]at uI
     simp (disch:=omega) [-getElem?_pos,w4,uI,e,gR,alA])
variable{k:Nat}
def YT{m:Nat}(h:k+m<=l.length):ju [none] (chunks 1 (nc l) k m)=some (iV ((l.drop k).take m)):=by
 rw[E1 _ _ _ rfl (by simp;exact h)]
 have:(((nc l).drop k).take m).map (λv=>[v])=((l.drop k).take m).map λj=>[V.int .i64 ((λn:Nat=>(n:Int)) j)]:=by
  simp[nc,dM,<- List.map_drop,<- List.map_take]
 rw[this];exact KE _ _
def alB:(iV l).flatten=nc l:=by
 induction l with
 |nil=>rfl
 |cons a l ih=>simpa [nc,dM,iV] using ih
def aCg:(nc l).take k=nc (l.take k):=by simp[nc,dM,RX]
def aCh{m:List Nat}:nc l++nc m=nc (l++m):=by simp[nc,dM]
def alC:V.int .i64 (i:Int)::nc l=nc (i::l):=by simp[nc,dM]
def alD{l:List Cd}(hl:l.length<=200):HO l:=λG=>bD rfl rfl (by
  simp (disch:=omega) [-getElem?_pos,aft];refine go_loop (λi:Nat=>auh (dB l) i (dB l) l.length i (nc (iM (cZ l) (List.range i))) G) (λi=>i<=l.length) (λi=>l.length-i) 0 rfl (by simp[iM,QZ]) (by omega) ?_
  rintro i hi;have F3:(iM (cZ l) (List.range i)).length=i:=IY _;have YS:∀(k y:Nat),(iM (cZ l) (List.range i))[k]?=some y->y<i:=λk y h=>((FX _).2 y).1 (gw h);have Q6:=(FX (rk:=cZ l) i).1;have aCi:iM (cZ l) (List.range (i+1))=qH (cZ l) i (iM (cZ l) (List.range i)):=akC;generalize hO:iM (cZ l) (List.range i)=O at *;simp (disch:=omega) [-getElem?_pos,afs];refine bO (λh=>?_) (λh=>?_)
  .have h:i<l.length:=by omega
   have It:=bc h;simp (disch:=omega) [-getElem?_pos,It];refine go_loop (λk:Nat=>auf (dB l) (.bY 20043 1 i) i k (dB l) l.length i (nth l i).row (nc O) G) (λk=>k<=i/\∀j y,k<=j->O[j]?=some y->cZ l i<cZ l y) (λk=>k) i rfl (by simp) ⟨by omega,λj y hj hy=>by rw[kW (by omega)]at hy;cases hy⟩ ?_
   rintro k ⟨hk,sk⟩;have fin:(∀y,0<k->O[k-1]?=some y->¬ cZ l i<cZ l y)->iM (cZ l) (List.range (i+1))=O.take k++i::O.drop k:=λh2=>by rw[aCi,akB Q6 (by omega) sk h2]
   have q1:i<=O.length:=by omega
   by_cases wV:k=0
   .subst wV
    have hf:=fin (λy hy=>by omega)
    simp only[R5,tA,vr]at hf;have e0:ju [none] (chunks 1 (nc O) 0 i)=some (iV O):=by have:=YT (l:=O) (k:=0) (m:=i) (by omega);rwa [tA,kD (by omega)]at this
    by_cases oQ:i=0
    .have hO0:O=[]:=pz.1 (by omega)
     subst oQ hO0;simp (disch:=omega) [-getElem?_pos,HY,QZ,chunks,ju];exact bB 1 (by simp[iM,qH,nc,dM]) (by omega) (by omega)
    .have q3:1+O.length<=17592186044416:=by omega
     have q4:O.length<=4294967295:=by omega
     have q5:(O.length==0)=false:=tC.2 (by omega)
     simp (disch:=omega) [-getElem?_pos,HY,e0,q1,q3,q4,q5,oQ,alB,alC];exact bB (i+1) (by simp[hf,F3]) (by omega) (by omega)
   .obtain⟨y,hy⟩:∃y,O[k-1]?=some y:=⟨_,eV (by omega)⟩
    have oR:y<l.length:=by have:=YS _ _ hy;omega
    have c1:(nc O)[k-1]?=some (i64 (y:Int)):=sH hy;have YU:=bc oR;have t1:((k:Int)-1).toNat=k-1:=by omega
    have t3:(k:Int)-1<i:=by omega
    have t4:(1:Int)<=(k:Int):=by omega
    have t5:0<k:=by omega
    have t6:¬ (k:Int)=0:=by omega
    have t7:k<=i:=by omega
    have t8:O.length<=4294967295:=by omega
    have t9:1+O.length<=17592186044416:=by omega
    by_cases hr:cZ l i<cZ l y
    .have Ro:(nth l i).rk<(nth l y).rk:=hr
     simp (disch:=omega) [-getElem?_pos,HY,t1,t3,t4,t5,c1,YU,Ro];exact bB (k-1) (by simp;omega) ⟨by omega,λj z hj hz=>by
      by_cases e:j=k-1
      .subst e;rw[hy]at hz;cases hz;exact hr
      .exact sk j z (by omega) hz⟩ (by omega)
    .have Ro:¬ (nth l i).rk<(nth l y).rk:=hr
     have hf:=fin (λz _ hz=>by rw[hy]at hz;cases hz;exact hr)
     by_cases Dq:k=i
     .subst Dq
      have u1:k<=4294967295:=by omega
      have u2:nc O++[V.int .i64 (k:Int)]=nc (O++[k]):=by simp[nc,dM]
      have u3:O.take k++k::O.drop k=O++[k]:=by rw[kD (by omega),Jj (by omega)]
      rw[u3]at hf;simp (disch:=omega) [-getElem?_pos,HY,t1,t3,t4,t5,t6,t8,c1,YU,Ro,wV,F3,QZ,u1,u2];exact bB (k+1) (by simp[hf,F3]) (by omega) (by omega)
     .have e0:ju [none] (chunks 1 (nc O) k (i-k))=some (iV (O.drop k)):=by have:=YT (l:=O) (k:=k) (m:=i-k) (by omega);rwa [kD (by simp;omega)]at this
      have q6:(k:Int)<i:=by omega
      have q7:((i:Int)-k).toNat=i-k:=by omega
      have q8:k+(i-k)<=O.length:=by omega
      have qa:(O.length==k)=false:=tC.2 (by omega)
      have qb:k<=O.length:=by omega
      have qc:k+(O.length-k+1)<=4294967296:=by omega
      have q9:1+(O.length-k)<=17592186044416:=by omega
      simp (disch:=omega) [-getElem?_pos,HY,t1,t3,t4,t5,c1,YU,Ro,wV,q6,q7,q8,q1,q9,qa,qb,qc,e0,t6,t7,t8,t9,alB,alC,aCg,aCh];exact bB (i+1) (by simp[hf,F3];omega) (by omega) (by omega)
  .obtain rfl:i=l.length:=by omega
   have e1:ju [none] (chunks 1 (nc O) 0 l.length)=some (iV O):=by have:=YT (l:=O) (k:=0) (m:=l.length) (by omega);rwa [tA,kD (by omega)]at this
   have q1:l.length<=O.length:=by omega
   simp (disch:=omega) [-getElem?_pos,e1,q1,hO])
end
section
open Go.Vm
attribute [local simp] mX mY lX mW
noncomputable def rM(c:Cs)(f:Fl)(L:List (List Cd))(p:Pn)(l:List Sp):Nat->List Vi
 |0=>[]
 |k+1=>rM c f L p l k++qd c (eO c f (fe p l) k) L (nth p.l k) c.s.length
def Rp{c:Cs}{f:Fl}{L:List (List Cd)}{p:Pn}{l:List Sp}(hL:L.length=c.s.length)(h:∀i,i<L.length->ug (nth L i)):∀k,(rM c f L p l k).length<=200*c.s.length*k
 |0=>by simp[rM]
 |k+1=>by
  have h1:=Rp (f:=f) (p:=p) (l:=l) hL h k;have h2:=Re (c:=c) (f:=eO c f (fe p l) k) (T:=nth p.l k) h c.s.length (by omega)
  simp only[rM,jQ,Nat.mul_add,Gz];omega
variable{c:Cs}{f:Fl}{L:List (List Cd)}
def alE(hr:jO c.r)(hf:mf f){p:Pn}{l:List Sp}(hb:Bg c f p l.length)(hL:L.length=c.s.length)(ho:∀i,i<L.length->ug (nth L i)) :
  ∃m,aX F 42 [IQ c p (.fn 54 [.bu 2 0,.bu 0 0,.bu 1 0]),fl f,gu l] [.cells c.row,.cells [gf L],.cells [.eC 4 []]]=some (lJ (some 0) c f (fe p l),vG c L (rM c f L p l m))/\(gK c f (fe p l)=0->m=l.length):=by
 have h6:=I7 hb.c0;have hm:=hb.dF;refine Ym hr hf hb (M:=p.l) (.inl rfl) (Gs:=λk=>vG c L (rM c f L p l k)) λk hk hj=>?_;have kh:=FR hb.c0 hb.f0 k hj;rw[show fe ⟨p.f,p.l⟩ l=fe p l from rfl]at kh ⊢;have hT:=(hb.e k hk).1;have hv:=Rp (f:=f) (p:=p) (l:=l) hL ho k;have h:=aB4 kh (T:=nth p.l k) hT hL h6 ho (λi hi=>by have:=(hb.e k hk).2 i hi;omega) (V:=rM c f L p l k) (by
  have:200*c.s.length*k<=200*6*96:=A5 (by omega) (by omega)
  omega)
 rw[hT]at h;exact h
def aCm(hr:jO c.r)(hf:mf f)(p:Pn)(l:List Sp)(hl:L.length<=1000)(rH:∀i,i<L.length->(nth L i).length<=200)(hz:jr c f p l.length=0)(hw:kC c L=0)(hE:gK c f (fe p l)=0) :
  ∃G',aX F 27 [cs c,fl f,gf L,pn p,gu l] []=some (.tuple [AZ (rM c f L p l l.length),i64 0],G'):=by
 have h0:=IS c hr hf p 54 [.bu 2 0,.bu 0 0,.bu 1 0] l;have h1:=Rf c L hl;obtain⟨hL,ho⟩:=F8 hw rH;obtain⟨m,h2,hm⟩:=alE hr hf (Cn hz) hL ho;rw[lJ,aJ hE]at h2;rw[hm hE]at h2;exact⟨_,bD (G':=vG c L (rM c f L p l l.length)) rfl rfl (by simp[KW,vG,h0,hz,h1,hw,h2])⟩
def aCn(hr:jO c.r)(hf:mf f)(p:Pn)(l:List Sp)(hl:L.length<=1000)(rH:∀i,i<L.length->(nth L i).length<=200) :
  (qe c f L p l=0->∃G',aX F 24 [cs c,fl f,gf L,pn p,gu l] []=some (.tuple [.agg [i64 p.f,og (mi c f L p l l.length)],AZ (rJ c f L p l l.length),i64 0],G')) /\
  (qe c f L p l≠0->∃t u G',aX F 24 [cs c,fl f,gf L,pn p,gu l] []=some (.tuple [.agg [i64 0,.slice t 1 []],.slice u 4 [],i64 (qe c f L p l)],G')):=by
 have h0:=IS c hr hf p 49 [.bu 0 0,.bu 1 0,.bu 3 0,.bu 2 0] l;have h1:=Rf c L hl;unfold qe;by_cases hz:jr c f p l.length=0
 case neg =>
  refine⟨λh=>?_,λh=>?_⟩
  .rw[aJ hz]at h;exact absurd h hz
  .rw[aJ hz]
   have uJ:(jr c f p l.length != 0)=true:=by simp[hz]
   exact⟨some 0,some 0,_,bD (G':=[.cells c.row,.cells [gf L],.cells [i64 p.f,.eC 1 []],.cells [.eC 4 []]]) rfl rfl (by simp[DF,h0,uJ])⟩
 rw[ax (λg=>g hz)];by_cases hw:kC c L=0
 case neg =>
  refine⟨λh=>?_,λh=>?_⟩
  .rw[aJ hw]at h;exact absurd h hw
  .rw[aJ hw]
   have CC:(kC c L != 0)=true:=by simp[hw]
   exact⟨some 0,some 0,_,bD (G':=[.cells c.row,.cells [gf L],.cells [i64 p.f,.eC 1 []],.cells [.eC 4 []]]) rfl rfl (by simp[DF,h0,hz,h1,CC])⟩
 rw[ax (λg=>g hw)];obtain⟨hL,ho⟩:=F8 hw rH;obtain⟨m,h2,hm⟩:=aB6 hr hf (Cn hz) hL ho;refine⟨λh=>?_,λh=>?_⟩
 .rw[lJ,aJ h]at h2
  rw[hm h]at h2;exact⟨_,bD (G':=mG c L p.f (mi c f L p l l.length) (rJ c f L p l l.length)) rfl rfl (by simp[DF,mG,h0,hz,h1,hw,h2])⟩
 .rw[lJ,ax h]at h2
  have h':(gK c f (mS c f L p l) != 0)=true:=by simp[h]
  exact⟨some 0,some 0,_,bD (G':=mG c L p.f (mi c f L p l m) (rJ c f L p l m)) rfl rfl (by simp[DF,mG,h0,hz,h1,hw,h2,h'])⟩
end
section
open Go.Vm Go.Chs
def alF{f g:Nat->Int}:∀(n o:Nat),(∀k,o<=k->k<o+n->f k=g k)->dH f n o=dH g n o
 |0,_,_=>rfl
 |n+1,o,h=>by
  simp only[dH];rw[h o (by omega) (by omega),alF n (o+1) λk a b=>h k (by omega) (by omega)]
variable{c:Cs}{f:Fl}{i:Nat}
def aCo(hf:e8 c f)(hi:i<c.s.length):dE (nth c.s i).d (nth f.d i)=0:=by
 have h:=hf.2.1.2 i hi;unfold dE;rw[ax (λg=>g h.1),aJ h.2]
def alG{l:List Cd}{w:Int}(hf:e8 c f)(hi:i<c.s.length)(h:ug l)(hw:0<=w/\w<=1073741824)(G:List aM) :
  aX F 53 [dB l,dm (nth c.s i).d,dst (nth f.d i),i64 f.t,i64 w] G=some (.tuple [YL (oq c f i l) w,i64 0],G) :=
 bD rfl rfl (by
  have hr:0<=(nth f.d i).rel/\(nth f.d i).rel<=1073741824:=(hf.2.1.2 i hi).2.2.1;have h1:=als hf.1;have h2:=FI (nth c.s i).d (nth f.d i);rw[aCo hf hi]at h2;have h3:=aCe (h.at_ (c:=c) (i:=i) hf) (alD (by have:=h.n;omega)) hr hw (lo:=0) (hi:=1073741824) (by omega)
  change ∀G,aX F _ _ G=some (.tuple [i64 (oS c f i),i64 0],G)at h2;change ∀G,aX F _ _ G=some (.tuple [YI (oq c f i l) w,i64 0],G)at h3;generalize oq c f i l=C at *;generalize oS c f i=v at *;simp +contextual (disch:=omega) [-getElem?_pos,-List.length_eq_zero_iff,-Int.natCast_eq_zero,adW,h1,h2,h3])
set_option maxHeartbeats 4000000 in
def aCp(hr:jO c.r)(hf:mf f)(p:Pn)(l:List Sp){L:List (List Cd)}(hl:L.length<=1000)(rH:kC c L=0->∀i,i<L.length->(nth L i).length<=200)(hp:∀i,i<l.length->(nth l i).a.length<=1000/\(nth l i).b.length<=1000)(G:List aM) :
  (qe c f L p l=0->aX F 25 [cs c,fl f,gf L,pn p,gu l] G=some (.tuple [.agg [i64 p.f,.slice (some 0) 1 ((mi c f L p l l.length).map λp=>[ints p])],.slice (some 0) 4 ((rJ c f L p l l.length).map Vi.row),i64 0],G)) /\
  (qe c f L p l≠0->aX F 25 [cs c,fl f,gf L,pn p,gu l] G=some (.tuple [.agg [i64 0,.slice (some 0) 1 []],.slice (some 0) 4 [],i64 (qe c f L p l)],G)):=by
 suffices h:∀Q:V->Prop,(qe c f L p l=0->Q (.tuple [.agg [i64 p.f,.slice (some 0) 1 ((mi c f L p l l.length).map λp=>[ints p])],.slice (some 0) 4 ((rJ c f L p l l.length).map Vi.row),i64 0])) ->
   (qe c f L p l≠0->Q (.tuple [.agg [i64 0,.slice (some 0) 1 []],.slice (some 0) 4 [],i64 (qe c f L p l)]))->gz (aX F) 25 [cs c,fl f,gf L,pn p,gu l] G λv G'=>Q v/\G'=G by
  refine⟨λh0=>?_,λh0=>?_⟩
  .obtain⟨_,G',h,rfl,rfl⟩:=h (λv=>v=_) (λ_=>rfl) (λg=>absurd h0 g)
   exact h
  .obtain⟨_,G',h,rfl,rfl⟩:=h (λv=>v=_) (λg=>absurd g h0) (λ_=>rfl)
   exact h
 intro Q MM vj;refine gN rfl rfl ?_;have h0:=Yl c hr hf p l;have h1:=aly c L hl;by_cases hz:jr c f p l.length=0
 case neg =>
  have e:qe c f L p l=jr c f p l.length:=by unfold qe;rw[aJ hz]
  rw[e]at vj;have hQ:=vj hz;have uJ:(jr c f p l.length != 0)=true:=by simp[hz]
  simp +contextual (disch:=omega) [-getElem?_pos,-List.length_eq_zero_iff,-Int.natCast_eq_zero,OX,h0,uJ];exact hQ
 by_cases hw:kC c L=0
 case neg =>
  have e:qe c f L p l=kC c L:=by unfold qe;rw[ax (λg=>g hz),aJ hw]
  rw[e]at vj;have hQ:=vj hw;have CC:(kC c L != 0)=true:=by simp[hw]
  simp +contextual (disch:=omega) [-getElem?_pos,-List.length_eq_zero_iff,-Int.natCast_eq_zero,OX,h0,hz,h1,CC];exact hQ
 have e0:qe c f L p l=gK c f (mS c f L p l):=by unfold qe;rw[ax (λg=>g hz),ax (λg=>g hw)]
 obtain⟨hL,ho⟩:=F8 hw (rH hw);have hb:=Cn hz;have z1:=hb.c0;have z2:=hb.f0;have cv:=oh z1;have hn:=hb.len;have hm:=hb.dF;have Mh:=I7 z1;have e1:gK c f (mS c f L p l)=dH (λk=>fB c (ot c f L p l k) ⟨(nth l k).a,(nth l k).b,lL c (ot c f L p l k) L (nth p.l k) c.s.length⟩) l.length 0:=by
  unfold gK;have Yc:lu c f=0:=by unfold lu;rw[ax',aJ z2]
  rw[ax',ax (by rw[zQ];omega),zQ]
  refine alF _ _ λk _ hk=>?_;rw[Ri k (by omega),Mr (by omega),Rh (by omega)]
 rw[e0,e1]at MM vj;simp +contextual (disch:=omega) [-getElem?_pos,-List.length_eq_zero_iff,-Int.natCast_eq_zero,OX,h0,hz,h1,hw];refine go_loop (λk:Nat=>aq1 (gf L) (.slice (some 1114) 4 ((rJ c f L p l k).map Vi.row)) (gu l) l.length k c.row (ot c f L p l k).row p.row [z0,.cj] [i64 p.f,.slice (some 1139) 1 ((mi c f L p l k).map λp=>[ints p])] (rJ c f L p l k).length (mi c f L p l k).length G)
  (λk=>k<=l.length/\dH (λk=>fB c (ot c f L p l k) ⟨(nth l k).a,(nth l k).b,lL c (ot c f L p l k) L (nth p.l k) c.s.length⟩) (l.length-k) k=dH (λk=>fB c (ot c f L p l k) ⟨(nth l k).a,(nth l k).b,lL c (ot c f L p l k) L (nth p.l k) c.s.length⟩) l.length 0/\e8 c (ot c f L p l k)) (λk=>l.length-k) 0 rfl (by simp[rJ,mi,ot]) ⟨by omega,rfl,z2⟩ ?_
 rintro k ⟨hk,hE,oO⟩;simp +contextual (disch:=omega) [-getElem?_pos,-List.length_eq_zero_iff,-Int.natCast_eq_zero,adl];refine bO (λh5=>?_) (λh5=>?_)
 case refine_2 =>
  obtain rfl:k=l.length:=by omega
  rw[l7]at hE;exact MM hE.symm
 have h5:k<l.length:=by omega
 rw[kl h5]at hE;have hM1:mi c f L p l (k+1)=mi c f L p l k++[lL c (ot c f L p l k) L (nth p.l k) c.s.length]:=alq;have DY:rJ c f L p l (k+1)=rJ c f L p l k++p9 c (ot c f L p l k) L c.s.length:=rfl;have MN:ot c f L p l (k+1)=ue c (ot c f L p l k) ⟨(nth l k).a,(nth l k).b,lL c (ot c f L p l k) L (nth p.l k) c.s.length⟩:=rfl;have hMl:(mi c f L p l k).length=k:=Rg;have hVl:=Rj (f:=f) (p:=p) (l:=l) hL ho k;have MI:=hb.e k (by omega)
 have jH:=hp k h5;have yW:=bc h5;have MO:=bc (l:=p.l) (i:=k) (by omega)
 have hVk:(rJ c f L p l k).length<=200000:=by
  have:200*c.s.length*k<=200*6*96:=A5 (by omega) (by omega)
  omega
 generalize hmV:rJ c f L p l k=Vk at *;generalize hmM:mi c f L p l k=Mk at *;generalize hmF:ot c f L p l k=g at *;generalize nth p.l k=w at *;generalize nth l k=s at *;simp +contextual (disch:=omega) [-getElem?_pos,-List.length_eq_zero_iff,-Int.natCast_eq_zero,yW]
 refine go_loop (λi:Nat=>aqZ (gf L) (.slice (some 1114) 4 ((Vk++p9 c g L i).map Vi.row)) k (.slice (some 1096) 1 ((lL c g L w i).map λn=>[i64 n])) (gu l) l.length k (ru c.s) c.s.length i c.row g.row p.row [z0,.cj] [i64 p.f,.slice (some 1139) 1 (Mk.map λp=>[ints p])] s.row i (Vk++p9 c g L i).length Mk.length G) (λi=>i<=c.s.length) (λi=>c.s.length-i) 0 rfl (by simp[lL,p9]) (by omega) ?_
 rintro i hi;simp +contextual (disch:=omega) [-getElem?_pos,-List.length_eq_zero_iff,-Int.natCast_eq_zero,adk];refine bO (λh6=>?_) (λh6=>?_)
 case refine_2 =>
  obtain rfl:i=c.s.length:=by omega
  obtain⟨G1,hP⟩:=QK (p:=⟨s.a,s.b,lL c g L w c.s.length⟩) hr (IN cv.k oO) (by simp only[alj];omega)
  rw[wm,D3 z1 oO]at hP;by_cases h7:fB c g ⟨s.a,s.b,lL c g L w c.s.length⟩=0
  .rw[aJ h7]at hP hE
   have hMb:Mk.length<=5864062014804:=by omega
   simp +contextual (disch:=omega) [-getElem?_pos,-List.length_eq_zero_iff,-Int.natCast_eq_zero,hP,hMb];exact bB (k+1) (by simp[hM1,DY,MN,hMl]) ⟨by omega,hE,by rw[MN];exact(IM (by rw[D3 z1 oO];exact h7)).fl⟩ (by omega)
  .rw[ax h7]at hP hE
   have Mg:(fB c g ⟨s.a,s.b,lL c g L w c.s.length⟩ != 0)=true:=by simp[h7]
   rw[<-hE]at vj;have hQ:=vj h7;simp +contextual (disch:=omega) [-getElem?_pos,-List.length_eq_zero_iff,-Int.natCast_eq_zero,hP,Mg];exact hQ
 have h6:i<c.s.length:=by omega
 have FH:=alG oO h6 (ho i (by omega)) (w:=nth w i) (by have:=MI.2 i (by omega);omega)
 have oR:=MK (c:=c) (f:=g) (i:=i) (ho i (by omega))
 have NL:=Q9 (c:=c) (f:=g) ho i (by omega)
 have YV:=dQ (l:=w) (i:=i) (by omega)
 have EZ:g.d.length=c.s.length:=oO.2.1.1;have NJ:lL c g L w i++[rC (oq c g i (nth L i)) (nth w i)]=lL c g L w (i+1):=ali.symm;have hW1:p9 c g L (i+1)=p9 c g L i++p8 g.t i (oq c g i (nth L i)).ys:=rfl;have E2:i<=17592186044415:=by omega
 generalize oq c g i (nth L i)=C at *;simp +contextual (disch:=omega) [-getElem?_pos,-List.length_eq_zero_iff,-Int.natCast_eq_zero,bc (l:=c.s),bc (l:=g.d),bc (l:=L),MO,YV,FH,E2]
 refine go_loop (λj:Nat=>aqU (gf L) (.slice (some 1114) 4 ((Vk++p9 c g L i++p8 g.t i (C.ys.take j)).map Vi.row)) k (.slice (some 1096) 1 ((lL c g L w (i+1)).map λn=>[i64 n])) i (gu l) l.length k (ru c.s) c.s.length i (.slice none 2 (j9 C.ys)) C.ys.length j c.row g.row p.row [z0,.cj] [i64 p.f,.slice (some 1139) 1 (Mk.map λp=>[ints p])] s.row (i+1) (Vk++p9 c g L i++p8 g.t i (C.ys.take j)).length Mk.length G) (λj=>j<=C.ys.length) (λj=>C.ys.length-j) 0 rfl (by simp[<-NJ,p8]) (by omega) ?_
 rintro j hj;simp +contextual (disch:=omega) [-getElem?_pos,-List.length_eq_zero_iff,-Int.natCast_eq_zero,adj];refine bO (λh8=>?_) (λh8=>?_)
 .have h8:j<C.ys.length:=by omega
  have zX:(j9 C.ys)[j]?=some [i64 (((nth C.ys j).1:Nat):Int),i64 (nth C.ys j).2]:=by simp[j9,nth,List.getD,h8]
  have J0:p8 g.t i (C.ys.take (j+1))=p8 g.t i (C.ys.take j)++[⟨g.t,i,((nth C.ys j).1:Nat),(nth C.ys j).2⟩]:=by
   rw[uj,show C.ys[j]?=some (nth C.ys j) by simp[nth,List.getD,h8]]
   simp[p8]
  have LH:Vk.length+((p9 c g L i).length+(p8 g.t i (C.ys.take j)).length)<=4398046511103:=by
   have:(p8 g.t i (C.ys.take j)).length<=C.ys.length:=by simp[p8];omega
   omega
  simp +contextual (disch:=omega) [-getElem?_pos,-List.length_eq_zero_iff,-Int.natCast_eq_zero,zX,LH];exact bB (j+1) (by simp[J0];omega) (by omega) (by omega)
 .obtain rfl:j=C.ys.length:=by omega
  exact bB (i+1) (by simp[hW1]) (by omega) (by omega)
end
section
open Go.Vm
structure Ar(c:Cs)(p:Sp)(x:Ps)(A:List Int)(m:Nat):Prop where
 le:m<=c.r.l.length
 len:A.length=p.a.length
 at_:∀j,j<A.length->nth A j=nth p.a j+qF c x.cm j m
variable{c:Cs}{p:Sp}{x:Ps}
def Ar.zero:Ar c p x p.a 0:=⟨by omega,rfl,λj _=>by simp[qF]⟩
variable{t:Nat}
def Ar.next{A:List Int}{m:Nat}(h:Ar c p x A m)(hm:m<c.r.l.length)(ht:(nth c.r.l m).t=t):Ar c p x (A.set t (nth A t+nth x.cm m)) (m+1) :=
 ⟨by omega,by simp[h.len],λj hj=>by
  simp only[qI]at hj;simp only[qF];by_cases g:j=t
  .subst g
   rw[xd hj,aJ rfl,aJ ht,h.at_ j hj,Int.add_assoc]
  .rw[ax',MV,<- h.at_ j hj]
   rcases cS t A.length with q|q
   .rw[xd q,ax g]
   .rw[Gx q]⟩
structure Lv(c:Cs)(p:Sp)(x:Ps)(L:List Int)(i:Nat):Prop where
 le:i<=c.s.length
 len:(L.length:Int)=c.r.n
 Rq:∀k,k<i->nth L (nth c.s k).n.toNat=sG (nth x.re k)
 no:∀j,j<L.length->(∀k,k<i->(nth c.s k).n≠j)->nth L j=QU c p x j
variable{L:List Int}
def Lv.next(cv:AS c){i:Nat}(h:Lv c p x L i)(hi:i<c.s.length)(ht:(nth c.s i).n=t):Lv c p x (L.set t (sG (nth x.re i))) (i+1):=by
 have hs:=(AV cv hi).1;have hs:0<=(nth c.s i).n/\(nth c.s i).n<c.r.n:=hs;have Mq:t<L.length:=by have:=h.len;omega
 have up:∀k,k<i->(nth c.s k).n<(nth c.s i).n:=λk hk=>by
  have:∀m,k<m->m<c.s.length->(nth c.s k).n<(nth c.s m).n:=by
   intro m;induction m with
   |zero=>intro a;omega
   |succ m ih =>
    intro a b;have s:=(AV cv b).2.1 (by omega)
    have s:(nth c.s m).n<(nth c.s (m+1)).n:=s;by_cases g:k=m
    .subst g;exact s
    .have:=ih (by omega) (by omega);omega
  exact this i hk hi
 refine⟨by omega,by simp[h.len],λk hk=>?_,λj hj kI=>?_⟩
 .by_cases g:k=i
  .subst g
   rw[ht,RP,xd Mq,aJ rfl]
  .have:=up k (by omega)
   have:=(AV cv (i:=k) (by omega)).1
   have:0<=(nth c.s k).n/\(nth c.s k).n<c.r.n:=this;rw[xd Mq,ax']
   exact h.Rq k (by omega)
 .simp only[qI]at hj
  have:=kI i (by omega)
  rw[xd Mq,ax']
  exact h.no j hj λk hk=>kI k (by omega)
def Lv.all(cv:AS c)(h:Lv c p x L c.s.length){j:Nat}(hj:j<L.length):nth L j=Mv c p x j:=by
 unfold Mv;cases hs:ni c.s j with
 |none =>
  exact h.no j hj λk hk=>by
   have:=QH hs k hk;exact this
 |some i =>
  obtain⟨a,b⟩:=AW hs;have b:(nth c.s i).n=j:=b;have:=h.Rq i a;rw[b,RP]at this;exact this
end
section
open Go.Vm
attribute [local simp] mX mY lX mW
def aIP(r:Dr):∃v,(∀G,aX F 75 [dr r] G=some (i64 v,G))/\(((0<=r.tur/\r.tur<=274877906944)/\(0<=r.spi/\r.spi<=274877906944)/\0<=r.ovr/\r.ovr<=274877906944)->v=sG r):=by
 refine⟨IntKind.i64.wrap (IntKind.i64.wrap (r.tur+r.spi)+r.ovr),λG=>bD rfl rfl (by simp[Vr]),λh=>?_⟩
 rw[wrap64 (n:=r.tur+r.spi) (by omega) (by omega),wrap64 (by omega) (by omega)]
 rfl
structure Wn(c:Cs)(f g:Fl)(p:Sp)(x:Ps)(k:Nat)(w:Int)(i:Nat):Prop where
 le:i<=c.s.length
 Rq:∀m,m<i->(nth c.s m).n=k->siQ c f g p x m/\w=sG (nth x.re m)
 no:(∀m,m<i->(nth c.s m).n≠k)->w=QU c p x k
def Wn.all{c:Cs}{f g:Fl}{p:Sp}{x:Ps}{k:Nat}{w:Int}(h:Wn c f g p x k w c.s.length):w=Mv c p x k:=by
 unfold Mv;cases hs:ni c.s k with
 |none=>exact h.no λm hm=>QH hs m hm
 |some i =>
  obtain⟨a,b⟩:=AW hs;exact(h.Rq i a b).2
end
section
open Go.Vm
noncomputable def Ru(f:Fl)(n:Nat):Int:=eo (λi=>(nth f.d i).v) n
def hld(f:Fl)(i:Nat):Int:=sm (nth f.w i) (nth f.w i).length
def alI(f:Fl)(n:Nat):List Int:=(List.range n).map (hld f)
@[simp] theorem aIQ{f:Fl}{n:Nat}:(alI f n).length=n:=by simp[alI]
def aCy{c:Cs}{f:Fl}(h:e8 c f):∀n:Nat,n<=c.s.length->0<=Ru f n/\Ru f n<=274877906944*n
 |0,_=>by simp[Ru,eo]
 |n+1,hn=>by
  have ih:=aCy h n (by omega)
  have a:=h.2.1.2 n (by omega)
  have b:=a.2.1;have d:=aiY (B5 a.1).r;unfold Ru at ih ⊢;simp only[eo];omega
def Kv.YW{r:Rr}(h:Kv r):∀{j i:Nat},i<j->j<r.l.length->(nth r.l i).f<(nth r.l j).f
 |j+1,i,hi,hj=>by
  have a:=(h.link hj).2.1 (by omega)
  rw[rW]at a;rcases cS i j with g|g
  .exact Int.lt_trans (Kv.YW h g (by omega)) a
  .obtain rfl:i=j:=by omega
   exact a
def Kv.inj{r:Rr}(h:Kv r){i j:Nat}(hi:i<r.l.length)(hj:j<r.l.length)(e:(nth r.l i).f=(nth r.l j).f):i=j:=by
 rcases Js i j with g|g|g
 .have:=h.YW g hj;omega
 .exact g
 .have:=h.YW g hi;omega
structure Pa0(l:List Lk)(n m:Int)(L:List Int):Prop where
 one:n∈L
 last:m∈L
 clo:∀a∈L,a≠m->∀i,i<l.length->(nth l i).f=a->(nth l i).t∈L
 le:(L.length:Int)<=m+1
abbrev F9(r:Rr):Cs:=⟨r,[]⟩
abbrev YX(a:List Int):Sp:=⟨a,[],[]⟩
def aIT(r:Rr)(k:Int):ni (F9 r).s k=none:=rfl
def aIU{r:Rr}{p:Sp}{v:Co}{k:Nat}:fX (F9 r) p v k=nth v.arr k:=rfl
structure Drw(r:Rr)(a:List Int)(w:List (List Int))(k:Nat):Prop where
 v:∀j,j<k->vE (F9 r) (YX a) (cR (F9 r) (YX a) ⟨0,[],w⟩ j) j=0
 arr:∀j,j<a.length->nth (cR (F9 r) (YX a) ⟨0,[],w⟩ k).arr j<=30*(2:Int) ^ k
end
