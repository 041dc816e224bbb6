/- - -/
import Derived.Test.YtabckmbjnjnegaaGreatDoorDh
import Derived.Test.YtabckmbjnjnegaaGreatDoorDc
import Derived.Test.YtabckmbjnjnegaaGreatDoorDd
import Derived.Test.YtabckmbjnjnegaaGreatDoorDg
attribute [local simp] Go.Vm.wrap64
namespace Go.Proofs.YtabckmbjnjnegaaGreatDoor
set_option linter.all false
set_option maxRecDepth 100000
set_option maxHeartbeats 400000
section
open Go.Vm Go.Chs
def half{u v:Nat}:((u:Int)+(v:Int)).fdiv 2=((u+v) / 2:Nat):=by
 rw[Zg _ (by omega)]
 omega
variable{y:Int}
def Q1{x:Int}(h:x<y):Mx x y<0:=by unfold Mx;rw[aJ h];decide
def Q2{x:Int}(h:¬ x<y):¬ Mx x y<0:=by unfold Mx;rw[ax h];split<;>decide
def aBm{P B S:List Nat}{x y t:Nat}(hy:B[t]?=some y):((P++fT B x t S).set (P.length+t) y).set (P.length+t+1) x=P++fT B x (t+1) S:=by
 have ht:=(mK.1 hy).1;have d1:B.drop t=y::B.drop (t+1):=by rw[CG ht];congr 1;simpa [ht] using hy
 have t1:B.take (t+1)=B.take t++[y]:=by rw[uj,hy];rfl
 unfold fT;rw[d1,t1];have e1:P.length+t=(P++B.take t).length:=by simp;omega
 have s1:P++(B.take t++x::(y::B.drop (t+1)++S))=(P++B.take t)++x::y::(B.drop (t+1)++S):=by simp
 rw[s1,e1,wz _ _ (b8 _),pA,En,wz _ _ (by omega),show(P++B.take t).length+1-(P++B.take t).length=1 by omega]
 simp
def akO{P A S:List Nat}{y z t:Nat}(hz:A[t]?=some z):((P++fT A y (t+1) S).set (P.length+t+1) z).set (P.length+t) y=P++fT A y t S:=by
 have ht:=(mK.1 hz).1;have d1:A.drop t=z::A.drop (t+1):=by rw[CG ht];congr 1;simpa [ht] using hz
 have t1:A.take (t+1)=A.take t++[z]:=by rw[uj,hz];rfl
 unfold fT;rw[d1,t1];have e1:P.length+t=(P++A.take t).length:=by simp;omega
 have s1:P++(A.take t++[z]++y::(A.drop (t+1)++S))=(P++A.take t)++z::y::(A.drop (t+1)++S):=by simp
 rw[s1,e1,wz _ _ (by omega),show(P++A.take t).length+1-(P++A.take t).length=1 by omega,wz _ _ (by omega),pA]
 simp
variable{P B S:List Nat}{i:Nat}
def Q3(h1:P.length<=i)(h2:i<P.length+B.length):(P++B++S)[i]?=B[i-P.length]?:=by
 rw[ov,zT h1,nR (by omega)]
def Mz{P A S:List Nat}{x t:Nat}(ht:t<=A.length):(P++fT A x t S)[P.length+t]?=some x:=by
 rw[zT (by omega),show P.length+t-P.length=t by omega,aAX ht]
def akP{P A S:List Nat}{x y t:Nat}(hy:A[t]?=some y):(P++fT A x t S)[P.length+t+1]?=some y:=by
 have ht:=(mK.1 hy).1;rw[zT (by omega),show P.length+t+1-P.length=t+1 by omega]
 unfold fT;rw[zT (by simp;omega),show t+1-(A.take t).length=0+1 by simp;omega,CI,nR (by simp;omega),mJ,yA,hy]
def akQ{P A S:List Nat}{x z t:Nat}(hz:A[t]?=some z):(P++fT A x (t+1) S)[P.length+t]?=some z:=by
 have ht:=(mK.1 hz).1;rw[zT (by omega),show P.length+t-P.length=t by omega]
 unfold fT;rw[nR (by simp;omega),jP,aJ',hz]
variable{p:Nat}
def D7{rk:Nat->Int}(hB:B.Pairwise (Chs.Ord rk)){q y z:Nat}(hp:B[p]?=some y)(hq:B[q]?=some z)(h:p<=q):rk y<=rk z:=by
 by_cases e:p=q
 .subst e;rw[hp]at hq;cases hq;exact vk _
 .rcases Yy hB hp hq (by omega) with g | ⟨g,_⟩<;>omega
variable{l:List Cd}{N a m b x:Nat}
set_option maxHeartbeats 1000000 in
def aBn(GA GB GC:aM)(hN:N=(P++[x]++B++S).length)(oJ:N<=1000)(ha:a=P.length)(hm:m=P.length+1)(hb:b=P.length+1+B.length)
  (hx:x<l.length) (FY:∀y∈B,y<l.length) (hB:B.Pairwise (Chs.Ord (cZ l))) (vP:∀y∈B,x<y) :
  ∃R,pZ (cZ l) ([x]++B) R/\aX F 226 [.cO 4 1 N,i64 (a:Int),i64 (m:Int),i64 (b:Int),fO] [GA,GB,GC,.cells [dB l],.cells (nc (P++[x]++B++S))] =
   some (.tuple [],[GA,GB,GC,.cells [dB l],.cells (nc (P++R++S))]):=by
 suffices h:∀Q:V->List aM->Prop,(∀R,pZ (cZ l) ([x]++B) R->Q (.tuple []) [GA,GB,GC,.cells [dB l],.cells (nc (P++R++S))])->gz (aX F) 226 [.cO 4 1 N,i64 (a:Int),i64 (m:Int),i64 (b:Int),fO] [GA,GB,GC,.cells [dB l],.cells (nc (P++[x]++B++S))] Q by
  obtain⟨_,_,h,R,h1,rfl,rfl⟩:=h (λv G=>∃R,pZ (cZ l) ([x]++B) R/\v=.tuple []/\G=[GA,GB,GC,.cells [dB l],.cells (nc (P++R++S))]) λR h1=>⟨R,h1,rfl,rfl⟩;exact⟨R,h1,h⟩
 intro Q hQ;refine gN rfl rfl ?_;have e0:(m:Int)-a=1:=by omega
 have MA:N=P.length+1+B.length+S.length:=by rw[hN];simp;omega
 have MB:P++[x]++B++S=P++fT B x 0 S:=by simp[fT]
 rw[MB];simp (disch:=omega) [-getElem?_pos,uS,e0];refine go_loop (λq:Nat×Nat=>avB (.cO 4 1 N) a fO q.1 q.2 [GA,GB,GC,.cells [dB l],.cells (nc (P++fT B x 0 S))]) (λq=>m<=q.1/\q.1<=q.2/\q.2<=b/\(∀y,m<q.1->B[q.1-1-m]?=some y->cZ l y<cZ l x)/\(∀y,q.2<b->B[q.2-m]?=some y->cZ l x<=cZ l y)) (λq=>q.2-q.1) (m,b) rfl (by simp) ⟨by simp,by simp;omega,by simp,λy h=>by simp at h,λy h=>by simp at h⟩ ?_
 rintro⟨i,j⟩ ⟨h1,h2,h3,h4,h5⟩;simp only at h1 h2 h3 h4 h5;by_cases uT:i<j
 case neg =>
  obtain rfl:i=j:=by omega
  have hS:pZ (cZ l) ([x]++B) (B.take (i-m)++x::B.drop (i-m)):=by
   refine aA6 hB vP (λy hy=>?_) λy hy=>?_
   .obtain⟨k,hk⟩:=lN.1 hy
    rw[jP]at hk;split at hk
    .have hz:=eV (l:=B) (i:=i-1-m) (by omega)
     have g1:=h4 _ (by omega) hz
     have g2:=D7 hB hk hz (by omega)
     omega
    .cases hk
   .obtain⟨k,hk⟩:=lN.1 hy
    rw[mJ]at hk;have NG:=(mK.1 hk).1;have hz:=eV (l:=B) (i:=i-m) (by omega)
    have g1:=h5 _ (by omega) hz
    have g2:=D7 hB hz hk (by omega)
    omega
  have D8:P++fT B x (i-1-a) S=P++(B.take (i-m)++x::B.drop (i-m))++S:=by rw[show i-1-a=i-m by omega];simp[fT]
  have hQ:=hQ _ hS;rw[<-D8]at hQ;simp (disch:=omega) [-getElem?_pos,Px];refine go_loop (λk:Nat=>avD (.cO 4 1 N) i k [GA,GB,GC,.cells [dB l],.cells (nc (P++fT B x (k-a) S))]) (λk=>a<=k/\k+1<=i) (λk=>i-k) a rfl (by simp) ⟨by omega,by omega⟩ ?_
  rintro k ⟨k1,k2⟩;by_cases hk:k<i-1
  .obtain⟨y,hy⟩:∃y,B[k-a]?=some y:=⟨_,eV (by omega)⟩
   have c1:(nc (P++fT B x (k-a) S))[k]?=some (i64 (x:Int)):=sH (by have:=@Mz P B S x (k-a) (by omega);rwa [show P.length+(k-a)=k by omega]at this)
   have c2:(nc (P++fT B x (k-a) S))[k+1]?=some (i64 (y:Int)):=sH (by have:=@akP P B S x y (k-a) hy;rwa [show P.length+(k-a)+1=k+1 by omega]at this)
   have hs:=@aBm P B S x y (k-a) hy;rw[show P.length+(k-a)=k by omega,show k-a+1=k+1-a by omega]at hs
   have la:(P++fT B x (k-a) S).length=N:=by simp only[jQ,YA (show k-a<=B.length by omega)];omega
   have t1:(k:Int)<(i:Int)-1:=by omega
   have t2:k<N:=by omega
   have t3:k+1<N:=by omega
   have t4:k+1<=N:=by omega
   have t5:k+1+1<=N:=by omega
   have t6:((k:Int)+1).toNat=k+1:=by omega
   have t7:(k:Int)+1<N:=by omega
   have t8:(0:Int)<=(k:Int)+1:=by omega
   generalize hD:P++fT B x (k-a) S=Dk at *;simp (disch:=omega) [-getElem?_pos,Wl,t1,t2,t3,t4,t5,t6,t7,t8,c1,c2,My,hs,la];exact bB' (k+1) ⟨by omega,by omega⟩
  .obtain rfl:k=i-1:=by omega
   have t1:¬ ((i-1:Nat):Int)<(i:Int)-1:=by omega
   simp (disch:=omega) [-getElem?_pos,Wl,t1];exact hQ
 obtain⟨h,hh⟩:∃h,h=(i+j) / 2:=⟨_,rfl⟩;obtain⟨y,hy⟩:∃y,B[h-m]?=some y:=⟨_,eV (by omega)⟩
 have oR:=FY y (gw hy);have e1:IntKind.u64.wrap ((i:Int)+j)=(i:Int)+j:=L1 (by omega) (by omega)
 have e3:(2:Int) ^ (min 1 IntKind.u64.bits)=2:=rfl;have e4:((i:Int)+j).fdiv 2=(h:Nat):=by rw[half,hh]
 have c1:(nc (P++fT B x 0 S))[h]?=some (i64 (y:Int)):=sH (by
  have:=@akP P B S x y (h-m) hy;rw[<-MB,show P++[x]++B++S=(P++[x])++B++S by simp,Q3 (by simp;omega) (by simp;omega)]
  rw[<-hy];congr 1;simp;omega)
 have c2:(nc (P++fT B x 0 S))[a]?=some (i64 (x:Int)):=sH (by rw[ha];exact @Mz P B S x 0 (by omega))
 have hc:=Q0 (l:=l) (x:=y) (y:=x) oR hx GA GB GC (.cells (nc (P++fT B x 0 S)));have q1:h<N:=by omega
 have q2:a<N:=by omega
 by_cases hr:cZ l y<cZ l x
 .have tw:=Q1 hr
  simp (disch:=omega) [-getElem?_pos,Px,uT,e1,e3,e4,c1,c2,hc,q1,q2,tw];exact bB (h+1,j) (by simp) ⟨by simp;omega,by simp;omega,h3,λz _ hz=>by
   simp only[rW]at hz;rw[hy]at hz;cases hz;exact hr,h5⟩ (by simp;omega)
 .have tw:=Q2 hr
  simp (disch:=omega) [-getElem?_pos,Px,uT,e1,e3,e4,c1,c2,hc,q1,q2,tw];exact bB (i,h) (by simp) ⟨h1,by simp;omega,by simp;omega,h4,λz _ hz=>by
   simp only at hz;rw[hy]at hz;cases hz;omega⟩ (by simp;omega)
variable{A:List Nat}
set_option maxHeartbeats 1000000 in
def aBo{y:Nat}(GA GB GC:aM)(hN:N=(P++A++[y]++S).length)(oJ:N<=1000)(ha:a=P.length)(hm:m=P.length+A.length)(hb:b=P.length+A.length+1)(hA2:2<=A.length)
  (hy:y<l.length) (zU:∀x∈A,x<l.length) (hA:A.Pairwise (Chs.Ord (cZ l))) (vP:∀x∈A,x<y) :
  ∃R,pZ (cZ l) (A++[y]) R/\aX F 226 [.cO 4 1 N,i64 (a:Int),i64 (m:Int),i64 (b:Int),fO] [GA,GB,GC,.cells [dB l],.cells (nc (P++A++[y]++S))] =
   some (.tuple [],[GA,GB,GC,.cells [dB l],.cells (nc (P++R++S))]):=by
 suffices h:∀Q:V->List aM->Prop,(∀R,pZ (cZ l) (A++[y]) R->Q (.tuple []) [GA,GB,GC,.cells [dB l],.cells (nc (P++R++S))])->gz (aX F) 226 [.cO 4 1 N,i64 (a:Int),i64 (m:Int),i64 (b:Int),fO] [GA,GB,GC,.cells [dB l],.cells (nc (P++A++[y]++S))] Q by
  obtain⟨_,_,h,R,h1,rfl,rfl⟩:=h (λv G=>∃R,pZ (cZ l) (A++[y]) R/\v=.tuple []/\G=[GA,GB,GC,.cells [dB l],.cells (nc (P++R++S))]) λR h1=>⟨R,h1,rfl,rfl⟩;exact⟨R,h1,h⟩
 intro Q hQ;refine gN rfl rfl ?_;have e0:(((m:Int)-a)==1)=false:=tC.2 (by omega)
 have e9:(b:Int)-m=1:=by omega
 have MA:N=P.length+A.length+1+S.length:=by rw[hN];simp;omega
 have MB:P++A++[y]++S=P++fT A y A.length S:=by simp[fT]
 rw[MB];simp (disch:=omega) [-getElem?_pos,uS,e0,e9];refine go_loop (λq:Nat×Nat=>avF (.cO 4 1 N) m fO q.1 q.2 [GA,GB,GC,.cells [dB l],.cells (nc (P++fT A y A.length S))]) (λq=>a<=q.1/\q.1<=q.2/\q.2<=m/\(∀x,a<q.1->A[q.1-1-a]?=some x->cZ l x<=cZ l y)/\(∀x,q.2<m->A[q.2-a]?=some x->cZ l y<cZ l x)) (λq=>q.2-q.1) (a,m) rfl (by simp) ⟨by simp,by simp;omega,by simp,λy h=>by simp at h,λy h=>by simp at h⟩ ?_
 rintro⟨i,j⟩ ⟨h1,h2,h3,h4,h5⟩;simp only at h1 h2 h3 h4 h5;by_cases uT:i<j
 case neg =>
  obtain rfl:i=j:=by omega
  have hS:pZ (cZ l) (A++[y]) (A.take (i-a)++y::A.drop (i-a)):=by
   refine aA7 hA vP (λx hx=>?_) λx hx=>?_
   .obtain⟨k,hk⟩:=lN.1 hx
    rw[jP]at hk;split at hk
    .have hz:=eV (l:=A) (i:=i-1-a) (by omega)
     have g1:=h4 _ (by omega) hz
     have g2:=D7 hA hk hz (by omega)
     omega
    .cases hk
   .obtain⟨k,hk⟩:=lN.1 hx
    rw[mJ]at hk;have NG:=(mK.1 hk).1;have hz:=eV (l:=A) (i:=i-a) (by omega)
    have g1:=h5 _ (by omega) hz
    have g2:=D7 hA hz hk (by omega)
    omega
  have D8:P++fT A y (i-a) S=P++(A.take (i-a)++y::A.drop (i-a))++S:=by simp[fT]
  have hQ:=hQ _ hS;rw[<-D8]at hQ;simp (disch:=omega) [-getElem?_pos,Py];refine go_loop (λk:Nat=>avH (.cO 4 1 N) i k [GA,GB,GC,.cells [dB l],.cells (nc (P++fT A y (k-a) S))]) (λk=>i<=k/\k<=m) (λk=>k) m rfl (by simp;rw[show m-a=A.length by omega]) ⟨by omega,by omega⟩ ?_
  rintro k ⟨k1,k2⟩;by_cases hk:i<k
  .obtain⟨z,hz⟩:∃z,A[k-1-a]?=some z:=⟨_,eV (by omega)⟩
   have hs:=@akO P A S y z (k-1-a) hz;rw[show P.length+(k-1-a)+1=k by omega,show P.length+(k-1-a)=k-1 by omega,show k-1-a+1=k-a by omega]at hs
   have c1:(nc (P++fT A y (k-a) S))[k]?=some (i64 (y:Int)):=sH (by have:=@Mz P A S y (k-a) (by omega);rwa [show P.length+(k-a)=k by omega]at this)
   have c2:(nc (P++fT A y (k-a) S))[k-1]?=some (i64 (z:Int)):=sH (by have:=@akQ P A S y z (k-1-a) hz;rwa [show P.length+(k-1-a)=k-1 by omega,show k-1-a+1=k-a by omega]at this)
   have la:(P++fT A y (k-a) S).length=N:=by simp only[jQ,YA (show k-a<=A.length by omega)];omega
   have t2:k<N:=by omega
   have t4:k+1<=N:=by omega
   have t5:k<=N:=by omega
   have t6:((k:Int)-1).toNat=k-1:=by omega
   have t7:(k:Int)-1<N:=by omega
   have t8:(1:Int)<=(k:Int):=by omega
   have t9:k-1+1<=N:=by omega
   have ta:((k:Int)-1)=((k-1:Nat):Int):=by omega
   generalize hD:P++fT A y (k-a) S=Dk at *;simp (disch:=omega) [-getElem?_pos,Wm,hk,t2,t4,t5,t6,t7,t8,t9,c1,c2,My,hs,la];exact bB (k-1) (by simp[ta]) ⟨by omega,by omega⟩ (by omega)
  .obtain rfl:k=i:=by omega
   simp (disch:=omega) [-getElem?_pos,Wm];exact hQ
 obtain⟨h,hh⟩:∃h,h=(i+j) / 2:=⟨_,rfl⟩;obtain⟨x,hx⟩:∃x,A[h-a]?=some x:=⟨_,eV (by omega)⟩
 have tN:=zU x (gw hx);have e1:IntKind.u64.wrap ((i:Int)+j)=(i:Int)+j:=L1 (by omega) (by omega)
 have e3:(2:Int) ^ (min 1 IntKind.u64.bits)=2:=rfl;have e4:((i:Int)+j).fdiv 2=(h:Nat):=by rw[half,hh]
 have c1:(nc (P++fT A y A.length S))[h]?=some (i64 (x:Int)):=sH (by
  rw[<-MB,ov,Q3 (by omega) (by omega)]
  rw[<-hx];congr 1;omega)
 have c2:(nc (P++fT A y A.length S))[m]?=some (i64 (y:Int)):=sH (by rw[hm];exact Mz (b8 _))
 have hc:=Q0 (l:=l) (x:=y) (y:=x) hy tN GA GB GC (.cells (nc (P++fT A y A.length S)));have q1:h<N:=by omega
 have q2:m<N:=by omega
 by_cases hr:cZ l y<cZ l x
 .have tw:=Q1 hr
  simp (disch:=omega) [-getElem?_pos,Py,uT,e1,e3,e4,c1,c2,hc,q1,q2,tw];exact bB (i,h) (by simp) ⟨h1,by simp;omega,by simp;omega,h4,λz _ hz=>by
   simp only at hz;rw[hx]at hz;cases hz;exact hr⟩ (by simp;omega)
 .have tw:=Q2 hr
  simp (disch:=omega) [-getElem?_pos,Py,uT,e1,e3,e4,c1,c2,hc,q1,q2,tw];exact bB (h+1,j) (by simp) ⟨by simp;omega,by simp;omega,h3,λz _ hz=>by
   simp only[rW]at hz;rw[hx]at hz;cases hz;omega,h5⟩ (by simp;omega)
def tz:VC->VC
 |.seq _ b=>b
 |c=>c
def zV:VC:=tz (tz (tz (tz (tz (tz (tz (tz uS.body)))))))
structure Sub(l:List Cd)(N:Nat)(GA GB GC:aM)(a m b:Nat)(P A B S R:List Nat):Prop where
 c:0<A.length->0<B.length->aX F 226 [.cO 4 1 N,i64 (a:Int),i64 (m:Int),i64 (b:Int),fO] [GA,GB,GC,.cells [dB l],.cells (nc (P++A++B++S))] =
  some (.tuple [],[GA,GB,GC,.cells [dB l],.cells (nc (P++R++S))])
 e:A=[]\/B=[]->R=A++B
variable{n:Nat}
set_option maxHeartbeats 4000000 in
def aBq{mid e:Nat}(GA GB GC:aM){A1 A2 B1 B2 R1 R2:List Nat}(oJ:N<=1000)(hN:N=P.length+A1.length+A2.length+B1.length+B2.length+S.length)(ha:a=P.length)(hi:i=a+A1.length)(hm:m=i+A2.length)(JM:mid=i+B1.length)(he:e=m+B1.length)(hb:b=e+B2.length)(hn:n=mid+m)
  (h1:Sub l N GA GB GC a i mid P A1 B1 (A2++B2++S) R1) (h2:Sub l N GA GB GC mid e b (P++R1) A2 B2 S R2) {Q:V->List aM->Prop} (fin:Q (.tuple []) [GA,GB,GC,.cells [dB l],.cells (nc (P++(R1++R2)++S))]) :
  go (aX F) zV ⟨[(0,V.cO 4 1 N),(1,V.int .i64 a),(2,V.int .i64 m),(3,V.int .i64 b),(4,fO),(18,V.int .i64 mid),(19,V.int .i64 n),(20,V.int .i64 i),(21,V.int .i64 i),(22,V.int .i64 p),(151,V.bool false)],[],[],[GA,GB,GC,.cells [dB l],.cells (nc (P++A1++A2++B1++B2++S))]⟩ (xX [] Q):=by
 have w1:(n:Int)-i=(e:Nat):=by omega
 obtain⟨wx,eW⟩:=h1;obtain⟨kz,pe⟩:=h2;simp only[ov]at fin wx kz;by_cases b1:B1=[]
 .have eW:=eW (.inr b1)
  subst eW b1;have k4:¬ i<mid:=by simp at JM;omega
  have k2:¬ m<e:=by simp at he;omega
  clear wx
  simp only[vl,ov,vr]at fin kz;by_cases a2:A2=[]
  .have pe:=pe (.inl a2)
   subst pe a2;have k1:¬ i<m:=by simp at hm;omega
   have k5:¬ mid<e:=by simp at hm he;omega
   simp only[vr]at fin;simp +contextual (disch:=omega) [zV,tz,uS,w1,k1,k4,k5,fin]
  have z1:=nS.2 a2;have k1:i<m:=by omega
  have k5:mid<e:=by simp at he;omega
  by_cases b2:B2=[]
  .have pe:=pe (.inr b2)
   subst pe b2;have k6:¬ e<b:=by simp at hb;omega
   simp only[vl]at fin;simp +contextual (disch:=omega) [zV,tz,uS,w1,k1,k2,k4,k5,k6,fin]
  .have z2:=nS.2 b2
   have k6:e<b:=by omega
   have kz:=kz z1 z2;simp +contextual (disch:=omega) [zV,tz,uS,w1,k1,k2,k4,k5,k6,kz,fin]
 have y1:=nS.2 b1;have k4:i<mid:=by omega
 have k2:m<e:=by omega
 by_cases a2:A2=[]
 .have pe:=pe (.inl a2)
  subst pe a2;have k1:¬ i<m:=by simp at hm;omega
  have k5:¬ mid<e:=by simp at hm;omega
  simp only[vr]at fin wx;by_cases a1:A1=[]
  .have eW:=eW (.inl a1)
   subst eW a1;have k3:¬ a<i:=by simp at hi;omega
   simp only[vr]at fin;simp +contextual (disch:=omega) [zV,tz,uS,w1,k1,k3,k5,fin]
  .have z1:=nS.2 a1
   have k3:a<i:=by omega
   have wx:=wx z1 y1;simp +contextual (disch:=omega) [zV,tz,uS,w1,k1,k3,k4,k5,wx,fin]
 have y2:=nS.2 a2;have k1:i<m:=by omega
 have k5:mid<e:=by omega
 have D9:=aBl (N:=N) (a:=i) (m:=m) (b:=e) GA GB GC (.cells [dB l]) (P:=P++A1) (X:=A2) (Y:=B1) (S:=B2++S) (by rw[hN];simp;omega) oJ (by simp;omega) (by simp;omega) (by simp;omega) y2 y1
 simp only[ov]at D9;by_cases a1:A1=[]
 .have eW:=eW (.inl a1)
  subst eW a1;have k3:¬ a<i:=by simp at hi;omega
  simp only[vr,ov]at fin D9 kz
  clear wx
  by_cases b2:B2=[]
  .have pe:=pe (.inr b2)
   subst pe b2;have k6:¬ e<b:=by simp at hb;omega
   simp only[vl,vr]at fin D9;simp +contextual (disch:=omega) [zV,tz,uS,w1,k1,k2,k3,k5,k6,D9,fin]
  .have kz:=kz y2 (nS.2 b2)
   have z2:=nS.2 b2;have k6:e<b:=by omega
   simp +contextual (disch:=omega) [zV,tz,uS,w1,k1,k2,k3,k5,k6,D9,kz,fin]
 .have z1:=nS.2 a1
  have k3:a<i:=by omega
  have wx:=wx z1 y1;by_cases b2:B2=[]
  .have pe:=pe (.inr b2)
   subst pe b2;have k6:¬ e<b:=by simp at hb;omega
   simp only[vl,vr]at fin D9 wx;simp +contextual (disch:=omega) [zV,tz,uS,w1,k1,k2,k3,k4,k5,k6,D9,wx,fin]
  .have kz:=kz y2 (nS.2 b2)
   have z2:=nS.2 b2;have k6:e<b:=by omega
   simp +contextual (disch:=omega) [zV,tz,uS,w1,k1,k2,k3,k4,k5,k6,D9,wx,kz,fin]
set_option maxHeartbeats 8000000 in
def akR{l:List Cd}{N:Nat}(GA GB GC:aM)(oJ:N<=1000):∀(sz:Nat) {a m b:Nat} {P A B S:List Nat},A.length+B.length<=sz->N=(P++A++B++S).length->a=P.length->m=P.length+A.length->b=P.length+A.length+B.length->0<A.length->0<B.length ->
  (∀x∈A,x<l.length)->(∀x∈B,x<l.length)->A.Pairwise (Chs.Ord (cZ l))->B.Pairwise (Chs.Ord (cZ l))->(∀x∈A,∀y∈B,x<y) ->
  ∃R,pZ (cZ l) (A++B) R/\aX F 226 [.cO 4 1 N,i64 (a:Int),i64 (m:Int),i64 (b:Int),fO] [GA,GB,GC,.cells [dB l],.cells (nc (P++A++B++S))] =
   some (.tuple [],[GA,GB,GC,.cells [dB l],.cells (nc (P++R++S))])
 |0,a,m,b,P,A,B,S,hs,_,_,_,_,Iz,hB0,_,_,_,_,_=>by omega
 |sz+1,a,m,b,P,A,B,S,hs,hN,ha,hm,hb,Iz,hB0,zU,FY,hA,hB,vP=>by
  by_cases hA1:A.length=1
  .match A,hA1 with
   |[x],_=>exact aBn GA GB GC hN oJ ha hm hb (zU x (by simp)) FY hB (vP x (by simp))
  by_cases MC:B.length=1
  .match B,MC with
   |[y],_=>exact aBo GA GB GC hN oJ ha hm hb (by omega) (FY y (by simp)) zU hA λx hx=>vP x hx y (by simp)
  have ih:=λ{a m b:Nat} {P A B S:List Nat}=>akR (l:=l) (N:=N) GA GB GC oJ sz (a:=a) (m:=m) (b:=b) (P:=P) (A:=A) (B:=B) (S:=S)
  suffices h:∀Q:V->List aM->Prop,(∀R,pZ (cZ l) (A++B) R->Q (.tuple []) [GA,GB,GC,.cells [dB l],.cells (nc (P++R++S))])->gz (aX F) 226 [.cO 4 1 N,i64 (a:Int),i64 (m:Int),i64 (b:Int),fO] [GA,GB,GC,.cells [dB l],.cells (nc (P++A++B++S))] Q by
   obtain⟨_,_,h,R,h1,rfl,rfl⟩:=h (λv G=>∃R,pZ (cZ l) (A++B) R/\v=.tuple []/\G=[GA,GB,GC,.cells [dB l],.cells (nc (P++R++S))]) λR h1=>⟨R,h1,rfl,rfl⟩;exact⟨R,h1,h⟩
  intro Q hQ;refine gN rfl rfl ?_;have e0:(((m:Int)-a)==1)=false:=tC.2 (by omega)
  have e9:(((b:Int)-m)==1)=false:=tC.2 (by omega)
  have MA:N=P.length+A.length+B.length+S.length:=by rw[hN];simp;omega
  obtain⟨mid,JM⟩:∃mid,mid=(a+b) / 2:=⟨_,rfl⟩;have u1:IntKind.u64.wrap ((a:Int)+b)=(a:Int)+b:=L1 (by omega) (by omega)
  have u3:(2:Int) ^ (min 1 IntKind.u64.bits)=2:=rfl;have u4:((a:Int)+b).fdiv 2=(mid:Nat):=by rw[half,JM]
  obtain⟨n,hn⟩:∃n,n=mid+m:=⟨_,rfl⟩;have u5:(mid:Int)+m=(n:Nat):=by omega
  obtain⟨wj,r0,eI,I2⟩:∃wj r0,wj=(if mid<m then n-b else a)/\r0=(if mid<m then mid else m):=⟨_,_,rfl,rfl⟩
  obtain⟨D,hD⟩:∃D,D=P++A++B++S:=⟨_,rfl⟩;have I3:D.length=N:=by rw[hD,<- hN]
  rw[<-hD];have gA:∀{i x:Nat},A[i]?=some x->D[a+i]?=some x:=λ{i x} h=>by
   have:=(mK.1 h).1;rw[hD,show P++A++B++S=P++A++(B++S) by simp,Q3 (by omega) (by omega),<- h]
   congr 1;omega
  have gB:∀{i x:Nat},B[i]?=some x->D[m+i]?=some x:=λ{i x} h=>by
   have:=(mK.1 h).1;rw[hD,Q3 (by simp;omega) (by simp;omega),<- h]
   congr 1;simp;omega
  obtain⟨p,hp⟩:∃p,p=n-1:=⟨_,rfl⟩;have u6:(n:Int)-1=(p:Nat):=by omega
  have Q5:a<=wj/\wj<=r0/\r0<=m/\r0<=mid/\n<=wj+b/\(r0=m\/r0=mid)/\(wj=a\/wj+b=n):=by
   rw[eI,I2];split<;>omega
  rcases Decidable.em (mid<m) with uu|uu;rw[aJ uu]at eI I2;have u7:(n:Int)-b=(wj:Nat):=by omega
  simp +contextual (disch:=omega) [-getElem?_pos,-List.length_eq_zero_iff,-Int.natCast_eq_zero,uS,e0,e9,u1,u3,u4,u5,u6,u7,uu]
  rotate_left
  rw[ax uu]at eI I2;simp +contextual (disch:=omega) [-getElem?_pos,-List.length_eq_zero_iff,-Int.natCast_eq_zero,uS,e0,e9,u1,u3,u4,u5,u6,uu]
  all_goals
   change go _ _ _ (bk 8 (sq _ zV _));refine go_loop (λq:Nat×Nat=>avJ (.cO 4 1 N) a m b fO mid n q.1 q.2 p [GA,GB,GC,.cells [dB l],.cells (nc D)]) (λq=>wj<=q.1/\q.1<=q.2/\q.2<=r0/\(∀x y,wj<q.1->A[q.1-1-a]?=some x->B[mid-q.1]?=some y->cZ l x<=cZ l y)/\(∀x y,q.2<r0->A[q.2-a]?=some x->B[mid-1-q.2]?=some y->cZ l y<cZ l x)) (λq=>q.2-q.1) (wj,r0) rfl (by simp[eI,I2]) ⟨by simp,by simp;omega,by simp,λ_ _ h=>by simp at h,λ_ _ h=>by simp at h⟩ ?_
   rintro⟨i,j⟩ ⟨h1,h2,h3,h4,h5⟩;simp only at h1 h2 h3 h4 h5;by_cases uT:i<j
   case neg =>
    obtain rfl:i=j:=by omega
    obtain⟨A1,A2,rfl,hA1l⟩:∃A1 A2,A=A1++A2/\A1.length=i-a:=⟨A.take (i-a),A.drop (i-a),by simp,by simp;omega⟩
    obtain⟨B1,B2,rfl,hB1l⟩:∃B1 B2,B=B1++B2/\B1.length=mid-i:=⟨B.take (mid-i),B.drop (mid-i),by simp,by simp;omega⟩
    obtain⟨e,he⟩:∃e,e=n-i:=⟨_,rfl⟩;have w1:(n:Int)-i=(e:Nat):=by omega
    have hA':=hA;have hB':=hB;obtain⟨sA1,sA2,_⟩:=z8.1 hA';obtain⟨sB1,sB2,_⟩:=z8.1 hB';simp only[jQ]at hs hm hb Iz hB0 hA1 MC MA;have wi:∀x∈A2,∀y∈B1,cZ l y<cZ l x:=λx hx y hy=>by
     obtain⟨p1,B7⟩:=lN.1 hx;obtain⟨p2,Ia⟩:=lN.1 hy;have l1:=(mK.1 B7).1;have l2:=(mK.1 Ia).1;obtain⟨x0,xi⟩:∃x0,(A1++A2)[i-a]?=some x0:=⟨_,eV (by simp;omega)⟩
     obtain⟨y0,hy0⟩:∃y0,(B1++B2)[mid-1-i]?=some y0:=⟨_,eV (by simp;omega)⟩
     have g:=h5 x0 y0 (by omega) xi hy0
     have g1:=D7 hA xi (q:=A1.length+p1) (z:=x) (by rw[zT (by omega),Eo];exact B7) (by omega)
     have g2:=D7 hB (p:=p2) (y:=y) (by rw[nR l2];exact Ia) hy0 (by omega)
     omega
    have sn:∀x∈A1,∀y∈B2,cZ l x<=cZ l y:=λx hx y hy=>by
     obtain⟨p1,B7⟩:=lN.1 hx;obtain⟨p2,Ia⟩:=lN.1 hy;have l1:=(mK.1 B7).1;have l2:=(mK.1 Ia).1;obtain⟨x0,xi⟩:∃x0,(A1++A2)[i-1-a]?=some x0:=⟨_,eV (by simp;omega)⟩
     obtain⟨y0,hy0⟩:∃y0,(B1++B2)[mid-i]?=some y0:=⟨_,eV (by simp;omega)⟩
     have g:=h4 x0 y0 (by omega) xi hy0
     have g1:=D7 hA (p:=p1) (y:=x) (by rw[nR l1];exact B7) xi (by omega)
     have g2:=D7 hB hy0 (q:=B1.length+p2) (z:=y) (by rw[zT (by omega),Eo];exact Ia) (by omega)
     omega
    have r1:∃R1,pZ (cZ l) (A1++B1) R1/\Sub l N GA GB GC a i mid P A1 B1 (A2++B2++S) R1:=by
     by_cases q1:A1=[]
     .subst q1;exact⟨B1,akK sB1,λh=>by simp at h,λ_=>rfl⟩
     by_cases q2:B1=[]
     .subst q2;exact⟨A1,akJ sA1,λ_ h=>by simp at h,λ_=>by simp⟩
     have z1:=nS.2 q1;have z2:=nS.2 q2;obtain⟨R,g1,g2⟩:=ih (a:=a) (m:=i) (b:=mid) (P:=P) (A:=A1) (B:=B1) (S:=A2++B2++S) (by omega) (by rw[MA];simp;omega) ha (by omega) (by omega) z1 z2 (λx hx=>zU x (by simp[hx])) (λx hx=>FY x (by simp[hx])) sA1 sB1 λx hx y hy=>vP x (by simp[hx]) y (by simp[hy])
     exact⟨R,g1,λ_ _=>g2,λh=>by simp[q1,q2]at h⟩
    obtain⟨R1,hS1,wx⟩:=r1;have pL:=hS1.n;simp only[jQ]at pL;have r2:∃R2,pZ (cZ l) (A2++B2) R2/\Sub l N GA GB GC mid e b (P++R1) A2 B2 S R2:=by
     by_cases q1:A2=[]
     .subst q1;exact⟨B2,akK sB2,λh=>by simp at h,λ_=>rfl⟩
     by_cases q2:B2=[]
     .subst q2;exact⟨A2,akJ sA2,λ_ h=>by simp at h,λ_=>by simp⟩
     have z1:=nS.2 q1;have z2:=nS.2 q2;obtain⟨R,g1,g2⟩:=ih (a:=mid) (m:=e) (b:=b) (P:=P++R1) (A:=A2) (B:=B2) (S:=S) (by omega) (by rw[MA];simp;omega) (by simp;omega) (by simp;omega) (by simp;omega) z1 z2 (λx hx=>zU x (by simp[hx])) (λx hx=>FY x (by simp[hx])) sA2 sB2 λx hx y hy=>vP x (by simp[hx]) y (by simp[hy])
     exact⟨R,g1,λ_ _=>g2,λh=>by simp[q1,q2]at h⟩
    obtain⟨R2,hS2,kz⟩:=r2;have fin:=hQ _ (aA8 hA hB vP wi sn hS1 hS2);have hD':D=P++A1++A2++B1++B2++S:=by rw[hD];simp
    have hp9:=aBq GA GB GC (p:=p) oJ (by omega) ha (by omega) (by omega) (by omega) (by omega) (by omega) hn wx kz fin
    rw[<-hD']at hp9;simp +contextual (disch:=omega) [-getElem?_pos,-List.length_eq_zero_iff,-Int.natCast_eq_zero,Pz];exact hp9
   obtain⟨h,hh⟩:∃h,h=(i+j) / 2:=⟨_,rfl⟩;obtain⟨x,hx⟩:∃x,A[h-a]?=some x:=⟨_,eV (by omega)⟩
   obtain⟨y,hy⟩:∃y,B[mid-1-h]?=some y:=⟨_,eV (by omega)⟩
   have tN:=zU x (gw hx);have oR:=FY y (gw hy);have v1:IntKind.u64.wrap ((i:Int)+j)=(i:Int)+j:=L1 (by omega) (by omega)
   have v4:((i:Int)+j).fdiv 2=(h:Nat):=by rw[half,hh]
   have c1:(nc D)[h]?=some (i64 (x:Int)):=sH (by have:=gA hx;rwa [show a+(h-a)=h by omega]at this)
   have c2:(nc D)[p-h]?=some (i64 (y:Int)):=sH (by have:=gB hy;rwa [show m+(mid-1-h)=p-h by omega]at this)
   have v5:(p:Int)-h=(p-h:Nat):=by omega
   have hc:=Q0 (l:=l) (x:=y) (y:=x) oR tN GA GB GC (.cells (nc D));have q1:h<N:=by omega
   have q2:p-h<N:=by omega
   by_cases hr:cZ l y<cZ l x
   .have tw:=Q1 hr
    simp +contextual (disch:=omega) [-getElem?_pos,-List.length_eq_zero_iff,-Int.natCast_eq_zero,Pz,uT,v1,u3,v4,v5,c1,c2,hc,q1,q2,tw];exact bB (i,h) (by simp) ⟨h1,by simp;omega,by simp;omega,h4,λz w _ hz hw=>by
     simp only at hz hw;rw[hx]at hz;rw[hy]at hw;cases hz;cases hw;exact hr⟩ (by simp;omega)
   .have tw:=Q2 hr
    simp +contextual (disch:=omega) [-getElem?_pos,-List.length_eq_zero_iff,-Int.natCast_eq_zero,Pz,uT,v1,u3,v4,v5,c1,c2,hc,q1,q2,tw];exact bB (h+1,j) (by simp) ⟨by simp;omega,by simp;omega,h3,λz w _ hz hw=>by
     simp only[rW]at hz hw;rw[show mid-(h+1)=mid-1-h by omega]at hw
     rw[hx]at hz;rw[hy]at hw;cases hz;cases hw;omega,h5⟩ (by simp;omega)
variable{lo:Nat}
def aBy{rk:Nat->Int}:iN rk lo (n+1)=qH rk (lo+n) (iN rk lo n):=by
 unfold iN;rw[ZA,QX];simp
set_option maxHeartbeats 1000000 in
def ak3(GA GB GC:aM)(hP:P.length=a)(tU:a<=b)(xa:b<=l.length)(hN:N=b+S.length)(oJ:N<=1000) :
  aX F 225 [.cO 4 1 N,i64 (a:Int),i64 (b:Int),fO] [GA,GB,GC,.cells [dB l],.cells (nc (P++List.range' a (b-a)++S))] =
   some (.tuple [],[GA,GB,GC,.cells [dB l],.cells (nc (P++iN (cZ l) a (b-a)++S))]) :=
 bD rfl rfl (by
  by_cases h0:b<=a+1
  .have e0:iN (cZ l) a (b-a)=List.range' a (b-a):=by
    rcases (by omega:b-a=0\/b-a=1) with h|h<;>rw[h]<;>rfl
   rw[e0];have h1:¬ (a:Int)+1<b:=by omega
   simp (disch:=omega) [Wk];rw[agR,AB];simp (disch:=omega) [Wj,h1]
  have e1:(a:Int)+1=((a+1:Nat):Int):=by omega
  obtain⟨Dn,hDn⟩:∃Dn:Nat->List Nat,∀i,Dn i=P++iN (cZ l) a (i-a)++List.range' i (b-i)++S:=⟨_,λ_=>rfl⟩;have iD:P++List.range' a (b-a)++S=Dn (a+1):=by
   rw[hDn,show a+1-a=1 by omega,show b-a=(b-(a+1))+1 by omega,El]
   show P++a::_++S=P++[a]++_++S;simp
  have hdb:P++iN (cZ l) a (b-a)++S=Dn b:=by rw[hDn];simp
  rw[iD,hdb];simp (disch:=omega) [Wk];refine go_loop (λi:Nat=>avz (.cO 4 1 N) a b fO i [GA,GB,GC,.cells [dB l],.cells (nc (Dn i))]) (λi=>a+1<=i/\i<=b) (λi=>b-i) (a+1) rfl (by simp) ⟨by omega,by omega⟩ ?_
  rintro i ⟨h1,hi⟩;simp (disch:=omega) [Wj];refine bO (λh=>?_) (λh=>?_)
  case refine_2 =>
   obtain rfl:i=b:=by omega
   rfl
  have h:i<b:=by omega
  obtain⟨O,hO⟩:∃O,O=iN (cZ l) a (i-a):=⟨_,rfl⟩;obtain⟨Q6,hOm,F3⟩:=xh (rk:=cZ l) (lo:=a) (i-a);rw[<-hO]at Q6 hOm F3;obtain⟨R,hR⟩:∃R,R=List.range' (i+1) (b-(i+1))++S:=⟨_,rfl⟩;have eI:Dn i=P++fT O i (i-a) R:=by
   rw[hDn,<- hO,hR,show b-i=(b-(i+1))+1 by omega,El]
   unfold fT;rw[kD (by omega),Jj (by omega)]
   simp
  rw[eI];refine go_loop (λj:Nat=>avy (.cO 4 1 N) a b fO i j [GA,GB,GC,.cells [dB l],.cells (nc (P++fT O i (j-a) R))]) (λj=>a<=j/\j<=i/\∀k y,j-a<=k->O[k]?=some y->cZ l i<cZ l y) (λj=>j) i rfl (by simp) ⟨by omega,by omega,λk y hk hy=>by rw[kW (by omega)]at hy;cases hy⟩ ?_
  rintro j ⟨hja,hj,hp⟩;have D8:∀(h2:∀y,0<j-a->O[j-a-1]?=some y->¬ cZ l i<cZ l y),P++fT O i (j-a) R=Dn (i+1):=λh2=>by
   rw[hDn,show i+1-a=(i-a)+1 by omega,aBy,show a+(i-a)=i by omega,<- hO,akB Q6 (by omega) hp h2,hR]
   simp[fT]
  by_cases hj0:j=a
  .have hf:=D8 (λy hy=>by omega)
   have k1:¬ a<j:=by omega
   rw[hf];simp (disch:=omega) [Pw,k1];exact bB' (i+1) ⟨by omega,by omega⟩
  obtain⟨y,hy⟩:∃y,O[j-a-1]?=some y:=⟨_,eV (by omega)⟩
  have oR:y<l.length:=by have:=(hOm y).1 (gw hy);omega
  have c1:(nc (P++fT O i (j-a) R))[j]?=some (i64 (i:Int)):=sH (by have:=@Mz P O R i (j-a) (by omega);rwa [show P.length+(j-a)=j by omega]at this)
  have hsw:=@akO P O R i y (j-a-1) hy;have c2:(nc (P++fT O i (j-a) R))[j-1]?=some (i64 (y:Int)):=sH (by have:=@akQ P O R i y (j-a-1) hy;rwa [show P.length+(j-a-1)=j-1 by omega,show j-a-1+1=j-a by omega]at this)
  rw[show P.length+(j-a-1)+1=j by omega,show P.length+(j-a-1)=j-1 by omega,show j-a-1+1=j-a by omega]at hsw
  have aBA:(P++fT O i (j-a) R).length=N:=by rw[jQ,YA (by omega),hR];simp;omega
  have hjp:a<j:=by omega
  have BG:j<N:=by omega
  have t5:j+1<=N:=by omega
  have t6:j<=N:=by omega
  have t3:(j:Int)-1<N:=by omega
  have t4:(1:Int)<=(j:Int):=by omega
  have t1:((j:Int)-1).toNat=j-1:=by omega
  have t2:((j:Int)-1)=((j-1:Nat):Int):=by omega
  have t7:j-1+1<=N:=by omega
  have hc:=Q0 (l:=l) (x:=i) (y:=y) (by omega) oR GA GB GC (.cells (nc (P++fT O i (j-a) R)))
  by_cases hr:cZ l i<cZ l y
  .have tw:=Q1 hr
   generalize hD:P++fT O i (j-a) R=Dk at *;simp (disch:=omega) [Pw,hjp,BG,t3,t4,c1,c2,t1,hc,tw,My,hsw,aBA,t5,t6,t7];exact bB (j-1) (by simp[t2,show j-1-a=j-a-1 by omega]) ⟨by omega,by omega,λk z hk hz=>by
    by_cases e:k=j-a-1
    .subst e;rw[hy]at hz;cases hz;exact hr
    .exact hp k z (by omega) hz⟩ (by omega)
  .have tw:=Q2 hr
   rw[D8 (λz _ hz=>by rw[hy]at hz;cases hz;exact hr)]at *
   simp (disch:=omega) [Pw,hjp,BG,t3,t4,c1,c2,t1,hc,tw];exact bB' (i+1) ⟨by omega,by omega⟩)
def sI(rk:Nat->Int)(bs lo rem:Nat):List Nat:=if h:rem<=bs\/bs=0 then iN rk lo rem else iN rk lo bs++sI rk bs (lo+bs) (rem-bs)
termination_by rem
decreasing_by omega
def aBB{rk:Nat->Int}:iN rk lo 0=[]:=rfl
variable{rem:Nat}
def F4{rk:Nat->Int}{bs:Nat}(h:rem<=bs):sI rk bs lo rem=iN rk lo rem:=by rw[sI,dif_pos (.inl h)]
def MD{rk:Nat->Int}{bs:Nat}(h0:0<bs)(h:bs<=rem):sI rk bs lo rem=iN rk lo bs++sI rk bs (lo+bs) (rem-bs):=by
 by_cases e:rem=bs
 .subst e
  rw[F4 (b8 _),pA,F4 (by omega),aBB,vl]
 .rw[sI,dif_neg (by omega)]
def ME{rk:Nat->Int}:(iN rk lo n).length=n:=(xh n).2.2
def aBC{rk:Nat->Int}{bs:Nat}(h0:0<bs):∀(rem lo:Nat),(sI rk bs lo rem).length=rem:=λrem=>by
 induction rem using Nat.strongRecOn with
 |ind rem ih =>
  intro lo;by_cases h:rem<=bs
  .rw[F4 h,ME]
  .rw[MD h0 (by omega),jQ,ME,ih (rem-bs) (by omega)]
   omega
structure F5(rk:Nat->Int)(bs n a:Nat)(X:List Nat):Prop where
 l:X.length=a
 e:X++sI rk bs a (n-a)=sI rk bs 0 n
variable{X:List Nat}
def F5.next{rk:Nat->Int}{bs:Nat}(h:F5 rk bs n a X)(h0:0<bs)(h1:a+bs<=n):F5 rk bs n (a+bs) (X++iN rk a bs) :=
 ⟨by rw[jQ,h.l,ME],by rw[<-h.e,MD (lo:=a) (rem:=n-a) h0 (by omega),ov,show n-a-bs=n-(a+bs) by omega]⟩
def F5.last{rk:Nat->Int}{bs:Nat}(h:F5 rk bs n a X)(h1:n<=a+bs):X++iN rk a (n-a)=sI rk bs 0 n:=by rw[<-h.e,F4 (by omega)]
def ak7(GA GB GC:aM)(hX:X.length=a)(h1:a<m)(h2:m<b)(xa:b<=l.length)(hN:N=b+S.length)(oJ:N<=1000) :
  aX F 226 [.cO 4 1 N,i64 (a:Int),i64 (m:Int),i64 (b:Int),fO] [GA,GB,GC,.cells [dB l],.cells (nc (X++iN (cZ l) a (m-a)++iN (cZ l) m (b-m)++S))] =
   some (.tuple [],[GA,GB,GC,.cells [dB l],.cells (nc (X++iN (cZ l) a (b-a)++S))]):=by
 have l1:=ME (rk:=cZ l) (lo:=a) (n:=m-a);have l2:=ME (rk:=cZ l) (lo:=m) (n:=b-m);obtain⟨R,g1,g2⟩:=akR (l:=l) (N:=N) GA GB GC oJ _ (a:=a) (m:=m) (b:=b) (P:=X) (A:=iN (cZ l) a (m-a)) (B:=iN (cZ l) m (b-m)) (S:=S) (b8 _) (by simp only[jQ,l1,l2,hX];omega) hX.symm (by omega) (by omega) (by omega) (by omega)
  (λx hx=>by have:=((xh _).2.1 x).1 hx;omega) (λx hx=>by have:=((xh _).2.1 x).1 hx;omega) (xh _).1 (xh _).1 (λx hx y hy=>by
   have:=((xh _).2.1 x).1 hx;have:=((xh _).2.1 y).1 hy;omega)
 have e:R=iN (cZ l) a (b-a):=by
  have:=@aBb (cZ l) a (m-a) (b-m) R (by rw[show a+(m-a)=m by omega];exact g1)
  rw[this];congr 1;omega
 rw[<-e];exact g2
set_option maxHeartbeats 2000000 in
def aBD(hn:n=l.length)(YD:n<=200)(A B C:aM) :
  aX F 217 [.cO 4 1 n,i64 (n:Int),fO] [A,B,C,.cells [dB l],.cells (nc (List.range n))]=some (.tuple [],[A,B,C,.cells [dB l],.cells (nc (iM (cZ l) (List.range n)))]) :=
 bD rfl rfl (by
  have I2:List.range n=[]++List.range' 0 (n-0):=by rw[Em];simp
  rw[<-aBc,I2];simp (disch:=omega) [agH];refine go_loop (λp:Nat×List Nat=>avk (.cO 4 1 n) n fO 20 p.1 ((p.1+20:Nat):Int) [A,B,C,.cells [dB l],.cells (nc (p.2++List.range' p.1 (n-p.1)))]) (λp=>F5 (cZ l) 20 n p.1 p.2/\p.1<=n) (λp=>n-p.1) (0,[]) rfl (by simp) ⟨⟨rfl,rfl⟩,by simp⟩ ?_
  rintro⟨a,X⟩ ⟨hU,ha⟩;simp only at hU ha;by_cases hb:a+20<=n
  .have h1:=ak3 (l:=l) (N:=n) (a:=a) (b:=a+20) A B C (P:=X) (S:=List.range' (a+20) (n-(a+20))) hU.l (by omega) (by omega) (by simp;omega) (by omega)
   have e1:X++List.range' a (a+20-a)++List.range' (a+20) (n-(a+20))=X++List.range' a (n-a):=by
    rw[ov,Eo,show n-a=20+(n-(a+20)) by omega]
    congr 1;exact List.range'_append_1
   rw[e1,Eo]at h1;have YE:=hU.next (by omega) hb
   have kZ:(a:Int)+20<=n:=by omega
   have e2:((a+20:Nat):Int)=(a:Int)+20:=by omega
   rw[e2]at h1;simp (disch:=omega) [Wh,kZ,h1];exact bB (a+20,X++iN (cZ l) a 20) (by simp) ⟨YE,hb⟩ (by simp;omega)
  have kZ:¬ (a:Int)+20<=n:=by omega
  have h1:=ak3 (l:=l) (N:=n) (a:=a) (b:=n) A B C (P:=X) (S:=[]) hU.l ha (by omega) (by simp) (by omega)
  simp only[vl]at h1;rw[hU.last (by omega)]at h1
  simp (disch:=omega) [Wh,kZ,h1]
  clear h1 hU hb kZ ha X a
  refine go_loop (λbs:Nat=>avo (.cO 4 1 n) n fO bs [A,B,C,.cells [dB l],.cells (nc (sI (cZ l) bs 0 n))]) (λbs=>20<=bs/\bs<=400) (λbs=>400-bs) 20 rfl (by simp) ⟨by omega,by omega⟩ ?_
  rintro bs ⟨b1,b2⟩;simp (disch:=omega) [agG];refine bO (λh=>?_) (λh=>?_)
  case refine_2 =>
   rw[F4 (by omega)]
  have h:bs<n:=by omega
  refine go_loop (λp:Nat×List Nat=>avm (.cO 4 1 n) n fO bs p.1 ((p.1+2*bs:Nat):Int) [A,B,C,.cells [dB l],.cells (nc (p.2++sI (cZ l) bs p.1 (n-p.1)))]) (λp=>F5 (cZ l) (2*bs) n p.1 p.2/\p.1<=n) (λp=>n-p.1) (0,[]) rfl (by simp) ⟨⟨rfl,rfl⟩,by simp⟩ ?_
  rintro⟨a,X⟩ ⟨hU,ha⟩;simp only at hU ha;by_cases hb:a+2*bs<=n
  .have h1:=ak7 (l:=l) (N:=n) (a:=a) (m:=a+bs) (b:=a+2*bs) A B C (X:=X) (S:=sI (cZ l) bs (a+2*bs) (n-(a+2*bs))) hU.l (by omega) (by omega) (by omega) (by rw[aBC (by omega)];omega) (by omega)
   have e1:X++iN (cZ l) a (a+bs-a)++iN (cZ l) (a+bs) (a+2*bs-(a+bs))++sI (cZ l) bs (a+2*bs) (n-(a+2*bs))=X++sI (cZ l) bs a (n-a):=by
    rw[MD (rem:=n-a) (by omega) (by omega),MD (lo:=a+bs) (by omega) (by omega),show a+bs-a=bs by omega,show a+2*bs-(a+bs)=bs by omega,show a+bs+bs=a+2*bs by omega,show n-a-bs-bs=n-(a+2*bs) by omega]
    simp
   rw[e1,Eo]at h1;have YE:=hU.next (by omega) hb
   have e2:((a+2*bs:Nat):Int)=(a:Int)+2*bs:=by omega
   have e3:((a+bs:Nat):Int)=(a:Int)+bs:=by omega
   rw[e2,e3]at h1;have kZ:(a:Int)+2*bs<=n:=by omega
   simp (disch:=omega) [Pu,kZ,h1];exact bB (a+2*bs,X++iN (cZ l) a (2*bs)) (by simp) ⟨YE,hb⟩ (by simp;omega)
  have kZ:¬ (a:Int)+2*bs<=n:=by omega
  by_cases hm:a+bs<n
  .have h1:=ak7 (l:=l) (N:=n) (a:=a) (m:=a+bs) (b:=n) A B C (X:=X) (S:=[]) hU.l (by omega) (by omega) (by omega) (by simp) (by omega)
   have e1:X++iN (cZ l) a (a+bs-a)++iN (cZ l) (a+bs) (n-(a+bs))++[]=X++sI (cZ l) bs a (n-a):=by
    rw[MD (rem:=n-a) (by omega) (by omega),F4 (lo:=a+bs) (by omega),show a+bs-a=bs by omega,show n-a-bs=n-(a+bs) by omega]
    simp
   rw[e1,vl,hU.last (by omega)]at h1
   have e3:((a+bs:Nat):Int)=(a:Int)+bs:=by omega
   rw[e3]at h1;have qu:(a:Int)+bs<n:=by omega
   simp (disch:=omega) [Pu,kZ,qu,h1];exact bB (2*bs) (by simp;omega) ⟨by omega,by omega⟩ (by omega)
  .have qu:¬ (a:Int)+bs<n:=by omega
   have e1:X++sI (cZ l) bs a (n-a)=sI (cZ l) (2*bs) 0 n:=by rw[F4 (by omega),hU.last (by omega)]
   rw[e1];simp (disch:=omega) [Pu,kZ,qu];exact bB (2*bs) (by simp;omega) ⟨by omega,by omega⟩ (by omega))
def aBE(hn:n=l.length)(rH:n<=200)(A B C:aM) :
  aX F 205 [.cO 4 1 n,.fn 206 [.bu 3 0]] [A,B,C,.cells [dB l],.cells (nc (List.range n))]=some (.tuple [],[A,B,C,.cells [dB l],.cells (nc (iM (cZ l) (List.range n)))]):=by
 have h1:=aBD hn rH A B C;exact bD rfl rfl (by simp[agw,h1])
def aBF{l:List Nat}:(l.map ((λn=>[V.int .i64 n])∘λk:Nat=>(k:Int))).flatten=nc l:=by rw[<-List.map_map];exact aA5
def aBG(rH:l.length<=200)(A B C:aM) :
  aX F 177 [dB l] [A,B,C]=some (.cO 4 1 l.length,[A,B,C,.cells [dB l],.cells (nc (iM (cZ l) (List.range l.length)))]) :=
 bD rfl rfl (by
  have h1:=aBE (l:=l) rfl rH A B C;simp (disch:=omega) [af7];refine go_loop (λi:Nat=>auO (.bu 3 0) i l.length i (nc (List.range i)) [A,B,C,.cells [dB l]]) (λi=>i<=l.length) (λi=>l.length-i) 0 rfl (by simp[QZ]) (by omega) ?_
  rintro i hi;simp (disch:=omega) [af6];refine bO (λh=>?_) (λh=>?_)
  .have h:i<l.length:=by omega
   have h':(i:Nat)<=4294967295:=by omega
   simp (disch:=omega) [aA3,h'];exact bB' (i+1)
  .obtain rfl:i=l.length:=by omega
   simp (disch:=omega) [aA4 (l:=List.range l.length) (n:=l.length) (by simp),aBF,h1])
def Cu(l:List Cd)(day level:Int)(fl:List Int):Int:=if oP l≠0 then oP l else if (fP day 364&&fP level 16777216&&fl.all λn=>fP n 1073741824)=true then 0 else 1
def YF(l:List Cd)(day level:Int)(fl:List Int)(hf:fl.length<=1000)(G:List aM):aX F 133 [dB l,i64 day,i64 level,ints fl] G=some (i64 (Cu l day level fl),G) :=
 bD rfl rfl (by
  generalize hW:Cu l day level fl=W;unfold Cu at hW;have w0:=akt l;have w1:=QV day;have w2:=FU level 16777216;have w3:=λG=>Qn fl hf (λn => !fP n 1073741824) 175 G λn=>bD rfl rfl (by simp[af4,FU])
  by_cases h0:oP l=0
  case neg =>
   rw[aJ h0]at hW;have MF:(oP l != 0)=true:=by simpa using h0
   simp[HX,w0,MF];exact hW
  rw[ax (λg=>g h0)]at hW;cases e1:fP day 364<;>rw[e1]at w1 hW
  .rw[ax (by simp)]at hW
   simp[HX,w0,h0,w1];exact hW
  cases e2:fP level 16777216<;>rw[e2]at w2 hW
  .rw[ax (by simp)]at hW
   simp[HX,w0,h0,w1,w2];exact hW
  have e4:(fl.any λn => !fP n 1073741824) = !(fl.all λn=>fP n 1073741824):=by rw[List.not_all_eq_any_not]
  rw[e4]at w3;cases e3:(fl.all λn=>fP n 1073741824)<;>rw[e3]at w3 hW
  .rw[ax (by simp)]at hW
   simp[HX,w0,h0,w1,w2,w3];exact hW
  .rw[aJ (by simp)]at hW
   simp[HX,w0,h0,w1,w2,w3];exact hW)
abbrev aG(l:List Cd)(day level:Int)(O:List Nat):List aM:=[.cells [dB l],.cells [i64 day],.cells [i64 level],.cells [dB l],.cells (nc O)]
abbrev Cy:V:=.fn 178 [.bu 0 0,.bu 1 0,.bu 2 0]
def p7(l:List Cd)(day level:Int)(x:Nat):Bool:=D5 (nth l x) day level
def ak8(hx:x<l.length)(day level:Int)(D E:aM) :
  aX F 178 [i64 (x:Int),.bu 0 0,.bu 1 0,.bu 2 0] [.cells [dB l],.cells [i64 day],.cells [i64 level],D,E]=some (.bool (!p7 l day level x),[.cells [dB l],.cells [i64 day],.cells [i64 level],D,E]) :=
 bD rfl rfl (by simp (disch:=omega) [-getElem?_pos,af8,bc (l:=l),aAI,p7])
variable{level:Int}{O:List Nat}
def aBH{day:Int}{r:Nat}(hn:O.length=n)(YD:n<=200)(hO:∀x∈O,x<l.length)(hr:r<=n)
  (h1:∀k v,k<r->O[k]?=some v->p7 l day level v=true) (h2:∀v,O[r]?=some v->p7 l day level v=false) :
  aX F 1000065 [.cO 4 1 n,Cy] (aG l day level O)=some (i64 (if r=n then -1 else r),aG l day level O) :=
 bD rfl rfl (by
  simp (disch:=omega) [ahn];refine go_loop (λi:Nat=>aws (.cO 4 1 n) Cy n i (aG l day level O)) (λi=>i<=r) (λi=>r-i) 0 rfl (by simp) (by omega) ?_
  rintro i hi;simp (disch:=omega) [ahm];refine bO (λh=>?_) (λh=>?_)
  .have h:i<n:=by omega
   have hv:=eV (l:=O) (i:=i) (by omega)
   have hc:=ak8 (hO O[i] (Jm _)) day level (.cells [dB l]) (.cells (nc O));have c1:=sH hv;by_cases e:i=r
   .subst e
    rw[h2 _ hv]at hc;have e2:¬ i=n:=by omega
    simp (disch:=omega) [Cy,aG,c1,hc,e2,h]
   .rw[h1 i _ (by omega) hv]at hc
    simp (disch:=omega) [Cy,aG,c1,hc,h];exact bB' (i+1)
  .obtain rfl:r=n:=by omega
   simp)
def xj(l:List Cd)(day level:Int)(O:List Nat):List Nat:=O.filter (p7 l day level)++List.replicate (O.length-(O.filter (p7 l day level)).length) 0
def ak9{L:List Nat}(h:i+m=L.length):jE (nc L) i (List.replicate m (i64 0))=nc (L.take i++List.replicate m 0):=by
 rw[TV _ _ _ (by simp[h]),Zk (by simp[h])]
 simp[nc,dM,RX]
def aBI{day:Int}(hn:O.length=n)(YD:n<=200)(hO:∀x∈O,x<l.length) :
  aX F 176 [.cO 4 1 n,Cy] (aG l day level O)=some (.cO 4 1 (O.filter (p7 l day level)).length,aG l day level (xj l day level O)) :=
 bD rfl rfl (by
  obtain⟨r,hr⟩:∃r,r=O.findIdx (λv => !p7 l day level v):=⟨_,rfl⟩;have hrn:r<=n:=by rw[hr,<- hn];exact RT
  have h1:∀k v,k<r->O[k]?=some v->p7 l day level v=true:=λk v hk hv=>by
   have:=Zy (hr ▸ hk);obtain⟨g,rfl⟩:=mK.1 hv;simpa using this
  have h2:∀v,O[r]?=some v->p7 l day level v=false:=λv hv=>by
   obtain⟨g,e⟩:=mK.1 hv;have:=Zp (p:=λv => !p7 l day level v) (xs:=O) (w:=hr ▸ g);subst hr;rw[e]at this;simpa using this
  have w1:=aBH hn YD hO hrn h1 h2;by_cases hf:r=n
  .rw[aJ hf]at w1
   have e:O.filter (p7 l day level)=O:=Gm.2 λv hv=>by
    obtain⟨k,hk⟩:=lN.1 hv;have:=(mK.1 hk).1;exact h1 k v (by omega) hk
   have e2:xj l day level O=O:=by simp[xj,e]
   rw[e,e2,hn];simp (disch:=omega) [-Int.natCast_eq_zero,V8,w1]
  rw[ax hf]at w1;have cy:((r:Int) == -1)=false:=by simp
  simp (disch:=omega) [-Int.natCast_eq_zero,V8,w1,cy];refine go_loop (λp:Nat×List Nat×Nat=>auM (.cO 4 1 n) Cy p.1 p.2.2 (aG l day level p.2.1)) (λp=>p.2.2<=n/\p.1<p.2.2/\D6 (p7 l day level) O p.2.1 p.1 p.2.2) (λp=>n-p.2.2) (r,O,r+1) rfl (by simp) ⟨by simp;omega,by simp,aA1 (by omega) h1 h2⟩ ?_
  rintro⟨i,L,j⟩ ⟨hj,bJ,hd⟩;simp only at hj bJ hd;simp (disch:=omega) [-Int.natCast_eq_zero,af5];refine bO (λh=>?_) (λh=>?_)
  .have h:j<n:=by omega
   have hv:=eV (l:=O) (i:=j) (by omega)
   have hc:=ak8 (hO O[j] (Jm _)) day level (.cells [dB l]) (.cells (nc L));have c1:=sH ((aA0 hd).trans hv);have uT:=hd.le;have hi:i<n:=by omega
   have hL:=hd.len;have H8:i+1<=L.length:=by omega
   cases e:p7 l day level O[j]<;>rw[e]at hc
   .simp (disch:=omega) [-Int.natCast_eq_zero,Cy,aG,c1,hc,h,hi]
    exact bB (i,L,j+1) (by simp) ⟨by simp;omega,by simp;omega,aAZ hd hv e⟩ (by simp;omega)
   .simp (disch:=omega) [-Int.natCast_eq_zero,Cy,aG,c1,hc,h,hi,My,H8]
    exact bB (i+1,L.set i O[j],j+1) (by simp) ⟨by simp;omega,by simp;omega,aAY hd hv e⟩ (by simp;omega)
  .obtain rfl:j=n:=by omega
   subst hn;have hL:=hd.len;have H8:i+(O.length-i)=L.length:=by omega
   have hL2:O.length<=L.length:=by omega
   have ht:=aA2 hd;have he:xj l day level O=L.take i++List.replicate (O.length-i) 0:=by
    rw[xj,<- ht,CJ,CO (by omega)]
   have hlen:(O.filter (p7 l day level)).length=i:=by rw[<-ht,CJ,CO (by omega)]
   rw[he,hlen];by_cases h0:i=0
   .subst h0
    have hc:=ak9 (L:=L) (i:=0) (m:=O.length) (by omega)
    simp (disch:=omega) [-Int.natCast_eq_zero,aG,bJ,hc,hL2]
   .have hc:=ak9 H8
    have MF:¬ (i:Int)=0:=by omega
    have h3:i<=O.length:=by omega
    have h4:0<O.length-i:=by omega
    simp (disch:=omega) [-Int.natCast_eq_zero,aG,MF,h3,h4,bJ,hc,H8])
def j8(l:List Cd)(day level:Int):List Nat:=IX (cZ l) (p7 l day level) l.length
def aBL{day:Int}(h:x∈j8 l day level):x<l.length:=aAR h
def ala(rH:l.length<=200)(day level:Int)(YG:Cu l day level []=0) :
  aX F 134 [dB l,i64 day,i64 level] []=some (.tuple [.cO 4 1 (j8 l day level).length,i64 0],aG l day level (xj l day level (iM (cZ l) (List.range l.length)))) :=
 bD rfl rfl (by
  have w1:∀G,aX F 133 [dB l,i64 day,i64 level,.slice none 1 []] G=some (i64 0,G):=YG ▸ YF l day level [] (by simp)
  have w2:=aBG rH (.cells [dB l]) (.cells [i64 day]) (.cells [i64 level]);have w3:=aBI (l:=l) (day:=day) (level:=level) (O:=iM (cZ l) (List.range l.length)) (n:=l.length) (by rw[IY]) (by omega) λx hx=>((FX _).2 x).1 hx
  unfold j8 IX;simp[afp,w1,w2,aG,Cy,w3])
variable{k:Nat}
def aBM{day:Int}(h:(j8 l day level)[k]?=some x):(nc (xj l day level (iM (cZ l) (List.range l.length))))[k]?=some (i64 (x:Int)) :=
 sH (by
  unfold j8 IX at h;rw[xj,nR (mK.1 h).1];exact h)
def I4{c:Cd}(h:nQ c=0):(1<=c.rk/\c.rk<=9)/\(1<=c.kd/\c.kd<=4)/\(0<=c.v/\c.v<=1073741824):=by
 unfold nQ at h;split at h
 .cases h
 split at h
 .cases h
 split at h
 next g=>
  simp only[bZ]at g;exact⟨by omega,by omega,wq.1 g.1.1.1.1⟩
 .cases h
variable{before:Int}
def YH{c:Cd}(h:nQ c=0)(hb:0<=before/\before<=1073741824):0<=(mg c before).1/\(mg c before).1<=(mg c before).2/\(mg c before).2<=1073741824:=by
 obtain⟨_,_,h⟩:=I4 h;unfold mg;split
 .simp only;omega
 split
 .simp only;omega
 split<;>(simp only;omega)
def Q7{day:Int}(h:p7 l day level x=true):nQ (nth l x)=0:=by
 simp only[p7,D5,bZ,jD]at h;exact h.1.1.1
def aBN{c:Cd}(hc:nQ c=0)(hb:0<=before/\before<=1073741824)(G:List aM) :
  aX F 169 [.agg c.row,i64 before] G=some (.tuple [.agg [i64 (mg c before).1,i64 (mg c before).2],.bool true],G) :=
 bD rfl rfl (by
  have w0:=λG=>hc ▸ Yt c G;have w1:∀G,aX F 147 [i64 before,i64 1073741824] G=some (.bool true,G):=λG=>(show fP before 1073741824=true from wq.2 hb) ▸ FU before 1073741824 G;have w2:=aku c before (I4 hc).2.1 (I4 hc).2.2 hb;simp +contextual (disch:=omega) [-getElem?_pos,-List.length_eq_zero_iff,-Int.natCast_eq_zero,af0,w0,w1,w2])
def aBO(w lo hi:Int)(h:lo<=hi)(G:List aM):aX F 170 [i64 w,.agg [i64 lo,i64 hi]] G=some (i64 (Cr w lo hi),G) :=
 bD rfl rfl (by
  have:max (min w hi) lo=Cr w lo hi:=by unfold Cr;split<;>(try split)<;>omega
  simp +contextual (disch:=omega) [-getElem?_pos,-List.length_eq_zero_iff,-Int.natCast_eq_zero,af1,this])
def mI(l:List Cd)(before:Int)(i:Nat):Int×Int:=mg (nth l i) before
def j9(ys:List (Nat×Int)):List (List V):=ys.map λp=>[i64 (p.1:Int),i64 p.2]
@[simp] theorem aIL{ys:List (Nat×Int)}:(j9 ys).length=ys.length:=by simp[j9]
def MG{ys:List (Nat×Int)}:j9 ys++[[i64 (i:Int),i64 y]]=j9 (ys++[(i,y)]):=by simp[j9]
def alb{b:Nat->Int×Int}{c:Chs.Ch}:nj b (P++[i]) c=rA b (nj b P c) i:=by simp[nj]
def alc{b b':Nat->Int×Int}:∀{A:List Nat} {c:Chs.Ch},(∀j,j∈A->b j=b' j)->nj b A c=nj b' A c
 |[],_,_=>rfl
 |j::A,c,h=>by
  have h1:rA b c j=rA b' c j:=by unfold rA;rw[h j (by simp)]
  show nj b A (rA b c j)=nj b' A (rA b' c j);rw[h1];exact alc λk hk=>h k (by simp[hk])
def zW(b:Nat->Int×Int)(A:List Nat)(i:Nat):Int×Int:=if i∈A then b i else (0,0)
def ald{b:Nat->Int×Int}(h:∀j,j∈A->(b j).1<=(b j).2)(i:Nat):(zW b A i).1<=(zW b A i).2:=by
 unfold zW;split
 .exact h i (by assumption)
 .exact vk _
def ale{b:Nat->Int×Int}{c:Chs.Ch}:nj (zW b A) A c=nj b A c:=alc λj hj=>by simp[zW,hj]
variable{hi:Int}
def alf{b:Nat->Int×Int}(h:∀j,j∈A->(b j).1<=(b j).2){lo:Int}(hl:lo<=hi):Inv (zW b A) lo hi A (nj b A (oo lo hi)):=ale ▸ aky (ald h) hl A
noncomputable def I5(l:List Cd)(day level before lo hi:Int):Chs.Ch:=nj (mI l before) (j8 l day level) (oo lo hi)
abbrev YI(c:Chs.Ch)(w:Int):V:=.agg [i64 (rC c w),i64 c.lo,i64 c.hi,.slice (some 0) 2 (j9 c.ys)]
def Q8(rH:l.length<=200){day:Int}:(j8 l day level).length<=200/\∀i,i<(j8 l day level).length->(nQ (nth l (nth (j8 l day level) i))=0/\nth (j8 l day level) i<l.length)/\(nc (xj l day level (iM (cZ l) (List.range l.length))))[i]?=some (i64 ((nth (j8 l day level) i:Nat):Int)):=by
 have:(j8 l day level).length<=(iM (cZ l) (List.range l.length)).length:=ui _ _;rw[IY]at this;refine⟨by omega,λi hi=>?_⟩
 have hm:nth (j8 l day level) i∈j8 l day level:=by simp[nth,List.getD,hi]
 exact⟨⟨Q7 (vq.1 hm).2,aBL hm⟩,aBM (bc hi)⟩
variable{w:Int}
set_option maxHeartbeats 1000000 in
def aBP(rH:l.length<=200){day lo:Int}(YG:Cu l day level []=0)(hb:0<=before/\before<=1073741824)(Cz:lo<=hi) :
  ∃G',aX F 126 [dB l,i64 day,i64 level,i64 before,.agg [i64 lo,i64 hi],i64 w] []=some (YI (I5 l day level before lo hi) w,G'):=by
 refine⟨_,bD (G':=aG l day level (xj l day level (iM (cZ l) (List.range l.length)))) rfl rfl ?_⟩;have w0:=ala rH day level YG;obtain⟨zU,F6⟩:=Q8 rH (day:=day) (level:=level);have YJ:∀j,j∈j8 l day level->nQ (nth l j)=0:=λj hj=>Q7 (vq.1 hj).2;rw[I5];generalize j8 l day level=A at *;generalize xj l day level (iM (cZ l) (List.range l.length))=B at *;have hinv:∀i,Inv (zW (mI l before) (A.take i)) lo hi (A.take i) (nj (mI l before) (A.take i) (oo lo hi)):=λi=>alf (λj hj=>(YH (YJ j (Ek hj)) hb).2.1) Cz
 have na:∀i,i<A.length->nj (mI l before) (A.take (i+1)) (oo lo hi)=rA (mI l before) (nj (mI l before) (A.take i) (oo lo hi)) (nth A i):=λi hi=>by
  rw[uj,show A[i]?=some (nth A i) by simp[nth,List.getD,hi]]
  exact alb
 simp +contextual (disch:=omega) [-getElem?_pos,-List.length_eq_zero_iff,-Int.natCast_eq_zero,afl,w0];refine go_loop (λp:Nat×Chs.Ch=>at4 (dB l) before w (.slice (some 1066) 2 (j9 p.2.ys)) p.2.up (.cO 4 1 A.length) A.length p.1 [z0,z0,z0,.cj] [i64 p.2.lo,i64 p.2.lb] [i64 p.2.hi,i64 p.2.hb] p.2.ys.length (aG l day level B)) (λp=>p.1<=A.length/\p.2=nj (mI l before) (A.take p.1) (oo lo hi)/\p.2.ys.length<=p.1) (λp=>A.length-p.1) (0,oo lo hi) rfl (by simp[oo,j9]) ⟨by simp,rfl,by simp[oo]⟩ ?_
 rintro⟨i,C⟩ ⟨hi,hCi,oR⟩;simp only at hi hCi oR;have hv:=hinv i;rw[<-hCi]at hv;have eI:=na i;rw[<-hCi]at eI;have I6:=hv.m;obtain⟨kV,fN,lb,my,ys,up⟩:=C;simp only at I6 oR;simp +contextual (disch:=omega) [-getElem?_pos,-List.length_eq_zero_iff,-Int.natCast_eq_zero,afk];refine bO (λh=>?_) (λh=>?_)
 .have h:i<A.length:=by omega
  have eI:=eI h;obtain⟨⟨xi,tN⟩,c1⟩:=F6 i h;have w1:=aBN xi hb;generalize nth A i=x at *;obtain⟨b1,b2,Ea⟩:∃b1 b2,mI l before x=(b1,b2):=⟨_,_,rfl⟩;have aBQ:mg (nth l x) before=(b1,b2):=Ea;rw[aBQ]at w1;simp only at w1;have Eb:ys.length<=8796093022207:=by omega
  unfold rA at eI;rw[Ea]at eI;simp only at eI;by_cases g1:b2<kV
  .rw[aJ g1]at eI
   simp +contextual (disch:=omega) [-getElem?_pos,-List.length_eq_zero_iff,-Int.natCast_eq_zero,h,c1,bc (l:=l),w1,Eb,MG,g1];exact bB (i+1,⟨kV,fN,lb,my,ys++[(x,lb)],up⟩) (by simp) ⟨by simp;omega,eI.symm,by simp;omega⟩ (by simp;omega)
  rw[ax g1]at eI;by_cases g2:fN<b1
  .rw[aJ g2]at eI
   cases up with
   |true =>
    simp +contextual (disch:=omega) [-getElem?_pos,-List.length_eq_zero_iff,-Int.natCast_eq_zero,h,c1,bc (l:=l),w1,Eb,MG,g1,g2];exact bB (i+1,⟨kV,fN,lb,my,ys++[(x,my)],true⟩) (by simp) ⟨by simp;omega,eI.symm,by simp;omega⟩ (by simp;omega)
   |false =>
    simp +contextual (disch:=omega) [-getElem?_pos,-List.length_eq_zero_iff,-Int.natCast_eq_zero,h,c1,bc (l:=l),w1,Eb,MG,g1,g2];exact bB (i+1,⟨kV,fN,lb,my,ys++[(x,my)],false || ys.isEmpty⟩) (by
     simp only[RE];rw[show((ys.length:Int)==0)=ys.isEmpty by cases ys<;>simp;omega]
     simp) ⟨by simp;omega,eI.symm,by simp;omega⟩ (by simp;omega)
  rw[ax g2]at eI;by_cases e1:max b1 kV=kV
  .rw[aJ e1]at eI
   by_cases e2:min b2 fN=fN
   .rw[aJ e2]at eI
    simp +contextual (disch:=omega) [-getElem?_pos,-List.length_eq_zero_iff,-Int.natCast_eq_zero,h,c1,bc (l:=l),w1,g1,g2,e1,e2,V.iI,eD,kc];exact bB (i+1,⟨max b1 kV,min b2 fN,lb,my,ys,up⟩) (by simp[e1,e2]) ⟨by simp;omega,eI.symm,by simp;omega⟩ (by simp;omega)
   .rw[ax e2]at eI
    have YK:(min b2 fN==fN)=false:=tC.2 e2;simp +contextual (disch:=omega) [-getElem?_pos,-List.length_eq_zero_iff,-Int.natCast_eq_zero,h,c1,bc (l:=l),w1,g1,g2,e1,YK,V.iI,eD,kc];exact bB (i+1,⟨max b1 kV,min b2 fN,lb,x,ys,up⟩) (by simp[e1,e2]) ⟨by simp;omega,eI.symm,by simp;omega⟩ (by simp;omega)
  .rw[ax e1]at eI
   have GR:(max b1 kV==kV)=false:=tC.2 e1;by_cases e2:min b2 fN=fN
   .rw[aJ e2]at eI
    simp +contextual (disch:=omega) [-getElem?_pos,-List.length_eq_zero_iff,-Int.natCast_eq_zero,h,c1,bc (l:=l),w1,g1,g2,GR,e2,V.iI,eD,kc];exact bB (i+1,⟨max b1 kV,min b2 fN,x,my,ys,up⟩) (by simp[e1,e2]) ⟨by simp;omega,eI.symm,by simp;omega⟩ (by simp;omega)
   .rw[ax e2]at eI
    have YK:(min b2 fN==fN)=false:=tC.2 e2;simp +contextual (disch:=omega) [-getElem?_pos,-List.length_eq_zero_iff,-Int.natCast_eq_zero,h,c1,bc (l:=l),w1,g1,g2,GR,YK,V.iI,eD,kc];exact bB (i+1,⟨max b1 kV,min b2 fN,x,x,ys,up⟩) (by simp[e1,e2]) ⟨by simp;omega,eI.symm,by simp;omega⟩ (by simp;omega)
 .obtain rfl:i=A.length:=by omega
  rw[mL]at hCi;rw[<-hCi];have w2:=aBO w kV fN I6;cases ys with
  |nil=>simp +contextual (disch:=omega) [-getElem?_pos,-List.length_eq_zero_iff,-Int.natCast_eq_zero,w2,rC]
  |cons y ys =>
   have cy:(((ys.length:Int)+1)==0)=false:=by simp;omega
   cases up<;>simp[rC,cy]
abbrev YL(c:Chs.Ch)(w:Int):V:=.agg [i64 (rC c w),i64 c.lo,i64 c.hi,.slice none 2 (j9 c.ys)]
structure AY(l:List Cd)(day level:Int):Prop where
 n:l.length<=200
 e:oP l=0
 d:0<=day/\day<=364
 v:0<=level/\level<=16777216
def AY.ask{day:Int}(h:AY l day level){q:List Int}(hq:∀n,n∈q->0<=n/\n<=1073741824):Cu l day level q=0:=by
 unfold Cu;rw[ax (λg=>g h.e),aJ];simp only[bZ,iW];exact⟨⟨wq.2 h.d,wq.2 h.v⟩,λn hn=>wq.2 (hq n hn)⟩
def aBR{day lo:Int}(h:AY l day level)(hb:0<=before/\before<=1073741824)(hw:0<=w/\w<=1073741824)(Cz:0<=lo/\lo<=hi/\hi<=1073741824)(G:List aM) :
  aX F 125 [dB l,i64 day,i64 level,i64 before,.agg [i64 lo,i64 hi],i64 w] G=some (i64 0,G) :=
 bD rfl rfl (by
  have hz:Cu l day level [before,w,lo,hi]=0:=h.ask λn hn=>by
   simp only[iA,Gu,or_false]at hn;omega
  have w1:∀G,aX F 133 [dB l,i64 day,i64 level,.slice none 1 [[i64 before],[i64 w],[i64 lo],[i64 hi]]] G=some (i64 0,G):=hz ▸ YF l day level [before,w,lo,hi] (by simp)
  have h1:¬ hi<lo:=by omega
  simp[afj,w1,h1])
def aBS{day lo:Int}(h:AY l day level)(hb:0<=before/\before<=1073741824)(hw:0<=w/\w<=1073741824)(Cz:0<=lo/\lo<=hi/\hi<=1073741824)(G:List aM) :
  aX F 82 [dB l,i64 day,i64 level,i64 before,.agg [i64 lo,i64 hi],i64 w] G=some (.tuple [YL (I5 l day level before lo hi) w,i64 0],G) :=
 bD rfl rfl (by
  obtain⟨G',w2⟩:=aBP h.n (w:=w) (h.ask (q:=[]) (by simp)) hb Cz.2.1
  simp[aet,aBR h hb hw Cz,w2])
def px(t:Int):Int:=(t.tdiv 96).tmod 365
def aBT{t:Int}(h:0<=t):0<=px t/\px t<=364:=by
 unfold px;have h1:0<=t.tdiv 96:=z6 h (by omega)
 have h2:=M4 (365:Int) h1;have h3:=M3 (t.tdiv 96) (b:=(365:Int)) (by omega)
 omega
noncomputable def oS(c:Cs)(f:Fl)(i:Nat):Int:=lvl (nth c.s i).d (nth f.d i)
variable{c:Cs}{f:Fl}
def aBU:0<=oS c f i/\oS c f i<=16777216:=by
 unfold oS lvl;split
 next h=>exact aiS (Ix h).1.r _
 .omega
def alg(hf:e8 c f)(hi:i<c.s.length)(G:List aM) :
  aX F 81 [cs c,fl f,i64 i] G=some (.tuple [i64 (px f.t),i64 (oS c f i)],G) :=
 bD rfl rfl (by
  have hd:i<f.d.length:=by rw[hf.2.1.1];exact hi
  have h1:=aAH f.t;rw[wq.2 hf.1]at h1;simp only[if_true]at h1;have h2:=Qg (nth c.s i).d (nth f.d i);simp (disch:=omega) [-getElem?_pos,aes,h1,h2,bc (l:=c.s),bc (l:=f.d)];exact⟨rfl,rfl⟩)
noncomputable def oq(c:Cs)(f:Fl)(i:Nat)(l:List Cd):Chs.Ch:=I5 l (px f.t) (oS c f i) (nth f.d i).rel 0 1073741824
structure ug(l:List Cd):Prop where
 n:l.length<=200
 e:oP l=0
def ug.at_(h:ug l)(hf:e8 c f):AY l (px f.t) (oS c f i):=⟨h.n,h.e,aBT hf.1.1,aBU⟩
def alh(hf:e8 c f)(hi:i<c.s.length)(h:ug l)(hw:0<=w/\w<=1073741824)(G:List aM) :
  aX F 50 [cs c,fl f,i64 i,dB l,i64 w] G=some (YL (oq c f i l) w,G) :=
 bD rfl rfl (by
  have hd:i<f.d.length:=by rw[hf.2.1.1];exact hi
  have hr:0<=(nth f.d i).rel/\(nth f.d i).rel<=1073741824:=by
   have:=(hf.2.1.2 i hi).2;exact this.2.1
  have h1:=alg hf hi;have h2:=aBS (h.at_ (c:=c) (i:=i) hf) hr hw (lo:=0) (hi:=1073741824) (by omega)
  simp (disch:=omega) [-getElem?_pos,adT,h1,h2,bc (l:=f.d)];exact⟨rfl,rfl,rfl,rfl⟩)
variable{r:Int}
def aBV{c:Cd}(hc:nQ c=0)(hb:0<=before/\before<=1073741824)(G:List aM) :
  aX F 135 [.agg c.row,i64 before,i64 r] G=some (.bool (decide ((mg c before).1<=r)&&decide (r<=(mg c before).2)),G) :=
 bD rfl rfl (by
  have w2:=aku c before (I4 hc).2.1 (I4 hc).2.2 hb;obtain⟨b1,b2,Ea⟩:∃b1 b2,mg c before=(b1,b2):=⟨_,_,rfl⟩;rw[Ea]at w2 ⊢;by_cases h1:b1<=r
  .simp[VT,w2,h1]
  .simp[VT,w2,h1])
noncomputable def yx(l:List Cd)(day level before r:Int):List Nat:=(j8 l day level).filter λi => !keeps (mI l before) r i
def iV(l:List Nat):List (List V):=l.map λk:Nat=>[i64 (k:Int)]
@[simp] theorem aIM{l:List Nat}:(iV l).length=l.length:=by simp[iV]
def MH{l:List Nat}:iV l++[[i64 (i:Int)]]=iV (l++[i]):=by simp[iV]
def aBW{day:Int}(h:AY l day level)(hb:0<=before/\before<=1073741824)(hw:0<=r/\r<=1073741824) :
  ∃G',aX F 86 [dB l,i64 day,i64 level,i64 before,i64 r] []=some (.tuple [.slice (some 0) 1 (iV ((j8 l day level).filter (keeps (mI l before) r))),.slice (some 0) 1 (iV (yx l day level before r)),i64 0],G'):=by
 refine⟨_,bD (G':=aG l day level (xj l day level (iM (cZ l) (List.range l.length)))) (r:=.tuple [.slice (some 0) 1 (iV ((j8 l day level).filter (keeps (mI l before) r))),.slice (some 0) 1 (iV (yx l day level before r)),i64 0]) rfl rfl ?_⟩;have w0:=ala h.n day level (h.ask (q:=[]) (by simp))
 have hz:Cu l day level [before,r]=0:=h.ask λn hn=>by
  simp only[iA,Gu,or_false]at hn;omega
 have w1:∀G,aX F 133 [dB l,i64 day,i64 level,.slice none 1 [[i64 before],[i64 r]]] G=some (i64 0,G):=hz ▸ YF l day level [before,r] (by simp)
 obtain⟨zU,F6⟩:=Q8 h.n (day:=day) (level:=level);unfold yx;generalize j8 l day level=A at *;generalize xj l day level (iM (cZ l) (List.range l.length))=B at *;simp (disch:=omega) [-getElem?_pos,aez,w0,w1]
 refine go_loop (λp:Nat×List Nat×List Nat=>asQ (dB l) before r (.slice (some 1053) 1 (iV p.2.1)) (.slice (some 1057) 1 (iV p.2.2)) (.cO 4 1 A.length) A.length p.1 p.2.1.length p.2.2.length (aG l day level B)) (λp=>p.1<=A.length/\p.2.1=(A.take p.1).filter (keeps (mI l before) r)/\p.2.2=(A.take p.1).filter (λi => !keeps (mI l before) r i)) (λp=>A.length-p.1) (0,[],[]) rfl (by simp[iV]) ⟨by simp,rfl,rfl⟩ ?_
 rintro⟨i,K,W⟩ ⟨hi,hK,hW⟩;simp only at hi hK hW;simp (disch:=omega) [-getElem?_pos,aey];refine bO (λg=>?_) (λg=>?_)
 .have g:i<A.length:=by omega
  obtain⟨⟨xi,tN⟩,c1⟩:=F6 i g;have w2:=aBV xi (r:=r) hb;have hs:A.take (i+1)=A.take i++[nth A i]:=by rw[uj,show A[i]?=some (nth A i) by simp[nth,List.getD,g]];rfl
  have hk9:K.length<=200:=by rw[hK];exact iO (ui _ _) (by simp;omega)
  have MI:W.length<=200:=by rw[hW];exact iO (ui _ _) (by simp;omega)
  have F7:K.length<=17592186044415:=by omega
  have MJ:W.length<=17592186044415:=by omega
  generalize nth A i=x at *;change ∀G,aX F _ _ G=some (.bool (keeps (mI l before) r x),G)at w2;cases e:keeps (mI l before) r x<;>rw[e]at w2
  .simp (disch:=omega) [-getElem?_pos,g,c1,bc (l:=l),w2,F7,MJ,MH]
   exact bB (i+1,K,W++[x]) (by simp) ⟨by simp;omega,by simp[hs,e,hK],by simp[hs,e,hW]⟩ (by simp;omega)
  .simp (disch:=omega) [-getElem?_pos,g,c1,bc (l:=l),w2,F7,MJ,MH]
   exact bB (i+1,K++[x],W) (by simp) ⟨by simp;omega,by simp[hs,e,hK],by simp[hs,e,hW]⟩ (by simp;omega)
 .obtain rfl:i=A.length:=by omega
  rw[mL]at hK hW;subst hK hW;trivial
abbrev gf(L:List (List Cd)):V:=.slice none 1 (L.map λl=>[dB l])
structure Vi where
 t:Int
 s:Int
 c:Int
 b:Int
 deriving Inhabited,DecidableEq
abbrev Vi.row(v:Vi):List V:=[i64 v.t,i64 v.s,i64 v.c,i64 v.b]
abbrev AZ(l:List Vi):V:=.slice none 4 (l.map Vi.row)
def p8(t:Int)(i:Nat)(ys:List (Nat×Int)):List Vi:=ys.map λp=>⟨t,i,p.1,p.2⟩
noncomputable def lL(c:Cs)(f:Fl)(L:List (List Cd))(T:List Int)(n:Nat):List Int:=(List.range n).map λi=>rC (oq c f i (nth L i)) (nth T i)
noncomputable def p9(c:Cs)(f:Fl)(L:List (List Cd)):Nat->List Vi
 |0=>[]
 |n+1=>p9 c f L n++p8 f.t n (oq c f n (nth L n)).ys
variable{L:List (List Cd)}{T:List Int}
def ali:lL c f L T (n+1)=lL c f L T n++[rC (oq c f n (nth L n)) (nth T n)]:=by simp[lL,CL]
@[simp] theorem alj:(lL c f L T n).length=n:=by simp[lL]
def alk{b:Nat->Int×Int}:∀{A:List Nat} {c:Chs.Ch},(nj b A c).ys.length<=c.ys.length+A.length
 |[],c=>by simp[nj]
 |i::A,c=>by
  have h:=alk (b:=b) (A:=A) (c:=rA b c i);have h1:(rA b c i).ys.length<=c.ys.length+1:=by
   unfold rA;split
   .simp
   split
   .simp
   .simp
  show(nj b A (rA b c i)).ys.length<=_;simp only[vp];omega
def YM{day:Int}:(j8 l day level).length<=l.length:=by
 have:(j8 l day level).length<=(iM (cZ l) (List.range l.length)).length:=ui _ _;rw[IY]at this;exact this
def MK(h:ug l):(oq c f i l).ys.length<=200:=by
 have h1:=alk (b:=mI l (nth f.d i).rel) (A:=j8 l (px f.t) (oS c f i)) (c:=oo 0 1073741824);have h2:=YM (l:=l) (day:=px f.t) (level:=oS c f i);have h3:=h.n;simp only[oo,tB]at h1;show(nj _ _ _).ys.length<=200;simp only[oo];omega
def Q9{c:Cs}{f:Fl}{L:List (List Cd)}(h:∀i,i<L.length->ug (nth L i)):∀n,n<=L.length->(p9 c f L n).length<=200*n
 |0,_=>by simp[p9]
 |n+1,hn=>by
  have h1:=Q9 (c:=c) (f:=f) h n (by omega)
  have h2:=MK (c:=c) (f:=f) (i:=n) (h n (by omega))
  simp only[p9,jQ,p8,yy];omega
abbrev mG(c:Cs)(L:List (List Cd))(t:Int)(M:List (List Int))(V:List Vi):List aM:=[.cells c.row,.cells [gf L],.cells [i64 t,.eC 1 (M.map λp=>[ints p])],.cells [.eC 4 (V.map Vi.row)]]
set_option maxHeartbeats 1000000 in
def aBY(hf:e8 c f)(hT:T.length=c.s.length)(hL:L.length=c.s.length)(h6:c.s.length<=6)(ho:∀i,i<L.length->ug (nth L i))
  (hb:∀i,i<T.length->0<=nth T i/\nth T i<=1073741824) (t:Int) {M:List (List Int)} {V:List Vi} (hM:M.length<=1000) (hV:V.length<=1000000) :
  aX F 49 [fl f,ints T,.bu 0 0,.bu 1 0,.bu 3 0,.bu 2 0] (mG c L t M V)=some (zN (lL c f L T T.length),mG c L t (M++[lL c f L T T.length]) (V++p9 c f L T.length)) :=
 bD rfl rfl (by
  simp (disch:=omega) [-getElem?_pos,adS];refine go_loop (λi:Nat=>arV (.bu 0 0) (.bu 1 0) (.bu 3 0) (.bu 2 0) (.slice (some 1054) 1 ((lL c f L T i).map λn=>[i64 n])) (ints T) T.length i f.row i (mG c L t M (V++p9 c f L i))) (λi=>i<=T.length) (λi=>T.length-i) 0 rfl (by simp[lL,p9]) (by omega) ?_
  rintro i hi;simp (disch:=omega) [-getElem?_pos,adR];refine bO (λh=>?_) (λh=>?_)
  .have h:i<T.length:=by omega
   have h1:=alh hf (i:=i) (by omega) (ho i (by omega)) (hb i h)
   have hv:=Q9 (c:=c) (f:=f) ho i (by omega)
   have hy:=MK (c:=c) (f:=f) (i:=i) (ho i (by omega))
   have hM1:i+1<=17592186044416:=by omega
   have hs:lL c f L T i++[rC (oq c f i (nth L i)) (nth T i)]=lL c f L T (i+1):=ali.symm;have tJ:p9 c f L (i+1)=p9 c f L i++p8 f.t i (oq c f i (nth L i)).ys:=rfl;simp (disch:=omega) [-getElem?_pos,dQ (l:=T),bc (l:=L),h1];generalize oq c f i (nth L i)=C at *
   refine go_loop (λp:Nat×List Vi=>arT (.bu 0 0) (.bu 1 0) (.bu 3 0) (.bu 2 0) (.slice (some 1054) 1 ((lL c f L T i).map λn=>[i64 n])) i (ints T) T.length i (.slice none 2 (j9 C.ys)) C.ys.length p.1 f.row [i64 (rC C (nth T i)),i64 C.lo,i64 C.hi,.slice none 2 (j9 C.ys)] i (mG c L t M p.2)) (λp=>p.1<=C.ys.length/\p.2=V++p9 c f L i++p8 f.t i (C.ys.take p.1)) (λp=>C.ys.length-p.1) (0,V++p9 c f L i) rfl (by simp) ⟨by simp,by simp[p8]⟩ ?_
   rintro⟨j,W⟩ ⟨hj,hW⟩;simp only at hj hW;simp (disch:=omega) [-getElem?_pos,adQ];refine bO (λg=>?_) (λg=>?_)
   .have g:j<C.ys.length:=by omega
    have DY:W.length<=4398046511103:=by rw[hW];simp[p8];omega
    have zX:(j9 C.ys)[j]?=some [i64 (((nth C.ys j).1:Nat):Int),i64 (nth C.ys j).2]:=by simp[j9,nth,List.getD,g]
    have J0:p8 f.t i (C.ys.take (j+1))=p8 f.t i (C.ys.take j)++[⟨f.t,i,((nth C.ys j).1:Nat),(nth C.ys j).2⟩]:=by
     rw[uj,show C.ys[j]?=some (nth C.ys j) by simp[nth,List.getD,g]]
     simp[p8]
    simp (disch:=omega) [-getElem?_pos,mG,zX,DY];exact bB (j+1,W++[⟨f.t,i,((nth C.ys j).1:Nat),(nth C.ys j).2⟩]) (by simp) ⟨by simp;omega,by simp[J0,hW]⟩ (by simp;omega)
   .obtain rfl:j=C.ys.length:=by omega
    have hi9:i<=17592186044415:=by omega
    rw[mL]at hW;subst hW;simp (disch:=omega) [-getElem?_pos,mG,hi9];exact bB (i+1) (by simp[<-hs,tJ]) (by omega) (by omega)
  .obtain rfl:i=T.length:=by omega
   have hM9:M.length<=5864062014804:=by omega
   simp (disch:=omega) [-getElem?_pos,mG,hM9])
variable{G:List aM}{g:Nat}
def aB1(hg:G[g]?=some (.cells [i64 (k:Int)])) :
  aX F 88 [.agg [i64 (a:Int),i64 y],.bu g 0] G=some (.bool (decide (a=k)),G) :=
 bD rfl rfl (by
  by_cases h:a=k
  .simp[Vx,hg,h]
  .have h':¬ (a:Int)=k:=by omega
   simp[Vx,hg,h,h'])
def rI(ys:List (Nat×Int))(k:Nat):Nat:=ys.findIdx λp=>decide (p.1=k)
def aB2{ys:List (Nat×Int)}(hl:ys.length<=1000)(hg:G[g]?=some (.cells [i64 (k:Int)])) :
  aX F 87 [.slice none 2 (j9 ys),.fn 88 [.bu g 0]] G=some (i64 (if rI ys k=ys.length then -1 else rI ys k),G) :=
 bD rfl rfl (by
  have hle:rI ys k<=ys.length:=RT;simp (disch:=omega) [aeB];refine go_loop (λi:Nat=>asS (.slice none 2 (j9 ys)) (.fn 88 [.bu g 0]) ys.length i G) (λi=>i<=rI ys k) (λi=>ys.length-i) 0 rfl (by simp) (by omega) ?_
  rintro i hi;simp (disch:=omega) [aeA];refine bO (λh=>?_) (λh=>?_)
  .have h:i<ys.length:=by omega
   have zX:(j9 ys)[i]?=some [i64 (((nth ys i).1:Nat):Int),i64 (nth ys i).2]:=by simp[j9,nth,List.getD,h]
   have hc:=aB1 (a:=(nth ys i).1) (y:=(nth ys i).2) hg;have hn:nth ys i=ys[i]:=by simp[nth,List.getD,h]
   by_cases e:(nth ys i).1=k
   .have e2:rI ys k=i:=by
     refine Nat.le_antisymm ?_ hi;refine Nat.le_of_not_lt λbJ=>?_;have:=Zy bJ;rw[<-hn]at this;simp[e]at this
    rw[fJ e]at hc;rw[ax',e2]
    simp (disch:=omega) [zX,hc]
   .rw[decide_eq_false e]at hc
    have e2:rI ys k≠i:=λe2=>by
     have hw:ys.findIdx (λp=>decide (p.1=k))<ys.length:=by show rI ys k<_;omega
     have:=Zp (w:=hw);simp only[show ys.findIdx (λp=>decide (p.1=k))=i from e2,<- hn,jD]at this;exact e this
    simp (disch:=omega) [zX,hc];exact bB' (i+1)
  .omega)
def aln:∀{ys:List (Nat×Int)} {k:Nat},wu ys k=if rI ys k=ys.length then -2 else (nth ys (rI ys k)).2
 |[],k=>by simp[wu,rI]
 |(i,y)::ys,k=>by
  unfold wu rI;rw[List.findIdx_cons];by_cases e:i=k
  .simp[e,nth]
  .have h:=aln (ys:=ys) (k:=k)
   unfold rI at h;simp only[e,decide_false,gL,if_false,vp,h,Nat.add_right_cancel_iff];rfl
noncomputable def brk(c:Cs)(f:Fl)(i:Nat)(l:List Cd)(r:Int):List Vi:=(yx l (px f.t) (oS c f i) (nth f.d i).rel r).map λk:Nat=>⟨f.t,i,k,wu (oq c f i l).ys k⟩
set_option maxHeartbeats 1000000 in
def aB3(hf:e8 c f)(hi:i<c.s.length)(h:ug l)(hw:0<=r/\r<=1073741824) :
  ∃G',aX F 55 [cs c,fl f,i64 i,dB l,i64 r] []=some (.slice (some 0) 4 ((brk c f i l r).map Vi.row),G'):=by
 have hd:i<f.d.length:=by rw[hf.2.1.1];exact hi
 have hr:0<=(nth f.d i).rel/\(nth f.d i).rel<=1073741824:=(hf.2.1.2 i hi).2.2.1;have w1:=alg hf hi;obtain⟨G1,w2⟩:=aBW (h.at_ (c:=c) (i:=i) hf) hr hw;have w3:=alh hf hi h hw;have hy:=MK (c:=c) (f:=f) (i:=i) h;have NL:(yx l (px f.t) (oS c f i) (nth f.d i).rel r).length<=200:=by
  refine iO (ui _ _) (iO YM h.n)
 unfold brk;generalize oq c f i l=C at *;generalize (j8 l (px f.t) (oS c f i)).filter (keeps (mI l (nth f.d i).rel) r)=K at *;generalize yx l (px f.t) (oS c f i) (nth f.d i).rel r=W at *;refine⟨_,bD (G':=W.map λk:Nat=>aM.cells [i64 (k:Int)]) rfl rfl ?_⟩;simp (disch:=omega) [-getElem?_pos,ad0,w1,w2,w3,bc (l:=f.d)];refine go_loop (λp:Nat×List aM×List Vi=>ar2 i (.slice (some 1077) 4 (p.2.2.map Vi.row)) (.slice none 1 (iV W)) W.length p.1 f.row [i64 (rC C r),i64 C.lo,i64 C.hi,.slice none 2 (j9 C.ys)] p.2.2.length p.2.1)
  (λp=>p.1<=W.length/\p.2.1=(W.take p.1).map (λk:Nat=>aM.cells [i64 (k:Int)])/\p.2.2=(W.take p.1).map (λk:Nat=>(⟨f.t,i,k,wu C.ys k⟩:Vi))) (λp=>W.length-p.1) (0,[],[]) rfl (by simp) (by simp) ?_
 rintro⟨j,Gs,Z⟩ ⟨hj,hGs,hZ⟩;simp only at hj hGs hZ;simp (disch:=omega) [-getElem?_pos,adZ];refine bO (λg=>?_) (λg=>?_)
 .have g:j<W.length:=by omega
  have hW:(iV W)[j]?=some [i64 ((nth W j:Nat):Int)]:=by simp[iV,nth,List.getD,g]
  have hs:W.take (j+1)=W.take j++[nth W j]:=by rw[uj,show W[j]?=some (nth W j) by simp[nth,List.getD,g]];rfl
  have Xp:∀(φ:Nat->aM),(W.map φ).take (j+1)=(W.take j).map φ++[φ (nth W j)]:=λφ=>by rw[<-List.map_take,hs,Jp];rfl
  have YN:∀(φ:Nat->Vi),(W.map φ).take (j+1)=(W.take j).map φ++[φ (nth W j)]:=λφ=>by rw[<-List.map_take,hs,Jp];rfl
  generalize nth W j=k at *;have hlen:Gs.length=j:=by rw[hGs];simp;omega
  have hzl:Z.length<=4398046511103:=by rw[hZ];simp;omega
  have Ir:(Gs++[aM.cells [V.int .i64 0]])[j]?=some (.cells [V.int .i64 0]):=by rw[<-hlen];simp
  have alp:(Gs++[aM.cells [V.int .i64 0]]).set j (.cells [i64 (k:Int)])=Gs++[.cells [i64 (k:Int)]]:=by rw[<-hlen];simp
  have hG:(Gs++[.cells [i64 (k:Int)]])[j]?=some (.cells [i64 (k:Int)]):=by rw[<-hlen];simp
  have hc:=aB2 (ys:=C.ys) (by omega) (k:=k) (g:=j) hG
  have Rb:=aln (ys:=C.ys) (k:=k);by_cases e:rI C.ys k=C.ys.length
  .rw[aJ e]at hc Rb
   simp (disch:=omega) [-getElem?_pos,hW,hlen,Ir,alp,hG,hc,hzl];exact bB (j+1,Gs++[.cells [i64 (k:Int)]],Z++[⟨f.t,i,k,-2⟩]) (by simp) ⟨by simp;omega,by simp only[Xp,hGs],by simp only[YN,hZ,Rb]⟩ (by simp;omega)
  .rw[ax e]at hc Rb
   have hle:rI C.ys k<C.ys.length:=by have:rI C.ys k<=C.ys.length:=RT;omega
   have zX:(j9 C.ys)[rI C.ys k]?=some [i64 (((nth C.ys (rI C.ys k)).1:Nat):Int),i64 (nth C.ys (rI C.ys k)).2]:=by simp[j9,nth,List.getD,hle]
   generalize rI C.ys k=x at *;simp (disch:=omega) [-getElem?_pos,hW,hlen,Ir,alp,hG,hc,hzl,zX];exact bB (j+1,Gs++[.cells [i64 (k:Int)]],Z++[⟨f.t,i,k,(nth C.ys x).2⟩]) (by simp) ⟨by simp;omega,by simp only[Xp,hGs],by simp only[YN,hZ,Rb]⟩ (by simp;omega)
 .obtain rfl:j=W.length:=by omega
  rw[mL]at hGs hZ;subst hGs hZ;simp
noncomputable def qd(c:Cs)(f:Fl)(L:List (List Cd))(T:List Int):Nat->List Vi
 |0=>[]
 |n+1=>qd c f L T n++brk c f n (nth L n) (nth T n)
def YO(h:ug l):(brk c f i l r).length<=200:=by
 unfold brk yx;rw[yy];exact iO (ui _ _) (iO YM h.n)
def Re{c:Cs}{f:Fl}{L:List (List Cd)}{T:List Int}(h:∀i,i<L.length->ug (nth L i)):∀n,n<=L.length->(qd c f L T n).length<=200*n
 |0,_=>by simp[qd]
 |n+1,hn=>by
  have h1:=Re (c:=c) (f:=f) (T:=T) h n (by omega)
  have h2:=YO (c:=c) (f:=f) (i:=n) (r:=nth T n) (h n (by omega))
  simp only[qd,jQ];omega
abbrev vG(c:Cs)(L:List (List Cd))(V:List Vi):List aM:=[.cells c.row,.cells [gf L],.cells [.eC 4 (V.map Vi.row)]]
def aB4(hf:e8 c f)(hT:T.length=c.s.length)(hL:L.length=c.s.length)(h6:c.s.length<=6)(ho:∀i,i<L.length->ug (nth L i))
  (hb:∀i,i<T.length->0<=nth T i/\nth T i<=1073741824) {V:List Vi} (hV:V.length<=1000000) :
  aX F 54 [fl f,ints T,.bu 2 0,.bu 0 0,.bu 1 0] (vG c L V)=some (ints T,vG c L (V++qd c f L T T.length)) :=
 bD rfl rfl (by
  simp (disch:=omega) [-getElem?_pos,adY];refine go_loop (λp:Nat×List Vi=>ar0 (ints T) (.bu 2 0) (.bu 0 0) (.bu 1 0) (ints T) T.length p.1 f.row (vG c L p.2)) (λp=>p.1<=T.length/\p.2=V++qd c f L T p.1) (λp=>T.length-p.1) (0,V) rfl (by simp) ⟨by simp,by simp[qd]⟩ ?_
  rintro⟨i,W⟩ ⟨hi,hW⟩;simp only at hi hW;simp (disch:=omega) [-getElem?_pos,adX];refine bO (λh=>?_) (λh=>?_)
  .have h:i<T.length:=by omega
   obtain⟨G1,h1⟩:=aB3 hf (i:=i) (by omega) (ho i (by omega)) (hb i h)
   have hv:=Re (c:=c) (f:=f) (T:=T) ho i (by omega)
   have hn:=YO (c:=c) (f:=f) (i:=i) (r:=nth T i) (ho i (by omega))
   have hs:qd c f L T (i+1)=qd c f L T i++brk c f i (nth L i) (nth T i):=rfl;generalize brk c f i (nth L i) (nth T i)=B at *;have hWl:W.length+B.length<=4398046511104:=by rw[hW];simp;omega
   simp (disch:=omega) [-getElem?_pos,vG,dQ (l:=T),bc (l:=L),h1,hWl];exact bB (i+1,W++B) (by simp) ⟨by simp;omega,by simp[hs,hW]⟩ (by simp;omega)
  .obtain rfl:i=T.length:=by omega
   subst hW;simp)
end
section
open Go.Vm
end
section
open Go.Vm
attribute [local simp] mX mY lX mW
def kC(c:Cs)(L:List (List Cd)):Int:=if L.length=c.s.length then dH (λi=>oP (nth L i)) L.length 0 else 3
def Rf(c:Cs)(L:List (List Cd))(hl:L.length<=1000)(G:List aM):aX F 51 [cs c,gf L] G=some (i64 (kC c L),G) :=
 bD rfl rfl (by
  generalize hW:kC c L=W;unfold kC at hW;by_cases h1:L.length=c.s.length
  case neg =>
   rw[ax h1]at hW;have fA:¬ (L.length:Int)=c.s.length:=by omega
   simp (disch:=omega) [-getElem?_pos,O0,fA];exact hW
  rw[aJ h1]at hW;simp (disch:=omega) [-getElem?_pos,O0,h1];refine go_loop (λi:Nat=>arW (gf L) L.length i G) (λi=>i<=L.length/\dH (λi=>oP (nth L i)) (L.length-i) i=W) (λi=>L.length-i) 0 rfl (by simp[h1]) ⟨by omega,hW⟩ ?_
  rintro i ⟨hi,hq⟩;simp (disch:=omega) [-getElem?_pos,Vg];refine bO (λh3=>?_) (λh3=>?_)
  .have h3:i<L.length:=by omega
   rw[kl h3]at hq;have h4:=akt (nth L i);by_cases h5:oP (nth L i)=0
   .rw[aJ h5]at hq
    have tr:(oP (nth L i) != 0)=false:=by simp[h5]
    simp (disch:=omega) [-getElem?_pos,bc (l:=L),h4,tr];exact bB' (i+1) ⟨by omega,hq⟩
   .rw[ax h5]at hq
    have tr:(oP (nth L i) != 0)=true:=by simp[h5]
    simp (disch:=omega) [-getElem?_pos,bc (l:=L),h4,tr];exact hq
  .obtain rfl:i=L.length:=by omega
   rw[l7]at hq;exact hq)
variable{c:Cs}{L:List (List Cd)}
def F8(h:kC c L=0)(rH:∀i,i<L.length->(nth L i).length<=200):L.length=c.s.length/\∀i,i<L.length->ug (nth L i):=by
 unfold kC at h;split at h
 next g=>
  exact⟨g,λi hi=>⟨rH i hi,tT h i (by omega) (by omega)⟩⟩
 .cases h
noncomputable def ot(c:Cs)(f:Fl)(L:List (List Cd))(p:Pn)(l:List Sp):Nat->Fl
 |0=>f
 |k+1=>ue c (ot c f L p l k) ⟨(nth l k).a,(nth l k).b,lL c (ot c f L p l k) L (nth p.l k) c.s.length⟩
noncomputable def mi(c:Cs)(f:Fl)(L:List (List Cd))(p:Pn)(l:List Sp)(n:Nat):List (List Int):=(List.range n).map λk=>lL c (ot c f L p l k) L (nth p.l k) c.s.length
noncomputable def rJ(c:Cs)(f:Fl)(L:List (List Cd))(p:Pn)(l:List Sp):Nat->List Vi
 |0=>[]
 |k+1=>rJ c f L p l k++p9 c (ot c f L p l k) L c.s.length
noncomputable abbrev mS(c:Cs)(f:Fl)(L:List (List Cd))(p:Pn)(l:List Sp):List Sp:=fe ⟨p.f,mi c f L p l l.length⟩ l
variable{f:Fl}{p:Pn}{l:List Sp}{n:Nat}
def Rg:(mi c f L p l n).length=n:=by simp[mi]
def Rh{k:Nat}(h:k<n):nth (mi c f L p l n) k=lL c (ot c f L p l k) L (nth p.l k) c.s.length:=by simp[nth,mi,List.getD,h]
def alq:mi c f L p l (n+1)=mi c f L p l n++[lL c (ot c f L p l n) L (nth p.l n) c.s.length]:=by simp[mi,CL]
def Ri{c:Cs}{f:Fl}{L:List (List Cd)}{p:Pn}{l:List Sp}:∀k,k<=l.length->eO c f (mS c f L p l) k=ot c f L p l k
 |0,_=>rfl
 |k+1,h=>by
  show ue c (eO c f _ k) _=_;rw[Ri k (by omega),Mr (by omega),Rh (by omega)]
  rfl
def Rj{c:Cs}{f:Fl}{L:List (List Cd)}{p:Pn}{l:List Sp}(hL:L.length=c.s.length)(h:∀i,i<L.length->ug (nth L i)):∀k,(rJ c f L p l k).length<=200*c.s.length*k
 |0=>by simp[rJ]
 |k+1=>by
  have h1:=Rj (f:=f) (p:=p) (l:=l) hL h k;have h2:=Q9 (c:=c) (f:=ot c f L p l k) h c.s.length (by omega)
  simp only[rJ,jQ,Nat.mul_add,Gz];omega
noncomputable def qe(c:Cs)(f:Fl)(L:List (List Cd))(p:Pn)(l:List Sp):Int :=
 if jr c f p l.length≠0 then jr c f p l.length else if kC c L≠0 then kC c L else gK c f (mS c f L p l)
def I7(h:fm c=0):c.s.length<=6:=by
 unfold fm at h;split at h
 next g=>exact absurd h g
 split at h
 .cases h
 split at h
 .cases h
 .omega
def aB6(hr:jO c.r)(hf:mf f)(hb:Bg c f p l.length)(hL:L.length=c.s.length)(ho:∀i,i<L.length->ug (nth L i)) :
  ∃m,aX F 42 [IQ c p (.fn 49 [.bu 0 0,.bu 1 0,.bu 3 0,.bu 2 0]),fl f,gu l] [.cells c.row,.cells [gf L],.cells [i64 p.f,.eC 1 []],.cells [.eC 4 []]]=some (lJ (some 0) c f (mS c f L p l),mG c L p.f (mi c f L p l m) (rJ c f L p l m))/\(gK c f (mS c f L p l)=0->m=l.length):=by
 have h6:=I7 hb.c0;have hm:=hb.dF;refine Ym hr hf hb (M:=mi c f L p l l.length) (.inr rfl) (Gs:=λk=>mG c L p.f (mi c f L p l k) (rJ c f L p l k)) λk hk hj=>?_;have kh:=FR hb.c0 hb.f0 k hj;rw[show fe ⟨p.f,mi c f L p l l.length⟩ l=mS c f L p l from rfl,Ri k (by omega)]at kh ⊢
 have hT:=(hb.e k hk).1;have hv:=Rj (f:=f) (p:=p) (l:=l) hL ho k;have h:=aBY kh (T:=nth p.l k) hT hL h6 ho (λi hi=>by have:=(hb.e k hk).2 i hi;omega) p.f (M:=mi c f L p l k) (V:=rJ c f L p l k) (by rw[Rg];omega) (by
  have:200*c.s.length*k<=200*6*96:=A5 (by omega) (by omega)
  omega)
 rw[hT]at h;rw[Rh hk,alq];exact h
end
