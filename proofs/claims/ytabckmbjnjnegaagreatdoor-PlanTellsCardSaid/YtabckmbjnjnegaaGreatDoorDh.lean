/- - -/
import Derived.Test.YtabckmbjnjnegaaGreatDoorDf
import Derived.Test.YtabckmbjnjnegaaGreatDoorDg
import Derived.Test.YtabckmbjnjnegaaGreatDoorDa
import Derived.Test.YtabckmbjnjnegaaGreatDoorDb
attribute [local simp] Go.Vm.wrap64
namespace Go.Proofs.YtabckmbjnjnegaaGreatDoor
set_option linter.all false
set_option maxRecDepth 100000
set_option maxHeartbeats 400000
open Go.Vm
abbrev Mt:Rc:=⟨[0,1],1⟩
abbrev mz:Cs:=⟨⟨2,[⟨0,1,Mt⟩]⟩,[]⟩
def Mu:fy Mt=0:=by
 unfold fy;rw[ax (by decide),ax (by decide),aJ,aJ (by decide)]
 intro i hi;have:i=0\/i=1:=by simp at hi;omega
 rcases this with rfl|rfl<;>decide
def aAn:kT mz.r=0:=by
 unfold kT;rw[ax (by decide)]
 show(if lE mz.r 0=0 then (0:Int) else lE mz.r 0)=0
 have:lE mz.r 0=0:=by
  unfold lE;simp only;rw[aJ (by decide),ax (by decide),ax (by decide)]
  exact Mu
 rw[aJ this]
def akc:fm mz=0:=by
 unfold fm;rw[ax (λg=>g aAn),ax (by decide),ax (by decide)]
 rfl
def QR:∀p:List Int,p=[]\/p=[7]->jA Mt p:=λp h=>by
 rcases h with rfl|rfl
 .exact⟨by decide,by decide,λi hi=>by simp at hi⟩
 .refine⟨by decide,by decide,λi hi=>?_⟩
  have:i=0:=by simp at hi;omega
  subst this;decide
def aAo:iG Mt [] 7=0:=by
 unfold iG;rw[ax (λg=>g Mu),aJ (QR _ (.inl rfl)),aJ];refine⟨by decide,λi hi=>?_⟩
 have:i=0\/i=1:=by simp at hi;omega
 rcases this with rfl|rfl<;>decide
def aAp:iG Mt [7] 0=0:=by
 unfold iG;rw[ax (λg=>g Mu),aJ (QR _ (.inr rfl)),aJ];refine⟨by decide,λi hi=>?_⟩
 have:i=0\/i=1:=by simp at hi;omega
 rcases this with rfl|rfl<;>decide
abbrev IT:Sp:=⟨[7,0],[],[]⟩
abbrev IU:Sp:=⟨[0,0],[],[]⟩
abbrev IV:Fl:=⟨0,[],[[]]⟩
abbrev IW:Fl:=⟨1,[],[[7]]⟩
def aAq:e8 mz IV:=⟨by decide,⟨rfl,by simp⟩,rfl,λi hi=>by
 have:i=0:=by simp at hi;omega
 subst this;exact⟨Mu,QR _ (.inl rfl)⟩⟩
def aAr:e8 mz IW:=⟨by decide,⟨rfl,by simp⟩,rfl,λi hi=>by
 have:i=0:=by simp at hi;omega
 subst this;exact⟨Mu,QR _ (.inr rfl)⟩⟩
def D4(k:Int):ni mz.s k=none:=rfl
def QS:oi mz.r.l ((0:Nat):Int)=some 0:=rfl
def QT:oi mz.r.l ((1:Nat):Int)=none:=rfl
def akd:cR mz IT IV 1=⟨[7,0],[],[[7]],[],[7],[0]⟩:=by
 show vS mz IT ⟨[7,0],[],[[]],[],[],[]⟩ 0=_;unfold vS vL vD fX;rw[D4,QS];rfl
def aIz:cR mz IT IV 2=⟨[7,0],[],[[7]],[],[7,0],[0]⟩:=by
 show vS mz IT (cR mz IT IV 1) 1=_;rw[akd];unfold vS vL vD fX;rw[D4,QT];rfl
def ake:cR mz IU IW 1=⟨[0,7],[],[[]],[],[0],[7]⟩:=by
 show vS mz IU ⟨[0,0],[],[[7]],[],[],[]⟩ 0=_;unfold vS vL vD fX;rw[D4,QS];rfl
def aIA:cR mz IU IW 2=⟨[0,7],[],[[]],[],[0,7],[7]⟩:=by
 show vS mz IU (cR mz IU IW 1) 1=_;rw[ake];unfold vS vL vD fX;rw[D4,QT];rfl
def akf{l:List Int}(h:∀x∈l,x=0\/x=7):fx l 1073741824:=λi hi=>by
 have:=h _ (tY hi);omega
def aIB:qE mz IV IT=0:=by
 unfold qE;have hr:lu mz IV=0:=by unfold lu;rw[ax (λg=>g akc),aJ aAq]
 rw[ax (λg=>g hr)];unfold fB;rw[aJ (by decide),aJ (akf (by simp)),ax (by decide)]
 refine vU λk _ hk=>?_;have:k=0\/k=1:=by have:mz.r.n.toNat=2:=rfl;omega
 rcases this with rfl|rfl
 .unfold vE oN ry fX
  rw[D4,QS];exact aAo
 .unfold vE oN ry fX
  rw[akd,D4,QT];rfl
def aIC:qE mz IW IU=0:=by
 unfold qE;have hr:lu mz IW=0:=by unfold lu;rw[ax (λg=>g akc),aJ aAr]
 rw[ax (λg=>g hr)];unfold fB;rw[aJ (by decide),aJ (akf (by simp)),ax (by decide)]
 refine vU λk _ hk=>?_;have:k=0\/k=1:=by have:mz.r.n.toNat=2:=rfl;omega
 rcases this with rfl|rfl
 .unfold vE oN ry fX
  rw[D4,QS];exact aAp
 .unfold vE oN ry fX
  rw[ake,D4,QT];rfl
abbrev cw:V:=.agg [i64 2,.slice none 4 [[i64 0,i64 1,.slice none 1 [[i64 0],[i64 1]],i64 1]],.slice none 10 []]
end Go.Proofs.YtabckmbjnjnegaaGreatDoor
namespace Go.Proofs.YtabckmbjnjnegaaGreatDoor
set_option linter.all false
set_option maxRecDepth 100000
open Go.Vm
noncomputable abbrev fin(c:Cs)(p:Sp)(f:Fl):Co:=cR c p f c.r.n.toNat
def akg{c:Cs}{l:List Int}{j:Int}:∀{m:Nat},(∀i,i<m->0<=nth l i/\nth l i<=1125899906842624)->0<=qF c l j m/\qF c l j m<=1125899906842624*m
 |0,_=>by simp[qF]
 |m+1,h=>by
  have:=akg (c:=c) (j:=j) λi hi=>h i (ZE hi);have:=h m (by omega)
  simp only[qF];split<;>omega
end Go.Proofs.YtabckmbjnjnegaaGreatDoor
namespace Go.Proofs.YtabckmbjnjnegaaGreatDoor
set_option linter.all false
set_option maxRecDepth 100000
open Go.Vm
attribute [local simp] mX mY lX mW
def Yp{a b:List Int}(h:a.length=b.length)(e:∀i,i<a.length->nth a i=nth b i):a=b:=by
 refine RS h λi h1 h2=>?_;have:=e i h1;simpa [nth,h1,h2] using this
def aAs(a b:List Int)(ha:a.length<=17592186044416)(G:List aM):aX F 38 [ints a,ints b] G=some (.bool (decide (a=b)),G) :=
 bD rfl rfl (by
  generalize hW:decide (a=b)=W;by_cases h1:a.length=b.length
  case neg =>
   have fA:¬ (a.length:Int)=b.length:=by omega
   simp (disch:=omega) [-getElem?_pos,U9,fA];rw[<-hW,decide_eq_false λh=>h1 (by rw[h])]
  have fA:(a.length:Int)=b.length:=by omega
  simp (disch:=omega) [-getElem?_pos,U9,fA];refine go_loop (λi:Nat=>arz (ints a) (ints b) b.length i G) (λi=>i<=a.length/\∀j,j<i->nth a j=nth b j) (λi=>a.length-i) 0 rfl (by simp) (by simp) ?_
  rintro i ⟨hi,hj⟩;simp (disch:=omega) [-getElem?_pos,adF];refine bO (λh5=>?_) (λh5=>?_)
  .have h5:i<b.length:=by omega
   have h6:i<a.length:=by omega
   by_cases h7:nth a i=nth b i
   .simp (disch:=omega) [-getElem?_pos,dQ (l:=a),dQ (l:=b),h7]
    exact bB' (i+1) ⟨by omega,λj nz=>by
     by_cases g:j=i
     .rw[g];exact h7
     .exact hj j (by omega)⟩
   .simp (disch:=omega) [-getElem?_pos,dQ (l:=a),dQ (l:=b),h7]
    rw[<-hW,decide_eq_false λh=>h7 (by rw[h])]
  .rw[<-hW,fJ (Yp h1 λj nz=>hj j (by omega))])
def akh(a b:List Int)(ha:a.length<=17592186044416)(G:List aM):aX F 80 [ints a,ints b] G=some (.bool (decide (a=b)),G) :=
 bD rfl rfl (by
  generalize hW:decide (a=b)=W;by_cases h1:a.length=b.length
  case neg =>
   have fA:¬ (a.length:Int)=b.length:=by omega
   simp (disch:=omega) [-getElem?_pos,Vu,fA];rw[<-hW,decide_eq_false λh=>h1 (by rw[h])]
  have fA:(a.length:Int)=b.length:=by omega
  simp (disch:=omega) [-getElem?_pos,Vu,fA];refine go_loop (λi:Nat=>asH (ints a) (ints b) b.length i G) (λi=>i<=a.length/\∀j,j<i->nth a j=nth b j) (λi=>a.length-i) 0 rfl (by simp) (by simp) ?_
  rintro i ⟨hi,hj⟩;simp (disch:=omega) [-getElem?_pos,aer];refine bO (λh5=>?_) (λh5=>?_)
  .have h5:i<b.length:=by omega
   have h6:i<a.length:=by omega
   by_cases h7:nth a i=nth b i
   .simp (disch:=omega) [-getElem?_pos,dQ (l:=a),dQ (l:=b),h7]
    exact bB' (i+1) ⟨by omega,λj nz=>by
     by_cases g:j=i
     .rw[g];exact h7
     .exact hj j (by omega)⟩
   .simp (disch:=omega) [-getElem?_pos,dQ (l:=a),dQ (l:=b),h7]
    rw[<-hW,decide_eq_false λh=>h7 (by rw[h])]
  .rw[<-hW,fJ (Yp h1 λj nz=>hj j (by omega))])
def QU(c:Cs)(p:Sp)(x:Ps)(j:Nat):Int:=nth p.a j+qF c x.cm j c.r.l.length
def lkP(c:Cs)(f g:Fl)(x:Ps)(i:Nat):Prop :=
 sm (nth g.w i) (nth g.w i).length-sm (nth f.w i) (nth f.w i).length=(nth c.r.l i).r.den*(nth x.lf (nth c.r.l i).f.toNat-nth x.cm i)
noncomputable def siQ(c:Cs)(f g:Fl)(p:Sp)(x:Ps)(i:Nat):Prop:=aiU (nth f.d i) (nth g.d i) (nth x.re i)/\(nth x.re i).inf=QU c p x (nth c.s i).n.toNat
noncomputable def Mv(c:Cs)(p:Sp)(x:Ps)(j:Nat):Int:=match ni c.s j with
 |none=>QU c p x j
 |some i=>sG (nth x.re i)
structure blL(c:Cs)(f g:Fl)(p:Sp)(x:Ps):Prop where
 c0:fm c=0
 f0:e8 c f
 g0:e8 c g
 p0:pX c p
 re:x.re.length=c.s.length
 lf:(x.lf.length:Int)=c.r.n
 cm:x.cm.length=c.r.l.length
structure blP(c:Cs)(f g:Fl)(p:Sp)(x:Ps):Prop where
 l:blL c f g p x
 all:fx (p.a++x.lf++x.cm) 274877906944
 lk:∀i,i<c.r.l.length->lkP c f g x i
 si:∀i,i<c.s.length->siQ c f g p x i
 le:∀j,j<c.r.n.toNat->nth x.lf j=Mv c p x j
noncomputable instance {c:Cs} {f g:Fl} {p:Sp} {x:Ps}:Decidable (blP c f g p x):=Classical.propDecidable _
structure Bn(p:Sp)(x:Ps):Prop where
 a:∀j,j<p.a.length->0<=nth p.a j/\nth p.a j<=274877906944
 lf:∀j,j<x.lf.length->0<=nth x.lf j/\nth x.lf j<=274877906944
 cm:∀j,j<x.cm.length->0<=nth x.cm j/\nth x.cm j<=274877906944
def Bn.ts{c:Cs}{p:Sp}{x:Ps}(h:Bn p x){j:Int}{m:Nat}(hm:m<=x.cm.length):0<=qF c x.cm j m/\qF c x.cm j m<=1125899906842624*m :=
 akg λi hi=>by have:=h.cm i (by omega);omega
def aAw{c:Cs}{l:List (List Int)}(h:FM c l){i:Nat}(hi:i<c.r.l.length):(nth l i).length<=40/\fx (nth l i) 2251799813685248:=by
 have a:=h.2 i hi;have:=(xb a.1).len;exact⟨by have:=a.2.1;omega,a.2.2.2⟩
end Go.Proofs.YtabckmbjnjnegaaGreatDoor
namespace Go.Proofs.YtabckmbjnjnegaaGreatDoor
set_option linter.all false
set_option maxRecDepth 100000
open Go.Vm
def FT{α:Type}[Inhabited α]{a b:List α}(h:a.length=b.length)(e:∀i,i<a.length->nth a i=nth b i):a=b:=by
 refine RS h λi h1 h2=>?_;have:=e i h1;simpa [nth,h1,h2] using this
def aAx(a b:Us):eD [0,0,1] a.row b.row=some (decide (a=b)):=by
 obtain⟨x,y,z⟩:=a;obtain⟨u,v,w⟩:=b;simp[eD,kc,Us.mk.injEq,Bool.decide_and,lX];cases z<;>cases w<;>simp
def aAy(a b:Gs):eD [0,1] a.row b.row=some (decide (a=b)):=by
 obtain⟨x,y⟩:=a;obtain⟨u,v⟩:=b;simp[eD,kc,Gs.mk.injEq,Bool.decide_and,lX];cases y<;>cases v<;>simp
noncomputable instance:DecidableEq Ds:=λ_ _=>Classical.propDecidable _
noncomputable instance:DecidableEq Fl:=λ_ _=>Classical.propDecidable _
def dsL(s:Ds):Prop:=s.u.length<=5864062014805/\s.g.length<=8796093022208
def flL(f:Fl):Prop:=(f.d.length<=1000000000/\∀i,i<f.d.length->dsL (nth f.d i))/\f.w.length<=1000000000/\∀i,i<f.w.length->(nth f.w i).length<=17592186044416
end Go.Proofs.YtabckmbjnjnegaaGreatDoor
namespace Go.Proofs.YtabckmbjnjnegaaGreatDoor
set_option linter.all false
set_option maxRecDepth 100000
open Go.Vm
attribute [local simp] mX mY lX mW
def aAz(a b:List (List Int))(ha:a.length<=17592186044416)(h:∀i,i<a.length->(nth a i).length<=17592186044416)(G:List aM):aX F 37 [og a,og b,.fn 38 []] G=some (.bool (decide (a=b)),G) :=
 bD rfl rfl (by
  generalize hW:decide (a=b)=W;by_cases h1:a.length=b.length
  case neg =>
   have fA:¬ (a.length:Int)=b.length:=by omega
   simp (disch:=omega) [-getElem?_pos,U8,fA];rw[<-hW,decide_eq_false λh=>h1 (by rw[h])]
  have fA:(a.length:Int)=b.length:=by omega
  simp (disch:=omega) [-getElem?_pos,U8,fA];refine go_loop (λi:Nat=>arx (og b) (.fn 38 []) (og a) b.length i G) (λi=>i<=a.length/\∀j,j<i->nth a j=nth b j) (λi=>a.length-i) 0 rfl (by simp) (by simp) ?_
  rintro i ⟨hi,hj⟩;simp (disch:=omega) [-getElem?_pos,adE];refine bO (λh5=>?_) (λh5=>?_)
  .have h5:i<b.length:=by omega
   have h6:i<a.length:=by omega
   have he:=aAs (nth a i) (nth b i) (h i h6);by_cases h7:nth a i=nth b i
   .rw[fJ h7]at he
    simp (disch:=omega) [-getElem?_pos,bc (l:=a),bc (l:=b),he];exact bB' (i+1) ⟨by omega,λj nz=>by
     by_cases g:j=i
     .rw[g];exact h7
     .exact hj j (by omega)⟩
   .rw[decide_eq_false h7]at he
    simp (disch:=omega) [-getElem?_pos,bc (l:=a),bc (l:=b),he];rw[<-hW,decide_eq_false λh=>h7 (by rw[h])]
  .rw[<-hW,fJ (FT h1 λj nz=>hj j (by omega))])
instance:DecidableEq Pn:=λa b=>decidable_of_iff (a.f=b.f/\a.l=b.l) ⟨λh=>by cases a;cases b;simp_all,λh=>by rw[h];exact⟨rfl,rfl⟩⟩
def Yq(a b:Pn)(ha:a.l.length<=17592186044416)(h:∀i,i<a.l.length->(nth a.l i).length<=17592186044416)(G:List aM):aX F 15 [pn a,pn b] G=some (.bool (decide (a=b)),G) :=
 bD rfl rfl (by
  have he:=aAz a.l b.l ha h;obtain⟨f,l⟩:=a;obtain⟨g,m⟩:=b;simp only at he;by_cases h1:f=g
  .subst h1
   rw[show decide ((⟨f,l⟩:Pn)=⟨f,m⟩)=decide (l=m) by simp]
   simp[UX,he]
  .rw[show decide ((⟨f,l⟩:Pn)=⟨g,m⟩)=false by simp[h1]]
   simp[UX,he,h1])
abbrev yu:Cs:=⟨⟨1,[]⟩,[]⟩
abbrev Cp:Fl:=⟨0,[],[]⟩
abbrev zS:Pn:=⟨0,[]⟩
def aAA:kT yu.r=0:=by
 unfold kT;rw[ax (by decide)]
 rfl
def akm:fm yu=0:=by
 unfold fm;rw[ax (λg=>g aAA),ax (by decide),ax (by decide)]
 rfl
def Yr:jO yu.r:=⟨by decide,λi hi=>by simp at hi⟩
def Ys:mf Cp:=λi=>A6 _
def akn:e8 yu Cp:=⟨by decide,⟨rfl,by simp⟩,rfl,λi hi=>by simp at hi⟩
def aAB:vi yu zS=0:=by
 unfold vi;rw[ax (λg=>g akm),aJ (by decide),ax (by decide)]
 rfl
def ako:jr yu Cp zS ([]:List Sp).length=0:=by
 unfold jr;rw[ax (λg=>g aAB),aJ akn,aJ (show zS.f=Cp.t from rfl),aJ (show([]:List Sp).length=zS.l.length from rfl)]
def aAC:lu yu Cp=0:=by unfold lu;rw[ax (λg=>g akm),aJ akn]
def akp:gK yu Cp []=0:=by
 unfold gK;rw[ax (λg=>g aAC),ax (by simp)]
 rfl
def akq:xg yu Cp zS []=0:=by
 unfold xg;rw[ax (λg=>g ako)];exact akp
def aAD(G:List aM):aX F 17 [.agg [i64 4,.slice none 1 [[.slice none 1 [[i64 1]]],[.slice none 1 [[i64 2]]]]],i64 5] G=some (.tuple [.slice none 1 [[i64 2]],.bool true],G) :=
 bD rfl rfl (by
  have h:=Qz [2] (by simp)
  simp only[ints,nT,Gp]at h;simp[HP,h])
def aAE:∃G',aX F 24 [cs yu,fl Cp,.slice none 1 [],pn zS,gu []] []=some (.tuple [.agg [i64 0,.slice none 1 []],.slice none 4 [],i64 0],G'):=by
 suffices h:gz (aX F) 24 [cs yu,fl Cp,.slice none 1 [],pn zS,gu []] [] λv _=>v=.tuple [.agg [i64 0,.slice none 1 []],.slice none 4 [],i64 0] by
  obtain⟨_,G,h,rfl⟩:=h;exact⟨G,h⟩
 refine gN rfl rfl ?_;have h1:∀g G,aX F 41 [.agg [i64 1,.slice none 4 [],.slice none 10 [],i64 0,.slice none 1 [],.fn 49 g],.agg [i64 0,.slice none 4 [],.slice none 1 []],.slice none 3 []] G=some (i64 0,G):=λg G=>by
  have:=IS yu Yr Ys zS 49 g [] G;rw[ako]at this;exact this
 obtain⟨G0,h2⟩:=aj0 Yr Ys [] (by simp)
 rw[lJ,aJ akp]at h2;replace h2:aX F 69 [.agg [i64 1,.slice none 4 [],.slice none 10 []],.agg [i64 0,.slice none 4 [],.slice none 1 []],.slice none 3 []] []=some (.tuple [.agg [i64 0,.slice none 4 [],.slice none 1 []],.slice (some 0) 3 [],i64 0],G0):=h2;have h3:∀G,aX F 51 [.agg [i64 1,.slice none 4 [],.slice none 10 []],.slice none 1 []] G=some (i64 0,G):=λG=>bD rfl rfl (by
  simp[O0];rw[adU,AB];simp[Vg])
 have h4:∀G,aX F 42 [.agg [i64 1,.slice none 4 [],.slice none 10 [],i64 0,.slice none 1 [],.fn 49 [.bu 0 0,.bu 1 0,.bu 3 0,.bu 2 0]],.agg [i64 0,.slice none 4 [],.slice none 1 []],.slice none 3 []] G=some (.tuple [.agg [i64 0,.slice none 4 [],.slice none 1 []],.slice (some 0) 3 [],i64 0],G):=λG=>bD rfl rfl (by
  simp[Vb,h2];rw[adH,AB];simp[Va])
 simp[DF,h1,h3,h4]
def aAF:∃G',aX F 4 [] []=some (.bool true,G'):=by
 suffices h:gz (aX F) 4 [] [] λv _=>v=.bool true by
  obtain⟨_,G,h,rfl⟩:=h;exact⟨G,h⟩
 refine gN rfl rfl ?_;obtain⟨X,x,_,h1⟩:=aj7 Yr Ys zS [] [];rw[x akq,aAm akq]at h1;replace h1:aX F 20 [.agg [i64 1,.slice none 4 [],.slice none 10 []],.agg [i64 0,.slice none 4 [],.slice none 1 []],.agg [i64 0,.slice none 1 []],.slice none 3 []] []=some (.tuple [.agg [i64 0,.slice none 4 [],.slice none 1 []],.slice (some 0) 3 [],i64 0],[]):=h1;obtain⟨G2,h2⟩:=aAE;have h3:=Yq zS zS (by simp) (λi hi=>by simp at hi)
 simp only[pn,Pn.row,og,cs,Cs.row,pW,ru,fl,Fl.row,zM,gu,Gp]at h2 h3;simp[acW,h1,h2,aAD,h3]
def fP(n m:Int):Bool:=decide (0<=n)&&decide (n<=m)
def wq{n m:Int}:fP n m=true<->0<=n/\n<=m:=by simp[fP]
def FU(n m:Int)(G:List aM):aX F 147 [i64 n,i64 m] G=some (.bool (fP n m),G):=dZ n m G
structure Cd where
 rk:Int
 kd:Int
 v:Int
 f:Int
 t:Int
 a:Int
 b:Int
abbrev Cd.row(c:Cd):List V:=[i64 c.rk,i64 c.kd,i64 c.v,i64 c.f,i64 c.t,i64 c.a,i64 c.b]
abbrev dB(l:List Cd):V:=.slice none 7 (l.map Cd.row)
instance:Inhabited Cd:=⟨⟨0,0,0,0,0,0,0⟩⟩
def QV(d:Int)(G:List aM):aX F 174 [i64 d] G=some (.bool (fP d 364),G) :=
 bD rfl rfl (by simp[af3,FU])
def akr(f t:Int)(G:List aM):aX F 172 [.agg [i64 f,i64 t]] G=some (.bool (fP f 364&&fP t 364),G) :=
 bD rfl rfl (by
  have h1:=QV f;have h2:=QV t;cases e1:fP f 364<;>rw[e1]at h1
  .simp[V6,h1]
  .simp[V6,h1,h2])
def Cq(f t d:Int):Bool:=if (fP f 364&&fP t 364&&fP d 364)=true then (if f<=t then decide (f<=d)&&decide (d<=t) else decide (f<=d) || decide (d<=t)) else false
def aAG(f t d:Int)(G:List aM):aX F 208 [.agg [i64 f,i64 t],i64 d] G=some (.bool (Cq f t d),G) :=
 bD rfl rfl (by
  generalize hW:Cq f t d=W;unfold Cq at hW;have h1:=akr f t;have h2:=QV d;cases e1:(fP f 364&&fP t 364)<;>rw[e1]at h1 hW
  .rw[ax (by simp)]at hW
   simp[Fj,h1];exact hW.symm
  cases e2:fP d 364<;>rw[e2]at h2 hW
  .rw[ax (by simp)]at hW
   simp[Fj,h1,h2];exact hW.symm
  rw[aJ (by simp)]at hW
  by_cases h3:f<=t
  .rw[aJ h3]at hW
   by_cases h4:f<=d
   .simp[Fj,h1,h2,h3,h4]
    simpa [h4] using hW
   .simp[Fj,h1,h2,h3,h4]
    simpa [h4] using hW
  .rw[ax h3]at hW
   by_cases h4:f<=d
   .simp[Fj,h1,h2,h3,h4]
    simpa [h4] using hW
   .simp[Fj,h1,h2,h3,h4]
    simpa [h4] using hW)
def aAH(t:Int)(G:List aM):aX F 123 [i64 t] G=some (.tuple (if fP t 16777216=true then [i64 ((t.tdiv 96).tmod 365),i64 0] else [i64 0,i64 6]),G) :=
 bD rfl rfl (by
  have h1:∀G,aX F 166 [i64 t] G=some (.tuple (if fP t 16777216=true then [i64 (t.tdiv 35040),i64 ((t.tdiv 96).tmod 365),i64 (t.tmod 96),i64 0] else [i64 0,i64 0,i64 0,i64 6]),G):=λG=>bD rfl rfl (by
   have h2:=FU t 16777216;cases e:fP t 16777216<;>rw[e]at h2
   .simp (disch:=omega) [V4,h2]
   .have h3:=wq.1 e
    have q1:0<=t.tdiv 35040/\t.tdiv 35040<=16777216:=by rw[uh h3.1];omega
    have q2:0<=t.tdiv 96/\t.tdiv 96<=16777216:=by rw[uh h3.1];omega
    simp (disch:=omega) [V4,h2])
  cases e:fP t 16777216<;>rw[e]at h1
  .simp (disch:=omega) [VQ,h1]
  .simp (disch:=omega) [VQ,h1])
def nQ(c:Cd):Int :=
 if c.rk<1\/9<c.rk then 1 else if c.kd<1\/4<c.kd then 5
 else if (fP c.v 1073741824&&(fP c.f 364&&fP c.t 364)&&fP c.a 16777216&&fP c.b 16777216&&decide (c.a<=c.b))=true then 0 else 1
def aks(n:Int)(G:List aM):aX F 171 [i64 n] G=some (.bool (fP n 16777216),G) :=
 bD rfl rfl (by simp[af2,FU])
def Yt(c:Cd)(G:List aM):aX F 127 [.agg c.row] G=some (i64 (nQ c),G) :=
 bD rfl rfl (by
  generalize hW:nQ c=W;unfold nQ at hW;by_cases h1:c.rk<1
  .rw[aJ (.inl h1)]at hW
   simp[zD,h1];exact hW
  by_cases h2:9<c.rk
  .rw[aJ (.inr h2)]at hW
   simp[zD,h1,h2];exact hW
  rw[ax']at hW
  by_cases h3:c.kd<1
  .rw[aJ (.inl h3)]at hW
   simp[zD,h1,h2,h3];exact hW
  by_cases h4:4<c.kd
  .rw[aJ (.inr h4)]at hW
   simp[zD,h1,h2,h3,h4];exact hW
  rw[ax']at hW
  have w1:=FU c.v 1073741824;have w2:=akr c.f c.t;have w3:=aks c.a;have w4:=aks c.b;cases e1:fP c.v 1073741824<;>rw[e1]at w1 hW
  .rw[ax (by simp)]at hW
   simp[zD,h1,h2,h3,h4,w1];exact hW
  cases e2:(fP c.f 364&&fP c.t 364)<;>rw[e2]at w2 hW
  .rw[ax (by simp)]at hW
   simp[zD,h1,h2,h3,h4,w1,w2];exact hW
  cases e3:fP c.a 16777216<;>rw[e3]at w3 hW
  .rw[ax (by simp)]at hW
   simp[zD,h1,h2,h3,h4,w1,w2,w3];exact hW
  cases e4:fP c.b 16777216<;>rw[e4]at w4 hW
  .rw[ax (by simp)]at hW
   simp[zD,h1,h2,h3,h4,w1,w2,w3,w4];exact hW
  by_cases h5:c.b<c.a
  .rw[ax (by simp;omega)]at hW
   simp[zD,h1,h2,h3,h4,w1,w2,w3,w4,h5];exact hW
  .rw[aJ (by simp;omega)]at hW
   simp[zD,h1,h2,h3,h4,w1,w2,w3,w4,h5];exact hW)
def oP(l:List Cd):Int:=if 200<l.length then 10 else dH (λi=>nQ (nth l i)) l.length 0
def akt(l:List Cd)(G:List aM):aX F 83 [dB l] G=some (i64 (oP l),G) :=
 bD rfl rfl (by
  generalize hW:oP l=W;unfold oP at hW;by_cases h1:200<l.length
  .rw[aJ h1]at hW
   have fA:(200:Int)<l.length:=by omega
   simp (disch:=omega) [-getElem?_pos,Vv,fA];exact hW
  rw[ax h1]at hW;have fA:¬ (200:Int)<l.length:=by omega
  simp (disch:=omega) [-getElem?_pos,Vv,fA];refine go_loop (λi:Nat=>asJ (dB l) l.length i G) (λi=>i<=l.length/\dH (λi=>nQ (nth l i)) (l.length-i) i=W) (λi=>l.length-i) 0 rfl (by simp) ⟨by omega,hW⟩ ?_
  rintro i ⟨hi,hq⟩;simp (disch:=omega) [-getElem?_pos,aeu];refine bO (λh3=>?_) (λh3=>?_)
  .have h3:i<l.length:=by omega
   rw[kl h3]at hq;have h4:=Yt (nth l i);by_cases h5:nQ (nth l i)=0
   .rw[aJ h5]at hq
    simp (disch:=omega) [-getElem?_pos,bc (l:=l),h4,h5];exact bB' (i+1) ⟨by omega,hq⟩
   .rw[ax h5]at hq
    simp (disch:=omega) [-getElem?_pos,bc (l:=l),h4,h5];exact hq
  .obtain rfl:i=l.length:=by omega
   rw[l7]at hq;exact hq)
def D5(c:Cd)(day level:Int):Bool:=decide (nQ c=0)&&Cq c.f c.t day&&decide (c.a<=level)&&decide (level<=c.b)
def aAI(c:Cd)(day level:Int)(G:List aM):aX F 179 [.agg c.row,i64 day,i64 level] G=some (.bool (D5 c day level),G) :=
 bD rfl rfl (by
  generalize hW:D5 c day level=W;unfold D5 at hW;have w1:=Yt c;have w2:=aAG c.f c.t day;by_cases h1:nQ c=0
  case neg =>
   simp[Lq,w1,h1];simpa [h1] using hW
  cases e2:Cq c.f c.t day<;>rw[e2]at w2 hW
  .simp[Lq,w1,h1,w2]
   simpa [h1] using hW
  by_cases h3:c.a<=level
  .simp[Lq,w1,h1,w2,h3]
   simpa [h1,h3] using hW
  .simp[Lq,w1,h1,w2,h3]
   simpa [h1,h3] using hW)
def mg(c:Cd)(before:Int):Int×Int :=
 if c.kd=1 then (c.v,1073741824) else if c.kd=2 then (0,c.v) else if c.kd=3 then (0,min (before+c.v) 1073741824) else (max (before-c.v) 0,1073741824)
def aku(c:Cd)(before:Int)(hk:1<=c.kd/\c.kd<=4)(hv:0<=c.v/\c.v<=1073741824)(hb:0<=before/\before<=1073741824)(G:List aM) :
  aX F 180 [.agg c.row,i64 before] G=some (.agg [i64 (mg c before).1,i64 (mg c before).2],G) :=
 bD rfl rfl (by
  rcases (by omega:c.kd=1\/c.kd=2\/c.kd=3\/c.kd=4) with h|h|h|h
  .simp (disch:=omega) [Lr,h,mg]
  .simp (disch:=omega) [Lr,h,mg]
  .simp (disch:=omega) [Lr,h,mg]
  .simp (disch:=omega) [Lr,h,mg])
end Go.Proofs.YtabckmbjnjnegaaGreatDoor
namespace Go.Vm
set_option linter.all false
end Go.Vm
namespace Go.Chs
set_option linter.all false
open Go.Vm
structure Ch where
 lo:Int
 hi:Int
 lb:Int
 hb:Int
 ys:List (Nat×Int)
 up:Bool
def rA(b:Nat->Int×Int)(c:Ch)(i:Nat):Ch :=
 if (b i).2<c.lo then { c with ys:=c.ys++[(i,c.lb)] }
 else if c.hi<(b i).1 then { c with ys:=c.ys++[(i,c.hb)],up:=c.up || c.ys.isEmpty }
 else { c with lo:=max (b i).1 c.lo,lb:=if max (b i).1 c.lo=c.lo then c.lb else i,hi:=min (b i).2 c.hi,hb:=if min (b i).2 c.hi=c.hi then c.hb else i }
def nj(b:Nat->Int×Int)(A:List Nat)(c:Ch):Ch:=A.foldl (rA b) c
def oo(lo hi:Int):Ch:=⟨lo,hi,-1,-1,[],false⟩
def Cr(w lo hi:Int):Int:=if w<lo then lo else if hi<w then hi else w
def rC(c:Ch)(w:Int):Int:=if c.ys=[] then Cr w c.lo c.hi else if c.up then c.hi else c.lo
def out(b:Nat->Int×Int)(c:Ch)(i:Nat):Bool:=decide ((b i).2<c.lo\/c.hi<(b i).1)
structure Inv(b:Nat->Int×Int)(qG oQ:Int)(P:List Nat)(c:Ch):Prop where
 a:qG<=c.lo
 m:c.lo<=c.hi
 z:c.hi<=oQ
 ys:c.ys.map (·.1)=P.filter (out b c)
 Mw:∀i∈P,out b c i=false->(b i).1<=c.lo/\c.hi<=(b i).2
 lb:c.lb = -1\/∃j∈P,c.lb=(j:Nat)/\out b c j=false
 hb:c.hb = -1\/∃j∈P,c.hb=(j:Nat)/\out b c j=false
 Yu:∀(k i:Nat) (y:Int),c.ys[k]?=some (i,y)->y = -1\/∃(j:Nat) (p q:Nat),y=(j:Int)/\out b c j=false/\P[p]?=some j/\P[q]?=some i/\p<q
variable{lo hi:Int}
def aAJ{b:Nat->Int×Int}(h:lo<=hi):Inv b lo hi [] (oo lo hi) :=
 ⟨vk _,h,vk _,rfl,λi hi=>(by cases hi),.inl rfl,.inl rfl,λk i y h=>by simp[oo]at h⟩
variable{qG oQ:Int}{P:List Nat}
def NV{b:Nat->Int×Int}(hb:∀i,(b i).1<=(b i).2){c:Ch}(h:Inv b qG oQ P c)(i:Nat):Inv b qG oQ (P++[i]) (rA b c i):=by
 have Hp:=hb i;obtain⟨a,m,z,ys,Mw,lb,Yv,Yu⟩:=h;have ext:∀(k:Nat) j,P[k]?=some j->(P++[i])[k]?=some j:=λk j hk=>by
  rw[nR (mK.1 hk).1];exact hk
 have last:(P++[i])[P.length]?=some i:=by simp[Er]
 have lQ:∀c':Ch,c'.lo=c.lo->c'.hi=c.hi->out b c'=out b c:=λc' e1 e2=>by funext j;simp[out,e1,e2]
 have yld:∀(x:Int) (u:Bool),out b c i=true->(x = -1\/∃j∈P,x=(j:Nat)/\out b c j=false)->Inv b qG oQ (P++[i]) { c with ys:=c.ys++[(i,x)],up:=u }:=λx u ho hx=>by
  have e:=lQ { c with ys:=c.ys++[(i,x)],up:=u } rfl rfl;refine⟨a,m,z,?_,?_,?_,?_,?_⟩
  .rw[e];simp[ys,xp,ho]
  .rw[e]
   intro j hj hn;rcases ka.1 hj with hj|hj
   .exact Mw j hj hn
   .rw[qf.1 hj,ho]at hn;cases hn
  .rw[e]
   exact lb.imp id λ⟨j,h1,h2⟩=>⟨j,CK _ h1,h2⟩
  .rw[e]
   exact Yv.imp id λ⟨j,h1,h2⟩=>⟨j,CK _ h1,h2⟩
  .rw[e]
   intro k i' y hk;simp only at hk;rw[rP]at hk;split at hk
   .exact(Yu k i' y hk).imp id λ⟨j,p,q,h1,h2,h3,h4,h5⟩=>⟨j,p,q,h1,h2,ext _ _ h3,ext _ _ h4,h5⟩
   next bJ=>
    have wV:k-c.ys.length=0:=by
     rcases nV (k-c.ys.length) with g|g
     .exact g
     .rw[kW (by simp;omega)]at hk;cases hk
    rw[wV]at hk;simp at hk;obtain⟨rfl,rfl⟩:=hk;refine hx.imp id λ⟨j,h1,h2,h3⟩=>?_;obtain⟨p,hp⟩:=lN.1 h1;exact⟨j,p,P.length,h2,h3,ext _ _ hp,last,(mK.1 hp).1⟩
 unfold rA;split
 next h1=>
  exact yld c.lb c.up (by simp[out,h1]) lb
 next h1=>
  split
  next h2=>
   exact yld c.hb _ (by simp[out,h2]) Yv
  next h2=>
   generalize tK:({ c with lo:=max (b i).1 c.lo,lb:=if max (b i).1 c.lo=c.lo then c.lb else i,hi:=min (b i).2 c.hi,hb:=if min (b i).2 c.hi=c.hi then c.hb else i }:Ch)=c'
   have FV:c'.lo=max (b i).1 c.lo:=by rw[<-tK]
   have FW:c'.hi=min (b i).2 c.hi:=by rw[<-tK]
   have eys:c'.ys=c.ys:=by rw[<-tK]
   have elb:c'.lb=if max (b i).1 c.lo=c.lo then c.lb else i:=by rw[<-tK]
   have ehb:c'.hb=if min (b i).2 c.hi=c.hi then c.hb else i:=by rw[<-tK]
   have Yw:out b c' i=false:=by simp only[out,FV,FW,decide_eq_false_iff_not];omega
   have keep:∀j∈P,out b c' j=out b c j:=λj hj=>by
    have hbj:=hb j;cases ho:out b c j with
    |true =>
     simp only[out,jD]at ho ⊢;rw[FV,FW];omega
    |false =>
     obtain⟨q1,q2⟩:=Mw j hj ho;simp only[out,decide_eq_false_iff_not]at ho ⊢;rw[FV,FW];omega
   refine⟨by rw[FV];omega,by rw[FV,FW];omega,by rw[FW];omega,?_,?_,?_,?_,?_⟩
   .rw[eys,ys,xp,M5,Yw]
    simp only[Gk,if_false,List.filter_nil,vl];exact(Jk keep).symm
   .intro j hj hn
    rcases ka.1 hj with hj|hj
    .rw[keep j hj]at hn
     obtain⟨q1,q2⟩:=Mw j hj hn;rw[FV,FW];omega
    .rw[qf.1 hj,FV,FW];omega
   .rw[elb]
    split
    .exact lb.imp id λ⟨j,h1,h2,h3⟩=>⟨j,CK _ h1,h2,by rw[keep j h1];exact h3⟩
    .exact .inr ⟨i,by simp,rfl,Yw⟩
   .rw[ehb]
    split
    .exact Yv.imp id λ⟨j,h1,h2,h3⟩=>⟨j,CK _ h1,h2,by rw[keep j h1];exact h3⟩
    .exact .inr ⟨i,by simp,rfl,Yw⟩
   .rw[eys]
    intro k i' y hk;exact(Yu k i' y hk).imp id λ⟨j,p,q,h1,h2,h3,h4,h5⟩=>⟨j,p,q,h1,by rw[keep j (gw h3)];exact h2,ext _ _ h3,ext _ _ h4,h5⟩
def akx{b:Nat->Int×Int}(hb:∀i,(b i).1<=(b i).2){qG oQ:Int}:∀(A:List Nat) {P:List Nat} {c:Ch},Inv b qG oQ P c->Inv b qG oQ (P++A) (nj b A c)
 |[],P,c,h=>by simpa [nj] using h
 |i::A,P,c,h=>by
  have:=akx hb A (NV hb h i);rw[ov]at this;exact this
def aky{b:Nat->Int×Int}(hb:∀i,(b i).1<=(b i).2)(h:lo<=hi)(A:List Nat):Inv b lo hi A (nj b A (oo lo hi)):=akx hb A (aAJ h)
def aAN{b:Nat->Int×Int}{c:Ch}(h:Inv b qG oQ P c)(w:Int):c.lo<=rC c w/\rC c w<=c.hi:=by
 have:=h.m;unfold rC Cr
 repeat' split
 all_goals omega
def keeps(b:Nat->Int×Int)(r:Int)(i:Nat):Bool:=decide ((b i).1<=r)&&decide (r<=(b i).2)
variable{r:Int}
def aAO{b:Nat->Int×Int}{c:Ch}(h:Inv b qG oQ P c)(h1:c.lo<=r)(h2:r<=c.hi){i:Nat}(hi:i∈P):keeps b r i = !out b c i:=by
 have hm:=h.m;cases ho:out b c i with
 |true =>
  simp only[out,jD]at ho;simp only[keeps,RG,Bool.and_eq_false_iff,decide_eq_false_iff_not];omega
 |false =>
  obtain⟨q1,q2⟩:=h.Mw i hi ho;simp only[keeps,RF,bZ,jD];omega
def aAP{b:Nat->Int×Int}{c:Ch}(h:Inv b qG oQ P c)(h1:c.lo<=r)(h2:r<=c.hi):P.filter (λi => !keeps b r i)=c.ys.map (·.1):=by
 rw[h.ys];refine Jk λi hi=>?_;rw[aAO h h1 h2 hi,Bool.not_not]
def qH(rk:Nat->Int)(x:Nat):List Nat->List Nat
 |[]=>[x]
 |y::ys=>if rk x<rk y then x::y::ys else y::qH rk x ys
def iM(rk:Nat->Int)(l:List Nat):List Nat:=l.foldl (λo x=>qH rk x o) []
def Ord(rk:Nat->Int)(a b:Nat):Prop:=rk a<rk b\/rk a=rk b/\a<b
def QW{rk:Nat->Int}{x z:Nat}:∀{l:List Nat},z∈qH rk x l<->z=x\/z∈l
 |[]=>by simp[qH]
 |y::ys=>by
  unfold qH;split
  .simp
  .simp[QW (l:=ys)]
   constructor
   .rintro (h|h|h)<;>simp[h]
   .rintro (h|h|h)<;>simp[h]
def Yx{rk:Nat->Int}{x:Nat}:∀{l:List Nat},l.Pairwise (Ord rk)->(∀y∈l,y<x)->(qH rk x l).Pairwise (Ord rk)
 |[],_,_=>by simp[qH]
 |y::ys,h,hx=>by
  obtain⟨h1,h2⟩:=rU.1 h;have hyx:=hx y (by simp)
  unfold qH;split
  next bJ=>
   refine rU.2 ⟨λz hz=>?_,h⟩;rcases iA.1 hz with rfl|hz
   .exact .inl bJ
   .rcases h1 z hz with g | ⟨g,_⟩
    .exact .inl (by omega)
    .exact .inl (by omega)
  next bJ=>
   refine rU.2 ⟨λz hz=>?_,Yx h2 λy hy=>hx y (by simp[hy])⟩
   rcases QW.1 hz with rfl|hz
   .by_cases e:rk y=rk z
    .exact .inr ⟨e,hyx⟩
    .exact .inl (by omega)
   .exact h1 z hz
variable{l:List Nat}{x:Nat}
def QX{rk:Nat->Int}:iM rk (l++[x])=qH rk x (iM rk l):=by simp[iM]
def FX{rk:Nat->Int}:∀n:Nat,(iM rk (List.range n)).Pairwise (Ord rk)/\∀z,z∈iM rk (List.range n)<->z<n
 |0=>by simp[iM]
 |n+1=>by
  obtain⟨h1,h2⟩:=FX (rk:=rk) n;rw[CL,QX];refine⟨Yx h1 λy hy=>(h2 y).1 hy,λz=>?_⟩;rw[QW,h2];omega
def Yy{α:Type}{R:α->α->Prop}:∀{l:List α},l.Pairwise R->∀{p q:Nat} {a b:α},l[p]?=some a->l[q]?=some b->p<q->R a b
 |[],_,p,q,a,b,h,_,_=>by simp at h
 |x::xs,h,p,q,a,b,ha,hb,xM=>by
  obtain⟨h1,h2⟩:=rU.1 h;obtain⟨q,rfl⟩:∃k,q=k+1:=⟨q-1,by omega⟩
  simp only[CI]at hb;cases p with
  |zero=>simp at ha;subst ha;exact h1 b (gw hb)
  |succ p=>simp only[CI]at ha;exact Yy h2 ha hb (by omega)
def IX(rk:Nat->Int)(ap:Nat->Bool)(n:Nat):List Nat:=(iM rk (List.range n)).filter ap
variable{ap:Nat->Bool}{n:Nat}
def akz{rk:Nat->Int}:(IX rk ap n).Pairwise (Ord rk):=(FX n).1.sublist Zo
def aAR{rk:Nat->Int}{z:Nat}(h:z∈IX rk ap n):z<n:=((FX n).2 z).1 (vq.1 h).1
def akA{rk:Nat->Int}{x:Nat}:∀{P Q:List Nat},(∀y∈P,¬ rk x<rk y)->(∀y∈Q,rk x<rk y)->qH rk x (P++Q)=P++x::Q
 |[],[],_,_=>rfl
 |[],y::Q,_,h=>by simp[qH,h y (by simp)]
 |p::P,Q,h,h2=>by
  rw[vm,qH,ax (h p (by simp)),akA (λy hy=>h y (by simp[hy])) h2]
  rfl
def akB{rk:Nat->Int}{A:List Nat}(hs:A.Pairwise (Ord rk)){j:Nat}(hj:j<=A.length)(h1:∀k y,j<=k->A[k]?=some y->rk x<rk y)
  (h2:∀y,0<j->A[j-1]?=some y->¬ rk x<rk y):qH rk x A=A.take j++x::A.drop j:=by
 conv=>lhs;rw[<-List.take_append_drop j A]
 refine akA (λy hy=>?_) λy hy=>?_
 .obtain⟨k,hk⟩:=lN.1 hy
  rw[jP]at hk;split at hk
  next hkj=>
   have hz:A[j-1]?=some (A[j-1]'(by omega)):=eV _
   have:=h2 _ (by omega) hz
   by_cases e:k=j-1
   .subst e;rw[hz]at hk;cases hk;exact this
   .rcases Yy hs hk hz (by omega) with g | ⟨g,_⟩<;>omega
  .cases hk
 .obtain⟨k,hk⟩:=lN.1 hy
  rw[mJ]at hk;exact h1 (j+k) y (by omega) hk
def akC{rk:Nat->Int}:iM rk (List.range (n+1))=qH rk n (iM rk (List.range n)):=by rw[CL,QX]
def Yz{rk:Nat->Int}{x:Nat}:∀{l:List Nat},(qH rk x l).length=l.length+1
 |[]=>rfl
 |y::ys=>by
  unfold qH;split
  .rfl
  .simp[Yz (l:=ys)]
def IY{rk:Nat->Int}:∀n:Nat,(iM rk (List.range n)).length=n
 |0=>rfl
 |n+1=>by rw[akC,Yz,IY n]
def akD{rk:Nat->Int}(h:l.Pairwise (Ord rk)):l.Nodup:=h.imp λ{a b} g e=>by
 rcases g with g | ⟨_,g⟩<;>subst e<;>omega
def akE{b:Nat->Int×Int}{c:Ch}(h:Inv b qG oQ P c)(hp:P.Nodup):(c.ys.map (·.1)).Nodup:=by
 rw[h.ys];exact hp.sublist Zo
def wu(ys:List (Nat×Int))(k:Nat):Int:=match ys with
 |[] => -2
 |(i,y)::ys=>if i=k then y else wu ys k
def akF:∀{ys:List (Nat×Int)},(ys.map (·.1)).Nodup->∀{i:Nat} {y:Int},(i,y)∈ys->wu ys i=y
 |[],_,i,y,h=>by cases h
 |(j,z)::ys,hn,i,y,h=>by
  obtain⟨h1,h2⟩:=R0.1 hn;unfold wu;rcases iA.1 h with e|h
  .cases e;rw[aJ rfl]
  .rw[ax (λe=>h1 (by subst e;exact nU.2 ⟨_,h,rfl⟩)),akF h2 h]
def aAS{ys:List (Nat×Int)}(hn:(ys.map (·.1)).Nodup):(ys.map (·.1)).map (λk=>(k,wu ys k))=ys:=by
 rw[zB]
 conv=>rhs;rw[<-List.map_id ys]
 refine M8 λp hp=>?_;obtain⟨i,y⟩:=p;simp[akF hn hp]
structure QY(b:Nat->Int×Int)(c:Ch)(f:Int×Int):Prop where
 up:c.ys≠[]->c.up=true->c.hi<f.1
 dn:c.ys≠[]->c.up=false->f.2<c.lo
 le:f.1<=f.2
 nu:c.ys=[]->c.up=false
variable{f:Int×Int}
def aAU{b:Nat->Int×Int}{c:Ch}(h:Inv b qG oQ P c)(hf:QY b c f)(w:Int) :
  rC c w=if c.ys=[] then Cr w c.lo c.hi else if f.2<c.lo then c.lo else c.hi:=by
 have hm:=h.m;have hl:=hf.le;unfold rC;by_cases hy:c.ys=[]
 .rw[aJ hy,aJ hy]
 .rw[ax hy,ax hy]
  cases hu:c.up with
  |true =>
   have:=hf.up hy hu;rw[aJ rfl,ax']
  |false =>
   have:=hf.dn hy hu;rw[ax (by simp),aJ this]
def aAV{b:Nat->Int×Int}(hb:∀i,(b i).1<=(b i).2){c:Ch}(h:Inv b qG oQ P c)(hf:QY b c f)(i:Nat) :
  QY b (rA b c i) (if out b c i=true/\c.ys=[] then b i else f):=by
 have Hp:=hb i;have hm:=h.m;obtain⟨u,d,l,nu⟩:=hf;unfold rA;split
 next h1=>
  have ho:out b c i=true:=by simp[out,h1]
  by_cases hy:c.ys=[]
  .rw[aJ ⟨ho,hy⟩]
   exact⟨λ_ hu=>(by rw[nu hy]at hu;cases hu),λ_ _=>h1,Hp,λ_=>nu hy⟩
  .rw[ax (λg=>hy g.2)]
   exact⟨λ_=>u hy,λ_=>d hy,l,λg=>by simp at g⟩
 next h1=>
  split
  next h2=>
   have ho:out b c i=true:=by simp[out,h2]
   by_cases hy:c.ys=[]
   .rw[aJ ⟨ho,hy⟩]
    refine⟨λ_ _=>h2,λ_ hd=>?_,Hp,λg=>by simp at g⟩
    simp[hy]at hd
   .rw[ax (λg=>hy g.2)]
    have e:c.ys.isEmpty=false:=by cases hc:c.ys<;>simp_all
    refine⟨λ_ hu=>u hy ?_,λ_ hd=>d hy ?_,l,λg=>by simp at g⟩
    .simpa [e] using hu
    .simpa [e] using hd
  next h2=>
   have ho:out b c i=false:=by simp only[out,decide_eq_false_iff_not];omega
   have ef:(if out b c i=true/\c.ys=[] then b i else f)=f:=ax λg=>by rw[ho]at g;cases g.1
   rw[ef];refine⟨λhy hu=>?_,λhy hd=>?_,l,nu⟩
   .have:=u hy hu;simp only;omega
   .have:=d hy hd;simp only;omega
end Go.Chs
namespace Go.Vm
set_option linter.all false
end Go.Vm
namespace Go.Chs
set_option linter.all false
open Go.Vm
variable {α:Type}
def fT(A:List α)(x:α)(j:Nat)(R:List α):List α:=A.take j++x::(A.drop j++R)
variable{A:List α}{j:Nat}
def YA{x:α}{R:List α}(h:j<=A.length):(fT A x j R).length=A.length+1+R.length:=by
 simp[fT];omega
def aAX{x:α}{R:List α}(h:j<=A.length):(fT A x j R)[j]?=some x:=by
 unfold fT;rw[wy (by simp;omega)]
 simp[CO h]
structure D6(p:α->Bool)(O L:List α)(i j:Nat):Prop where
 len:L.length=O.length
 le:i<=j
 t:L.take i=(O.take j).filter p
 d:L.drop j=O.drop j
variable{p:α->Bool}{O L:List α}{i:Nat}
def aAY{v:α}(h:D6 p O L i j)(hv:O[j]?=some v)(hp:p v=true):D6 p O (L.set i v) (i+1) (j+1):=by
 obtain⟨hl,hle,ht,hd⟩:=h;have hj:=(mK.1 hv).1;refine⟨by simpa using hl,by omega,?_,?_⟩
 .rw[uj,uj,hv,xp,<- ht]
  rw[lM,aJ rfl,aJ',ZC (b8 _)]
  simp[hp]
 .have e:L.drop (j+1)=O.drop (j+1):=by
   have:=congrArg (List.drop 1) hd;simpa [CF] using this
  rw[List.drop_set_of_lt (by omega)]
  exact e
def aAZ{v:α}(h:D6 p O L i j)(hv:O[j]?=some v)(hp:p v=false):D6 p O L i (j+1):=by
 obtain⟨hl,hle,ht,hd⟩:=h;refine⟨hl,by omega,?_,?_⟩
 .rw[uj,hv,xp,<- ht]
  simp[hp]
 .have:=congrArg (List.drop 1) hd
  simpa [CF] using this
def aA0(h:D6 p O L i j):L[j]?=O[j]?:=by
 have:=congrArg (λl=>l[0]?) h.d;simpa using this
def aA1(hi:i<O.length)(h1:∀k v,k<i->O[k]?=some v->p v=true)(h2:∀v,O[i]?=some v->p v=false):D6 p O O i (i+1):=by
 have hv:=eV hi;refine⟨rfl,by omega,?_,rfl⟩
 rw[uj,hv,xp,Gm.2 λv hv=>?_]
 .simp[h2 _ (eV hi)]
 .obtain⟨k,hk⟩:=lN.1 hv
  rw[jP]at hk;split at hk
  .exact h1 k v (by assumption) hk
  .cases hk
def aA2(h:D6 p O L i O.length):L.take i=O.filter p:=by rw[h.t,mL]
end Go.Chs
namespace Go.Proofs.YtabckmbjnjnegaaGreatDoor
set_option linter.all false
set_option maxRecDepth 100000
open Go.Vm Go.Chs
def Mx(x y:Int):Int:=if x<y then -1 else if y<x then 1 else 0
def nc(l:List Nat):List V:=dM (l.map λk:Nat=>(k:Int))
variable{l:List Nat}
@[simp] theorem aIF:(nc l).length=l.length:=by simp[nc,dM]
variable{i x:Nat}
def sH(h:l[i]?=some x):(nc l)[i]?=some (i64 (x:Int)):=by simp[nc,dM,h]
def My:(nc l).set i (i64 (x:Int))=nc (l.set i x):=by simp[nc,dM,Na]
@[simp] theorem aIG{d:Nat}:(nc l).all (λv => !v.cQ d)=true:=abM
def QZ:nc []=[]:=rfl
variable{n:Nat}
def aA3:nc (List.range n)++[i64 (n:Int)]=nc (List.range (n+1)):=by simp[nc,dM,CL]
def aA4(h:n=l.length):ju [none] (chunks 1 (nc l) 0 n)=some ((l.map λk:Nat=>(k:Int)).map λn=>[i64 n]):=OF (by simpa using h)
def aA5:((l.map λk:Nat=>(k:Int)).map λn=>[V.int .i64 n]).flatten=nc l:=by
 induction l with
 |nil=>rfl
 |cons a l ih=>simpa [nc,dM] using ih
def cZ(l:List Cd)(i:Nat):Int:=(nth l i).rk
def Q0{l:List Cd}{y:Nat}(hx:x<l.length)(hy:y<l.length)(A B C D:aM) :
  aX F 206 [i64 (x:Int),i64 (y:Int),.bu 3 0] [A,B,C,.cells [dB l],D]=some (i64 (Mx (cZ l x) (cZ l y)),[A,B,C,.cells [dB l],D]) :=
 bD rfl rfl (by
  simp (disch:=omega) [-getElem?_pos,agx,bc (l:=l),PS];rfl)
end Go.Proofs.YtabckmbjnjnegaaGreatDoor
namespace Go.Chs
set_option linter.all false
open Go.Vm
structure pZ(rk:Nat->Int)(L R:List Nat):Prop where
 s:R.Pairwise (Ord rk)
 m:∀z,z∈R<->z∈L
 n:R.length=L.length
def akG{rk:Nat->Int}{a b:Nat}(h:Ord rk a b)(h2:Ord rk b a):False:=by
 rcases h with h | ⟨h,h1⟩<;>rcases h2 with g | ⟨g,g1⟩<;>omega
def akH{rk:Nat->Int}:∀{l m:List Nat},l.Pairwise (Ord rk)->m.Pairwise (Ord rk)->(∀z,z∈l<->z∈m)->l=m
 |[],[],_,_,_=>rfl
 |[],y::m,_,_,h=>by have:=(h y).2 (by simp);simp at this
 |x::l,[],_,_,h=>by have:=(h x).1 (by simp);simp at this
 |x::l,y::m,h1,h2,h=>by
  obtain⟨a1,a2⟩:=rU.1 h1;obtain⟨b1,b2⟩:=rU.1 h2;have e:x=y:=by
   rcases iA.1 ((h x).1 (by simp)) with g|g
   .exact g
   .rcases iA.1 ((h y).2 (by simp)) with k|k
    .exact k.symm
    .exact(akG (b1 x g) (a1 y k)).elim
  subst e;have nd:∀{l:List Nat},(∀z∈l,Ord rk x z)->x∉l:=λg k=>akG (g x k) (g x k);rw[akH a2 b2 λz=>?_];by_cases e:z=x
  .subst e
   exact⟨λg=>(nd a1 g).elim,λg=>(nd b1 g).elim⟩
  .have:=h z
   simpa [e] using this
variable{k:Nat}
def aA6{rk:Nat->Int}{x:Nat}{B:List Nat}(hB:B.Pairwise (Ord rk))(hx:∀y∈B,x<y)(h1:∀y∈B.take k,rk y<rk x)(h2:∀y∈B.drop k,rk x<=rk y):pZ rk ([x]++B) (B.take k++x::B.drop k):=by
 have hm:∀z,z∈B<->z∈B.take k\/z∈B.drop k:=λz=>by conv=>lhs;rw[<-List.take_append_drop k B,ka]
 have hs:(B.take k++B.drop k).Pairwise (Ord rk):=by rw[Jq];exact hB
 obtain⟨s1,s2,s3⟩:=z8.1 hs;refine⟨z8.2 ⟨s1,rU.2 ⟨λy hy=>?_,s2⟩,λa ha b hb=>?_⟩,λz=>?_,?_⟩
 .have:=h2 y hy
  have hl:=hx y ((hm y).2 (.inr hy));by_cases e:rk x=rk y
  .exact .inr ⟨e,hl⟩
  .exact .inl (by omega)
 .rcases iA.1 hb with rfl|hb
  .exact .inl (h1 a ha)
  .exact s3 a ha b hb
 .simp only[ka,iA,hm,Gu,or_false]
  constructor
  .rintro (h|h|h)<;>simp[h]
  .rintro (h|h|h)<;>simp[h]
 .have:=congrArg List.length (Jq k B)
  simp only[jQ,vp,tB]at this ⊢;omega
variable{A:List Nat}
def aA7{rk:Nat->Int}{y:Nat}(hA:A.Pairwise (Ord rk))(hy:∀x∈A,x<y)(h1:∀x∈A.take k,rk x<=rk y)(h2:∀x∈A.drop k,rk y<rk x):pZ rk (A++[y]) (A.take k++y::A.drop k):=by
 have hm:∀z,z∈A<->z∈A.take k\/z∈A.drop k:=λz=>by conv=>lhs;rw[<-List.take_append_drop k A,ka]
 have hs:(A.take k++A.drop k).Pairwise (Ord rk):=by rw[Jq];exact hA
 obtain⟨s1,s2,s3⟩:=z8.1 hs;refine⟨z8.2 ⟨s1,rU.2 ⟨λx hx=>.inl (h2 x hx),s2⟩,λa ha b hb=>?_⟩,λz=>?_,?_⟩
 .rcases iA.1 hb with rfl|hb
  .have:=h1 a ha
   have hl:=hy a ((hm a).2 (.inl ha));by_cases e:rk a=rk b
   .exact .inr ⟨e,hl⟩
   .exact .inl (by omega)
  .exact s3 a ha b hb
 .simp only[ka,iA,hm,Gu,or_false]
  constructor
  .rintro (h|h|h)<;>simp[h]
  .rintro ((h|h)|h)<;>simp[h]
 .have:=congrArg List.length (Jq k A)
  simp only[jQ,vp,tB]at this ⊢;omega
def aA8{rk:Nat->Int}{A1 A2 B1 B2 R1 R2:List Nat}(hA:(A1++A2).Pairwise (Ord rk))(hB:(B1++B2).Pairwise (Ord rk))(hx:∀x∈A1++A2,∀y∈B1++B2,x<y)
  (h1:∀x∈A2,∀y∈B1,rk y<rk x) (h2:∀x∈A1,∀y∈B2,rk x<=rk y) (r1:pZ rk (A1++B1) R1) (r2:pZ rk (A2++B2) R2):pZ rk (A1++A2++(B1++B2)) (R1++R2):=by
 obtain⟨_,_,sA⟩:=z8.1 hA;obtain⟨_,_,sB⟩:=z8.1 hB;refine⟨z8.2 ⟨r1.s,r2.s,λa ha b hb=>?_⟩,λz=>?_,?_⟩
 .rcases ka.1 ((r1.m a).1 ha) with ha|ha<;>rcases ka.1 ((r2.m b).1 hb) with hb|hb
  .exact sA a ha b hb
  .have:=h2 a ha b hb
   have hl:=hx a (CK _ ha) b (Gq _ hb);by_cases e:rk a=rk b
   .exact .inr ⟨e,hl⟩
   .exact .inl (by omega)
  .exact .inl (h1 b hb a ha)
  .exact sB a ha b hb
 .have q1:=r1.m z
  have q2:=r2.m z;simp only[ka]at q1 q2 ⊢;rw[q1,q2];constructor
  .rintro ((h|h)|h|h)<;>simp[h]
  .rintro ((h|h)|h|h)<;>simp[h]
 .have:=r1.n
  have:=r2.n;simp only[jQ]at *;omega
def akJ{rk:Nat->Int}(hA:A.Pairwise (Ord rk)):pZ rk (A++[]) A:=⟨hA,by simp,by simp⟩
def akK{rk:Nat->Int}(hA:A.Pairwise (Ord rk)):pZ rk ([]++A) A:=⟨hA,by simp,by simp⟩
def iN(rk:Nat->Int)(lo n:Nat):List Nat:=iM rk (List.range' lo n)
def xh{rk:Nat->Int}{lo:Nat}:∀n:Nat,(iN rk lo n).Pairwise (Ord rk)/\(∀z,z∈iN rk lo n<->lo<=z/\z<lo+n)/\(iN rk lo n).length=n
 |0=>by simp[iN,iM]
 |n+1=>by
  obtain⟨h1,h2,h3⟩:=xh (rk:=rk) (lo:=lo) n;have e:iN rk lo (n+1)=qH rk (lo+n) (iN rk lo n):=by
   unfold iN;rw[ZA,QX];simp
  rw[e];refine⟨Yx h1 λy hy=>((h2 y).1 hy).2,λz=>?_,by rw[Yz,h3]⟩
  rw[QW,h2];omega
def aBb{rk:Nat->Int}{lo m n:Nat}{R:List Nat}(h:pZ rk (iN rk lo m++iN rk (lo+m) n) R):R=iN rk lo (m+n):=by
 refine akH h.s (xh _).1 λz=>?_;rw[h.m,ka,(xh _).2.1,(xh _).2.1,(xh _).2.1];omega
def aBc{rk:Nat->Int}{n:Nat}:iN rk 0 n=iM rk (List.range n):=by rw[iN,Em]
end Go.Chs
namespace Go.Proofs.YtabckmbjnjnegaaGreatDoor
set_option linter.all false
set_option maxRecDepth 100000
open Go.Vm Go.Chs
variable{i:Nat}
def zT{A B:List Nat}(h:A.length<=i):(A++B)[i]?=B[i-A.length]?:=wy h
def swp(P X M Y S:List Nat)(i:Nat):List Nat:=P++(Y.take i++X.drop i)++M++(X.take i++Y.drop i)++S
variable{P X M Y S:List Nat}
def aBd(h:X.length=Y.length)(hi:i<=X.length):(swp P X M Y S i).length=P.length+X.length+M.length+Y.length+S.length:=by simp[swp];omega
variable{x:Nat}
def aBe(h:X.length=Y.length)(hx:X[i]?=some x):(swp P X M Y S i)[P.length+i]?=some x:=by
 have hi:=(mK.1 hx).1;unfold swp;rw[nR (by simp;omega),nR (by simp;omega),nR (by simp;omega),zT (by omega),zT (by simp;omega)]
 simp only[CJ,mJ];rw[<-hx];congr 1;omega
variable{y:Nat}
def aBf(h:X.length=Y.length)(hy:Y[i]?=some y):(swp P X M Y S i)[P.length+X.length+M.length+i]?=some y:=by
 have hi:=(mK.1 hy).1;have e1:(P++(Y.take i++X.drop i)++M).length=P.length+X.length+M.length:=by simp;omega
 unfold swp;rw[nR (by simp;omega),zT (by omega),e1,zT (by simp;omega)]
 simp only[CJ,mJ];rw[<-hy];congr 1;omega
def aBg(h:X.length=Y.length)(hx:X[i]?=some x)(hy:Y[i]?=some y) :
  ((swp P X M Y S i).set (P.length+i) y).set (P.length+X.length+M.length+i) x=swp P X M Y S (i+1):=by
 have hi:=(mK.1 hx).1;have d1:X.drop i=x::X.drop (i+1):=by rw[CG hi];congr 1;simpa [Er,hi] using hx
 have d2:Y.drop i=y::Y.drop (i+1):=by rw[CG (by omega)];congr 1;simpa [Er,show i<Y.length by omega] using hy
 have t1:X.take (i+1)=X.take i++[x]:=by rw[uj,hx];rfl
 have t2:Y.take (i+1)=Y.take i++[y]:=by rw[uj,hy];rfl
 unfold swp;rw[d1,d2,t1,t2];have e1:P.length+i=(P++Y.take i).length:=by simp;omega
 have e2:P.length+X.length+M.length+i=(P++Y.take i++y::X.drop (i+1)++M++X.take i).length:=by simp;omega
 have s1:P++(Y.take i++x::X.drop (i+1))++M++(X.take i++y::Y.drop (i+1))++S=(P++Y.take i)++x::(X.drop (i+1)++M++X.take i++y::Y.drop (i+1)++S):=by simp
 rw[s1,e1,wz _ _ (b8 _),pA,En];have s2:(P++Y.take i)++y::(X.drop (i+1)++M++X.take i++y::Y.drop (i+1)++S)=(P++Y.take i++y::X.drop (i+1)++M++X.take i)++y::(Y.drop (i+1)++S):=by simp
 rw[s2,e2,wz _ _ (b8 _),pA,En];simp
def aBh{f:V}{N:Nat}(A B C D:aM)(h:X.length=Y.length)(hN:N=(P++X++M++Y++S).length)(oJ:N<=1000) :
  aX F 246 [.cO 4 1 N,i64 (P.length:Int),i64 ((P.length+X.length+M.length:Nat):Int),i64 (X.length:Int),f] [A,B,C,D,.cells (nc (P++X++M++Y++S))] =
   some (.tuple [],[A,B,C,D,.cells (nc (P++Y++M++X++S))]) :=
 bD rfl rfl (by
  simp (disch:=omega) [ahb];refine go_loop (λi:Nat=>av8 (.cO 4 1 N) P.length ((P.length+X.length+M.length:Nat):Int) X.length i [A,B,C,D,.cells (nc (swp P X M Y S i))]) (λi=>i<=X.length) (λi=>X.length-i) 0 rfl (by simp[swp]) (by omega) ?_
  rintro i hi;simp (disch:=omega) [aha];refine bO (λg=>?_) (λg=>?_)
  .have g:i<X.length:=by omega
   obtain⟨x,hx⟩:∃x,X[i]?=some x:=⟨_,eV g⟩;obtain⟨y,hy⟩:∃y,Y[i]?=some y:=⟨_,eV (by omega)⟩
   have c1:=sH (aBe (P:=P) (M:=M) (S:=S) h hx);have c2:=sH (aBf (P:=P) (M:=M) (S:=S) h hy);have hs:=aBg (P:=P) (M:=M) (S:=S) h hx hy;have hl:=aBd (P:=P) (M:=M) (S:=S) h hi;have hN3:N=P.length+X.length+M.length+Y.length+S.length:=by rw[hN];simp;omega
   obtain⟨a,ha⟩:∃a,a=P.length+i:=⟨_,rfl⟩;obtain⟨b,hb⟩:∃b,b=P.length+X.length+M.length+i:=⟨_,rfl⟩;have a1:(P.length:Int)+i=(a:Nat):=by omega
   have b1:(P.length:Int)+X.length+M.length+i=(b:Nat):=by omega
   rw[<-ha]at c1 hs;rw[<-hb]at c2 hs;have aN:a<N:=by omega
   have bN:b<N:=by omega
   have al:a+1<=(swp P X M Y S i).length:=by omega
   have bl:b+1<=(swp P X M Y S i).length:=by omega
   simp (disch:=omega) [a1,b1,c1,c2,aN,bN,al,bl,My,hs];exact bB' (i+1)
  .obtain rfl:i=X.length:=by omega
   have e:swp P X M Y S X.length=P++Y++M++X++S:=by simp[swp,kD (show Y.length<=X.length by omega),Jj (show Y.length<=X.length by omega)]
   rw[e];simp)
end Go.Proofs.YtabckmbjnjnegaaGreatDoor
namespace Go.Proofs.YtabckmbjnjnegaaGreatDoor
set_option linter.all false
set_option maxRecDepth 100000
open Go.Vm Go.Chs
abbrev fO:V:=.fn 206 [.bu 3 0]
variable{N a b:Nat}{P X Y S:List Nat}
def YB{n:Nat}(A B C D:aM){M:List Nat}(h:X.length=Y.length)(hN:N=(P++X++M++Y++S).length)(oJ:N<=1000)(ha:a=P.length)(hb:b=P.length+X.length+M.length)(hn:n=X.length) :
  aX F 246 [.cO 4 1 N,i64 (a:Int),i64 (b:Int),i64 (n:Int),fO] [A,B,C,D,.cells (nc (P++X++M++Y++S))] =
   some (.tuple [],[A,B,C,D,.cells (nc (P++Y++M++X++S))]):=by
 subst ha hb hn;exact aBh A B C D h hN oJ
structure Rot(T:List Nat)(m i j:Nat)(l:List Nat):Prop where
 w:∃P X Y S,l=P++X++Y++S/\X.length=i/\Y.length=j/\P.length+i=m/\T=P++Y++X++S
 i0:0<i
 j0:0<j
def aBl{m:Nat}(A B C D:aM)(hN:N=(P++X++Y++S).length)(oJ:N<=1000)(ha:a=P.length)(hm:m=P.length+X.length)(hb:b=P.length+X.length+Y.length)(hX:0<X.length)(hY:0<Y.length) :
  aX F 233 [.cO 4 1 N,i64 (a:Int),i64 (m:Int),i64 (b:Int),fO] [A,B,C,D,.cells (nc (P++X++Y++S))] =
   some (.tuple [],[A,B,C,D,.cells (nc (P++Y++X++S))]) :=
 bD rfl rfl (by
  have e1:(m:Int)-a=(X.length:Nat):=by omega
  have e2:(b:Int)-m=(Y.length:Nat):=by omega
  have hR:Rot (P++Y++X++S) m X.length Y.length (P++X++Y++S):=⟨⟨P,X,Y,S,rfl,rfl,rfl,by omega,rfl⟩,hX,hY⟩
  have LH:X.length<=1000:=by rw[hN]at oJ;simp at oJ;omega
  have my:Y.length<=1000:=by rw[hN]at oJ;simp at oJ;omega
  have w1:IntKind.i64.wrap (X.length:Int)=X.length:=wrap64 (by omega) (by omega)
  have w2:IntKind.i64.wrap (Y.length:Int)=Y.length:=wrap64 (by omega) (by omega)
  generalize hl:P++X++Y++S=l at *;generalize hT:P++Y++X++S=T at *;have hlen:l.length=N:=hN.symm;simp (disch:=omega) [agW,e1,e2,w1,w2];refine go_loop (λp:Nat×Nat×List Nat=>avR (.cO 4 1 N) m fO p.1 p.2.1 [A,B,C,D,.cells (nc p.2.2)]) (λp=>Rot T m p.1 p.2.1 p.2.2/\p.2.2.length=N) (λp=>p.1+p.2.1) (X.length,Y.length,l) rfl (by simp) ⟨hR,hlen⟩ ?_
  rintro⟨i,j,L⟩ ⟨⟨⟨P,X,Y,S,rfl,hi,hj,hPm,Is⟩,i0,j0⟩,hL⟩;simp only at hi hj hPm i0 j0 hL
  clear hl hT e1 e2 hR hlen hN ha hm hb hX hY
  have PZ:N=P.length+i+j+S.length:=by rw[<-hL,<- hi,<- hj];simp;omega
  by_cases uT:i=j
  .subst uT
   have h1:=YB (a:=P.length) (b:=m) (n:=i) A B C D (P:=P) (X:=X) (M:=[]) (Y:=Y) (S:=S) (by omega) (by simpa using hL.symm) oJ rfl (by simp;omega) hi.symm
   simp only[vl,ov]at h1;have e3:(m:Int)-i=(P.length:Nat):=by omega
   simp (disch:=omega) [PB,e3,h1,Is]
  .have akN:((i:Int) != j)=true:=by simp;omega
   by_cases hg:j<i
   .obtain⟨X1,X2,rfl,wi⟩:∃X1 X2,X=X1++X2/\X1.length=j:=⟨X.take j,X.drop j,by simp,by simp;omega⟩
    have h1:=YB (a:=P.length) (b:=m) (n:=j) A B C D (P:=P) (X:=X1) (M:=X2) (Y:=Y) (S:=S) (by omega) (by rw[<-hL];simp) oJ rfl (by simp at hi ⊢;omega) wi.symm
    simp only[ov]at h1;have e3:(m:Int)-i=(P.length:Nat):=by omega
    have e4:(i:Int)-j=(i-j:Nat):=by omega
    simp (disch:=omega) [PB,e3,e4,h1,akN,hg];exact bB (i-j,j,P++(Y++(X2++(X1++S)))) (by simp) ⟨⟨⟨P++Y,X2,X1,S,by simp,by simp at hi ⊢;omega,wi,by simp;omega,by rw[Is];simp⟩,by simp;omega,by simp;omega⟩,by rw[PZ];simp at hi ⊢;omega⟩ (by simp;omega)
   .have TR:i<j:=by omega
    obtain⟨Y1,Y2,rfl,hy1⟩:∃Y1 Y2,Y=Y1++Y2/\Y1.length=j-i:=⟨Y.take (j-i),Y.drop (j-i),by simp,by simp;omega⟩
    have YC:Y2.length=i:=by simp at hj;omega
    have h1:=YB (a:=P.length) (b:=m+j-i) (n:=i) A B C D (P:=P) (X:=X) (M:=Y1) (Y:=Y2) (S:=S) (by omega) (by rw[<-hL];simp) oJ rfl (by omega) hi.symm
    simp only[ov]at h1;have e3:(m:Int)-i=(P.length:Nat):=by omega
    have e4:(j:Int)-i=(j-i:Nat):=by omega
    have e5:(m:Int)+j-i=(m+j-i:Nat):=by omega
    simp (disch:=omega) [PB,e3,e4,e5,h1,akN,hg];exact bB (i,j-i,P++(Y2++(Y1++(X++S)))) (by simp) ⟨⟨⟨P,Y2,Y1,X++S,by simp,YC,hy1,by simp;omega,by rw[Is];simp⟩,by simp;omega,by simp;omega⟩,by rw[PZ];simp;omega⟩ (by simp;omega))
end Go.Proofs.YtabckmbjnjnegaaGreatDoor
