/- - -/
import Derived.Test.YtabckmbjnjnegaaGreatDoorDf
import Derived.Test.YtabckmbjnjnegaaGreatDoorDa
import Derived.Test.YtabckmbjnjnegaaGreatDoorDb
attribute [local simp] Go.Vm.wrap64
namespace Go.Proofs.YtabckmbjnjnegaaGreatDoor
set_option linter.all false
set_option maxRecDepth 100000
set_option maxHeartbeats 400000
open Go.Vm
section
attribute [local simp] mX mY lX mW
set_option maxHeartbeats 8000000 in
def QK{c:Cs}(hr:jO c.r){f:Fl}(hf:mf f){p:Sp}(nZ:p.a.length<=1000/\p.b.length<=1000/\p.c.length<=1000):∃G',aX F 45 [cs c,fl f,sv p] []=some (wm (some 0) c f p,G'):=by
 suffices h:∀Q:V->Prop,Q (wm (some 0) c f p)->gz (aX F) 45 [cs c,fl f,sv p] [] λv _=>Q v by
  obtain⟨_,G',h,rfl⟩:=h (λv=>v=wm (some 0) c f p) rfl;exact⟨G',h⟩
 intro Q hQ;refine gN rfl rfl ?_;have hc:=Qs c hr;have hv:=XQ c hr f hf;have err:∀e,qE c f p=e->e≠0->Q (ajH (some 0) e):=λe h he=>by
  unfold wm at hQ
  rwa [h,ax he]at hQ
 by_cases hz:fm c=0
 case neg =>
  simp (disch:=omega) [-getElem?_pos,AF,hc,hz];exact err _ (by unfold qE lu;rw[aJ hz,aJ hz]) hz
 by_cases kh:e8 c f
 case neg =>
  have h0:decide (fm c=0/\e8 c f)=false:=decide_eq_false λg=>kh g.2;rw[h0]at hv;simp (disch:=omega) [-getElem?_pos,AF,hc,hz,hv];have Yc:lu c f=50:=by unfold lu;rw[ax',ax kh]
  exact err 50 (by unfold qE;rw[Yc];rfl) (by decide)
 have Yc:lu c f=0:=by unfold lu;rw[ax',aJ kh]
 have gM:qE c f p=fB c f p:=by unfold qE;rw[ax']
 rw[gM]at err;rw[fJ ⟨hz,kh⟩]at hv;have cv:=oh hz;have kv:=oj cv.k;have kS:=kv.n;by_cases h1:(p.a.length:Int)=c.r.n
 case neg =>
  simp (disch:=omega) [-getElem?_pos,AF,hc,hz,hv,h1];exact err 3 (by unfold fB;rw[ax λg=>h1 g.1]) (by decide)
 by_cases h2:p.b.length=c.s.length
 case neg =>
  have mC:¬ (p.b.length:Int)=c.s.length:=by omega
  simp (disch:=omega) [-getElem?_pos,AF,hc,hz,hv,h1,mC];exact err 3 (by unfold fB;rw[ax λg=>h2 g.2.1]) (by decide)
 have mC:(p.b.length:Int)=c.s.length:=by omega
 by_cases h3:p.c.length=c.s.length
 case neg =>
  have jd:¬ (p.c.length:Int)=c.s.length:=by omega
  simp (disch:=omega) [-getElem?_pos,AF,hc,hz,hv,h1,mC,jd];exact err 3 (by unfold fB;rw[ax λg=>h3 g.2.2]) (by decide)
 have jd:(p.c.length:Int)=c.s.length:=by omega
 have jm:pX c p:=⟨h1,h2,h3⟩;have ha:=XV p.a nZ.1 1073741824;have hb:=XV p.b nZ.2.1 1073741824;have za:=XV p.c nZ.2.2 1073741824;have app:fx (p.a++p.b++p.c) 1073741824<->fx p.a 1073741824/\fx p.b 1073741824/\fx p.c 1073741824:=by
  rw[ajP,ajP,and_assoc]
 by_cases g1:fx p.a 1073741824
 case neg =>
  simp (disch:=omega) [-getElem?_pos,AF,hc,hz,hv,h1,mC,jd,ha,g1];exact err 1 (by unfold fB;rw[aJ jm,ax λg=>g1 (app.1 g).1]) (by decide)
 by_cases g2:fx p.b 1073741824
 case neg =>
  simp (disch:=omega) [-getElem?_pos,AF,hc,hz,hv,h1,mC,jd,ha,g1,hb,g2];exact err 1 (by unfold fB;rw[aJ jm,ax λg=>g2 (app.1 g).2.1]) (by decide)
 by_cases g3:fx p.c 1073741824
 case neg =>
  simp (disch:=omega) [-getElem?_pos,AF,hc,hz,hv,h1,mC,jd,ha,g1,hb,g2,za,g3];exact err 1 (by unfold fB;rw[aJ jm,ax λg=>g3 (app.1 g).2.2]) (by decide)
 have sk:=app.2 ⟨g1,g2,g3⟩;have hcy:=ajq f (IE hz kh.2.1) (QF cv.k kh.2.2);have azE:=kh.1;have NC:=cv.s;have la:=kv.len;have QG:0<p.a.length:=by omega
 have EZ:f.d.length=c.s.length:=kh.2.1.1;have Ck:f.w.length=c.r.l.length:=kh.2.2.1;simp (disch:=omega) [-getElem?_pos,AF,hc,hz,hv,h1,mC,jd,ha,g1,hb,g2,za,g3];refine bO (λg4=>?_) (λg4=>?_)
 .exact err 6 (by unfold fB;rw[aJ jm,aJ sk,aJ g4]) (by decide)
 have hE:fB c f p=dH (λk=>vE c p (cR c p f k) k) c.r.n.toNat 0:=by unfold fB;rw[aJ jm,aJ sk,ax g4]
 have HB:p.a.isEmpty=false:=by
  cases hp:p.a with
  |nil=>rw[hp]at QG;simp at QG
  |cons a l=>rfl
 simp (disch:=omega) [-getElem?_pos,hcy,azJ,HB];refine go_loop (λk:Nat=>arP p.a.length k c.row f.row p.row [i64 0,.cj,.cj] [.cj,.cj,.cj] [i64 (f.t+1),.cO 0 4 f.d.length,.cO 1 1 f.w.length]
   [.bY 100 7 c.s.length,.bY 104 1 c.r.n.toNat,.bY 109 1 c.r.l.length] (yr (pad D2 (cR c p f k).re c.s.length)) (dM (pad 0 (cR c p f k).lf c.r.n.toNat)) (dM (pad 0 (cR c p f k).cm c.r.l.length)) (dM (cR c p f k).arr)
   [.cells (kU (cR c p f k).d),.cells (nh (cR c p f k).w)])
  (λk=>k<=c.r.n.toNat/\(∀j,j<k->vE c p (cR c p f j) j=0)/\dH (λk=>vE c p (cR c p f k) k) (c.r.n.toNat-k) k=fB c f p) (λk=>c.r.n.toNat-k) 0 rfl (by simp[cR,azL]) ⟨by omega,by omega,hE.symm⟩ ?_
 rintro k ⟨hk,hzk,hq⟩;have IK:=vcs hz kh jm sk hzk;have Bv:=Mo cv p f k;have Ot:=Yb cv p f k;have HG:=Ot.d;have hww:=Ot.w;have aIs:=IK.FQ;have azU:=IK.ll;have uI:=Bv.s.1;have azV:=Bv.l.1;have ecv:cR c p f (k+1)=vS c p (cR c p f k) k:=rfl;simp (disch:=omega) [-getElem?_pos,adM];refine bO (λil=>?_) (λil=>?_)
 .have azX:k<c.r.n.toNat:=by omega
  rw[kl azX]at hq;generalize tw:cR c p f k=v at *;have X3:k<v.arr.length:=by omega
  simp (disch:=omega) [-getElem?_pos,nG];obtain⟨s1,s2,s3,s4⟩:=Mn (c:=c) (p:=p) (v:=v) (k:=k);refine go_loop (λy:Nat×Co×Int=>arF p.a.length k y.2.2 (ru c.s) c.s.length y.1 c.row f.row p.row [i64 0,.cj,.cj] [.cj,.cj,.cj] [i64 (f.t+1),.cO 0 4 f.d.length,.cO 1 1 f.w.length]
    [.bY 100 7 c.s.length,.bY 104 1 c.r.n.toNat,.bY 109 1 c.r.l.length] (yr (pad D2 y.2.1.re c.s.length)) (dM (pad 0 v.lf c.r.n.toNat)) (dM (pad 0 v.cm c.r.l.length)) (dM v.arr) [.cells (kU y.2.1.d),.cells (nh v.w)])
   (λy=>y.1<=c.s.length/\((y.2.1=v/\y.2.2=nth v.arr k/\∀j,j<y.1->wo c j≠k)\/(y.2.1=vD c p v k/\y.2.2=fX c p v k/\oN c p v k=0/\∃j,j<y.1/\ni c.s k=some j)))
   (λy=>c.s.length-y.1) (0,v,nth v.arr k) rfl (by simp) ⟨by simp,.inl ⟨rfl,rfl,by simp⟩⟩ ?_
  rintro⟨i,u,x⟩ ⟨hi,hu⟩;simp only at hi hu;have azY:(pad D2 v.re c.s.length).length=c.s.length:=QI uI;simp (disch:=omega) [-getElem?_pos,adK];refine bO (λh5=>?_) (λh5=>?_)
  .have h5:i<c.s.length:=by omega
   have h6:i<f.d.length:=by omega
   have h7:i<p.b.length:=by omega
   have h8:i<p.c.length:=by omega
   simp (disch:=omega) [-getElem?_pos,bc (l:=c.s)];refine bO (λh9=>?_) (λh9=>?_)
   .have hs:ni c.s k=some i/\u=v/\x=nth v.arr k/\i=v.re.length:=by
     have e:=(AU Bv.s (λj h0 hj=>(AV cv hj).2.1 h0) h5 h9).1;rcases hu with⟨a,b,d⟩ | ⟨_,_,_,j,hj,hs⟩
     .exact⟨azO d h5 h9,a,b,e⟩
     .have:=(AU Bv.s (λj h0 hj=>(AV cv hj).2.1 h0) (AW hs).1 (AW hs).2).1
      omega
    obtain⟨hs,rfl,rfl,II⟩:=hs;have QL:nth u.d i=nth f.d i:=HG.2 i (by omega)
    obtain⟨Ga,hS⟩:=ayO (nth c.s i).d (nth f.d i) (nth u.arr k) (nth p.b i) (nth p.c i);by_cases he:qC (nth c.s i).d (nth f.d i) (nth u.arr k) (nth p.b i) (nth p.c i)=0
    .have X6:=(ajy he).1
     have e0:oN c p u k=0:=by simp only[oN,hs,QL,he]
     have e1:fX c p u k=sG (vR c p u k i):=by simp only[fX,hs]
     have e2:vD c p u k={ u with d:=u.d.set i (oe (nth c.s i).d (nth f.d i) (nth u.arr k) (nth p.b i) (nth p.c i)),re:=u.re++[vR c p u k i],lf:=u.lf++[fX c p u k] }:=by rw[vD,hs,<- QL]
     have e3:vR c p u k i=nN (nth c.s i).d (nth f.d i) (nth u.arr k) (nth p.b i) (nth p.c i):=by rw[vR,QL]
     rw[wh,aJ he]at hS;rw[e3]at e1 e2;rw[e1]at e2;generalize oe (nth c.s i).d (nth f.d i) (nth u.arr k) (nth p.b i) (nth p.c i)=S' at hS e2;generalize nN (nth c.s i).d (nth f.d i) (nth u.arr k) (nth p.b i) (nth p.c i)=R' at hS X6 e1 e2;have hF:=ayY R' (by omega) (by omega) (by omega)
     rw[show R'.tur+R'.spi+R'.ovr=sG R' from rfl]at hF;have pK:i<u.d.length:=by omega
     have eI:((((kU u.d).set (i*4) (i64 S'.v)).set (i*4+1) (i64 S'.rel)).set (i*4+1+1) (lF S'.u)).set (i*4+1+1+1) (lq S'.g)=kU (u.d.set i S'):=ajx pK S';have hrt:(((((((yr (pad D2 u.re c.s.length)).set (i*7) (i64 R'.inf)).set (i*7+1) (i64 R'.los)).set (i*7+1+1) (i64 R'.tur)).set (i*7+1+1+1) (i64 R'.spi)).set (i*7+1+1+1+1) (i64 R'.ovr)).set (i*7+1+1+1+1+1) (i64 R'.pow)).set (i*7+1+1+1+1+1+1) (i64 R'.oK)=yr (pad D2 (u.re++[R']) c.s.length):=by
      rw[<-Ya II (by omega)]
      exact azN (by rw[QI (by omega)];exact h5) R'
     simp (disch:=omega) [-getElem?_pos,bc (l:=f.d),dQ (l:=p.b),dQ (l:=p.c),nG,hS,hF,eI,hrt,azY];refine bB (i+1,vD c p u k,fX c p u k) (by simp[e1,e2]) ⟨by simp only;omega,.inr ⟨rfl,rfl,e0,i,by simp only;omega,hs⟩⟩ (by simp only;omega)
    .rw[wh,ax he]at hS
     have e0:vE c p u k=qC (nth c.s i).d (nth f.d i) (nth u.arr k) (nth p.b i) (nth p.c i):=by
      have:oN c p u k=qC (nth c.s i).d (nth f.d i) (nth u.arr k) (nth p.b i) (nth p.c i):=by simp only[oN,hs,QL]
      rw[vE,this,aJ he]
     rw[e0,ax he]at hq;simp (disch:=omega) [-getElem?_pos,bc (l:=f.d),dQ (l:=p.b),dQ (l:=p.c),nG,hS,decide_eq_false he];exact err _ hq.symm he
   .refine bB (i+1,u,x) (by simp) ⟨by simp only;omega,?_⟩ (by simp only;omega)
    rcases hu with⟨a,b,d⟩ | ⟨a,b,d,j,hj,hs⟩
    .refine .inl ⟨a,b,λj hj=>?_⟩
     rcases cS j i with g|g
     .exact d j g
     .rw[show j=i by simp only at hj;omega];exact h9
    .exact .inr ⟨a,b,d,j,by simp only;omega,hs⟩
  .obtain rfl:i=c.s.length:=by omega
   have hD:u.re=(vD c p v k).re/\u.d=(vD c p v k).d/\x=fX c p v k/\oN c p v k=0:=by
    rcases hu with⟨rfl,rfl,d⟩ | ⟨rfl,b,d,_⟩
    .have hn:=azQ d
     unfold vD fX oN;rw[hn];exact⟨rfl,rfl,rfl,rfl⟩
    .exact⟨rfl,rfl,b,d⟩
   obtain⟨d1,d2,rfl,d3⟩:=hD;rw[d1,d2];generalize hx:fX c p v k=x at *;have az0:(pad 0 v.lf c.r.n.toNat).length=c.r.n.toNat:=QI (by omega)
   have eI:(pad 0 v.lf c.r.n.toNat).set k x=pad 0 (vD c p v k).lf c.r.n.toNat:=by rw[Ya (by omega) (by omega),s4]
   simp (disch:=omega) [-getElem?_pos,az0,eI];have az1:(pad 0 v.cm c.r.l.length).length=c.r.l.length:=QI azV;refine go_loop (λy:Nat×Co=>arK p.a.length k x (pW c.r.l) c.r.l.length y.1 c.row f.row p.row [i64 0,.cj,.cj] [.cj,.cj,.cj] [i64 (f.t+1),.cO 0 4 f.d.length,.cO 1 1 f.w.length]
     [.bY 100 7 c.s.length,.bY 104 1 c.r.n.toNat,.bY 109 1 c.r.l.length] (yr (pad D2 (vD c p v k).re c.s.length)) (dM (pad 0 (vD c p v k).lf c.r.n.toNat)) (dM (pad 0 y.2.cm c.r.l.length)) (dM y.2.arr) [.cells (kU (vD c p v k).d),.cells (nh y.2.w)])
    (λy=>y.1<=c.r.l.length/\((y.2=v/\∀j,j<y.1->Cj c j≠k)\/(y.2=vL c v x k/\ry c v x k=0/\∃j,j<y.1/\oi c.r.l k=some j)))
    (λy=>c.r.l.length-y.1) (0,v) rfl (by simp) ⟨by simp,.inl ⟨rfl,by simp⟩⟩ ?_
   rintro⟨i,u⟩ ⟨hi,hu⟩;simp only at hi hu;simp (disch:=omega) [-getElem?_pos,adL];refine bO (λh5=>?_) (λh5=>?_)
   .have h5:i<c.r.l.length:=by omega
    have h6:i<f.w.length:=by omega
    simp (disch:=omega) [-getElem?_pos,bc (l:=c.r.l)];refine bO (λh9=>?_) (λh9=>?_)
    .have hs:oi c.r.l k=some i/\u=v/\i=v.cm.length:=by
      have e:=(AU Bv.l (λj h0 hj=>(kv.link hj).2.1 h0) h5 h9).1;rcases hu with⟨a,d⟩ | ⟨_,_,j,hj,hs⟩
      .exact⟨azP d h5 h9,a,e⟩
      .have:=(AU Bv.l (λj h0 hj=>(kv.link hj).2.1 h0) (D1 hs).1 (D1 hs).2).1
       omega
     obtain⟨hs,rfl,II⟩:=hs;have Mp:nth u.w i=nth f.w i:=hww.2 i (by omega)
     have zk:=kh.2.2.2 i h5;obtain⟨tt,hR⟩:=ay7 (nth c.r.l i).r (hr.2 i h5) (nth f.w i) (hf i) x;have bJ:=(kv.link h5).1;have Mq:(nth c.r.l i).t.toNat<u.arr.length:=by omega
     have eL:ry c u x k=iG (nth c.r.l i).r (nth f.w i) x:=by unfold ry;rw[hs];simp only[Mp]
     have eE:vE c p u k=iG (nth c.r.l i).r (nth f.w i) x:=by
      rw[vE,d3,hx,eL];rfl
     rw[eE]at hq;by_cases he:iG (nth c.r.l i).r (nth f.w i) x=0
     .have ho:=IH he
      have har:=IK.arr (nth c.r.l i).t.toNat Mq;rw[Mf he]at hR;have e2:vL c u x k={ u with w:=u.w.set i (me (nth c.r.l i).r (nth f.w i) x),cm:=u.cm++[nO (nth c.r.l i).r (nth f.w i) x],arr:=u.arr.set (nth c.r.l i).t.toNat (nth u.arr (nth c.r.l i).t.toNat+nO (nth c.r.l i).r (nth f.w i) x) }:=by
       rw[vL,hs,<- Mp]
      have eI:(pad 0 u.cm c.r.l.length).set i (nO (nth c.r.l i).r (nth f.w i) x)=pad 0 (u.cm++[nO (nth c.r.l i).r (nth f.w i) x]) c.r.l.length:=Ya II (by omega)
      simp (disch:=omega) [-getElem?_pos,bc (l:=f.w),hR,X0,az1,eI,nG];refine bB (i+1,vL c u x k) (by simp[e2]) ⟨by simp only;omega,.inr ⟨rfl,by rw[eL,he],i,by simp only;omega,hs⟩⟩ (by simp only;omega)
     .rw[FL rfl he]at hR
      rw[ax he]at hq;simp (disch:=omega) [-getElem?_pos,bc (l:=f.w),hR,decide_eq_false he];exact err _ hq.symm he
    .refine bB (i+1,u) (by simp) ⟨by simp only;omega,?_⟩ (by simp only;omega)
     rcases hu with⟨a,d⟩ | ⟨a,d,j,hj,hs⟩
     .refine .inl ⟨a,λj hj=>?_⟩
      rcases cS j i with g|g
      .exact d j g
      .rw[show j=i by simp only at hj;omega];exact h9
     .exact .inr ⟨a,d,j,by simp only;omega,hs⟩
   .obtain rfl:i=c.r.l.length:=by omega
    have hD:u=vL c v x k/\ry c v x k=0:=by
     rcases hu with⟨rfl,d⟩ | ⟨rfl,b,_⟩
     .have hn:=azR d
      unfold vL ry;rw[hn];exact⟨rfl,rfl⟩
     .exact⟨rfl,b⟩
    obtain⟨rfl,d4⟩:=hD;have eE:vE c p v k=0:=by rw[vE,d3,hx,d4];rfl
    rw[aJ eE]at hq;obtain⟨a1,a2,a3⟩:=ajO (c:=c) (u:=vD c p v k) (v:=v) (x:=x) (k:=k) s1 s2 s3;obtain⟨b1,b2,b3⟩:=ajN (c:=c) (u:=vD c p v k) (x:=x) (k:=k);have hvS:vS c p v k=vL c (vD c p v k) x k:=by rw[vS,hx]
    refine bB (k+1) (by simp[ecv,hvS,a1,a2,a3,b1,b2,b3]) ⟨by omega,λj hj=>?_,hq⟩ (by omega)
    rcases cS j k with g|g
    .exact hzk j g
    .rw[show j=k by omega,tw];exact eE
 .obtain rfl:k=c.r.n.toNat:=by omega
  rw[l7]at hq;have C9:=X8 cv p f;have w1:((cR c p f c.r.n.toNat).re.length:Int)=c.s.length:=by omega
  rw[X9 C9.1,X9 azU,X9 C9.2];simp (disch:=omega) [-getElem?_pos,B9,FO,azK,OF];rw[<-hq]at gM;unfold wm at hQ;rw[gM,aJ rfl]at hQ;exact hQ
end
structure Pa(c:Cs)(f:Fl)(p:Sp):Prop where
 c0:fm c=0
 f0:e8 c f
 p0:pX c p
 all:fx (p.a++p.b++p.c) 1073741824
 t:f.t≠16777216
 v:∀k,k<c.r.n.toNat->vE c p (cR c p f k) k=0
def IM{c:Cs}{f:Fl}{p:Sp}(h:qE c f p=0):Pa c f p:=by
 unfold qE at h;split at h
 next h1=>exact absurd h h1
 next h1=>
  obtain⟨h2,h3⟩:=E9 (jf h1);unfold fB at h;split at h
  .split at h
   .split at h
    .cases h
    .exact⟨h2,h3,by assumption,by assumption,by assumption,λk hk=>tT h k (by omega) (by omega)⟩
   .cases h
  .cases h
def Pa.vc{c:Cs}{f:Fl}{p:Sp}(h:Pa c f p){k:Nat}(hk:k<=c.r.n.toNat):Vc c p (cR c p f k) k:=vcs h.c0 h.f0 h.p0 h.all λj hj=>h.v j (by omega)
def Pa.fl{c:Cs}{f:Fl}{p:Sp}(h:Pa c f p):e8 c (ue c f p):=by
 have hv:=h.vc (b8 _);have:=h.f0.1;have:=h.t;exact⟨by simp only[ue];omega,hv.d,hv.w⟩
def IN{c:Cs}(hk:kT c.r=0){f:Fl}(h:e8 c f):mf f:=λi=>by
 rcases cS i c.r.l.length with g|g
 .have a:=h.2.2.2 i g
  have:=a.2.1;have:=(xb a.1).len;omega
 .have:nth f.w i=[]:=by
   simp[nth,List.getD,kW (show f.w.length<=i by have:=h.2.2.1;omega)]
   rfl
  rw[this];simp
def qF(c:Cs)(cm:List Int)(j:Int):Nat->Int
 |0=>0
 |m+1=>qF c cm j m+if (nth c.r.l m).t=j then nth cm m else 0
def ajR{c:Cs}{cm:List Int}{x:Int}{j:Int}:∀{m:Nat},m<=cm.length->qF c (cm++[x]) j m=qF c cm j m
 |0,_=>rfl
 |m+1,h=>by
  simp only[qF];rw[ajR (by omega),tW (by omega)]
variable{x:Int}
def az3{c:Cs}{cm:List Int}{j:Int}:qF c (cm++[x]) j (cm.length+1)=qF c cm j cm.length+if (nth c.r.l cm.length).t=j then x else 0:=by
 have e:nth (cm++[x]) cm.length=x:=by rw[jM,ax',aJ rfl]
 simp only[qF];rw[ajR (b8 _),e]
structure Da(c:Cs)(p:Sp)(f:Fl)(v:Co)(i k:Nat):Prop where
 e:qC (nth c.s i).d (nth f.d i) (nth (cR c p f k).arr k) (nth p.b i) (nth p.c i)=0
 r:nth v.re i=nN (nth c.s i).d (nth f.d i) (nth (cR c p f k).arr k) (nth p.b i) (nth p.c i)
 d:nth v.d i=oe (nth c.s i).d (nth f.d i) (nth (cR c p f k).arr k) (nth p.b i) (nth p.c i)
structure Li(c:Cs)(p:Sp)(f:Fl)(v:Co)(m k:Nat):Prop where
 e:iG (nth c.r.l m).r (nth f.w m) (fX c p (cR c p f k) k)=0
 o:nth v.cm m=nO (nth c.r.l m).r (nth f.w m) (fX c p (cR c p f k) k)
 w:nth v.w m=me (nth c.r.l m).r (nth f.w m) (fX c p (cR c p f k) k)
structure Hi(c:Cs)(p:Sp)(f:Fl)(v:Co)(k:Nat):Prop where
 arr:∀j,j<v.arr.length->nth v.arr j=nth p.a j+qF c v.cm j v.cm.length
 cm:∀m,m<v.cm.length->0<=nth v.cm m/\nth v.cm m<=1125899906842624
 site:∀i,i<v.re.length->∃k':Nat,k'<k/\wo c i=k'/\Da c p f v i k'
 link:∀m,m<v.cm.length->∃k':Nat,k'<k/\Cj c m=k'/\Li c p f v m k'
 lf:∀j,j<k->nth v.lf j=fX c p (cR c p f j) j
def az4{c:Cs}{p:Sp}{f:Fl}(h:Pa c f p){k:Nat}(hk:k<c.r.n.toNat)(hh:Hi c p f (cR c p f k) k):Hi c p f (cR c p f (k+1)) (k+1):=by
 have hc:=oh h.c0;have hv:=h.vc (k:=k) (by omega)
 have ho:=Mo hc p f k;have hf:=Yb hc p f k;obtain⟨e0,eL⟩:=ajE (h.v k hk);show Hi c p f (vS c p (cR c p f k) k) (k+1);obtain⟨s1,s2,s3,s4⟩:=Mn (c:=c) (p:=p) (v:=cR c p f k) (k:=k);obtain⟨a1,a2,a3⟩:=ajO (c:=c) (x:=fX c p (cR c p f k) k) (k:=k) s1 s2 s3;obtain⟨b1,b2,b3⟩:=ajN (c:=c) (u:=vD c p (cR c p f k) k) (x:=fX c p (cR c p f k) k) (k:=k);have az5:∀i,i<(vD c p (cR c p f k) k).re.length->∃k':Nat,k'<k+1/\wo c i=k'/\Da c p f (vD c p (cR c p f k) k) i k':=by
  unfold vD;cases hs:ni c.s k with
  |none =>
   intro i hi;obtain⟨k',g1,g2,g3⟩:=hh.site i hi;exact⟨k',by omega,g2,g3.e,g3.r,g3.d⟩
  |some i0 =>
   obtain⟨q1,q2⟩:=AW hs;have q3:=(AU ho.s (λj h0 hj=>(AV hc hj).2.1 h0) q1 q2).1;have q4:i0<(cR c p f k).d.length:=by have:=hv.d.1;omega
   have q5:=hf.d.2 i0 (by omega)
   intro i hi;simp only[jQ,rQ]at hi;by_cases g:i=i0
   .subst g
    refine⟨k,by omega,q2,?_,?_,?_⟩
    .unfold oN at e0
     rw[hs]at e0;rw[<-q5];exact e0
    .show nth ((cR c p f k).re++[_]) i=_
     rw[jM,ax',aJ q3,vR,q5]
    .show nth ((cR c p f k).d.set i _) i=_
     rw[xd q4,aJ rfl,q5]
   .obtain⟨k',g1,g2,g3⟩:=hh.site i (by omega)
    refine⟨k',by omega,g2,g3.e,?_,?_⟩
    .show nth ((cR c p f k).re++[_]) i=_
     rw[tW (by omega)];exact g3.r
    .show nth ((cR c p f k).d.set i0 _) i=_
     rw[xd q4,ax g];exact g3.d
 have hlf:∀j,j<k+1->nth (vD c p (cR c p f k) k).lf j=fX c p (cR c p f j) j:=λj hj=>by
  have:=hv.ll;rw[s4,jM];by_cases g:j<k
  .rw[aJ'];exact hh.lf j g
  .rw[ax',aJ',show j=k by omega]
 have Yd:(∀j,j<(vL c (cR c p f k) (fX c p (cR c p f k) k) k).arr.length->nth (vL c (cR c p f k) (fX c p (cR c p f k) k) k).arr j=nth p.a j+qF c (vL c (cR c p f k) (fX c p (cR c p f k) k) k).cm j (vL c (cR c p f k) (fX c p (cR c p f k) k) k).cm.length) /\
   (∀m,m<(vL c (cR c p f k) (fX c p (cR c p f k) k) k).cm.length->0<=nth (vL c (cR c p f k) (fX c p (cR c p f k) k) k).cm m/\nth (vL c (cR c p f k) (fX c p (cR c p f k) k) k).cm m<=1125899906842624) /\
   ∀m,m<(vL c (cR c p f k) (fX c p (cR c p f k) k) k).cm.length->∃k':Nat,k'<k+1/\Cj c m=k'/\Li c p f (vL c (cR c p f k) (fX c p (cR c p f k) k) k) m k':=by
  unfold ry at eL;cases hl:oi c.r.l k with
  |none =>
   rw[show vL c (cR c p f k) (fX c p (cR c p f k) k) k=cR c p f k by unfold vL;rw[hl]]
   exact⟨hh.arr,hh.cm,λm hm=>by obtain⟨k',g1,g2,g3⟩:=hh.link m hm;exact⟨k',by omega,g2,g3⟩⟩
  |some m0 =>
   rw[hl]at eL;obtain⟨q1,q2⟩:=D1 hl;have q3:=(AU ho.l (λj h0 hj=>((oj hc.k).link hj).2.1 h0) q1 q2).1;have q4:m0<(cR c p f k).w.length:=by have:=hv.w.1;omega
   have q5:=hf.w.2 m0 (by omega)
   have q6:=IH eL;have q7:=((oj hc.k).link q1).1;have q8:=hv.FQ;have q9:(nth c.r.l m0).t.toNat<(cR c p f k).arr.length:=by omega
   have hu:vL c (cR c p f k) (fX c p (cR c p f k) k) k={ cR c p f k with w:=(cR c p f k).w.set m0 (me (nth c.r.l m0).r (nth (cR c p f k).w m0) (fX c p (cR c p f k) k)),cm:=(cR c p f k).cm++[nO (nth c.r.l m0).r (nth (cR c p f k).w m0) (fX c p (cR c p f k) k)],arr:=(cR c p f k).arr.set (nth c.r.l m0).t.toNat (nth (cR c p f k).arr (nth c.r.l m0).t.toNat+nO (nth c.r.l m0).r (nth (cR c p f k).w m0) (fX c p (cR c p f k) k)) }:=by
    unfold vL;rw[hl]
   rw[hu];refine⟨λj hj=>?_,λm hm=>?_,λm hm=>?_⟩
   .simp only[qI]at hj
    simp only[jQ,rQ];rw[xd q9,az3,<- q3];by_cases g:j=(nth c.r.l m0).t.toNat
    .rw[aJ g,aJ',<- g,hh.arr j hj,q3]
     exact Int.add_assoc _ _ _
    .rw[ax g,ax',MV,q3]
     exact hh.arr j hj
   .simp only[jQ,rQ]at hm
    simp only;rw[jM];by_cases g:m<(cR c p f k).cm.length
    .rw[aJ g];exact hh.cm m g
    .rw[ax g,aJ'];exact q6
   .simp only[jQ,rQ]at hm
    by_cases g:m=m0
    .subst g
     refine⟨k,by omega,q2,by rw[<-q5];exact eL,?_,?_⟩
     .show nth ((cR c p f k).cm++[_]) m=_
      rw[jM,ax',aJ q3,q5]
     .show nth ((cR c p f k).w.set m _) m=_
      rw[xd q4,aJ rfl,q5]
    .obtain⟨k',g1,g2,g3⟩:=hh.link m (by omega)
     refine⟨k',by omega,g2,g3.e,?_,?_⟩
     .show nth ((cR c p f k).cm++[_]) m=_
      rw[tW (by omega)];exact g3.o
     .show nth ((cR c p f k).w.set m0 _) m=_
      rw[xd q4,ax g];exact g3.w
 unfold vS;refine⟨?_,?_,λi hi=>?_,λm hm=>?_,by rw[b2];exact hlf⟩
 .rw[a1,a3];exact Yd.1
 .rw[a3];exact Yd.2.1
 .rw[b1]at hi
  obtain⟨k',g1,g2,g3⟩:=az5 i hi;exact⟨k',g1,g2,g3.e,by rw[b1];exact g3.r,by rw[b3];exact g3.d⟩
 .rw[a3]at hm
  obtain⟨k',g1,g2,g3⟩:=Yd.2.2 m hm;exact⟨k',g1,g2,g3.e,by rw[a3];exact g3.o,by rw[a2];exact g3.w⟩
def X5{c:Cs}{p:Sp}{f:Fl}(h:Pa c f p):∀{k:Nat},k<=c.r.n.toNat->Hi c p f (cR c p f k) k
 |0,_=>⟨λj hj=>by simp[cR,qF],λm hm=>by simp[cR]at hm,λi hi=>by simp[cR]at hi,λm hm=>by simp[cR]at hm,λj hj=>by omega⟩
 |k+1,hk=>az4 h (by omega) (X5 h (by omega))
def ajV{f:Nat->Int}:∀n,eo f (oM f n)=eo f n
 |0=>rfl
 |n+1=>by
  unfold oM;split
  next h=>
   rw[ajV n];simp only[eo];have h:f n=0:=by simpa using h
   rw[h,MV]
  .rfl
def QN{l:List Int}:∀n,sm l n=eo (nth l) n
 |0=>rfl
 |n+1=>by simp only[sm,eo];rw[QN n]
def ajW{f g:Nat->Int}:∀{n:Nat},(∀k,k<n->f k=g k)->eo f n=eo g n
 |0,_=>rfl
 |n+1,h=>by
  simp only[eo];rw[ajW λk hk=>h k (by omega),h n (by omega)]
def ajX{f:Nat->Int}:∀n,eo (λk=>f (k+1)) n=eo f (n+1)-f 0
 |0=>by simp[eo]
 |n+1=>by
  have:=ajX (f:=f) n;simp only[eo]at this ⊢;omega
def ajY{f g:Nat->Int}{x:Int}:∀n,eo (λk=>f k+x*g k) n=eo f n+x*eo g n
 |0=>by simp[eo]
 |n+1=>by
  simp only[eo];rw[ajY n,RM];omega
def az7{l:List Int}{n:Nat}(h:l.length<=n):sm l n=sm l l.length:=by
 obtain⟨d,rfl⟩:∃d,n=l.length+d:=⟨n-l.length,by omega⟩
 clear h
 induction d with
 |zero=>rfl
 |succ d ih =>
  rw[show l.length+(d+1)=(l.length+d)+1 by omega]
  simp only[sm];rw[ih,yo (by omega),MV]
def az8{r:Rc}{p:List Int}(h:iG r p x=0):sm (me r p x) (me r p x).length=sm p p.length+r.den*(x-nO r p x):=by
 obtain⟨h1,h2,h3,h4⟩:=IG h;have hv:=xb h1;have hn:0<r.w.length:=hv.pos;have e1:sm (me r p x) (me r p x).length=eo (rN r p x) r.w.length:=by
  have hl:(me r p x).length=oM (rN r p x) r.w.length:=by simp[me]
  have e:eo (nth (me r p x)) (oM (rN r p x) r.w.length)=eo (rN r p x) (oM (rN r p x) r.w.length):=ajW λk hk=>ajC hk;rw[QN,hl,e,ajV]
 obtain⟨m,hm⟩:∃m,r.w.length=m+1:=⟨r.w.length-1,by omega⟩
 have e2:eo (rN r p x) r.w.length=eo (λk=>rq r p x (k+1)) r.w.length+rq r p x 0 % r.den:=by
  rw[hm];have key:∀j,eo (rN r p x) (j+1)=eo (λk=>rq r p x (k+1)) (j+1)+rq r p x 0 % r.den:=by
   intro j;induction j with
   |zero=>simp[eo,rN]
   |succ j ih =>
    rw[eo,ih];simp only[eo,rN];rw[ax']
    omega
  exact key m
 have e3:rq r p x r.w.length=0:=by
  have:=h2.1;simp only[rq];rw[yo (by omega),yo (b8 _)]
  simp
 have e4:eo (rq r p x) r.w.length=sm p p.length+x*r.den:=by
  show eo (λk=>nth p k+x*nth r.w k) r.w.length=_;rw[ajY,<- QN,<- QN,az7 h2.1,hv.sum]
 have e5:rq r p x 0=r.den*nO r p x+rq r p x 0 % r.den:=(Int.mul_ediv_add_emod _ _).symm;have e6:r.den*(x-nO r p x)=x*r.den-r.den*nO r p x:=by rw[Int.mul_sub,MY r.den x]
 rw[e1,e2,ajX,eo,e3,e4,e6];omega
def hB(c:Cs)(f:Fl)(M:Int):Prop:=∀i,i<c.r.l.length->sm (nth f.w i) (nth f.w i).length<=(nth c.r.l i).r.den*(1073741824*M)
def az9{r:Rc}{p:List Int}(h:jA r p):0<=sm p p.length:=(FK (i:=p.length) h.2.2).1
variable{M:Int}
def ajZ{c:Cs}{f:Fl}{p:Sp}(h:Pa c f p)(hM:0<=M)(hb:hB c f M) :
  hB c (ue c f p) (M+1)/\∀i,i<c.r.l.length->0<=nth (Cg c f p).cm i/\nth (Cg c f p).cm i<=1073741824*(M+1):=by
 have hc:=oh h.c0;have e2:=(X8 hc p f).2
 suffices g:∀i,i<c.r.l.length->sm (nth (ue c f p).w i) (nth (ue c f p).w i).length<=(nth c.r.l i).r.den*(1073741824*(M+1))/\0<=nth (Cg c f p).cm i/\nth (Cg c f p).cm i<=1073741824*(M+1) from
  ⟨λi hi=>(g i hi).1,λi hi=>(g i hi).2⟩
 intro i hi;obtain⟨k,_,_,hl⟩:=(X5 h (b8 _)).link i (by omega)
 have hw:nth (ue c f p).w i=_:=hl.w;have ho:nth (Cg c f p).cm i=_:=hl.o;have hr:=az8 hl.e;have hx:=(IG hl.e).2.2.1;have h0:=(IH hl.e).1;have hd:=(xb (IG hl.e).1).den;have hs:=az9 (ajD hl.e);have Hp:=hb i hi;rw[hw,ho];generalize nO (nth c.r.l i).r (nth f.w i) (fX c p (cR c p f k) k)=o at *;generalize fX c p (cR c p f k) k=x at *;generalize me (nth c.r.l i).r (nth f.w i) x=q at *;generalize (nth c.r.l i).r.den=D at *;generalize sm (nth f.w i) (nth f.w i).length=s at *;have a1:D*(1073741824*(M+1))=D*(1073741824*M)+D*1073741824:=by rw[<-Int.mul_add];congr 1;omega
 have a2:D*(x-o)=D*x-D*o:=Int.mul_sub _ _ _;have a3:D*x<=D*1073741824:=MZ hx.2 (by omega)
 have a4:0<=D*o:=Gl (by omega) h0
 refine⟨by omega,h0,?_⟩
 exact Int.le_of_mul_le_mul_left (a:=D) (by omega) (by omega)
def QO{c:Cs}{f:Fl}{N:Int}(hk:kT c.r=0)(h:hB c f M)(hn:M<=N):hB c f N:=λi hi=>by
 have hd:=(xb ((oj hk).link hi).2.2).den;exact CE (h i hi) (MZ (by omega) (by omega))
def aAa{c:Cs}{s:List Ds}:hB c (pY c s) 0:=λi hi=>by
 have e:nth (pY c s).w i=[]:=by simp[pY,nth,hi]
 rw[e];simp[sm]
section
attribute [local simp] mX mY lX mW
def aAb{l:List Int}{k:Nat}(hd:dz l k){c:Cs}(hc:Cm c){s:List Ds}(hs:qD c s):∃f k',aX F 30 [.bu 0 0,cs c,zM s] [dk l k]=some (fl f,[dk l k'])/\dz l k'/\e8 c f/\hB c f 10:=by
 suffices h:∀Q:V->List aM->Prop,(∀f k',dz l k'->e8 c f->hB c f 10->Q (fl f) [dk l k'])->gz (aX F) 30 [.bu 0 0,cs c,zM s] [dk l k] Q by
  obtain⟨_,_,h,f,k',rfl,rfl,h1⟩:=h (λv G=>∃f k',v=fl f/\G=[dk l k']/\dz l k'/\e8 c f/\hB c f 10) λf k' a b d=>⟨f,k',rfl,rfl,a,b,d⟩;exact⟨f,k',h,h1⟩
 intro Q hQ;refine gN rfl rfl ?_;have cv:=oh hc.nI;have kv:=oj cv.k;have Ml:=hc.small;have hn6:=hc.n;obtain⟨G1,eI⟩:=azl c Ml s (IE hc.nI hs);have h0:Cb c s=.tuple [fl (pY c s),i64 0]:=by unfold Cb;rw[show AT c s=0 by unfold AT;rw[ax (by have:=hc.nI;omega),aJ hs]];rfl
 rw[h0]at eI;obtain⟨m,k1,n1,iD,hm⟩:=fG hd 6 (by omega)
 have XJ:=(XW hc.nI).2 hs;have Hg:=aAa (c:=c) (s:=s);generalize pY c s=f0 at eI XJ Hg;simp (disch:=omega) [adu,eI,n1];refine go_loop (λy:Fl×Int×Nat=>arl (.bu 0 0) y.2.1 c.row [i64 0,.cj,.cj] y.1.row [dk l y.2.2])
  (λy=>e8 c y.1/\(0<=y.2.1/\y.2.1<=10)/\dz l y.2.2/\hB c y.1 (10-y.2.1)) (λy=>y.2.1.toNat) (f0,m,k1) rfl (by simp) ⟨XJ,by simp only;omega,iD,QO cv.k Hg (by simp only;omega)⟩ ?_
 rintro⟨f,x,k⟩ ⟨h1,h2,hd,hh⟩;simp only at h1 h2 hd hh;simp (disch:=omega) [adt];refine bO (λh3=>?_) (λh3=>?_)
 .obtain⟨p,k2,n2,fu,hp,ha,hb,za⟩:=XZ hd (c:=c) (by have:=kv.n;omega) (by have:=cv.s;omega)
  have Mh:=cv.s;have nZ:p.a.length<=1000/\p.b.length<=1000/\p.c.length<=1000:=by have:=hp;unfold pX at this;omega
  obtain⟨G2,hS⟩:=QK Ml (IN cv.k h1) nZ;by_cases he:qE c f p=0
  .rw[wm,aJ he]at hS
   have zf:=(IM he).fl;have my:=QO cv.k (ajZ (IM he) (by omega) hh).1 (show 10-x+1<=10-(x-1) by omega)
   generalize ue c f p=f2 at hS zf my;generalize Cg c f p=pp at hS;simp (disch:=omega) [n2,hS];exact bB (f2,x-1,k2) (by simp) ⟨zf,by simp only;omega,fu,my⟩ (by simp only;omega)
  .rw[wm,ax he]at hS
   simp (disch:=omega) [n2,hS,decide_eq_false he];exact bB (f,x-1,k2) (by simp) ⟨h1,by simp only;omega,fu,QO cv.k hh (by simp only;omega)⟩ (by simp only;omega)
 .exact hQ f k hd h1 (QO cv.k hh (by omega))
def aAd{l:List Int}{k:Nat}(hd:dz l k):∃c f k',aX F 7 [.bu 0 0] [dk l k]=some (.tuple [cs c,fl f],[dk l k'])/\dz l k'/\Cm c/\e8 c f/\hB c f 10:=by
 suffices h:∀Q:V->List aM->Prop,(∀c f k',dz l k'->Cm c->e8 c f->hB c f 10->Q (.tuple [cs c,fl f]) [dk l k'])->gz (aX F) 7 [.bu 0 0] [dk l k] Q by
  obtain⟨_,_,h,c,f,k',rfl,rfl,h1⟩:=h (λv G=>∃c f k',v=.tuple [cs c,fl f]/\G=[dk l k']/\dz l k'/\Cm c/\e8 c f/\hB c f 10) λc f k' a b d e=>⟨c,f,k',rfl,rfl,a,b,d,e⟩;exact⟨c,f,k',h,h1⟩
 intro Q hQ;refine gN rfl rfl ?_;obtain⟨c,s,k1,n1,iD,hc,hs⟩:=azp hd;obtain⟨f,k2,n2,fu,hf,hb⟩:=aAb iD hc hs;simp[acZ,n1,n2];exact hQ c f k2 fu hc hf hb
instance:Inhabited Sp:=⟨⟨[],[],[]⟩⟩
abbrev gu(l:List Sp):V:=.slice none 3 (l.map Sp.row)
noncomputable def eO(c:Cs)(f:Fl)(l:List Sp):Nat->Fl
 |0=>f
 |k+1=>ue c (eO c f l k) (nth l k)
noncomputable def zP(c:Cs)(f:Fl)(l:List Sp)(k:Nat):Ps:=Cg c (eO c f l k) (nth l k)
noncomputable def tx(c:Cs)(f:Fl)(l:List Sp)(k:Nat):List Ps:=(List.range k).map (zP c f l)
def Yf{c:Cs}{f:Fl}{l:List Sp}{k:Nat}:tx c f l (k+1)=tx c f l k++[zP c f l k]:=by simp[tx,CL]
@[simp] theorem aAe{c:Cs}{f:Fl}{l:List Sp}{k:Nat}:(tx c f l k).length=k:=by simp[tx]
noncomputable def gK(c:Cs)(f:Fl)(l:List Sp):Int:=if lu c f≠0 then lu c f else if 400<l.length then 10 else dH (λk=>fB c (eO c f l k) (nth l k)) l.length 0
abbrev Yg(t:Option Nat)(e:Int):V:=.tuple [.agg [i64 0,.slice t 4 [],.slice t 1 []],.slice t 3 [],i64 e]
noncomputable def lJ(t:Option Nat)(c:Cs)(f:Fl)(l:List Sp):V:=if gK c f l=0 then .tuple [fl (eO c f l l.length),.slice t 3 ((tx c f l l.length).map Ps.row),i64 0] else Yg t (gK c f l)
def D3{c:Cs}{f:Fl}{p:Sp}(hc:fm c=0)(hf:e8 c f):qE c f p=fB c f p:=by
 unfold qE lu;rw[ax (by omega:¬ (fm c≠0)),aJ hf]
 rfl
def FR{c:Cs}{f:Fl}{l:List Sp}(hc:fm c=0)(hf:e8 c f):∀k,(∀j,j<k->fB c (eO c f l j) (nth l j)=0)->e8 c (eO c f l k)
 |0,_=>hf
 |k+1,h=>by
  have ih:=FR hc hf k λj hj=>h j (by omega)
  exact(IM (by rw[D3 hc ih];exact h k (by omega))).fl
set_option maxHeartbeats 1000000 in
def aj0{c:Cs}(hr:jO c.r){f:Fl}(hf:mf f)(l:List Sp)(hl:l.length<=1000):∃G',aX F 69 [cs c,fl f,gu l] []=some (lJ (some 0) c f l,G'):=by
 suffices h:∀Q:V->Prop,Q (lJ (some 0) c f l)->gz (aX F) 69 [cs c,fl f,gu l] [] λv _=>Q v by
  obtain⟨_,G',h,rfl⟩:=h (λv=>v=lJ (some 0) c f l) rfl;exact⟨G',h⟩
 intro Q hQ;refine gN rfl rfl ?_;have hd:=ajg c hr f hf;by_cases hz:lu c f=0
 case neg =>
  rw[lJ,ax (by unfold gK;rw[aJ hz];exact hz),show gK c f l=lu c f by unfold gK;rw[aJ hz]]at hQ
  simp (disch:=omega) [-getElem?_pos,O4,hd,hz];exact hQ
 obtain⟨z1,z2⟩:=E9 hz;have cv:=oh z1;have kv:=oj cv.k;by_cases h4:400<l.length
 case pos =>
  have e:gK c f l=10:=by unfold gK;rw[ax',aJ h4]
  have Yh:(400:Int)<l.length:=by omega
  rw[lJ,ax',e]at hQ
  simp (disch:=omega) [-getElem?_pos,O4,hd,hz,Yh];exact hQ
 have Yh:¬ (400:Int)<l.length:=by omega
 have eI:=ajn f.d (IE z1 z2.2.1);have hwv:=ajo f.w (QF cv.k z2.2.2);have e:gK c f l=dH (λk=>fB c (eO c f l k) (nth l k)) l.length 0:=by unfold gK;rw[ax',ax h4]
 simp (disch:=omega) [-getElem?_pos,O4,hd,hz,Yh,eI,hwv,B9,FO];refine go_loop (λk:Nat=>asq (.slice (some 1058) 3 ((tx c f l k).map Ps.row)) (gu l) l.length k c.row (eO c f l k).row [z0,.cj,.cj] k [.cells [],.cells []])
  (λk=>k<=l.length/\dH (λk=>fB c (eO c f l k) (nth l k)) (l.length-k) k=gK c f l/\∀j,j<k->fB c (eO c f l j) (nth l j)=0) (λk=>l.length-k) 0 rfl (by simp (disch:=omega) [B9,FO,eO,tx]) ⟨by omega,e.symm,by omega⟩ ?_
 rintro k ⟨hk,hE,hj⟩;have oO:=FR z1 z2 k hj;simp (disch:=omega) [-getElem?_pos,aef];refine bO (λh5=>?_) (λh5=>?_)
 .have h5:k<l.length:=by omega
  rw[kl h5]at hE;obtain⟨G1,hP⟩:=ajG hr z1 oO (nth l k);by_cases h6:fB c (eO c f l k) (nth l k)=0
  .rw[D0,aJ h6]at hP
   simp only[aJ h6]at hE;simp (disch:=omega) [-getElem?_pos,bc (l:=l),hP];refine bB (k+1) (by simp[Yf,eO,zP]) ⟨by omega,hE,λj nz=>?_⟩ (by omega)
   by_cases g:j=k
   .rw[g];exact h6
   .exact hj j (by omega)
  .rw[D0,ax h6]at hP
   simp only[ax h6]at hE;rw[lJ,ax',<- hE]at hQ
   simp (disch:=omega) [-getElem?_pos,bc (l:=l),hP,h6];exact hQ
 .obtain rfl:k=l.length:=by omega
  rw[pA]at hE;have hE:0=gK c f l:=hE;rw[lJ,aJ hE.symm]at hQ;exact hQ
variable{i:Nat}
def aj1{α:Type}[Inhabited α]{l:List α}{k:Nat}:nth (l.drop k) i=nth l (k+i):=by
 simp[nth,List.getD]
def aj2{c:Cs}{f:Fl}{l:List Sp}{k:Nat}:∀{i:Nat},i<=k->eO c f (l.take k) i=eO c f l i
 |0,_=>rfl
 |i+1,h=>by simp only[eO];rw[aj2 (by omega),DU (by omega)]
def aj3{c:Cs}{f:Fl}{l:List Sp}{k:Nat}:∀i:Nat,eO c (eO c f l k) (l.drop k) i=eO c f l (k+i)
 |0=>rfl
 |i+1=>by
  show ue c (eO c (eO c f l k) (l.drop k) i) (nth (l.drop k) i)=ue c (eO c f l (k+i)) (nth l (k+i));rw[aj3 i,aj1]
structure Ra(c:Cs)(f:Fl)(l:List Sp):Prop where
 c0:fm c=0
 f0:e8 c f
 len:l.length<=400
 v:∀k,k<l.length->fB c (eO c f l k) (nth l k)=0
def aj4{c:Cs}{f:Fl}{l:List Sp}(h:gK c f l=0):Ra c f l:=by
 unfold gK at h;split at h
 next h1=>exact absurd h h1
 next h1=>
  obtain⟨a,b⟩:=E9 (jf h1);split at h
  .cases h
  .exact⟨a,b,by omega,λk hk=>tT h k (by omega) (by omega)⟩
def Ra.e{c:Cs}{f:Fl}{l:List Sp}(h:Ra c f l):gK c f l=0:=by
 have hr:lu c f=0:=by unfold lu;rw[ax (by have:=h.c0;omega),aJ h.f0]
 have:=h.len;unfold gK;rw[ax',ax']
 exact vU λj _ hj=>h.v j (by omega)
def Ra.at_{c:Cs}{f:Fl}{l:List Sp}(h:Ra c f l){k:Nat}(hk:k<=l.length):e8 c (eO c f l k):=FR h.c0 h.f0 k λj hj=>h.v j (by omega)
def Ra.pa{c:Cs}{f:Fl}{l:List Sp}(h:Ra c f l){k:Nat}(hk:k<l.length):Pa c (eO c f l k) (nth l k):=IM (by rw[D3 h.c0 (h.at_ (by omega))];exact h.v k hk)
def Ra.take{c:Cs}{f:Fl}{l:List Sp}(h:Ra c f l){k:Nat}(hk:k<=l.length):Ra c f (l.take k) :=
 ⟨h.c0,h.f0,by have:=h.len;simp;omega,λj hj=>by
  simp at hj;rw[aj2 (by omega),DU (by omega)]
  exact h.v j (by omega)⟩
def Ra.drop{c:Cs}{f:Fl}{l:List Sp}(h:Ra c f l){k:Nat}(hk:k<=l.length):Ra c (eO c f l k) (l.drop k) :=
 ⟨h.c0,h.at_ hk,by have:=h.len;simp;omega,λj hj=>by
  simp at hj;rw[aj3,aj1];exact h.v (k+j) (by omega)⟩
def Ra.hB{c:Cs}{f:Fl}{l:List Sp}(h:Ra c f l){M:Int}(hM:0<=M)(hb:hB c f M):∀{k:Nat},k<=l.length->hB c (eO c f l k) (M+k)
 |0,_=>by simpa [eO] using hb
 |k+1,hk=>by
  have:=(ajZ (h.pa (k:=k) (by omega)) (by omega) (h.hB hM hb (k:=k) (by omega))).1
  rw[show M+((k+1:Nat):Int)=M+k+1 by omega]
  exact this
def Sw(c:Cs)(p:Sp):Prop:=pX c p/\fx p.a 30/\fx p.b 30/\fx p.c 30
abbrev Yi(l:List Sp):V:=.slice (some 0) 3 (l.map Sp.row)
variable{n:Nat}
def aAg{l:List Int}{k:Nat}(hd:dz l k){c:Cs}(hn:1<=c.r.n/\c.r.n<=40)(hs:c.s.length<=10)(hm:n<=1000) :
  ∃q k',aX F 11 [.bu 0 0,cs c,i64 n] [dk l k]=some (Yi q,[dk l k'])/\dz l k'/\q.length=n/\∀i,i<n->Sw c (nth q i):=by
 suffices h:∀Q:V->List aM->Prop,(∀q k',dz l k'->q.length=n->(∀i,i<n->Sw c (nth q i))->Q (Yi q) [dk l k'])->gz (aX F) 11 [.bu 0 0,cs c,i64 n] [dk l k] Q by
  obtain⟨_,_,h,q,k',rfl,rfl,h1⟩:=h (λv G=>∃q k',v=Yi q/\G=[dk l k']/\dz l k'/\q.length=n/\∀i,i<n->Sw c (nth q i)) λq k' a b d=>⟨q,k',rfl,rfl,a,b,d⟩;exact⟨q,k',h,h1⟩
 intro Q hQ;refine gN rfl rfl ?_;simp (disch:=omega) [ac4];refine go_loop (λy:List Sp×Nat=>aqx (.bu 0 0) (.slice (some 1016) 3 (y.1.map Sp.row)) n y.1.length c.row y.1.length [dk l y.2]) (λy=>y.1.length<=n/\dz l y.2/\∀i,i<y.1.length->Sw c (nth y.1 i)) (λy=>n-y.1.length) ([],k) rfl (by simp) ⟨by simp,hd,λi hi=>absurd hi (by simp)⟩ ?_
 rintro⟨q,k⟩ ⟨h1,hd,hq⟩;simp only at h1 hd hq;simp (disch:=omega) [ac3];refine bO (λh5=>?_) (λh5=>?_)
 .obtain⟨p,k2,n2,fu,hp⟩:=XZ hd (c:=c) hn hs
  simp (disch:=omega) [n2];refine bB (q++[p],k2) (by simp) ⟨by simp;omega,fu,λi hi=>?_⟩ (by simp;omega)
  simp only[jQ,rQ]at hi;rw[jM];by_cases g:i<q.length
  .rw[aJ g];exact hq i g
  .rw[ax g,aJ'];exact hp
 .obtain e:q.length=n:=by omega
  exact hQ q k hd e (λi hi=>hq i (by omega))
structure Pn where
 f:Int
 l:List (List Int)
abbrev Pn.row(p:Pn):List V:=[i64 p.f,og p.l]
abbrev pn(p:Pn):V:=.agg p.row
noncomputable def IP(c:Cs)(l:List (List Int))(i:Nat):Int:=if (nth l i).length=c.s.length then (if fx (nth l i) 1073741824 then 0 else 1) else 51
noncomputable def vi(c:Cs)(p:Pn):Int:=if fm c≠0 then fm c else if 0<=p.f/\p.f<=16777216 then (if 96<p.l.length then 10 else dH (IP c p.l) p.l.length 0) else 6
def aAh(n:Int)(G:List aM):aX F 35 [i64 n] G=some (.bool (!decide (0<=n/\n<=1073741824)),G) :=
 bD rfl rfl (by
  simp[adC];by_cases h1:n<0
  .simp[h1,show ¬ 0<=n by omega]
  .simp[h1,show 0<=n by omega]
   by_cases h2:n<=1073741824
   .simp[h2,show ¬ 1073741824<n by omega]
   .simp[h2,show 1073741824<n by omega])
def Yj(c:Cs)(hr:jO c.r)(p:Pn)(G:List aM):aX F 13 [cs c,pn p] G=some (i64 (vi c p),G) :=
 bD rfl rfl (by
  obtain⟨t,l⟩:=p;generalize hW:vi c ⟨t,l⟩=W;unfold vi at hW;simp only at hW;have h0:=XP c hr;by_cases h1:fm c=0
  case neg =>
   rw[aJ h1]at hW;simp (disch:=omega) [-getElem?_pos,HM,h0,h1];exact hW
  rw[ax']at hW
  have hs:=(oh h1).s;by_cases h2:0<=t/\t<=16777216
  case neg =>
   rw[ax h2]at hW;rcases (by omega:t<0\/(¬t<0/\16777216<t)) with a | ⟨a,b⟩
   .simp (disch:=omega) [-getElem?_pos,HM,h0,h1,a]
    exact hW
   .simp (disch:=omega) [-getElem?_pos,HM,h0,h1,a,b]
    exact hW
  rw[aJ h2]at hW;have a:¬ t<0:=by omega
  have b:¬ 16777216<t:=by omega
  by_cases h3:96<l.length
  .rw[aJ h3]at hW
   have jd:(96:Int)<l.length:=by omega
   simp (disch:=omega) [-getElem?_pos,HM,h0,h1,a,b,jd];exact hW
  rw[ax h3]at hW;have jd:¬ (96:Int)<l.length:=by omega
  simp (disch:=omega) [-getElem?_pos,HM,h0,h1,a,b,jd];refine go_loop (λi:Nat=>aqC (og l) l.length i c.row G) (λi=>i<=l.length/\dH (IP c l) (l.length-i) i=W) (λi=>l.length-i) 0 rfl (by simp) ⟨by omega,hW⟩ ?_
  rintro i ⟨hi,hq⟩;simp (disch:=omega) [-getElem?_pos,ac7];refine bO (λh5=>?_) (λh5=>?_)
  .have h5:i<l.length:=by omega
   rw[kl h5]at hq;unfold IP at hq;by_cases h6:(nth l i).length=c.s.length
   .rw[aJ h6]at hq
    have hc:=Qn (nth l i) (by omega) (λn => !decide (0<=n/\n<=1073741824)) 35 G (λn=>aAh n G)
    rw[ajF]at hc;by_cases h7:fx (nth l i) 1073741824
    .rw[aJ h7]at hq
     simp (disch:=omega) [-getElem?_pos,bc (l:=l),h6,hc,h7];exact bB' (i+1) ⟨by omega,hq⟩
    .rw[ax h7]at hq
     simp (disch:=omega) [-getElem?_pos,bc (l:=l),h6,hc,h7];exact hq
   .rw[ax h6]at hq
    have je:¬ ((nth l i).length:Int)=c.s.length:=by omega
    simp (disch:=omega) [-getElem?_pos,bc (l:=l),je];exact hq
  .obtain rfl:i=l.length:=by omega
   rw[l7]at hq;exact hq)
def Yk(c:Cs)(hr:jO c.r)(p:Pn)(G:List aM):aX F 14 [cs c,pn p] G=some (i64 (vi c p),G) :=
 bD rfl rfl (by
  obtain⟨t,l⟩:=p;generalize hW:vi c ⟨t,l⟩=W;unfold vi at hW;simp only at hW;have h0:=Qs c hr;by_cases h1:fm c=0
  case neg =>
   rw[aJ h1]at hW;simp (disch:=omega) [-getElem?_pos,HN,h0,h1];exact hW
  rw[ax']at hW
  have hs:=(oh h1).s;by_cases h2:0<=t/\t<=16777216
  case neg =>
   rw[ax h2]at hW;rcases (by omega:t<0\/(¬t<0/\16777216<t)) with a | ⟨a,b⟩
   .simp (disch:=omega) [-getElem?_pos,HN,h0,h1,a]
    exact hW
   .simp (disch:=omega) [-getElem?_pos,HN,h0,h1,a,b]
    exact hW
  rw[aJ h2]at hW;have a:¬ t<0:=by omega
  have b:¬ 16777216<t:=by omega
  by_cases h3:96<l.length
  .rw[aJ h3]at hW
   have jd:(96:Int)<l.length:=by omega
   simp (disch:=omega) [-getElem?_pos,HN,h0,h1,a,b,jd];exact hW
  rw[ax h3]at hW;have jd:¬ (96:Int)<l.length:=by omega
  simp (disch:=omega) [-getElem?_pos,HN,h0,h1,a,b,jd];refine go_loop (λi:Nat=>aqG (og l) l.length i c.row G) (λi=>i<=l.length/\dH (IP c l) (l.length-i) i=W) (λi=>l.length-i) 0 rfl (by simp) ⟨by omega,hW⟩ ?_
  rintro i ⟨hi,hq⟩;simp (disch:=omega) [-getElem?_pos,ac9];refine bO (λh5=>?_) (λh5=>?_)
  .have h5:i<l.length:=by omega
   rw[kl h5]at hq;unfold IP at hq;by_cases h6:(nth l i).length=c.s.length
   .rw[aJ h6]at hq
    simp (disch:=omega) [-getElem?_pos,bc (l:=l),h6];refine go_loop (λj:Nat=>aqE (og l) l.length i (ints (nth l i)) (nth l i).length j c.row G) (λj=>j<=(nth l i).length/\∀k,k<j->0<=nth (nth l i) k/\nth (nth l i) k<=1073741824) (λj=>(nth l i).length-j) 0 rfl (by simp[h6]) ⟨by omega,by omega⟩ ?_
    rintro j ⟨hj,hk⟩;simp (disch:=omega) [-getElem?_pos,ac8];refine bO (λh7=>?_) (λh7=>?_)
    .have h7:j<(nth l i).length:=by omega
     by_cases g:0<=nth (nth l i) j/\nth (nth l i) j<=1073741824
     .simp (disch:=omega) [-getElem?_pos,dQ (l:=nth l i),show ¬ nth (nth l i) j<0 by omega,show ¬ 1073741824<nth (nth l i) j by omega]
      refine bB' (j+1) ⟨by omega,λk ql=>?_⟩
      rcases (by omega:k<j\/k=j) with h|rfl
      .exact hk k h
      .exact g
     .rw[ax (λq:fx (nth l i) 1073741824=>g (q j h7))]at hq
      rcases (by omega:nth (nth l i) j<0\/(¬nth (nth l i) j<0/\1073741824<nth (nth l i) j)) with a | ⟨a,b⟩
      .simp (disch:=omega) [-getElem?_pos,dQ (l:=nth l i),a]
       exact hq
      .simp (disch:=omega) [-getElem?_pos,dQ (l:=nth l i),a,b]
       exact hq
    .obtain rfl:j=(nth l i).length:=by omega
     rw[aJ (show fx (nth l i) 1073741824 from hk)]at hq;exact bB' (i+1) ⟨by omega,hq⟩
   .rw[ax h6]at hq
    have je:¬ ((nth l i).length:Int)=c.s.length:=by omega
    simp (disch:=omega) [-getElem?_pos,bc (l:=l),je];exact hq
  .obtain rfl:i=l.length:=by omega
   rw[l7]at hq;exact hq)
noncomputable def jr(c:Cs)(f:Fl)(p:Pn)(n:Nat):Int:=if vi c p≠0 then vi c p else if e8 c f then (if p.f=f.t then (if n=p.l.length then 0 else 3) else 6) else 50
def Yl(c:Cs)(hr:jO c.r){f:Fl}(hf:mf f)(p:Pn)(l:List Sp)(G:List aM):aX F 43 [cs c,fl f,pn p,gu l] G=some (i64 (jr c f p l.length),G) :=
 bD rfl rfl (by
  have h0:=Yk c hr p;have h1:=XQ c hr f hf;unfold jr;by_cases a:vi c p=0
  case neg=>simp (disch:=omega) [-getElem?_pos,HR,h0,a]
  have hc:fm c=0:=by
   unfold vi at a;split at a
   next h=>exact absurd a h
   next h=>exact jf h
  by_cases b:e8 c f
  case neg=>simp (disch:=omega) [-getElem?_pos,HR,h0,a,h1,b]
  by_cases d:p.f=f.t
  case neg=>simp (disch:=omega) [-getElem?_pos,HR,h0,a,h1,hc,b,d]
  obtain⟨t,pl⟩:=p;obtain rfl:t=f.t:=d;by_cases e:l.length=pl.length
  .simp (disch:=omega) [-getElem?_pos,HR,h0,a,h1,hc,b,e]
  .have e':¬ (l.length:Int)=pl.length:=by omega
   simp (disch:=omega) [-getElem?_pos,HR,h0,a,h1,hc,b,e,e'])
def fe(p:Pn)(l:List Sp):List Sp:=(List.range l.length).map λi=>⟨(nth l i).a,(nth l i).b,nth p.l i⟩
variable{p:Pn}
def zQ{l:List Sp}:(fe p l).length=l.length:=by simp[fe]
def Mr{l:List Sp}(h:i<l.length):nth (fe p l) i=⟨(nth l i).a,(nth l i).b,nth p.l i⟩:=by
 simp[nth,fe,List.getD,h]
noncomputable def xg(c:Cs)(f:Fl)(p:Pn)(l:List Sp):Int:=if jr c f p l.length≠0 then jr c f p l.length else gK c f (fe p l)
noncomputable def yt(t:Option Nat)(c:Cs)(f:Fl)(p:Pn)(l:List Sp):V:=if jr c f p l.length=0 then lJ t c f (fe p l) else Yg t (jr c f p l.length)
structure Bg(c:Cs)(f:Fl)(p:Pn)(n:Nat):Prop where
 c0:fm c=0
 f0:e8 c f
 t:p.f=f.t
 len:n=p.l.length
 dF:n<=96
 e:∀i,i<n->(nth p.l i).length=c.s.length/\fx (nth p.l i) 1073741824
def Cn{c:Cs}{f:Fl}(h:jr c f p n=0):Bg c f p n:=by
 unfold jr at h;split at h
 next h1=>exact absurd h h1
 next h1=>
  have h1:=jf h1;unfold vi at h1;split at h1
  next h2=>exact absurd h1 h2
  next h2=>
   split at h1
   .split at h1
    .cases h1
    .split at h
     .split at h
      .split at h
       next h3 h4 h5 h6=>
        refine⟨jf h2,h4,h5,h6,by omega,λi hi=>?_⟩
        have h7:=tT h1 i (by omega) (by omega)
        unfold IP at h7;split at h7
        .split at h7
         .exact⟨by assumption,by assumption⟩
         .cases h7
        .cases h7
       .cases h
      .cases h
     .cases h
   .cases h1
def Bg.rd{c:Cs}{f:Fl}(h:Bg c f p n):lu c f=0:=by
 unfold lu;rw[ax (by have:=h.c0;omega),aJ h.f0]
def Bg.cr{c:Cs}{f:Fl}{l:List Sp}(h:Bg c f p l.length):gK c f (fe p l)=dH (λk=>fB c (eO c f (fe p l) k) (nth (fe p l) k)) l.length 0:=by
 have:=h.dF;unfold gK;rw[ax (by have:=h.rd;omega),zQ,ax']
abbrev IQ(c:Cs)(p:Pn)(g:V):V:=.agg [i64 c.r.n,pW c.r.l,ru c.s,i64 p.f,og p.l,g]
def aAi(f:Fl)(l:List Int)(G:List aM):aX F 40 [fl f,ints l] G=some (ints l,G) :=
 bD rfl rfl (by simp[adG])
def IS(c:Cs)(hr:jO c.r){f:Fl}(hf:mf f)(p:Pn)(q:FuncId)(cap:List V)(l:List Sp)(G:List aM):aX F 41 [IQ c p (.fn q cap),fl f,gu l] G=some (i64 (jr c f p l.length),G) :=
 bD rfl rfl (by
  have h0:=Yj c hr p;have h1:=azc c hr f hf;unfold jr;by_cases a:vi c p=0
  case neg=>simp (disch:=omega) [-getElem?_pos,HQ,h0,a]
  have hc:fm c=0:=by
   unfold vi at a;split at a
   next h=>exact absurd a h
   next h=>exact jf h
  by_cases b:e8 c f
  case neg=>simp (disch:=omega) [-getElem?_pos,HQ,h0,a,h1,b]
  by_cases d:p.f=f.t
  case neg=>simp (disch:=omega) [-getElem?_pos,HQ,h0,a,h1,hc,b,d]
  obtain⟨t,pl⟩:=p;obtain rfl:t=f.t:=d;by_cases e:l.length=pl.length
  .simp (disch:=omega) [-getElem?_pos,HQ,h0,a,h1,hc,b,e]
  .have e':¬ (l.length:Int)=pl.length:=by omega
   simp (disch:=omega) [-getElem?_pos,HQ,h0,a,h1,hc,b,e,e'])
variable{M:List (List Int)}
def aAj{c:Cs}{f:Fl}{l:List Sp}(hb:Bg c f p l.length):gK c f (fe ⟨p.f,M⟩ l)=dH (λk=>fB c (eO c f (fe ⟨p.f,M⟩ l) k) (nth (fe ⟨p.f,M⟩ l) k)) l.length 0:=by
 have:=hb.dF;unfold gK;rw[ax (by have:=hb.rd;omega),zQ,ax']
set_option maxHeartbeats 1000000 in
def Ym{c:Cs}(hr:jO c.r){f:Fl}(hf:mf f){l:List Sp}(hb:Bg c f p l.length){fn:FuncId}{cap:List V}{tk:Option Nat}(QQ:tk=none\/tk=some 0){Gs:Nat->List aM}
  (hs:∀k,k<l.length->(∀j,j<k->fB c (eO c f (fe ⟨p.f,M⟩ l) j) (nth (fe ⟨p.f,M⟩ l) j)=0)->aX F fn (fl (eO c f (fe ⟨p.f,M⟩ l) k)::ints (nth p.l k)::cap) (Gs k)=some (.slice tk 1 ((nth M k).map λn=>[i64 n]),Gs (k+1))) :
  ∃m,aX F 42 [IQ c p (.fn fn cap),fl f,gu l] (Gs 0)=some (lJ (some 0) c f (fe ⟨p.f,M⟩ l),Gs m)/\(gK c f (fe ⟨p.f,M⟩ l)=0->m=l.length):=by
 suffices h:∀Q:V->List aM->Prop,(∀m,(gK c f (fe ⟨p.f,M⟩ l)=0->m=l.length)->Q (lJ (some 0) c f (fe ⟨p.f,M⟩ l)) (Gs m))->gz (aX F) 42 [IQ c p (.fn fn cap),fl f,gu l] (Gs 0) Q by
  obtain⟨_,G',h,m,rfl,rfl,hm⟩:=h (λv G'=>∃m,v=lJ (some 0) c f (fe ⟨p.f,M⟩ l)/\G'=Gs m/\(gK c f (fe ⟨p.f,M⟩ l)=0->m=l.length)) λm hm=>⟨m,rfl,rfl,hm⟩;exact⟨m,h,hm⟩
 intro Q hQ;refine gN rfl rfl ?_;have z1:=hb.c0;have z2:=hb.f0;have cv:=oh z1;have kv:=oj cv.k;have hn:=hb.len;have hm:=hb.dF;obtain⟨G0,Ah⟩:=aj0 hr hf [] (by simp)
 rw[lJ,aJ (by unfold gK;rw[ax (by have:=hb.rd;omega)];rfl)]at Ah
 simp only[eO,tB,tx,List.range_zero,Gp]at Ah;rw[show gu []=.slice none 3 [] from rfl]at Ah;have e:=aAj hb (M:=M);generalize hq:fe ⟨p.f,M⟩ l=q at e hQ hs;have qi:q.length=l.length:=by rw[<-hq,zQ]
 simp (disch:=omega) [-getElem?_pos,Vb,Ah];refine go_loop (λk:Nat=>arA (gu l) (.slice (some 1070) 3 ((tx c f q k).map Ps.row)) (og p.l) p.l.length k [i64 c.r.n,pW c.r.l,ru c.s,i64 p.f,og p.l,.fn fn cap] (eO c f q k).row [z0,.cj,.cj] k (Gs k))
  (λk=>k<=l.length/\dH (λk=>fB c (eO c f q k) (nth q k)) (l.length-k) k=gK c f q/\∀j,j<k->fB c (eO c f q j) (nth q j)=0) (λk=>l.length-k) 0 rfl (by simp[eO,tx]) ⟨by omega,e.symm,by omega⟩ ?_
 rintro k ⟨hk,hE,hj⟩;have oO:=FR z1 z2 k hj;simp (disch:=omega) [-getElem?_pos,Va];refine bO (λh5=>?_) (λh5=>?_)
 .have h5:k<l.length:=by omega
  rw[kl h5]at hE;have rz:nth q k=⟨(nth l k).a,(nth l k).b,nth M k⟩:=by rw[<-hq,Mr h5]
  obtain⟨t1,G1,hP⟩:=azG hr (IN cv.k oO) (nth q k);rw[wm,D3 z1 oO]at hP;have hs:=hs k h5 hj;rw[rz]at hP;by_cases h6:fB c (eO c f q k) (nth q k)=0
  .rw[<-rz,aJ h6,rz]at hP
   simp only[aJ h6]at hE;have GP:(∀j,j<k+1->fB c (eO c f q j) (nth q j)=0):=λj nz=>by
    by_cases g:j=k
    .rw[g];exact h6
    .exact hj j (by omega)
   rcases QQ with rfl|rfl <;>
   .simp (disch:=omega) [-getElem?_pos,bc (l:=l),bc (l:=p.l),hs,hP]
    exact bB (k+1) (by simp[Yf,eO,zP,rz]) ⟨by omega,hE,GP⟩ (by omega)
  .rw[<-rz,ax h6,rz]at hP
   simp only[ax h6]at hE;have hQ:=hQ (k+1) (λg=>by omega)
   rw[lJ,ax',<- hE]at hQ
   rw[rz]at h6 hQ;rcases QQ with rfl|rfl <;>
   .simp (disch:=omega) [-getElem?_pos,bc (l:=l),bc (l:=p.l),hs,hP,h6]
    exact hQ
 .obtain rfl:k=l.length:=by omega
  rw[pA]at hE;have hE:0=gK c f q:=hE;have hQ:=hQ l.length λ_=>rfl;rw[lJ,aJ hE.symm,qi]at hQ;exact hQ
def aAk{c:Cs}(hr:jO c.r){f:Fl}(hf:mf f){l:List Sp}(hb:Bg c f p l.length)(G:List aM) :
  aX F 42 [IQ c p (.fn 40 []),fl f,gu l] G=some (lJ (some 0) c f (fe p l),G):=by
 obtain⟨m,h,_⟩:=Ym hr hf hb (M:=p.l) (.inl rfl) (Gs:=λ_=>G) λk _ _=>aAi _ _ G;exact h
def aj7{c:Cs}(hr:jO c.r){f:Fl}(hf:mf f)(p:Pn)(l:List Sp)(G:List aM):∃X,(xg c f p l=0->X=yt (some 0) c f p l) /\
  (xg c f p l≠0->∃t u,X=.tuple [.agg [i64 0,.slice t 4 [],.slice t 1 []],.slice u 3 [],i64 (xg c f p l)])/\aX F 20 [cs c,fl f,pn p,gu l] G=some (X,G):=by
 have h0:=IS c hr hf p 40 [] l;unfold yt xg;by_cases hz:jr c f p l.length=0
 .have h1:=aAk hr hf (Cn hz)
  simp only[aJ hz,ax (show ¬ jr c f p l.length≠0 from λg=>g hz)];by_cases hy:gK c f (fe p l)=0
  .refine⟨_,λ_=>rfl,λh=>absurd hy h,?_⟩
   simp only[lJ,aJ hy]at h1 ⊢;exact bD rfl rfl (by simp[OW,h0,hz,h1])
  .refine⟨_,λh=>absurd h hy,λ_=>⟨none,some 0,rfl⟩,?_⟩
   simp only[lJ,ax hy]at h1 ⊢;exact bD rfl rfl (by simp[OW,h0,hz,h1])
 .simp only[ax hz,aJ (show jr c f p l.length≠0 from hz)]
  exact⟨_,λ_=>rfl,λ_=>⟨some 0,some 0,rfl⟩,bD rfl rfl (by simp[OW,h0,hz])⟩
set_option maxHeartbeats 1000000 in
def aAl{c:Cs}(hr:jO c.r){f:Fl}(hf:mf f)(p:Pn)(l:List Sp)(hp:∀i,i<l.length->(nth l i).a.length<=1000/\(nth l i).b.length<=1000) :
  ∃G',aX F 21 [cs c,fl f,pn p,gu l] []=some (yt (some 0) c f p l,G'):=by
 suffices h:∀Q:V->Prop,Q (yt (some 0) c f p l)->gz (aX F) 21 [cs c,fl f,pn p,gu l] [] λv _=>Q v by
  obtain⟨_,G',h,rfl⟩:=h (λv=>v=yt (some 0) c f p l) rfl;exact⟨G',h⟩
 intro Q hQ;refine gN rfl rfl ?_;have h0:=Yl c hr hf p l;unfold yt at hQ;by_cases hz:jr c f p l.length=0
 case neg =>
  rw[ax hz]at hQ;simp (disch:=omega) [-getElem?_pos,U0,h0,hz];exact hQ
 rw[aJ hz]at hQ;have hb:=Cn hz;have z1:=hb.c0;have z2:=hb.f0;have cv:=oh z1;have kv:=oj cv.k;have hn:=hb.len;have hm:=hb.dF;have Mh:=cv.s;have gM:=ajq f (IE z1 z2.2.1) (QF cv.k z2.2.2);have e:=hb.cr;generalize hq:fe p l=q at e hQ;have qi:q.length=l.length:=by rw[<-hq,zQ]
 simp (disch:=omega) [-getElem?_pos,U0,h0,hz,gM];refine go_loop (λk:Nat=>aqM (.slice (some 1061) 3 ((tx c f q k).map Ps.row)) (gu l) l.length k c.row (eO c f q k).row p.row [z0,.cj,.cj] k [.cells [],.cells []])
  (λk=>k<=l.length/\dH (λk=>fB c (eO c f q k) (nth q k)) (l.length-k) k=gK c f q/\∀j,j<k->fB c (eO c f q j) (nth q j)=0) (λk=>l.length-k) 0 rfl (by simp (disch:=omega) [B9,FO,eO,tx]) ⟨by omega,e.symm,by omega⟩ ?_
 rintro k ⟨hk,hE,hj⟩;have oO:=FR z1 z2 k hj;simp (disch:=omega) [-getElem?_pos,ade];refine bO (λh5=>?_) (λh5=>?_)
 .have h5:k<l.length:=by omega
  rw[kl h5]at hE;have rz:nth q k=⟨(nth l k).a,(nth l k).b,nth p.l k⟩:=by rw[<-hq,Mr h5]
  obtain⟨G1,hP⟩:=QK (p:=nth q k) hr (IN cv.k oO) (by rw[rz];have:=hp k h5;have:=(hb.e k h5).1;simp only;omega)
  rw[wm,D3 z1 oO]at hP;rw[rz]at hP;by_cases h6:fB c (eO c f q k) (nth q k)=0
  .rw[<-rz,aJ h6,rz]at hP
   simp only[aJ h6]at hE;simp (disch:=omega) [-getElem?_pos,bc (l:=l),bc (l:=p.l),hP];refine bB (k+1) (by simp[Yf,eO,zP,rz]) ⟨by omega,hE,λj nz=>?_⟩ (by omega)
   by_cases g:j=k
   .rw[g];exact h6
   .exact hj j (by omega)
  .rw[<-rz,ax h6,rz]at hP
   simp only[ax h6]at hE;rw[lJ,ax',<- hE]at hQ
   rw[rz]at h6 hQ;simp (disch:=omega) [-getElem?_pos,bc (l:=l),bc (l:=p.l),hP,h6];exact hQ
 .obtain rfl:k=l.length:=by omega
  rw[pA]at hE;have hE:0=gK c f q:=hE;rw[lJ,aJ hE.symm,qi]at hQ;exact hQ
end
def aj8(s p:List Int)(i:Nat):Int :=
 if (i=0/\nth s i≠0)\/(0<i/\nth s i<=nth s (i-1)) then 4
 else if 95<nth s i\/nth p i<0\/10000<nth p i then 1 else 0
def aj9(s p:List Int):Nat->Nat->Int
 |0,_=>0
 |m+1,i=>if aj8 s p i=0 then aj9 s p m (i+1) else aj8 s p i
def nI(s p:List Int):Int :=
 if s.length=0\/s.length≠p.length then 3 else if 96<s.length then 10 else aj9 s p s.length 0
def li(s:List Int)(k:Int):Nat->Nat
 |0=>0
 |m+1=>if nth s m<=k then m else li s k m
def day(s:List Int)(j:Nat):Int:=li s j s.length
def pr(s p:List Int)(t:Int):Int:=nth p (li s (t.tmod 96) s.length)
structure Valid(s p:List Int):Prop where
 pos:0<s.length
 len:s.length=p.length
 l8:s.length<=96
 zero:nth s 0=0
 up:∀i,i+1<s.length->nth s i<nth s (i+1)
 top:∀i,i<s.length->0<=nth s i/\nth s i<=95
 aIu:∀i,i<s.length->0<=nth p i/\nth p i<=10000
variable{s:List Int}
def aIv{k:Int}{m:Nat}:li s k (m+1)=if nth s m<=k then m else li s k m:=rfl
instance:Inhabited Ps:=⟨⟨[],[],[]⟩⟩
def Ms(q:Int):List Dr->Int->Option Int
 |[],n=>some n
 |r::rs,n=>if r.pow<0\/8589934592<r.pow then none else Ms q rs (IntKind.i64.wrap (n+IntKind.i64.wrap (r.pow*q)))
def Yn(s p:List Int)(t:Int):List Ps->Int->Option Int
 |[],n=>some n
 |x::l,n=>match Ms (pr s p t) x.re n with
  |none=>none
  |some n=>Yn s p (t+1) l n
def big(l:List Ps):Bool:=l.any λx=>decide (6<x.re.length)
variable{l:List Ps}{i:Nat}
def aIw(h:i<l.length):big (l.drop i)=(decide (6<(nth l i).re.length) || big (l.drop (i+1))):=by
 rw[uW h];rfl
variable{n:Int}
def aIx{p:List Int}{t:Int}(h:i<l.length):Yn s p t (l.drop i) n=match Ms (pr s p t) (nth l i).re n with
  |none=>none
  |some n=>Yn s p (t+1) (l.drop (i+1)) n:=by
 rw[uW h];rfl
def aIy{q:Int}{l:List Dr}(h:i<l.length):Ms q (l.drop i) n=if (nth l i).pow<0\/8589934592<(nth l i).pow then none else Ms q (l.drop (i+1)) (IntKind.i64.wrap (n+IntKind.i64.wrap ((nth l i).pow*q))):=by
 rw[uW h];rfl
section
attribute [local simp] mX mY lX mW
abbrev Yo(l:List (List Int)):V:=.slice (some 0) 1 (l.map λp=>[ints p])
def aAm{t:Option Nat}{c:Cs}{f:Fl}{p:Pn}{l:List Sp}(h:xg c f p l=0) :
  yt t c f p l=.tuple [fl (eO c f (fe p l) l.length),.slice t 3 ((tx c f (fe p l) l.length).map Ps.row),i64 0]:=by
 unfold xg at h;split at h
 next h1=>exact absurd h h1
 next h1=>
  unfold yt lJ;rw[aJ (jf h1),aJ h,zQ]
end
