/- Parts of the proof, joined: Vpl1. -/
import Derived.Test.YtocclbnghhaejaaGreatDh
namespace Go.Proofs.YtocclbnghhaejaaGreat
set_option linter.all false
open Go.Vm
attribute [local simp] lQ lR kP lP
theorem QO:aX F 27 [] []=some (.bool true,[]):=zH.2 ⟨200,by kernel_rfl⟩
theorem QP{c:Cs}{f:Fl}{l:List Sp}:∀k:Nat,(eo c f l k).t=f.t+k
 |0=>by simp[eo]
 |k+1=>by
  show(eo c f l k).t+1=_;rw[QP k];omega
theorem ap5{s p:List Int}{t:Int}{l:List Ps}(h:wE s p t l=0):eH s p=0∧0≤t∧(0<l.length→t+l.length≤16777217)∧oO s p t l 0=some (wN s p t l):=by
 have h0:=h;unfold wE at h;split at h
 ·rename_i h1;exact absurd h h1
 ·rename_i h1
  split at h
  ·cases h
  ·split at h
   ·cases h
   ·split at h
    ·cases h
    ·split at h
     ·cases h
     ·rename_i h2 n h3
      refine⟨Decidable.of_not_not h1,by omega,fun g=>by omega,?_⟩
      unfold wN;rw[if_pos h0,h3];rfl
theorem ap6{s p:List Int}{c:Cs}{f:Fl}{a b:Pn}{l:List Sp}(h:rh s p c f a b l=0):eH s p=0∧(ot c f a l=0∧wE s p a.f (gF c f a l)=0)∧ot c f b l=0∧wE s p b.f (gF c f b l)=0:=by
 unfold rh at h;split at h
 ·rename_i g;exact absurd h g
 ·rename_i g1
  split at h
  ·rename_i g;exact absurd h g
  ·rename_i g2
   split at h
   ·rename_i g;exact absurd h g
   ·rename_i g3
    split at h
    ·rename_i g;exact absurd h g
    ·rename_i g4
     exact⟨Decidable.of_not_not g1,⟨Decidable.of_not_not g2,Decidable.of_not_not g4⟩,Decidable.of_not_not g3,h⟩
structure Wp(c:Cs)(f:Fl)(s p:List Int)(a:Pn)(q:List Sp):Prop where
 b:Bg c f a q.length
 t:a.f=f.t
 at_:∀k,k≤q.length→ft c (eo c f (eQ a q) k)
 v:∀k,k<q.length→m8 c (eo c f (eQ a q) k) (nth (eQ a q) k)=0
 ck:eH s p=0
 r:0≤f.t∧(0<q.length→f.t+q.length≤16777217)
 w:oO s p f.t (gF c f a q) 0=some (wN s p a.f (gF c f a q))
 re:∀k,k<(gF c f a q).length→(nth (gF c f a q) k).re.length≤1000
theorem abX{c:Cs}{f:Fl}{s p:List Int}{a:Pn}{q:List Sp}(h1:ot c f a q=0)(h2:wE s p a.f (gF c f a q)=0):Wp c f s p a q:=by
 unfold ot at h1;split at h1
 ·rename_i h;exact absurd h1 h
 ·rename_i h
  have hb:=QG (Decidable.of_not_not h);have ra:=apa h1;obtain⟨w1,w2,w3,w4⟩:=ap5 h2;have e:(gF c f a q).length=q.length:=by simp[gF]
  have ht:=hb.t;rw[e]at w3;refine⟨hb,ht,fun k hk=>ra.at_ (by rw[B8];exact hk),fun k hk=>?_,w1,by rw[←ht];exact⟨w2,w3⟩,by rw[←ht];exact w4,(Hj h2).2⟩
  rw[Hc hb.c0 (ra.at_ (by rw[B8];omega))]
  exact ra.v k (by rw[B8];exact hk)
abbrev sA(x:Pn):List V:=[i64 x.f,je x.l]
abbrev KK(_ n:Int):List V:=[i64 n,i64 0]
abbrev KL(a n:Int):List V:=[i64 a,i64 n]
theorem KM{c:Cs}{f:Fl}{a:Pn}{q:List Sp}:(gF c f a q).length=q.length:=by simp[gF]
theorem abY{c:Cs}{f:Fl}{a:Pn}{q:List Sp}{k:Nat}(h:k<q.length):nth (gF c f a q) k=sw c (eo c f (eQ a q) k) (nth (eQ a q) k):=by
 simp[gF,kn,nth,List.getD,h,D8]
set_option maxRecDepth 100000 in
set_option maxHeartbeats 8000000 in
theorem ap8{t:List Int}(hl:t.length≤9223372036854775807):∃G',aX F 5 [ints t] []=some (.bool true,G'):=by
 suffices h:gy (aX F) 5 [ints t] [] fun v _=>v=.bool true by
  obtain⟨_,G,h,rfl⟩:=h;exact⟨G,h⟩
 refine gS rfl rfl ?_;by_cases h1:t.length≤500
 case neg=>simp +contextual (disch:=omega) [-getElem?_pos,-List.length_eq_zero_iff,-Int.natCast_eq_zero,wrap64,IQ,QO,s8,h1]
 obtain⟨c,f,k1,n1,gB,sy,iP,_⟩:=Qq (l:=t) (k:=0) ⟨by omega,hl⟩
 have hz:=sy.eH;have cv:=jZ hz;have kv:=j0 cv.k;have qU:=sy.small;have Qp:=sy.n;have hs3:=sy.s;have jc:=kv.n;obtain⟨m,k2,n2,eX,Ba,hm⟩:=fK gB 6 (by omega)
 obtain⟨m,rfl⟩:∃k:Nat,m=k:=⟨m.toNat,by omega⟩
 obtain⟨a0,k3,n3,lT,ha0⟩:=Hh eX (c:=c) (by omega) (by omega) f.t (n:=m) (by omega)
 obtain⟨a1,k4,n4,pE,Jw⟩:=Hh lT (c:=c) (by omega) (by omega) f.t (n:=m) (by omega)
 obtain⟨q,k5,n5,xU,hq,Ea⟩:=abr pE (c:=c) (by omega) (by omega) (n:=m) (by omega)
 obtain⟨s,p,k6,n6,zY⟩:=abS xU;have hB:=abW s p qU (yF cv.k iP) ⟨f.t,a0⟩ ⟨f.t,a1⟩ q [];unfold yJ at hB;simp only[cs,Cs.row,qe,lW,m7,fl,Fl.row,sv,Sp.row,ints,List.map_nil]at hB;by_cases he:rh s p c f ⟨f.t,a0⟩ ⟨f.t,a1⟩ q=0
 case neg=>simp +contextual (disch:=omega) [-getElem?_pos,-List.length_eq_zero_iff,-Int.natCast_eq_zero,wrap64,IQ,QO,s8,h1,F6,n1,n2,n3,n4,n5,n6,hB,he]
 obtain⟨e0,⟨e1,e2⟩,e3,e4⟩:=ap6 he;have w0:=abX e1 e2;have w1:=abX e3 e4;generalize hbd:uC s p c f ⟨f.t,a0⟩ ⟨f.t,a1⟩ q=bb at hB;rw[he,decide_eq_true rfl,Bool.true_and]at hB;simp +contextual (disch:=omega) [-getElem?_pos,-List.length_eq_zero_iff,-Int.natCast_eq_zero,wrap64,IQ,QO,s8,h1,F6,n1,n2,n3,n4,n5,n6,hB,he];have hck:eH s p=0:=e0;have KN:∀k,k<q.length→(nth q k).a.length≤1000∧(nth q k).b.length≤1000:=fun k hk=>by
  have:=(Ea k (by omega)).1
  unfold mj at this;omega
 generalize DU:wN s p f.t (gF c f ⟨f.t,a0⟩ q)=A0;generalize hA1:wN s p f.t (gF c f ⟨f.t,a1⟩ q)=A1;generalize hB0:m9 (gF c f ⟨f.t,a0⟩ q) 0=B0;generalize hB1:m9 (gF c f ⟨f.t,a1⟩ q) 0=B1;refine go_loop (fun i:Nat=>agu (lW q) bb (.slice none 2 [sA ⟨f.t,a0⟩,sA ⟨f.t,a1⟩]) 2 i c.row f.row [ints s,ints p] [i64 (if 0<i then A0 else 0),i64 (if 1<i then A1 else 0)]
  [i64 (if 0<i then B0 else 0),i64 (if 1<i then B1 else 0)] [dk t k6]) (fun i=>i≤2) (fun i=>2-i) 0 rfl (by simp) (by omega) ?_
 intro i hi;rcases (by omega:i=0∨i=1∨i=2) with rfl|rfl|rfl
 ·simp +contextual (disch:=omega) [-getElem?_pos,-List.length_eq_zero_iff,-Int.natCast_eq_zero,wrap64,IP]
  refine go_loop (fun x:Nat×Int×Int=>UJ (lW q) bb 0 (.slice none 2 [sA ⟨f.t,a0⟩,sA ⟨f.t,a1⟩]) 2 0 q.length x.1 c.row f.row [ints s,ints p] (KK A0 x.2.1) (KK B0 x.2.2) (sA ⟨f.t,a0⟩)
   (eo c f (eQ ⟨f.t,a0⟩ q) x.1).row [dk t k6])
   (fun x=>x.1≤q.length∧oO s p (f.t+x.1) ((gF c f ⟨f.t,a0⟩ q).drop x.1) x.2.1=some A0∧m9 ((gF c f ⟨f.t,a0⟩ q).drop x.1) x.2.2=B0) (fun x=>q.length-x.1) (0,0,0) rfl (by simp[eo])
   ⟨by simp,by have:=w0.w;simpa [DU] using this,by simpa using hB0⟩ ?_
  rintro⟨k,n,m'⟩ ⟨hk,hw,hs⟩;simp only at hk hw hs;simp +contextual (disch:=omega) [-getElem?_pos,-List.length_eq_zero_iff,-Int.natCast_eq_zero,wrap64,Nl];refine bE (fun h3=>?_) (fun h3=>?_)
  ·have h3:k<q.length:=by omega
   have hx:nth (eQ ⟨f.t,a0⟩ q) k=⟨(nth q k).a,(nth q k).b,nth a0 k⟩:=KE h3;have wZ:=KN k h3;have QR:=(w0.b.e k h3).1;obtain⟨G1,hP⟩:=Ki (p:=nth (eQ ⟨f.t,a0⟩ q) k) qU (yF cv.k (w0.at_ k (by omega))) (by rw[hx];simp only at QR ⊢;omega)
   rw[qf,if_pos (w0.v k h3),← abY h3,show oN c (eo c f (eQ ⟨f.t,a0⟩ q) k) (nth (eQ ⟨f.t,a0⟩ q) k)=eo c f (eQ ⟨f.t,a0⟩ q) (k+1) from rfl,hx]at hP;have hr:=w0.r;have uW:aX F 34 [tn s p,i64 (eo c f (eQ ⟨f.t,a0⟩ q) k).t] []=some (.tuple [i64 (pr s p (f.t+k)),i64 0],[]):=by
    rw[abO,vK,if_neg (by omega),QP,if_neg (by omega)]
   have mB:k<(gF c f ⟨f.t,a0⟩ q).length:=by rw[KM];exact h3
   rw[KG mB]at hw;rw[mc mB]at hs;simp only[m9]at hs;have wO:=w0.re k mB;generalize nth (gF c f ⟨f.t,a0⟩ q) k=x at hP hw hs wO;generalize pr s p (f.t+k)=pp at uW hw;split at hw
   ·cases hw
   rename_i n1 nd;have ha:k<a0.length:=by omega
   simp +contextual (disch:=omega) [-getElem?_pos,-List.length_eq_zero_iff,-Int.natCast_eq_zero,wrap64,a8 (l:=q),a8 (l:=a0),hP,uW];refine go_loop (fun y:Nat×Int×Int=>UI (lW q) bb 0 pp (.slice none 2 [sA ⟨f.t,a0⟩,sA ⟨f.t,a1⟩]) 2 0 q.length k (Ec x.re) x.re.length y.1 c.row f.row [ints s,ints p] (KK A0 y.2.1) (KK B0 y.2.2) (sA ⟨f.t,a0⟩)
    (eo c f (eQ ⟨f.t,a0⟩ q) k).row (eo c f (eQ ⟨f.t,a0⟩ q) (k+1)).row [dk t k6])
    (fun y=>y.1≤x.re.length∧rf pp (x.re.drop y.1) y.2.1=some n1∧oQ (x.re.drop y.1) y.2.2=oQ x.re m') (fun y=>x.re.length-y.1) (0,n,m') rfl (by simp) ⟨by simp,nd,by simp⟩ ?_
   rintro⟨j,u,v⟩ ⟨hj,hu,hv⟩;simp only at hj hu hv;simp +contextual (disch:=omega) [-getElem?_pos,-List.length_eq_zero_iff,-Int.natCast_eq_zero,wrap64,Nj];refine bE (fun h4=>?_) (fun h4=>?_)
   ·have h4:j<x.re.length:=by omega
    rw[KH h4]at hu;rw[mc h4]at hv;simp only[oQ]at hv;split at hu
    ·cases hu
    simp +contextual (disch:=omega) [-getElem?_pos,-List.length_eq_zero_iff,-Int.natCast_eq_zero,wrap64,a8 (l:=x.re)];exact bF (j+1,IntKind.i64.wrap (u+IntKind.i64.wrap ((nth x.re j).pow*pp)),IntKind.i64.wrap (v+(nth x.re j).jW)) (by simp (disch:=omega) [wrap64,Int.mul_comm]) ⟨by omega,hu,hv⟩ (by simp;omega)
   ·obtain rfl:j=x.re.length:=by omega
    simp only[List.drop_length,rf,Option.some.injEq,oQ]at hu hv;subst hu;rw[←hv]at hs;exact bF (k+1,u,v) (by simp (disch:=omega) [wrap64]) ⟨by omega,by rw[←hw];congr 1;simp;omega,hs⟩ (by simp;omega)
  ·obtain rfl:k=q.length:=by omega
   rw[←KM (c:=c) (f:=f) (a:=⟨f.t,a0⟩),List.drop_length]at hw hs;simp only[oO,Option.some.injEq,m9]at hw hs;subst hw;subst hs;exact bF (0+1) (by simp) (by omega) (by omega)
 ·simp +contextual (disch:=omega) [-getElem?_pos,-List.length_eq_zero_iff,-Int.natCast_eq_zero,wrap64,IP]
  refine go_loop (fun x:Nat×Int×Int=>UJ (lW q) bb 1 (.slice none 2 [sA ⟨f.t,a0⟩,sA ⟨f.t,a1⟩]) 2 1 q.length x.1 c.row f.row [ints s,ints p] (KL A0 x.2.1) (KL B0 x.2.2) (sA ⟨f.t,a1⟩)
   (eo c f (eQ ⟨f.t,a1⟩ q) x.1).row [dk t k6])
   (fun x=>x.1≤q.length∧oO s p (f.t+x.1) ((gF c f ⟨f.t,a1⟩ q).drop x.1) x.2.1=some A1∧m9 ((gF c f ⟨f.t,a1⟩ q).drop x.1) x.2.2=B1) (fun x=>q.length-x.1) (0,0,0) rfl (by simp[eo])
   ⟨by simp,by have:=w1.w;simpa [hA1] using this,by simpa using hB1⟩ ?_
  rintro⟨k,n,m'⟩ ⟨hk,hw,hs⟩;simp only at hk hw hs;simp +contextual (disch:=omega) [-getElem?_pos,-List.length_eq_zero_iff,-Int.natCast_eq_zero,wrap64,Nl];refine bE (fun h3=>?_) (fun h3=>?_)
  ·have h3:k<q.length:=by omega
   have hx:nth (eQ ⟨f.t,a1⟩ q) k=⟨(nth q k).a,(nth q k).b,nth a1 k⟩:=KE h3;have wZ:=KN k h3;have QR:=(w1.b.e k h3).1;obtain⟨G1,hP⟩:=Ki (p:=nth (eQ ⟨f.t,a1⟩ q) k) qU (yF cv.k (w1.at_ k (by omega))) (by rw[hx];simp only at QR ⊢;omega)
   rw[qf,if_pos (w1.v k h3),← abY h3,show oN c (eo c f (eQ ⟨f.t,a1⟩ q) k) (nth (eQ ⟨f.t,a1⟩ q) k)=eo c f (eQ ⟨f.t,a1⟩ q) (k+1) from rfl,hx]at hP;have hr:=w1.r;have uW:aX F 34 [tn s p,i64 (eo c f (eQ ⟨f.t,a1⟩ q) k).t] []=some (.tuple [i64 (pr s p (f.t+k)),i64 0],[]):=by
    rw[abO,vK,if_neg (by omega),QP,if_neg (by omega)]
   have mB:k<(gF c f ⟨f.t,a1⟩ q).length:=by rw[KM];exact h3
   rw[KG mB]at hw;rw[mc mB]at hs;simp only[m9]at hs;have wO:=w1.re k mB;generalize nth (gF c f ⟨f.t,a1⟩ q) k=x at hP hw hs wO;generalize pr s p (f.t+k)=pp at uW hw;split at hw
   ·cases hw
   rename_i n1 nd;have ha:k<a1.length:=by omega
   simp +contextual (disch:=omega) [-getElem?_pos,-List.length_eq_zero_iff,-Int.natCast_eq_zero,wrap64,a8 (l:=q),a8 (l:=a1),hP,uW];refine go_loop (fun y:Nat×Int×Int=>UI (lW q) bb 1 pp (.slice none 2 [sA ⟨f.t,a0⟩,sA ⟨f.t,a1⟩]) 2 1 q.length k (Ec x.re) x.re.length y.1 c.row f.row [ints s,ints p] (KL A0 y.2.1) (KL B0 y.2.2) (sA ⟨f.t,a1⟩)
    (eo c f (eQ ⟨f.t,a1⟩ q) k).row (eo c f (eQ ⟨f.t,a1⟩ q) (k+1)).row [dk t k6])
    (fun y=>y.1≤x.re.length∧rf pp (x.re.drop y.1) y.2.1=some n1∧oQ (x.re.drop y.1) y.2.2=oQ x.re m') (fun y=>x.re.length-y.1) (0,n,m') rfl (by simp) ⟨by simp,nd,by simp⟩ ?_
   rintro⟨j,u,v⟩ ⟨hj,hu,hv⟩;simp only at hj hu hv;simp +contextual (disch:=omega) [-getElem?_pos,-List.length_eq_zero_iff,-Int.natCast_eq_zero,wrap64,Nj];refine bE (fun h4=>?_) (fun h4=>?_)
   ·have h4:j<x.re.length:=by omega
    rw[KH h4]at hu;rw[mc h4]at hv;simp only[oQ]at hv;split at hu
    ·cases hu
    simp +contextual (disch:=omega) [-getElem?_pos,-List.length_eq_zero_iff,-Int.natCast_eq_zero,wrap64,a8 (l:=x.re)];exact bF (j+1,IntKind.i64.wrap (u+IntKind.i64.wrap ((nth x.re j).pow*pp)),IntKind.i64.wrap (v+(nth x.re j).jW)) (by simp (disch:=omega) [wrap64,Int.mul_comm]) ⟨by omega,hu,hv⟩ (by simp;omega)
   ·obtain rfl:j=x.re.length:=by omega
    simp only[List.drop_length,rf,Option.some.injEq,oQ]at hu hv;subst hu;rw[←hv]at hs;exact bF (k+1,u,v) (by simp (disch:=omega) [wrap64]) ⟨by omega,by rw[←hw];congr 1;simp;omega,hs⟩ (by simp;omega)
  ·obtain rfl:k=q.length:=by omega
   rw[←KM (c:=c) (f:=f) (a:=⟨f.t,a1⟩),List.drop_length]at hw hs;simp only[oO,Option.some.injEq,m9]at hw hs;subst hw;subst hs;exact bF (1+1) (by simp) (by omega) (by omega)
 ·have aqa:bb=(decide (A1<A0) || (decide (A0=A1)&&decide (B0<B1))):=by
   rw[←hbd,← DU,← hA1,← hB0,← hB1];rfl
  subst aqa;simp +contextual (disch:=omega) [-getElem?_pos,-List.length_eq_zero_iff,-Int.natCast_eq_zero,wrap64,IP];by_cases g1:A1<A0
  ·simp +contextual (disch:=omega) [-getElem?_pos,-List.length_eq_zero_iff,-Int.natCast_eq_zero,wrap64,g1]
  ·by_cases g2:A0=A1
   ·simp +contextual (disch:=omega) [-getElem?_pos,-List.length_eq_zero_iff,-Int.natCast_eq_zero,wrap64,g1,g2]
   ·simp +contextual (disch:=omega) [-getElem?_pos,-List.length_eq_zero_iff,-Int.natCast_eq_zero,wrap64,g1,g2]
end Go.Proofs.YtocclbnghhaejaaGreat
