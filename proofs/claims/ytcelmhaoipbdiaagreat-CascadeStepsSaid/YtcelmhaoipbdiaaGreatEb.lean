/- Parts of the proof, joined: Sam3, Chk1, Cwb1, Chk2, Stp1, Stp2, Raw5. -/
import Derived.Test.YtcelmhaoipbdiaaGreatEa
import Derived.Test.YtcelmhaoipbdiaaGreatDg
import Derived.Test.YtcelmhaoipbdiaaGreatDz
namespace Go.Proofs.YtcelmhaoipbdiaaGreat
set_option linter.all false
open Go.Vm
attribute [local simp] ly lz kF lx
theorem awK{c:Cs}(hr:im c.r){f:Fl}(hf:kq f)(G:List aP):aX F 21 [cs c,fl f] G=some (Es (some 0) c f,G) :=
 bL rfl rfl (by
  have hC:=GG c hr;have hV:=Ka c hr f hf;generalize hW:Es (some 0) c f=W;unfold Es at hW;by_cases hz:gq c f=0
  case neg =>
   rw[av hz]at hW;by_cases hc:eQ c=0
   ·have hn:¬ fP c f:=fun h=>hz (by unfold gq;rw[av (by omega),aK h])
    have e:gq c f=50:=by unfold gq;rw[av (by omega),av hn]
    rw[decide_eq_false (fun h=>hn h.2)]at hV;rw[e]at hW;simp +contextual (disch:=omega) [-getElem?_pos,-List.length_eq_zero_iff,-Int.natCast_eq_zero,wrap64,MD,hC,hc,hV];exact hW
   ·have e:gq c f=eQ c:=by unfold gq;rw[aK hc]
    rw[e]at hW;simp +contextual (disch:=omega) [-getElem?_pos,-List.length_eq_zero_iff,-Int.natCast_eq_zero,wrap64,MD,hC,hc];exact hW
  rw[aK hz]at hW;obtain⟨z1,z2⟩:=yL hz;have cv:=jM z1;have kv:=kr cv.k;have GI:=cv.s;have Lo:=kv.len;have DC:=z2.2.1.1;have GU:=z2.2.2.1;rw[dD ⟨z1,z2⟩]at hV;simp +contextual (disch:=omega) [-getElem?_pos,-List.length_eq_zero_iff,-Int.natCast_eq_zero,wrap64,MD,hC,z1,hV];refine go_loop (fun i:Nat=>anA (rC f i) (ox f.d) f.d.length i f.row G) (fun i=>i≤f.d.length) (fun i=>f.d.length-i) 0 rfl (by simp[rC,dv]) (by simp) ?_
  rintro i hi;have h1:=Kr z2 i (by omega)
  simp +contextual (disch:=omega) [-getElem?_pos,-List.length_eq_zero_iff,-Int.natCast_eq_zero,wrap64,aaz];refine bB (fun h5=>?_) (fun h5=>?_)
  ·have h5:i<f.d.length:=by omega
   have h2:=Kr z2 (i+1) (by omega)
   have e:rC f (i+1)=rC f i+(nth f.d i).v:=rfl;rw[e]at h2;simp +contextual (disch:=omega) [-getElem?_pos,-List.length_eq_zero_iff,-Int.natCast_eq_zero,wrap64,aY (l:=f.d)];exact bu (i+1) (by simp[e]) (by omega) (by omega)
  obtain rfl:i=f.d.length:=by omega
  refine go_loop (fun k:Nat=>anC (rC f f.d.length) (.slice (some 1046) 1 ((sC f k).map fun n=>[i64 n])) (j0 f.w) f.w.length k k G) (fun k=>k≤f.w.length) (fun k=>f.w.length-k) 0 rfl (by simp[sC]) (by simp) ?_
  rintro k hk;simp +contextual (disch:=omega) [-getElem?_pos,-List.length_eq_zero_iff,-Int.natCast_eq_zero,wrap64,aaA];refine bB (fun h5=>?_) (fun h5=>?_)
  ·have h5:k<f.w.length:=by omega
   have w1:=VR z2.2.2 (i:=k) (by omega)
   have e1:=au0 (nth f.w k) w1.1 w1.2;simp +contextual (disch:=omega) [-getElem?_pos,-List.length_eq_zero_iff,-Int.natCast_eq_zero,wrap64,aY (l:=f.w),e1];exact bu (k+1) (by simp[ahq,OI]) (by omega) (by omega)
  obtain rfl:k=f.w.length:=by omega
  exact hW)
theorem ahv(a b:Ps):a=b↔a.re=b.re∧a.lf=b.lf∧a.cm=b.cm:=by
 obtain⟨a1,a2,a3⟩:=a;obtain⟨b1,b2,b3⟩:=b;simp[Ps.mk.injEq]
theorem VX(a b:Ps)(h:a.re.length≤2513169434916∧a.lf.length≤17592186044416∧a.cm.length≤17592186044416)(G:List aP):aX F 14 [ps a,ps b] G=some (.bool (decide (a=b)),G) :=
 bL rfl rfl (by
  have e1:=ahu a.re b.re h.1;have qM:=aht a.re b.re h.1;have e2:=GZ a.lf b.lf h.2.1;have A6:=Km a.lf b.lf h.2.1;have e3:=GZ a.cm b.cm h.2.2;have VY:=Km a.cm b.cm h.2.2;rw[show decide (a=b)=(decide (a.re=b.re)&&(decide (a.lf=b.lf)&&decide (a.cm=b.cm))) by
   rw[←vl,← vl];exact decide_eq_decide.2 (ahv a b)]
  by_cases h1:a.re=b.re
  ·by_cases h2:a.lf=b.lf
   ·rw[dD h1]at e1 qM
    rw[dD h2]at e2 A6;rw[dD h1,dD h2];simp +contextual (disch:=omega) [-getElem?_pos,-List.length_eq_zero_iff,-Int.natCast_eq_zero,wrap64,I5,e1,qM,e2,A6,e3,VY]
   ·rw[dD h1]at e1 qM
    rw[decide_eq_false h2]at e2 A6;rw[dD h1,decide_eq_false h2];simp +contextual (disch:=omega) [-getElem?_pos,-List.length_eq_zero_iff,-Int.natCast_eq_zero,wrap64,I5,e1,qM,e2,A6]
  ·rw[decide_eq_false h1]at e1 qM
   rw[decide_eq_false h1];simp +contextual (disch:=omega) [-getElem?_pos,-List.length_eq_zero_iff,-Int.natCast_eq_zero,wrap64,I5,e1,qM])
theorem VZ(a b:Ps)(h:a.re.length≤2513169434916∧a.lf.length≤17592186044416∧a.cm.length≤17592186044416)(G:List aP):aX F 15 [ps a,ps b] G=some (.bool (decide (a=b)),G) :=
 bL rfl rfl (by
  have e1:=ahu a.re b.re h.1;have qM:=aht a.re b.re h.1;have e2:=GZ a.lf b.lf h.2.1;have A6:=Km a.lf b.lf h.2.1;have e3:=GZ a.cm b.cm h.2.2;have VY:=Km a.cm b.cm h.2.2;rw[show decide (a=b)=(decide (a.re=b.re)&&(decide (a.lf=b.lf)&&decide (a.cm=b.cm))) by
   rw[←vl,← vl];exact decide_eq_decide.2 (ahv a b)]
  by_cases h1:a.re=b.re
  ·by_cases h2:a.lf=b.lf
   ·rw[dD h1]at e1 qM
    rw[dD h2]at e2 A6;rw[dD h1,dD h2];simp +contextual (disch:=omega) [-getElem?_pos,-List.length_eq_zero_iff,-Int.natCast_eq_zero,wrap64,MB,e1,qM,e2,A6,e3,VY]
   ·rw[dD h1]at e1 qM
    rw[decide_eq_false h2]at e2 A6;rw[dD h1,decide_eq_false h2];simp +contextual (disch:=omega) [-getElem?_pos,-List.length_eq_zero_iff,-Int.natCast_eq_zero,wrap64,MB,e1,qM,e2,A6]
  ·rw[decide_eq_false h1]at e1 qM
   rw[decide_eq_false h1];simp +contextual (disch:=omega) [-getElem?_pos,-List.length_eq_zero_iff,-Int.natCast_eq_zero,wrap64,MB,e1,qM])
set_option maxRecDepth 100000 in
set_option maxHeartbeats 1000000 in
theorem awL{c:Cs}(hr:im c.r){f:Fl}(hf:kq f)(l:List Sp)(hl:l.length≤1000)(hp:∀i,i<l.length→(nth l i).a.length≤1000∧(nth l i).b.length≤1000∧(nth l i).c.length≤1000) :
  ∃G',aX F 19 [cs c,fl f,oC l] []=some (jP (some 0) c f l,G'):=by
 suffices h:∀Q:V→Prop,Q (jP (some 0) c f l)→gw (aX F) 19 [cs c,fl f,oC l] [] fun v _=>Q v by
  obtain⟨_,G',h,rfl⟩:=h (fun v=>v=jP (some 0) c f l) rfl;exact⟨G',h⟩
 intro Q hQ;refine gF rfl rfl ?_;have hC:=GG c hr;have hV:=Ka c hr f hf;by_cases hz:gq c f=0
 case neg =>
  rw[jP,av (by unfold iJ;rw[aK hz];exact hz),show iJ c f l=gq c f by unfold iJ;rw[aK hz]]at hQ
  by_cases hc:eQ c=0
  ·have hn:¬ fP c f:=fun h=>hz (by unfold gq;rw[av (by omega),aK h])
   have e:gq c f=50:=by unfold gq;rw[av (by omega),av hn]
   rw[decide_eq_false (fun h=>hn h.2)]at hV;rw[e]at hQ;simp +contextual (disch:=omega) [-getElem?_pos,-List.length_eq_zero_iff,-Int.natCast_eq_zero,wrap64,I6,hC,hc,hV];exact hQ
  ·have e:gq c f=eQ c:=by unfold gq;rw[aK hc]
   rw[e]at hQ;simp +contextual (disch:=omega) [-getElem?_pos,-List.length_eq_zero_iff,-Int.natCast_eq_zero,wrap64,I6,hC,hc];exact hQ
 obtain⟨z1,z2⟩:=yL hz;have cv:=jM z1;have kv:=kr cv.k;rw[dD ⟨z1,z2⟩]at hV;by_cases h4:400<l.length
 case pos =>
  have e:iJ c f l=10:=by unfold iJ;rw[av (by omega),aK h4]
  have rA:(400:Int)<l.length:=by omega
  rw[jP,av (by omega),e]at hQ
  simp +contextual (disch:=omega) [-getElem?_pos,-List.length_eq_zero_iff,-Int.natCast_eq_zero,wrap64,I6,hC,z1,hV,rA];exact hQ
 have rA:¬ (400:Int)<l.length:=by omega
 have fY:=N7 f (AX z1 z2.2.1) (GP cv.k z2.2.2);have e:iJ c f l=du (fun k=>fS c (ew c f l k) (nth l k)) l.length 0:=by unfold iJ;rw[av (by omega),av h4]
 simp +contextual (disch:=omega) [-getElem?_pos,-List.length_eq_zero_iff,-Int.natCast_eq_zero,wrap64,I6,hC,z1,hV,rA,fY];refine go_loop (fun k:Nat=>anr (.slice (some 1055) 3 ((mn c f l k).map Ps.row)) (oC l) l.length k c.row (ew c f l k).row [z0,.bU,.bU] k [.cells [],.cells []])
  (fun k=>k≤l.length∧du (fun k=>fS c (ew c f l k) (nth l k)) (l.length-k) k=iJ c f l∧∀j,j<k→fS c (ew c f l j) (nth l j)=0) (fun k=>l.length-k) 0 rfl (by simp (disch:=omega) [p9,sA,ew,mn]) ⟨by omega,e.symm,by omega⟩ ?_
 rintro k ⟨hk,hE,hj⟩;have y7:=GW z1 z2 k hj;simp +contextual (disch:=omega) [-getElem?_pos,-List.length_eq_zero_iff,-Int.natCast_eq_zero,wrap64,aaw];refine bB (fun h5=>?_) (fun h5=>?_)
 ·have h5:k<l.length:=by omega
  rw[jq h5]at hE;obtain⟨G1,hP⟩:=Oj hr (Er cv.k y7) (hp k h5);rw[ry,Ki z1 y7]at hP;by_cases h6:fS c (ew c f l k) (nth l k)=0
  ·rw[aK h6]at hP
   simp only[aK h6]at hE;simp +contextual (disch:=omega) [-getElem?_pos,-List.length_eq_zero_iff,-Int.natCast_eq_zero,wrap64,aY (l:=l),hP];refine bu (k+1) (by simp[Ot,ew,uk]) ⟨by omega,hE,fun j iX=>?_⟩ (by omega)
   by_cases g:j=k
   ·rw[g];exact h6
   ·exact hj j (by omega)
  ·rw[av h6]at hP
   simp only[av h6]at hE;rw[jP,av (by omega),← hE]at hQ
   simp +contextual (disch:=omega) [-getElem?_pos,-List.length_eq_zero_iff,-Int.natCast_eq_zero,wrap64,aY (l:=l),hP,h6];exact hQ
 ·obtain rfl:k=l.length:=by omega
  rw[qd]at hE;have hE:0=iJ c f l:=hE;rw[jP,aK hE.symm]at hQ;exact hQ
end Go.Proofs.YtcelmhaoipbdiaaGreat
namespace Go.Proofs.YtcelmhaoipbdiaaGreat
set_option linter.all false
open Go.Vm
theorem flat_get{α:Type}[Inhabited α]{row:α→List V}{k:Nat}(hk:∀a,(row a).length=k){l:List α}{i j:Nat}(hi:i<l.length)(hj:j<k):((l.map row).flatten)[i*k+j]?=(row (nth l i))[j]?:=by
 rw[←NZ hk hi,Pf hj,oF]
theorem ahw{α:Type}[Inhabited α]{row:α→List V}{k:Nat}(hk:∀a,(row a).length=k){l:List α}{i j:Nat}(hi:i<l.length)(hj:j<k){x:α}{v:V}(hx:row x=(row (nth l i)).set j v) :
  ((l.map row).flatten).set (i*k+j) v=((l.set i x).map row).flatten:=by
 rw[←Kc hk hi];refine xU fun m=>?_;have hl:=Kb hk l;have kE:i*k+k≤l.length*k:=by rw[←oI];exact rM k hi
 rw[zW,hk,hl,kK,hl];by_cases g:i*k≤m∧m<i*k+k∧m<l.length*k
 ·obtain⟨d,rfl⟩:∃d,m=i*k+d:=⟨m-i*k,by omega⟩
  rw[aK g,Px,hx,kK,hk];by_cases e:j=d
  ·subst e;rw[aK rfl,aK rfl,aK (by omega),aK (by omega)]
  ·rw[av (by omega),av e,flat_get hk hi (by omega)]
 ·rw[av g,av (by omega)]
def spU(r:Dr)(v:Int):Dr:=⟨r.inf,r.los,r.tur,v,r.ovr,r.pow,r.jL⟩
def vU(s:Ds)(v:Int):Ds:=⟨v,s.rel,s.u,s.g⟩
theorem aEa{l:List Dr}{i:Nat}(h:i<l.length){v:Int}:(rz l).set (i*7+3) (i64 v)=rz (l.set i (spU (nth l i) v)):=ahw (row:=Dr.row) (fun _=>rfl) h (by omega) rfl
theorem aEb{l:List Ds}{i:Nat}(h:i<l.length){v:Int}:(iq l).set (i*4) (i64 v)=iq (l.set i (vU (nth l i) v)):=ahw (row:=Ds.row) (k:=4) (j:=0) (fun _=>rfl) h (by omega) rfl
theorem aEc(l:List Dr):(l.map Dr.row).flatten=rz l:=rfl
@[simp] theorem aEd{l:List Dr}{a b:Nat}:(rz l).map (V.jR a b)=rz l:=GJ (row:=Dr.row) (fun a=>by simp) l
end Go.Proofs.YtcelmhaoipbdiaaGreat
namespace Go.Proofs.YtcelmhaoipbdiaaGreat
set_option linter.all false
open Go.Vm
attribute [local simp] ly lz kF lx
theorem awO{J:List aP}{n:Int}{l:List Int}{k:Nat}(h:n<1∨l.length≤k):aX F 17 [.bH 0 0,i64 n] (dk l k::J)=some (i64 0,(dk l k::J)) :=
 bL rfl rfl (by
  by_cases h1:n<1
  ·simp[DP,h1]
  ·have h2:l.length≤k:=h.resolve_left h1
   simp[DP,h1,h2])
theorem awP{J:List aP}{n:Int}{l:List Int}{k:Nat}{v:Int}(h1:1≤n)(h2:l[k]?=some v)(hk:k<9223372036854775807):aX F 17 [.bH 0 0,i64 n] (dk l k::J)=some (i64 (DX v n),(dk l (k+1)::J)) :=
 bL rfl rfl (by
  have hn:¬ n<1:=by omega
  have hl:¬ l.length≤k:=by have:=(Hl.1 h2).1;omega
  simp (disch:=omega) [-getElem?_pos,wrap64,DP,hn,hl,h2,aes])
theorem CB{l:List Int}{k:Nat}(hd:c5 l k)(n:Int)(hn:n≤4611686018427387904)(J:List aP) :
  ∃v k',aX F 17 [.bH 0 0,i64 n] (dk l k::J)=some (i64 v,dk l k'::J)∧c5 l k'∧0≤v∧(v<n∨v=0):=by
 by_cases h:n<1∨l.length≤k
 ·exact⟨0,k,awO h,hd,by omega,.inr rfl⟩
 ·obtain⟨h1,h2⟩:=hd
  have h3:k<l.length:=by omega
  have h4:=awP (J:=J) (n:=n) (l:=l) (k:=k) (v:=nth l k) (by omega) (dA h3) (by omega)
  have h5:=aet (v:=nth l k) (n:=n) (by omega) hn
  exact⟨_,_,h4,⟨by omega,h2⟩,h5.1,.inl h5.2⟩
theorem V0(J:List aP){l:List Int}{k:Nat}(hd:c5 l k){c:Cs}(hn:1≤c.r.n∧c.r.n≤40)(hs:c.s.length≤10) :
  ∃p k',aX F 10 [.bH 0 0,cs c] (dk l k::J)=some (.agg [qa p.a,qa p.b,qa p.c],(dk l k'::J))∧c5 l k'∧j7 c p∧dF p.a 30∧dF p.b 30∧dF p.c 30:=by
 suffices h:∀Q:V→List aP→Prop,(∀p k',c5 l k'→j7 c p→dF p.a 30→dF p.b 30→dF p.c 30→Q (.agg [qa p.a,qa p.b,qa p.c]) (dk l k'::J))→gw (aX F) 10 [.bH 0 0,cs c] (dk l k::J) Q by
  obtain⟨_,_,h,p,k',rfl,rfl,h1⟩:=h (fun v G=>∃p k',v=.agg [qa p.a,qa p.b,qa p.c]∧G=(dk l k'::J)∧c5 l k'∧j7 c p∧dF p.a 30∧dF p.b 30∧dF p.c 30) fun p k' a b d e g=>⟨p,k',rfl,rfl,a,b,d,e,g⟩;exact⟨p,k',h,h1⟩
 intro Q hQ;refine gF rfl rfl ?_;obtain⟨⟨n,r⟩,s⟩:=c;simp only at hn hs;have snoc:∀{a:List Int} {x:Int},dF a 30→(0≤x∧x≤30)→dF (a++[x]) 30:=fun h hx i hi=>by
  simp at hi;rw[ik];split
  ·exact h i (by assumption)
  ·rw[aK (by omega)];exact hx
 simp (disch:=omega) [wrap64,Sf];refine go_loop (fun y:List Int×Nat=>⟨[(0,.bH 0 0),(3,.bj 3 0),(4,.bj 4 0),(5,.bj 5 0),(8,i64 n),(9,i64 y.1.length)],[(3,[i64 n,nV r,ru s]),(4,[.bU,.bU,.bU]),(5,[.slice (some 1016) 1 (y.1.map fun n=>[i64 n]),.bU,.bU])],[(1016,y.1.length)],(dk l y.2::J)⟩)
  (fun y=>(y.1.length:Int)≤n∧dF y.1 30∧c5 l y.2) (fun y=>(n-y.1.length).toNat) ([],k) rfl (by simp) ⟨by simp;omega,fun i hi=>by simp at hi,hd⟩ ?_
 rintro⟨a,k⟩ ⟨h1,h2,hd⟩;simp only at h1 h2 hd;obtain⟨x,k1,n1,gH,hx⟩:=CB hd 14 (by omega) J
 simp (disch:=omega) [wrap64,Sd];refine bB (fun h3=>?_) (fun h3=>?_)
 ·simp (disch:=omega) [wrap64,n1]
  exact bu (a++[x],k1) (by simp) ⟨by simp;omega,snoc h2 (by omega),gH⟩ (by simp;omega)
 ·refine go_loop (fun y:List Int×List Int×Nat=>⟨[(0,.bH 0 0),(4,.bj 4 0),(5,.bj 5 0),(21,i64 s.length),(22,i64 y.1.length)],[(4,[.bU,.bU,.bU]),(5,[.slice (some 1016) 1 (a.map fun n=>[i64 n]),.slice (some 1029) 1 (y.1.map fun n=>[i64 n]),.slice (some 1035) 1 (y.2.1.map fun n=>[i64 n])])],[(1016,a.length),(1029,y.1.length),(1035,y.2.1.length)],(dk l y.2.2::J)⟩)
   (fun y=>y.1.length≤s.length∧y.2.1.length=y.1.length∧dF y.1 30∧dF y.2.1 30∧c5 l y.2.2) (fun y=>s.length-y.1.length) ([],[],k) rfl (by simp) ⟨by simp,rfl,fun i hi=>by simp at hi,fun i hi=>by simp at hi,hd⟩ ?_
  rintro⟨b,d,k⟩ ⟨g1,g2,g3,g4,hd⟩;simp only at g1 g2 g3 g4 hd;obtain⟨x,k1,n1,gH,hx⟩:=CB hd 3 (by omega) J
  obtain⟨y,k2,n2,fp,hy⟩:=CB gH 30 (by omega) J
  simp (disch:=omega) [wrap64,Se];refine bB (fun h4=>?_) (fun h4=>?_)
  ·simp (disch:=omega) [wrap64,n1,n2,g2]
   exact bu (b++[x],d++[y],k2) (by simp[g2]) ⟨by simp;omega,by simp[g2],snoc g3 (by omega),snoc g4 (by omega),fp⟩ (by simp;omega)
  ·refine hQ ⟨a,b,d⟩ k hd ⟨by simp only;omega,by simp only;omega,by simp only;omega⟩ h2 g3 g4
theorem ahx(J:List aP){l:List Int}{k:Nat}(hd:c5 l k){c:Cs}(hn:1≤c.r.n∧c.r.n≤40)(hs:c.s.length≤10){n:Nat}(hm:n≤1000) :
  ∃q k',aX F 16 [.bH 0 0,cs c,i64 n] (dk l k::J)=some (GX q,(dk l k'::J))∧c5 l k'∧q.length=n∧∀i,i<n→Sw c (nth q i):=by
 suffices h:∀Q:V→List aP→Prop,(∀q k',c5 l k'→q.length=n→(∀i,i<n→Sw c (nth q i))→Q (GX q) (dk l k'::J))→gw (aX F) 16 [.bH 0 0,cs c,i64 n] (dk l k::J) Q by
  obtain⟨_,_,h,q,k',rfl,rfl,h1⟩:=h (fun v G=>∃q k',v=GX q∧G=(dk l k'::J)∧c5 l k'∧q.length=n∧∀i,i<n→Sw c (nth q i)) fun q k' a b d=>⟨q,k',rfl,rfl,a,b,d⟩;exact⟨q,k',h,h1⟩
 intro Q hQ;refine gF rfl rfl ?_;simp (disch:=omega) [wrap64,Sj];refine go_loop (fun y:List Sp×Nat=>aau (.bH 0 0) (.slice (some 1016) 3 (y.1.map Sp.row)) n y.1.length c.row y.1.length (dk l y.2::J)) (fun y=>y.1.length≤n∧c5 l y.2∧∀i,i<y.1.length→Sw c (nth y.1 i)) (fun y=>n-y.1.length) ([],k) rfl (by simp) ⟨by simp,hd,fun i hi=>absurd hi (by simp)⟩ ?_
 rintro⟨q,k⟩ ⟨h1,hd,hq⟩;simp only at h1 hd hq;simp (disch:=omega) [wrap64,Sg];refine bB (fun h5=>?_) (fun h5=>?_)
 ·obtain⟨p,k2,n2,fp,hp⟩:=V0 J hd (c:=c) hn hs
  simp (disch:=omega) [wrap64,n2];refine bu (q++[p],k2) (by simp) ⟨by simp;omega,fp,fun i hi=>?_⟩ (by simp;omega)
  simp only[oG,po]at hi;rw[ik];by_cases g:i<q.length
  ·rw[aK g];exact hq i g
  ·rw[av g,aK (by omega)];exact hp
 ·obtain e:q.length=n:=by omega
  exact hQ q k hd e (fun i hi=>hq i (by omega))
def zB(i:Nat)(l:List Int):V:=if l=[] then .slice none 1 [] else .c6 i 1 l.length
def Ev(p:Sp):List aP:=if p.b=[] then [] else [.cells (cP p.b),.cells (cP p.c)]
theorem awQ{l:List Int}{k:Nat}(hd:c5 l k){c:Cs}(hn:1≤c.r.n∧c.r.n≤40)(hs:c.s.length≤10)(A B:aP) :
  ∃p k',aX F 1000010 [.bH 0 0,cs c] [dk l k,A,B]=some (.agg [.c6 3 1 p.a.length,zB 4 p.b,zB 5 p.c],dk l k'::A::B::.cells (cP p.a)::Ev p)∧c5 l k'∧j7 c p∧dF p.a 30∧dF p.b 30∧dF p.c 30:=by
 suffices h:∀Q:V→List aP→Prop,(∀p k',c5 l k'→j7 c p→dF p.a 30→dF p.b 30→dF p.c 30→Q (.agg [.c6 3 1 p.a.length,zB 4 p.b,zB 5 p.c]) (dk l k'::A::B::.cells (cP p.a)::Ev p))→gw (aX F) 1000010 [.bH 0 0,cs c] [dk l k,A,B] Q by
  obtain⟨_,_,h,p,k',rfl,rfl,h1⟩:=h (fun v G=>∃p k',v=.agg [.c6 3 1 p.a.length,zB 4 p.b,zB 5 p.c]∧G=dk l k'::A::B::.cells (cP p.a)::Ev p∧c5 l k'∧j7 c p∧dF p.a 30∧dF p.b 30∧dF p.c 30) fun p k' a b d e g=>⟨p,k',rfl,rfl,a,b,d,e,g⟩;exact⟨p,k',h,h1⟩
 intro Q hQ;refine gF rfl rfl ?_;obtain⟨⟨n,r⟩,s⟩:=c;simp only at hn hs;have snoc:∀{a:List Int} {x:Int},dF a 30→(0≤x∧x≤30)→dF (a++[x]) 30:=fun h hx i hi=>by
  simp at hi;rw[ik];split
  ·exact h i (by assumption)
  ·rw[aK (by omega)];exact hx
 simp (disch:=omega) [wrap64,aen];refine go_loop (fun y:List Int×Nat=>⟨[(0,.bH 0 0),(3,.bj 3 0),(4,.bj 4 0),(5,.bj 5 0),(8,i64 n),(9,i64 y.1.length)],[(3,[i64 n,nV r,ru s]),(4,[.bU,.bU,.bU]),(5,[.bR 20016 1 y.1.length,.bU,.bU]),(20016,cP y.1)],[],[dk l y.2,A,B]⟩)
  (fun y=>(y.1.length:Int)≤n∧dF y.1 30∧c5 l y.2) (fun y=>(n-y.1.length).toNat) ([],k) rfl (by simp[show cP []=[] from rfl]) ⟨by simp;omega,fun i hi=>by simp at hi,hd⟩ ?_
 rintro⟨a,k⟩ ⟨h1,h2,hd⟩;simp only at h1 h2 hd;obtain⟨x,k1,n1,gH,hx⟩:=CB hd 14 (by omega) [A,B]
 simp (disch:=omega) [wrap64,ael];refine bB (fun h3=>?_) (fun h3=>?_)
 ·simp (disch:=omega) [wrap64,n1]
  exact bu (a++[x],k1) (by simp) ⟨by simp;omega,snoc h2 (by omega),gH⟩ (by simp;omega)
 ·refine go_loop (fun y:List Int×List Int×Nat=>⟨[(0,.bH 0 0),(4,.bj 4 0),(5,.bj 5 0),(21,i64 s.length),(22,i64 y.1.length)],[(4,[.bU,.bU,.bU]),(5,[.bR 20016 1 a.length,.bR 20029 1 y.1.length,.bR 20035 1 y.2.1.length]),(20016,cP a),(20029,cP y.1),(20035,cP y.2.1)],[],[dk l y.2.2,A,B]⟩)
   (fun y=>y.1.length≤s.length∧y.2.1.length=y.1.length∧dF y.1 30∧dF y.2.1 30∧c5 l y.2.2) (fun y=>s.length-y.1.length) ([],[],k) rfl (by simp[show cP []=[] from rfl]) ⟨by simp,rfl,fun i hi=>by simp at hi,fun i hi=>by simp at hi,hd⟩ ?_
  rintro⟨b,d,k⟩ ⟨g1,g2,g3,g4,hd⟩;simp only at g1 g2 g3 g4 hd;obtain⟨x,k1,n1,gH,hx⟩:=CB hd 3 (by omega) [A,B]
  obtain⟨y,k2,n2,fp,hy⟩:=CB gH 30 (by omega) [A,B]
  simp (disch:=omega) [wrap64,aem];refine bB (fun h4=>?_) (fun h4=>?_)
  ·simp (disch:=omega) [wrap64,n1,n2,g2]
   exact bu (b++[x],d++[y],k2) (by simp[g2]) ⟨by simp;omega,by simp[g2],snoc g3 (by omega),snoc g4 (by omega),fp⟩ (by simp;omega)
  ·have ha:(a.length==0)=false:=Bi.2 (by omega)
   by_cases hb:b=[]
   ·have Ew:d=[]:=by rw[hb]at g2;exact a8.1 (by simpa using g2)
    have:=hQ ⟨a,b,d⟩ k hd ⟨by simp only;omega,by simp only;omega,by simp only;omega⟩ h2 g3 g4
    subst hb;subst Ew;simp only[zB,Ev,if_true]at this;simp (disch:=omega) [wrap64,ha,show cP []=[] from rfl,BX];exact this
   ·have Uj:¬ b.length=0:=fun g=>hb (a8.1 g)
    have yF:(b.length==0)=false:=Bi.2 Uj;have xK:(d.length==0)=false:=Bi.2 (by omega)
    have Ew:d≠[]:=fun g=>Uj (by rw[←g2,g];rfl)
    have:=hQ ⟨a,b,d⟩ k hd ⟨by simp only;omega,by simp only;omega,by simp only;omega⟩ h2 g3 g4
    simp only[zB,Ev,av hb,av Ew]at this;simp (disch:=omega) [wrap64,ha,yF,xK,BX];exact this
def fj(r p:List Int):Nat→List Int
 |0=>p
 |n+1=>if n<r.length then (fj r p n).set n (nth r n) else fj r p n
@[simp] theorem V1{r p:List Int}:∀{n:Nat},(fj r p n).length=p.length
 |0=>rfl
 |n+1=>by
  unfold fj;split
  ·rw[pj,V1]
  ·exact V1
theorem Rx{p:List Int}{i:Nat}{v:Int}:(cP p).set i (i64 v)=cP (p.set i v):=by simp[cP,Pm]
theorem ahy{p:List Int}:(cP p).map V.jm=cP p:=by simp[cP,V.jm]
theorem awR{c:Cs}{f:Fl}{p:Sp}(h:nW c f p=0):VV (la c f p):=by
 have hp:=GV h;have cv:=jM hp.c0;have kv:=kr cv.k;have hv:=hp.vc (bY _);have w9:=GS cv p f;have e1:(la c f p).re.length=c.s.length:=w9.1;have e2:(la c f p).lf.length=c.r.n.toNat:=hv.ll;have e3:(la c f p).cm.length=c.r.l.length:=w9.2;have:=cv.s;have:=cv.n;have:=kv.len;exact⟨by omega,by omega,by omega⟩
theorem Ks:OF ⟨0,[],[]⟩:=⟨⟨by simp,fun i hi=>absurd hi (by simp)⟩,by simp,fun i hi=>absurd hi (by simp)⟩
abbrev G4(p:Sp):Prop:=p.a.length≤1000∧p.b.length≤1000∧p.c.length≤1000
theorem ahz{raw p:List Int}{rb rc:V}{c:Cs}{f:Fl}{k:V}{o8:List V}{v4 v5:V}{g0 A B:aP}{J:List aP}{K:cH}(hp:p.length≤1000)
  (hK:K (.exit 0) ⟨[(3,.bj 3 0),(5,k),(6,.bj 6 0),(7,.bj 7 0),(8,.bj 8 0),(9,.bj 9 0),(66,i64 p.length),(67,i64 p.length),(68,.bool false)],[(3,[ints raw,rb,rc]),(6,c.row),(7,f.row),(8,o8),(9,[.c6 3 1 p.length,v4,v5])],[],g0::A::B::.cells (cP (fj raw p p.length))::J⟩) :
  go (aX F) Z6 (Z7 k p.length 0 [ints raw,rb,rc] c.row f.row o8 [.c6 3 1 p.length,v4,v5] (g0::A::B::.cells (cP p)::J)) K:=by
 refine go_loop (fun i:Nat=>Z7 k p.length i [ints raw,rb,rc] c.row f.row o8 [.c6 3 1 p.length,v4,v5] (g0::A::B::.cells (cP (fj raw p i))::J)) (fun i=>i≤p.length) (fun i=>p.length-i) 0 rfl (by simp[fj]) (by omega) ?_
 rintro i hi;simp +contextual (disch:=omega) [-getElem?_pos,-List.length_eq_zero_iff,-Int.natCast_eq_zero,wrap64,Z5];refine bB (fun h=>?_) (fun h=>?_)
 ·have h:i<p.length:=by omega
  by_cases h4:i<raw.length
  ·simp +contextual (disch:=omega) [-getElem?_pos,-List.length_eq_zero_iff,-Int.natCast_eq_zero,wrap64,dA (l:=raw),h4,Rx]
   exact bu (i+1) (by simp[fj,h4]) (by omega) (by omega)
  ·simp +contextual (disch:=omega) [-getElem?_pos,-List.length_eq_zero_iff,-Int.natCast_eq_zero,wrap64,h4]
   exact bu (i+1) (by simp[fj,h4]) (by omega) (by omega)
 ·obtain rfl:i=p.length:=by omega
  simpa using hK
theorem awS{raw p:List Int}{ra rb:V}{c:Cs}{f:Fl}{k:V}{o8:List V}{v3 v4:V}{g0 A B C D:aP}{K:cH}(hp:p.length≤1000)
  (hK:K (.exit 2) ⟨[(3,.bj 3 0),(5,k),(6,.bj 6 0),(7,.bj 7 0),(8,.bj 8 0),(9,.bj 9 0),(87,i64 p.length),(88,i64 p.length),(89,.bool false)],[(3,[ra,rb,ints raw]),(6,c.row),(7,f.row),(8,o8),(9,[v3,v4,.c6 5 1 p.length])],[],[g0,A,B,C,D,.cells (cP (fj raw p p.length))]⟩) :
  go (aX F) Sa (Z8 k p.length 0 [ra,rb,ints raw] c.row f.row o8 [v3,v4,.c6 5 1 p.length] [g0,A,B,C,D,.cells (cP p)]) K:=by
 refine go_loop (fun i:Nat=>Z8 k p.length i [ra,rb,ints raw] c.row f.row o8 [v3,v4,.c6 5 1 p.length] [g0,A,B,C,D,.cells (cP (fj raw p i))]) (fun i=>i≤p.length) (fun i=>p.length-i) 0 rfl (by simp[fj]) (by omega) ?_
 rintro i hi;simp +contextual (disch:=omega) [-getElem?_pos,-List.length_eq_zero_iff,-Int.natCast_eq_zero,wrap64,R9];refine bB (fun h=>?_) (fun h=>?_)
 ·have h:i<p.length:=by omega
  by_cases h4:i<raw.length
  ·simp +contextual (disch:=omega) [-getElem?_pos,-List.length_eq_zero_iff,-Int.natCast_eq_zero,wrap64,dA (l:=raw),h4,Rx]
   exact bu (i+1) (by simp[fj,h4]) (by omega) (by omega)
  ·simp +contextual (disch:=omega) [-getElem?_pos,-List.length_eq_zero_iff,-Int.natCast_eq_zero,wrap64,h4]
   exact bu (i+1) (by simp[fj,h4]) (by omega) (by omega)
 ·obtain rfl:i=p.length:=by omega
  simpa using hK
set_option maxHeartbeats 1000000 in
theorem ahA{c:Cs}(oA:im c.r){f:Fl}(hf:kq f){u v x:Sp}(hu:G4 u)(hv:G4 v)(hx:G4 x){t8:Int}{n8 m8:Nat}{G:List aP}{K:cH}
  (hK:K (.exit 4) ⟨[(5,.bH 0 0),(6,.bj 6 0),(7,.bj 7 0),(8,.bj 8 0),(9,.bj 9 0),(111,.slice none 3 [u.row,v.row,x.row]),(112,i64 3),(113,i64 3),(114,.bool false)],[(6,c.row),(7,f.row),(8,[i64 t8,.c6 1 4 n8,.c6 2 1 m8]),(9,v.row)],[],G⟩) :
  go (aX F) aaa (aab (.bH 0 0) (.slice none 3 [u.row,v.row,x.row]) 3 0 c.row f.row [i64 t8,.c6 1 4 n8,.c6 2 1 m8] v.row G) K:=by
 have key:∀i:Nat,i<3→∃w:Sp,([u.row,v.row,x.row]:List (List V))[i]?=some w.row∧G4 w:=fun i hi=>by
  rcases (by omega:i=0∨i=1∨i=2) with rfl|rfl|rfl
  ·exact⟨u,rfl,hu⟩
  ·exact⟨v,rfl,hv⟩
  ·exact⟨x,rfl,hx⟩
 refine go_loop (fun i:Nat=>aab (.bH 0 0) (.slice none 3 [u.row,v.row,x.row]) 3 i c.row f.row [i64 t8,.c6 1 4 n8,.c6 2 1 m8] v.row G) (fun i=>i≤3) (fun i=>3-i) 0 rfl (by simp) (by omega) ?_
 rintro i hi;simp +contextual (disch:=omega) [-getElem?_pos,-List.length_eq_zero_iff,-Int.natCast_eq_zero,wrap64,Z9];refine bB (fun h=>?_) (fun h=>?_)
 case refine_2 =>
  obtain rfl:i=3:=by omega
  exact hK
 obtain⟨w,hw,hs⟩:=key i (by omega)
 obtain⟨t1,G1,hA⟩:=Of oA hf w;obtain⟨G2,hB⟩:=Oj oA hf hs;by_cases he:nW c f w=0
 ·rw[ry,aK he]at hA hB
  have hp:=GV he;have hS:=Eu (qb c f w) (qb c f w) (VW hp.c0 hp.fl);obtain⟨l1,l2,l3⟩:=awR he;have AK:=VX (la c f w) (la c f w) ⟨by omega,by omega,by omega⟩
  have Ex:=VZ (la c f w) (la c f w) ⟨by omega,by omega,by omega⟩
  have V3:=VX (la c f w) ⟨[],[],[]⟩ ⟨by omega,by omega,by omega⟩
  have ue:=VZ (la c f w) ⟨[],[],[]⟩ ⟨by omega,by omega,by omega⟩
  rw[dD rfl]at hS AK Ex;generalize (decide (la c f w=⟨[],[],[]⟩))=b at *;generalize qb c f w=X at *;generalize la c f w=Y at *;simp only[ps,Ps.row,ints,Bf]at V3 ue;cases b
  ·simp +contextual (disch:=omega) [-getElem?_pos,-List.length_eq_zero_iff,-Int.natCast_eq_zero,wrap64,hw,hA,hB,hS,AK,Ex,V3,ue]
   exact bu (i+1) (by simp) (by omega) (by omega)
  ·simp +contextual (disch:=omega) [-getElem?_pos,-List.length_eq_zero_iff,-Int.natCast_eq_zero,wrap64,hw,hA,hB,hS,AK,Ex,V3,ue]
   exact bu (i+1) (by simp) (by omega) (by omega)
 ·rw[ry,av he]at hA hB
  have hS:=Eu ⟨0,[],[]⟩ ⟨0,[],[]⟩ Ks;have AK:=VX ⟨[],[],[]⟩ ⟨[],[],[]⟩ (by simp)
  have Ex:=VZ ⟨[],[],[]⟩ ⟨[],[],[]⟩ (by simp)
  rw[dD rfl]at hS AK Ex;simp only[fl,Fl.row,ox,j0,ps,Ps.row,ints,Bf]at hS AK Ex;simp +contextual (disch:=omega) [-getElem?_pos,-List.length_eq_zero_iff,-Int.natCast_eq_zero,wrap64,hw,hA,hB,hS,AK,Ex];exact bu (i+1) (by simp) (by omega) (by omega)
theorem ahB{c:Cs}(oA:im c.r){f:Fl}(hf:kq f)(hc:Cm c){q:List Sp}{m:Nat}(hq:q.length=m)(hm:m≤6)(zC:∀i,i<m→Sw c (nth q i)){w:Sp}(hw:G4 w) :
  ∃G1 G2,aX F 18 [cs c,fl f,oC (q++[w])] []=some (jP (some 0) c f (q++[w]),G1)∧aX F 19 [cs c,fl f,oC (q++[w])] []=some (jP (some 0) c f (q++[w]),G2)∧(q++[w]).length=m+1:=by
 have hl:(q++[w]).length=m+1:=by simp[hq]
 obtain⟨G1,h1⟩:=ag0 oA hf (q++[w]) (by omega)
 obtain⟨G2,h2⟩:=awL oA hf (q++[w]) (by omega) fun i hi=>by
  rw[ik];split
  ·have h3:=(zC i (by omega)).1
   unfold j7 at h3;have:=hc.n;have:=hc.s;exact⟨by omega,by omega,by omega⟩
  ·rw[aK (by omega)];exact hw
 exact⟨G1,G2,h1,h2,hl⟩
theorem ahC{c:Cs}{f:Fl}(hc:Cm c)(hY:fP c f):(∀G,aX F 20 [cs c,fl f] G=some (.tuple [i64 (rC f f.d.length),.slice (some 0) 1 ((sC f f.w.length).map fun n=>[i64 n]),i64 0],G)) ∧
  (∀G,aX F 21 [cs c,fl f] G=some (.tuple [i64 (rC f f.d.length),.slice (some 0) 1 ((sC f f.w.length).map fun n=>[i64 n]),i64 0],G)) ∧
  (∀G,aX F 23 [ints (sC f f.w.length),ints (sC f f.w.length)] G=some (.bool true,G))∧(∀G,aX F 13 [fl f,fl f] G=some (.bool true,G)):=by
 have hz:=hc.lD;have kv:=kr (jM hz).k;have um:=Er (jM hz).k hY;have Ol:gq c f=0:=by unfold gq;rw[av (fun g=>g hz),aK hY]
 have h1:=awB hc.small um;have h2:=awK hc.small um;rw[Es,aK Ol]at h1 h2;have h3:=awr (sC f f.w.length) (sC f f.w.length) (by
  have:=hY.2.2.1;have:=kv.len;simp;omega)
 rw[dD rfl]at h3;have h4:=Eu f f (VW hz hY);rw[dD rfl]at h4;exact⟨h1,h2,h3,h4⟩
theorem ahD{c:Cs}{f:Fl}(hc:Cm c)(hY:fP c f)(L:List Sp)(hl:L.length≤10) :
  (iJ c f L=0∧(∀G,aX F 13 [fl (ew c f L L.length),fl (ew c f L L.length)] G=some (.bool true,G))∧(∀G,aX F 24 [fl (ew c f L L.length),fl (ew c f L L.length)] G=some (.bool true,G)) ∧
   (∀G,aX F 24 [fl (ew c f L L.length),fl f] G=some (.bool (decide (ew c f L L.length=f)),G))∧(∀G,aX F 13 [fl (ew c f L L.length),fl f] G=some (.bool (decide (ew c f L L.length=f)),G)) ∧
   (∀G,aX F 22 [.slice none 3 ((mn c f L L.length).map Ps.row),.slice none 3 ((mn c f L L.length).map Ps.row)] G=some (.bool true,G))) ∨
  (¬iJ c f L=0∧(∀G,aX F 13 [.agg [i64 0,.slice none 4 [],.slice none 1 []],.agg [i64 0,.slice none 4 [],.slice none 1 []]] G=some (.bool true,G)) ∧
   (∀G,aX F 24 [.agg [i64 0,.slice none 4 [],.slice none 1 []],.agg [i64 0,.slice none 4 [],.slice none 1 []]] G=some (.bool true,G)) ∧
   (∀G,aX F 24 [.agg [i64 0,.slice none 4 [],.slice none 1 []],fl f] G=some (.bool (decide ((⟨0,[],[]⟩:Fl)=f)),G))∧(∀G,aX F 13 [.agg [i64 0,.slice none 4 [],.slice none 1 []],fl f] G=some (.bool (decide ((⟨0,[],[]⟩:Fl)=f)),G)) ∧
   (∀G,aX F 22 [.slice none 3 [],.slice none 3 []] G=some (.bool true,G))):=by
 have hz:=hc.lD;by_cases he:iJ c f L=0
 ·left
  have ra:=ag4 he;have OJ:=VW hz (ra.at_ (k:=L.length) (bY _));have s1:=Eu (ew c f L L.length) (ew c f L L.length) OJ;have s2:=OG (ew c f L L.length) (ew c f L L.length) OJ;rw[dD rfl]at s1 s2;refine⟨he,s1,s2,OG _ f OJ,Eu _ f OJ,ahr _ (by simp;omega) fun i hi=>?_⟩
  simp only[awb]at hi;rw[mn,show nth ((List.range L.length).map (uk c f L)) i=uk c f L i by simp[nth,List.getD,hi]]
  exact awE ra hi
 ·right
  have s1:=Eu ⟨0,[],[]⟩ ⟨0,[],[]⟩ Ks;have s2:=OG ⟨0,[],[]⟩ ⟨0,[],[]⟩ Ks;rw[dD rfl]at s1 s2;have s3:=OG ⟨0,[],[]⟩ f Ks;have s4:=Eu ⟨0,[],[]⟩ f Ks;have s5:=ahr [] (by simp) (by simp)
  exact⟨he,s1,s2,s3,s4,s5⟩
set_option maxRecDepth 100000 in
set_option maxHeartbeats 8000000 in
theorem awT{t:List Int}(hl:t.length≤9223372036854775807)(raw:Sp)(awU:raw.a.length≤17592186044416∧raw.b.length≤17592186044416∧raw.c.length≤17592186044416) :
  ∃G',aX F 3 [ints t,sv raw] []=some (.bool true,G'):=by
 suffices h:gw (aX F) 3 [ints t,sv raw] [] fun v _=>v=.bool true by
  obtain⟨_,G,h,rfl⟩:=h;exact⟨G,h⟩
 refine gF rfl rfl ?_;obtain⟨q1,q2,q3⟩:=awU;by_cases h1:t.length≤500
 case neg=>simp +contextual (disch:=omega) [-getElem?_pos,-List.length_eq_zero_iff,-Int.natCast_eq_zero,wrap64,IS,OB,DY,h1]
 by_cases h2:(300:Int)<raw.a.length+raw.b.length+raw.c.length
 case pos=>simp +contextual (disch:=omega) [-getElem?_pos,-List.length_eq_zero_iff,-Int.natCast_eq_zero,wrap64,IS,OB,DY,h1,h2]
 obtain⟨c,f,k1,n1,gH,nX,hY,_⟩:=agZ (l:=t) (k:=0) ⟨by omega,hl⟩
 have hz:=nX.lD;have cv:=jM hz;have kv:=kr cv.k;have oA:=nX.small;have hn6:=nX.n;have hs3:=nX.s;have jZ:=kv.n;have um:=Er cv.k hY;have hCp:=N7 f (AX hz hY.2.1) (GP cv.k hY.2.2);obtain⟨p,k2,n2,fp,ib,_,_,_⟩:=awQ gH (c:=c) (by omega) (by omega) (.cells (iq f.d)) (.cells (jN f.w))
 obtain⟨a,b,d⟩:=p;unfold j7 at ib;obtain⟨e1,e2,e3⟩:=ib;simp only at e1 e2 e3;have ahF:G4 raw:=⟨by omega,by omega,by omega⟩
 obtain⟨ma,hma⟩:∃ma,ma=fj raw.a a a.length:=⟨_,rfl⟩;have aEe:ma.length=a.length:=by rw[hma,V1]
 by_cases hb:b=[]
 ·have xK:d=[]:=a8.1 (by rw[hb]at e2;simp at e2;omega)
  subst hb;subst xK;simp only[zB,Ev,if_true]at n2;simp (config:={ maxSteps:=2000000 }) +contextual (disch:=omega) [-getElem?_pos,-List.length_eq_zero_iff,-Int.natCast_eq_zero,wrap64,IS,OB,DY,h1,h2,TW,n1,hCp,n2];refine ahz (by omega) ?_
  simp +contextual (disch:=omega) [-getElem?_pos,-List.length_eq_zero_iff,-Int.natCast_eq_zero,wrap64,wrap64];rw[Sa,yJ];obtain⟨p3,k3,n3,lF,V5,_⟩:=V0 [.cells (iq f.d),.cells (jN f.w),.cells []] fp (c:=c) (by omega) (by omega)
  simp +contextual (disch:=omega) [-getElem?_pos,-List.length_eq_zero_iff,-Int.natCast_eq_zero,wrap64,R9,ahy,BX (l:=fj raw.a a a.length) (n:=a.length) (by simp),n3]
  unfold j7 at V5;refine ahA oA um (u:=raw) (v:=⟨fj raw.a a a.length,[],[]⟩) (x:=p3) ahF ⟨by simp;omega,by simp,by simp⟩ ⟨by omega,by omega,by omega⟩ ?_
  simp +contextual (disch:=omega) [-getElem?_pos,-List.length_eq_zero_iff,-Int.natCast_eq_zero,wrap64,wrap64];obtain⟨m,k4,n4,pT,B1,hm⟩:=CB lF 6 (by omega) [.cells (iq f.d),.cells (jN f.w),.cells []]
  obtain⟨m,rfl⟩:∃k:Nat,m=k:=⟨m.toNat,by omega⟩
  obtain⟨q,k5,n5,yR,hq,zC⟩:=ahx [.cells (iq f.d),.cells (jN f.w),.cells []] pT (c:=c) (by omega) (by omega) (n:=m) (by omega)
  obtain⟨G1,G2,hA,hB,Uz⟩:=ahB oA um nX hq (by omega) zC (w:=⟨fj raw.a a a.length,[],[]⟩) ⟨by simp<;>omega,by simp,by simp⟩
  obtain⟨A7,A8,hI,hK⟩:=ahC nX hY;have yW:q.map Sp.row++[[ints (fj raw.a a a.length),.slice none 1 [],.slice none 1 []]]=(q++[(⟨fj raw.a a a.length,[],[]⟩:Sp)]).map Sp.row:=by simp
  rcases ahD nX hY (q++[(⟨fj raw.a a a.length,[],[]⟩:Sp)]) (by omega) with⟨he,s1,s2,s3,s4,hLk⟩ | ⟨he,s1,s2,s3,s4,hLk⟩
  ·rw[jP,aK he]at hA hB
   generalize decide (ew c f (q++[(⟨fj raw.a a a.length,[],[]⟩:Sp)]) (q++[(⟨fj raw.a a a.length,[],[]⟩:Sp)]).length=f)=B at *;generalize ew c f (q++[(⟨fj raw.a a a.length,[],[]⟩:Sp)]) (q++[(⟨fj raw.a a a.length,[],[]⟩:Sp)]).length=X at *;generalize mn c f (q++[(⟨fj raw.a a a.length,[],[]⟩:Sp)]) (q++[(⟨fj raw.a a a.length,[],[]⟩:Sp)]).length=Y at *;generalize q++[(⟨fj raw.a a a.length,[],[]⟩:Sp)]=L at *;cases B
   ·simp (config:={ maxSteps:=2000000 }) +contextual (disch:=omega) [-getElem?_pos,-List.length_eq_zero_iff,-Int.natCast_eq_zero,wrap64,n4,n5,yW,hA,hB,A7,A8,hI,hK,s1,s2,s3,s4,hLk,p9,sA]
   ·simp (config:={ maxSteps:=2000000 }) +contextual (disch:=omega) [-getElem?_pos,-List.length_eq_zero_iff,-Int.natCast_eq_zero,wrap64,n4,n5,yW,hA,hB,A7,A8,hI,hK,s1,s2,s3,s4,hLk,p9,sA]
  ·rw[jP,av he]at hA hB
   generalize decide ((⟨0,[],[]⟩:Fl)=f)=B at *;generalize q++[(⟨fj raw.a a a.length,[],[]⟩:Sp)]=L at *;cases B
   ·simp (config:={ maxSteps:=2000000 }) +contextual (disch:=omega) [-getElem?_pos,-List.length_eq_zero_iff,-Int.natCast_eq_zero,wrap64,n4,n5,yW,hA,hB,he,A7,A8,hI,hK,s1,s2,s3,s4,hLk,p9,sA]
   ·simp (config:={ maxSteps:=2000000 }) +contextual (disch:=omega) [-getElem?_pos,-List.length_eq_zero_iff,-Int.natCast_eq_zero,wrap64,n4,n5,yW,hA,hB,he,A7,A8,hI,hK,s1,s2,s3,s4,hLk,p9,sA]
 ·have xK:d≠[]:=fun e=>hb (a8.1 (by rw[e]at e3;simp at e3;omega))
  simp only[zB,Ev,av hb,av xK]at n2;simp (config:={ maxSteps:=2000000 }) +contextual (disch:=omega) [-getElem?_pos,-List.length_eq_zero_iff,-Int.natCast_eq_zero,wrap64,IS,OB,DY,h1,h2,TW,n1,hCp,n2];refine ahz (by omega) ?_
  simp +contextual (disch:=omega) [-getElem?_pos,-List.length_eq_zero_iff,-Int.natCast_eq_zero,wrap64,wrap64];refine awS (by omega) ?_
  obtain⟨p3,k3,n3,lF,V5,_⟩:=V0 [.cells (iq f.d),.cells (jN f.w),.cells [],.cells [],.cells []] fp (c:=c) (by omega) (by omega)
  simp +contextual (disch:=omega) [-getElem?_pos,-List.length_eq_zero_iff,-Int.natCast_eq_zero,wrap64,ahy,BX (l:=fj raw.a a a.length) (n:=a.length) (by simp),BX (l:=fj raw.c d d.length) (n:=d.length) (by simp),n3]
  unfold j7 at V5;refine ahA oA um (u:=raw) (v:=⟨fj raw.a a a.length,b,fj raw.c d d.length⟩) (x:=p3) ahF ⟨by simp;omega,by simp;omega,by simp;omega⟩ ⟨by omega,by omega,by omega⟩ ?_
  simp +contextual (disch:=omega) [-getElem?_pos,-List.length_eq_zero_iff,-Int.natCast_eq_zero,wrap64,wrap64];obtain⟨m,k4,n4,pT,B1,hm⟩:=CB lF 6 (by omega) [.cells (iq f.d),.cells (jN f.w),.cells [],.cells [],.cells []]
  obtain⟨m,rfl⟩:∃k:Nat,m=k:=⟨m.toNat,by omega⟩
  obtain⟨q,k5,n5,yR,hq,zC⟩:=ahx [.cells (iq f.d),.cells (jN f.w),.cells [],.cells [],.cells []] pT (c:=c) (by omega) (by omega) (n:=m) (by omega)
  obtain⟨G1,G2,hA,hB,Uz⟩:=ahB oA um nX hq (by omega) zC (w:=⟨fj raw.a a a.length,b,fj raw.c d d.length⟩) ⟨by simp;omega,by simp;omega,by simp;omega⟩
  obtain⟨A7,A8,hI,hK⟩:=ahC nX hY;have yW:q.map Sp.row++[[ints (fj raw.a a a.length),ints b,ints (fj raw.c d d.length)]]=(q++[(⟨fj raw.a a a.length,b,fj raw.c d d.length⟩:Sp)]).map Sp.row:=by simp
  rcases ahD nX hY (q++[(⟨fj raw.a a a.length,b,fj raw.c d d.length⟩:Sp)]) (by omega) with⟨he,s1,s2,s3,s4,hLk⟩ | ⟨he,s1,s2,s3,s4,hLk⟩
  ·rw[jP,aK he]at hA hB
   generalize decide (ew c f (q++[(⟨fj raw.a a a.length,b,fj raw.c d d.length⟩:Sp)]) (q++[(⟨fj raw.a a a.length,b,fj raw.c d d.length⟩:Sp)]).length=f)=B at *;generalize ew c f (q++[(⟨fj raw.a a a.length,b,fj raw.c d d.length⟩:Sp)]) (q++[(⟨fj raw.a a a.length,b,fj raw.c d d.length⟩:Sp)]).length=X at *;generalize mn c f (q++[(⟨fj raw.a a a.length,b,fj raw.c d d.length⟩:Sp)]) (q++[(⟨fj raw.a a a.length,b,fj raw.c d d.length⟩:Sp)]).length=Y at *;generalize q++[(⟨fj raw.a a a.length,b,fj raw.c d d.length⟩:Sp)]=L at *;cases B
   ·simp (config:={ maxSteps:=2000000 }) +contextual (disch:=omega) [-getElem?_pos,-List.length_eq_zero_iff,-Int.natCast_eq_zero,wrap64,n4,n5,yW,hA,hB,A7,A8,hI,hK,s1,s2,s3,s4,hLk,p9,sA]
   ·simp (config:={ maxSteps:=2000000 }) +contextual (disch:=omega) [-getElem?_pos,-List.length_eq_zero_iff,-Int.natCast_eq_zero,wrap64,n4,n5,yW,hA,hB,A7,A8,hI,hK,s1,s2,s3,s4,hLk,p9,sA]
  ·rw[jP,av he]at hA hB
   generalize decide ((⟨0,[],[]⟩:Fl)=f)=B at *;generalize q++[(⟨fj raw.a a a.length,b,fj raw.c d d.length⟩:Sp)]=L at *;cases B
   ·simp (config:={ maxSteps:=2000000 }) +contextual (disch:=omega) [-getElem?_pos,-List.length_eq_zero_iff,-Int.natCast_eq_zero,wrap64,n4,n5,yW,hA,hB,he,A7,A8,hI,hK,s1,s2,s3,s4,hLk,p9,sA]
   ·simp (config:={ maxSteps:=2000000 }) +contextual (disch:=omega) [-getElem?_pos,-List.length_eq_zero_iff,-Int.natCast_eq_zero,wrap64,n4,n5,yW,hA,hB,he,A7,A8,hI,hK,s1,s2,s3,s4,hLk,p9,sA]
end Go.Proofs.YtcelmhaoipbdiaaGreat
namespace Go.Proofs.YtcelmhaoipbdiaaGreat
set_option linter.all false
open Go.Vm
open Go.ChangeShapes Go.WideShapes Go.ChangeAt Go.RowKit
theorem awW{H:Type}{d:Nat}{vs:List V}{x:DataW H}(h:uT Tryz.prog d 24 vs x):∃p:Sp,vs=p.row∧(p.a.length≤17592186044416∧p.b.length≤17592186044416∧p.c.length≤17592186044416):=by
 have hl:=RA (n:=3) (by kernel_rfl) h.1
 obtain⟨_,_,g0⟩:=DE (i:=0) (off:=0) (n:=1) (ty:=22) (by kernel_rfl) h
 obtain⟨a0,h0,w0⟩:=GY g0;obtain⟨_,_,g1⟩:=DE (i:=1) (off:=1) (n:=1) (ty:=22) (by kernel_rfl) h
 obtain⟨a1,h1,w1⟩:=GY g1;obtain⟨_,_,g2⟩:=DE (i:=2) (off:=2) (n:=1) (ty:=22) (by kernel_rfl) h
 obtain⟨a2,h2,w2⟩:=GY g2
 match vs,hl with
 |[b0,b1,b2],_ =>
  simp at h0 h1 h2;subst h0;subst h1;subst h2;exact⟨⟨a0,a1,a2⟩,rfl,w0,w1,w2⟩
end Go.Proofs.YtcelmhaoipbdiaaGreat
