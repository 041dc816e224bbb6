/- Parts of the proof, joined: Flo3, Run1, Run2, Val1, Val2, Wor1. -/
import Derived.Test.YtcelmhaoipbdiaaGreatDf
import Derived.Test.YtcelmhaoipbdiaaGreatDa
namespace Go.Proofs.YtcelmhaoipbdiaaGreat
set_option linter.all false
open Go.Vm
attribute [local simp] ly lz kF lx
theorem awa{l:List Int}{k:Nat}(hd:c5 l k){c:Cs}(hc:Cm c){s:List Ds}(hs:oz c s):∃f k',aX F 40 [.bH 0 0,cs c,ox s] [dk l k]=some (fl f,[dk l k'])∧c5 l k'∧fP c f∧hB c f 10:=by
 suffices h:∀Q:V→List aP→Prop,(∀f k',c5 l k'→fP c f→hB c f 10→Q (fl f) [dk l k'])→gw (aX F) 40 [.bH 0 0,cs c,ox s] [dk l k] Q by
  obtain⟨_,_,h,f,k',rfl,rfl,h1⟩:=h (fun v G=>∃f k',v=fl f∧G=[dk l k']∧c5 l k'∧fP c f∧hB c f 10) fun f k' a b d=>⟨f,k',rfl,rfl,a,b,d⟩;exact⟨f,k',h,h1⟩
 intro Q hQ;refine gF rfl rfl ?_;have cv:=jM hc.lD;have kv:=kr cv.k;have oA:=hc.small;have hn6:=hc.n;obtain⟨G1,fm⟩:=avm c oA s (AX hc.lD hs);have h0:qw c s=.tuple [fl (nA c s),i64 0]:=by unfold qw;rw[show qv c s=0 by unfold qv;rw[av (by have:=hc.lD;omega),aK hs]];rfl
 rw[h0]at fm;obtain⟨m,k1,n1,gH,hm⟩:=gG hd 6 (by omega)
 have Vk:=(Vz hc.lD).2 hs;have yF:=av9 (c:=c) (s:=s);generalize nA c s=f0 at fm Vk yF;simp (disch:=omega) [wrap64,aaW,fm,n1];refine go_loop (fun y:Fl×Int×Nat=>aoe (.bH 0 0) y.2.1 c.row [i64 0,.bU,.bU] y.1.row [dk l y.2.2])
  (fun y=>fP c y.1∧(0≤y.2.1∧y.2.1≤10)∧c5 l y.2.2∧hB c y.1 (10-y.2.1)) (fun y=>y.2.1.toNat) (f0,m,k1) rfl (by simp) ⟨Vk,by simp only;omega,gH,Oq cv.k yF (by simp only;omega)⟩ ?_
 rintro⟨f,x,k⟩ ⟨h1,h2,hd,hh⟩;simp only at h1 h2 hd hh;simp (disch:=omega) [wrap64,aaV];refine bB (fun h3=>?_) (fun h3=>?_)
 ·obtain⟨p,k2,n2,fp,hp,ha,hb,xk⟩:=VD hd (c:=c) (by have:=kv.n;omega) (by have:=cv.s;omega)
  have GI:=cv.s;have lj:p.a.length≤1000∧p.b.length≤1000∧p.c.length≤1000:=by have:=hp;unfold j7 at this;omega
  obtain⟨G2,hS⟩:=Oj oA (Er cv.k h1) lj;by_cases he:nW c f p=0
  ·rw[ry,aK he]at hS
   have xp:=(GV he).fl;have Ay:=Oq cv.k (agX (GV he) (by omega) hh).1 (show 10-x+1≤10-(x-1) by omega)
   generalize qb c f p=f2 at hS xp Ay;generalize la c f p=pp at hS;simp (disch:=omega) [wrap64,n2,hS];exact bu (f2,x-1,k2) (by simp) ⟨xp,by simp only;omega,fp,Ay⟩ (by simp only;omega)
  ·rw[ry,av he]at hS
   simp (disch:=omega) [wrap64,n2,hS,decide_eq_false he];exact bu (f,x-1,k2) (by simp) ⟨h1,by simp only;omega,fp,Oq cv.k hh (by simp only;omega)⟩ (by simp only;omega)
 ·exact hQ f k hd h1 (Oq cv.k hh (by omega))
theorem agZ{l:List Int}{k:Nat}(hd:c5 l k):∃c f k',aX F 8 [.bH 0 0] [dk l k]=some (.tuple [cs c,fl f],[dk l k'])∧c5 l k'∧Cm c∧fP c f∧hB c f 10:=by
 suffices h:∀Q:V→List aP→Prop,(∀c f k',c5 l k'→Cm c→fP c f→hB c f 10→Q (.tuple [cs c,fl f]) [dk l k'])→gw (aX F) 8 [.bH 0 0] [dk l k] Q by
  obtain⟨_,_,h,c,f,k',rfl,rfl,h1⟩:=h (fun v G=>∃c f k',v=.tuple [cs c,fl f]∧G=[dk l k']∧c5 l k'∧Cm c∧fP c f∧hB c f 10) fun c f k' a b d e=>⟨c,f,k',rfl,rfl,a,b,d,e⟩;exact⟨c,f,k',h,h1⟩
 intro Q hQ;refine gF rfl rfl ?_;obtain⟨c,s,k1,n1,gH,hc,hs⟩:=avq hd;obtain⟨f,k2,n2,fp,hf,hb⟩:=awa gH hc hs;simp[wrap64,aam,n1,n2];exact hQ c f k2 fp hc hf hb
instance:Inhabited Sp:=⟨⟨[],[],[]⟩⟩
abbrev oC(l:List Sp):V:=.slice none 3 (l.map Sp.row)
noncomputable def ew(c:Cs)(f:Fl)(l:List Sp):Nat→Fl
 |0=>f
 |k+1=>qb c (ew c f l k) (nth l k)
noncomputable def uk(c:Cs)(f:Fl)(l:List Sp)(k:Nat):Ps:=la c (ew c f l k) (nth l k)
noncomputable def mn(c:Cs)(f:Fl)(l:List Sp)(k:Nat):List Ps:=(List.range k).map (uk c f l)
theorem Ot{c:Cs}{f:Fl}{l:List Sp}{k:Nat}:mn c f l (k+1)=mn c f l k++[uk c f l k]:=by simp[mn,KS]
@[simp] theorem awb{c:Cs}{f:Fl}{l:List Sp}{k:Nat}:(mn c f l k).length=k:=by simp[mn]
noncomputable def iJ(c:Cs)(f:Fl)(l:List Sp):Int:=if gq c f≠0 then gq c f else if 400<l.length then 10 else du (fun k=>fS c (ew c f l k) (nth l k)) l.length 0
abbrev VL(t:Option Nat)(e:Int):V:=.tuple [.agg [i64 0,.slice t 4 [],.slice t 1 []],.slice t 3 [],i64 e]
noncomputable def jP(t:Option Nat)(c:Cs)(f:Fl)(l:List Sp):V:=if iJ c f l=0 then .tuple [fl (ew c f l l.length),.slice t 3 ((mn c f l l.length).map Ps.row),i64 0] else VL t (iJ c f l)
theorem Ki{c:Cs}{f:Fl}{p:Sp}(hc:eQ c=0)(hf:fP c f):nW c f p=fS c f p:=by
 unfold nW gq;rw[av (by omega:¬ (eQ c≠0)),aK hf]
 rfl
theorem GW{c:Cs}{f:Fl}{l:List Sp}(hc:eQ c=0)(hf:fP c f):∀k,(∀j,j<k→fS c (ew c f l j) (nth l j)=0)→fP c (ew c f l k)
 |0,_=>hf
 |k+1,h=>by
  have ih:=GW hc hf k fun j hj=>h j (by omega)
  exact(GV (by rw[Ki hc ih];exact h k (by omega))).fl
set_option maxRecDepth 100000 in
set_option maxHeartbeats 1000000 in
theorem ag0{c:Cs}(hr:im c.r){f:Fl}(hf:kq f)(l:List Sp)(hl:l.length≤1000):∃G',aX F 18 [cs c,fl f,oC l] []=some (jP (some 0) c f l,G'):=by
 suffices h:∀Q:V→Prop,Q (jP (some 0) c f l)→gw (aX F) 18 [cs c,fl f,oC l] [] fun v _=>Q v by
  obtain⟨_,G',h,rfl⟩:=h (fun v=>v=jP (some 0) c f l) rfl;exact⟨G',h⟩
 intro Q hQ;refine gF rfl rfl ?_;have hd:=Vs c hr f hf;by_cases hz:gq c f=0
 case neg =>
  rw[jP,av (by unfold iJ;rw[aK hz];exact hz),show iJ c f l=gq c f by unfold iJ;rw[aK hz]]at hQ
  simp (disch:=omega) [-getElem?_pos,wrap64,MC,hd,hz];exact hQ
 obtain⟨z1,z2⟩:=yL hz;have cv:=jM z1;have kv:=kr cv.k;by_cases h4:400<l.length
 case pos =>
  have e:iJ c f l=10:=by unfold iJ;rw[av (by omega),aK h4]
  have rA:(400:Int)<l.length:=by omega
  rw[jP,av (by omega),e]at hQ
  simp (disch:=omega) [-getElem?_pos,wrap64,MC,hd,hz,rA];exact hQ
 have rA:¬ (400:Int)<l.length:=by omega
 have fm:=Vv f.d (AX z1 z2.2.1);have hwv:=agk f.w (GP cv.k z2.2.2);have e:iJ c f l=du (fun k=>fS c (ew c f l k) (nth l k)) l.length 0:=by unfold iJ;rw[av (by omega),av h4]
 simp (disch:=omega) [-getElem?_pos,wrap64,MC,hd,hz,rA,fm,hwv,p9,sA];refine go_loop (fun k:Nat=>ano (.slice (some 1058) 3 ((mn c f l k).map Ps.row)) (oC l) l.length k c.row (ew c f l k).row [z0,.bU,.bU] k [.cells [],.cells []])
  (fun k=>k≤l.length∧du (fun k=>fS c (ew c f l k) (nth l k)) (l.length-k) k=iJ c f l∧∀j,j<k→fS c (ew c f l j) (nth l j)=0) (fun k=>l.length-k) 0 rfl (by simp (disch:=omega) [p9,sA,ew,mn]) ⟨by omega,e.symm,by omega⟩ ?_
 rintro k ⟨hk,hE,hj⟩;have y7:=GW z1 z2 k hj;simp (disch:=omega) [-getElem?_pos,wrap64,aav];refine bB (fun h5=>?_) (fun h5=>?_)
 ·have h5:k<l.length:=by omega
  rw[jq h5]at hE;obtain⟨G1,hP⟩:=agD hr z1 y7 (nth l k);by_cases h6:fS c (ew c f l k) (nth l k)=0
  ·rw[Cr,aK h6]at hP
   simp only[aK h6]at hE;simp (disch:=omega) [-getElem?_pos,wrap64,aY (l:=l),hP];refine bu (k+1) (by simp[Ot,ew,uk]) ⟨by omega,hE,fun j iX=>?_⟩ (by omega)
   by_cases g:j=k
   ·rw[g];exact h6
   ·exact hj j (by omega)
  ·rw[Cr,av h6]at hP
   simp only[av h6]at hE;rw[jP,av (by omega),← hE]at hQ
   simp (disch:=omega) [-getElem?_pos,wrap64,aY (l:=l),hP,h6];exact hQ
 ·obtain rfl:k=l.length:=by omega
  rw[qd]at hE;have hE:0=iJ c f l:=hE;rw[jP,aK hE.symm]at hQ;exact hQ
theorem ag1{α:Type}[Inhabited α]{l:List α}{k i:Nat}:nth (l.drop k) i=nth l (k+i):=by
 simp[nth,List.getD]
theorem ag2{c:Cs}{f:Fl}{l:List Sp}{k:Nat}:∀{i:Nat},i≤k→ew c f (l.take k) i=ew c f l i
 |0,_=>rfl
 |i+1,h=>by simp only[ew];rw[ag2 (by omega),Cj (by omega)]
theorem ag3{c:Cs}{f:Fl}{l:List Sp}{k:Nat}:∀i:Nat,ew c (ew c f l k) (l.drop k) i=ew c f l (k+i)
 |0=>rfl
 |i+1=>by
  show qb c (ew c (ew c f l k) (l.drop k) i) (nth (l.drop k) i)=qb c (ew c f l (k+i)) (nth l (k+i));rw[ag3 i,ag1]
structure Ra(c:Cs)(f:Fl)(l:List Sp):Prop where
 c0:eQ c=0
 f0:fP c f
 len:l.length≤400
 v:∀k,k<l.length→fS c (ew c f l k) (nth l k)=0
theorem ag4{c:Cs}{f:Fl}{l:List Sp}(h:iJ c f l=0):Ra c f l:=by
 unfold iJ at h;split at h
 ·rename_i h1;exact absurd h h1
 ·rename_i h1
  obtain⟨a,b⟩:=yL (iu h1);split at h
  ·cases h
  ·exact⟨a,b,by omega,fun k hk=>sj h k (by omega) (by omega)⟩
theorem Ra.e{c:Cs}{f:Fl}{l:List Sp}(h:Ra c f l):iJ c f l=0:=by
 have hr:gq c f=0:=by unfold gq;rw[av (by have:=h.c0;omega),aK h.f0]
 have:=h.len;unfold iJ;rw[av (by omega),av (by omega)]
 exact pS fun j _ hj=>h.v j (by omega)
theorem Ra.at_{c:Cs}{f:Fl}{l:List Sp}(h:Ra c f l){k:Nat}(hk:k≤l.length):fP c (ew c f l k):=GW h.c0 h.f0 k fun j hj=>h.v j (by omega)
theorem Ra.pa{c:Cs}{f:Fl}{l:List Sp}(h:Ra c f l){k:Nat}(hk:k<l.length):Pa c (ew c f l k) (nth l k):=GV (by rw[Ki h.c0 (h.at_ (by omega))];exact h.v k hk)
theorem Ra.take{c:Cs}{f:Fl}{l:List Sp}(h:Ra c f l){k:Nat}(hk:k≤l.length):Ra c f (l.take k) :=
 ⟨h.c0,h.f0,by have:=h.len;simp;omega,fun j hj=>by
  simp at hj;rw[ag2 (by omega),Cj (by omega)]
  exact h.v j (by omega)⟩
theorem Ra.drop{c:Cs}{f:Fl}{l:List Sp}(h:Ra c f l){k:Nat}(hk:k≤l.length):Ra c (ew c f l k) (l.drop k) :=
 ⟨h.c0,h.at_ hk,by have:=h.len;simp;omega,fun j hj=>by
  simp at hj;rw[ag3,ag1];exact h.v (k+j) (by omega)⟩
theorem Ra.hB{c:Cs}{f:Fl}{l:List Sp}(h:Ra c f l){M:Int}(hM:0≤M)(hb:hB c f M):∀{k:Nat},k≤l.length→hB c (ew c f l k) (M+k)
 |0,_=>by simpa [ew] using hb
 |k+1,hk=>by
  have:=(agX (h.pa (k:=k) (by omega)) (by omega) (h.hB hM hb (k:=k) (by omega))).1
  rw[show M+((k+1:Nat):Int)=M+k+1 by omega]
  exact this
def Sw(c:Cs)(p:Sp):Prop:=j7 c p∧dF p.a 30∧dF p.b 30∧dF p.c 30
abbrev GX(l:List Sp):V:=.slice (some 0) 3 (l.map Sp.row)
theorem awd{l:List Int}{k:Nat}(hd:c5 l k){c:Cs}(hn:1≤c.r.n∧c.r.n≤40)(hs:c.s.length≤10){n:Nat}(hm:n≤1000) :
  ∃q k',aX F 16 [.bH 0 0,cs c,i64 n] [dk l k]=some (GX q,[dk l k'])∧c5 l k'∧q.length=n∧∀i,i<n→Sw c (nth q i):=by
 suffices h:∀Q:V→List aP→Prop,(∀q k',c5 l k'→q.length=n→(∀i,i<n→Sw c (nth q i))→Q (GX q) [dk l k'])→gw (aX F) 16 [.bH 0 0,cs c,i64 n] [dk l k] Q by
  obtain⟨_,_,h,q,k',rfl,rfl,h1⟩:=h (fun v G=>∃q k',v=GX q∧G=[dk l k']∧c5 l k'∧q.length=n∧∀i,i<n→Sw c (nth q i)) fun q k' a b d=>⟨q,k',rfl,rfl,a,b,d⟩;exact⟨q,k',h,h1⟩
 intro Q hQ;refine gF rfl rfl ?_;simp (disch:=omega) [wrap64,Sj];refine go_loop (fun y:List Sp×Nat=>aau (.bH 0 0) (.slice (some 1016) 3 (y.1.map Sp.row)) n y.1.length c.row y.1.length [dk l y.2]) (fun y=>y.1.length≤n∧c5 l y.2∧∀i,i<y.1.length→Sw c (nth y.1 i)) (fun y=>n-y.1.length) ([],k) rfl (by simp) ⟨by simp,hd,fun i hi=>absurd hi (by simp)⟩ ?_
 rintro⟨q,k⟩ ⟨h1,hd,hq⟩;simp only at h1 hd hq;simp (disch:=omega) [wrap64,Sg];refine bB (fun h5=>?_) (fun h5=>?_)
 ·obtain⟨p,k2,n2,fp,hp⟩:=VD hd (c:=c) hn hs
  simp (disch:=omega) [wrap64,n2];refine bu (q++[p],k2) (by simp) ⟨by simp;omega,fp,fun i hi=>?_⟩ (by simp;omega)
  simp only[oG,po]at hi;rw[ik];by_cases g:i<q.length
  ·rw[aK g];exact hq i g
  ·rw[av g,aK (by omega)];exact hp
 ·obtain e:q.length=n:=by omega
  exact hQ q k hd e (fun i hi=>hq i (by omega))
end Go.Proofs.YtcelmhaoipbdiaaGreat
namespace Go.Proofs.YtcelmhaoipbdiaaGreat
set_option linter.all false
open Go.Vm
def ag5(s p:List Int)(i:Nat):Int :=
 if (i=0∧nth s i≠0)∨(0<i∧nth s i≤nth s (i-1)) then 4
 else if 95<nth s i∨nth p i<0∨10000<nth p i then 1 else 0
def ag6(s p:List Int):Nat→Nat→Int
 |0,_=>0
 |m+1,i=>if ag5 s p i=0 then ag6 s p m (i+1) else ag5 s p i
def lD(s p:List Int):Int :=
 if s.length=0∨s.length≠p.length then 3 else if 96<s.length then 10 else ag6 s p s.length 0
end Go.Proofs.YtcelmhaoipbdiaaGreat
namespace Go.Proofs.YtcelmhaoipbdiaaGreat
set_option linter.all false
open Go.Vm
def li(s:List Int)(k:Int):Nat→Nat
 |0=>0
 |m+1=>if nth s m≤k then m else li s k m
def pr(s p:List Int)(t:Int):Int:=nth p (li s (t.tmod 96) s.length)
structure Valid(s p:List Int):Prop where
 pos:0<s.length
 len:s.length=p.length
 jI:s.length≤96
 zero:nth s 0=0
 up:∀i,i+1<s.length→nth s i<nth s (i+1)
 top:∀i,i<s.length→0≤nth s i∧nth s i≤95
 aDR:∀i,i<s.length→0≤nth p i∧nth p i≤10000
theorem aDS{s:List Int}{k:Int}{m:Nat}:li s k (m+1)=if nth s m≤k then m else li s k m:=rfl
end Go.Proofs.YtcelmhaoipbdiaaGreat
namespace Go.Proofs.YtcelmhaoipbdiaaGreat
set_option linter.all false
open Go.Vm
instance:Inhabited Ps:=⟨⟨[],[],[]⟩⟩
abbrev rcs(l:List Dr):V:=.slice none 7 (l.map Dr.row)
abbrev Cy(l:List Ps):V:=.slice none 3 (l.map Ps.row)
def Kj(q:Int):List Dr→Int→Option Int
 |[],n=>some n
 |r::rs,n=>if r.pow<0∨8589934592<r.pow then none else Kj q rs (IntKind.i64.wrap (n+IntKind.i64.wrap (r.pow*q)))
def VN(s p:List Int)(t:Int):List Ps→Int→Option Int
 |[],n=>some n
 |x::l,n=>match Kj (pr s p t) x.re n with
  |none=>none
  |some n=>VN s p (t+1) l n
def big(l:List Ps):Bool:=l.any fun x=>decide (6<x.re.length)
theorem aDT{l:List Ps}{i:Nat}(h:i<l.length):big (l.drop i)=(decide (6<(nth l i).re.length) || big (l.drop (i+1))):=by
 rw[m7 h];rfl
theorem aDU{s p:List Int}{t n:Int}{l:List Ps}{i:Nat}(h:i<l.length):VN s p t (l.drop i) n=match Kj (pr s p t) (nth l i).re n with
  |none=>none
  |some n=>VN s p (t+1) (l.drop (i+1)) n:=by
 rw[m7 h];rfl
theorem aDV{q n:Int}{l:List Dr}{i:Nat}(h:i<l.length):Kj q (l.drop i) n=if (nth l i).pow<0∨8589934592<(nth l i).pow then none else Kj q (l.drop (i+1)) (IntKind.i64.wrap (n+IntKind.i64.wrap ((nth l i).pow*q))):=by
 rw[m7 h];rfl
end Go.Proofs.YtcelmhaoipbdiaaGreat
