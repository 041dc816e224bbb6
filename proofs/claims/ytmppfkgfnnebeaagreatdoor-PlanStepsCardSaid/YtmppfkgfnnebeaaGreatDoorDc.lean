/- Parts of the proof. -/
import Derived.Test.YtmppfkgfnnebeaaGreatDoorDb
namespace Go.Proofs.YtmppfkgfnnebeaaGreatDoor
set_option linter.all false
open Go.Vm
attribute [local simp] lZ l7 lX lY
noncomputable def Jm(g:Int)(u:Un)(s:Us):List Ch:=(rH u s g).map fun q=>⟨q,pow u q,iO s q⟩
noncomputable def jA(us:List Un)(ss:List Us)(g:Int):List (List Ch):=List.zipWith (Jm g) us ss
theorem ar3(us:List Un)(ss:List Us)(g:Int):List.zipWith (Jk g) us ss=(jA us ss g).map Tq:=by
 rw[jA,List.map_zipWith];congr 1;funext u s;simp[Jm,Jk,Tq]
theorem Tu{u:Un}{g:Int}(h:gN u g=0):(fm u g).length≤200:=by
 unfold gN at h;split at h
 ·contradiction
 ·split at h
  ·cases h
  ·split at h
   ·cases h
   ·omega
theorem ar4{u:Un}{s:Us}{g:Int}(h:gN u g=0):(rH u s g).length≤202:=by
 have h1:=Tu h;have h2:=Fo (ox (fm u g++[0,s.cn]));have h3:=(BH (fm u g++[0,s.cn])).length_eq;have h4:(rH u s g).length≤(dedup (ox (fm u g++[0,s.cn]))).length:=u5 _ _;simp at h3;omega
structure MY(us:List Un)(ss:List Us)(g:Int):Prop where
 kH:us.length≤6
 len:us.length=ss.length
 valid:DJ us ss
 aCb:1≤g∧g≤1073741824
 aen:DK us g
theorem Tv{us:List Un}{ss:List Us}{g release:Int}(h:rJ us ss g release=0):MY us ss g∧(0≤release∧release≤1073741824)∧release≤200*g:=by
 unfold rJ at h;split at h
 ·cases h
 ·split at h
  ·cases h
  ·split at h
   ·cases h
   ·split at h
    ·cases h
    ·split at h
     ·cases h
     ·split at h
      ·cases h
      ·rename_i h1 h2 h3 h4 h5 h6
       exact⟨⟨by omega,g7 h2,g7 h3,by omega,g7 h6⟩,by omega,by omega⟩
theorem Tw{us:List Un}{ss:List Us}{g:Int}(h:us.length=ss.length):(jA us ss g).length=us.length:=by simp[jA,h]
theorem yQ{α β:Type}[Inhabited α][Inhabited β]{f:α→β}{l:List α}{i:Nat}(h:i<l.length):nth (l.map f) i=f (nth l i):=by
 simp[nth,h]
theorem FQ{α β γ:Type}[Inhabited α][Inhabited β][Inhabited γ]{f:α→β→γ}{a:List α}{b:List β}{i:Nat}(h1:i<a.length)(h2:i<b.length):nth (List.zipWith f a b) i=f (nth a i) (nth b i):=by
 simp[nth,List.getElem?_zipWith,h1,h2]
theorem sX{α:Type}[Inhabited α]{l:List α}{i:Nat}(h:i<l.length):nth l i∈l:=fW (bf h)
theorem aeo{us:List Un}{ss:List Us}{g:Int}(h:MY us ss g):Lb (jA us ss g):=by
 have hl:=h.len;have e:∀i,i<(jA us ss g).length→nth (jA us ss g) i=Jm g (nth us i) (nth ss i):=fun i hi=>by
  rw[Tw hl]at hi;exact FQ hi (by omega)
 have c:∀i j,i<(jA us ss g).length→j<(nth (jA us ss g) i).length→∃q,j8 (nth us i) (nth ss i) q∧nth (nth (jA us ss g) i) j=⟨q,pow (nth us i) q,iO (nth ss i) q⟩:=fun i j hi hj=>by
  rw[e i hi]at hj ⊢;have vC:j<(rH (nth us i) (nth ss i) g).length:=by simpa [Jm] using hj
  refine⟨nth (rH (nth us i) (nth ss i) g) j,?_,yQ vC⟩;have:=sX vC;simp only[rH,r9,iD]at this;exact this.2
 refine⟨by rw[Tw hl];exact h.kH,fun i hi=>?_,fun i j hi hj=>?_,fun i j hi hj=>?_,fun i j hi hj=>?_⟩
 ·rw[e i hi]
  rw[Tw hl]at hi;have:=ar4 (s:=nth ss i) (h.aen i hi);simp[Jm];omega
 ·obtain⟨q,h1,h2⟩:=c i j hi hj
  rw[h2];exact MV h1
 ·obtain⟨q,h1,h2⟩:=c i j hi hj
  rw[h2];exact MW
 ·obtain⟨q,h1,h2⟩:=c i j hi hj
  rw[h2];exact To
noncomputable def kM(us:List Un)(ss:List Us)(g release:Int):Int:=if rJ us ss g release≠0 then rJ us ss g release else if nz (jA us ss g) release=none then 9 else 0
noncomputable def ij(us:List Un)(ss:List Us)(g release:Int):List Int:=if rJ us ss g release≠0 then [] else (nz (jA us ss g) release).getD []
theorem aep{LL:List (List Ch)}:∀{l:List Ch} {rest:Int→Part} {left:Int} {out:Part} {p s f:Int},(∀q t e,out=some (q,t,e)→e≤left)→qK rest left l out=some (p,s,f)→f≤left
 |[],rest,left,out,p,s,f,h,he=>h _ _ _ (by simpa [qK] using he)
 |c::cs,rest,left,out,p,s,f,h,he=>by
  unfold qK at he;split at he
  ·exact h _ _ _ he
  ·refine aep (LL:=LL) (fun q t e hq=>?_) he
   unfold c6 at hq;split at hq
   ·exact h _ _ _ hq
   ·split at hq
    ·cases hq;omega
    ·split at hq
     ·cases hq;omega
     ·cases hq;exact h _ _ _ rfl
theorem ar5(us:List Un)(ss:List Us)(g release:Int):∃G',aZ F 232 [kJ us,kn ss,i64 g,i64 release] []=some (.tuple [own (ij us ss g release),i64 (kM us ss g release)],G'):=by
 suffices h:∀Q:V→List aS→Prop,(∀G,Q (.tuple [own (ij us ss g release),i64 (kM us ss g release)]) G)→gA (aZ F) 232 [kJ us,kn ss,i64 g,i64 release] [] Q by
  obtain⟨_,_,h,rfl⟩:=h (fun v _=>v=.tuple [own (ij us ss g release),i64 (kM us ss g release)]) fun _=>rfl;exact⟨_,h⟩
 intro Q hQ;refine gM rfl rfl ?_;have hS:=ar0 us ss g release [];by_cases h0:rJ us ss g release=0
 ·rw[h0,aM rfl,ar3]at hS
  obtain⟨h1,h2,h3⟩:=Tv h0;have hL:=aeo h1;have eL:ij us ss g release=(nz (jA us ss g) release).getD []:=by simp[ij,h0]
  have eE:kM us ss g release=if nz (jA us ss g) release=none then 9 else 0:=by simp[kM,h0]
  rw[eL,eE]at hQ;have FK:=hL.kH;generalize hLL:jA us ss g=LL at *;simp (disch:=omega) [wrap64,Sy,hS];refine go_loop (fun x:List Int×Int×BV=>ap2 (.bm 0 0) (.bm 3 0) (.slice (some 1048) 1 (x.1.map fun n=>[i64 n])) x.2.1 x.1.length (gl 245 LL x.2.2))
   (fun x=>x.1.length≤LL.length∧(0≤x.2.1∧x.2.1≤1073741824)∧(nz (LL.drop x.1.length) x.2.1).map (x.1 ++ ·)=nz LL release∧yP LL x.2.2) (fun x=>LL.length-x.1.length) ([],release,[]) rfl (by simp[gl,sV]) ⟨by simp,by simpa using h2,by simp,fun e he=>by simp at he⟩ ?_
  rintro⟨fs,left,m⟩ ⟨i1,i2,i3,i4⟩;simp only at i1 i2 i3 i4;simp (disch:=omega) [wrap64,ac0,gl];refine bT (fun h4=>?_) (fun h4=>?_)
  ·have h4:fs.length<LL.length:=by omega
   obtain⟨m',hI,vW⟩:=ar2 hL (LL.length-fs.length) fs.length left m rfl i1 i2.1 i2.2 i4;have hp:=hL.pb fs.length left;have hd:LL.drop fs.length=nth LL fs.length::LL.drop (fs.length+1):=sN h4;rw[hd,nz,← hd]at i3;cases hb:jO (LL.drop fs.length) left with
   |none =>
    rw[hb]at hI i3;simp only[mU,jz,gl]at hI;simp only[KC]at i3;rw[←i3]at hQ;simp only[if_true,OJ]at hQ;simp (disch:=omega) [wrap64,hI];exact hQ _
   |some q =>
    obtain⟨p,s,f⟩:=q;rw[hb]at hI i3 hp;have hf:f≤left:=by
     rw[Tt h4]at hb;exact aep (LL:=LL) (fun q t e hq=>by cases hq) hb
    simp only[mU,jz,gl]at hI;simp only[pb]at hp;simp only at i3;simp (disch:=omega) [wrap64,hI];refine bP (fs++[f],left-f,m') (by simp[gl]) ⟨by simp;omega,by simp;omega,?_,vW⟩ (by simp;omega)
    rw[←i3];simp[Function.comp_def]
  ·have e:fs.length=LL.length:=by omega
   rw[e,AV,nz]at i3;simp only[nI,Eb]at i3;rw[←i3]at hQ;simpa using hQ _
 ·rw[ay h0]at hS
  have eL:ij us ss g release=[]:=by simp[ij,h0]
  have eE:kM us ss g release=rJ us ss g release:=by simp[kM,h0]
  rw[eL,eE]at hQ;simp (disch:=omega) [wrap64,Sy,hS,h0];exact hQ _
end Go.Proofs.YtmppfkgfnnebeaaGreatDoor
namespace Go.Proofs.YtmppfkgfnnebeaaGreatDoor
set_option linter.all false
open Go.Vm
def xC(a b:Int×Int):Prop:=b.1<a.1∨(a.1=b.1∧a.2<b.2)
theorem Ax{a b:Int×Int}{p q:List Int}:ko a b p q↔xC a b∨(a.1=b.1∧a.2=b.2∧gH p q<0):=by
 unfold ko xC;split
 ·omega
 ·split<;>omega
theorem ar7{a:Int}{p q:List Int}:gH (a::p) (a::q)=gH p q:=by simp[gH]
theorem ar8{a b:Int}{p q:List Int}(h:b<a):¬gH (a::p) (b::q)<0:=by
 simp only[gH];rw[ay (by omega),aM h]
 omega
def v8:List (List Ch)→List Ch→Prop
 |[],[]=>True
 |l::ls,c::P=>c∈l∧v8 ls P
 |_,_=>False
def sF(P:List Ch):Int:=(P.map Ch.cn).sum
def sP(P:List Ch):Int:=(P.map Ch.jM).sum
def sS(P:List Ch):Int:=(P.map Ch.jN).sum
theorem ar9{LL:List (List Ch)}:∀{P:List Ch},(∀l∈LL,∀c∈l,0≤c.cn)→v8 LL P→0≤sF P:=by
 induction LL with
 |nil=>intro P _ hp;cases P with
  |nil=>simp[sF]
  |cons c P=>exact hp.elim
 |cons l ls ih =>
  intro P h hp;cases P with
  |nil=>exact hp.elim
  |cons c P =>
   have h1:=ih (fun l hl=>h l (by simp[hl])) hp.2
   have h2:=h l (by simp) c hp.1
   simp only[sF,oq,OG]at h1 ⊢;omega
structure Top(LL:List (List Ch))(left:Int)(P:List Ch):Prop where
 DL:v8 LL P
 sum:sF P≤left
 best:∀Q,v8 LL Q→sF Q≤left→¬ko (sP Q,sS Q) (sP P,sS P) (Q.map Ch.cn) (P.map Ch.cn)
structure Jn(ls:List (List Ch))(left:Int)(pre:List Ch)(p s f:Int)(c:Ch)(P:List Ch):Prop where
 mem:c∈pre
 cn:c.cn=f
 DL:v8 ls P
 sum:c.cn+sF P≤left
 jM:c.jM+sP P=p
 jN:c.jN+sS P=s
 rest:nz ls (left-f)=some (P.map Ch.cn)
 best:∀d∈pre,∀Q,v8 ls Q→d.cn+sF Q≤left→¬ko (d.jM+sP Q,d.jN+sS Q) (p,s) (d.cn::Q.map Ch.cn) (c.cn::P.map Ch.cn)
def J(ls:List (List Ch))(left:Int)(pre:List Ch):Part→Prop
 |none=>∀c∈pre,∀Q,v8 ls Q→left<c.cn+sF Q
 |some (p,s,f)=>∃c P,Jn ls left pre p s f c P
theorem aer{ls:List (List Ch)}{left:Int}{pre:List Ch}{out:Part}{l:List Ch}(h:J ls left pre out)(hn:∀c∈l,∀Q,v8 ls Q→left<c.cn+sF Q):J ls left (pre++l) out:=by
 cases out with
 |none =>
  intro c hc Q hQ;rcases ot.1 hc with h1|h1
  ·exact h c h1 Q hQ
  ·exact hn c h1 Q hQ
 |some q =>
  obtain⟨p,s,f⟩:=q;obtain⟨c,P,j⟩:=h;refine⟨c,P,⟨by simp[j.mem],j.cn,j.DL,j.sum,j.jM,j.jN,j.rest,fun d hd Q hQ hs=>?_⟩⟩
  rcases ot.1 hd with h1|h1
  ·exact j.best d h1 Q hQ hs
  ·have:=hn d h1 Q hQ
   omega
def Good(ls:List (List Ch)):Prop:=∀left,0≤left→match jO ls left with
 |none=>∀Q,v8 ls Q→left<sF Q
 |some (p,s,_)=>∃P,Top ls left P∧sP P=p∧sS P=s∧nz ls left=some (P.map Ch.cn)
theorem asd{ls:List (List Ch)}(hg:Good ls){left:Int}{pre:List Ch}{out:Part}{c:Ch}(h:J ls left pre out)(MZ:∀d∈pre,d.cn<c.cn)(hle:c.cn≤left):J ls left (pre++[c]) (c6 (jO ls) left c out):=by
 have hg:=hg (left-c.cn) (by omega)
 unfold c6;cases hb:jO ls (left-c.cn) with
 |none =>
  rw[hb]at hg;exact aer h fun d hd Q hQ=>by
   obtain rfl:=ou.1 hd;have:=hg Q hQ;omega
 |some q =>
  obtain⟨p0,s0,f0⟩:=q;rw[hb]at hg;obtain⟨P0,t,rfl,rfl,e0⟩:=hg;have new:∀d∈[c],∀Q,v8 ls Q→d.cn+sF Q≤left→¬ko (d.jM+sP Q,d.jN+sS Q) (sP P0+c.jM,sS P0+c.jN) (d.cn::Q.map Ch.cn) (c.cn::P0.map Ch.cn):=by
   intro d hd Q hQ hs xE;obtain rfl:=ou.1 hd;refine t.best Q hQ (by omega) ?_
   rw[Ax]at xE ⊢;rw[ar7]at xE;unfold xC at xE ⊢;simp only at xE ⊢;omega
  have ts:=t.sum;cases out with
  |none =>
   simp only;refine⟨c,P0,⟨by simp,rfl,t.DL,by omega,by omega,by omega,e0,fun d hd Q hQ hs=>?_⟩⟩
   rcases ot.1 hd with h1|h1
   ·have:=h d h1 Q hQ;omega
   ·exact new d h1 Q hQ hs
  |some o =>
   obtain⟨p,s,f⟩:=o;obtain⟨c1,P1,j⟩:=h;simp only;split
   ·rename_i xE
    rw[Ax]at xE;have hv:xC (sP P0+c.jM,sS P0+c.jN) (p,s):=by
     rcases xE with h|h
     ·exact h
     ·simp[gH]at h
    unfold xC at hv;simp only at hv;refine⟨c,P0,⟨by simp,rfl,t.DL,by omega,by omega,by omega,e0,fun d hd Q hQ hs=>?_⟩⟩
    rcases ot.1 hd with h1|h1
    ·have:=j.best d h1 Q hQ hs
     rw[Ax]at this ⊢;unfold xC at this ⊢;simp only at this ⊢;omega
    ·exact new d h1 Q hQ hs
   ·rename_i xE
    rw[Ax]at xE;unfold xC at xE;simp only at xE;refine⟨c1,P1,⟨by simp[j.mem],j.cn,j.DL,j.sum,j.jM,j.jN,j.rest,fun d hd Q hQ hs=>?_⟩⟩
    rcases ot.1 hd with h1|h1
    ·exact j.best d h1 Q hQ hs
    ·have h2:=new d h1 Q hQ hs
     obtain rfl:=ou.1 h1;have h3:=ar8 (p:=Q.map Ch.cn) (q:=P1.map Ch.cn) (MZ c1 j.mem);rw[Ax]at h2 ⊢;unfold xC at h2 ⊢;simp only at h2 ⊢;omega
theorem aes{ls:List (List Ch)}(hg:Good ls)(h0:∀l∈ls,∀c∈l,0≤c.cn){left:Int}:∀{cs pre:List Ch} {out:Part},(pre++cs).Pairwise (fun a b=>a.cn<b.cn)→J ls left pre out→J ls left (pre++cs) (qK (jO ls) left cs out)
 |[],pre,out,_,h=>by simpa [qK] using h
 |c::cs,pre,out,hp,h=>by
  have zI:=List.pairwise_append.1 hp;unfold qK;split
  ·rename_i bE
   refine aer h fun d hd Q hQ=>?_;have:=ar9 h0 hQ;rcases jB.1 hd with rfl|h1
   ·omega
   ·have:=(te.1 zI.2.1).1 d h1
    omega
  ·have h1:=asd hg h (c:=c) (fun d hd=>zI.2.2 d hd c (by simp)) (by omega)
   have h2:=aes hg h0 (cs:=cs) (pre:=pre++[c]) (by simpa using hp) h1
   simpa using h2
def Asc(LL:List (List Ch)):Prop:=∀l∈LL,l.Pairwise fun a b=>a.cn<b.cn
theorem aeu:∀{LL:List (List Ch)},(∀l∈LL,∀c∈l,0≤c.cn)→Asc LL→Good LL
 |[],_,_=>fun left h0=>by
  simp only[jO];refine⟨[],⟨trivial,by simpa [sF] using h0,fun Q hQ _=>?_⟩,rfl,rfl,rfl⟩
  cases Q with
  |nil=>simp[ko,gH]
  |cons c Q=>exact hQ.elim
 |l::ls,h0,ha=>fun left pf=>by
  have hg:Good ls:=aeu (fun l hl=>h0 l (by simp[hl])) (fun l hl=>ha l (by simp[hl]))
  have hj:=aes hg (fun l hl=>h0 l (by simp[hl])) (left:=left) (cs:=l) (pre:=[]) (out:=none) (by simpa using ha l (by simp)) (fun c hc=>by simp at hc)
  simp only[Eg]at hj;have e:jO (l::ls) left=qK (jO ls) left l none:=rfl;rw[e];cases hb:qK (jO ls) left l none with
  |none =>
   rw[hb]at hj;intro Q hQ;cases Q with
   |nil=>exact hQ.elim
   |cons c Q =>
    have:=hj c hQ.1 Q hQ.2;simpa [sF] using this
  |some q =>
   obtain⟨p,s,f⟩:=q;rw[hb]at hj;obtain⟨c,P,j⟩:=hj;have j4:=j.sum;have j5:=j.jM;have j6:=j.jN;refine⟨c::P,⟨⟨j.mem,j.DL⟩,by simpa [sF] using j4,fun Q hQ hs=>?_⟩,by simpa [sP] using j5,by simpa [sS] using j6,?_⟩
   ·cases Q with
    |nil=>exact hQ.elim
    |cons d Q =>
     have:=j.best d hQ.1 Q hQ.2 (by simpa [sF] using hs)
     have e1:sP (c::P)=p:=by simpa [sP] using j5
     have e2:sS (c::P)=s:=by simpa [sS] using j6
     rw[e1,e2];simpa [sP,sS] using this
   ·rw[nz,e,hb]
    simp only;rw[j.rest];simp[j.cn]
end Go.Proofs.YtmppfkgfnnebeaaGreatDoor
namespace Go.Proofs.YtmppfkgfnnebeaaGreatDoor
set_option linter.all false
open Go.Vm
theorem Tx{x:Int}:∀{l:List Int},x∈dedup l↔x∈l
 |[]=>Iff.rfl
 |[a]=>Iff.rfl
 |a::b::r=>by
  have ih:=Tx (x:=x) (l:=b::r);unfold dedup;by_cases h:a=b
  ·simp only[h,beq_self_eq_true,bG,ih]
   simp
  ·have h':(a==b)=false:=by simpa using h
   simp only[h',eD,jB,ih]
theorem aex:∀{l:List Int},l.Pairwise (· ≤ ·)→(dedup l).Pairwise (· < ·)
 |[],_=>.nil
 |[a],_=>by simp[dedup]
 |a::b::r,h=>by
  obtain⟨h1,h2⟩:=te.1 h;have ih:=aex h2;unfold dedup;by_cases sM:a=b
  ·simp only[sM,beq_self_eq_true,bG]
   exact ih
  ·have h':(a==b)=false:=by simpa using sM
   simp only[h',eD,te];refine⟨fun x hx=>?_,ih⟩;rw[Tx]at hx;have h3:=h1 b (by simp)
   rcases jB.1 hx with rfl|h4
   ·omega
   ·have:=(te.1 h2).1 x h4
    omega
theorem FR{u:Un}{s:Us}{g q:Int}:q∈rH u s g↔(q∈fm u g∨q=0∨q=s.cn)∧j8 u s q:=by
 simp only[rH,r9,Tx,(BH _).mem_iff,iD,ot,jB,Kq,or_false]
theorem asf{u:Un}{s:Us}{g:Int}:(rH u s g).Pairwise (· < ·):=(aex (Q2 _)).filter _
def mV(g:Int):List Un→List Us→List Int→Prop
 |u::us,s::ss,q::F=>q∈rH u s g∧mV g us ss F
 |[],[],[]=>True
 |_,_,_=>False
noncomputable def iX:List Un→List Int→Int
 |u::us,q::F=>pow u q+iX us F
 |_,_=>0
def iY:List Us→List Int→Int
 |s::ss,q::F=>iO s q+iY ss F
 |_,_=>0
noncomputable def wa:List Un→List Us→List Int→List Ch
 |u::us,s::ss,q::F=>⟨q,pow u q,iO s q⟩::wa us ss F
 |_,_,_=>[]
theorem DM{g:Int}:∀{us:List Un} {ss:List Us} {F:List Int},mV g us ss F→F.length=us.length∧F.length=ss.length
 |[],[],[],_=>⟨rfl,rfl⟩
 |_::_,_::_,_::_,h=>by have:=DM h.2;simp;omega
 |[],_::_,_,h=>h.elim
 |[],[],_::_,h=>h.elim
 |_::_,[],_,h=>h.elim
 |_::_,_::_,[],h=>h.elim
theorem M0{g:Int}:∀{us:List Un} {ss:List Us} {F:List Int},mV g us ss F→v8 (jA us ss g) (wa us ss F)∧(wa us ss F).map Ch.cn=F∧sF (wa us ss F)=F.sum∧sP (wa us ss F)=iX us F∧sS (wa us ss F)=iY ss F
 |[],[],[],_=>⟨trivial,rfl,rfl,rfl,rfl⟩
 |u::us,s::ss,q::F,h=>by
  obtain⟨h1,h2,h3,h4,h5⟩:=M0 h.2;refine⟨⟨kP.2 ⟨q,h.1,rfl⟩,h1⟩,by simp[wa,h2],?_,?_,?_⟩
  ·simp only[sF]at h3 ⊢;simp[wa,h3]
  ·simp only[sP]at h4 ⊢;simp[wa,iX,h4]
  ·simp only[sS]at h5 ⊢;simp[wa,iY,h5]
 |[],_::_,_,h=>h.elim
 |[],[],_::_,h=>h.elim
 |_::_,[],_,h=>h.elim
 |_::_,_::_,[],h=>h.elim
theorem aey{g:Int}:∀{us:List Un} {ss:List Us} {P:List Ch},us.length=ss.length→v8 (jA us ss g) P→mV g us ss (P.map Ch.cn)∧P=wa us ss (P.map Ch.cn)
 |[],[],[],_,_=>⟨trivial,rfl⟩
 |[],[],_::_,_,h=>h.elim
 |[],_::_,_,h,_=>by simp at h
 |_::_,[],_,h,_=>by simp at h
 |_::_,_::_,[],_,h=>h.elim
 |u::us,s::ss,c::P,hl,h=>by
  obtain⟨h1,h2⟩:=aey (by simpa using hl) h.2
  obtain⟨q,hq,rfl⟩:=kP.1 h.1;exact⟨⟨hq,h1⟩,by simp[wa];exact h2⟩
structure DN(g:Int)(us:List Un)(ss:List Us)(left:Int)(F:List Int):Prop where
 mV:mV g us ss F
 sum:F.sum≤left
 best:∀E,Go.Proofs.YtmppfkgfnnebeaaGreatDoor.mV g us ss E→E.sum≤left→¬ko (iX us E,iY ss E) (iX us F,iY ss F) E F
theorem aez{g:Int}:∀{us:List Un} {ss:List Us},Asc (jA us ss g)
 |[],_=>fun l hl=>by simp[jA]at hl
 |_::_,[]=>fun l hl=>by simp[jA]at hl
 |u::us,s::ss=>fun l hl=>by
  rcases jB.1 hl with rfl|h
  ·exact V1.2 asf
  ·exact aez (us:=us) (ss:=ss) l h
theorem aeA{us:List Un}{ss:List Us}{g left:Int}(hs:MY us ss g)(h0:0≤left) :
  match nz (jA us ss g) left with
  |none=>∀F,mV g us ss F→left<F.sum
  |some F=>DN g us ss left F:=by
 have hL:=aeo hs;have hn:∀l∈jA us ss g,∀c∈l,0≤c.cn:=fun l hl c hc=>(hL.all l hl c hc).1;have hg:=aeu hn aez;have CU:=hg left h0;cases hb:jO (jA us ss g) left with
 |none =>
  rw[hb]at CU;have e:nz (jA us ss g) left=none:=by
   cases hl:jA us ss g with
   |nil=>rw[hl]at hb;simp[jO]at hb
   |cons l ls=>rw[nz,← hl,hb]
  rw[e];intro F hF;obtain⟨h1,_,h3,_⟩:=M0 hF;have:=CU _ h1;omega
 |some q =>
  obtain⟨p,s,f⟩:=q;rw[hb]at CU;obtain⟨P,t,_,_,e⟩:=CU;rw[e];obtain⟨h1,h2⟩:=aey hs.len t.DL;obtain⟨_,_,h3,h4,h5⟩:=M0 h1;rw[←h2]at h3 h4 h5;refine⟨h1,by have:=t.sum;omega,fun E hE hs=>?_⟩
  obtain⟨e1,e2,e3,e4,e5⟩:=M0 hE;have:=t.best _ e1 (by omega)
  rwa [e2,e4,e5,h4,h5]at this
theorem aeB:∀{p q:List Int},p.length=q.length→(gH p q<0∨gH q p<0∨p=q)
 |[],[],_=>.inr (.inr rfl)
 |[],_::_,h=>by simp at h
 |_::_,[],h=>by simp at h
 |a::p,b::q,h=>by
  have ih:=aeB (p:=p) (q:=q) (by simpa using h)
  simp only[gH];rcases GK a b with h1|h1|h1
  ·left;simp[h1]
  ·subst h1
   simp only[GJ,if_false];rcases ih with h2|h2|h2
   ·exact .inl h2
   ·exact .inr (.inl h2)
   ·exact .inr (.inr (by rw[h2]))
  ·right;left;simp[h1]
theorem asg{a b:Int×Int}{p q:List Int}(h:p.length=q.length):ko a b p q∨ko b a q p∨(a=b∧p=q):=by
 rw[Ax,Ax];unfold xC;obtain⟨a1,a2⟩:=a;obtain⟨b1,b2⟩:=b;rcases aeB h with h1|h1|h1
 ·simp only[Prod.mk.injEq];omega
 ·simp only[Prod.mk.injEq];omega
 ·simp only[Prod.mk.injEq,h1,and_true];omega
theorem DN.unique{g:Int}{us:List Un}{ss:List Us}{left:Int}{F E:List Int}(h:DN g us ss left F)(h':DN g us ss left E):F=E:=by
 have l1:=DM h.mV;have l2:=DM h'.mV;rcases asg (a:=(iX us F,iY ss F)) (b:=(iX us E,iY ss E)) (p:=F) (q:=E) (by omega) with h1|h1|h1
 ·exact absurd h1 (h'.best F h.mV h.sum)
 ·exact absurd h1 (h.best E h'.mV h'.sum)
 ·exact h1.2
theorem aeC{g:Int}:∀{us:List Un} {ss:List Us} {F:List Int} {a b c:Int},mV g us ss F→Au us ss F (a,b,c)=some (a+F.sum,b+iX us F,c+iY ss F)
 |[],[],[],a,b,c,_=>by simp[Au,iX,iY]
 |u::us,s::ss,q::F,a,b,c,h=>by
  rw[Au,aM (FR.1 h.1).2,aeC h.2];simp only[OG,iX,iY,Option.some.injEq,Prod.mk.injEq];omega
 |[],_::_,_,_,_,_,h=>h.elim
 |[],[],_::_,_,_,_,h=>h.elim
 |_::_,[],_,_,_,_,h=>h.elim
 |_::_,_::_,[],_,_,_,h=>h.elim
theorem aeD{g:Int}{us:List Un}{ss:List Us}{F:List Int}(h:mV g us ss F):DI us ss F=some (F.sum,iX us F,iY ss F):=by
 have l:=DM h;rw[DI,aM (by omega),aeC h]
 simp
end Go.Proofs.YtmppfkgfnnebeaaGreatDoor
namespace Go.Proofs.YtmppfkgfnnebeaaGreatDoor
set_option linter.all false
open Go.Vm
theorem aeE:∀{p q:List Int},gH p q<0→¬gH q p<0
 |[],[],h=>by simp[gH]at h
 |[],_::_,_=>by simp[gH]
 |_::_,[],h=>by simp[gH]at h
 |a::p,b::q,h=>by
  have ih:=aeE (p:=p) (q:=q);simp only[gH]at h ⊢;rcases GK a b with h1|h1|h1
  ·rw[ay (by omega),aM h1];omega
  ·subst h1
   simp only[GJ,if_false]at h ⊢;exact ih h
  ·rw[ay (by omega),aM h1]at h;omega
theorem aeF:∀{p q r:List Int},gH p q<0→gH q r<0→gH p r<0
 |[],[],_,h,_=>by simp[gH]at h
 |_::_,[],_,h,_=>by simp[gH]at h
 |_,_::_,[],_,h=>by simp[gH]at h
 |[],_::_,_::_,_,_=>by simp[gH]
 |a::p,b::q,c::r,h,h'=>by
  have ih:=aeF (p:=p) (q:=q) (r:=r);simp only[gH]at h h' ⊢;rcases GK a b with h1|h1|h1
  ·rcases GK b c with h2|h2|h2
   ·rw[aM (by omega)];omega
   ·rw[aM (by omega)];omega
   ·rw[ay (by omega),aM h2]at h';omega
  ·subst h1
   simp only[GJ,if_false]at h;rcases GK a c with h2|h2|h2
   ·rw[aM h2];omega
   ·subst h2
    simp only[GJ,if_false]at h' ⊢;exact ih h h'
   ·rw[ay (by omega),aM h2]at h';omega
  ·rw[ay (by omega),aM h1]at h;omega
theorem ash{a b:Int×Int}{p q:List Int}(h:ko a b p q):¬ko b a q p:=by
 rw[Ax]at h ⊢;unfold xC at h ⊢;have:=aeE (p:=p) (q:=q);rcases h with h | ⟨h1,h2,h3⟩
 ·omega
 ·have:=this h3;omega
theorem asi{a b c:Int×Int}{p q r:List Int}(h:ko a b p q)(h':ko b c q r):ko a c p r:=by
 rw[Ax]at h h' ⊢;unfold xC at h h' ⊢;have:=aeF (p:=p) (q:=q) (r:=r);rcases h with h | ⟨h1,h2,h3⟩
 ·omega
 ·rcases h' with h' | ⟨h4,h5,h6⟩
  ·omega
  ·have:=this h3 h6
   omega
theorem aeG{a:Int×Int}{p:List Int}:¬ko a a p p:=fun h=>ash h h
end Go.Proofs.YtmppfkgfnnebeaaGreatDoor
namespace Go.Proofs.YtmppfkgfnnebeaaGreatDoor
set_option linter.all false
open Go.Vm
attribute [local simp] lZ l7 lX lY
noncomputable def BW(us:List Un)(ss:List Us)(g:Int):Int :=
 if 6<us.length then 10 else if us.length≠ss.length then 3 else if ¬DJ us ss then 3 else if g<1∨1073741824<g then 1 else 0
theorem asj(us:List Un)(ss:List Us)(g:Int)(G:List aS):aZ F 178 [kJ us,kn ss,i64 g] G=some (i64 (BW us ss g),G) :=
 bM rfl rfl (by
  generalize hE:BW us ss g=E;unfold BW at hE;simp +contextual (disch:=omega) [-getElem?_pos,wrap64,ab4];refine bT (fun h1=>?_) (fun h1=>gY (fun h2=>?_) (fun h2=>?_))
  ·rw[aM (by omega)]at hE
   exact hE
  ·simp[-List.length_eq_zero_iff,-Int.natCast_eq_zero]at h2
   rw[ay (by omega),aM (by omega)]at hE
   exact hE
  ·simp[-List.length_eq_zero_iff,-Int.natCast_eq_zero]at h2
   have hl:us.length=ss.length:=by omega
   rw[ay (by omega),ay (by omega)]at hE
   refine go_loop (fun i:Nat=>apb (kn ss) g (kJ us) us.length i G) (fun i=>i≤us.length∧∀j,j<i→fc (nth us j) (nth ss j)) (fun i=>us.length-i) 0 rfl (by simp) ⟨by omega,by omega⟩ ?_
   rintro i ⟨hi,hv⟩;simp +contextual (disch:=omega) [-getElem?_pos,wrap64,ab3];refine bT (fun h3=>?_) (fun h3=>?_)
   ·have h3:i<us.length:=by omega
    by_cases h4:fc (nth us i) (nth ss i)
    ·simp +contextual (disch:=omega) [-getElem?_pos,wrap64,bf (l:=us),bf (l:=ss),yM,h4]
     refine bP (i+1) (by simp) ⟨by omega,fun j hj=>?_⟩ (by omega)
     rcases cF j i with h5|h5
     ·exact hv j h5
     ·rwa [show j=i by omega]
    ·rw[aM (fun h=>h4 (h i h3))]at hE
     simp +contextual (disch:=omega) [-getElem?_pos,wrap64,bf (l:=us),bf (l:=ss),yM,h4];exact hE
   ·obtain rfl:i=us.length:=by omega
    rw[ay (fun h=>h hv)]at hE;refine gY (fun h5=>?_) (fun h5=>?_)
    ·simp[-List.length_eq_zero_iff,-Int.natCast_eq_zero]at h5
     rw[aM (by omega)]at hE
     exact hE
    ·simp[-List.length_eq_zero_iff,-Int.natCast_eq_zero]at h5
     rw[ay (by omega)]at hE
     exact hE)
noncomputable def uL(u:Un)(s:Us)(g:Int):List Int:=([0,s.cn]++fm u g).filter fun q=>decide (j8 u s q)
theorem aeH{u:Un}{s:Us}{g q:Int}:q∈uL u s g↔q∈rH u s g:=by
 rw[FR];simp only[uL,r9,iD,ot,jB,Kq,or_false];constructor
 ·rintro⟨(h|h)|h,h2⟩
  ·exact⟨.inr (.inl h),h2⟩
  ·exact⟨.inr (.inr h),h2⟩
  ·exact⟨.inl h,h2⟩
 ·rintro⟨h|h|h,h2⟩
  ·exact⟨.inr h,h2⟩
  ·exact⟨.inl (.inl h),h2⟩
  ·exact⟨.inl (.inr h),h2⟩
theorem asl{u:Un}{s:Us}{g:Int}(h:gN u g=0):(uL u s g).length≤202:=by
 have h1:=Tu h;have:(uL u s g).length≤([0,s.cn]++fm u g).length:=u5 _ _;simp at this;omega
theorem asm{u:Un}{s:Us}(hv:fc u s)(g:Int)(G:List aS):aZ F 207 [un u,us s,i64 g] G =
  some (if gN u g=0 then .tuple [.slice (some 0) 1 ((uL u s g).map fun n=>[i64 n]),i64 0] else .tuple [.slice (some 0) 1 [],i64 (gN u g)],G) :=
 bM rfl rfl (by
  by_cases he:gN u g=0
  ·have hlen:=Tu he
   have hf:oH u g=fm u g:=by simp[oH,he]
   have hc:uL u s g=(0::s.cn::fm u g).filter fun q=>decide (j8 u s q):=rfl;rw[aM he,hc];generalize hL:(0::s.cn::fm u g)=L;have BX:L.length=(fm u g).length+2:=by rw[←hL];simp
   have hLm:[i64 0]::[i64 s.cn]::(fm u g).map (fun n=>[i64 n])=L.map fun n=>[i64 n]:=by rw[←hL];rfl
   simp (disch:=omega) [-getElem?_pos,wrap64,Sq,FH,he,hf,hLm];refine go_loop (fun i:Nat=>apG (.slice (some 1039) 1 (((L.take i).filter fun q=>decide (j8 u s q)).map fun n=>[i64 n])) (.slice (some 1024) 1 (L.map fun n=>[i64 n])) L.length i u.row s.row L.length ((L.take i).filter fun q=>decide (j8 u s q)).length G)
    (fun i=>i≤L.length) (fun i=>L.length-i) 0 rfl (by simp[BX];omega) (by omega) ?_
   intro i hi;have Qm:((L.take i).filter fun q=>decide (j8 u s q)).length≤i:=iQ (u5 _ _) (by simp;omega)
   simp (disch:=omega) [-getElem?_pos,wrap64,acz];refine bT (fun h1=>?_) (fun h1=>?_)
   ·have h1:i<L.length:=by omega
    have hM:=SY u s (nth L i) [];by_cases h3:j8 u s (nth L i)
    ·have h4:decide (fc u s∧km u s (nth L i))=true:=jf h3
     rw[h4]at hM;have h5:(L.take (i+1)).filter (fun q=>decide (j8 u s q))=(L.take i).filter (fun q=>decide (j8 u s q))++[nth L i]:=by
      rw[kq h1,uZ];simp[h3]
     simp (disch:=omega) [-getElem?_pos,wrap64,ei h1,hM];exact bP (i+1) (by rw[h5];simp) (by omega) (by omega)
    ·have h4:decide (fc u s∧km u s (nth L i))=false:=decide_eq_false h3
     rw[h4]at hM;have h5:(L.take (i+1)).filter (fun q=>decide (j8 u s q))=(L.take i).filter (fun q=>decide (j8 u s q)):=by
      rw[kq h1,uZ];simp[h3]
     simp (disch:=omega) [-getElem?_pos,wrap64,ei h1,hM];exact bP (i+1) (by rw[h5];simp) (by omega) (by omega)
   ·obtain rfl:i=L.length:=by omega
    rw[na]
  ·rw[ay he]
   have hf:oH u g=[]:=by simp[oH,he]
   simp (disch:=omega) [-getElem?_pos,wrap64,Sq,FH,he,hf])
noncomputable abbrev M1(g:Int)(u:Un)(s:Us):List V:=[.slice none 1 ((uL u s g).map fun n=>[i64 n])]
noncomputable def BY(us:List Un)(g:Int):Int:=if DK us g then 0 else 10
theorem aso{us:List Un}{ss:List Us}(hl:us.length=ss.length)(hn:us.length≤1000)(hv:DJ us ss)(g:Int)(G:List aS):aZ F 179 [kJ us,kn ss,i64 g] G =
  some (.tuple [.slice (some 0) 1 (if BY us g=0 then List.zipWith (M1 g) us ss else []),i64 (BY us g)],G) :=
 bM rfl rfl (by
  generalize hE:BY us g=E;generalize hW:V.tuple [.slice (some 0) 1 (if E=0 then List.zipWith (M1 g) us ss else []),i64 E]=W
  unfold BY at hE;simp (disch:=omega) [-getElem?_pos,wrap64,ab6];refine go_loop (fun i:Nat=>apd (kn ss) g (.slice (some 1035) 1 (List.zipWith (M1 g) (us.take i) (ss.take i))) (kJ us) us.length i i G)
   (fun i=>i≤us.length∧∀j,j<i→gN (nth us j) g=0) (fun i=>us.length-i) 0 rfl (by simp) ⟨by omega,by omega⟩ ?_
  rintro i ⟨hi,hf⟩;simp (disch:=omega) [-getElem?_pos,wrap64,ab5];refine bT (fun h3=>?_) (fun h3=>?_)
  ·have h3:i<us.length:=by omega
   have gx:i<ss.length:=by omega
   have hC:=asm (hv i h3) g [];by_cases h4:gN (nth us i) g=0
   ·rw[aM h4]at hC
    simp (disch:=omega) [-getElem?_pos,wrap64,bf (l:=us),bf (l:=ss),hC];refine bP (i+1) ?_ ⟨by omega,fun j hj=>?_⟩ (by omega)
    ·rw[Av h3 gx];simp
    rcases cF j i with h5|h5
    ·exact hf j h5
    ·rwa [show j=i by omega]
   ·rw[ay h4]at hC
    rw[ay (fun h=>h4 (h i h3))]at hE;subst hE;simp (disch:=omega) [-getElem?_pos,wrap64,bf (l:=us),bf (l:=ss),hC,h4];exact hW
  ·obtain rfl:i=us.length:=by omega
   rw[aM (show DK us g from hf)]at hE;subst hE;rw[na,mo (by omega)]
   simp[←hW])
end Go.Proofs.YtmppfkgfnnebeaaGreatDoor
namespace Go.Proofs.YtmppfkgfnnebeaaGreatDoor
set_option linter.all false
open Go.Vm
def Vd:List Nat→List Nat→Prop
 |[],[]=>True
 |n::ns,d::a=>d<n∧Vd ns a
 |_,_=>False
def rM:List Nat→Nat
 |[]=>1
 |n::ns=>n*rM ns
def rk:List Nat→List Nat→Nat
 |_::ns,d::a=>d*rM ns+rk ns a
 |_,_=>0
def inc:List Nat→List Nat→Option (List Nat)
 |n::ns,d::a=>match inc ns a with
  |some b=>some (d::b)
  |none=>if d+1<n then some ((d+1)::List.replicate a.length 0) else none
 |_,_=>none
theorem FT:∀{ns a:List Nat},Vd ns a→a.length=ns.length
 |[],[],_=>rfl
 |_::_,_::_,h=>by simp[FT h.2]
 |[],_::_,h=>h.elim
 |_::_,[],h=>h.elim
theorem Ay:∀{ns a:List Nat},Vd ns a→∀i,i<ns.length→nth a i<nth ns i
 |n::ns,d::a,h,i,hi=>by
  cases i with
  |zero=>exact h.1
  |succ i=>exact Ay h.2 i (by simpa using hi)
theorem FU:∀{ns a:List Nat},Vd ns a→rk ns a<rM ns
 |[],[],_=>by simp[rk,rM]
 |n::ns,d::a,h=>by
  have ih:=FU h.2;have h1:=tf (rM ns) (show d+1≤n from h.1);simp only[rk,rM];rw[oS]at h1;omega
 |[],_::_,h=>h.elim
 |_::_,[],h=>h.elim
theorem aeI:∀{ns a b:List Nat},Vd ns a→Vd ns b→rk ns a=rk ns b→a=b
 |[],[],[],_,_,_=>rfl
 |n::ns,d::a,e::b,ha,hb,h=>by
  have h1:=FU ha.2;have h2:=FU hb.2;simp only[rk]at h;have hde:d=e:=by
   rcases G5 d e with h3|h3|h3
   ·have:=tf (rM ns) (show d+1≤e from h3)
    rw[oS]at this;omega
   ·exact h3
   ·have:=tf (rM ns) (show e+1≤d from h3)
    rw[oS]at this;omega
  subst hde;rw[aeI ha.2 hb.2 (by omega)]
 |[],_::_,_,h,_,_=>h.elim
 |[],[],_::_,_,h,_=>h.elim
 |_::_,[],_,h,_,_=>h.elim
 |_::_,_::_,[],_,h,_=>h.elim
theorem Ty:∀{ns:List Nat} {k:Nat},rk ns (List.replicate k 0)=0
 |[],k=>by cases k<;>rfl
 |_::ns,0=>rfl
 |_::ns,k+1=>by simp[AY,rk,Ty]
theorem Tz:∀{ns:List Nat},(∀n∈ns,0<n)→Vd ns (List.replicate ns.length 0)
 |[],_=>trivial
 |n::ns,h=>⟨h n (by simp),Tz fun m hm=>h m (by simp[hm])⟩
theorem aeJ:∀{ns a:List Nat},Vd ns a→match inc ns a with
  |none=>rk ns a+1=rM ns
  |some b=>Vd ns b∧rk ns b=rk ns a+1
 |[],[],_=>by simp[inc,rk,rM]
 |n::ns,d::a,h=>by
  have ih:=aeJ h.2;have hl:=FT h.2;unfold inc;cases hi:inc ns a with
  |some b =>
   rw[hi]at ih;simp only at ih ⊢;exact⟨⟨h.1,ih.1⟩,by simp only[rk];omega⟩
  |none =>
   rw[hi]at ih;simp only at ih ⊢;have hp:∀m∈ns,0<m:=fun m hm=>by
    obtain⟨i,hi,rfl⟩:=FP hm;have:=Ay h.2 i hi;omega
   by_cases hd:d+1<n
   ·simp only[hd,if_true]
    refine⟨⟨hd,by rw[hl];exact Tz hp⟩,?_⟩
    simp only[rk,Ty];rw[oS];omega
   ·simp only[hd,if_false]
    have:n=d+1:=by have:=h.1;omega
    subst this;simp only[rk,rM];rw[oS];omega
 |[],_::_,h=>h.elim
 |_::_,[],h=>h.elim
theorem TA:∀{ns a:List Nat},Vd ns a→(∀j,j<ns.length→nth a j+1=nth ns j)→inc ns a=none
 |[],[],_,_=>rfl
 |n::ns,d::a,h,hm=>by
  have ih:=TA h.2 fun j hj=>hm (j+1) (by simpa using hj)
  have h0:=hm 0 (by simp)
  simp only[inc,ih];have:¬d+1<n:=by simp[nth]at h0;omega
  simp[this]
 |[],_::_,h,_=>h.elim
 |_::_,[],h,_=>h.elim
theorem aeK:∀{ns a:List Nat} {i:Nat},Vd ns a→i<ns.length→(∀j,i<j→j<ns.length→nth a j+1=nth ns j)→nth a i+1<nth ns i →
  inc ns a=some (a.take i++(nth a i+1)::List.replicate (ns.length-1-i) 0)
 |n::ns,d::a,0,h,_,hm,bE=>by
  have ih:=TA h.2 fun j hj=>hm (j+1) (by omega) (by simpa using hj)
  have hl:=FT h.2;have:d+1<n:=by simpa [nth] using bE
  simp only[inc,ih,this,if_true];simp[nth,hl]
 |n::ns,d::a,i+1,h,hi,hm,bE=>by
  have pT:i<ns.length:=by simpa using hi
  have ih:=aeK h.2 pT (fun j h1 h2=>hm (j+1) (by omega) (by simpa using h2)) bE
  simp only[inc,ih];simp[nth];omega
 |[],[],_,_,hi,_,_=>by simp at hi
 |[],_::_,_,h,_,_,_=>h.elim
 |_::_,[],_,h,_,_,_=>h.elim
def en(R:List (List Int))(a:List Nat):List Int:=List.zipWith (fun o k=>nth o k) R a
def Jp:List (List Int)→List Int→Prop
 |[],[]=>True
 |o::R,q::F=>q∈o∧Jp R F
 |_,_=>False
theorem TB:∀{R:List (List Int)} {a:List Nat},Vd (R.map List.length) a→Jp R (en R a)
 |[],[],_=>trivial
 |o::R,d::a,h=>⟨sX h.1,TB h.2⟩
 |[],_::_,h=>h.elim
 |_::_,[],h=>h.elim
theorem TC:∀{R:List (List Int)} {F:List Int},Jp R F→∃a,Vd (R.map List.length) a∧en R a=F
 |[],[],_=>⟨[],trivial,rfl⟩
 |o::R,q::F,h=>by
  obtain⟨a,h1,h2⟩:=TC h.2;obtain⟨d,h3,h4⟩:=FP h.1;exact⟨d::a,⟨h3,h1⟩,by simp only[en,List.zipWith_cons_cons]at h2 ⊢;rw[h2,h4]⟩
 |[],_::_,h=>h.elim
 |_::_,[],h=>h.elim
noncomputable def nY(us:List Un)(ss:List Us)(g:Int):List (List Int):=List.zipWith (fun u s=>uL u s g) us ss
theorem Jq{g:Int}:∀{us:List Un} {ss:List Us} {F:List Int},us.length=ss.length→(Jp (nY us ss g) F↔mV g us ss F)
 |[],[],[],_=>Iff.rfl
 |[],[],_::_,_=>Iff.rfl
 |[],_::_,_,h=>by simp at h
 |_::_,[],_,h=>by simp at h
 |_::_,_::_,[],_=>Iff.rfl
 |u::us,s::ss,q::F,h=>by
  have ih:=Jq (g:=g) (us:=us) (ss:=ss) (F:=F) (by simpa using h)
  show(q∈uL u s g∧Jp (nY us ss g) F)↔(q∈rH u s g∧mV g us ss F);rw[aeH,ih]
theorem asq{u:Un}{s:Us}{g:Int}(hv:fc u s):0<(uL u s g).length:=by
 have:s.cn∈uL u s g:=by
  rw[aeH,FR];refine⟨.inr (.inr rfl),hv,?_⟩;obtain⟨hc,h1,h2⟩:=hv;unfold km;split
  ·rename_i h;rw[h];intro h3;omega
  ·rename_i h
   rcases h2 with h2 | ⟨h2,h3⟩
   ·exact absurd h2 h
   ·exact⟨h2,fun h4=>h h4.1,h3⟩
 exact List.length_pos_of_mem this
def Kn(us:List Un)(ss:List Us)(R:List (List Int))(release:Int)(r:Nat):Option (List Int)→Prop
 |none=>∀b,Vd (R.map List.length) b→rk (R.map List.length) b<r→release<(en R b).sum
 |some F=>(∃b,Vd (R.map List.length) b∧en R b=F∧F.sum≤release) ∧
   ∀b,Vd (R.map List.length) b→rk (R.map List.length) b<r→(en R b).sum≤release→¬ko (iX us (en R b),iY ss (en R b)) (iX us F,iY ss F) (en R b) F
noncomputable def wb(us:List Un)(ss:List Us)(release:Int)(P:List Int):Option (List Int)→Option (List Int)
 |none=>if P.sum≤release then some P else none
 |some F=>if P.sum≤release then (if ko (iX us P,iY ss P) (iX us F,iY ss F) P F then some P else some F) else some F
theorem asr{us:List Un}{ss:List Us}{R:List (List Int)}{release:Int}{a:List Nat}(ha:Vd (R.map List.length) a){best:Option (List Int)}(h:Kn us ss R release (rk (R.map List.length) a) best) :
  Kn us ss R release (rk (R.map List.length) a+1) (wb us ss release (en R a) best):=by
 have split:∀b,Vd (R.map List.length) b→rk (R.map List.length) b<rk (R.map List.length) a+1→rk (R.map List.length) b<rk (R.map List.length) a∨b=a:=fun b hb bE=>by
  rcases cF (rk (R.map List.length) b) (rk (R.map List.length) a) with h1|h1
  ·exact .inl h1
  ·exact .inr (aeI hb ha (by omega))
 cases best with
 |none =>
  unfold wb;by_cases hs:(en R a).sum≤release
  ·simp only[hs,if_true]
   refine⟨⟨a,ha,rfl,hs⟩,fun b hb bE xF=>?_⟩;rcases split b hb bE with h1|rfl
   ·have:=h b hb h1;omega
   ·exact aeG
  ·simp only[hs,if_false]
   intro b hb bE;rcases split b hb bE with h1|rfl
   ·exact h b hb h1
   ·omega
 |some F =>
  obtain⟨h1,h2⟩:=h;unfold wb;by_cases hs:(en R a).sum≤release
  ·simp only[hs,if_true]
   by_cases hb:ko (iX us (en R a),iY ss (en R a)) (iX us F,iY ss F) (en R a) F
   ·simp only[hb,if_true]
    refine⟨⟨a,ha,rfl,hs⟩,fun b oB bE xF=>?_⟩;rcases split b oB bE with h3|rfl
    ·exact fun h4=>h2 b oB h3 xF (asi h4 hb)
    ·exact aeG
   ·simp only[hb,if_false]
    refine⟨h1,fun b oB bE xF=>?_⟩;rcases split b oB bE with h3|rfl
    ·exact h2 b oB h3 xF
    ·exact hb
  ·simp only[hs,if_false]
   refine⟨h1,fun b oB bE xF=>?_⟩;rcases split b oB bE with h3|rfl
   ·exact h2 b oB h3 xF
   ·omega
theorem aeL{us:List Un}{ss:List Us}{g release:Int}(hl:us.length=ss.length){best:Option (List Int)}(h:Kn us ss (nY us ss g) release (rM ((nY us ss g).map List.length)) best) :
  match best with
  |none=>∀F,mV g us ss F→release<F.sum
  |some F=>DN g us ss release F:=by
 cases best with
 |none =>
  intro F hF;obtain⟨b,hb,rfl⟩:=TC ((Jq hl).2 hF);exact h b hb (FU hb)
 |some F =>
  obtain⟨⟨b,hb,e,hs⟩,h2⟩:=h;refine⟨?_,hs,fun E hE hEs=>?_⟩
  ·rw[←e];exact(Jq hl).1 (TB hb)
  ·obtain⟨c,hc,rfl⟩:=TC ((Jq hl).2 hE)
   exact h2 c hc (FU hc) hEs
end Go.Proofs.YtmppfkgfnnebeaaGreatDoor
namespace Go.Proofs.YtmppfkgfnnebeaaGreatDoor
set_option linter.all false
open Go.Vm
attribute [local simp] lZ l7 lX lY
abbrev Jr(R:List (List Int)):V:=.slice none 1 (R.map fun o=>[ints o])
def rb(best:Option (List Int)):V:=match best with
 |none=>.cb
 |some F=>ints F
noncomputable def rv(us:List Un)(ss:List Us)(best:Option (List Int)):List V:=match best with
 |none=>[i64 0,i64 0]
 |some F=>[i64 (iX us F),i64 (iY ss F)]
def iZ(a:List Nat):List V:=dD (a.map fun d:Nat=>(d:Int))
def ob(o:Option (List V)):List (Nat×List V):=match o with
 |none=>[]
 |some c=>[(56,c)]
@[simp] theorem TD{best:Option (List Int)}{d:Nat}:(rb best).cq d=false:=by cases best<;>rfl
@[simp] theorem aCd{us:List Un}{ss:List Us}{best:Option (List Int)}{d:Nat}:((rv us ss best).all fun v => !v.cA d)=true:=by cases best<;>rfl
@[simp] theorem aCe{a:List Nat}{d:Nat}:((iZ a).all fun v => !v.cA d)=true:=Ym
@[simp] theorem aCf{o:Option (List V)}:xn 56 (ob o)=[]:=by cases o<;>rfl
@[simp] theorem aCg:ob none=[]:=rfl
@[simp] theorem aCh{c:List V}:ob (some c)=[(56,c)]:=rfl
@[simp] theorem aCi{o:Option (List V)}:kp (Go.Vm.look 56 (ob o)) 56 []=ob o:=by cases o<;>rfl
theorem FV{a:List Nat}{i:Nat}(h:i<a.length):(iZ a)[i]?=some (i64 ((nth a i:Nat):Int)):=by
 have:=l8 (l:=a.map fun d:Nat=>(d:Int)) (i:=i) (by simpa using h)
 rw[yQ h]at this;exact this
@[simp] theorem aCj{a:List Nat}:(iZ a).length=a.length:=by simp[iZ]
theorem Js{a:List Nat}{i d:Nat}:(iZ a).set i (i64 (d:Int))=iZ (a.set i d):=by
 simp[iZ,OD]
theorem ast{α:Type}[Inhabited α]{l m:List α}{i:Nat}(h:l.length≤i):nth (l++m) i=nth m (i-l.length):=by
 simp[nth,qg h]
theorem BZ{α:Type}[Inhabited α]{l:List α}{i k:Nat}(h:i<k):nth (l.take k) i=nth l i:=by
 simp[nth,iP,h]
theorem asu{n i:Nat}:nth (List.replicate n (0:Int)) i=0:=by
 simp only[nth,List.getD,OB];split<;>rfl
theorem aeM{l:List Int}{B:Int}(h:∀x∈l,0≤x∧x≤B):∀j:Nat,j≤l.length→0≤(l.take j).sum∧(l.take j).sum≤B*j
 |0,_=>by simp
 |j+1,hj=>by
  have ih:=aeM h j (by omega)
  have:=h _ (sX (show j<l.length from hj));rw[kq hj];simp only[Ks,OG,List.sum_nil];have e:B*((j+1:Nat):Int)=B*j+B:=by
   rw[show((j+1:Nat):Int)=(j:Int)+1 from rfl,Kb,Int.mul_one]
  omega
theorem aeN{R:List (List Int)}{a:List Nat}(h:a.length=R.length):(en R a).length=R.length:=by simp[en,h]
theorem asv{R:List (List Int)}{a:List Nat}{us:List Un}{ss:List Us}{release:Int}{fd:Bool}{best:Option (List Int)}{G:List aS}{K:cE}(hn:R.length≤6)(ha:Vd (R.map List.length) a)
  (hb:∀o∈R,∀q∈o,0≤q∧q≤1073741824)
  (hK:∀z,K (.exit 2) ⟨[(0,kJ us),(1,kn ss),(3,i64 release),(11,Jr R),(13,.bool fd),(14,rb best),(15,.bJ 15 0),(16,.bR 53 1 R.length),(17,.bR 56 1 R.length),(18,i64 (en R a).sum),(57,.bR 53 1 R.length),(58,i64 R.length),(59,i64 R.length),(60,z)],
   [(15,rv us ss best),(53,iZ a),(56,dD (en R a))],[],G⟩) :
  go (aZ F) abq (abr (kJ us) (kn ss) release (Jr R) fd (rb best) R.length R.length 0 R.length R.length 0 (rv us ss best) (iZ a) (dD (List.replicate R.length 0)) G) K:=by
 have sI:=FT ha;simp only[wF]at sI;have my:=aeN sI;have hpm:∀x∈en R a,0≤x∧x≤1073741824:=by
  intro x hx;obtain⟨i,hi,rfl⟩:=FP hx;rw[my]at hi;have h1:nth (en R a) i=nth (nth R i) (nth a i):=FQ hi (by omega)
  have h2:=Ay ha i (by simpa using hi)
  rw[yQ hi]at h2;rw[h1];exact hb _ (sX hi) _ (sX h2)
 refine go_loop (fun j:Nat=>abr (kJ us) (kn ss) release (Jr R) fd (rb best) R.length R.length ((en R a).take j).sum R.length R.length j (rv us ss best) (iZ a) (dD ((en R a).take j++List.replicate (R.length-j) 0)) G)
  (fun j=>j≤R.length) (fun j=>R.length-j) 0 rfl (by simp) (by omega) ?_
 intro j hj;have hs:=aeM hpm j (by omega)
 simp (disch:=omega) [-getElem?_pos,wrap64,abp];refine bT (fun h1=>?_) (fun h1=>?_)
 ·have h1:j<R.length:=by omega
  have h2:j<a.length:=by omega
  have h3:=Ay ha j (by simpa using h1)
  rw[yQ h1]at h3;have h4:nth (en R a) j=nth (nth R j) (nth a j):=FQ h1 h2;have h5:=hpm _ (sX (show j<(en R a).length by omega))
  have h6:(dD ((en R a).take j++List.replicate (R.length-j) 0))[j]?=some (i64 0):=by
   rw[l8 (by simp;omega),ast (by simp;omega),asu]
  have e2:((en R a).take j++List.replicate (R.length-j) (0:Int)).set j (nth (nth R j) (nth a j))=(en R a).take (j+1)++List.replicate (R.length-(j+1)) 0:=by
   rw[Cq _ _ (by simp;omega),kq (show j<(en R a).length by omega),h4]
   have:j-((en R a).take j).length=0:=by simp;omega
   rw[this];obtain⟨m,hm⟩:∃m,R.length-j=m+1:=⟨R.length-j-1,by omega⟩
   rw[hm,AY,Kr,show R.length-(j+1)=m by omega]
   simp
  have e3:((en R a).take (j+1)).sum=((en R a).take j).sum+nth (nth R j) (nth a j):=by
   rw[kq (show j<(en R a).length by omega),h4];simp
  have h7:(dD ((en R a).take (j+1)++List.replicate (R.length-(j+1)) 0))[j]?=some (i64 (nth (nth R j) (nth a j))):=by
   rw[l8 (by simp;omega),rI (by simp;omega),BZ (by omega),h4]
  rw[h4]at h5;simp (disch:=omega) [-getElem?_pos,wrap64,FV h2,bf (l:=R),ei h3,h6,e2,h7];exact bP (j+1) (by simp[e3]) (by omega) (by omega)
 ·obtain rfl:j=R.length:=by omega
  rw[mo (by omega)]
  simpa using hK _
noncomputable abbrev FW(us:List Un)(ss:List Us)(R:List (List Int))(release:Int)(fd:Bool)(best:Option (List Int))(x:Int)(a:List Nat)(o:Option (List V))(G:List aS):St :=
 ⟨[(0,kJ us),(1,kn ss),(3,i64 release),(11,Jr R),(13,.bool fd),(14,rb best),(15,.bJ 15 0),(16,.bR 53 1 R.length),(26,i64 x)],(15,rv us ss best)::(53,iZ a)::ob o,[],G⟩
theorem M3{R:List (List Int)}{a:List Nat}{us:List Un}{ss:List Us}{release:Int}{fd:Bool}{best:Option (List Int)}{o:Option (List V)}{G:List aS}{K:cE}(hn:R.length≤6)(ha:Vd (R.map List.length) a)(hlen:∀o∈R,o.length≤1000)
  (h0:∀z b,inc (R.map List.length) a=none→K (.exit 4) { FW us ss R release fd best (-1) b o G with env:=(FW us ss R release fd best (-1) b o G).env++[(124,z)] })
  (h1:∀z (i:Nat),i<R.length→nth a i+1<nth (R.map List.length) i→inc (R.map List.length) a=some (a.take i++(nth a i+1)::List.replicate (R.length-1-i) 0) →
   K (.exit 4) { FW us ss R release fd best i (a.take (i+1)++List.replicate (R.length-1-i) 0) o G with env:=(FW us ss R release fd best i a o G).env++[(124,z)] }) :
  go (aZ F) abt (FW us ss R release fd best (R.length-1) a o G) K:=by
 have sI:=FT ha;simp only[wF]at sI;refine go_loop (fun k:Nat=>FW us ss R release fd best (k-1) (a.take k++List.replicate (R.length-k) 0) o G)
  (fun k=>k≤R.length∧∀j,k≤j→j<R.length→nth a j+1=nth (R.map List.length) j) (fun k=>k) R.length rfl (by rw[mo (by omega)];simp) ⟨by omega,by omega⟩ ?_
 rintro k ⟨hk,hm⟩;by_cases z7:k=0
 ·subst z7
  simp +contextual (disch:=omega) [-getElem?_pos,wrap64,aeO];exact h0 _ _ (TA ha fun j hj=>hm j (by omega) (by simpa using hj))
 ·have e1:0≤(k:Int)-1:=by omega
  have e2:((k:Int)-1).toNat=k-1:=by omega
  have h3:k-1<R.length:=by omega
  have h4:(iZ (a.take k++List.replicate (R.length-k) 0))[k-1]?=some (i64 ((nth a (k-1):Nat):Int)):=by
   rw[FV (by simp;omega),rI (by simp;omega),BZ (by omega)]
  have h5:=hlen _ (sX h3);have h6:=Ay ha (k-1) (by simpa using h3)
  rw[yQ h3]at h6;have h7:(iZ (a.take k++List.replicate (R.length-k) 0)).set (k-1) (i64 0)=iZ (a.take (k-1)++List.replicate (R.length-(k-1)) 0):=by
   have:=Js (a:=a.take k++List.replicate (R.length-k) 0) (i:=k-1) (d:=0);rw[show(i64 ((0:Nat):Int))=i64 0 from rfl]at this;rw[this];congr 1;obtain⟨m,rfl⟩:∃m,k=m+1:=⟨k-1,by omega⟩
   rw[kq (show m<a.length by omega)]
   have hl:(a.take m).length=m:=by simp;omega
   rw[uW,sa,Cq _ _ (by omega),hl,sb]
   simp only[V2,Kr];rw[show R.length-m=(R.length-(m+1))+1 by omega,AY]
  have h8:nth (R.map List.length) (k-1)=(nth R (k-1)).length:=yQ h3;simp +contextual (disch:=omega) [-getElem?_pos,wrap64,aeO,e1,e2,h4,bf (l:=R)];refine bT (fun h9=>?_) (fun h9=>?_)
  ·have gx:k≤(iZ (a.take k++List.replicate (R.length-k) 0)).length:=by simp;omega
   simp +contextual (disch:=omega) [-getElem?_pos,wrap64,gx,h7];refine bP (k-1) ?_ ⟨by omega,fun j a1 a2=>?_⟩ (by omega)
   ·rw[show(((k-1:Nat)):Int)=(k:Int)-1 by omega]
    simp
   ·rcases cF j k with lu|lu
    ·obtain rfl:j=k-1:=by omega
     rw[h8];omega
    ·exact hm j lu a2
  ·have bE:nth a (k-1)+1<nth (R.map List.length) (k-1):=by rw[h8];omega
   have hi:=aeK (i:=k-1) ha (by simpa using h3) (fun j a1 a2=>hm j (by omega) (by simpa using a2)) bE
   simp only[wF]at hi;have:=h1 (.bool (decide (((nth a (k-1):Nat):Int)=((nth R (k-1)).length:Int)-1))) (k-1) h3 bE hi;rw[show(((k-1:Nat)):Int)=(k:Int)-1 by omega,show k-1+1=k by omega,show R.length-1-(k-1)=R.length-k by omega]at this
   exact this
theorem aeP{us:List Un}{ss:List Us}{g:Int}(h:us.length=ss.length):(nY us ss g).length=us.length:=by simp[nY,h]
theorem asw(us:List Un)(ss:List Us)(g:Int):List.zipWith (M1 g) us ss=(nY us ss g).map fun o=>[ints o]:=by
 rw[nY,List.map_zipWith]
theorem asx{us:List Un}{ss:List Us}{g:Int}(h:MY us ss g){o:List Int}(ho:o∈nY us ss g):(0<o.length∧o.length≤1000)∧∀q∈o,0≤q∧q≤1073741824:=by
 have hl:=h.len;obtain⟨i,hi,rfl⟩:=FP ho;rw[aeP hl]at hi;have e:nth (nY us ss g) i=uL (nth us i) (nth ss i) g:=FQ hi (by omega)
 rw[e];have h1:=asl (s:=nth ss i) (h.aen i hi);refine⟨⟨asq (h.valid i hi),by omega⟩,fun q hq=>?_⟩
 simp only[uL,r9,iD]at hq;exact MV hq.2
noncomputable abbrev M4(us:List Un)(ss:List Us)(R:List (List Int))(release:Int)(best:Option (List Int))(a:List Nat)(o:Option (List V))(G:List aS):St :=
 ⟨[(0,kJ us),(1,kn ss),(3,i64 release),(11,Jr R),(13,.bool best.isSome),(14,rb best),(15,.bJ 15 0),(16,.bR 53 1 R.length)],(15,rv us ss best)::(53,iZ a)::ob o,[],G⟩
theorem asy{R:List (List Int)}{us:List Un}{ss:List Us}{release:Int}{G:List aS}{K:cE}(hn:R.length≤6)(xe:us.length≤6)(hRl:R.length=us.length)(wc:∀o∈R,(0<o.length∧o.length≤1000)∧∀q∈o,0≤q∧q≤1073741824)
  (pX:∀a,Vd (R.map List.length) a→DI us ss (en R a)=some ((en R a).sum,iX us (en R a),iY ss (en R a)))
  (hz:Vd (R.map List.length) (List.replicate R.length 0))
  (hK:∀best b o z,Kn us ss R release (rM (R.map List.length)) best→K (.exit 0) { M4 us ss R release best b o G with env:=(M4 us ss R release best b o G).env++[(26,i64 (-1)),(131,z)] }) :
  go (aZ F) abv (M4 us ss R release none (List.replicate R.length 0) none G) K:=by
 refine go_loop (fun x:List Nat×Option (List Int)×Option (List V)=>M4 us ss R release x.2.1 x.1 x.2.2 G) (fun x=>Vd (R.map List.length) x.1∧Kn us ss R release (rk (R.map List.length) x.1) x.2.1)
  (fun x=>rM (R.map List.length)-rk (R.map List.length) x.1) (List.replicate R.length 0,none,none) rfl (by simp[rb]) ⟨hz,by simp only[Ty];intro b _ h;omega⟩ ?_
 rintro⟨a,best,o⟩ ⟨ha,jQ⟩;simp only at ha jQ;have hrk:=FU ha;have sI:=FT ha;simp only[wF]at sI;have my:=aeN sI;have ia:=aeJ ha;replace jQ:=asr ha jQ;have hva:=pX a ha;have hV:=aej us ss (en R a) (by omega) []
 rw[hva]at hV;simp only[FN]at hV;have TE:(List.replicate R.length [V.int .i64 0]).flatten=dD (List.replicate R.length 0):=by
  rw[dD];simp
 simp (disch:=omega) [-getElem?_pos,wrap64,abu,TE];refine asv hn ha (fun o ho=>(wc o ho).2) fun z=>?_;simp (disch:=omega) [-getElem?_pos,wrap64,wrap64];refine bT (fun h1=>?_) (fun h1=>?_)
 ·have TF:kc [none] (chunks 1 (dD (en R a)) 0 R.length)=some ((en R a).map fun n=>[V.int .i64 n]):=LR (by omega)
  cases best with
  |none =>
   have zN:wb us ss release (en R a) none=some (en R a):=by simp[wb,h1]
   rw[zN]at jQ;simp (disch:=omega) [-getElem?_pos,wrap64,TF,hV,rb,rv];refine M3 (best:=some (en R a)) (o:=none) (fd:=true) hn ha (fun o ho=>(wc o ho).1.2) (fun z b he=>?_) (fun z i hi bE he=>?_)
   ·rw[he]at ia
    simp only at ia;rw[ia]at jQ;simp (disch:=omega) [-getElem?_pos,wrap64,rb,rv];exact hK _ b none _ jQ
   ·rw[he]at ia
    simp only at ia;rw[←ia.2]at jQ;have q1:(iZ (a.take (i+1)++List.replicate (R.length-1-i) 0))[i]?=some (i64 ((nth a i:Nat):Int)):=by
     rw[FV (by simp;omega),rI (by simp;omega),BZ (by omega)]
    have q2:=Ay ha i (by simpa using hi)
    rw[yQ hi]at q2;have q3:=(wc _ (sX hi)).1.2;have q7:¬(i:Int)<0:=by omega
    have q4:i<a.length:=by omega
    have q5:(iZ (a.take (i+1)++List.replicate (R.length-1-i) 0)).set i (i64 (((nth a i:Nat):Int)+1))=iZ (a.take i++(nth a i+1)::List.replicate (R.length-1-i) 0):=by
     have:=Js (a:=a.take (i+1)++List.replicate (R.length-1-i) 0) (i:=i) (d:=nth a i+1);rw[show(i64 ((nth a i+1:Nat):Int))=i64 (((nth a i:Nat):Int)+1) from rfl]at this;rw[this,kq q4,uW,Cq _ _ (by simp;omega)]
     have:(a.take i).length=i:=by simp;omega
     rw[this,sb];rfl
    have q6:i<(iZ (a.take (i+1)++List.replicate (R.length-1-i) 0)).length:=by simp;omega
    simp (disch:=omega) [-getElem?_pos,wrap64,q1,q5,q6,q7,rb,rv];exact bP (a.take i++(nth a i+1)::List.replicate (R.length-1-i) 0,some (en R a),none) (by simp[rb,rv]) ⟨ia.1,jQ⟩ (by simp only;omega)
  |some E =>
   by_cases Aw:ko (iX us (en R a),iY ss (en R a)) (iX us E,iY ss E) (en R a) E
   ·have zN:wb us ss release (en R a) (some E)=some (en R a):=by simp[wb,h1,Aw]
    rw[zN]at jQ;have hB:=adV (iX us (en R a),iY ss (en R a)) (iX us E,iY ss E) (en R a) E (by omega) []
    rw[jf Aw]at hB;simp (disch:=omega) [-getElem?_pos,wrap64,TF,hV,rb,rv,hB];refine M3 (best:=some (en R a)) (o:=none) (fd:=true) hn ha (fun o ho=>(wc o ho).1.2) (fun z b he=>?_) (fun z i hi bE he=>?_)
    ·rw[he]at ia
     simp only at ia;rw[ia]at jQ;simp (disch:=omega) [-getElem?_pos,wrap64,rb,rv];exact hK _ b none _ jQ
    ·rw[he]at ia
     simp only at ia;rw[←ia.2]at jQ;have q1:(iZ (a.take (i+1)++List.replicate (R.length-1-i) 0))[i]?=some (i64 ((nth a i:Nat):Int)):=by
      rw[FV (by simp;omega),rI (by simp;omega),BZ (by omega)]
     have q2:=Ay ha i (by simpa using hi)
     rw[yQ hi]at q2;have q3:=(wc _ (sX hi)).1.2;have q7:¬(i:Int)<0:=by omega
     have q4:i<a.length:=by omega
     have q5:(iZ (a.take (i+1)++List.replicate (R.length-1-i) 0)).set i (i64 (((nth a i:Nat):Int)+1))=iZ (a.take i++(nth a i+1)::List.replicate (R.length-1-i) 0):=by
      have:=Js (a:=a.take (i+1)++List.replicate (R.length-1-i) 0) (i:=i) (d:=nth a i+1);rw[show(i64 ((nth a i+1:Nat):Int))=i64 (((nth a i:Nat):Int)+1) from rfl]at this;rw[this,kq q4,uW,Cq _ _ (by simp;omega)]
      have:(a.take i).length=i:=by simp;omega
      rw[this,sb];rfl
     have q6:i<(iZ (a.take (i+1)++List.replicate (R.length-1-i) 0)).length:=by simp;omega
     simp (disch:=omega) [-getElem?_pos,wrap64,q1,q5,q6,q7,rb,rv];exact bP (a.take i++(nth a i+1)::List.replicate (R.length-1-i) 0,some (en R a),none) (by simp[rb,rv]) ⟨ia.1,jQ⟩ (by simp only;omega)
   ·have zN:wb us ss release (en R a) (some E)=some E:=by simp[wb,h1,Aw]
    rw[zN]at jQ;have hB:=adV (iX us (en R a),iY ss (en R a)) (iX us E,iY ss E) (en R a) E (by omega) []
    rw[decide_eq_false Aw]at hB;simp (disch:=omega) [-getElem?_pos,wrap64,TF,hV,rb,rv,hB];refine M3 (best:=some E) (o:=none) (fd:=true) hn ha (fun o ho=>(wc o ho).1.2) (fun z b he=>?_) (fun z i hi bE he=>?_)
    ·rw[he]at ia
     simp only at ia;rw[ia]at jQ;simp (disch:=omega) [-getElem?_pos,wrap64,rb,rv];exact hK _ b none _ jQ
    ·rw[he]at ia
     simp only at ia;rw[←ia.2]at jQ;have q1:(iZ (a.take (i+1)++List.replicate (R.length-1-i) 0))[i]?=some (i64 ((nth a i:Nat):Int)):=by
      rw[FV (by simp;omega),rI (by simp;omega),BZ (by omega)]
     have q2:=Ay ha i (by simpa using hi)
     rw[yQ hi]at q2;have q3:=(wc _ (sX hi)).1.2;have q7:¬(i:Int)<0:=by omega
     have q4:i<a.length:=by omega
     have q5:(iZ (a.take (i+1)++List.replicate (R.length-1-i) 0)).set i (i64 (((nth a i:Nat):Int)+1))=iZ (a.take i++(nth a i+1)::List.replicate (R.length-1-i) 0):=by
      have:=Js (a:=a.take (i+1)++List.replicate (R.length-1-i) 0) (i:=i) (d:=nth a i+1);rw[show(i64 ((nth a i+1:Nat):Int))=i64 (((nth a i:Nat):Int)+1) from rfl]at this;rw[this,kq q4,uW,Cq _ _ (by simp;omega)]
      have:(a.take i).length=i:=by simp;omega
      rw[this,sb];rfl
     have q6:i<(iZ (a.take (i+1)++List.replicate (R.length-1-i) 0)).length:=by simp;omega
     simp (disch:=omega) [-getElem?_pos,wrap64,q1,q5,q6,q7,rb,rv];exact bP (a.take i++(nth a i+1)::List.replicate (R.length-1-i) 0,some E,none) (by simp[rb,rv]) ⟨ia.1,jQ⟩ (by simp only;omega)
 ·have zN:wb us ss release (en R a) best=best:=by
   cases best with
   |none=>simp[wb,h1]
   |some F=>simp[wb,h1]
  rw[zN]at jQ;refine M3 (best:=best) (o:=(some (dD (en R a)))) (fd:=best.isSome) hn ha (fun o ho=>(wc o ho).1.2) (fun z b he=>?_) (fun z i hi bE he=>?_)
  ·rw[he]at ia
   simp only at ia;rw[ia]at jQ;simp (disch:=omega) [-getElem?_pos,wrap64,TD];exact hK _ b (some (dD (en R a))) _ jQ
  ·rw[he]at ia
   simp only at ia;rw[←ia.2]at jQ;have q1:(iZ (a.take (i+1)++List.replicate (R.length-1-i) 0))[i]?=some (i64 ((nth a i:Nat):Int)):=by
    rw[FV (by simp;omega),rI (by simp;omega),BZ (by omega)]
   have q2:=Ay ha i (by simpa using hi)
   rw[yQ hi]at q2;have q3:=(wc _ (sX hi)).1.2;have q7:¬(i:Int)<0:=by omega
   have q4:i<a.length:=by omega
   have q5:(iZ (a.take (i+1)++List.replicate (R.length-1-i) 0)).set i (i64 (((nth a i:Nat):Int)+1))=iZ (a.take i++(nth a i+1)::List.replicate (R.length-1-i) 0):=by
    have:=Js (a:=a.take (i+1)++List.replicate (R.length-1-i) 0) (i:=i) (d:=nth a i+1);rw[show(i64 ((nth a i+1:Nat):Int))=i64 (((nth a i:Nat):Int)+1) from rfl]at this;rw[this,kq q4,uW,Cq _ _ (by simp;omega)]
    have:(a.take i).length=i:=by simp;omega
    rw[this,sb];rfl
   have q6:i<(iZ (a.take (i+1)++List.replicate (R.length-1-i) 0)).length:=by simp;omega
   simp (disch:=omega) [-getElem?_pos,wrap64,q1,q5,q6,q7,TD];exact bP (a.take i++(nth a i+1)::List.replicate (R.length-1-i) 0,best,(some (dD (en R a)))) (by simp[TD]) ⟨ia.1,jQ⟩ (by simp only;omega)
theorem asA(us:List Un)(ss:List Us)(g release:Int)(G:List aS):∃t,aZ F 143 [kJ us,kn ss,i64 g,i64 release] G=some (.tuple [.slice t 1 ((ij us ss g release).map fun n=>[i64 n]),i64 (kM us ss g release)],G):=by
 suffices h:∀Q:V→Prop,(∀t,Q (.tuple [.slice t 1 ((ij us ss g release).map fun n=>[i64 n]),i64 (kM us ss g release)]))→gA (aZ F) 143 [kJ us,kn ss,i64 g,i64 release] G fun v G'=>Q v∧G'=G by
  obtain⟨_,_,h,⟨t,rfl⟩,rfl⟩:=h (fun v=>∃t,v=.tuple [.slice t 1 ((ij us ss g release).map fun n=>[i64 n]),i64 (kM us ss g release)]) fun t=>⟨t,rfl⟩;exact⟨t,h⟩
 intro Q hQ;refine gM rfl rfl ?_;have Jt:=asj us ss g [];by_cases hw:BW us ss g=0
 ·obtain⟨w1,w2,w3,w4⟩:us.length≤6∧us.length=ss.length∧DJ us ss∧(1≤g∧g≤1073741824):=by
   unfold BW at hw;split at hw
   ·cases hw
   ·split at hw
    ·cases hw
    ·split at hw
     ·cases hw
     ·split at hw
      ·cases hw
      ·rename_i a1 a2 a3 a4
       exact⟨by omega,g7 a2,g7 a3,by omega⟩
  have qT:rJ us ss g release=if g<1∨1073741824<g∨release<0∨1073741824<release then 1 else if 200*g<release then 10 else if ¬DK us g then 10 else 0:=by
   unfold rJ;rw[ay (by omega),ay (fun h=>h w2),ay (fun h=>h w3)]
  by_cases hr:release<0∨1073741824<release
  ·rw[aM (by omega)]at qT
   have eL:ij us ss g release=[]:=by simp[ij,qT]
   have eE:kM us ss g release=1:=by simp[kM,qT]
   rw[eL,eE]at hQ;have h8:(!decide (0≤release) || !decide (release≤1073741824))=true:=by simp;omega
   simp (disch:=omega) [wrap64,FC,Jt,hw,c7,h8];exact hQ _
  ·rw[ay (by omega)]at qT
   have h8:(!decide (0≤release) || !decide (release≤1073741824))=false:=by simp;omega
   by_cases h9:200*g<release
   ·rw[aM h9]at qT
    have eL:ij us ss g release=[]:=by simp[ij,qT]
    have eE:kM us ss g release=10:=by simp[kM,qT]
    rw[eL,eE]at hQ;simp (disch:=omega) [wrap64,FC,Jt,hw,c7,h8,h9];exact hQ _
   ·rw[ay h9]at qT
    have hA:=aso w2 (by omega) w3 g []
    by_cases hF:DK us g
    ·rw[ay (fun h=>h hF)]at qT
     have hE:BY us g=0:=by simp[BY,hF]
     rw[hE,aM rfl,asw]at hA;have h0:=(Tv qT).1;have DP:=aeA h0 (left:=release) (by omega)
     have eL:ij us ss g release=(nz (jA us ss g) release).getD []:=by simp[ij,qT]
     have eE:kM us ss g release=if nz (jA us ss g) release=none then 9 else 0:=by simp[kM,qT]
     have hRl:=aeP (g:=g) w2;have wc:=fun o (ho:o∈nY us ss g)=>asx h0 ho;have pX:∀a,Vd ((nY us ss g).map List.length) a→DI us ss (en (nY us ss g) a)=some ((en (nY us ss g) a).sum,iX us (en (nY us ss g) a),iY ss (en (nY us ss g) a)):=fun a ha=>aeD ((Jq w2).1 (TB ha));have asB:Kn us ss (nY us ss g) release (rM ((nY us ss g).map List.length)) none→∀F,mV g us ss F→release<F.sum:=aeL (g:=g) w2;have asC:∀F,Kn us ss (nY us ss g) release (rM ((nY us ss g).map List.length)) (some F)→DN g us ss release F:=fun F=>aeL (g:=g) w2;generalize hR:nY us ss g=R at *
     have hz:Vd (R.map List.length) (List.replicate R.length 0):=by
      have:=Tz (ns:=R.map List.length) fun n hn=>by
       obtain⟨o,ho,rfl⟩:=kP.1 hn;exact(wc o ho).1.1
      simpa using this
     simp (disch:=omega) [wrap64,FC,Jt,hw,c7,h8,h9,hA];have TE:List.replicate R.length (V.int .i64 0)=iZ (List.replicate R.length 0):=by simp[iZ,dD]
     rw[TE];refine asy (us:=us) (ss:=ss) (release:=release) (by omega) w1 hRl wc pX hz fun best b o z jQ=>?_
     cases best with
     |none =>
      have hb:=asB jQ;have jh:nz (jA us ss g) release=none:=by
       cases hc:nz (jA us ss g) release with
       |none=>rfl
       |some F =>
        rw[hc]at DP;have:=hb F DP.mV;have:=DP.sum;omega
      rw[eL,eE,jh]at hQ;simp only[if_true,OJ]at hQ;simp (disch:=omega) [wrap64,rb];exact hQ _
     |some F =>
      have hb:=asC F jQ;have hso:nz (jA us ss g) release=some F:=by
       cases hc:nz (jA us ss g) release with
       |none =>
        rw[hc]at DP;have:=DP F hb.mV;have:=hb.sum;omega
       |some E =>
        rw[hc]at DP;rw[DN.unique DP hb]
      rw[eL,eE,hso]at hQ;simp only[KB,reduceCtorEq,if_false]at hQ;simp (disch:=omega) [wrap64,rb];exact hQ _
    ·rw[aM hF]at qT
     have hE:BY us g=10:=by simp[BY,hF]
     have eL:ij us ss g release=[]:=by simp[ij,qT]
     have eE:kM us ss g release=10:=by simp[kM,qT]
     rw[hE,ay (by omega)]at hA
     rw[eL,eE]at hQ;simp (disch:=omega) [wrap64,FC,Jt,hw,c7,h8,h9,hA];exact hQ _
 ·have qT:rJ us ss g release=BW us ss g:=by
   unfold BW at hw ⊢;unfold rJ;split
   ·rfl
   ·split
    ·rfl
    ·split
     ·rfl
     ·rename_i a1 a2 a3
      simp only[a1,a2,a3,if_false]at hw;split at hw
      ·rw[aM (by omega),aM (by assumption)]
      ·exact absurd rfl hw
  have asE:¬rJ us ss g release=0:=by rw[qT];exact hw
  have eL:ij us ss g release=[]:=by simp[ij,asE]
  have eE:kM us ss g release=BW us ss g:=by simp[kM,qT,hw]
  rw[eL,eE]at hQ;simp (disch:=omega) [wrap64,FC,Jt,hw];exact hQ _
end Go.Proofs.YtmppfkgfnnebeaaGreatDoor
namespace Go.Proofs.YtmppfkgfnnebeaaGreatDoor
set_option linter.all false
open Go.Vm
end Go.Proofs.YtmppfkgfnnebeaaGreatDoor
namespace Go.Proofs.YtmppfkgfnnebeaaGreatDoor
set_option linter.all false
open Go.Vm
attribute [local simp] lZ l7 lX lY
structure Gs where
 o:Int
 j:Bool
 deriving Inhabited,DecidableEq
abbrev Gs.row(s:Gs):List V:=[i64 s.o,.bool s.j]
abbrev gs(s:Gs):V:=.agg s.row
abbrev kr(l:List Gt):V:=.slice none 3 (l.map Gt.row)
abbrev lC(l:List Gs):V:=.slice none 2 (l.map Gs.row)
def we(l:List Rt)(lv:Int):Option (List Pt):=l.foldl (fun a r=>if r.lv≤lv then some r.c else a) none
def sY(l:List Rt)(lv:Int):List Pt:=(we l lv).getD []
theorem Ju{l:List Rt}{r:Rt}{lv:Int}:we (l++[r]) lv=if r.lv≤lv then some r.c else we l lv:=by
 simp[we,List.foldl_append]
def B0:Option (List Pt)→V
 |none=>.cb
 |some c=>iM c
@[simp] theorem aCl{o:Option (List Pt)}{d:Nat}:(B0 o).cA d=false:=by cases o<;>rfl
@[simp] theorem aCm{o:Option (List Pt)}:(B0 o).cL=true:=by cases o<;>rfl
def tT(c:List Pt)(o:Int):Int:=if c.length=0 then 0 else iw c o
structure Gv(g:Gt):Prop where
 cur:∀i,i<g.r.length→gB (nth g.r i).c=0
 top:∀i,i<g.r.length→(nth (nth g.r i).c ((nth g.r i).c.length-1)).y≤1073741824
 bot:∀i,i<g.r.length→(nth (nth g.r i).c 0).x=0∧(nth (nth g.r i).c 0).y=0
 kH:0<g.r.length∧g.r.length≤10
 di:0≤g.di∧g.di≤1000
 move:0≤g.move∧g.move≤1000
theorem aeR{g:Gt}(h:kL g=0):Gv g:=by
 unfold kL at h;split at h
 ·cases h
 split at h
 ·cases h
 split at h
 ·rename_i h3;exact absurd h h3
 split at h
 ·cases h
 rename_i h1 h2 h3 h4;have h3:dH (pz g.r) g.r.length 0=0:=g7 h3;have at_:∀i,i<g.r.length→gB (nth g.r i).c=0∧((nth (nth g.r i).c 0).x=0∧(nth (nth g.r i).c 0).y=0)∧(nth (nth g.r i).c ((nth g.r i).c.length-1)).y≤1073741824:=fun i hi=>by
  have:=sK h3 i (by omega) (by omega)
  unfold pz at this;split at this
  ·cases this
  split at this
  ·cases this
  split at this
  ·rename_i h5;exact absurd this h5
  split at this
  ·cases this
  split at this
  ·cases this
  rename_i h5 h6 h7;exact⟨g7 h5,g7 h6,by omega⟩
 exact⟨fun i hi=>(at_ i hi).1,fun i hi=>(at_ i hi).2.2,fun i hi=>(at_ i hi).2.1,by omega,by omega,by omega⟩
theorem aeS{P:List Pt→Prop}{l:List Rt}{lv:Int}(h:∀i,i<l.length→P (nth l i).c):sY l lv=[]∨P (sY l lv):=by
 have key:∀k,k≤l.length→∀c,we (l.take k) lv=some c→P c:=by
  intro k;induction k with
  |zero=>intro _ c hc;simp[we]at hc
  |succ k ih =>
   intro hk c hc;rw[kq (by omega),Ju]at hc
   split at hc
   ·cases hc;exact h k (by omega)
   ·exact ih (by omega) c hc
 have:=key l.length (bV _);rw[na]at this;unfold sY;cases hc:we l lv with
 |none=>exact .inl rfl
 |some c=>exact .inr (this c hc)
theorem aeT{g:Gt}(hv:Gv g)(lv:Int)(G:List aS):∃t,aZ F 239 [gt g,i64 lv] G=some (.agg [.slice t 2 ((sY g.r lv).map Pt.row),i64 0],G):=by
 suffices h:∀Q:V→List aS→Prop,(∀t,Q (.agg [.slice t 2 ((sY g.r lv).map Pt.row),i64 0]) G)→gA (aZ F) 239 [gt g,i64 lv] G Q by
  obtain⟨_,_,h,t,rfl,rfl⟩:=h (fun v G'=>∃t,v=.agg [.slice t 2 ((sY g.r lv).map Pt.row),i64 0]∧G'=G) fun t=>⟨t,rfl,rfl⟩;exact⟨t,h⟩
 intro Q hQ;obtain⟨l,di,move⟩:=g;have FK:=hv.kH;simp only at FK;refine gM rfl rfl ?_;simp (disch:=omega) [-getElem?_pos,wrap64,ac7];refine go_loop (fun i:Nat=>aqb lv (DH l) l.length i [.cb,i64 0] [B0 (we (l.take i) lv),i64 0] G) (fun i=>i≤l.length) (fun i=>l.length-i) 0 rfl (by simp[we,B0]) (by omega) ?_
 rintro i hi;simp (disch:=omega) [-getElem?_pos,wrap64,ac6];refine bT (fun h3=>?_) (fun h3=>?_)
 ·have h3:i<l.length:=by omega
  by_cases h4:(nth l i).lv≤lv
  ·simp (disch:=omega) [-getElem?_pos,wrap64,bf (l:=l),h3,h4]
   refine bP (i+1) (by simp[kq h3,Ju,h4,B0]) (by omega) (by omega)
  ·simp (disch:=omega) [-getElem?_pos,wrap64,bf (l:=l),h3,h4]
   refine bP (i+1) (by simp[kq h3,Ju,h4,B0]) (by omega) (by omega)
 ·obtain rfl:i=l.length:=by omega
  rw[na];cases hc:we l lv with
  |none =>
   simp only[sY,hc]at hQ;simp (disch:=omega) [-getElem?_pos,wrap64,B0];exact hQ _
  |some c =>
   simp only[sY,hc]at hQ;simp (disch:=omega) [-getElem?_pos,wrap64,B0];exact hQ _
theorem TG{c:List Pt}(h:c=[]∨gB c=0)(w o:Int)(G:List aS):aZ F 241 [.agg [iM c,i64 w],i64 o] G=some (i64 (tT c o),G) :=
 bM rfl rfl (by
  rcases h with rfl|h
  ·simp[wrap64,SC,tT]
  ·have hp:=uK h
   have h1:¬ c.length=0:=by omega
   have h2:¬ (c.length:Int)=0:=by omega
   simp[wrap64,SC,tT,ML (mQ h),h1,h2])
theorem asF{c:List Pt}(h:c=[]∨gB c=0)(w o:Int)(G:List aS):aZ F 238 [.agg [iM c,i64 w],i64 o] G=some (.bool (decide (w≤tT c o)),G) :=
 bM rfl rfl (by
  simp[wrap64,ac5,TG h])
def jn(g:Gt)(o lv:Int):Int:=tT (sY g.r lv) o
theorem asG{g:Gt}(h:Gv g)(o lv:Int)(G:List aS):aZ F 184 [gt g,i64 o,i64 lv] G=some (i64 (jn g o lv),G) :=
 bM rfl rfl (by
  obtain⟨l,di,move⟩:=g;have TH:=h.cur;have FK:=h.kH;simp only at TH FK;generalize hW:jn ⟨l,di,move⟩ o lv=W;unfold jn sY at hW;simp only at hW;simp (disch:=omega) [-getElem?_pos,wrap64,ab8];refine go_loop (fun i:Nat=>apf o lv (tT ((we (l.take i) lv).getD []) o) (DH l) l.length i G) (fun i=>i≤l.length) (fun i=>l.length-i) 0 rfl (by simp[we,tT]) (by omega) ?_
  rintro i hi;simp (disch:=omega) [-getElem?_pos,wrap64,ab7];refine bT (fun h3=>?_) (fun h3=>?_)
  ·have h3:i<l.length:=by omega
   have hp:=uK (TH i h3);have hn:¬ (nth l i).c=[]:=fun e=>by rw[e]at hp;simp at hp
   by_cases h4:(nth l i).lv≤lv
   ·simp (disch:=omega) [-getElem?_pos,wrap64,bf (l:=l),h3,h4,SS,TH]
    refine bP (i+1) (by simp[kq h3,Ju,h4,tT,hn]) (by omega) (by omega)
   ·simp (disch:=omega) [-getElem?_pos,wrap64,bf (l:=l),h3,h4]
    refine bP (i+1) (by simp[kq h3,Ju,h4]) (by omega) (by omega)
  ·obtain rfl:i=l.length:=by omega
   rw[na];simp (disch:=omega) [-getElem?_pos,wrap64,hW])
def n0(g:Gt)(s:Gs):Prop:=0≤s.o∧s.o≤g.di
instance {g:Gt} {s:Gs}:Decidable (n0 g s):=inferInstanceAs (Decidable (_∧_))
def ff(g:Gt)(s:Gs):Bd:=if s.j then ⟨s.o,s.o⟩ else ⟨max (s.o-g.move) 0,min (s.o+g.move) g.di⟩
theorem aeU{g:Gt}{s:Gs}(h:Gv g)(hs:n0 g s)(G:List aS):aZ F 240 [gt g,gs s] G=some (.agg (ff g s).row,G) :=
 bM rfl rfl (by
  obtain⟨l,di,move⟩:=g;obtain⟨o,j⟩:=s;have h1:=h.di;have h2:=h.move;have h3:=hs.1;have h4:=hs.2;simp only at h1 h2 h3 h4;cases j with
  |true=>simp (disch:=omega) [wrap64,SB,ff]
  |false =>
   have e1:max (0:Int) (o-move)=max (o-move) 0:=Y6 _ _;have e2:min di (o+move)=min (o+move) di:=Oq _ _;simp (disch:=omega) [wrap64,SB,ff,e1,e2])
theorem asH{g:Gt}{s:Gs}(h:Gv g)(hs:n0 g s)(G:List aS):aZ F 183 [gt g,gs s] G=some (.agg (ff g s).row,G) :=
 bM rfl rfl (by
  obtain⟨l,di,move⟩:=g;obtain⟨o,j⟩:=s;have h1:=h.di;have h2:=h.move;have h3:=hs.1;have h4:=hs.2;simp only at h1 h2 h3 h4;cases j with
  |true=>simp (disch:=omega) [wrap64,Se,ff]
  |false =>
   have e1:max (0:Int) (o-move)=max (o-move) 0:=Y6 _ _;have e2:min di (o+move)=min (o+move) di:=Oq _ _;simp (disch:=omega) [wrap64,Se,ff,e1,e2])
theorem M5(g:Gt)(s:Gs)(G:List aS):aZ F 254 [gt g,gs s] G=some (.bool (decide (n0 g s)),G) :=
 bM rfl rfl (by
  simp[wrap64,SE,R0,dJ,c7,n0];by_cases h1:0≤s.o<;>by_cases h2:s.o≤g.di<;>simp[h1,h2])
theorem B1(g:Gt)(s:Gs)(G:List aS):aZ F 135 [gt g,gs s] G=some (.bool (decide (n0 g s)),G) :=
 bM rfl rfl (by
  simp[wrap64,SE,R0,dJ,c7,n0];by_cases h1:0≤s.o<;>by_cases h2:s.o≤g.di<;>simp[h1,h2])
def Az(g:List Gt)(s:List Gs):Prop:=∀i,i<g.length→n0 (nth g i) (nth s i)
noncomputable instance {g:List Gt} {s:List Gs}:Decidable (Az g s):=Classical.propDecidable _
noncomputable def aE(g:List Gt)(s:List Gs)(lv:Int):Int :=
 if 8<g.length then 10 else if g.length≠s.length then 3 else if ¬Az g s then 3
 else if dH (fun i=>kL (nth g i)) g.length 0≠0 then dH (fun i=>kL (nth g i)) g.length 0 else if ¬(0≤lv∧lv≤16777216) then 1 else 0
theorem aeV(g:List Gt)(s:List Gs)(lv:Int)(G:List aS):aZ F 249 [kr g,lC s,i64 lv] G=some (i64 (aE g s lv),G) :=
 bM rfl rfl (by
  generalize hW:aE g s lv=W;unfold aE at hW;simp (disch:=omega) [-getElem?_pos,wrap64,SD,R3];refine bT (fun h1=>?_) (fun h1=>gY (fun h2=>?_) (fun h2=>?_))
  ·rw[aM (by omega)]at hW
   exact hW
  ·simp[-List.length_eq_zero_iff,-Int.natCast_eq_zero]at h2
   rw[ay (by omega),aM (by omega)]at hW
   exact hW
  ·simp[-List.length_eq_zero_iff,-Int.natCast_eq_zero]at h2
   rw[ay (by omega),ay (by omega)]at hW
   have hl:g.length=s.length:=by omega
   refine go_loop (fun i:Nat=>aqk (kr g) (lC s) lv (kr g) g.length i G) (fun i=>i≤g.length∧∀j,j<i→n0 (nth g j) (nth s j)) (fun i=>g.length-i) 0 rfl (by simp) ⟨by omega,by omega⟩ ?_
   rintro i ⟨hi,hv⟩;simp (disch:=omega) [-getElem?_pos,wrap64,adg];refine bT (fun h3=>?_) (fun h3=>?_)
   ·have h3:i<g.length:=by omega
    by_cases h4:n0 (nth g i) (nth s i)
    ·simp (disch:=omega) [-getElem?_pos,wrap64,bf (l:=g),bf (l:=s),M5,B1,h4]
     refine bP (i+1) (by simp) ⟨by omega,fun j hj=>?_⟩ (by omega)
     rcases cF j i with h5|h5
     ·exact hv j h5
     ·rwa [show j=i by omega]
    ·rw[aM (fun h=>h4 (h i h3))]at hW
     simp (disch:=omega) [-getElem?_pos,wrap64,bf (l:=g),bf (l:=s),M5,B1,h4];exact hW
   ·obtain rfl:i=g.length:=by omega
    rw[ay (fun h=>h hv)]at hW;refine go_loop (fun i:Nat=>aqm lv (kr g) g.length i G) (fun i=>i≤g.length∧dH (fun i=>kL (nth g i)) (g.length-i) i=dH (fun i=>kL (nth g i)) g.length 0) (fun i=>g.length-i) 0 rfl (by simp) ⟨by omega,rfl⟩ ?_
    rintro i ⟨hi,hq⟩;simp (disch:=omega) [-getElem?_pos,wrap64,adh];refine bT (fun h3=>?_) (fun h3=>?_)
    ·have h3:i<g.length:=by omega
     rw[kZ h3]at hq;by_cases h4:kL (nth g i)=0
     ·rw[aM h4]at hq
      simp (disch:=omega) [-getElem?_pos,wrap64,bf (l:=g),BT,BU,h4];exact bP (i+1) (by simp) ⟨by omega,hq⟩ (by omega)
     ·rw[ay h4]at hq
      rw[←hq,aM h4]at hW;simp (disch:=omega) [-getElem?_pos,wrap64,bf (l:=g),BT,BU,h4];exact hW
    ·obtain rfl:i=g.length:=by omega
     rw[mO]at hq;rw[←hq,ay (by omega)]at hW
     by_cases m1:0≤lv∧lv≤16777216
     ·have m2:(!decide (0≤lv) || !decide (lv≤16777216))=false:=by simp;omega
      rw[ay (by omega)]at hW
      simp (disch:=omega) [-getElem?_pos,wrap64,dJ,c7,m2];exact hW
     ·have m2:(!decide (0≤lv) || !decide (lv≤16777216))=true:=by simp;omega
      rw[aM (by omega)]at hW
      simp (disch:=omega) [-getElem?_pos,wrap64,dJ,c7,m2];exact hW)
theorem M6(g:List Gt)(s:List Gs)(lv:Int)(G:List aS):aZ F 146 [kr g,lC s,i64 lv] G=some (i64 (aE g s lv),G) :=
 bM rfl rfl (by
  generalize hW:aE g s lv=W;unfold aE at hW;simp (disch:=omega) [-getElem?_pos,wrap64,SD,R3];refine bT (fun h1=>?_) (fun h1=>gY (fun h2=>?_) (fun h2=>?_))
  ·rw[aM (by omega)]at hW
   exact hW
  ·simp[-List.length_eq_zero_iff,-Int.natCast_eq_zero]at h2
   rw[ay (by omega),aM (by omega)]at hW
   exact hW
  ·simp[-List.length_eq_zero_iff,-Int.natCast_eq_zero]at h2
   rw[ay (by omega),ay (by omega)]at hW
   have hl:g.length=s.length:=by omega
   refine go_loop (fun i:Nat=>aoF (kr g) (lC s) lv (kr g) g.length i G) (fun i=>i≤g.length∧∀j,j<i→n0 (nth g j) (nth s j)) (fun i=>g.length-i) 0 rfl (by simp) ⟨by omega,by omega⟩ ?_
   rintro i ⟨hi,hv⟩;simp (disch:=omega) [-getElem?_pos,wrap64,abx];refine bT (fun h3=>?_) (fun h3=>?_)
   ·have h3:i<g.length:=by omega
    by_cases h4:n0 (nth g i) (nth s i)
    ·simp (disch:=omega) [-getElem?_pos,wrap64,bf (l:=g),bf (l:=s),M5,B1,h4]
     refine bP (i+1) (by simp) ⟨by omega,fun j hj=>?_⟩ (by omega)
     rcases cF j i with h5|h5
     ·exact hv j h5
     ·rwa [show j=i by omega]
    ·rw[aM (fun h=>h4 (h i h3))]at hW
     simp (disch:=omega) [-getElem?_pos,wrap64,bf (l:=g),bf (l:=s),M5,B1,h4];exact hW
   ·obtain rfl:i=g.length:=by omega
    rw[ay (fun h=>h hv)]at hW;refine go_loop (fun i:Nat=>aoJ lv (kr g) g.length i G) (fun i=>i≤g.length∧dH (fun i=>kL (nth g i)) (g.length-i) i=dH (fun i=>kL (nth g i)) g.length 0) (fun i=>g.length-i) 0 rfl (by simp) ⟨by omega,rfl⟩ ?_
    rintro i ⟨hi,hq⟩;simp (disch:=omega) [-getElem?_pos,wrap64,aby];refine bT (fun h3=>?_) (fun h3=>?_)
    ·have h3:i<g.length:=by omega
     rw[kZ h3]at hq;by_cases h4:kL (nth g i)=0
     ·rw[aM h4]at hq
      simp (disch:=omega) [-getElem?_pos,wrap64,bf (l:=g),BT,BU,h4];exact bP (i+1) (by simp) ⟨by omega,hq⟩ (by omega)
     ·rw[ay h4]at hq
      rw[←hq,aM h4]at hW;simp (disch:=omega) [-getElem?_pos,wrap64,bf (l:=g),BT,BU,h4];exact hW
    ·obtain rfl:i=g.length:=by omega
     rw[mO]at hq;rw[←hq,ay (by omega)]at hW
     by_cases m1:0≤lv∧lv≤16777216
     ·have m2:(!decide (0≤lv) || !decide (lv≤16777216))=false:=by simp;omega
      rw[ay (by omega)]at hW
      simp (disch:=omega) [-getElem?_pos,wrap64,dJ,c7,m2];exact hW
     ·have m2:(!decide (0≤lv) || !decide (lv≤16777216))=true:=by simp;omega
      rw[aM (by omega)]at hW
      simp (disch:=omega) [-getElem?_pos,wrap64,dJ,c7,m2];exact hW)
end Go.Proofs.YtmppfkgfnnebeaaGreatDoor
