/- Parts of the proof, joined: Flo3, Run1, Run2, Sne1, Cdm1, Blc1, Blc2, Blc3, Cbl1, Str1, Str2, Sam1, Pth1, Drv1. -/
import Derived.Test.YtmpikpodpgnjhaaGreatDf
namespace Go.Proofs.YtmpikpodpgnjhaaGreat
set_option linter.all false
open Go.Vm
attribute [local simp] mc me ma mb
theorem ajz{l:List Int}{k:Nat}(hd:dG l k){c:Cs}(hc:Cm c){s:List Ds}(hs:mr c s):∃f k',a8 F 53 [.bB 0 0,cs c,tj s] [dk l k]=some (fl f,[dk l k'])∧dG l k'∧fG c f∧hB c f 10:=by
 suffices h:∀Q:V→List aP→Prop,(∀f k',dG l k'→fG c f→hB c f 10→Q (fl f) [dk l k'])→gY (a8 F) 53 [.bB 0 0,cs c,tj s] [dk l k] Q by
  obtain⟨_,_,h,f,k',rfl,rfl,h1⟩:=h (fun v G=>∃f k',v=fl f∧G=[dk l k']∧dG l k'∧fG c f∧hB c f 10) fun f k' a b d=>⟨f,k',rfl,rfl,a,b,d⟩;exact⟨f,k',h,h1⟩
 intro Q hQ;refine iu rfl rfl ?_;have cv:=kb hc.kS;have kv:=jE cv.k;have zN:=hc.small;have Ep:=hc.n;obtain⟨G1,fA⟩:=aiM c zN s (Ej hc.kS hs);have h0:nS c s=.tuple [fl (lz c s),i64 0]:=by unfold nS;rw[show nR c s=0 by unfold nR;rw[if_neg (by have:=hc.kS;omega),if_pos hs]];rfl
 rw[h0]at fA;obtain⟨m,k1,n1,iK,hm⟩:=fQ hd 6 (by omega)
 have MU:=(Nf hc.kS).2 hs;have AD:=ajy (c:=c) (s:=s);generalize lz c s=f0 at fA MU AD;simp (disch:=omega) [wrap64,RM,fA,n1];refine go_loop (fun y:Fl×Int×Nat=>acG (.bB 0 0) y.2.1 c.row [i64 0,.bW,.bW] y.1.row [dk l y.2.2])
  (fun y=>fG c y.1∧(0≤y.2.1∧y.2.1≤10)∧dG l y.2.2∧hB c y.1 (10-y.2.1)) (fun y=>y.2.1.toNat) (f0,m,k1) rfl (by simp) ⟨MU,by simp only;omega,iK,Eo cv.k AD (by simp only;omega)⟩ ?_
 rintro⟨f,x,k⟩ ⟨h1,h2,hd,hh⟩;simp only at h1 h2 hd hh;simp (disch:=omega) [wrap64,RL];refine bK (fun h3=>?_) (fun h3=>?_)
 ·obtain⟨p,k2,n2,fm,hp,ha,hb,uY⟩:=WW hd (c:=c) (by have:=kv.n;omega) (by have:=cv.s;omega)
  have M4:=cv.s;have kq:p.a.length≤1000∧p.b.length≤1000∧p.c.length≤1000:=by have:=hp;unfold mw at this;omega
  obtain⟨G2,hS⟩:=ajf zN (HS cv.k h1) kq;by_cases he:mQ c f p=0
  ·rw[tm,if_pos he]at hS
   have vZ:=(HR he).fl;have xw:=Eo cv.k (HV (HR he) (by omega) hh).1 (show 10-x+1≤10-(x-1) by omega)
   generalize nz c f p=f2 at hS vZ xw;generalize jO c f p=pp at hS;simp (disch:=omega) [wrap64,n2,hS];exact bL (f2,x-1,k2) (by simp) ⟨vZ,by simp only;omega,fm,xw⟩ (by simp only;omega)
  ·rw[tm,if_neg he]at hS
   simp (disch:=omega) [wrap64,n2,hS,decide_eq_false he];exact bL (f,x-1,k2) (by simp) ⟨h1,by simp only;omega,fm,Eo cv.k hh (by simp only;omega)⟩ (by simp only;omega)
 ·exact hQ f k hd h1 (Eo cv.k hh (by omega))
theorem ajA{l:List Int}{k:Nat}(hd:dG l k):∃c f k',a8 F 15 [.bB 0 0] [dk l k]=some (.tuple [cs c,fl f],[dk l k'])∧dG l k'∧Cm c∧fG c f∧hB c f 10:=by
 suffices h:∀Q:V→List aP→Prop,(∀c f k',dG l k'→Cm c→fG c f→hB c f 10→Q (.tuple [cs c,fl f]) [dk l k'])→gY (a8 F) 15 [.bB 0 0] [dk l k] Q by
  obtain⟨_,_,h,c,f,k',rfl,rfl,h1⟩:=h (fun v G=>∃c f k',v=.tuple [cs c,fl f]∧G=[dk l k']∧dG l k'∧Cm c∧fG c f∧hB c f 10) fun c f k' a b d e=>⟨c,f,k',rfl,rfl,a,b,d,e⟩;exact⟨c,f,k',h,h1⟩
 intro Q hQ;refine iu rfl rfl ?_;obtain⟨c,s,k1,n1,iK,hc,hs⟩:=aiQ hd;obtain⟨f,k2,n2,fm,hf,hb⟩:=ajz iK hc hs;simp[wrap64,Rk,n1,n2];exact hQ c f k2 fm hc hf hb
instance:Inhabited Sp:=⟨⟨[],[],[]⟩⟩
abbrev oG(l:List Sp):V:=.slice none 3 (l.map Sp.row)
noncomputable def cT(c:Cs)(f:Fl)(l:List Sp):Nat→Fl
 |0=>f
 |k+1=>nz c (cT c f l k) (nth l k)
noncomputable def uy(c:Cs)(f:Fl)(l:List Sp)(k:Nat):Ps:=jO c (cT c f l k) (nth l k)
noncomputable def ja(c:Cs)(f:Fl)(l:List Sp)(k:Nat):List Ps:=(List.range k).map (uy c f l)
theorem ajB{c:Cs}{f:Fl}{l:List Sp}{k:Nat}:ja c f l (k+1)=ja c f l k++[uy c f l k]:=by simp[ja,List.range_succ]
@[simp] theorem Xs{c:Cs}{f:Fl}{l:List Sp}{k:Nat}:(ja c f l k).length=k:=by simp[ja]
noncomputable def o8(c:Cs)(f:Fl)(l:List Sp):Int:=if jm c f≠0 then jm c f else if 400<l.length then 10 else dK (fun k=>gD c (cT c f l k) (nth l k)) l.length 0
abbrev crX(t:Option Nat)(e:Int):V:=.tuple [.agg [i64 0,.slice t 4 [],.slice t 1 []],.slice t 3 [],i64 e]
noncomputable def wP(t:Option Nat)(c:Cs)(f:Fl)(l:List Sp):V:=if o8 c f l=0 then .tuple [fl (cT c f l l.length),.slice t 3 ((ja c f l l.length).map Ps.row),i64 0] else crX t (o8 c f l)
theorem Xt{c:Cs}{f:Fl}{p:Sp}(hc:e7 c=0)(hf:fG c f):mQ c f p=gD c f p:=by
 unfold mQ jm;rw[if_neg (by omega:¬ (e7 c≠0)),if_pos hf]
 rfl
theorem Nt{c:Cs}{f:Fl}{l:List Sp}(hc:e7 c=0)(hf:fG c f):∀k,(∀j,j<k→gD c (cT c f l j) (nth l j)=0)→fG c (cT c f l k)
 |0,_=>hf
 |k+1,h=>by
  have ih:=Nt hc hf k fun j hj=>h j (by omega)
  exact(HR (by rw[Xt hc ih];exact h k (by omega))).fl
set_option maxRecDepth 100000 in
set_option maxHeartbeats 1000000 in
theorem ajD{c:Cs}(hr:mO c.r){f:Fl}(hf:rA f)(l:List Sp)(hl:l.length≤1000):∃G',a8 F 35 [cs c,fl f,oG l] []=some (wP (some 0) c f l,G'):=by
 suffices h:∀Q:V→Prop,Q (wP (some 0) c f l)→gY (a8 F) 35 [cs c,fl f,oG l] [] fun v _=>Q v by
  obtain⟨_,G',h,rfl⟩:=h (fun v=>v=wP (some 0) c f l) rfl;exact⟨G',h⟩
 intro Q hQ;refine iu rfl rfl ?_;have hd:=M3 c hr f hf;by_cases hz:jm c f=0
 case neg =>
  rw[wP,if_neg (by unfold o8;rw[if_pos hz];exact hz),show o8 c f l=jm c f by unfold o8;rw[if_pos hz]]at hQ
  simp (disch:=omega) [-getElem?_pos,wrap64,Gb,hd,hz];exact hQ
 obtain⟨z1,z2⟩:=xA hz;have cv:=kb z1;have kv:=jE cv.k;by_cases h4:400<l.length
 case pos =>
  have e:o8 c f l=10:=by unfold o8;rw[if_neg (by omega),if_pos h4]
  have Nu:(400:Int)<l.length:=by omega
  rw[wP,if_neg (by omega),e]at hQ
  simp (disch:=omega) [-getElem?_pos,wrap64,Gb,hd,hz,Nu];exact hQ
 have Nu:¬ (400:Int)<l.length:=by omega
 have fA:=M8 f.d (Ej z1 z2.2.1);have hwv:=WR f.w (No cv.k z2.2.2);have e:o8 c f l=dK (fun k=>gD c (cT c f l k) (nth l k)) l.length 0:=by unfold o8;rw[if_neg (by omega),if_neg h4]
 simp (disch:=omega) [-getElem?_pos,wrap64,Gb,hd,hz,Nu,fA,hwv,wI,BD];refine go_loop (fun k:Nat=>acm (.slice (some 1058) 3 ((ja c f l k).map Ps.row)) (oG l) l.length k c.row (cT c f l k).row [z0,.bW,.bW] k [.cells [],.cells []])
  (fun k=>k≤l.length∧dK (fun k=>gD c (cT c f l k) (nth l k)) (l.length-k) k=o8 c f l∧∀j,j<k→gD c (cT c f l j) (nth l j)=0) (fun k=>l.length-k) 0 rfl (by simp (disch:=omega) [wI,BD,cT,ja]) ⟨by omega,e.symm,by omega⟩ ?_
 rintro k ⟨hk,hE,hj⟩;have hfk:=Nt z1 z2 k hj;simp (disch:=omega) [-getElem?_pos,wrap64,RE];refine bK (fun h5=>?_) (fun h5=>?_)
 ·have h5:k<l.length:=by omega
  rw[ld h5]at hE;obtain⟨G1,hP⟩:=W4 hr z1 hfk (nth l k);by_cases h6:gD c (cT c f l k) (nth l k)=0
  ·rw[ya,if_pos h6]at hP
   simp only[if_pos h6]at hE;simp (disch:=omega) [-getElem?_pos,wrap64,bb (l:=l),hP];refine bL (k+1) (by simp[ajB,cT,uy]) ⟨by omega,hE,fun j yC=>?_⟩ (by omega)
   by_cases g:j=k
   ·rw[g];exact h6
   ·exact hj j (by omega)
  ·rw[ya,if_neg h6]at hP
   simp only[if_neg h6]at hE;rw[wP,if_neg (by omega),← hE]at hQ
   simp (disch:=omega) [-getElem?_pos,wrap64,bb (l:=l),hP,h6];exact hQ
 ·obtain rfl:k=l.length:=by omega
  rw[Nat.sub_self]at hE;have hE:0=o8 c f l:=hE;rw[wP,if_pos hE.symm]at hQ;exact hQ
theorem Xu{α:Type}[Inhabited α]{l:List α}{k i:Nat}:nth (l.drop k) i=nth l (k+i):=by
 simp[nth,List.getD]
theorem Xv{c:Cs}{f:Fl}{l:List Sp}{k:Nat}:∀{i:Nat},i≤k→cT c f (l.take k) i=cT c f l i
 |0,_=>rfl
 |i+1,h=>by simp only[cT];rw[Xv (by omega),xQ (by omega)]
theorem Xw{c:Cs}{f:Fl}{l:List Sp}{k:Nat}:∀i:Nat,cT c (cT c f l k) (l.drop k) i=cT c f l (k+i)
 |0=>rfl
 |i+1=>by
  show nz c (cT c (cT c f l k) (l.drop k) i) (nth (l.drop k) i)=nz c (cT c f l (k+i)) (nth l (k+i));rw[Xw i,Xu]
structure Ra(c:Cs)(f:Fl)(l:List Sp):Prop where
 c0:e7 c=0
 f0:fG c f
 len:l.length≤400
 v:∀k,k<l.length→gD c (cT c f l k) (nth l k)=0
theorem ajG{c:Cs}{f:Fl}{l:List Sp}(h:o8 c f l=0):Ra c f l:=by
 unfold o8 at h;split at h
 ·rename_i h1;exact absurd h h1
 ·rename_i h1
  obtain⟨a,b⟩:=xA (Decidable.of_not_not h1);split at h
  ·cases h
  ·exact⟨a,b,by omega,fun k hk=>rm h k (by omega) (by omega)⟩
theorem Ra.e{c:Cs}{f:Fl}{l:List Sp}(h:Ra c f l):o8 c f l=0:=by
 have hr:jm c f=0:=by unfold jm;rw[if_neg (by have:=h.c0;omega),if_pos h.f0]
 have:=h.len;unfold o8;rw[if_neg (by omega),if_neg (by omega)]
 exact qq fun j _ hj=>h.v j (by omega)
theorem Ra.at_{c:Cs}{f:Fl}{l:List Sp}(h:Ra c f l){k:Nat}(hk:k≤l.length):fG c (cT c f l k):=Nt h.c0 h.f0 k fun j hj=>h.v j (by omega)
theorem Ra.pa{c:Cs}{f:Fl}{l:List Sp}(h:Ra c f l){k:Nat}(hk:k<l.length):Pa c (cT c f l k) (nth l k):=HR (by rw[Xt h.c0 (h.at_ (by omega))];exact h.v k hk)
theorem Ra.take{c:Cs}{f:Fl}{l:List Sp}(h:Ra c f l){k:Nat}(hk:k≤l.length):Ra c f (l.take k) :=
 ⟨h.c0,h.f0,by have:=h.len;simp;omega,fun j hj=>by
  simp at hj;rw[Xv (by omega),xQ (by omega)]
  exact h.v j (by omega)⟩
theorem Ra.drop{c:Cs}{f:Fl}{l:List Sp}(h:Ra c f l){k:Nat}(hk:k≤l.length):Ra c (cT c f l k) (l.drop k) :=
 ⟨h.c0,h.at_ hk,by have:=h.len;simp;omega,fun j hj=>by
  simp at hj;rw[Xw,Xu];exact h.v (k+j) (by omega)⟩
theorem Ra.hB{c:Cs}{f:Fl}{l:List Sp}(h:Ra c f l){M:Int}(hM:0≤M)(hb:hB c f M):∀{k:Nat},k≤l.length→hB c (cT c f l k) (M+k)
 |0,_=>by simpa [cT] using hb
 |k+1,hk=>by
  have:=(HV (h.pa (k:=k) (by omega)) (by omega) (h.hB hM hb (k:=k) (by omega))).1
  rw[show M+((k+1:Nat):Int)=M+k+1 by omega]
  exact this
def Sw(c:Cs)(p:Sp):Prop:=mw c p∧eP p.a 30∧eP p.b 30∧eP p.c 30
abbrev Nv(l:List Sp):V:=.slice (some 0) 3 (l.map Sp.row)
theorem ajH{l:List Int}{k:Nat}(hd:dG l k){c:Cs}(hn:1≤c.r.n∧c.r.n≤40)(hs:c.s.length≤10){n:Nat}(hm:n≤1000) :
  ∃q k',a8 F 34 [.bB 0 0,cs c,i64 n] [dk l k]=some (Nv q,[dk l k'])∧dG l k'∧q.length=n∧∀i,i<n→Sw c (nth q i):=by
 suffices h:∀Q:V→List aP→Prop,(∀q k',dG l k'→q.length=n→(∀i,i<n→Sw c (nth q i))→Q (Nv q) [dk l k'])→gY (a8 F) 34 [.bB 0 0,cs c,i64 n] [dk l k] Q by
  obtain⟨_,_,h,q,k',rfl,rfl,h1⟩:=h (fun v G=>∃q k',v=Nv q∧G=[dk l k']∧dG l k'∧q.length=n∧∀i,i<n→Sw c (nth q i)) fun q k' a b d=>⟨q,k',rfl,rfl,a,b,d⟩;exact⟨q,k',h,h1⟩
 intro Q hQ;refine iu rfl rfl ?_;simp (disch:=omega) [wrap64,RD];refine go_loop (fun y:List Sp×Nat=>aci (.bB 0 0) (.slice (some 1016) 3 (y.1.map Sp.row)) n y.1.length c.row y.1.length [dk l y.2]) (fun y=>y.1.length≤n∧dG l y.2∧∀i,i<y.1.length→Sw c (nth y.1 i)) (fun y=>n-y.1.length) ([],k) rfl (by simp) ⟨by simp,hd,fun i hi=>absurd hi (by simp)⟩ ?_
 rintro⟨q,k⟩ ⟨h1,hd,hq⟩;simp only at h1 hd hq;simp (disch:=omega) [wrap64,RC];refine bK (fun h5=>?_) (fun h5=>?_)
 ·obtain⟨p,k2,n2,fm,hp⟩:=WW hd (c:=c) hn hs
  simp (disch:=omega) [wrap64,n2];refine bL (q++[p],k2) (by simp) ⟨by simp;omega,fm,fun i hi=>?_⟩ (by simp;omega)
  simp only[List.length_append,List.length_singleton]at hi;rw[ic];by_cases g:i<q.length
  ·rw[if_pos g];exact hq i g
  ·rw[if_neg g,if_pos (by omega)];exact hp
 ·obtain e:q.length=n:=by omega
  exact hQ q k hd e (fun i hi=>hq i (by omega))
abbrev Er:Rc:=⟨[0,1],1⟩
abbrev fP:Cs:=⟨⟨2,[⟨0,1,Er⟩]⟩,[]⟩
theorem Es:eD Er=0:=by
 unfold eD;rw[if_neg (by decide),if_neg (by decide),if_pos,if_pos (by decide)]
 intro i hi;have:i=0∨i=1:=by simp at hi;omega
 rcases this with rfl|rfl<;>decide
theorem ajI:iz fP.r=0:=by
 unfold iz;rw[if_neg (by decide)]
 show(if lE fP.r 0=0 then (0:Int) else lE fP.r 0)=0
 have:lE fP.r 0=0:=by
  unfold lE;simp only;rw[if_pos (by decide),if_neg (by decide),if_neg (by decide)]
  exact Es
 rw[if_pos this]
theorem HX:e7 fP=0:=by
 unfold e7;rw[if_neg (fun g=>g ajI),if_neg (by decide),if_neg (by decide)]
 rfl
theorem HY:mO fP.r:=⟨by decide,fun i hi=>by
 have:i=0:=by simp at hi;omega
 subst this
 decide⟩
theorem Nw{t:Int}{p:List Int}(h:p.length≤10):rA ⟨t,[],[p]⟩:=fun i=>by
 cases i with
 |zero=>show p.length≤_;omega
 |succ i=>exact Nat.zero_le _
theorem HZ:∀p:List Int,p=[]∨p=[7]→gM Er p:=fun p h=>by
 rcases h with rfl|rfl
 ·exact⟨by decide,by decide,fun i hi=>by simp at hi⟩
 ·refine⟨by decide,by decide,fun i hi=>?_⟩
  have:i=0:=by simp at hi;omega
  subst this;decide
theorem ajJ:fL Er [] 7=0:=by
 unfold fL;rw[if_neg (fun g=>g Es),if_pos (HZ _ (.inl rfl)),if_pos];refine⟨by decide,fun i hi=>?_⟩
 have:i=0∨i=1:=by simp at hi;omega
 rcases this with rfl|rfl<;>decide
theorem ajK:fL Er [7] 0=0:=by
 unfold fL;rw[if_neg (fun g=>g Es),if_pos (HZ _ (.inr rfl)),if_pos];refine⟨by decide,fun i hi=>?_⟩
 have:i=0∨i=1:=by simp at hi;omega
 rcases this with rfl|rfl<;>decide
abbrev wQ:Sp:=⟨[7,0],[],[]⟩
abbrev wR:Sp:=⟨[0,0],[],[]⟩
abbrev vr:Fl:=⟨0,[],[[]]⟩
abbrev uz:Fl:=⟨1,[],[[7]]⟩
theorem ajL:fG fP vr:=⟨by decide,⟨rfl,by simp⟩,rfl,fun i hi=>by
 have:i=0:=by simp at hi;omega
 subst this;exact⟨Es,HZ _ (.inl rfl)⟩⟩
theorem Xy:fG fP uz:=⟨by decide,⟨rfl,by simp⟩,rfl,fun i hi=>by
 have:i=0:=by simp at hi;omega
 subst this;exact⟨Es,HZ _ (.inr rfl)⟩⟩
theorem yf(k:Int):jn fP.s k=none:=rfl
theorem H0:iA fP.r.l ((0:Nat):Int)=some 0:=rfl
theorem H2:iA fP.r.l ((1:Nat):Int)=none:=rfl
theorem Xz:b8 fP wQ vr 1=⟨[7,0],[],[[7]],[],[7],[0]⟩:=by
 show vS fP wQ ⟨[7,0],[],[[]],[],[],[]⟩ 0=_;unfold vS vL vD eM;rw[yf,H0];rfl
theorem XA:b8 fP wQ vr 2=⟨[7,0],[],[[7]],[],[7,0],[0]⟩:=by
 show vS fP wQ (b8 fP wQ vr 1) 1=_;rw[Xz];unfold vS vL vD eM;rw[yf,H2];rfl
theorem XB:b8 fP wR uz 1=⟨[0,7],[],[[]],[],[0],[7]⟩:=by
 show vS fP wR ⟨[0,0],[],[[7]],[],[],[]⟩ 0=_;unfold vS vL vD eM;rw[yf,H0];rfl
theorem XC:b8 fP wR uz 2=⟨[0,7],[],[[]],[],[0,7],[7]⟩:=by
 show vS fP wR (b8 fP wR uz 1) 1=_;rw[XB];unfold vS vL vD eM;rw[yf,H2];rfl
theorem XD{l:List Int}(h:∀x∈l,x=0∨x=7):eP l 1073741824:=fun i hi=>by
 have:=h _ (pR hi);omega
theorem ajM:mQ fP vr wQ=0:=by
 unfold mQ;have hr:jm fP vr=0:=by unfold jm;rw[if_neg (fun g=>g HX),if_pos ajL]
 rw[if_neg (fun g=>g hr)];unfold gD;rw[if_pos (by decide),if_pos (XD (by simp)),if_neg (by decide)]
 refine qq fun k _ hk=>?_;have:k=0∨k=1:=by have:fP.r.n.toNat=2:=rfl;omega
 rcases this with rfl|rfl
 ·unfold vE kT ny eM
  rw[yf,H0];exact ajJ
 ·unfold vE kT ny eM
  rw[Xz,yf,H2];rfl
theorem ajN:mQ fP uz wR=0:=by
 unfold mQ;have hr:jm fP uz=0:=by unfold jm;rw[if_neg (fun g=>g HX),if_pos Xy]
 rw[if_neg (fun g=>g hr)];unfold gD;rw[if_pos (by decide),if_pos (XD (by simp)),if_neg (by decide)]
 refine qq fun k _ hk=>?_;have:k=0∨k=1:=by have:fP.r.n.toNat=2:=rfl;omega
 rcases this with rfl|rfl
 ·unfold vE kT ny eM
  rw[yf,H0];exact ajK
 ·unfold vE kT ny eM
  rw[XB,yf,H2];rfl
abbrev cw:V:=.agg [i64 2,.slice none 4 [[i64 0,i64 1,.slice none 1 [[i64 0],[i64 1]],i64 1]],.slice none 10 []]
theorem H3(G:List aP):a8 F 12 [] G=some (.bool true,G) :=
 bV rfl rfl (by
  obtain⟨G1,h1⟩:=aiL fP HY [];obtain⟨t2,G2,h2⟩:=W6 HY (f:=vr) (Nw (by decide)) wQ
  obtain⟨t3,G3,h3⟩:=W6 HY (f:=uz) (Nw (by decide)) wR
  have h4:=aiB fP HY uz (Nw (by decide))
  rw[decide_eq_true ⟨HX,Xy⟩]at h4;rw[show nS fP []=.tuple [fl vr,i64 0] by unfold nS;rw[show nR fP []=0 by unfold nR;rw[if_neg (fun g=>g HX),if_pos ⟨rfl,by simp⟩]];rfl]at h1
  rw[tm,if_pos ajM,show nz fP vr wQ=uz by unfold nz;rw[show fP.r.n.toNat=2 from rfl,XA];rfl,show jO fP vr wQ=⟨[],[7,0],[0]⟩ by unfold jO;rw[show fP.r.n.toNat=2 from rfl,XA]]at h2
  rw[tm,if_pos ajN,show nz fP uz wR=⟨2,[],[[]]⟩ by unfold nz;rw[show fP.r.n.toNat=2 from rfl,XC];rfl,show jO fP uz wR=⟨[],[0,7],[7]⟩ by unfold jO;rw[show fP.r.n.toNat=2 from rfl,XC]]at h3
  replace h1:a8 F 31 [cw,.slice none 4 []] []=some (.tuple [.agg [i64 0,.slice none 4 [],.slice none 1 [[.slice none 1 []]]],i64 0],G1):=h1;replace h2:a8 F 17 [cw,.agg [i64 0,.slice none 4 [],.slice none 1 [[.slice none 1 []]]],.agg [.slice none 1 [[i64 7],[i64 0]],.slice none 1 [],.slice none 1 []]] [] =
   some (.tuple [.agg [i64 1,.slice none 4 [],.slice none 1 [[.slice none 1 [[i64 7]]]]],.agg [.slice none 7 [],.slice none 1 [[i64 7],[i64 0]],.slice none 1 [[i64 0]]],i64 0],G2):=h2
  replace h3:a8 F 17 [cw,.agg [i64 1,.slice none 4 [],.slice none 1 [[.slice none 1 [[i64 7]]]]],.agg [.slice none 1 [[i64 0],[i64 0]],.slice none 1 [],.slice none 1 []]] [] =
   some (.tuple [.agg [i64 2,.slice none 4 [],.slice none 1 [[.slice none 1 []]]],.agg [.slice none 7 [],.slice none 1 [[i64 0],[i64 7]],.slice none 1 [[i64 7]]],i64 0],G3):=h3
  replace h4:∀G,a8 F 28 [cw,.agg [i64 1,.slice none 4 [],.slice none 1 [[.slice none 1 [[i64 7]]]]]] G=some (.bool true,G):=h4;simp[wrap64,Rh,h1,h2,h3,h4])
end Go.Proofs.YtmpikpodpgnjhaaGreat
namespace Go.Proofs.YtmpikpodpgnjhaaGreat
set_option linter.all false
open Go.Vm
noncomputable abbrev fin(c:Cs)(p:Sp)(f:Fl):Co:=b8 c p f c.r.n.toNat
theorem ajO{c:Cs}{p:Sp}{f:Fl}(h:Pa c f p){k:Nat}(hk:k≤c.r.n.toNat){m:Nat}(hm:m<(b8 c p f k).cm.length):nth (fin c p f).cm m=nth (b8 c p f k).cm m:=by
 have hc:=kb h.c0;have hl:m<(fin c p f).cm.length:=by
  have e:=(HM hc p f).2;have:=(yc hc p f k).l.1;rw[show(fin c p f).cm.length=c.r.l.length from e];omega
 obtain⟨a,_,a2,a3⟩:=(xZ h (Nat.le_refl _)).link m hl;obtain⟨b,_,b2,b3⟩:=(xZ h hk).link m hm;obtain rfl:a=b:=by omega
 rw[a3.o,b3.o]
theorem XE{c:Cs}{l l':List Int}{j:Int}:∀{m:Nat},(∀i,i<m→nth l i=nth l' i)→gV c l j m=gV c l' j m
 |0,_=>rfl
 |m+1,h=>by
  simp only[gV];rw[XE fun i hi=>h i (by omega),h m (by omega)]
theorem XF{c:Cs}{l:List Int}{j:Int}{m:Nat}:∀{n:Nat},(∀i,m≤i→i<m+n→(nth c.r.l i).t≠j)→gV c l j (m+n)=gV c l j m
 |0,_=>rfl
 |n+1,h=>by
  rw[show m+(n+1)=(m+n)+1 by omega]
  simp only[gV];rw[XF fun i a b=>h i a (by omega),if_neg (h (m+n) (by omega) (by omega)),Int.add_zero]
theorem XG{c:Cs}{l:List Int}{j:Int}:∀{m:Nat},(∀i,i<m→0≤nth l i∧nth l i≤1125899906842624)→0≤gV c l j m∧gV c l j m≤1125899906842624*m
 |0,_=>by simp[gV]
 |m+1,h=>by
  have:=XG (c:=c) (j:=j) fun i hi=>h i (Nat.lt_succ_of_lt hi);have:=h m (by omega)
  simp only[gV];split<;>omega
theorem XH{c:Cs}{p:Sp}{f:Fl}(h:Pa c f p){k:Nat}(hk:k<c.r.n.toNat):nth (b8 c p f k).arr k=nth p.a k+gV c (fin c p f).cm k c.r.l.length:=by
 have hc:=kb h.c0;have hv:=h.vc (k:=k) (by omega)
 have ho:=(yc hc p f k).l;rw[(xZ h (by omega)).arr k (by have:=hv.xX;omega),XE (l:=(b8 c p f k).cm) (l':=(fin c p f).cm) fun i hi=>(ajO h (by omega) hi).symm]
 obtain⟨d,hd⟩:∃d,c.r.l.length=(b8 c p f k).cm.length+d:=⟨c.r.l.length-(b8 c p f k).cm.length,by have:=ho.1;omega⟩
 rw[hd,XF fun i a b=>?_];have h1:=ho.2.2 i a (by omega)
 have h2:=((jE hc.k).link (i:=i) (by omega)).1
 have h1:(k:Int)≤(nth c.r.l i).f:=h1;omega
end Go.Proofs.YtmpikpodpgnjhaaGreat
namespace Go.Proofs.YtmpikpodpgnjhaaGreat
set_option linter.all false
open Go.Vm
attribute [local simp] mc me ma mb
theorem ajP{a b:List Int}(h:a.length=b.length)(e:∀i,i<a.length→nth a i=nth b i):a=b:=by
 refine List.ext_getElem h fun i h1 h2=>?_;have:=e i h1;simpa [nth,h1,h2] using this
theorem ajQ(a b:List Int)(ha:a.length≤17592186044416)(G:List aP):a8 F 30 [ints a,ints b] G=some (.bool (decide (a=b)),G) :=
 bV rfl rfl (by
  generalize hW:decide (a=b)=W;by_cases h1:a.length=b.length
  case neg =>
   have lx:¬ (a.length:Int)=b.length:=by omega
   simp (disch:=omega) [-getElem?_pos,wrap64,KI,lx];rw[←hW,decide_eq_false fun h=>h1 (by rw[h])]
  have lx:(a.length:Int)=b.length:=by omega
  simp (disch:=omega) [-getElem?_pos,wrap64,KI,lx];refine go_loop (fun i:Nat=>acg (ints a) (ints b) b.length i G) (fun i=>i≤a.length∧∀j,j<i→nth a j=nth b j) (fun i=>a.length-i) 0 rfl (by simp) (by simp) ?_
  rintro i ⟨hi,hj⟩;simp (disch:=omega) [-getElem?_pos,wrap64,RB];refine bK (fun h5=>?_) (fun h5=>?_)
  ·have h5:i<b.length:=by omega
   have h6:i<a.length:=by omega
   by_cases h7:nth a i=nth b i
   ·simp (disch:=omega) [-getElem?_pos,wrap64,dD (l:=a),dD (l:=b),h7]
    exact bL (i+1) (by simp) ⟨by omega,fun j yC=>by
     by_cases g:j=i
     ·rw[g];exact h7
     ·exact hj j (by omega)⟩ (by omega)
   ·simp (disch:=omega) [-getElem?_pos,wrap64,dD (l:=a),dD (l:=b),h7]
    rw[←hW,decide_eq_false fun h=>h7 (by rw[h])]
  ·rw[←hW,decide_eq_true (ajP h1 fun j yC=>hj j (by omega))])
def pZ(c:Cs)(p:Sp)(x:Ps)(j:Nat):Int:=nth p.a j+gV c x.cm j c.r.l.length
def XI(c:Cs)(f g:Fl)(x:Ps)(i:Nat):Prop :=
 sm (nth g.w i) (nth g.w i).length-sm (nth f.w i) (nth f.w i).length=(nth c.r.l i).r.den*(nth x.lf (nth c.r.l i).f.toNat-nth x.cm i)
noncomputable def Ny(c:Cs)(f g:Fl)(p:Sp)(x:Ps)(i:Nat):Prop:=MO (nth f.d i) (nth g.d i) (nth x.re i)∧(nth x.re i).inf=pZ c p x (nth c.s i).n.toNat
noncomputable def yg(c:Cs)(p:Sp)(x:Ps)(j:Nat):Int:=match jn c.s j with
 |none=>pZ c p x j
 |some i=>my (nth x.re i)
structure blL(c:Cs)(f g:Fl)(p:Sp)(x:Ps):Prop where
 c0:e7 c=0
 f0:fG c f
 g0:fG c g
 p0:mw c p
 re:x.re.length=c.s.length
 lf:(x.lf.length:Int)=c.r.n
 cm:x.cm.length=c.r.l.length
structure Et(c:Cs)(f g:Fl)(p:Sp)(x:Ps):Prop where
 l:blL c f g p x
 all:eP (p.a++x.lf++x.cm) 274877906944
 lk:∀i,i<c.r.l.length→XI c f g x i
 si:∀i,i<c.s.length→Ny c f g p x i
 le:∀j,j<c.r.n.toNat→nth x.lf j=yg c p x j
noncomputable instance {c:Cs} {f g:Fl} {p:Sp} {x:Ps}:Decidable (Et c f g p x):=Classical.propDecidable _
structure Bn(p:Sp)(x:Ps):Prop where
 a:∀j,j<p.a.length→0≤nth p.a j∧nth p.a j≤274877906944
 lf:∀j,j<x.lf.length→0≤nth x.lf j∧nth x.lf j≤274877906944
 cm:∀j,j<x.cm.length→0≤nth x.cm j∧nth x.cm j≤274877906944
theorem XJ{p:Sp}{x:Ps}(h:eP (p.a++x.lf++x.cm) 274877906944):Bn p x:=by
 rw[ye,ye]at h;exact⟨h.1.1,h.1.2,h.2⟩
theorem Bn.ts{c:Cs}{p:Sp}{x:Ps}(h:Bn p x){j:Int}{m:Nat}(hm:m≤x.cm.length):0≤gV c x.cm j m∧gV c x.cm j m≤1125899906842624*m :=
 XG fun i hi=>by have:=h.cm i (by omega);omega
theorem XK{c:Cs}{l:List (List Int)}(h:xW c l){i:Nat}(hi:i<c.r.l.length):(nth l i).length≤40∧eP (nth l i) 2251799813685248:=by
 have a:=h.2 i hi;have:=(pU a.1).len;exact⟨by have:=a.2.1;omega,a.2.2.2⟩
theorem H4{c:Cs}{l:List (List Int)}(h:xW c l){i:Nat}(hi:i<c.r.l.length):0≤sm (nth l i) (nth l i).length∧sm (nth l i) (nth l i).length≤90071992547409920:=by
 obtain⟨a,b⟩:=XK h hi;have:=uo (i:=(nth l i).length) b;omega
theorem den_mul{D a b:Int}(hD:1≤D∧D≤240000)(ha:0≤a∧a≤274877906944)(hb:0≤b∧b≤274877906944):-65970697666560000≤D*(a-b)∧D*(a-b)≤65970697666560000:=by
 have h1:0≤D*a:=Int.mul_nonneg (by omega) ha.1
 have h2:0≤D*b:=Int.mul_nonneg (by omega) hb.1
 have h3:D*a≤240000*274877906944:=Int.mul_le_mul hD.2 ha.2 ha.1 (by omega)
 have h4:D*b≤240000*274877906944:=Int.mul_le_mul hD.2 hb.2 hb.1 (by omega)
 rw[Int.mul_sub];omega
end Go.Proofs.YtmpikpodpgnjhaaGreat
namespace Go.Proofs.YtmpikpodpgnjhaaGreat
set_option linter.all false
open Go.Vm
structure Ar(c:Cs)(p:Sp)(x:Ps)(A:List Int)(m:Nat):Prop where
 le:m≤c.r.l.length
 len:A.length=p.a.length
 at_:∀j,j<A.length→nth A j=nth p.a j+gV c x.cm j m
theorem Ar.zero{c:Cs}{p:Sp}{x:Ps}:Ar c p x p.a 0:=⟨by omega,rfl,fun j _=>by simp[gV]⟩
theorem Ar.next{c:Cs}{p:Sp}{x:Ps}{A:List Int}{m:Nat}(h:Ar c p x A m)(hm:m<c.r.l.length){t:Nat}(ht:(nth c.r.l m).t=t):Ar c p x (A.set t (nth A t+nth x.cm m)) (m+1) :=
 ⟨by omega,by simp[h.len],fun j hj=>by
  simp only[List.length_set]at hj;simp only[gV];by_cases g:j=t
  ·subst g
   rw[qH hj,if_pos rfl,if_pos ht,h.at_ j hj,Int.add_assoc]
  ·rw[if_neg (by omega),Int.add_zero,← h.at_ j hj]
   rcases Nat.lt_or_ge t A.length with q|q
   ·rw[qH q,if_neg g]
   ·rw[List.set_eq_of_length_le q]⟩
structure Lv(c:Cs)(p:Sp)(x:Ps)(L:List Int)(i:Nat):Prop where
 le:i≤c.s.length
 len:(L.length:Int)=c.r.n
 H5:∀k,k<i→nth L (nth c.s k).n.toNat=my (nth x.re k)
 no:∀j,j<L.length→(∀k,k<i→(nth c.s k).n≠j)→nth L j=pZ c p x j
theorem Lv.next{c:Cs}(cv:ur c){p:Sp}{x:Ps}{L:List Int}{i:Nat}(h:Lv c p x L i)(hi:i<c.s.length){t:Nat}(ht:(nth c.s i).n=t):Lv c p x (L.set t (my (nth x.re i))) (i+1):=by
 have hs:=(pX cv hi).1;have hs:0≤(nth c.s i).n∧(nth c.s i).n<c.r.n:=hs;have Em:t<L.length:=by have:=h.len;omega
 have up:∀k,k<i→(nth c.s k).n<(nth c.s i).n:=fun k hk=>by
  have:∀m,k<m→m<c.s.length→(nth c.s k).n<(nth c.s m).n:=by
   intro m;induction m with
   |zero=>intro a;omega
   |succ m ih =>
    intro a b;have s:=(pX cv b).2.1 (by omega)
    have s:(nth c.s m).n<(nth c.s (m+1)).n:=s;by_cases g:k=m
    ·subst g;exact s
    ·have:=ih (by omega) (by omega);omega
  exact this i hk hi
 refine⟨by omega,by simp[h.len],fun k hk=>?_,fun j hj gO=>?_⟩
 ·by_cases g:k=i
  ·subst g
   rw[ht,Int.toNat_natCast,qH Em,if_pos rfl]
  ·have:=up k (by omega)
   have:=(pX cv (i:=k) (by omega)).1
   have:0≤(nth c.s k).n∧(nth c.s k).n<c.r.n:=this;rw[qH Em,if_neg (by omega)]
   exact h.H5 k (by omega)
 ·simp only[List.length_set]at hj
  have:=gO i (by omega)
  rw[qH Em,if_neg (by omega)]
  exact h.no j hj fun k hk=>gO k (by omega)
theorem Lv.all{c:Cs}(cv:ur c){p:Sp}{x:Ps}{L:List Int}(h:Lv c p x L c.s.length){j:Nat}(hj:j<L.length):nth L j=yg c p x j:=by
 unfold yg;cases hs:jn c.s j with
 |none =>
  exact h.no j hj fun k hk=>by
   have:=HL hs k hk;exact this
 |some i =>
  obtain⟨a,b⟩:=ux hs;have b:(nth c.s i).n=j:=b;have:=h.H5 i a;rw[b,Int.toNat_natCast]at this;exact this
end Go.Proofs.YtmpikpodpgnjhaaGreat
namespace Go.Proofs.YtmpikpodpgnjhaaGreat
set_option linter.all false
open Go.Vm
attribute [local simp] mc me ma mb
theorem XL{c:Cs}(cv:ur c){k:Nat}:∀{m:Nat},k<m→m<c.s.length→(nth c.s k).n<(nth c.s m).n
 |m+1,a,b=>by
  have s:(nth c.s m).n<(nth c.s (m+1)).n:=(pX cv b).2.1 (by omega)
  by_cases g:k=m
  ·subst g;exact s
  ·have:=XL cv (k:=k) (m:=m) (by omega) (by omega);omega
theorem apy(r:Dr):∃v,(∀G,a8 F 95 [dr r] G=some (i64 v,G))∧(((0≤r.tur∧r.tur≤274877906944)∧(0≤r.spi∧r.spi≤274877906944)∧0≤r.ovr∧r.ovr≤274877906944)→v=my r):=by
 refine⟨IntKind.i64.wrap (IntKind.i64.wrap (r.tur+r.spi)+r.ovr),fun G=>bV rfl rfl (by simp[wrap64,KT]),fun h=>?_⟩
 rw[wrap64 (n:=r.tur+r.spi) (by omega) (by omega),wrap64 (by omega) (by omega)]
 rfl
structure Wn(c:Cs)(f g:Fl)(p:Sp)(x:Ps)(k:Nat)(w:Int)(i:Nat):Prop where
 le:i≤c.s.length
 H5:∀m,m<i→(nth c.s m).n=k→Ny c f g p x m∧w=my (nth x.re m)
 no:(∀m,m<i→(nth c.s m).n≠k)→w=pZ c p x k
theorem Wn.all{c:Cs}{f g:Fl}{p:Sp}{x:Ps}{k:Nat}{w:Int}(h:Wn c f g p x k w c.s.length):w=yg c p x k:=by
 unfold yg;cases hs:jn c.s k with
 |none=>exact h.no fun m hm=>HL hs m hm
 |some i =>
  obtain⟨a,b⟩:=ux hs;exact(h.H5 i a b).2
end Go.Proofs.YtmpikpodpgnjhaaGreat
namespace Go.Proofs.YtmpikpodpgnjhaaGreat
set_option linter.all false
open Go.Vm
theorem ajS{d:Dm}{s:Ds}{a b c:Int}(h:mq d s a b c=0):MO s (jM d s a b c) (gU d s a b c):=by
 obtain⟨hd,hf,ha,hb,hc⟩:=Ni h;have hv:=vj hd;have h1:=MT hv.r;have h2:=hf.1;have h3:=(Wl hv hf ha hb hc).1;obtain⟨⟨r1,r2,r3⟩,r4,r5⟩:=HI h;have hi:(gU d s a b c).inf=a:=rfl;unfold my at r5;refine⟨fun i hi=>?_,by omega⟩
 have:i=0∨i=1∨i=2∨i=3∨i=4∨i=5∨i=6:=by omega
 rcases this with rfl|rfl|rfl|rfl|rfl|rfl|rfl
 ·show 0≤s.v∧s.v≤274877906944
  omega
 ·show 0≤(jM d s a b c).v∧(jM d s a b c).v≤274877906944
  omega
 ·show 0≤a∧a≤274877906944
  omega
 ·show 0≤(gU d s a b c).los∧(gU d s a b c).los≤274877906944
  omega
 ·show 0≤(gU d s a b c).tur∧(gU d s a b c).tur≤274877906944
  omega
 ·show 0≤(gU d s a b c).spi∧(gU d s a b c).spi≤274877906944
  omega
 ·show 0≤(gU d s a b c).ovr∧(gU d s a b c).ovr≤274877906944
  omega
theorem XN{c:Cs}{l:List Int}{j B:Int}(hB:0≤B):∀{m:Nat},(∀i,i<m→0≤nth l i∧nth l i≤B)→0≤gV c l j m∧gV c l j m≤B*m
 |0,_=>by simp[gV]
 |m+1,h=>by
  have h1:=XN (c:=c) (j:=j) hB fun i hi=>h i (Nat.lt_succ_of_lt hi);have h2:=h m (by omega)
  have h3:B*((m+1:Nat):Int)=B*m+B:=by rw[Int.natCast_add,Int.mul_add];simp
  simp only[gV];split<;>omega
theorem NB{r:Rr}(h:Kv r):(r.l.length:Int)≤r.n-1:=by
 rcases Nat.eq_zero_or_pos r.l.length with g|g
 ·have:=h.n;omega
 ·have a:=h.up (i:=r.l.length-1) (by omega)
  have b:=(h.link (i:=r.l.length-1) (by omega)).1
  omega
theorem ajT{c:Cs}{f:Fl}{p:Sp}(h:Pa c f p)(hb:hB c f 20){k:Nat}(hk:k<c.r.n.toNat):0≤nth (jO c f p).lf k∧nth (jO c f p).lf k≤274877906944:=by
 have cv:=kb h.c0;have kv:=jE cv.k;have hl:=(xZ h (Nat.le_refl _)).lf k hk;have hl:nth (jO c f p).lf k=eM c p (b8 c p f k) k:=hl;rw[hl];unfold eM;have he:=(Nn (h.v k hk)).1;unfold kT at he;cases hs:jn c.s k with
 |none =>
  simp only;have uA:=(HV h (by omega) hb).2
  have hpk:=h.all k (by have:=h.p0.1;simp;omega)
  rw[nP (by have:=h.p0.1;simp;omega),nP (by have:=h.p0.1;omega)]at hpk
  rw[XH h hk];have ht:=XN (c:=c) (l:=(fin c p f).cm) (j:=k) (B:=22548578304) (by omega) (m:=c.r.l.length) fun i hi=>by
   have:=uA i hi;have e:nth (jO c f p).cm i=nth (fin c p f).cm i:=rfl;omega
  have:=NB kv;have:=cv.n;omega
 |some i =>
  rw[hs]at he;simp only at he ⊢;have r:=(HI he).1;unfold my vR;omega
theorem ajV{c:Cs}{f:Fl}{p:Sp}(h:Pa c f p)(hb:hB c f 20):Et c f (nz c f p) p (jO c f p):=by
 have cv:=kb h.c0;have kv:=jE cv.k;have sw:=HM cv p f;have hv:=h.vc (Nat.le_refl _);have hh:=xZ h (Nat.le_refl _);have En:((jO c f p).lf.length:Int)=c.r.n:=by
  have:=hv.ll;have e:(jO c f p).lf.length=(b8 c p f c.r.n.toNat).lf.length:=rfl;have:=kv.n;omega
 have uA:=(HV h (by omega) hb).2
 have Cr:∀k,k<c.r.n.toNat→pZ c p (jO c f p) k=nth (b8 c p f k).arr k:=fun k hk=>(XH h hk).symm;refine⟨⟨h.c0,h.f0,h.fl,h.p0,sw.1,En,sw.2⟩,?_,fun i hi=>?_,fun i hi=>?_,fun j hj=>?_⟩
 ·rw[ye,ye]
  have ha:=h.all;rw[ye,ye]at ha;refine⟨⟨fun i hi=>?_,fun i hi=>ajT h hb (by omega)⟩,fun i hi=>?_⟩
  ·have:=ha.1.1 i hi;omega
  ·have:=uA i (by have:(jO c f p).cm.length=c.r.l.length:=sw.2;omega);omega
 ·obtain⟨k,k1,k2,hl⟩:=hh.link i (by rw[sw.2];exact hi)
  have hr:=Xr hl.e;have k2:(nth c.r.l i).f=k:=k2;have e1:nth (nz c f p).w i=_:=hl.w;have e2:nth (jO c f p).cm i=_:=hl.o;have e3:nth (jO c f p).lf k=_:=hh.lf k k1;unfold XI;rw[k2,Int.toNat_natCast,e1,e2,e3,hr];omega
 ·obtain⟨k,k1,k2,hd⟩:=hh.site i (by rw[sw.1];exact hi)
  have k2:(nth c.s i).n=k:=k2;have e1:nth (nz c f p).d i=_:=hd.d;have e2:nth (jO c f p).re i=_:=hd.r;unfold Ny;rw[k2,Int.toNat_natCast,e1,e2,Cr k k1];exact⟨ajS hd.e,rfl⟩
 ·have e3:nth (jO c f p).lf j=_:=hh.lf j hj
  rw[e3];unfold eM yg;cases hs:jn c.s j with
  |none=>exact(Cr j hj).symm
  |some i =>
   obtain⟨a,b⟩:=ux hs;have b:(nth c.s i).n=j:=b;obtain⟨k,k1,k2,hd⟩:=hh.site i (by rw[sw.1];exact a)
   have k2:(nth c.s i).n=k:=k2;obtain rfl:k=j:=by omega
   have e2:nth (jO c f p).re i=_:=hd.r;have q:=(uw (yc cv p f k).s (fun j h0 hj=>(pX cv hj).2.1 h0) a b).1;simp only[vR];rw[e2,(HP cv p f k).d.2 i (by omega)]
end Go.Proofs.YtmpikpodpgnjhaaGreat
namespace Go.Proofs.YtmpikpodpgnjhaaGreat
set_option linter.all false
open Go.Vm
attribute [local simp] mc me ma mb
noncomputable def lA(f:Fl)(n:Nat):Int:=bU (fun i=>(nth f.d i).v) n
def lB(f:Fl)(i:Nat):Int:=sm (nth f.w i) (nth f.w i).length
def jo(f:Fl)(n:Nat):List Int:=(List.range n).map (lB f)
theorem ajW{f:Fl}{n:Nat}:jo f (n+1)=jo f n++[lB f n]:=by simp[jo,List.range_succ]
@[simp] theorem ajX{f:Fl}{n:Nat}:(jo f n).length=n:=by simp[jo]
theorem Ew{c:Cs}{f:Fl}(h:fG c f):∀n:Nat,n≤c.s.length→0≤lA f n∧lA f n≤274877906944*n
 |0,_=>by simp[lA,bU]
 |n+1,hn=>by
  have ih:=Ew h n (by omega)
  have a:=h.2.1.2 n (by omega)
  have b:=a.2.1;have d:=MT (vj a.1).r;unfold lA at ih ⊢;simp only[bU];omega
noncomputable def Ex(t:Option Nat)(c:Cs)(f:Fl):V:=.tuple (if jm c f=0 then [i64 (lA f f.d.length),.slice t 1 ((jo f f.w.length).map fun n=>[i64 n]),i64 0] else [i64 0,.slice t 1 [],i64 (jm c f)])
theorem XO{c:Cs}(hr:mO c.r){f:Fl}(hf:rA f)(G:List aP):a8 F 24 [cs c,fl f] G=some (Ex (some 0) c f,G) :=
 bV rfl rfl (by
  have hd:=M3 c hr f hf;generalize hW:Ex (some 0) c f=W;unfold Ex at hW;by_cases hz:jm c f=0
  case neg =>
   rw[if_neg hz]at hW;simp +contextual (disch:=omega) [-getElem?_pos,-List.length_eq_zero_iff,-Int.natCast_eq_zero,wrap64,KF,hd,hz];exact hW
  rw[if_pos hz]at hW;obtain⟨z1,z2⟩:=xA hz;have cv:=kb z1;have kv:=jE cv.k;have M4:=cv.s;have Af:=kv.len;have yV:=z2.2.1.1;have Nr:=z2.2.2.1;simp +contextual (disch:=omega) [-getElem?_pos,-List.length_eq_zero_iff,-Int.natCast_eq_zero,wrap64,KF,hd,hz];refine go_loop (fun i:Nat=>ab3 (lA f i) (tj f.d) f.d.length i f.row G) (fun i=>i≤f.d.length) (fun i=>f.d.length-i) 0 rfl (by simp[lA,bU]) (by simp) ?_
  rintro i hi;have h1:=Ew z2 i (by omega)
  simp +contextual (disch:=omega) [-getElem?_pos,-List.length_eq_zero_iff,-Int.natCast_eq_zero,wrap64,Ru];refine bK (fun h5=>?_) (fun h5=>?_)
  ·have h5:i<f.d.length:=by omega
   have h2:=Ew z2 (i+1) (by omega)
   have e:lA f (i+1)=lA f i+(nth f.d i).v:=rfl;rw[e]at h2;simp +contextual (disch:=omega) [-getElem?_pos,-List.length_eq_zero_iff,-Int.natCast_eq_zero,wrap64,bb (l:=f.d)];exact bL (i+1) (by simp[e]) (by omega) (by omega)
  obtain rfl:i=f.d.length:=by omega
  refine go_loop (fun k:Nat=>ab5 (lA f f.d.length) (.slice (some 1043) 1 ((jo f k).map fun n=>[i64 n])) (vp f.w) f.w.length k k G) (fun k=>k≤f.w.length) (fun k=>f.w.length-k) 0 rfl (by simp[jo]) (by simp) ?_
  rintro k hk;simp +contextual (disch:=omega) [-getElem?_pos,-List.length_eq_zero_iff,-Int.natCast_eq_zero,wrap64,Rw];refine bK (fun h5=>?_) (fun h5=>?_)
  ·have h5:k<f.w.length:=by omega
   have w1:=XK z2.2.2 (i:=k) (by omega)
   have e1:=aio (nth f.w k) w1.1 w1.2;simp +contextual (disch:=omega) [-getElem?_pos,-List.length_eq_zero_iff,-Int.natCast_eq_zero,wrap64,bb (l:=f.w),e1];exact bL (k+1) (by simp[ajW,lB]) (by omega) (by omega)
  obtain rfl:k=f.w.length:=by omega
  exact hW)
end Go.Proofs.YtmpikpodpgnjhaaGreat
namespace Go.Proofs.YtmpikpodpgnjhaaGreat
set_option linter.all false
open Go.Vm
theorem H6{f:Nat→Int}:∀{n:Nat},(∀j,j<n→f j=0)→bU f n=0
 |0,_=>rfl
 |n+1,h=>by simp only[bU];rw[H6 fun j hj=>h j (by omega),h n (by omega)];rfl
theorem H7{f g:Nat→Int}:∀n:Nat,bU (fun j=>f j+g j) n=bU f n+bU g n
 |0=>rfl
 |n+1=>by simp only[bU];rw[H7 n];omega
theorem Ey{f g:Nat→Int}:∀n:Nat,bU (fun j=>f j-g j) n=bU f n-bU g n
 |0=>rfl
 |n+1=>by simp only[bU];rw[Ey n];omega
theorem XP{t:Int}{x:Int}:∀{n:Nat},0≤t→t<n→bU (fun j=>if t=(j:Int) then x else 0) n=x
 |0,h0,h1=>by omega
 |n+1,h0,h1=>by
  simp only[bU];by_cases g:t=(n:Int)
  ·rw[if_pos g,H6 fun j hj=>if_neg (by omega),Int.zero_add]
  ·rw[if_neg g,XP h0 (by omega),Int.add_zero]
theorem H8{g:Nat→Int}{key:Nat→Int}:∀{n m:Nat},(∀i,i<m→0≤key i∧key i<n)→(∀i,0<i→i<m→key (i-1)<key i)→(∀j,j<n→(∀i,i<m→key i≠j)→g j=0) →
  bU g n=bU (fun i=>g (key i).toNat) m
 |0,0,_,_,_=>rfl
 |0,m+1,h,_,_=>by have:=h 0 (by omega);omega
 |n+1,0,_,_,hz=>H6 fun j hj=>hz j hj fun i hi=>absurd hi (by omega)
 |n+1,m+1,h,up,hz=>by
  have hm:=h m (by omega)
  have zQ:∀i,i<m→key i<key m:=fun i hi=>by
   have:∀k,i<k→k<m+1→key i<key k:=by
    intro k;induction k with
    |zero=>intro a;omega
    |succ k ih =>
     intro a b;have s:=up (k+1) (by omega) b
     rw[Nat.add_sub_cancel]at s;by_cases e:i=k
     ·subst e;exact s
     ·have:=ih (by omega) (by omega);omega
   exact this m hi (by omega)
  by_cases g0:key m=(n:Int)
  ·have ih:=H8 (g:=g) (key:=key) (n:=n) (m:=m) (fun i hi=>by have:=h i (by omega);have:=zQ i hi;omega) (fun i a b=>up i a (by omega)) fun j hj gO=>hz j (by omega) fun i hi=>by
    by_cases e:i=m
    ·subst e;omega
    ·exact gO i (by omega)
   simp only[bU];rw[ih,g0,Int.toNat_natCast]
  ·have ih:=H8 (g:=g) (key:=key) (n:=n) (m:=m+1) (fun i hi=>by
    have:=h i hi;by_cases e:i=m
    ·subst e;omega
    ·have:=zQ i (by omega);omega) up fun j hj gO=>hz j (by omega) gO
   rw[bU,ih,hz n (by omega) fun i hi=>by
    by_cases e:i=m
    ·subst e;exact g0
    ·have:=zQ i (by omega);omega,Int.add_zero]
theorem XQ{c:Cs}{cm:List Int}{n:Nat}:∀{m:Nat},(∀i,i<m→0≤(nth c.r.l i).t∧(nth c.r.l i).t<n)→bU (fun j=>gV c cm j m) n=sm cm m
 |0,_=>H6 fun _ _=>rfl
 |m+1,h=>by
  simp only[gV,sm];have a:=H7 (f:=fun j:Nat=>gV c cm j m) (g:=fun j:Nat=>if (nth c.r.l m).t=(j:Int) then nth cm m else 0) n
  rw[a,XQ fun i hi=>h i (by omega),XP (h m (by omega)).1 (h m (by omega)).2]
noncomputable def ke(c:Cs)(x:Ps)(k:Nat):Int:=if iA c.r.l k=none then nth x.lf k else 0
def nT(c:Cs)(x:Ps)(i:Nat):Int:=nth x.lf (nth c.r.l i).f.toNat-nth x.cm i
theorem XR{c:Cs}{f g:Fl}{p:Sp}{x:Ps}(h:Et c f g p x) :
  lA g c.s.length=lA f c.s.length+sm p.a c.r.n.toNat-bU (fun i=>(nth x.re i).los) c.s.length-bU (ke c x) c.r.n.toNat-bU (nT c x) c.r.l.length:=by
 have cv:=kb h.l.c0;have kv:=jE cv.k;have iy:=kv.n;have uA:=h.l.cm;have e1:∀i,i<c.s.length→(nth g.d i).v-(nth f.d i).v+(nth x.re i).los=pZ c p x (kd c i).toNat-nth x.lf (kd c i).toNat:=fun i hi=>by
  obtain⟨q1,q2⟩:=h.si i hi;have s:=(pX cv hi).1;have hl:=h.le (kd c i).toNat (by omega)
  have lu:jn c.s ((kd c i).toNat:Nat)=some i:=by
   refine Xe (fun j hj e=>?_) hi (by omega)
   have:=XL cv (k:=j) (m:=i) hj hi;have:kd c j<kd c i:=this;omega
  unfold yg at hl;rw[lu]at hl;have b:=q1.2;have q2:(nth x.re i).inf=pZ c p x (kd c i).toNat:=q2;simp only[my]at hl;omega
 have d0:bU (fun k=>pZ c p x k-nth x.lf k) c.r.n.toNat=bU (fun i=>pZ c p x (kd c i).toNat-nth x.lf (kd c i).toNat) c.s.length :=
  H8 (g:=fun k=>pZ c p x k-nth x.lf k) (key:=kd c) (fun i hi=>by have:=(pX cv hi).1;omega) (fun i a b=>(pX cv b).2.1 a) fun j hj gO=>by
   have hl:=h.le j hj;unfold yg at hl;rw[Xg gO]at hl;simp only at hl;show pZ c p x j-nth x.lf j=0;omega
 have d1:bU (fun i=>(nth g.d i).v-(nth f.d i).v+(nth x.re i).los) c.s.length=bU (fun i=>pZ c p x (kd c i).toNat-nth x.lf (kd c i).toNat) c.s.length:=HU fun i hi=>e1 i hi;have d2:=H7 (f:=fun i=>(nth g.d i).v-(nth f.d i).v) (g:=fun i=>(nth x.re i).los) c.s.length;have d3:=Ey (f:=fun i=>(nth g.d i).v) (g:=fun i=>(nth f.d i).v) c.s.length;have d4:=Ey (f:=fun k=>pZ c p x k) (g:=fun k=>nth x.lf k) c.r.n.toNat;have a1:bU (fun k=>pZ c p x k) c.r.n.toNat=sm p.a c.r.n.toNat+sm x.cm c.r.l.length:=by
  have a:=H7 (f:=fun k:Nat=>nth p.a k) (g:=fun k:Nat=>gV c x.cm k c.r.l.length) c.r.n.toNat;unfold pZ;rw[a,← BL,XQ fun i hi=>by have:=(kv.link hi).1;omega]
 have l1:bU (fun k=>nth x.lf k-ke c x k) c.r.n.toNat=bU (fun i=>nth x.lf (jP c i).toNat-ke c x (jP c i).toNat) c.r.l.length :=
  H8 (g:=fun k=>nth x.lf k-ke c x k) (key:=jP c) (fun i hi=>by have:0≤jP c i∧jP c i<(nth c.r.l i).t∧_:=(kv.link hi).1;omega) (fun i a b=>(kv.link b).2.1 a) fun j hj gO=>by
   simp only[ke];rw[if_pos (Xh gO),Int.sub_self]
 have l2:bU (fun i=>nth x.lf (jP c i).toNat-ke c x (jP c i).toNat) c.r.l.length=bU (fun i=>nth x.lf (jP c i).toNat) c.r.l.length:=HU fun i hi=>by
  have s:0≤jP c i:=(kv.link hi).1.1;have hs:iA c.r.l ((jP c i).toNat:Nat)=some i:=by
   refine Xf (fun j hj e=>?_) hi (by omega)
   have:jP c j<jP c i:=by
    have:∀m,j<m→m<c.r.l.length→jP c j<jP c m:=by
     intro m;induction m with
     |zero=>intro a;omega
     |succ m ih =>
      intro a b;have s:=(kv.link b).2.1 (by omega)
      rw[Nat.add_sub_cancel]at s;have s:jP c m<jP c (m+1):=s;by_cases e:j=m
      ·subst e;exact s
      ·have:=ih (by omega) (by omega);omega
    exact this i hj hi
   omega
  simp only[ke];rw[hs,if_neg (by simp),Int.sub_zero]
 have l3:=Ey (f:=fun k=>nth x.lf k) (g:=ke c x) c.r.n.toNat;have l4:=Ey (f:=fun i=>nth x.lf (jP c i).toNat) (g:=fun i=>nth x.cm i) c.r.l.length;have l5:bU (nT c x) c.r.l.length=bU (fun i=>nth x.lf (jP c i).toNat-nth x.cm i) c.r.l.length:=rfl;have s1:=BL (l:=x.cm) c.r.l.length;have s2:bU (fun i=>nth x.cm i) c.r.l.length=bU (nth x.cm) c.r.l.length:=rfl;unfold lA;omega
end Go.Proofs.YtmpikpodpgnjhaaGreat
namespace Go.Proofs.YtmpikpodpgnjhaaGreat
set_option linter.all false
open Go.Vm
theorem ajY{α:Type}[Inhabited α]{a b:List α}(h:a.length=b.length)(e:∀i,i<a.length→nth a i=nth b i):a=b:=by
 refine List.ext_getElem h fun i h1 h2=>?_;have:=e i h1;simpa [nth,h1,h2] using this
theorem ap2(a b:Us):er [0,0,1] a.row b.row=some (decide (a=b)):=by
 obtain⟨x,y,z⟩:=a;obtain⟨u,v,w⟩:=b;simp[er,ki,Us.mk.injEq,Bool.decide_and,ma];cases z<;>cases w<;>simp
theorem ap3(a b:Gs):er [0,1] a.row b.row=some (decide (a=b)):=by
 obtain⟨x,y⟩:=a;obtain⟨u,v⟩:=b;simp[er,ki,Gs.mk.injEq,Bool.decide_and,ma];cases y<;>cases v<;>simp
noncomputable instance:DecidableEq Ds:=fun _ _=>Classical.propDecidable _
noncomputable instance:DecidableEq Fl:=fun _ _=>Classical.propDecidable _
def dsL(s:Ds):Prop:=s.u.length≤5864062014805∧s.g.length≤8796093022208
def flL(f:Fl):Prop:=(f.d.length≤1000000000∧∀i,i<f.d.length→dsL (nth f.d i))∧f.w.length≤1000000000∧∀i,i<f.w.length→(nth f.w i).length≤17592186044416
end Go.Proofs.YtmpikpodpgnjhaaGreat
namespace Go.Proofs.YtmpikpodpgnjhaaGreat
set_option linter.all false
open Go.Vm
attribute [local simp] mc me ma mb
theorem XS(n:Int)(l:List Lk)(hl:l.length≤1000)(x:Int)(G:List aP):a8 F 36 [.agg [i64 n,lS l],i64 x] G=some (i64 (mP (iA l x)),G) :=
 bV rfl rfl (by
  generalize hW:mP (iA l x)=W;simp (disch:=omega) [-getElem?_pos,wrap64,RG];refine go_loop (fun i:Nat=>acp x (lS l) l.length i G) (fun i=>i≤l.length∧mP (fd (fun i=>decide ((nth l i).f=x)) (l.length-i) i)=W) (fun i=>l.length-i) 0 rfl (by simp) ⟨by omega,hW⟩ ?_
  rintro i ⟨hi,hw⟩;simp (disch:=omega) [-getElem?_pos,wrap64,RF];refine bK (fun h5=>?_) (fun h5=>?_)
  ·have h5:i<l.length:=by omega
   rw[M9 h5]at hw;by_cases h6:(nth l i).f=x
   ·rw[if_pos (by simpa using h6)]at hw
    simp (disch:=omega) [-getElem?_pos,wrap64,bb (l:=l),h6];exact hw
   ·rw[if_neg (by simpa using h6)]at hw
    simp (disch:=omega) [-getElem?_pos,wrap64,bb (l:=l),h6];exact bL (i+1) (by simp) ⟨by omega,hw⟩ (by omega)
  ·obtain rfl:i=l.length:=by omega
   rw[Na]at hw;exact hw)
theorem Kv.zQ{r:Rr}(h:Kv r):∀{j i:Nat},i<j→j<r.l.length→(nth r.l i).f<(nth r.l j).f
 |j+1,i,hi,hj=>by
  have a:=(h.link hj).2.1 (by omega)
  rw[Nat.add_sub_cancel]at a;rcases Nat.lt_or_ge i j with g|g
  ·exact Int.lt_trans (Kv.zQ h g (by omega)) a
  ·obtain rfl:i=j:=by omega
   exact a
theorem Kv.inj{r:Rr}(h:Kv r){i j:Nat}(hi:i<r.l.length)(hj:j<r.l.length)(e:(nth r.l i).f=(nth r.l j).f):i=j:=by
 rcases Nat.lt_trichotomy i j with g|g|g
 ·have:=h.zQ g hj;omega
 ·exact g
 ·have:=h.zQ g hi;omega
structure Pa0(l:List Lk)(n m:Int)(L:List Int):Prop where
 one:n∈L
 last:m∈L
 clo:∀a∈L,a≠m→∀i,i<l.length→(nth l i).f=a→(nth l i).t∈L
 le:(L.length:Int)≤m+1
end Go.Proofs.YtmpikpodpgnjhaaGreat
namespace Go.Proofs.YtmpikpodpgnjhaaGreat
set_option linter.all false
open Go.Vm
abbrev zR(r:Rr):Cs:=⟨r,[]⟩
abbrev NC(a:List Int):Sp:=⟨a,[],[]⟩
theorem apB(r:Rr)(k:Int):jn (zR r).s k=none:=rfl
theorem apC{r:Rr}{p:Sp}{v:Co}{k:Nat}:eM (zR r) p v k=nth v.arr k:=rfl
structure Drw(r:Rr)(a:List Int)(w:List (List Int))(k:Nat):Prop where
 v:∀j,j<k→vE (zR r) (NC a) (b8 (zR r) (NC a) ⟨0,[],w⟩ j) j=0
 arr:∀j,j<a.length→nth (b8 (zR r) (NC a) ⟨0,[],w⟩ k).arr j≤30*(2:Int) ^ k
end Go.Proofs.YtmpikpodpgnjhaaGreat
