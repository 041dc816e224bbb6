/- Parts of the proof, joined: Flo3, Run1, Run2, Pln1, Pln2, Val1, Val2, Wor1, Tar1, Vbt1, Sne1, Cdm1, Blc1, Sam1. -/
import Derived.Test.YtcelmhaoipbdiaaGreatDoorDf
import Derived.Test.YtcelmhaoipbdiaaGreatDoorDa
namespace Go.Proofs.YtcelmhaoipbdiaaGreatDoor
set_option linter.all false
open Go.Vm
attribute [local simp] mK mL lN mJ
theorem apE{l:List Int}{k:Nat}(hd:dA l k){c:Cs}(hc:Cm c){s:List Ds}(hs:nP c s):∃f k',bd F 38 [.bI 0 0,cs c,wo s] [dk l k]=some (fl f,[dk l k'])∧dA l k'∧fC c f∧hB c f 10:=by
 suffices h:∀Q:V→List aT→Prop,(∀f k',dA l k'→fC c f→hB c f 10→Q (fl f) [dk l k'])→gU (bd F) 38 [.bI 0 0,cs c,wo s] [dk l k] Q by
  obtain⟨_,_,h,f,k',rfl,rfl,h1⟩:=h (fun v G=>∃f k',v=fl f∧G=[dk l k']∧dA l k'∧fC c f∧hB c f 10) fun f k' a b d=>⟨f,k',rfl,rfl,a,b,d⟩;exact⟨f,k',h,h1⟩
 intro Q hQ;refine ic rfl rfl ?_;have cv:=nQ hc.lz;have kv:=mo cv.k;have Cn:=hc.small;have hn6:=hc.n;obtain⟨G1,hZ⟩:=aoJ c Cn s (H0 hc.lz hs);have h0:yR c s=.tuple [fl (np c s),i64 0]:=by unfold yR;rw[show xi c s=0 by unfold xi;rw[aA (by have:=hc.lz;omega),aP hs]];rfl
 rw[h0]at hZ;obtain⟨m,k1,n1,jq,hm⟩:=gB hd 6 (by omega)
 have Rw:=(RN hc.lz).2 hs;have Df:=apD (c:=c) (s:=s);generalize np c s=f0 at hZ Rw Df;simp (disch:=omega) [wrap64,WN,hZ,n1];refine go_loop (fun y:Fl×Int×Nat=>ahV (.bI 0 0) y.2.1 c.row [i64 0,.b9,.b9] y.1.row [dk l y.2.2])
  (fun y=>fC c y.1∧(0≤y.2.1∧y.2.1≤10)∧dA l y.2.2∧hB c y.1 (10-y.2.1)) (fun y=>y.2.1.toNat) (f0,m,k1) rfl (by simp) ⟨Rw,by simp only;omega,jq,LM cv.k Df (by simp only;omega)⟩ ?_
 rintro⟨f,x,k⟩ ⟨h1,h2,hd,hh⟩;simp only at h1 h2 hd hh;simp (disch:=omega) [wrap64,WM];refine bS (fun h3=>?_) (fun h3=>?_)
 ·obtain⟨p,k2,n2,fG,hp,ha,hb,vI⟩:=RQ hd (c:=c) (by have:=kv.n;omega) (by have:=cv.s;omega)
  have hs6:=cv.s;have lL:p.a.length≤1000∧p.b.length≤1000∧p.c.length≤1000:=by have:=hp;unfold nn at this;omega
  obtain⟨G2,hS⟩:=apg Cn (H6 cv.k h1) lL;by_cases he:nR c f p=0
  ·rw[wq,aP he]at hS
   have vO:=(LI he).fl;have Am:=LM cv.k (acq (LI he) (by omega) hh).1 (show 10-x+1≤10-(x-1) by omega)
   generalize uW c f p=f2 at hS vO Am;generalize yX c f p=pp at hS;simp (disch:=omega) [wrap64,n2,hS];exact bV (f2,x-1,k2) (by simp) ⟨vO,by simp only;omega,fG,Am⟩ (by simp only;omega)
  ·rw[wq,aA he]at hS
   simp (disch:=omega) [wrap64,n2,hS,decide_eq_false he];exact bV (f,x-1,k2) (by simp) ⟨h1,by simp only;omega,fG,LM cv.k hh (by simp only;omega)⟩ (by simp only;omega)
 ·exact hQ f k hd h1 (LM cv.k hh (by omega))
theorem apG{l:List Int}{k:Nat}(hd:dA l k):∃c f k',bd F 10 [.bI 0 0] [dk l k]=some (.tuple [cs c,fl f],[dk l k'])∧dA l k'∧Cm c∧fC c f∧hB c f 10:=by
 suffices h:∀Q:V→List aT→Prop,(∀c f k',dA l k'→Cm c→fC c f→hB c f 10→Q (.tuple [cs c,fl f]) [dk l k'])→gU (bd F) 10 [.bI 0 0] [dk l k] Q by
  obtain⟨_,_,h,c,f,k',rfl,rfl,h1⟩:=h (fun v G=>∃c f k',v=.tuple [cs c,fl f]∧G=[dk l k']∧dA l k'∧Cm c∧fC c f∧hB c f 10) fun c f k' a b d e=>⟨c,f,k',rfl,rfl,a,b,d,e⟩;exact⟨c,f,k',h,h1⟩
 intro Q hQ;refine ic rfl rfl ?_;obtain⟨c,s,k1,n1,jq,hc,hs⟩:=aoN hd;obtain⟨f,k2,n2,fG,hf,hb⟩:=apE jq hc hs;simp[wrap64,Wu,n1,n2];exact hQ c f k2 fG hc hf hb
instance:Inhabited Sp:=⟨⟨[],[],[]⟩⟩
abbrev uY(l:List Sp):V:=.slice none 3 (l.map Sp.row)
noncomputable def eO(c:Cs)(f:Fl)(l:List Sp):Nat→Fl
 |0=>f
 |k+1=>uW c (eO c f l k) (nth l k)
noncomputable def xn(c:Cs)(f:Fl)(l:List Sp)(k:Nat):Ps:=yX c (eO c f l k) (nth l k)
noncomputable def lT(c:Cs)(f:Fl)(l:List Sp)(k:Nat):List Ps:=(List.range k).map (xn c f l)
theorem acr{c:Cs}{f:Fl}{l:List Sp}{k:Nat}:lT c f l (k+1)=lT c f l k++[xn c f l k]:=by simp[lT,Mq]
@[simp] theorem apH{c:Cs}{f:Fl}{l:List Sp}{k:Nat}:(lT c f l k).length=k:=by simp[lT]
noncomputable def lI(c:Cs)(f:Fl)(l:List Sp):Int:=if ki c f≠0 then ki c f else if 400<l.length then 10 else dI (fun k=>gw c (eO c f l k) (nth l k)) l.length 0
abbrev crX(t:Option Nat)(e:Int):V:=.tuple [.agg [i64 0,.slice t 4 [],.slice t 1 []],.slice t 3 [],i64 e]
noncomputable def ph(t:Option Nat)(c:Cs)(f:Fl)(l:List Sp):V:=if lI c f l=0 then .tuple [fl (eO c f l l.length),.slice t 3 ((lT c f l l.length).map Ps.row),i64 0] else crX t (lI c f l)
theorem R2{c:Cs}{f:Fl}{p:Sp}(hc:eU c=0)(hf:fC c f):nR c f p=gw c f p:=by
 unfold nR ki;rw[aA (by omega:¬ (eU c≠0)),aP hf]
 rfl
theorem LN{c:Cs}{f:Fl}{l:List Sp}(hc:eU c=0)(hf:fC c f):∀k,(∀j,j<k→gw c (eO c f l j) (nth l j)=0)→fC c (eO c f l k)
 |0,_=>hf
 |k+1,h=>by
  have ih:=LN hc hf k fun j hj=>h j (by omega)
  exact(LI (by rw[R2 hc ih];exact h k (by omega))).fl
set_option maxRecDepth 100000 in
set_option maxHeartbeats 1000000 in
theorem acu{c:Cs}(hr:nm c.r){f:Fl}(hf:rA f)(l:List Sp)(hl:l.length≤1000):∃G',bd F 86 [cs c,fl f,uY l] []=some (ph (some 0) c f l,G'):=by
 suffices h:∀Q:V→Prop,Q (ph (some 0) c f l)→gU (bd F) 86 [cs c,fl f,uY l] [] fun v _=>Q v by
  obtain⟨_,G',h,rfl⟩:=h (fun v=>v=ph (some 0) c f l) rfl;exact⟨G',h⟩
 intro Q hQ;refine ic rfl rfl ?_;have hd:=abC c hr f hf;by_cases hz:ki c f=0
 case neg =>
  rw[ph,aA (by unfold lI;rw[aP hz];exact hz),show lI c f l=ki c f by unfold lI;rw[aP hz]]at hQ
  simp (disch:=omega) [-getElem?_pos,wrap64,Kh,hd,hz];exact hQ
 obtain⟨z1,z2⟩:=BL hz;have cv:=nQ z1;have kv:=mo cv.k;by_cases h4:400<l.length
 case pos =>
  have e:lI c f l=10:=by unfold lI;rw[aA (by omega),aP h4]
  have R3:(400:Int)<l.length:=by omega
  rw[ph,aA (by omega),e]at hQ
  simp (disch:=omega) [-getElem?_pos,wrap64,Kh,hd,hz,R3];exact hQ
 have R3:¬ (400:Int)<l.length:=by omega
 have hZ:=abL f.d (H0 z1 z2.2.1);have hwv:=abM f.w (RW cv.k z2.2.2);have e:lI c f l=dI (fun k=>gw c (eO c f l k) (nth l k)) l.length 0:=by unfold lI;rw[aA (by omega),aA h4]
 simp (disch:=omega) [-getElem?_pos,wrap64,Kh,hd,hz,R3,hZ,hwv,AJ,Em];refine go_loop (fun k:Nat=>ais (.slice (some 1058) 3 ((lT c f l k).map Ps.row)) (uY l) l.length k c.row (eO c f l k).row [z0,.b9,.b9] k [.cells [],.cells []])
  (fun k=>k≤l.length∧dI (fun k=>gw c (eO c f l k) (nth l k)) (l.length-k) k=lI c f l∧∀j,j<k→gw c (eO c f l j) (nth l j)=0) (fun k=>l.length-k) 0 rfl (by simp (disch:=omega) [AJ,Em,eO,lT]) ⟨by omega,e.symm,by omega⟩ ?_
 rintro k ⟨hk,hE,hj⟩;have Ew:=LN z1 z2 k hj;simp (disch:=omega) [-getElem?_pos,wrap64,Xg];refine bS (fun h5=>?_) (fun h5=>?_)
 ·have h5:k<l.length:=by omega
  rw[ly h5]at hE;obtain⟨G1,hP⟩:=ab4 hr z1 Ew (nth l k);by_cases h6:gw c (eO c f l k) (nth l k)=0
  ·rw[AL,aP h6]at hP
   simp only[aP h6]at hE;simp (disch:=omega) [-getElem?_pos,wrap64,bg (l:=l),hP];refine bV (k+1) (by simp[acr,eO,xn]) ⟨by omega,hE,fun j mE=>?_⟩ (by omega)
   by_cases g:j=k
   ·rw[g];exact h6
   ·exact hj j (by omega)
  ·rw[AL,aA h6]at hP
   simp only[aA h6]at hE;rw[ph,aA (by omega),← hE]at hQ
   simp (disch:=omega) [-getElem?_pos,wrap64,bg (l:=l),hP,h6];exact hQ
 ·obtain rfl:k=l.length:=by omega
  rw[qD]at hE;have hE:0=lI c f l:=hE;rw[ph,aP hE.symm]at hQ;exact hQ
theorem Cr{α:Type}[Inhabited α]{l:List α}{k i:Nat}:nth (l.drop k) i=nth l (k+i):=by
 simp[nth,List.getD]
theorem LO{c:Cs}{f:Fl}{l:List Sp}{k:Nat}:∀{i:Nat},i≤k→eO c f (l.take k) i=eO c f l i
 |0,_=>rfl
 |i+1,h=>by simp only[eO];rw[LO (by omega),tD (by omega)]
theorem LP{c:Cs}{f:Fl}{l:List Sp}{k:Nat}:∀i:Nat,eO c (eO c f l k) (l.drop k) i=eO c f l (k+i)
 |0=>rfl
 |i+1=>by
  show uW c (eO c (eO c f l k) (l.drop k) i) (nth (l.drop k) i)=uW c (eO c f l (k+i)) (nth l (k+i));rw[LP i,Cr]
theorem apJ{c:Cs}{f:Fl}{l:List Sp}{k m:Nat}:lT c f (l.take k) k++lT c (eO c f l k) (l.drop k) m=lT c f l (k+m):=by
 unfold lT;rw[List.range_add,EU,AV];congr 1
 ·refine EV fun i hi=>?_
  have hi:=AX.1 hi;simp only[xn];rw[LO (by omega),tD hi]
 ·refine EV fun i _=>?_
  simp only[xn,Function.comp];rw[LP,Cr]
structure Ra(c:Cs)(f:Fl)(l:List Sp):Prop where
 c0:eU c=0
 f0:fC c f
 len:l.length≤400
 v:∀k,k<l.length→gw c (eO c f l k) (nth l k)=0
theorem acv{c:Cs}{f:Fl}{l:List Sp}(h:lI c f l=0):Ra c f l:=by
 unfold lI at h;split at h
 ·rename_i h1;exact absurd h h1
 ·rename_i h1
  obtain⟨a,b⟩:=BL (gW h1);split at h
  ·cases h
  ·exact⟨a,b,by omega,fun k hk=>sy h k (by omega) (by omega)⟩
theorem Ra.e{c:Cs}{f:Fl}{l:List Sp}(h:Ra c f l):lI c f l=0:=by
 have hr:ki c f=0:=by unfold ki;rw[aA (by have:=h.c0;omega),aP h.f0]
 have:=h.len;unfold lI;rw[aA (by omega),aA (by omega)]
 exact qY fun j _ hj=>h.v j (by omega)
theorem Ra.at_{c:Cs}{f:Fl}{l:List Sp}(h:Ra c f l){k:Nat}(hk:k≤l.length):fC c (eO c f l k):=LN h.c0 h.f0 k fun j hj=>h.v j (by omega)
theorem Ra.pa{c:Cs}{f:Fl}{l:List Sp}(h:Ra c f l){k:Nat}(hk:k<l.length):Pa c (eO c f l k) (nth l k):=LI (by rw[R2 h.c0 (h.at_ (by omega))];exact h.v k hk)
theorem Ra.take{c:Cs}{f:Fl}{l:List Sp}(h:Ra c f l){k:Nat}(hk:k≤l.length):Ra c f (l.take k) :=
 ⟨h.c0,h.f0,by have:=h.len;simp;omega,fun j hj=>by
  simp at hj;rw[LO (by omega),tD (by omega)]
  exact h.v j (by omega)⟩
theorem Ra.drop{c:Cs}{f:Fl}{l:List Sp}(h:Ra c f l){k:Nat}(hk:k≤l.length):Ra c (eO c f l k) (l.drop k) :=
 ⟨h.c0,h.at_ hk,by have:=h.len;simp;omega,fun j hj=>by
  simp at hj;rw[LP,Cr];exact h.v (k+j) (by omega)⟩
theorem Ra.hB{c:Cs}{f:Fl}{l:List Sp}(h:Ra c f l){M:Int}(hM:0≤M)(hb:hB c f M):∀{k:Nat},k≤l.length→hB c (eO c f l k) (M+k)
 |0,_=>by simpa [eO] using hb
 |k+1,hk=>by
  have:=(acq (h.pa (k:=k) (by omega)) (by omega) (h.hB hM hb (k:=k) (by omega))).1
  rw[show M+((k+1:Nat):Int)=M+k+1 by omega]
  exact this
def Sw(c:Cs)(p:Sp):Prop:=nn c p∧eY p.a 30∧eY p.b 30∧eY p.c 30
abbrev R4(l:List Sp):V:=.slice (some 0) 3 (l.map Sp.row)
theorem apK{l:List Int}{k:Nat}(hd:dA l k){c:Cs}(hn:1≤c.r.n∧c.r.n≤40)(hs:c.s.length≤10){n:Nat}(hm:n≤1000) :
  ∃q k',bd F 13 [.bI 0 0,cs c,i64 n] [dk l k]=some (R4 q,[dk l k'])∧dA l k'∧q.length=n∧∀i,i<n→Sw c (nth q i):=by
 suffices h:∀Q:V→List aT→Prop,(∀q k',dA l k'→q.length=n→(∀i,i<n→Sw c (nth q i))→Q (R4 q) [dk l k'])→gU (bd F) 13 [.bI 0 0,cs c,i64 n] [dk l k] Q by
  obtain⟨_,_,h,q,k',rfl,rfl,h1⟩:=h (fun v G=>∃q k',v=R4 q∧G=[dk l k']∧dA l k'∧q.length=n∧∀i,i<n→Sw c (nth q i)) fun q k' a b d=>⟨q,k',rfl,rfl,a,b,d⟩;exact⟨q,k',h,h1⟩
 intro Q hQ;refine ic rfl rfl ?_;simp (disch:=omega) [wrap64,Wy];refine go_loop (fun y:List Sp×Nat=>ahv (.bI 0 0) (.slice (some 1016) 3 (y.1.map Sp.row)) n y.1.length c.row y.1.length [dk l y.2]) (fun y=>y.1.length≤n∧dA l y.2∧∀i,i<y.1.length→Sw c (nth y.1 i)) (fun y=>n-y.1.length) ([],k) rfl (by simp) ⟨by simp,hd,fun i hi=>absurd hi (by simp)⟩ ?_
 rintro⟨q,k⟩ ⟨h1,hd,hq⟩;simp only at h1 hd hq;simp (disch:=omega) [wrap64,Wx];refine bS (fun h5=>?_) (fun h5=>?_)
 ·obtain⟨p,k2,n2,fG,hp⟩:=RQ hd (c:=c) hn hs
  simp (disch:=omega) [wrap64,n2];refine bV (q++[p],k2) (by simp) ⟨by simp;omega,fG,fun i hi=>?_⟩ (by simp;omega)
  simp only[po,p7]at hi;rw[iS];by_cases g:i<q.length
  ·rw[aP g];exact hq i g
  ·rw[aA g,aP (by omega)];exact hp
 ·obtain e:q.length=n:=by omega
  exact hQ q k hd e (fun i hi=>hq i (by omega))
structure Pn where
 f:Int
 l:List (List Int)
abbrev Pn.row(p:Pn):List V:=[i64 p.f,pf p.l]
abbrev pn(p:Pn):V:=.agg p.row
noncomputable def H7(c:Cs)(l:List (List Int))(i:Nat):Int:=if (nth l i).length=c.s.length then (if eY (nth l i) 1073741824 then 0 else 1) else 51
noncomputable def uZ(c:Cs)(p:Pn):Int:=if eU c≠0 then eU c else if 0≤p.f∧p.f≤16777216 then (if 96<p.l.length then 10 else dI (H7 c p.l) p.l.length 0) else 6
theorem apL(n:Int)(G:List aT):bd F 69 [i64 n] G=some (.bool (!decide (0≤n∧n≤1073741824)),G) :=
 bX rfl rfl (by
  simp[wrap64,Xa];by_cases h1:n<0
  ·simp[wrap64,h1,show ¬ 0≤n by omega]
  ·simp[wrap64,h1,show 0≤n by omega]
   by_cases h2:n≤1073741824
   ·simp[wrap64,h2,show ¬ 1073741824<n by omega]
   ·simp[wrap64,h2,show 1073741824<n by omega])
theorem apM(c:Cs)(hr:nm c.r)(p:Pn)(G:List aT):bd F 25 [cs c,pn p] G=some (i64 (uZ c p),G) :=
 bX rfl rfl (by
  obtain⟨t,l⟩:=p;generalize hW:uZ c ⟨t,l⟩=W;unfold uZ at hW;simp only at hW;have h0:=RF c hr;by_cases h1:eU c=0
  case neg =>
   rw[aP h1]at hW;simp (disch:=omega) [-getElem?_pos,wrap64,DP,h0,h1];exact hW
  rw[aA (by omega)]at hW
  have hs:=(nQ h1).s;by_cases h2:0≤t∧t≤16777216
  case neg =>
   rw[aA h2]at hW;rcases (by omega:t<0∨(¬t<0∧16777216<t)) with a | ⟨a,b⟩
   ·simp (disch:=omega) [-getElem?_pos,wrap64,DP,h0,h1,a]
    exact hW
   ·simp (disch:=omega) [-getElem?_pos,wrap64,DP,h0,h1,a,b]
    exact hW
  rw[aP h2]at hW;have a:¬ t<0:=by omega
  have b:¬ 16777216<t:=by omega
  by_cases h3:96<l.length
  ·rw[aP h3]at hW
   have iK:(96:Int)<l.length:=by omega
   simp (disch:=omega) [-getElem?_pos,wrap64,DP,h0,h1,a,b,iK];exact hW
  rw[aA h3]at hW;have iK:¬ (96:Int)<l.length:=by omega
  simp (disch:=omega) [-getElem?_pos,wrap64,DP,h0,h1,a,b,iK];refine go_loop (fun i:Nat=>ahQ (pf l) l.length i c.row G) (fun i=>i≤l.length∧dI (H7 c l) (l.length-i) i=W) (fun i=>l.length-i) 0 rfl (by simp) ⟨by omega,hW⟩ ?_
  rintro i ⟨hi,hq⟩;simp (disch:=omega) [-getElem?_pos,wrap64,WJ];refine bS (fun h5=>?_) (fun h5=>?_)
  ·have h5:i<l.length:=by omega
   rw[ly h5]at hq;unfold H7 at hq;by_cases h6:(nth l i).length=c.s.length
   ·rw[aP h6]at hq
    have hc:=Re (nth l i) (by omega) (fun n => !decide (0≤n∧n≤1073741824)) 69 G (fun n=>apL n G)
    rw[ab3]at hc;by_cases h7:eY (nth l i) 1073741824
    ·rw[aP h7]at hq
     simp (disch:=omega) [-getElem?_pos,wrap64,bg (l:=l),h6,hc,h7];exact bV (i+1) (by simp) ⟨by omega,hq⟩ (by omega)
    ·rw[aA h7]at hq
     simp (disch:=omega) [-getElem?_pos,wrap64,bg (l:=l),h6,hc,h7];exact hq
   ·rw[aA h6]at hq
    have il:¬ ((nth l i).length:Int)=c.s.length:=by omega
    simp (disch:=omega) [-getElem?_pos,wrap64,bg (l:=l),il];exact hq
  ·obtain rfl:i=l.length:=by omega
   rw[nc]at hq;exact hq)
noncomputable def rH(c:Cs)(f:Fl)(p:Pn)(n:Nat):Int:=if uZ c p≠0 then uZ c p else if fC c f then (if p.f=f.t then (if n=p.l.length then 0 else 3) else 6) else 50
def kl(p:Pn)(l:List Sp):List Sp:=(List.range l.length).map fun i=>⟨(nth l i).a,(nth l i).b,nth p.l i⟩
theorem sU{p:Pn}{l:List Sp}:(kl p l).length=l.length:=by simp[kl]
theorem H8{p:Pn}{l:List Sp}{i:Nat}(h:i<l.length):nth (kl p l) i=⟨(nth l i).a,(nth l i).b,nth p.l i⟩:=by
 simp[nth,kl,List.getD,h]
noncomputable def pZ(c:Cs)(f:Fl)(p:Pn)(l:List Sp):Int:=if rH c f p l.length≠0 then rH c f p l.length else lI c f (kl p l)
noncomputable def LR(t:Option Nat)(c:Cs)(f:Fl)(p:Pn)(l:List Sp):V:=if rH c f p l.length=0 then ph t c f (kl p l) else crX t (rH c f p l.length)
structure Bg(c:Cs)(f:Fl)(p:Pn)(n:Nat):Prop where
 c0:eU c=0
 f0:fC c f
 t:p.f=f.t
 len:n=p.l.length
 c9:n≤96
 e:∀i,i<n→(nth p.l i).length=c.s.length∧eY (nth p.l i) 1073741824
theorem R5{c:Cs}{f:Fl}{p:Pn}{n:Nat}(h:rH c f p n=0):Bg c f p n:=by
 unfold rH at h;split at h
 ·rename_i h1;exact absurd h h1
 ·rename_i h1
  have h1:=gW h1;unfold uZ at h1;split at h1
  ·rename_i h2;exact absurd h1 h2
  ·rename_i h2
   split at h1
   ·split at h1
    ·cases h1
    ·split at h
     ·split at h
      ·split at h
       ·rename_i h3 h4 h5 h6
        refine⟨gW h2,h4,h5,h6,by omega,fun i hi=>?_⟩
        have h7:=sy h1 i (by omega) (by omega)
        unfold H7 at h7;split at h7
        ·split at h7
         ·exact⟨by assumption,by assumption⟩
         ·cases h7
        ·cases h7
       ·cases h
      ·cases h
     ·cases h
   ·cases h1
theorem Bg.rd{c:Cs}{f:Fl}{p:Pn}{n:Nat}(h:Bg c f p n):ki c f=0:=by
 unfold ki;rw[aA (by have:=h.c0;omega),aP h.f0]
theorem Bg.cr{c:Cs}{f:Fl}{p:Pn}{l:List Sp}(h:Bg c f p l.length):lI c f (kl p l)=dI (fun k=>gw c (eO c f (kl p l) k) (nth (kl p l) k)) l.length 0:=by
 have:=h.c9;unfold lI;rw[aA (by have:=h.rd;omega),sU,aA (by omega)]
abbrev R6(c:Cs)(p:Pn)(g:V):V:=.agg [i64 c.r.n,nk c.r.l,sQ c.s,i64 p.f,pf p.l,g]
theorem apO(f:Fl)(l:List Int)(G:List aT):bd F 63 [fl f,ints l] G=some (ints l,G) :=
 bX rfl rfl (by simp[wrap64,W4])
theorem acx(c:Cs)(hr:nm c.r){f:Fl}(hf:rA f)(p:Pn)(q:FuncId)(cap:List V)(l:List Sp)(G:List aT):bd F 43 [R6 c p (.fn q cap),fl f,uY l] G=some (i64 (rH c f p l.length),G) :=
 bX rfl rfl (by
  have h0:=apM c hr p;have h1:=aoz c hr f hf;unfold rH;by_cases a:uZ c p=0
  case neg=>simp (disch:=omega) [-getElem?_pos,wrap64,DQ,h0,a]
  have hc:eU c=0:=by
   unfold uZ at a;split at a
   ·rename_i h;exact absurd a h
   ·rename_i h;exact gW h
  by_cases b:fC c f
  case neg=>simp (disch:=omega) [-getElem?_pos,wrap64,DQ,h0,a,h1,b]
  by_cases d:p.f=f.t
  case neg=>simp (disch:=omega) [-getElem?_pos,wrap64,DQ,h0,a,h1,hc,b,d]
  obtain⟨t,pl⟩:=p;obtain rfl:t=f.t:=d;by_cases e:l.length=pl.length
  ·simp (disch:=omega) [-getElem?_pos,wrap64,DQ,h0,a,h1,hc,b,e]
  ·have e':¬ (l.length:Int)=pl.length:=by omega
   simp (disch:=omega) [-getElem?_pos,wrap64,DQ,h0,a,h1,hc,b,e,e'])
set_option maxRecDepth 100000 in
set_option maxHeartbeats 1000000 in
theorem apP{c:Cs}(hr:nm c.r){f:Fl}(hf:rA f){p:Pn}{l:List Sp}(hb:Bg c f p l.length)(G:List aT) :
  bd F 45 [R6 c p (.fn 63 []),fl f,uY l] G=some (ph (some 0) c f (kl p l),G):=by
 suffices h:∀Q:V→List aT→Prop,Q (ph (some 0) c f (kl p l)) G→gU (bd F) 45 [R6 c p (.fn 63 []),fl f,uY l] G Q by
  obtain⟨_,G',h,rfl,rfl⟩:=h (fun v G'=>v=ph (some 0) c f (kl p l)∧G'=G) ⟨rfl,rfl⟩;exact h
 intro Q hQ;refine ic rfl rfl ?_;have z1:=hb.c0;have z2:=hb.f0;have cv:=nQ z1;have kv:=mo cv.k;have hn:=hb.len;have hm:=hb.c9;obtain⟨G0,vr⟩:=acu hr hf [] (by simp)
 rw[ph,aP (by unfold lI;rw[aA (by have:=hb.rd;omega)];rfl)]at vr
 simp only[eO,sX,lT,List.range_zero,EW]at vr;rw[show uY []=.slice none 3 [] from rfl]at vr;have e:=hb.cr;generalize hq:kl p l=q at e hQ;have oQ:q.length=l.length:=by rw[←hq,sU]
 simp (disch:=omega) [-getElem?_pos,wrap64,Pc,vr];refine go_loop (fun k:Nat=>ah3 (uY l) (.slice (some 1070) 3 ((lT c f q k).map Ps.row)) (pf p.l) p.l.length k [i64 c.r.n,nk c.r.l,sQ c.s,i64 p.f,pf p.l,.fn 63 []] (eO c f q k).row [z0,.b9,.b9] k G)
  (fun k=>k≤l.length∧dI (fun k=>gw c (eO c f q k) (nth q k)) (l.length-k) k=lI c f q∧∀j,j<k→gw c (eO c f q j) (nth q j)=0) (fun k=>l.length-k) 0 rfl (by simp[eO,lT]) ⟨by omega,e.symm,by omega⟩ ?_
 rintro k ⟨hk,hE,hj⟩;have Ew:=LN z1 z2 k hj;simp (disch:=omega) [-getElem?_pos,wrap64,Pb];refine bS (fun h5=>?_) (fun h5=>?_)
 ·have h5:k<l.length:=by omega
  rw[ly h5]at hE;have Cu:nth q k=⟨(nth l k).a,(nth l k).b,nth p.l k⟩:=by rw[←hq,H8 h5]
  obtain⟨t1,G1,hP⟩:=ao4 hr (H6 cv.k Ew) (nth q k);rw[wq,R2 z1 Ew]at hP;have hs:=apO (eO c f q k) (nth p.l k) G;rw[Cu]at hP;by_cases h6:gw c (eO c f q k) (nth q k)=0
  ·rw[←Cu,aP h6,Cu]at hP
   simp only[aP h6]at hE;simp (disch:=omega) [-getElem?_pos,wrap64,bg (l:=l),bg (l:=p.l),hs,hP];refine bV (k+1) (by simp[acr,eO,xn,Cu]) ⟨by omega,hE,fun j mE=>?_⟩ (by omega)
   by_cases g:j=k
   ·rw[g];exact h6
   ·exact hj j (by omega)
  ·rw[←Cu,aA h6,Cu]at hP
   simp only[aA h6]at hE;rw[ph,aA (by omega),← hE]at hQ
   rw[Cu]at h6 hQ;simp (disch:=omega) [-getElem?_pos,wrap64,bg (l:=l),bg (l:=p.l),hs,hP,h6];exact hQ
 ·obtain rfl:k=l.length:=by omega
  rw[qD]at hE;have hE:0=lI c f q:=hE;rw[ph,aP hE.symm,oQ]at hQ;exact hQ
theorem LS{c:Cs}(hr:nm c.r){f:Fl}(hf:rA f)(p:Pn)(l:List Sp)(G:List aT):∃X,(pZ c f p l=0→X=LR (some 0) c f p l) ∧
  (pZ c f p l≠0→∃t u,X=.tuple [.agg [i64 0,.slice t 4 [],.slice t 1 []],.slice u 3 [],i64 (pZ c f p l)])∧bd F 21 [cs c,fl f,pn p,uY l] G=some (X,G):=by
 have h0:=acx c hr hf p 63 [] l;unfold LR pZ;by_cases hz:rH c f p l.length=0
 ·have h1:=apP hr hf (R5 hz)
  simp only[aP hz,aA (show ¬ rH c f p l.length≠0 from fun g=>g hz)];by_cases hy:lI c f (kl p l)=0
  ·refine⟨_,fun _=>rfl,fun h=>absurd hy h,?_⟩
   simp only[ph,aP hy]at h1 ⊢;exact bX rfl rfl (by simp[wrap64,Kd,h0,hz,h1])
  ·refine⟨_,fun h=>absurd h hy,fun _=>⟨none,some 0,rfl⟩,?_⟩
   simp only[ph,aA hy]at h1 ⊢;exact bX rfl rfl (by simp[wrap64,Kd,h0,hz,h1])
 ·simp only[aA hz,aP (show rH c f p l.length≠0 from hz)]
  exact⟨_,fun _=>rfl,fun _=>⟨some 0,some 0,rfl⟩,bX rfl rfl (by simp[wrap64,Kd,h0,hz])⟩
end Go.Proofs.YtcelmhaoipbdiaaGreatDoor
namespace Go.Proofs.YtcelmhaoipbdiaaGreatDoor
set_option linter.all false
open Go.Vm
def acy(s p:List Int)(i:Nat):Int :=
 if (i=0∧nth s i≠0)∨(0<i∧nth s i≤nth s (i-1)) then 4
 else if 95<nth s i∨nth p i<0∨10000<nth p i then 1 else 0
def acz(s p:List Int):Nat→Nat→Int
 |0,_=>0
 |m+1,i=>if acy s p i=0 then acz s p m (i+1) else acy s p i
def lz(s p:List Int):Int :=
 if s.length=0∨s.length≠p.length then 3 else if 96<s.length then 10 else acz s p s.length 0
end Go.Proofs.YtcelmhaoipbdiaaGreatDoor
namespace Go.Proofs.YtcelmhaoipbdiaaGreatDoor
set_option linter.all false
open Go.Vm
def li(s:List Int)(k:Int):Nat→Nat
 |0=>0
 |m+1=>if nth s m≤k then m else li s k m
def pr(s p:List Int)(t:Int):Int:=nth p (li s (t.tmod 96) s.length)
structure Valid(s p:List Int):Prop where
 pos:0<s.length
 len:s.length=p.length
 kb:s.length≤96
 zero:nth s 0=0
 up:∀i,i+1<s.length→nth s i<nth s (i+1)
 top:∀i,i<s.length→0≤nth s i∧nth s i≤95
 awT:∀i,i<s.length→0≤nth p i∧nth p i≤10000
theorem awU{s:List Int}{k:Int}{m:Nat}:li s k (m+1)=if nth s m≤k then m else li s k m:=rfl
end Go.Proofs.YtcelmhaoipbdiaaGreatDoor
namespace Go.Proofs.YtcelmhaoipbdiaaGreatDoor
set_option linter.all false
open Go.Vm
instance:Inhabited Ps:=⟨⟨[],[],[]⟩⟩
def H9(q:Int):List Dr→Int→Option Int
 |[],n=>some n
 |r::rs,n=>if r.pow<0∨8589934592<r.pow then none else H9 q rs (IntKind.i64.wrap (n+IntKind.i64.wrap (r.pow*q)))
def R7(s p:List Int)(t:Int):List Ps→Int→Option Int
 |[],n=>some n
 |x::l,n=>match H9 (pr s p t) x.re n with
  |none=>none
  |some n=>R7 s p (t+1) l n
def big(l:List Ps):Bool:=l.any fun x=>decide (6<x.re.length)
theorem awV{l:List Ps}{i:Nat}(h:i<l.length):big (l.drop i)=(decide (6<(nth l i).re.length) || big (l.drop (i+1))):=by
 rw[rj h];rfl
theorem awW{s p:List Int}{t n:Int}{l:List Ps}{i:Nat}(h:i<l.length):R7 s p t (l.drop i) n=match H9 (pr s p t) (nth l i).re n with
  |none=>none
  |some n=>R7 s p (t+1) (l.drop (i+1)) n:=by
 rw[rj h];rfl
theorem awX{q n:Int}{l:List Dr}{i:Nat}(h:i<l.length):H9 q (l.drop i) n=if (nth l i).pow<0∨8589934592<(nth l i).pow then none else H9 q (l.drop (i+1)) (IntKind.i64.wrap (n+IntKind.i64.wrap ((nth l i).pow*q))):=by
 rw[rj h];rfl
end Go.Proofs.YtcelmhaoipbdiaaGreatDoor
namespace Go.Proofs.YtcelmhaoipbdiaaGreatDoor
set_option linter.all false
open Go.Vm
end Go.Proofs.YtcelmhaoipbdiaaGreatDoor
namespace Go.Proofs.YtcelmhaoipbdiaaGreatDoor
set_option linter.all false
open Go.Vm
attribute [local simp] mK mL lN mJ
abbrev R8(l:List (List Int)):V:=.slice (some 0) 1 (l.map fun p=>[ints p])
theorem apQ{l:List Int}{k:Nat}(hd:dA l k){c:Cs}(hn:1≤c.r.n∧c.r.n≤40)(hs:c.s.length≤10)(t:Int){n:Nat}(hm:n≤1000) :
  ∃p k',bd F 12 [.bI 0 0,cs c,i64 t,i64 n] [dk l k]=some (.agg [i64 t,R8 p],[dk l k'])∧dA l k'∧p.length=n:=by
 suffices h:∀Q:V→List aT→Prop,(∀p k',dA l k'→p.length=n→Q (.agg [i64 t,R8 p]) [dk l k'])→gU (bd F) 12 [.bI 0 0,cs c,i64 t,i64 n] [dk l k] Q by
  obtain⟨_,_,h,q,k',rfl,rfl,h1⟩:=h (fun v G=>∃p k',v=.agg [i64 t,R8 p]∧G=[dk l k']∧dA l k'∧p.length=n) fun p k' a b=>⟨p,k',rfl,rfl,a,b⟩;exact⟨q,k',h,h1⟩
 intro Q hQ;refine ic rfl rfl ?_;simp (disch:=omega) [wrap64,Ww];refine go_loop (fun y:List (List Int)×Nat=>ahs (.bI 0 0) n y.1.length c.row [z0,.b9] [i64 t,.slice (some 1022) 1 (y.1.map fun p=>[ints p])] y.1.length [dk l y.2]) (fun y=>y.1.length≤n∧dA l y.2) (fun y=>n-y.1.length) ([],k) rfl (by simp) ⟨by simp,hd⟩ ?_
 rintro⟨p,k⟩ ⟨h1,hd⟩;simp only at h1 hd;simp (disch:=omega) [wrap64,Wv];refine bS (fun h5=>?_) (fun h5=>?_)
 ·obtain⟨q,k2,n2,fG,hp⟩:=RQ hd (c:=c) hn hs
  simp (disch:=omega) [wrap64,n2];exact bV (p++[q.c],k2) (by simp) ⟨by simp;omega,fG⟩ (by simp;omega)
 ·obtain e:p.length=n:=by omega
  exact hQ p k hd e
theorem LU{t:Option Nat}{c:Cs}{f:Fl}{p:Pn}{l:List Sp}(h:pZ c f p l=0) :
  LR t c f p l=.tuple [fl (eO c f (kl p l) l.length),.slice t 3 ((lT c f (kl p l) l.length).map Ps.row),i64 0]:=by
 unfold pZ at h;split at h
 ·rename_i h1;exact absurd h h1
 ·rename_i h1
  unfold LR ph;rw[aP (gW h1),aP h,sU]
end Go.Proofs.YtcelmhaoipbdiaaGreatDoor
namespace Go.Proofs.YtcelmhaoipbdiaaGreatDoor
set_option linter.all false
open Go.Vm
abbrev Ia:Rc:=⟨[0,1],1⟩
abbrev kA:Cs:=⟨⟨2,[⟨0,1,Ia⟩]⟩,[]⟩
theorem Ib:eT Ia=0:=by
 unfold eT;rw[aA (by decide),aA (by decide),aP,aP (by decide)]
 intro i hi;have:i=0∨i=1:=by simp at hi;omega
 rcases this with rfl|rfl<;>decide
theorem apR:jx kA.r=0:=by
 unfold jx;rw[aA (by decide)]
 show(if lE kA.r 0=0 then (0:Int) else lE kA.r 0)=0
 have:lE kA.r 0=0:=by
  unfold lE;simp only;rw[aP (by decide),aA (by decide),aA (by decide)]
  exact Ib
 rw[aP this]
theorem acC:eU kA=0:=by
 unfold eU;rw[aA (fun g=>g apR),aA (by decide),aA (by decide)]
 rfl
theorem LV:∀p:List Int,p=[]∨p=[7]→im Ia p:=fun p h=>by
 rcases h with rfl|rfl
 ·exact⟨by decide,by decide,fun i hi=>by simp at hi⟩
 ·refine⟨by decide,by decide,fun i hi=>?_⟩
  have:i=0:=by simp at hi;omega
  subst this;decide
theorem apS:gq Ia [] 7=0:=by
 unfold gq;rw[aA (fun g=>g Ib),aP (LV _ (.inl rfl)),aP];refine⟨by decide,fun i hi=>?_⟩
 have:i=0∨i=1:=by simp at hi;omega
 rcases this with rfl|rfl<;>decide
theorem apT:gq Ia [7] 0=0:=by
 unfold gq;rw[aA (fun g=>g Ib),aP (LV _ (.inr rfl)),aP];refine⟨by decide,fun i hi=>?_⟩
 have:i=0∨i=1:=by simp at hi;omega
 rcases this with rfl|rfl<;>decide
abbrev Ey:Sp:=⟨[7,0],[],[]⟩
abbrev Ez:Sp:=⟨[0,0],[],[]⟩
abbrev EA:Fl:=⟨0,[],[[]]⟩
abbrev EB:Fl:=⟨1,[],[[7]]⟩
theorem apU:fC kA EA:=⟨by decide,⟨rfl,by simp⟩,rfl,fun i hi=>by
 have:i=0:=by simp at hi;omega
 subst this;exact⟨Ib,LV _ (.inl rfl)⟩⟩
theorem apV:fC kA EB:=⟨by decide,⟨rfl,by simp⟩,rfl,fun i hi=>by
 have:i=0:=by simp at hi;omega
 subst this;exact⟨Ib,LV _ (.inr rfl)⟩⟩
theorem AO(k:Int):kV kA.s k=none:=rfl
theorem LW:lR kA.r.l ((0:Nat):Int)=some 0:=rfl
theorem LX:lR kA.r.l ((1:Nat):Int)=none:=rfl
theorem acD:cz kA Ey EA 1=⟨[7,0],[],[[7]],[],[7],[0]⟩:=by
 show vS kA Ey ⟨[7,0],[],[[]],[],[],[]⟩ 0=_;unfold vS vL vD fk;rw[AO,LW];rfl
theorem awY:cz kA Ey EA 2=⟨[7,0],[],[[7]],[],[7,0],[0]⟩:=by
 show vS kA Ey (cz kA Ey EA 1) 1=_;rw[acD];unfold vS vL vD fk;rw[AO,LX];rfl
theorem acE:cz kA Ez EB 1=⟨[0,7],[],[[]],[],[0],[7]⟩:=by
 show vS kA Ez ⟨[0,0],[],[[7]],[],[],[]⟩ 0=_;unfold vS vL vD fk;rw[AO,LW];rfl
theorem awZ:cz kA Ez EB 2=⟨[0,7],[],[[]],[],[0,7],[7]⟩:=by
 show vS kA Ez (cz kA Ez EB 1) 1=_;rw[acE];unfold vS vL vD fk;rw[AO,LX];rfl
theorem acF{l:List Int}(h:∀x∈l,x=0∨x=7):eY l 1073741824:=fun i hi=>by
 have:=h _ (rp hi);omega
theorem aw0:nR kA EA Ey=0:=by
 unfold nR;have hr:ki kA EA=0:=by unfold ki;rw[aA (fun g=>g acC),aP apU]
 rw[aA (fun g=>g hr)];unfold gw;rw[aP (by decide),aP (acF (by simp)),aA (by decide)]
 refine qY fun k _ hk=>?_;have:k=0∨k=1:=by have:kA.r.n.toNat=2:=rfl;omega
 rcases this with rfl|rfl
 ·unfold vE mq oI fk
  rw[AO,LW];exact apS
 ·unfold vE mq oI fk
  rw[acD,AO,LX];rfl
theorem aw1:nR kA EB Ez=0:=by
 unfold nR;have hr:ki kA EB=0:=by unfold ki;rw[aA (fun g=>g acC),aP apV]
 rw[aA (fun g=>g hr)];unfold gw;rw[aP (by decide),aP (acF (by simp)),aA (by decide)]
 refine qY fun k _ hk=>?_;have:k=0∨k=1:=by have:kA.r.n.toNat=2:=rfl;omega
 rcases this with rfl|rfl
 ·unfold vE mq oI fk
  rw[AO,LW];exact apT
 ·unfold vE mq oI fk
  rw[acE,AO,LX];rfl
abbrev cw:V:=.agg [i64 2,.slice none 4 [[i64 0,i64 1,.slice none 1 [[i64 0],[i64 1]],i64 1]],.slice none 10 []]
end Go.Proofs.YtcelmhaoipbdiaaGreatDoor
namespace Go.Proofs.YtcelmhaoipbdiaaGreatDoor
set_option linter.all false
open Go.Vm
noncomputable abbrev fin(c:Cs)(p:Sp)(f:Fl):Co:=cz c p f c.r.n.toNat
theorem acG{c:Cs}{l:List Int}{j:Int}:∀{m:Nat},(∀i,i<m→0≤nth l i∧nth l i≤1125899906842624)→0≤nS c l j m∧nS c l j m≤1125899906842624*m
 |0,_=>by simp[nS]
 |m+1,h=>by
  have:=acG (c:=c) (j:=j) fun i hi=>h i (SS hi);have:=h m (by omega)
  simp only[nS];split<;>omega
end Go.Proofs.YtcelmhaoipbdiaaGreatDoor
namespace Go.Proofs.YtcelmhaoipbdiaaGreatDoor
set_option linter.all false
open Go.Vm
attribute [local simp] mK mL lN mJ
theorem R9{a b:List Int}(h:a.length=b.length)(e:∀i,i<a.length→nth a i=nth b i):a=b:=by
 refine Mg h fun i h1 h2=>?_;have:=e i h1;simpa [nth,h1,h2] using this
theorem apW(a b:List Int)(ha:a.length≤17592186044416)(G:List aT):bd F 71 [ints a,ints b] G=some (.bool (decide (a=b)),G) :=
 bX rfl rfl (by
  generalize hW:decide (a=b)=W;by_cases h1:a.length=b.length
  case neg =>
   have gN:¬ (a.length:Int)=b.length:=by omega
   simp (disch:=omega) [-getElem?_pos,wrap64,Ph,gN];rw[←hW,decide_eq_false fun h=>h1 (by rw[h])]
  have gN:(a.length:Int)=b.length:=by omega
  simp (disch:=omega) [-getElem?_pos,wrap64,Ph,gN];refine go_loop (fun i:Nat=>ain (ints a) (ints b) b.length i G) (fun i=>i≤a.length∧∀j,j<i→nth a j=nth b j) (fun i=>a.length-i) 0 rfl (by simp) (by simp) ?_
  rintro i ⟨hi,hj⟩;simp (disch:=omega) [-getElem?_pos,wrap64,Xc];refine bS (fun h5=>?_) (fun h5=>?_)
  ·have h5:i<b.length:=by omega
   have h6:i<a.length:=by omega
   by_cases h7:nth a i=nth b i
   ·simp (disch:=omega) [-getElem?_pos,wrap64,dV (l:=a),dV (l:=b),h7]
    exact bV (i+1) (by simp) ⟨by omega,fun j mE=>by
     by_cases g:j=i
     ·rw[g];exact h7
     ·exact hj j (by omega)⟩ (by omega)
   ·simp (disch:=omega) [-getElem?_pos,wrap64,dV (l:=a),dV (l:=b),h7]
    rw[←hW,decide_eq_false fun h=>h7 (by rw[h])]
  ·rw[←hW,fL (R9 h1 fun j mE=>hj j (by omega))])
theorem acH(a b:List Int)(ha:a.length≤17592186044416)(G:List aT):bd F 110 [ints a,ints b] G=some (.bool (decide (a=b)),G) :=
 bX rfl rfl (by
  generalize hW:decide (a=b)=W;by_cases h1:a.length=b.length
  case neg =>
   have gN:¬ (a.length:Int)=b.length:=by omega
   simp (disch:=omega) [-getElem?_pos,wrap64,Pz,gN];rw[←hW,decide_eq_false fun h=>h1 (by rw[h])]
  have gN:(a.length:Int)=b.length:=by omega
  simp (disch:=omega) [-getElem?_pos,wrap64,Pz,gN];refine go_loop (fun i:Nat=>ajj (ints a) (ints b) b.length i G) (fun i=>i≤a.length∧∀j,j<i→nth a j=nth b j) (fun i=>a.length-i) 0 rfl (by simp) (by simp) ?_
  rintro i ⟨hi,hj⟩;simp (disch:=omega) [-getElem?_pos,wrap64,XF];refine bS (fun h5=>?_) (fun h5=>?_)
  ·have h5:i<b.length:=by omega
   have h6:i<a.length:=by omega
   by_cases h7:nth a i=nth b i
   ·simp (disch:=omega) [-getElem?_pos,wrap64,dV (l:=a),dV (l:=b),h7]
    exact bV (i+1) (by simp) ⟨by omega,fun j mE=>by
     by_cases g:j=i
     ·rw[g];exact h7
     ·exact hj j (by omega)⟩ (by omega)
   ·simp (disch:=omega) [-getElem?_pos,wrap64,dV (l:=a),dV (l:=b),h7]
    rw[←hW,decide_eq_false fun h=>h7 (by rw[h])]
  ·rw[←hW,fL (R9 h1 fun j mE=>hj j (by omega))])
def LY(c:Cs)(p:Sp)(x:Ps)(j:Nat):Int:=nth p.a j+nS c x.cm j c.r.l.length
def lkP(c:Cs)(f g:Fl)(x:Ps)(i:Nat):Prop :=
 sm (nth g.w i) (nth g.w i).length-sm (nth f.w i) (nth f.w i).length=(nth c.r.l i).r.den*(nth x.lf (nth c.r.l i).f.toNat-nth x.cm i)
noncomputable def siQ(c:Cs)(f g:Fl)(p:Sp)(x:Ps)(i:Nat):Prop:=abf (nth f.d i) (nth g.d i) (nth x.re i)∧(nth x.re i).inf=LY c p x (nth c.s i).n.toNat
noncomputable def Ic(c:Cs)(p:Sp)(x:Ps)(j:Nat):Int:=match kV c.s j with
 |none=>LY c p x j
 |some i=>pg (nth x.re i)
structure blL(c:Cs)(f g:Fl)(p:Sp)(x:Ps):Prop where
 c0:eU c=0
 f0:fC c f
 g0:fC c g
 p0:nn c p
 re:x.re.length=c.s.length
 lf:(x.lf.length:Int)=c.r.n
 cm:x.cm.length=c.r.l.length
structure blP(c:Cs)(f g:Fl)(p:Sp)(x:Ps):Prop where
 l:blL c f g p x
 all:eY (p.a++x.lf++x.cm) 274877906944
 lk:∀i,i<c.r.l.length→lkP c f g x i
 si:∀i,i<c.s.length→siQ c f g p x i
 le:∀j,j<c.r.n.toNat→nth x.lf j=Ic c p x j
noncomputable instance {c:Cs} {f g:Fl} {p:Sp} {x:Ps}:Decidable (blP c f g p x):=Classical.propDecidable _
structure Bn(p:Sp)(x:Ps):Prop where
 a:∀j,j<p.a.length→0≤nth p.a j∧nth p.a j≤274877906944
 lf:∀j,j<x.lf.length→0≤nth x.lf j∧nth x.lf j≤274877906944
 cm:∀j,j<x.cm.length→0≤nth x.cm j∧nth x.cm j≤274877906944
theorem Bn.ts{c:Cs}{p:Sp}{x:Ps}(h:Bn p x){j:Int}{m:Nat}(hm:m≤x.cm.length):0≤nS c x.cm j m∧nS c x.cm j m≤1125899906842624*m :=
 acG fun i hi=>by have:=h.cm i (by omega);omega
theorem ap0{c:Cs}{l:List (List Int)}(h:Ck c l){i:Nat}(hi:i<c.r.l.length):(nth l i).length≤40∧eY (nth l i) 2251799813685248:=by
 have a:=h.2 i hi;have:=(tF a.1).len;exact⟨by have:=a.2.1;omega,a.2.2.2⟩
end Go.Proofs.YtcelmhaoipbdiaaGreatDoor
namespace Go.Proofs.YtcelmhaoipbdiaaGreatDoor
set_option linter.all false
open Go.Vm
theorem Cy{α:Type}[Inhabited α]{a b:List α}(h:a.length=b.length)(e:∀i,i<a.length→nth a i=nth b i):a=b:=by
 refine Mg h fun i h1 h2=>?_;have:=e i h1;simpa [nth,h1,h2] using this
theorem ap1(a b:Us):eA [0,0,1] a.row b.row=some (decide (a=b)):=by
 obtain⟨x,y,z⟩:=a;obtain⟨u,v,w⟩:=b;simp[eA,jU,Us.mk.injEq,Bool.decide_and,lN];cases z<;>cases w<;>simp
theorem ap2(a b:Gs):eA [0,1] a.row b.row=some (decide (a=b)):=by
 obtain⟨x,y⟩:=a;obtain⟨u,v⟩:=b;simp[eA,jU,Gs.mk.injEq,Bool.decide_and,lN];cases y<;>cases v<;>simp
noncomputable instance:DecidableEq Ds:=fun _ _=>Classical.propDecidable _
noncomputable instance:DecidableEq Fl:=fun _ _=>Classical.propDecidable _
def dsL(s:Ds):Prop:=s.u.length≤5864062014805∧s.g.length≤8796093022208
def flL(f:Fl):Prop:=(f.d.length≤1000000000∧∀i,i<f.d.length→dsL (nth f.d i))∧f.w.length≤1000000000∧∀i,i<f.w.length→(nth f.w i).length≤17592186044416
end Go.Proofs.YtcelmhaoipbdiaaGreatDoor
