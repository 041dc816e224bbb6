/- Parts of the proof, joined: Cas4, Cas5, Mk5, Flo1, Cas6, Cas7, Cas8, Cas9, Cas10, Cas11, Flo2, Cas12, Bal1. -/
import Derived.Test.YtcelmhaoipbdiaaGreatDoorDe
import Derived.Test.YtcelmhaoipbdiaaGreatDoorDd
namespace Go.Proofs.YtcelmhaoipbdiaaGreatDoor
set_option linter.all false
open Go.Vm
attribute [local simp] mK mL lN mJ
def fd(p:Nat→Bool):Nat→Nat→Option Nat
 |0,_=>none
 |m+1,i=>if p i then some i else fd p m (i+1)
theorem abO{p:Nat→Bool}{i n:Nat}(h:i<n):fd p (n-i) i=if p i then some i else fd p (n-(i+1)) (i+1):=by
 obtain⟨m,hm⟩:∃m,n-i=m+1:=⟨n-i-1,by omega⟩
 rw[hm,fd,show n-(i+1)=m by omega]
theorem abP{p:Nat→Bool}{n:Nat}:fd p (n-n) n=none:=by rw[qD];rfl
theorem yQ{p:Nat→Bool}:∀{m i k:Nat},fd p m i=some k→(i≤k∧k<i+m)∧p k=true∧∀j,i≤j→j<k→p j=false
 |0,i,k,h=>by simp[fd]at h
 |m+1,i,k,h=>by
  unfold fd at h;split at h
  ·rename_i h1;cases h;exact⟨by omega,h1,fun j a b=>by omega⟩
  ·rename_i h1
   have:=yQ h;refine⟨by omega,this.2.1,fun j a b=>?_⟩
   by_cases hj:j=i
   ·subst hj;simpa using h1
   ·exact this.2.2 j (by omega) b
theorem RL{p:Nat→Bool}:∀{m i:Nat},fd p m i=none→∀j,i≤j→j<i+m→p j=false
 |0,i,_,j,a,b=>by omega
 |m+1,i,h,j,a,b=>by
  unfold fd at h;split at h
  ·cases h
  ·rename_i h1
   by_cases hj:j=i
   ·subst hj;simpa using h1
   ·exact RL h j (by omega) (by omega)
def tI:Option Nat→Int
 |some k=>k
 |none => -1
def kV(s:List Si)(n:Int):Option Nat:=fd (fun i=>decide ((nth s i).n=n)) s.length 0
def lR(l:List Lk)(n:Int):Option Nat:=fd (fun i=>decide ((nth l i).f=n)) l.length 0
theorem aoB(s:List Si)(hs:s.length≤1000)(n:Int){k:Nat}{G:List aT}(hG:G[k]?=some (.cells [i64 n])) :
  bd F 200 [sQ s,.fn 201 [.bI k 0]] G=some (i64 (tI (kV s n)),G) :=
 bX rfl rfl (by
  generalize hW:tI (kV s n)=W;have hp:∀x:Si,bd F 201 [.agg x.row,.bI k 0] G=some (.bool (decide (x.n=n)),G):=fun x=>bX rfl rfl (by
   simp (disch:=omega) [-getElem?_pos,wrap64,YZ,hG])
  simp (disch:=omega) [-getElem?_pos,wrap64,YY];refine go_loop (fun i:Nat=>akQ (sQ s) (.fn 201 [.bI k 0]) s.length i G) (fun i=>i≤s.length∧tI (fd (fun i=>decide ((nth s i).n=n)) (s.length-i) i)=W) (fun i=>s.length-i) 0 rfl (by simp) ⟨by omega,hW⟩ ?_
  rintro i ⟨hi,hq⟩;simp (disch:=omega) [-getElem?_pos,wrap64,YX];refine bS (fun h5=>?_) (fun h5=>?_)
  ·have h5:i<s.length:=by omega
   rw[abO h5]at hq;simp (disch:=omega) [-getElem?_pos,wrap64,bg (l:=s),hp];refine bS (fun h6=>?_) (fun h6=>?_)
   ·rw[aP (fL h6)]at hq
    exact hq
   ·rw[aA (by simp[h6])]at hq
    exact bV (i+1) (by simp) ⟨by omega,hq⟩ (by omega)
  ·obtain rfl:i=s.length:=by omega
   rw[abP]at hq;exact hq)
theorem aoC(s:List Lk)(hs:s.length≤1000)(n:Int){k:Nat}{G:List aT}(hG:G[k]?=some (.cells [i64 n])) :
  bd F 204 [nk s,.fn 205 [.bI k 0]] G=some (i64 (tI (lR s n)),G) :=
 bX rfl rfl (by
  generalize hW:tI (lR s n)=W;have hp:∀x:Lk,bd F 205 [.agg x.row,.bI k 0] G=some (.bool (decide (x.f=n)),G):=fun x=>bX rfl rfl (by
   simp (disch:=omega) [-getElem?_pos,wrap64,Y3,hG])
  simp (disch:=omega) [-getElem?_pos,wrap64,Y2];refine go_loop (fun i:Nat=>akS (nk s) (.fn 205 [.bI k 0]) s.length i G) (fun i=>i≤s.length∧tI (fd (fun i=>decide ((nth s i).f=n)) (s.length-i) i)=W) (fun i=>s.length-i) 0 rfl (by simp) ⟨by omega,hW⟩ ?_
  rintro i ⟨hi,hq⟩;simp (disch:=omega) [-getElem?_pos,wrap64,Y1];refine bS (fun h5=>?_) (fun h5=>?_)
  ·have h5:i<s.length:=by omega
   rw[abO h5]at hq;simp (disch:=omega) [-getElem?_pos,wrap64,bg (l:=s),hp];refine bS (fun h6=>?_) (fun h6=>?_)
   ·rw[aP (fL h6)]at hq
    exact hq
   ·rw[aA (by simp[h6])]at hq
    exact bV (i+1) (by simp) ⟨by omega,hq⟩ (by omega)
  ·obtain rfl:i=s.length:=by omega
   rw[abP]at hq;exact hq)
theorem aoD(x:Int)(G:List aT):bd F 176 [i64 x] G=some (.bool (!decide (0≤x∧x≤1073741824)),G) :=
 bX rfl rfl (by
  by_cases h1:x<0
  ·rw[decide_eq_false (by omega)]
   simp[wrap64,Kx,h1]
  ·by_cases h2:1073741824<x
   ·rw[decide_eq_false (by omega)]
    simp[wrap64,Kx,h1,h2]
   ·rw[fL (by omega)]
    simp[wrap64,Kx,h1,h2])
theorem aoE(a b c:List Int)(h:a.length+b.length+c.length≤1000)(G:List aT):bd F 175 [.slice none 1 [[ints a],[ints b],[ints c]]] G=some (ints (a++b++c),G) :=
 bX rfl rfl (by
  simp (disch:=omega) [wrap64,YI,YF,YE,YH,YG,yu];refine bS (fun g=>absurd g (by omega)) (fun _=>bS (fun g=>absurd g (by omega)) (fun _=>bS (fun g=>absurd g (by omega)) (fun _=>?_)))
  simp (disch:=omega) [wrap64,Ot (l:=a++(b++c)) (n:=a.length+b.length+c.length) (by simp;omega)])
structure Sp where
 a:List Int
 b:List Int
 c:List Int
abbrev Sp.row(p:Sp):List V:=[ints p.a,ints p.b,ints p.c]
abbrev sv(p:Sp):V:=.agg p.row
def nn(c:Cs)(p:Sp):Prop:=(p.a.length:Int)=c.r.n∧p.b.length=c.s.length∧p.c.length=c.s.length
instance {c:Cs} {p:Sp}:Decidable (nn c p):=inferInstanceAs (Decidable (_∧_∧_))
theorem aoF(c:Cs)(p:Sp)(G:List aT):bd F 174 [cs c,sv p] G=some (.bool (decide (nn c p)),G) :=
 bX rfl rfl (by
  obtain⟨⟨n,l⟩,s⟩:=c;obtain⟨a,b,c⟩:=p;generalize hW:decide (nn ⟨⟨n,l⟩,s⟩ ⟨a,b,c⟩)=W;have no:¬ nn ⟨⟨n,l⟩,s⟩ ⟨a,b,c⟩→W=false:=fun h=>by rw[←hW];simp[h]
  have yes:nn ⟨⟨n,l⟩,s⟩ ⟨a,b,c⟩→W=true:=fun h=>by rw[←hW];simp[h]
  unfold nn at no yes;simp only at no yes;by_cases h1:(a.length:Int)=n
  ·by_cases h2:(b.length:Int)=s.length
   ·by_cases h3:(c.length:Int)=s.length
    ·simp[wrap64,He,h1,h2,h3]
     exact yes (by omega)
    ·simp[wrap64,He,h1,h2,h3]
     exact no (by omega)
   ·simp[wrap64,He,h1,h2]
    exact no (by omega)
  ·simp[wrap64,He,h1]
   exact no (by omega))
theorem RM(l:List Int)(hl:l.length≤1000)(m:Int)(G:List aT):bd F 58 [ints l,i64 m] G=some (.bool (decide (eY l m)),G) :=
 bX rfl rfl (by
  generalize hW:decide (eY l m)=W;simp (disch:=omega) [-getElem?_pos,wrap64,W1];refine go_loop (fun i:Nat=>aic m (ints l) l.length i G) (fun i=>i≤l.length∧∀j,j<i→0≤nth l j∧nth l j≤m) (fun i=>l.length-i) 0 rfl (by simp) (by simp) ?_
  rintro i ⟨hi,hj⟩;simp (disch:=omega) [-getElem?_pos,wrap64,W0];refine bS (fun h5=>?_) (fun h5=>?_)
  ·have h5:i<l.length:=by omega
   by_cases h6:0≤nth l i∧nth l i≤m
   ·have il:(decide (0≤nth l i)&&decide (nth l i≤m))=true:=by simp;exact h6
    simp (disch:=omega) [-getElem?_pos,wrap64,dV (l:=l),El,il];refine bV (i+1) (by simp) ⟨by omega,fun j h7=>?_⟩ (by omega)
    rcases cF j i with h8|h8
    ·exact hj j h8
    ·rwa [show j=i by omega]
   ·have il:(decide (0≤nth l i)&&decide (nth l i≤m))=false:=by simp;omega
    simp (disch:=omega) [-getElem?_pos,wrap64,dV (l:=l),El,il];rw[←hW,decide_eq_false (fun g:eY l m=>h6 (g i h5))]
  ·obtain rfl:i=l.length:=by omega
   rw[←hW,fL (show eY l m from hj)])
structure Kv(r:Rr):Prop where
 n:1≤r.n∧r.n≤40
 e:∀i,i<r.l.length→lE r i=0
theorem mo{r:Rr}(h:jx r=0):Kv r:=by
 unfold jx at h;split at h
 ·cases h
 ·exact⟨by omega,fun i hi=>sy h i (by omega) (by omega)⟩
theorem Kv.link{r:Rr}(h:Kv r){i:Nat}(hi:i<r.l.length):(0≤(nth r.l i).f∧(nth r.l i).f<(nth r.l i).t∧(nth r.l i).t≤r.n-1)∧(0<i→(nth r.l (i-1)).f<(nth r.l i).f)∧eT (nth r.l i).r=0:=by
 have he:=h.e i hi;unfold lE at he;simp only at he;split at he
 ·split at he
  ·cases he
  ·split at he
   ·cases he
   ·exact⟨by omega,fun h0=>by omega,he⟩
 ·cases he
theorem Kv.up{r:Rr}(h:Kv r):∀{i:Nat},i<r.l.length→(i:Int)≤(nth r.l i).f
 |0,hi=>by have:=(h.link hi).1;omega
 |i+1,hi=>by
  have:=h.up (i:=i) (by omega)
  have:=(h.link hi).2.1 (by omega)
  simp only[qC]at this;omega
theorem Kv.len{r:Rr}(h:Kv r):r.l.length≤39:=by
 have h1:=h.n;by_cases h0:r.l.length=0
 ·omega
 ·have h2:=h.up (i:=r.l.length-1) (by omega)
  have h3:=(h.link (i:=r.l.length-1) (by omega)).1
  omega
theorem abQ:∀n:Nat,kH [some 1] (List.replicate n [V.b9])=some (List.replicate n [ints []])
 |0=>rfl
 |n+1=>by rw[zC,kH,abQ n];rfl
theorem aoG{n:Nat}:kH [some 1] (chunks 1 (List.replicate n V.b9) 0 n)=some (List.replicate n [ints []]):=by
 rw[Gr _ _ _ rfl (by simp),tM,kG (by simp),Iz]
 exact abQ n
theorem abR:∀n:Nat,(List.replicate n [V.b9]).flatten=List.replicate n V.b9
 |0=>rfl
 |n+1=>by rw[zC,sV,abR n];rfl
theorem aoH(r:Rr)(hr:nm r)(G:List aT):bd F 121 [rr r] G=some (.tuple (if jx r=0 then [pf (List.replicate r.l.length []),i64 0] else [.slice (some 0) 1 [],i64 (jx r)]),G) :=
 bX rfl rfl (by
  have h1:=RD r hr;have h2:=RE r hr;obtain⟨n,l⟩:=r;by_cases hz:jx ⟨n,l⟩=0
  ·have hl:=(mo hz).len
   simp only at hl;rw[aP hz];simp (disch:=omega) [wrap64,PD,h1,h2,hz,abR,aoG]
  ·rw[aA hz]
   simp (disch:=omega) [wrap64,PD,h1,h2,hz])
noncomputable def xi(c:Cs)(l:List Ds):Int:=if eU c≠0 then eU c else if nP c l then 0 else 3
def np(c:Cs)(l:List Ds):Fl:=⟨0,l,List.replicate c.r.l.length []⟩
noncomputable def yR(c:Cs)(l:List Ds):V:=.tuple (if xi c l=0 then [fl (np c l),i64 0] else [.agg [i64 0,.slice (some 0) 4 [],.slice (some 0) 1 []],i64 (xi c l)])
theorem H0{c:Cs}(h:eU c=0){l:List Ds}(hl:nP c l):HZ l:=by
 have h6:=(nQ h).s;have h7:=hl.1;refine⟨by omega,fun i hi=>?_⟩
 have h8:=hl.2 i (by omega)
 have h9:=yM h8.1;have a:=h9.u;have b:=h9.g;have c:=h8.2.2.2.1;have d:=h8.2.2.2.2.1;omega
theorem RN{c:Cs}(h:eU c=0){l:List Ds}:fC c (np c l)↔nP c l:=by
 refine⟨fun g=>g.2.1,fun g=>⟨by simp[np],g,by simp[np],fun i hi=>?_⟩⟩
 have hk:=(mo (nQ h).k).link hi;refine⟨hk.2.2,?_⟩;have e:nth (np c l).w i=[]:=by simp[np,nth,hi]
 rw[e];exact⟨by simp,by simp,fun j hj=>by simp at hj⟩
theorem aoI(c:Cs)(l:List Ds):rA (np c l):=fun i=>by
 rcases cF i c.r.l.length with h|h
 ·simp[np,nth,h]
 ·have e:nth (np c l).w i=[]:=by
   simp[np,nth,kF (show(List.replicate c.r.l.length ([]:List Int)).length≤i by simpa using h)]
   rfl
  rw[e];simp
theorem aoJ(c:Cs)(hr:nm c.r)(l:List Ds)(HT:HZ l):∃G',bd F 80 [cs c,wo l] []=some (yR c l,G'):=by
 have h1:=RG c hr;by_cases hz:eU c=0
 ·have h3:=aoH c.r hr
  rw[aP (nQ hz).k]at h3;have h4:=abN l HT;have h5:=abD c hr (np c l) (aoI c l);by_cases hs:nP c l
  ·rw[fL ⟨hz,(RN hz).2 hs⟩]at h5
   rw[show yR c l=.tuple [fl (np c l),i64 0] by unfold yR;rw[show xi c l=0 by unfold xi;rw[aA (by omega),aP hs]];rfl]
   refine⟨[.cells []],bX rfl rfl ?_⟩;simp only[fl,Fl.row,np,pf,Iz]at h5;simp[wrap64,Kg,h1,hz,h3,h4,h5,AJ,np]
  ·rw[decide_eq_false (fun g=>hs ((RN hz).1 g.2))]at h5
   rw[show yR c l=.tuple [.agg [i64 0,.slice (some 0) 4 [],.slice (some 0) 1 []],i64 3] by unfold yR;rw[show xi c l=3 by unfold xi;rw[aA (by omega),aA hs]];rfl]
   refine⟨[.cells []],bX rfl rfl ?_⟩;simp only[fl,Fl.row,np,pf,Iz]at h5;simp[wrap64,Kg,h1,hz,h3,h4,h5,AJ]
 ·rw[show yR c l=.tuple [.agg [i64 0,.slice (some 0) 4 [],.slice (some 0) 1 []],i64 (eU c)] by unfold yR;rw[show xi c l=eU c by unfold xi;rw[aP hz]];rw[aA hz]]
  refine⟨[],bX rfl rfl ?_⟩;simp[wrap64,Kg,h1,hz]
theorem abS{l:List Int}{a:Int}:∀{i:Nat},i≤l.length→sm (l++[a]) i=sm l i
 |0,_=>rfl
 |i+1,h=>by
  simp only[sm];rw[abS (by omega),qp (by omega)]
theorem aoK{l:List Int}{a:Int}:sm (l++[a]) (l.length+1)=sm l l.length+a:=by
 simp only[sm];rw[abS (bR _),iS,aA (by omega),aP rfl]
abbrev xj(l:List Int):V:=.slice (some 0) 1 (l.map fun n=>[i64 n])
abbrev RO(r:Rc):V:=.agg [xj r.w,i64 r.den]
theorem aoL{l:List Int}{k:Nat}(hd:dA l k):∃r k',bd F 117 [.bI 0 0] [dk l k]=some (RO r,[dk l k'])∧dA l k'∧eT r=0∧r.w.length≤5:=by
 suffices h:∀Q:V→List aT→Prop,(∀r k',dA l k'→eT r=0→r.w.length≤5→Q (RO r) [dk l k'])→gU (bd F) 117 [.bI 0 0] [dk l k] Q by
  obtain⟨_,_,h,r,k',rfl,rfl,h1⟩:=h (fun v G=>∃r k',v=RO r∧G=[dk l k']∧dA l k'∧eT r=0∧r.w.length≤5) fun r k' a b c=>⟨r,k',rfl,rfl,a,b,c⟩;exact⟨r,k',h,h1⟩
 intro Q hQ;refine ic rfl rfl ?_;obtain⟨m,k1,n1,jq,hm⟩:=gB hd 5 (by omega)
 simp (disch:=omega) [wrap64,XM,n1];refine go_loop (fun s:List Int×Int×Int×Nat=>ajt (.bI 0 0) s.2.2.1 [.b9,i64 0] [.slice (some 1022) 1 (s.1.map fun n=>[i64 n]),i64 s.2.1] s.1.length [dk l s.2.2.2])
  (fun s=>s.2.1=sm s.1 s.1.length∧(∀i,i<s.1.length→0≤nth s.1 i∧nth s.1 i≤4)∧(s.1.length:Int)+s.2.2.1+1≤5 ∧ -1≤s.2.2.1∧(s.2.2.1 = -1→0<s.1.length∧1≤nth s.1 (s.1.length-1))∧dA l s.2.2.2) (fun s=>(s.2.2.1+1).toNat)
  ([],0,m,k1) rfl (by simp) ⟨rfl,by simp,by simp;omega,by simp only;omega,by simp only;omega,jq⟩ ?_
 rintro⟨w,den,x,k⟩ ⟨h1,h2,h3,h4,h5,hd⟩;simp only at h1 h2 h3 h4 h5 hd;have Cn:=Ci (l:=w) (b:=4) (i:=w.length) h2;obtain⟨a,k2,n2,fG,ha⟩:=gB hd 4 (by omega)
 simp (disch:=omega) [wrap64,XL];refine bS (fun h6=>?_) (fun h6=>?_)
 ·have key:∀b:Int,(0≤b∧b≤4)→(x=0→1≤b)→((den+b=sm (w++[b]) (w++[b]).length)∧(∀i,i<(w++[b]).length→0≤nth (w++[b]) i∧nth (w++[b]) i≤4)∧((w++[b]).length:Int)+(x-1)+1≤5 ∧ -1≤x-1∧(x-1 = -1→0<(w++[b]).length∧1≤nth (w++[b]) ((w++[b]).length-1))∧dA l k2):=fun b hb Df=>by
   refine⟨by rw[po,p7,aoK,h1],fun i hi=>?_,by simp;omega,by omega,fun g=>⟨by simp,?_⟩,fG⟩
   ·rw[iS]
    simp at hi;split
    ·exact h2 i (by assumption)
    ·rw[aP (by omega)];exact hb
   ·rw[po,p7,qC,iS,aA (by omega),aP rfl]
    exact Df (by omega)
  by_cases h7:x=0
  ·subst h7
   simp (disch:=omega) [wrap64,n2];exact bV (w++[a+1],den+(a+1),-1,k2) (by simp) (key (a+1) (by omega) (fun _=>by omega)) (by simp)
  ·simp (disch:=omega) [wrap64,n2,h7]
   exact bV (w++[a],den+a,x-1,k2) (by simp) (key a (by omega) (fun g=>absurd g h7)) (by simp only;omega)
 ·have hx:x = -1:=by omega
  obtain⟨h8,h9⟩:=h5 hx;refine hQ ⟨w,den⟩ k hd ?_ (by simp only;omega)
  unfold eT;simp only;rw[aA (by omega),aA (by omega),aP (show eY w 10000 from fun i hi=>by have:=h2 i hi;omega),aP h1.symm]
structure Rm(m:Int)(l:List Lk)(n:Int):Prop where
 link:∀i,i<l.length→0≤(nth l i).f∧(nth l i).f<(nth l i).t∧(nth l i).t≤m-1∧(nth l i).f<n∧eT (nth l i).r=0∧(nth l i).r.w.length≤5
 up:∀i,0<i→i<l.length→(nth l (i-1)).f<(nth l i).f
 len:(l.length:Int)≤n
theorem Rm.snoc{m:Int}{l:List Lk}{n:Int}(h:Rm m l n)(hn:0≤n){x:Lk}(h1:x.f=n)(h2:n<x.t)(h3:x.t≤m-1)(h4:eT x.r=0)(h5:x.r.w.length≤5):Rm m (l++[x]) (n+1):=by
 refine⟨fun i hi=>?_,fun i h0 hi=>?_,by have:=h.len;simp;omega⟩
 ·simp at hi
  rw[iS];split
  ·have:=h.link i (by assumption);omega
  ·rw[aP (by omega)];omega
 ·simp at hi
  rw[iS,iS,aP (by omega)]
  split
  ·exact h.up i h0 (by assumption)
  ·rw[aP (by omega),h1]
   exact(h.link (i-1) (by omega)).2.2.2.1
theorem Rm.skip{m:Int}{l:List Lk}{n:Int}(h:Rm m l n):Rm m l (n+1) :=
 ⟨fun i hi=>by have:=h.link i hi;omega,h.up,by have:=h.len;omega⟩
theorem Rm.lz{m:Int}{l:List Lk}{n:Int}(h:Rm m l n)(hm:1≤m∧m≤40):jx ⟨m,l⟩=0:=by
 unfold jx;rw[aA (by simp only;omega)]
 refine qY fun i _ hi=>?_;have hi:i<l.length:=by simp only at hi;omega
 have a:=h.link i hi;show(if (0≤(nth l i).f∧(nth l i).f≤m-1)∧(0≤(nth l i).t∧(nth l i).t≤m-1) then (if (nth l i).t≤(nth l i).f then 12 else if 0<i∧(nth l i).f≤(nth l (i-1)).f then 4 else eT (nth l i).r) else 11)=0
 rw[aP (by omega),aA (by omega),aA (fun g=>by have:=h.up i g.1 hi;omega)]
 exact a.2.2.2.2.1
abbrev RP(l:List Lk):V:=.slice (some 0) 4 (l.map Lk.row)
theorem aoM{l:List Int}{k:Nat}(hd:dA l k):∃r k',bd F 78 [.bI 0 0] [dk l k]=some (.agg [i64 r.n,RP r.l],[dk l k'])∧dA l k'∧jx r=0∧r.n≤6∧∀i,i<r.l.length→(nth r.l i).r.w.length≤5:=by
 suffices h:∀Q:V→List aT→Prop,(∀r k',dA l k'→jx r=0→r.n≤6→(∀i,i<r.l.length→(nth r.l i).r.w.length≤5)→Q (.agg [i64 r.n,RP r.l]) [dk l k'])→gU (bd F) 78 [.bI 0 0] [dk l k] Q by
  obtain⟨_,_,h,r,k',rfl,rfl,h1⟩:=h (fun v G=>∃r k',v=.agg [i64 r.n,RP r.l]∧G=[dk l k']∧dA l k'∧jx r=0∧r.n≤6∧∀i,i<r.l.length→(nth r.l i).r.w.length≤5) fun r k' a b c d=>⟨r,k',rfl,rfl,a,b,c,d⟩;exact⟨r,k',h,h1⟩
 intro Q hQ;refine ic rfl rfl ?_;obtain⟨a,k1,n1,jq,ha⟩:=gB hd 6 (by omega)
 obtain⟨m,hm⟩:∃m:Int,1+a=m:=⟨_,rfl⟩;simp (disch:=omega) [wrap64,Xe,n1,hm];refine go_loop (fun s:List Lk×Int×Nat=>aip (.bI 0 0) s.2.1 [i64 0,.b9] [i64 m,.slice (some 1036) 4 (s.1.map Lk.row)] s.1.length [dk l s.2.2])
  (fun s=>Rm m s.1 s.2.1∧(0≤s.2.1∧s.2.1<m)∧dA l s.2.2) (fun s=>(m-s.2.1).toNat) ([],0,k1) rfl (by simp) ⟨⟨by simp,by simp,by simp⟩,by simp only;omega,jq⟩ ?_
 rintro⟨ls,n,k⟩ ⟨h1,h2,hd⟩;simp only at h1 h2 hd;have kK:=h1.len;obtain⟨b,k2,n2,fG,hb⟩:=gB hd 6 (by omega)
 simp (disch:=omega) [wrap64,Xd];refine bS (fun h6=>?_) (fun h6=>?_)
 ·by_cases h7:0<b
  ·obtain⟨e,k3,n3,mM,he⟩:=gB fG (m-n-1) (by omega)
   obtain⟨r,k4,n4,sJ,qc,od⟩:=aoL mM;simp (disch:=omega) [wrap64,n2,h7,n3,n4];exact bV (ls++[⟨n,n+1+e,r⟩],n+1,k4) (by simp) ⟨h1.snoc h2.1 rfl (by simp only;omega) (by simp only;omega) qc od,by simp only;omega,sJ⟩ (by simp only;omega)
  ·simp (disch:=omega) [wrap64,n2,h7]
   exact bV (ls,n+1,k2) (by simp) ⟨h1.skip,by simp only;omega,fG⟩ (by simp only;omega)
 ·refine hQ ⟨m,ls⟩ k hd (h1.lz (by omega)) (by simp only;omega) fun i hi=>(h1.link i hi).2.2.2.2.2
structure Cm(c:Cs):Prop where
 lz:eU c=0
 n:c.r.n≤6
 s:c.s.length≤3
 w:∀i,i<c.r.l.length→(nth c.r.l i).r.w.length≤5
theorem Cm.small{c:Cs}(h:Cm c):nm c.r:=by
 have:=(mo (nQ h.lz).k).len;exact⟨by omega,fun i hi=>by have:=h.w i hi;omega⟩
structure Sm(m:Int)(s:List Si)(l:List Ds)(n:Int):Prop where
 len:l.length=s.length
 three:s.length≤3
 site:∀i,i<s.length→(0≤(nth s i).n∧(nth s i).n<m∧(nth s i).n<n)∧fw (nth s i).d=0∧g8 (nth s i).d (nth l i)
 up:∀i,0<i→i<s.length→(nth s (i-1)).n<(nth s i).n
abbrev Lx(l:List Si):V:=.slice (some 0) 10 (l.map Si.row)
abbrev Ly(l:List Ds):V:=.slice (some 0) 4 (l.map Ds.row)
theorem Sm.snoc{m:Int}{s:List Si}{l:List Ds}{n:Int}(h:Sm m s l n)(h3:s.length<3)(hn:0≤n∧n<m){d:Dm}{x:Ds}(h1:fw d=0)(h2:g8 d x):Sm m (s++[⟨n,d⟩]) (l++[x]) (n+1):=by
 refine⟨by simp[h.len],by simp;omega,fun i hi=>?_,fun i h0 hi=>?_⟩
 ·simp at hi
  rw[iS,iS,h.len];split
  ·have:=h.site i (by assumption)
   exact⟨by omega,this.2⟩
  ·rw[aP (by omega),aP (by omega)];exact⟨by simp only;omega,h1,h2⟩
 ·simp at hi
  rw[iS,iS,aP (by omega)]
  split
  ·exact h.up i h0 (by assumption)
  ·rw[aP (by omega)]
   exact(h.site (i-1) (by omega)).1.2.2
theorem Sm.skip{m:Int}{s:List Si}{l:List Ds}{n:Int}(h:Sm m s l n):Sm m s l (n+1) :=
 ⟨h.len,h.three,fun i hi=>⟨by have:=h.site i hi;omega,(h.site i hi).2⟩,h.up⟩
theorem Sm.lz{r:Rr}{s:List Si}{l:List Ds}{n:Int}(h:Sm r.n s l n)(hk:jx r=0)(h6:r.n≤6):eU ⟨r,s⟩=0:=by
 unfold eU;simp only;have h3:=h.three;rw[aA (by omega),aA (by omega),aA (by omega)]
 refine qY fun i _ hi=>?_;have hi:i<s.length:=by omega
 have a:=h.site i hi;show(if 0≤(nth s i).n∧(nth s i).n<r.n then (if 0<i∧(nth s i).n≤(nth s (i-1)).n then 4 else fw (nth s i).d) else 41)=0
 rw[aP (by omega),aA (fun g=>by have:=h.up i g.1 hi;omega)]
 exact a.2.1
theorem aoN{l:List Int}{k:Nat}(hd:dA l k):∃c s k',bd F 37 [.bI 0 0] [dk l k]=some (.tuple [.agg [i64 c.r.n,nk c.r.l,Lx c.s],Ly s],[dk l k'])∧dA l k'∧Cm c∧nP c s:=by
 suffices h:∀Q:V→List aT→Prop,(∀c s k',dA l k'→Cm c→nP c s→Q (.tuple [.agg [i64 c.r.n,nk c.r.l,Lx c.s],Ly s]) [dk l k'])→gU (bd F) 37 [.bI 0 0] [dk l k] Q by
  obtain⟨_,_,h,c,s,k',rfl,rfl,h1⟩:=h (fun v G=>∃c s k',v=.tuple [.agg [i64 c.r.n,nk c.r.l,Lx c.s],Ly s]∧G=[dk l k']∧dA l k'∧Cm c∧nP c s) fun c s k' a b d=>⟨c,s,k',rfl,rfl,a,b,d⟩;exact⟨c,s,k',h,h1⟩
 intro Q hQ;refine ic rfl rfl ?_;obtain⟨r,k1,n1,jq,hk,hn,hw⟩:=aoM hd;have jw:=(mo hk).n;simp (disch:=omega) [wrap64,WL,n1];refine go_loop (fun s:List Si×List Ds×Int×Nat=>ahS (.bI 0 0) (.slice (some 1043) 4 (s.2.1.map Ds.row)) s.2.2.1 [i64 0,.b9,.b9] [i64 r.n,nk r.l,.slice (some 1039) 10 (s.1.map Si.row)] s.1.length s.2.1.length [dk l s.2.2.2])
  (fun s=>Sm r.n s.1 s.2.1 s.2.2.1∧(0≤s.2.2.1∧s.2.2.1≤r.n)∧dA l s.2.2.2) (fun s=>(r.n-s.2.2.1).toNat) ([],[],0,k1) rfl (by simp) ⟨⟨rfl,by simp,by simp,by simp⟩,by simp only;omega,jq⟩ ?_
 rintro⟨s,d,n,k⟩ ⟨h1,h2,hd⟩;simp only at h1 h2 hd;have h3:=h1.three;have hl:=h1.len;have fin:Q (.tuple [.agg [i64 r.n,nk r.l,Lx s],Ly d]) [dk l k]:=hQ ⟨r,s⟩ d k hd ⟨h1.lz hk hn,hn,h3,hw⟩ ⟨hl,fun i hi=>(h1.site i hi).2⟩;by_cases h4:n<r.n
 ·by_cases h5:s.length<3
  ·have yN:(s.length:Int)<3:=by omega
   obtain⟨b,k2,n2,fG,hb⟩:=gB hd 2 (by omega)
   by_cases h6:b=0
   ·obtain⟨dd,x,k3,n3,mM,wj⟩:=anX fG
    simp (disch:=omega) [wrap64,GO,h4,yN,n2,h6,n3];exact bV (s++[⟨n,dd⟩],d++[x],n+1,k3) (by simp[hl]) ⟨h1.snoc h5 (by omega) wj.lz wj.fit,by simp only;omega,mM⟩ (by simp only;omega)
   ·simp (disch:=omega) [wrap64,GO,h4,yN,n2,h6]
    exact bV (s,d,n+1,k2) (by simp) ⟨h1.skip,by simp only;omega,fG⟩ (by simp only;omega)
  ·have yN:¬ (s.length:Int)<3:=by omega
   simp (disch:=omega) [wrap64,GO,h4,yN];exact fin
 ·simp (disch:=omega) [wrap64,GO,h4]
  exact fin
theorem RQ{l:List Int}{k:Nat}(hd:dA l k){c:Cs}(hn:1≤c.r.n∧c.r.n≤40)(hs:c.s.length≤10) :
  ∃p k',bd F 39 [.bI 0 0,cs c] [dk l k]=some (.agg [xj p.a,xj p.b,xj p.c],[dk l k'])∧dA l k'∧nn c p∧eY p.a 30∧eY p.b 30∧eY p.c 30:=by
 suffices h:∀Q:V→List aT→Prop,(∀p k',dA l k'→nn c p→eY p.a 30→eY p.b 30→eY p.c 30→Q (.agg [xj p.a,xj p.b,xj p.c]) [dk l k'])→gU (bd F) 39 [.bI 0 0,cs c] [dk l k] Q by
  obtain⟨_,_,h,p,k',rfl,rfl,h1⟩:=h (fun v G=>∃p k',v=.agg [xj p.a,xj p.b,xj p.c]∧G=[dk l k']∧dA l k'∧nn c p∧eY p.a 30∧eY p.b 30∧eY p.c 30) fun p k' a b d e g=>⟨p,k',rfl,rfl,a,b,d,e,g⟩;exact⟨p,k',h,h1⟩
 intro Q hQ;refine ic rfl rfl ?_;obtain⟨⟨n,r⟩,s⟩:=c;simp only at hn hs;have snoc:∀{a:List Int} {x:Int},eY a 30→(0≤x∧x≤30)→eY (a++[x]) 30:=fun h hx i hi=>by
  simp at hi;rw[iS];split
  ·exact h i (by assumption)
  ·rw[aP (by omega)];exact hx
 simp (disch:=omega) [wrap64,WR];refine go_loop (fun y:List Int×Nat=>⟨[(0,.bI 0 0),(3,.bG 3 0),(4,.bG 4 0),(5,.bG 5 0),(8,i64 n),(9,i64 y.1.length)],[(3,[i64 n,nk r,sQ s]),(4,[.b9,.b9,.b9]),(5,[.slice (some 1016) 1 (y.1.map fun n=>[i64 n]),.b9,.b9])],[(1016,y.1.length)],[dk l y.2]⟩)
  (fun y=>(y.1.length:Int)≤n∧eY y.1 30∧dA l y.2) (fun y=>(n-y.1.length).toNat) ([],k) rfl (by simp) ⟨by simp;omega,fun i hi=>by simp at hi,hd⟩ ?_
 rintro⟨a,k⟩ ⟨h1,h2,hd⟩;simp only at h1 h2 hd;obtain⟨x,k1,n1,jq,hx⟩:=gB hd 14 (by omega)
 simp (disch:=omega) [wrap64,WO];refine bS (fun h3=>?_) (fun h3=>?_)
 ·simp (disch:=omega) [wrap64,n1]
  exact bV (a++[x],k1) (by simp) ⟨by simp;omega,snoc h2 (by omega),jq⟩ (by simp;omega)
 ·refine go_loop (fun y:List Int×List Int×Nat=>⟨[(0,.bI 0 0),(4,.bG 4 0),(5,.bG 5 0),(21,i64 s.length),(22,i64 y.1.length)],[(4,[.b9,.b9,.b9]),(5,[.slice (some 1016) 1 (a.map fun n=>[i64 n]),.slice (some 1029) 1 (y.1.map fun n=>[i64 n]),.slice (some 1035) 1 (y.2.1.map fun n=>[i64 n])])],[(1016,a.length),(1029,y.1.length),(1035,y.2.1.length)],[dk l y.2.2]⟩)
   (fun y=>y.1.length≤s.length∧y.2.1.length=y.1.length∧eY y.1 30∧eY y.2.1 30∧dA l y.2.2) (fun y=>s.length-y.1.length) ([],[],k) rfl (by simp) ⟨by simp,rfl,fun i hi=>by simp at hi,fun i hi=>by simp at hi,hd⟩ ?_
  rintro⟨b,d,k⟩ ⟨g1,g2,g3,g4,hd⟩;simp only at g1 g2 g3 g4 hd;obtain⟨x,k1,n1,jq,hx⟩:=gB hd 3 (by omega)
  obtain⟨y,k2,n2,fG,hy⟩:=gB jq 30 (by omega)
  simp (disch:=omega) [wrap64,WQ];refine bS (fun h4=>?_) (fun h4=>?_)
  ·simp (disch:=omega) [wrap64,n1,n2,g2]
   exact bV (b++[x],d++[y],k2) (by simp[g2]) ⟨by simp;omega,by simp[g2],snoc g3 (by omega),snoc g4 (by omega),fG⟩ (by simp;omega)
  ·refine hQ ⟨a,b,d⟩ k hd ⟨by simp only;omega,by simp only;omega,by simp only;omega⟩ h2 g3 g4
structure Co where
 arr:List Int
 d:List Ds
 w:List (List Int)
 re:List Dr
 lf:List Int
 cm:List Int
def pg(r:Dr):Int:=r.tur+r.spi+r.ovr
noncomputable def mq(c:Cs)(p:Sp)(v:Co)(k:Nat):Int:=match kV c.s k with
 |none=>0
 |some i=>nO (nth c.s i).d (nth v.d i) (nth v.arr k) (nth p.b i) (nth p.c i)
noncomputable def vR(c:Cs)(p:Sp)(v:Co)(k i:Nat):Dr:=lF (nth c.s i).d (nth v.d i) (nth v.arr k) (nth p.b i) (nth p.c i)
noncomputable def fk(c:Cs)(p:Sp)(v:Co)(k:Nat):Int:=match kV c.s k with
 |none=>nth v.arr k
 |some i=>pg (vR c p v k i)
noncomputable def vD(c:Cs)(p:Sp)(v:Co)(k:Nat):Co:=match kV c.s k with
 |none=>{ v with lf:=v.lf++[fk c p v k] }
 |some i=>{ v with d:=v.d.set i (lQ (nth c.s i).d (nth v.d i) (nth v.arr k) (nth p.b i) (nth p.c i)),re:=v.re++[vR c p v k i],lf:=v.lf++[fk c p v k] }
noncomputable def oI(c:Cs)(v:Co)(x:Int)(k:Nat):Int:=match lR c.r.l k with
 |none=>0
 |some j=>gq (nth c.r.l j).r (nth v.w j) x
noncomputable def vL(c:Cs)(v:Co)(x:Int)(k:Nat):Co:=match lR c.r.l k with
 |none=>v
 |some j=>{ v with w:=v.w.set j (kh (nth c.r.l j).r (nth v.w j) x),cm:=v.cm++[lG (nth c.r.l j).r (nth v.w j) x],arr:=v.arr.set (nth c.r.l j).t.toNat (nth v.arr (nth c.r.l j).t.toNat+lG (nth c.r.l j).r (nth v.w j) x) }
noncomputable def vE(c:Cs)(p:Sp)(v:Co)(k:Nat):Int:=if mq c p v k≠0 then mq c p v k else oI c v (fk c p v k) k
noncomputable def vS(c:Cs)(p:Sp)(v:Co)(k:Nat):Co:=vL c (vD c p v k) (fk c p v k) k
structure Vc(c:Cs)(p:Sp)(v:Co)(k:Nat):Prop where
 c0:eU c=0
 p:nn c p
 Cq:(v.arr.length:Int)=c.r.n
 arr:∀j,j<v.arr.length→0≤nth v.arr j∧nth v.arr j≤1073741824+1125899906842624*k
 d:nP c v.d
 w:Ck c v.w
 rl:v.re.length≤k
 ll:v.lf.length=k
 cl:v.cm.length≤k
abbrev crs(c:Cs)(p:Sp)(t:Int)(v:Co):List V:=[i64 t,.da 0 4 v.d.length,.da 1 1 v.w.length,i64 c.r.n,nk c.r.l,sQ c.s,ints p.a,ints p.b,ints p.c,.da 2 1 v.arr.length,
 .e9 7 (v.re.map Dr.row),.e9 1 (v.lf.map fun n=>[i64 n]),.e9 1 (v.cm.map fun n=>[i64 n])]
abbrev Gc(c:Cs)(p:Sp)(t:Int)(v:Co)(J:List aT):List aT:=.cells (jy v.d)::.cells (kU v.w)::.cells (dN v.arr)::.cells (crs c p t v)::J
theorem Lz{l:List Ds}{i:Nat}(h:i<l.length):((jy l).drop (i*4)).take 4=(nth l i).row:=RH (row:=Ds.row) (fun _=>rfl) h
theorem abU{l:List Ds}{i:Nat}(h:i<l.length)(x:Ds):iF (jy l) (i*4) x.row=jy (l.set i x):=Ls (row:=Ds.row) (fun _=>rfl) h
theorem LA{l:List (List Int)}{i:Nat}(h:i<l.length):((kU l).drop i).take 1=[ints (nth l i)]:=by
 have:=RH (row:=fun p=>[ints p]) (k:=1) (fun _=>rfl) h
 rwa [IJ]at this
theorem aoP{l:List (List Int)}{i:Nat}(h:i<l.length)(x:List Int):iF (kU l) i [ints x]=kU (l.set i x):=by
 have:=Ls (row:=fun p=>[ints p]) (k:=1) (fun _=>rfl) (x:=x) h
 rwa [IJ]at this
theorem st0{d:Dm}{s:Ds}{a b c:Int}(h:nO d s a b c=0):fw d=0∧g8 d s∧(0≤a∧a≤1073741824)∧(0≤b∧b≤1073741824)∧(0≤c∧c≤1073741824):=by
 unfold nO at h;split at h
 ·rename_i h1;exact absurd h h1
 ·rename_i h1
  split at h
  ·cases h
  ·rename_i h2
   have h1:dE d s=0:=gW h1;have hd:fw d=0:=by
    unfold dE at h1;split at h1
    ·rename_i h3;exact absurd h1 h3
    ·rename_i h3;exact gW h3
   simp only[EL,EN,xe,EF,AP,tK,decide_eq_false_iff_not,not_or,Classical.not_not]at h2;exact⟨hd,(HN h1).2,h2.1,h2.2.1,h2.2.2⟩
theorem abW{d:Dm}{s:Ds}{a b c:Int}(h:nO d s a b c=0):((0≤(lF d s a b c).tur∧(lF d s a b c).tur≤1073741824)∧(0≤(lF d s a b c).spi∧(lF d s a b c).spi≤17179869184)∧(0≤(lF d s a b c).ovr∧(lF d s a b c).ovr≤1073741824)) ∧
  (0≤(lF d s a b c).los∧(lF d s a b c).los≤1073741824)∧(lQ d s a b c).v=s.v+a-(lF d s a b c).los-pg (lF d s a b c):=by
 obtain⟨hd,hf,ha,hb,hc⟩:=st0 h;have qx:=yM hd;have p:=Ri qx hf ha hb hc;have hv:=hf.1;have hL:ew s a b=s.v+a-min b (s.v+a):=rfl;have hO:sN d s a b c=max (ew s a b-(fP d s a b c+lD d s a b c)-kD d) 0:=rfl;have Na:=p.T0;have hTr:=p.Tr;have hP0:=p.P0;have hP1:=p.P1;have e1:(lF d s a b c).los=min b (s.v+a):=rfl;have e2:(lF d s a b c).tur=fP d s a b c:=rfl;have e3:(lF d s a b c).spi=lD d s a b c:=rfl;have e4:(lF d s a b c).ovr=sN d s a b c:=rfl;have e5:(lQ d s a b c).v=ew s a b-(fP d s a b c+lD d s a b c)-sN d s a b c:=rfl;unfold pg;rw[e1,e2,e3,e4,e5];omega
theorem Ep{r:Rc}{p:List Int}{x:Int}(h:gq r p x=0):eT r=0∧im r p∧(0≤x∧x≤1073741824)∧uS r p x:=by
 unfold gq at h;split at h
 ·rename_i h1;exact absurd h h1
 ·rename_i h1
  split at h
  ·rename_i h2
   split at h
   ·rename_i h3;exact⟨gW h1,h2,h3⟩
   ·cases h
  ·cases h
theorem Er{r:Rc}{p:List Int}{x:Int}(h:gq r p x=0):0≤lG r p x∧lG r p x≤1125899906842624:=by
 obtain⟨h1,h2,h3,h4⟩:=Ep h;have hv:=tF h1;have q:=yO hv h2 h3 0;have:=h4 0 (by have:=hv.pos;omega)
 have a:=EG q.1 (show 0≤r.den by have:=hv.den;omega)
 have b:=Im r.den q.1;unfold lG;omega
theorem RR{l:List (List Int)}{i:Nat}(x:List Int):(kU l).set i (.slice none 1 (x.map fun n=>[i64 n]))=kU (l.set i x):=by
 rcases cF i l.length with h|h
 ·rw[←aoP h];rfl
 ·rw[CJ (by simpa using h),CJ h]
set_option maxRecDepth 100000 in
set_option maxHeartbeats 4000000 in
theorem aoQ{c:Cs}(hr:nm c.r){p:Sp}{v:Co}{k:Nat}(h:Vc c p v k)(hk:k<v.arr.length)(t:Int)(J:List aT) :
  ∃G',bd F 177 [.bI 3 0,i64 k] (Gc c p t v J)=some (i64 (vE c p v k),G')∧(vE c p v k=0→G'=Gc c p t (vS c p v k) (J++[.cells [i64 k]])):=by
 suffices hh:∀Q:V→List aT→Prop,(∀G',(vE c p v k=0→G'=Gc c p t (vS c p v k) (J++[.cells [i64 k]]))→Q (i64 (vE c p v k)) G')→gU (bd F) 177 [.bI 3 0,i64 k] (Gc c p t v J) Q by
  obtain⟨_,G',h,rfl,h1⟩:=hh (fun x G'=>x=i64 (vE c p v k)∧(vE c p v k=0→G'=Gc c p t (vS c p v k) (J++[.cells [i64 k]]))) fun G' g=>⟨rfl,g⟩;exact⟨G',h,h1⟩
 intro Q hQ;refine ic rfl rfl ?_;have cv:=nQ h.c0;generalize AK:J++[aT.cells [i64 k]]=J' at hQ;have hJ:J'[J.length]?=some (.cells [i64 k]):=by rw[←AK];exact List.getElem?_concat_length
 have rz:∀G0 G1 G2 G3,bd F 200 [sQ c.s,.fn 201 [.bI (J.length+1+1+1+1) 0]] (G0::G1::G2::G3::J')=some (i64 (tI (kV c.s k)),G0::G1::G2::G3::J') :=
  fun G0 G1 G2 G3=>aoB c.s (by have:=cv.s;omega) k (G:=G0::G1::G2::G3::J') hJ
 have rC:∀G0 G1 G2 G3,bd F 204 [nk c.r.l,.fn 205 [.bI (J.length+1+1+1+1) 0]] (G0::G1::G2::G3::J')=some (i64 (tI (lR c.r.l k)),G0::G1::G2::G3::J') :=
  fun G0 G1 G2 G3=>aoC c.r.l (by have:=(mo cv.k).len;omega) k (G:=G0::G1::G2::G3::J') hJ
 have RS:k<v.arr.length:=hk;have kK:=h.ll;have awJ:k≤12:=by have:=h.Cq;have:=cv.n;omega
 have qR:=h.rl;have dg:=h.cl;have DN:∀j,lR c.r.l k=some j→j<c.r.l.length∧j<v.w.length∧(nth c.r.l j).t.toNat<v.arr.length∧0≤(nth c.r.l j).t:=fun j hl=>by
  have hj:=(yQ hl).1;have ox:j<c.r.l.length:=by omega
  have:=(mo cv.k).link ox;have:=h.Cq;have:=h.w.1;omega
 cases hs:kV c.s k with
 |none =>
  have e0:mq c p v k=0:=by simp only[mq,hs]
  have e1:fk c p v k=nth v.arr k:=by simp only[fk,hs]
  have eE:vE c p v k=oI c v (nth v.arr k) k:=by rw[vE,e0,e1];rfl
  have e2:vS c p v k=vL c { v with lf:=v.lf++[nth v.arr k] } (nth v.arr k) k:=by rw[vS,vD,e1,hs]
  rw[hs]at rz;cases hl:lR c.r.l k with
  |none =>
   rw[hl]at rC;simp only[tI]at rz rC;have e3:vE c p v k=0:=by rw[eE,oI,hl]
   rw[e3]at hQ;simp (disch:=omega) [-getElem?_pos,wrap64,Ap,rz,AK,hJ,lx,rC];refine hQ _ fun _=>?_;rw[e2,vL,hl];simp
  |some j =>
   rw[hl]at rC;simp only[tI]at rz rC;obtain⟨ox,mE,RT,hj4⟩:=DN j hl;have hR:=abA (nth c.r.l j).r (hr.2 j ox) (nth v.w j) (by have:=(h.w.2 j ox).2.1;have:=(tF (h.w.2 j ox).1).len;omega) (nth v.arr k)
   have e3:vE c p v k=gq (nth c.r.l j).r (nth v.w j) (nth v.arr k):=by rw[eE,oI,hl]
   rw[e3]at hQ;by_cases hz:gq (nth c.r.l j).r (nth v.w j) (nth v.arr k)=0
   ·have ho:=Er hz
    have ha:=h.arr (nth c.r.l j).t.toNat RT;rw[HX hz]at hR;rw[hz]at hQ;simp (disch:=omega) [-getElem?_pos,wrap64,Ap,rz,AK,hJ,lx,rC,bg (l:=c.r.l),LA,RR,hR];refine hQ _ fun _=>?_;rw[e2,vL,hl];simp
   ·rw[Cj rfl hz]at hR
    simp (disch:=omega) [-getElem?_pos,wrap64,Ap,rz,AK,hJ,lx,rC,bg (l:=c.r.l),LA,hR,hz];exact hQ _ fun g=>absurd g hz
 |some i =>
  rw[hs]at rz;have hi:=(yQ hs).1;have RU:i<c.s.length:=by omega
  have m7:i<v.d.length:=by have:=h.d.1;omega
  have hpb:i<p.b.length:=by have:=h.p;unfold nn at this;omega
  have hpc:i<p.c.length:=by have:=h.p;unfold nn at this;omega
  obtain⟨Ga,hS⟩:=anM (nth c.s i).d (nth v.d i) (nth v.arr k) (nth p.b i) (nth p.c i);by_cases he:nO (nth c.s i).d (nth v.d i) (nth v.arr k) (nth p.b i) (nth p.c i)=0
  ·have RV:=(abW he).1
   have e0:mq c p v k=0:=by simp only[mq,hs,he]
   have e1:fk c p v k=pg (vR c p v k i):=by simp only[fk,hs]
   have eE:vE c p v k=oI c v (pg (vR c p v k i)) k:=by rw[vE,e0,e1];rfl
   have e2:vS c p v k=vL c { v with d:=v.d.set i (lQ (nth c.s i).d (nth v.d i) (nth v.arr k) (nth p.b i) (nth p.c i)),re:=v.re++[vR c p v k i],lf:=v.lf++[pg (vR c p v k i)] } (pg (vR c p v k i)) k:=by rw[vS,vD,e1,hs]
   rw[sO,aP he]at hS;unfold vR at eE e2;generalize lQ (nth c.s i).d (nth v.d i) (nth v.arr k) (nth p.b i) (nth p.c i)=S' at hS e2;generalize lF (nth c.s i).d (nth v.d i) (nth v.arr k) (nth p.b i) (nth p.c i)=R' at hS RV eE e2;have hF:=anR R' (by omega) (by omega) (by omega)
   rw[show R'.tur+R'.spi+R'.ovr=pg R' from rfl]at hF;have hZ:((((jy v.d).set (i*4) (i64 S'.v)).set (i*4+1) (i64 S'.rel)).set (i*4+1+1) (jO S'.u)).set (i*4+1+1+1) (jH S'.g)=jy (v.d.set i S'):=abU m7 S';cases hl:lR c.r.l k with
   |none =>
    rw[hl]at rC;simp only[tI]at rz rC;have e3:vE c p v k=0:=by rw[eE,oI,hl]
    rw[e3]at hQ;simp (disch:=omega) [-getElem?_pos,wrap64,Ap,rz,AK,hJ,lx,rC,bg (l:=c.s),dV (l:=p.b),dV (l:=p.c),Lz,hS,hF,hZ];refine hQ _ fun _=>?_;rw[e2,vL,hl];simp
   |some j =>
    rw[hl]at rC;simp only[tI]at rz rC;obtain⟨ox,mE,RT,hj4⟩:=DN j hl;have hR:=abA (nth c.r.l j).r (hr.2 j ox) (nth v.w j) (by have:=(h.w.2 j ox).2.1;have:=(tF (h.w.2 j ox).1).len;omega) (pg R')
    have e3:vE c p v k=gq (nth c.r.l j).r (nth v.w j) (pg R'):=by rw[eE,oI,hl]
    rw[e3]at hQ;by_cases hz:gq (nth c.r.l j).r (nth v.w j) (pg R')=0
    ·have ho:=Er hz
     have ha:=h.arr (nth c.r.l j).t.toNat RT;rw[HX hz]at hR;rw[hz]at hQ;simp (config:={ maxSteps:=2000000 }) +contextual (disch:=omega) [-getElem?_pos,-List.length_eq_zero_iff,-Int.natCast_eq_zero,wrap64,Ap,rz,AK,hJ,lx,rC,bg (l:=c.r.l),LA,RR,hR,bg (l:=c.s),dV (l:=p.b),dV (l:=p.c),Lz,hS,hF,hZ];refine hQ _ fun _=>?_;rw[e2,vL,hl];simp
    ·rw[Cj rfl hz]at hR
     simp (config:={ maxSteps:=2000000 }) +contextual (disch:=omega) [-getElem?_pos,-List.length_eq_zero_iff,-Int.natCast_eq_zero,wrap64,Ap,rz,AK,hJ,lx,rC,bg (l:=c.r.l),LA,hR,hz,bg (l:=c.s),dV (l:=p.b),dV (l:=p.c),Lz,hS,hF,hZ];exact hQ _ fun g=>absurd g hz
  ·rw[sO,aA he]at hS
   simp only[tI]at rz;have e3:vE c p v k=nO (nth c.s i).d (nth v.d i) (nth v.arr k) (nth p.b i) (nth p.c i):=by
    have:mq c p v k=nO (nth c.s i).d (nth v.d i) (nth v.arr k) (nth p.b i) (nth p.c i):=by simp only[mq,hs]
    rw[vE,this,aP he]
   rw[e3]at hQ;have he':=decide_eq_false he;simp (disch:=omega) [-getElem?_pos,wrap64,Ap,rz,AK,hJ,lx,rC,bg (l:=c.s),dV (l:=p.b),dV (l:=p.c),Lz,hS,he'];exact hQ _ fun g=>absurd g he
end Go.Proofs.YtcelmhaoipbdiaaGreatDoor
namespace Go.Proofs.YtcelmhaoipbdiaaGreatDoor
set_option linter.all false
open Go.Vm
theorem abY{f:Nat→Int}:∀n,mn f n≤n
 |0=>bR _
 |n+1=>by
  unfold mn;split
  ·exact Nat.le_succ_of_le (abY n)
  ·exact bR _
theorem abZ{f:Nat→Int}:∀n,0<mn f n→f (mn f n-1)≠0
 |0,h=>by simp[mn]at h
 |n+1,h=>by
  unfold mn at h ⊢;split
  ·rename_i h1;rw[aP h1]at h;exact abZ n h
  ·rename_i h1;exact h1
theorem ab0{f:Nat→Int}{n i:Nat}(h:i<n):nth ((List.range n).map f) i=f i:=by
 simp[nth,h]
theorem ab1{r:Rc}{p:List Int}{x:Int}(h:gq r p x=0):im r (kh r p x):=by
 obtain⟨h1,h2,h3,h4⟩:=Ep h;have hv:=tF h1;have hl:(kh r p x).length=mn (rN r p x) r.w.length:=by simp[kh]
 have hle:=abY (f:=rN r p x) r.w.length;have hn:∀i,i<mn (rN r p x) r.w.length→nth (kh r p x) i=rN r p x i:=fun i hi=>ab0 hi;refine⟨by omega,fun h0=>?_,fun i hi=>?_⟩
 ·rw[hl]at h0 ⊢
  rw[hn _ (by omega)]
  exact abZ _ h0
 ·rw[hn i (by omega)]
  have hd:=hv.den;have q0:=yO hv h2 h3 0;have hb:∀k,k≤r.w.length→0≤rq r p x k∧rq r p x k≤1125899906842624:=fun k hk=>by
   rcases cF k r.w.length with g|g
   ·exact⟨(yO hv h2 h3 k).1,h4 k g⟩
   ·have e:rq r p x k=0:=by unfold rq;rw[uT g,uT (by have:=h2.1;omega)];simp
    rw[e];omega
  unfold rN;split
  ·have:=hb 1 hv.pos
   have:=L8 (rq r p x 0) (show r.den≠0 by omega)
   have:=L7 (rq r p x 0) (show 0<r.den by omega)
   omega
  ·have:=hb (i+1) (by omega)
   omega
theorem LB{α:Type}[Inhabited α]{l:List α}{i j:Nat}{x:α}(h:i<l.length):nth (l.set i x) j=if j=i then x else nth l j:=tH h
theorem ab2{c:Cs}{p:Sp}{v:Co}{k:Nat}(he:vE c p v k=0):mq c p v k=0∧oI c v (fk c p v k) k=0:=by
 unfold vE at he;split at he
 ·rename_i h1;exact absurd he h1
 ·rename_i h1;exact⟨gW h1,he⟩
theorem H3{c:Cs}{p:Sp}{v:Co}{k:Nat}:(vD c p v k).arr=v.arr∧(vD c p v k).w=v.w∧(vD c p v k).cm=v.cm∧(vD c p v k).lf=v.lf++[fk c p v k]:=by
 unfold vD;cases kV c.s k<;>exact⟨rfl,rfl,rfl,rfl⟩
theorem aoT{c:Cs}{p:Sp}{v:Co}{k:Nat}(h:nP c v.d)(h0:mq c p v k=0):nP c (vD c p v k).d:=by
 unfold vD;unfold mq at h0;cases hs:kV c.s k with
 |none=>exact h
 |some i =>
  rw[hs]at h0;have hi:=(yQ hs).1;have m7:i<v.d.length:=by have:=h.1;omega
  obtain⟨g1,g2,ga,gb,gc⟩:=st0 h0;refine⟨by simp only[oJ];exact h.1,fun j hj=>?_⟩
  rw[LB m7];by_cases e:j=i
  ·rw[aP e,e]
   exact⟨g1,an3 (yM g1) g2 ga gb gc⟩
  ·rw[aA e]
   exact h.2 j hj
theorem Vc.next{c:Cs}{p:Sp}{v:Co}{k:Nat}(h:Vc c p v k)(he:vE c p v k=0):Vc c p (vS c p v k) (k+1):=by
 have cv:=nQ h.c0;obtain⟨h0,hL⟩:=ab2 he;obtain⟨s1,s2,s3,s4⟩:=H3 (c:=c) (p:=p) (v:=v) (k:=k);have hd:=aoT h.d h0;have Es:(vD c p v k).re.length≤k+1:=by
  have:=h.rl;unfold vD;cases kV c.s k<;>simp<;>omega
 have kK:=h.ll;have dg:=h.cl;unfold vS vL;unfold oI at hL;cases hl:lR c.r.l k with
 |none =>
  refine⟨h.c0,h.p,by rw[s1];exact h.Cq,fun j hj=>?_,hd,by rw[s2];exact h.w,Es,by rw[s4];simp;omega,by rw[s3];omega⟩
  rw[s1]at hj ⊢;have:=h.arr j hj;omega
 |some j =>
  rw[hl]at hL;have hj:=(yQ hl).1;have hjw:j<v.w.length:=by have:=h.w.1;omega
  have ho:=Er hL;have hf:=ab1 hL;have hc:=(Ep hL).1;simp only[s1,s2,s3,s4];refine⟨h.c0,h.p,by simp only[oJ];exact h.Cq,fun i hi=>?_,hd,⟨by simp only[oJ];exact h.w.1,fun i hi=>?_⟩,Es,by simp;omega,by simp;omega⟩
  ·simp only[oJ]at hi
   have Et:=h.arr i hi;by_cases e:i=(nth c.r.l j).t.toNat
   ·subst e
    rw[LB hi,aP rfl];exact⟨Int.add_nonneg Et.1 ho.1,y9 (Int.add_le_add Et.2 ho.2) (by omega)⟩
   ·rcases cF (nth c.r.l j).t.toNat v.arr.length with g|g
    ·rw[LB g,aA e];exact⟨Et.1,y9 Et.2 (by omega)⟩
    ·rw[CJ g];exact⟨Et.1,y9 Et.2 (by omega)⟩
  ·rw[LB hjw]
   by_cases e:i=j
   ·rw[aP e,e]
    exact⟨hc,hf⟩
   ·rw[aA e]
    exact h.w.2 i hi
noncomputable def cz(c:Cs)(p:Sp)(f:Fl):Nat→Co
 |0=>⟨p.a,f.d,f.w,[],[],[]⟩
 |k+1=>vS c p (cz c p f k) k
noncomputable def gw(c:Cs)(f:Fl)(p:Sp):Int :=
 if nn c p then (if eY (p.a++p.b++p.c) 1073741824 then (if f.t=16777216 then 6 else dI (fun k=>vE c p (cz c p f k) k) c.r.n.toNat 0) else 1) else 3
structure Ps where
 re:List Dr
 lf:List Int
 cm:List Int
abbrev Ps.row(x:Ps):List V:=[.slice none 7 (x.re.map Dr.row),ints x.lf,ints x.cm]
abbrev ps(x:Ps):V:=.agg x.row
noncomputable def uW(c:Cs)(f:Fl)(p:Sp):Fl:=⟨f.t+1,(cz c p f c.r.n.toNat).d,(cz c p f c.r.n.toNat).w⟩
noncomputable def yX(c:Cs)(f:Fl)(p:Sp):Ps:=⟨(cz c p f c.r.n.toNat).re,(cz c p f c.r.n.toNat).lf,(cz c p f c.r.n.toNat).cm⟩
abbrev paX(e:Int):V:=.tuple [.agg [i64 0,.slice (some 0) 4 [],.slice (some 0) 1 []],.agg [.slice (some 0) 7 [],.slice (some 0) 1 [],.slice (some 0) 1 []],i64 e]
noncomputable def AL(c:Cs)(f:Fl)(p:Sp)(e:Int):V:=if e=0 then .tuple [fl (uW c f p),ps (yX c f p),i64 0] else paX e
theorem ab3{l:List Int}:(l.any fun x => !decide (0≤x∧x≤1073741824)) = !decide (eY l 1073741824):=by
 by_cases h:eY l 1073741824
 ·rw[fL h]
  refine mS.2 fun x hx=>?_;obtain⟨i,hi,rfl⟩:=SL.1 hx;have:=h i hi;rw[show nth l i=l[i] by simp[nth,hi]]at this
  simp;exact this
 ·rw[decide_eq_false h]
  cases hb:l.any fun x => !decide (0≤x∧x≤1073741824) with
  |true=>rfl
  |false =>
   refine absurd (fun i hi=>?_) h;have:=mS.1 hb (nth l i) (rp hi);simpa using this
theorem vc0{c:Cs}{f:Fl}{p:Sp}(hc:eU c=0)(hf:fC c f)(hp:nn c p)(ha:eY (p.a++p.b++p.c) 1073741824):Vc c p (cz c p f 0) 0:=by
 refine⟨hc,hp,hp.1,fun j hj=>?_,hf.2.1,hf.2.2,by simp[cz],by simp[cz],by simp[cz]⟩
 have hj:j<p.a.length:=hj;have:=ha j (by simp;omega)
 rw[qp (by simp;omega),qp hj]at this
 show 0≤nth p.a j∧nth p.a j≤_;omega
theorem vcs{c:Cs}{f:Fl}{p:Sp}(hc:eU c=0)(hf:fC c f)(hp:nn c p)(ha:eY (p.a++p.b++p.c) 1073741824):∀{k:Nat},(∀j,j<k→vE c p (cz c p f j) j=0)→Vc c p (cz c p f k) k
 |0,_=>vc0 hc hf hp ha
 |k+1,h=>(vcs hc hf hp ha fun j hj=>h j (by omega)).next (h k (by omega))
end Go.Proofs.YtcelmhaoipbdiaaGreatDoor
namespace Go.Proofs.YtcelmhaoipbdiaaGreatDoor
set_option linter.all false
open Go.Vm
attribute [local simp] mK mL lN mJ
theorem RW{c:Cs}{l:List (List Int)}(hk:jx c.r=0)(h:Ck c l):RJ l:=by
 have hl:=(mo hk).len;refine⟨by have:=h.1;omega,fun i hi=>?_⟩
 have pI:i<c.r.l.length:=by have:=h.1;omega
 have:=(h.2 i pI).2.1;have:=(tF (h.2 i pI).1).len;omega
theorem aoZ{id t:Nat}{l:List Int}(hl:l≠[]):jW id 0 (.slice (some t) 1 (l.map fun n=>[V.int .i64 n]))=some (.bP id 1 l.length,some (dN l)):=by
 have h:=Wb (id:=id) (t:=t) (l:=l) (vs:=[]) rfl hl;simp[jW,h]
theorem ao0{p:List Int}:(dN p).all V.sc=true:=by simp[dN,V.sc]
set_option maxRecDepth 100000 in
set_option maxHeartbeats 2000000 in
theorem ab4{c:Cs}(hr:nm c.r)(hc:eU c=0){f:Fl}(hf:fC c f)(p:Sp):∃G',bd F 132 [cs c,fl f,sv p] []=some (AL c f p (gw c f p),G'):=by
 suffices h:∀Q:V→Prop,Q (AL c f p (gw c f p))→gU (bd F) 132 [cs c,fl f,sv p] [] fun v _=>Q v by
  obtain⟨_,G',h,rfl⟩:=h (fun v=>v=AL c f p (gw c f p)) rfl;exact⟨G',h⟩
 intro Q hQ;refine ic rfl rfl ?_;have cv:=nQ hc;have kv:=mo cv.k;have wm:=aoF c p;by_cases h1:nn c p
 case neg =>
  rw[show gw c f p=3 by unfold gw;rw[aA h1]]at hQ
  simp (disch:=omega) [wrap64,G8,wm,h1];exact hQ
 have qT:p.a.length≤12:=by have:=h1.1;have:=cv.n;omega
 have Lj:p.b.length≤6:=by have:=h1.2.1;have:=cv.s;omega
 have dg:p.c.length≤6:=by have:=h1.2.2;have:=cv.s;omega
 have h2:=aoE p.a p.b p.c (by omega)
 have h3:=Re (p.a++p.b++p.c) (by simp;omega) (fun x => !decide (0≤x∧x≤1073741824)) 176 [] (fun n=>aoD n [])
 rw[ab3]at h3;by_cases h4:eY (p.a++p.b++p.c) 1073741824
 case neg =>
  rw[show gw c f p=1 by unfold gw;rw[aP h1,aA h4]]at hQ
  rw[decide_eq_false h4]at h3;generalize p.a++p.b++p.c=L at h2 h3;simp (disch:=omega) [wrap64,G8,wm,h1,h2,h3];exact hQ
 rw[fL h4]at h3;have e4:=h4;generalize p.a++p.b++p.c=L at h2 h3;by_cases h5:f.t=16777216
 ·rw[show gw c f p=6 by unfold gw;rw[aP h1,aP e4,aP h5]]at hQ
  simp (disch:=omega) [wrap64,G8,wm,h1,h2,h3,h5];exact hQ
 have h6:gw c f p=dI (fun k=>vE c p (cz c p f k) k) c.r.n.toNat 0:=by unfold gw;rw[aP h1,aP e4,aA h5]
 have h7:=abL f.d (H0 hc hf.2.1) [];have h8:=abM f.w (RW cv.k hf.2.2) [.cells (jy f.d)];have h9:=RK p.a (by omega)
 have ao1:=hf.1;have ao2:p.a≠[]:=fun g=>by have:=h1.1;rw[g]at this;have:=kv.n;simp at *;omega
 have LC:0<p.a.length:=by have:=h1.1;have:=kv.n;omega
 simp (disch:=omega) [wrap64,G8,wm,h1,h2,h3,h5,h7,h8,h9,aoZ ao2,ao0,LC];have wM:=kv.n;refine go_loop (fun x:Nat×List aT=>ajJ (.bI 3 0) c.r.n x.1 [z0,.b9,.b9] [.b9,.b9,.b9] (Gc c p (f.t+1) (cz c p f x.1) x.2))
  (fun x=>x.1≤c.r.n.toNat∧(∀j,j<x.1→vE c p (cz c p f j) j=0)∧dI (fun k=>vE c p (cz c p f k) k) (c.r.n.toNat-x.1) x.1=gw c f p) (fun x=>c.r.n.toNat-x.1) (0,[]) rfl (by simp[cz]) ⟨by omega,by simp,h6.symm⟩ ?_
 rintro⟨k,J⟩ ⟨hk,hz,hq⟩;simp only at hk hz hq;have Eu:=vcs hc hf h1 e4 hz;simp (disch:=omega) [wrap64,XY];refine bS (fun fT=>?_) (fun fT=>?_)
 ·have jw:k<c.r.n.toNat:=by omega
  have RS:k<(cz c p f k).arr.length:=by have:=Eu.Cq;omega
  obtain⟨G',hv,hv2⟩:=aoQ hr Eu RS (f.t+1) J;rw[ly jw]at hq;by_cases zT:vE c p (cz c p f k) k=0
  ·obtain rfl:=hv2 zT
   rw[aP zT]at hq;rw[zT]at hv;simp (disch:=omega) [wrap64,hv];refine bV (k+1,J++[.cells [i64 k]]) (by simp[cz]) ⟨by simp only;omega,fun j hj=>?_,hq⟩ (by simp only;omega)
   rcases cF j k with g|g
   ·exact hz j g
   ·rwa [show j=k by simp only at hj;omega]
  ·rw[aA zT]at hq
   rw[←hq,AL,aA zT]at hQ;simp (disch:=omega) [wrap64,hv,zT];exact hQ
 ·obtain rfl:k=c.r.n.toNat:=by omega
  rw[nc]at hq;rw[←hq,AL,aP rfl]at hQ;simp (disch:=omega) [wrap64,AJ,Em];exact hQ
abbrev ab5(t:Option Nat)(e:Int):V:=.tuple [.agg [i64 0,.slice t 4 [],.slice t 1 []],.agg [.slice t 7 [],.slice t 1 [],.slice t 1 []],i64 e]
noncomputable def nR(c:Cs)(f:Fl)(p:Sp):Int:=if ki c f≠0 then ki c f else gw c f p
noncomputable def wq(t:Option Nat)(c:Cs)(f:Fl)(p:Sp):V:=if nR c f p=0 then .tuple [fl (uW c f p),ps (yX c f p),i64 0] else ab5 t (nR c f p)
theorem BL{c:Cs}{f:Fl}(h:ki c f=0):eU c=0∧fC c f:=by
 unfold ki at h;split at h
 ·rename_i h1;exact absurd h h1
 ·rename_i h1
  split at h
  ·exact⟨gW h1,by assumption⟩
  ·cases h
theorem ao4{c:Cs}(hr:nm c.r){f:Fl}(hf:rA f)(p:Sp):∃t G',bd F 87 [cs c,fl f,sv p] []=some (wq t c f p,G'):=by
 have hd:=abC c hr f hf;by_cases hz:ki c f=0
 ·obtain⟨h1,h2⟩:=BL hz
  obtain⟨Ga,hp⟩:=ab4 hr h1 h2 p;have e:nR c f p=gw c f p:=by unfold nR;rw[aA (by omega)]
  refine⟨none,[],?_⟩;unfold wq;rw[e];unfold AL at hp;by_cases h3:gw c f p=0
  ·rw[aP h3]at hp ⊢
   refine bX rfl rfl ?_;simp[wrap64,Ki,hd,hz,hp]
  ·rw[aA h3]at hp ⊢
   refine bX rfl rfl ?_;simp[wrap64,Ki,hd,hz,hp]
 ·have e:nR c f p=ki c f:=by unfold nR;rw[aP hz]
  refine⟨some 0,[],?_⟩;unfold wq;rw[e,aA hz];refine bX rfl rfl ?_;simp[wrap64,Ki,hd,hz]
def yY(g:Nat→Int)(n:Nat)(m:Nat)(k:Int):Prop:=m≤n∧(∀j,j<m→g j<k)∧∀j,m≤j→j<n→k≤g j
theorem xk{g:Nat→Int}{n m i:Nat}{k:Int}(h:yY g n m k)(KW:∀j,0<j→j<n→g (j-1)<g j)(hi:i<n)(hg:g i=k):i=m∧yY g n (m+1) (k+1):=by
 have ab6:∀a d,a+d+1<n→g a<g (a+d+1):=fun a d=>by
  induction d with
  |zero=>intro hd;have:=KW (a+0+1) (by omega) hd;simpa using this
  |succ d ih =>
   intro hd;have h1:=ih (by omega)
   have h2:=KW (a+(d+1)+1) (by omega) hd
   rw[show a+(d+1)+1-1=a+d+1 by omega]at h2
   omega
 have hmi:m≤i:=by
  rcases cF i m with g1|g1
  ·have:=h.2.1 i g1;omega
  ·exact g1
 have him:i=m:=by
  rcases cF m i with g1|g1
  ·have h1:=ab6 m (i-m-1) (by omega)
   rw[show m+(i-m-1)+1=i by omega]at h1
   have:=h.2.2 m (bR _) (by omega)
   omega
  ·omega
 subst him;refine⟨rfl,by omega,fun j hj=>?_,fun j hj hn=>?_⟩
 ·rcases cF j i with g1|g1
  ·have:=h.2.1 j g1;omega
  ·rw[show j=i by omega];omega
 ·have h1:=ab6 i (j-i-1) (by omega)
  rw[show i+(j-i-1)+1=j by omega]at h1
  omega
theorem ab7{g:Nat→Int}{n m:Nat}{k:Int}(h:yY g n m k)(hg:∀i,i<n→g i≠k):yY g n m (k+1) :=
 ⟨h.1,fun j hj=>by have:=h.2.1 j hj;omega,fun j hj hn=>by have:=h.2.2 j hj hn;have:=hg j hn;omega⟩
theorem ab8{g:Nat→Int}{n:Nat}(h:∀j,j<n→0≤g j):yY g n 0 0:=⟨by omega,by omega,fun j _ hj=>h j hj⟩
theorem ab9{g:Nat→Int}{n m:Nat}{k:Int}(h:yY g n m k)(hk:∀j,j<n→g j<k):m=n:=by
 have h1:=h.1;rcases cF m n with g1|g1
 ·have:=h.2.2 m (bR _) g1
  have:=hk m g1;omega
 ·omega
abbrev sR(c:Cs):Nat→Int:=fun i=>(nth c.s i).n
abbrev yZ(c:Cs):Nat→Int:=fun i=>(nth c.r.l i).f
theorem xl{c:Cs}(h:xh c){i:Nat}(hi:i<c.s.length):(0≤sR c i∧sR c i<c.r.n)∧(0<i→sR c (i-1)<sR c i)∧fw (nth c.s i).d=0:=by
 have he:=h.site i hi;unfold yP at he;simp only at he;split at he
 ·split at he
  ·cases he
  ·rename_i h1 h2
   refine⟨h1,fun h0=>?_,he⟩;show(nth c.s (i-1)).n<(nth c.s i).n;omega
 ·cases he
structure Vo(c:Cs)(v:Co)(k:Nat):Prop where
 s:yY (sR c) c.s.length v.re.length k
 l:yY (yZ c) c.r.l.length v.cm.length k
theorem LD{c:Cs}{k:Nat}(h:kV c.s k=none):∀i,i<c.s.length→sR c i≠k:=fun i hi=>by
 have:=RL h i (by omega) (by omega)
 simpa using this
theorem xm{c:Cs}{k i:Nat}(h:kV c.s k=some i):i<c.s.length∧sR c i=k:=by
 have:=yQ h;exact⟨by omega,by simpa using this.2.1⟩
theorem aca{c:Cs}{k:Nat}(h:lR c.r.l k=none):∀i,i<c.r.l.length→yZ c i≠k:=fun i hi=>by
 have:=RL h i (by omega) (by omega)
 simpa using this
theorem AM{c:Cs}{k i:Nat}(h:lR c.r.l k=some i):i<c.r.l.length∧yZ c i=k:=by
 have:=yQ h;exact⟨by omega,by simpa using this.2.1⟩
theorem vo0{c:Cs}(h:xh c)(p:Sp)(f:Fl):Vo c (cz c p f 0) 0 :=
 ⟨ab8 fun j hj=>(xl h hj).1.1,ab8 fun j hj=>((mo h.k).link hj).1.1⟩
theorem Vo.next{c:Cs}(hc:xh c){p:Sp}{v:Co}{k:Nat}(h:Vo c v k):Vo c (vS c p v k) (k+1):=by
 obtain⟨s1,s2,s3,s4⟩:=H3 (c:=c) (p:=p) (v:=v) (k:=k);have hs:yY (sR c) c.s.length (vD c p v k).re.length (k+1:Int):=by
  unfold vD;cases hs:kV c.s k with
  |none=>exact ab7 h.s (LD hs)
  |some i =>
   obtain⟨a,b⟩:=xm hs;simp only[po,p7];exact(xk h.s (fun j h0 hj=>(xl hc hj).2.1 h0) a b).2
 unfold vS vL;cases hl:lR c.r.l k with
 |none =>
  refine⟨hs,?_⟩;rw[s3];exact ab7 h.l (aca hl)
 |some j =>
  obtain⟨a,b⟩:=AM hl;refine⟨hs,?_⟩;simp only[s3,po,p7];exact(xk h.l (fun j h0 hj=>((mo hc.k).link hj).2.1 h0) a b).2
theorem H4{c:Cs}(hc:xh c)(p:Sp)(f:Fl):∀k,Vo c (cz c p f k) k
 |0=>vo0 hc p f
 |k+1=>(H4 hc p f k).next hc
theorem RX{c:Cs}(hc:xh c)(p:Sp)(f:Fl):(cz c p f c.r.n.toNat).re.length=c.s.length∧(cz c p f c.r.n.toNat).cm.length=c.r.l.length:=by
 have h:=H4 hc p f c.r.n.toNat;have hn:=(mo hc.k).n;exact⟨ab9 h.s fun j hj=>by have:=(xl hc hj).1;omega,ab9 h.l fun j hj=>by have:=((mo hc.k).link hj).1;show(nth c.r.l j).f<_;omega⟩
end Go.Proofs.YtcelmhaoipbdiaaGreatDoor
namespace Go.Proofs.YtcelmhaoipbdiaaGreatDoor
set_option linter.all false
open Go.Vm
def pad{α:Type}(d:α)(l:List α)(n:Nat):List α:=l++List.replicate (n-l.length) d
theorem LF{α:Type}{d:α}{l:List α}{n:Nat}(h:l.length≤n):(pad d l n).length=n:=by simp[pad];omega
theorem RY{α:Type}{d:α}{l:List α}{n:Nat}(h:l.length=n):pad d l n=l:=by simp[pad,h]
theorem RZ{α:Type}{d x:α}{l:List α}{n i:Nat}(hi:i=l.length)(h:l.length<n):(pad d l n).set i x=pad d (l++[x]) n:=by
 subst hi;unfold pad;obtain⟨m,hm⟩:∃m,n-l.length=m+1:=⟨n-l.length-1,by omega⟩
 rw[hm,zC,AY _ _ (bR _),qD,ID,po,p7,show n-(l.length+1)=m by omega,u4,SO]
def AN:Dr:=⟨0,0,0,0,0,0,0⟩
def uX(l:List Dr):List V:=(l.map Dr.row).flatten
@[simp] theorem awN{l:List Dr}:(uX l).length=l.length*7:=Lr (row:=Dr.row) (fun _=>rfl) l
@[simp] theorem awO{l:List Dr}{d:Nat}:((uX l).all fun v => !V.cA d v)=true:=Lw (row:=Dr.row) (fun a=>by simp) l
theorem ao7{n:Nat}:(List.replicate n [V.int .i64 0,V.int .i64 0,V.int .i64 0,V.int .i64 0,V.int .i64 0,V.int .i64 0,V.int .i64 0]).flatten=uX (pad AN [] n):=by
 simp[uX,pad,Iz,AN]
theorem ao8{l:List Dr}{n:Nat}(h:n=l.length):kH [none,none,none,none,none,none,none] (chunks 7 (uX l) 0 n)=some (l.map Dr.row):=by
 subst h;rw[Lt (row:=Dr.row) (fun _=>rfl) rfl];exact Lu (fun a=>by simp) l
theorem ao9{n:Nat}:List.replicate n z0=dN (pad 0 [] n):=by simp[pad,dN]
theorem acb{c:Cs}{u:Co}{x:Int}{k:Nat}:(vL c u x k).re=u.re∧(vL c u x k).lf=u.lf∧(vL c u x k).d=u.d:=by
 unfold vL;cases lR c.r.l k<;>exact⟨rfl,rfl,rfl⟩
theorem acd{c:Cs}{u v:Co}{x:Int}{k:Nat}(h1:u.arr=v.arr)(h2:u.w=v.w)(h3:u.cm=v.cm):(vL c u x k).arr=(vL c v x k).arr∧(vL c u x k).w=(vL c v x k).w∧(vL c u x k).cm=(vL c v x k).cm:=by
 unfold vL;cases lR c.r.l k
 ·exact⟨h1,h2,h3⟩
 ·simp only[h1,h2,h3,and_self]
theorem apa{l:List Int}{m:Int}:eY l m↔∀x∈l,0≤x∧x≤m:=by
 refine⟨fun h x hx=>?_,fun h i hi=>h _ (rp hi)⟩;obtain⟨i,hi,rfl⟩:=SL.1 hx;have:=h i hi
 rwa [show nth l i=l[i] by simp[nth,hi]]at this
theorem ace{a b:List Int}{m:Int}:eY (a++b) m↔eY a m∧eY b m:=by
 simp only[apa,qA];exact⟨fun h=>⟨fun x hx=>h x (.inl hx),fun x hx=>h x (.inr hx)⟩,fun h x hx=>hx.elim (h.1 x) (h.2 x)⟩
theorem apb{l:List Dr}{i:Nat}(h:i<l.length)(x:Dr):iF (uX l) (i*7) x.row=uX (l.set i x):=Ls (row:=Dr.row) (fun _=>rfl) h
structure Vf(f:Fl)(v:Co):Prop where
 d:v.d.length=f.d.length∧∀i,v.re.length≤i→nth v.d i=nth f.d i
 w:v.w.length=f.w.length∧∀i,v.cm.length≤i→nth v.w i=nth f.w i
theorem Vf.next{c:Cs}(hc:xh c){p:Sp}{f:Fl}{v:Co}{k:Nat}(h:Vf f v)(ho:Vo c v k):Vf f (vS c p v k):=by
 obtain⟨s1,s2,s3,s4⟩:=H3 (c:=c) (p:=p) (v:=v) (k:=k);have hd:(vD c p v k).d.length=f.d.length∧∀i,(vD c p v k).re.length≤i→nth (vD c p v k).d i=nth f.d i:=by
  unfold vD;cases hs:kV c.s k with
  |none=>exact h.d
  |some i =>
   obtain⟨a,b⟩:=xm hs;have e:=(xk ho.s (fun j h0 hj=>(xl hc hj).2.1 h0) a b).1;refine⟨by simp only[oJ];exact h.d.1,fun j hj=>?_⟩
   simp only[po,p7]at hj;show nth (v.d.set i _) j=nth f.d j;rcases cF i v.d.length with g|g
   ·rw[tH g,aA (by omega)]
    exact h.d.2 j (by omega)
   ·rw[CJ g]
    exact h.d.2 j (by omega)
 unfold vS vL;cases hl:lR c.r.l k with
 |none=>exact⟨hd,by rw[s2,s3];exact h.w⟩
 |some j =>
  obtain⟨a,b⟩:=AM hl;have e:=(xk ho.l (fun j h0 hj=>((mo hc.k).link hj).2.1 h0) a b).1;refine⟨hd,?_⟩;simp only[s2,s3];refine⟨by simp only[oJ];exact h.w.1,fun i hi=>?_⟩
  simp only[po,p7]at hi;rcases cF j v.w.length with g|g
  ·rw[tH g,aA (by omega)]
   exact h.w.2 i (by omega)
  ·rw[CJ g]
   exact h.w.2 i (by omega)
theorem R0{c:Cs}(hc:xh c)(p:Sp)(f:Fl):∀k,Vf f (cz c p f k)
 |0=>⟨⟨rfl,fun _ _=>rfl⟩,⟨rfl,fun _ _=>rfl⟩⟩
 |k+1=>(R0 hc p f k).next hc (H4 hc p f k)
theorem apc{c:Cs}{k i:Nat}(h:∀j,j<i→sR c j≠k)(hi:i<c.s.length)(hk:sR c i=k):kV c.s k=some i:=by
 cases hs:kV c.s k with
 |none=>exact absurd hk (LD hs i hi)
 |some j =>
  have h1:=yQ hs;obtain⟨a,b⟩:=xm hs;rcases E1 j i with g|g|g
  ·exact absurd b (h j g)
  ·rw[g]
  ·have:=h1.2.2 i (by omega) g
   have hk:(nth c.s i).n=k:=hk;simp[hk]at this
theorem apd{c:Cs}{k i:Nat}(h:∀j,j<i→yZ c j≠k)(hi:i<c.r.l.length)(hk:yZ c i=k):lR c.r.l k=some i:=by
 cases hs:lR c.r.l k with
 |none=>exact absurd hk (aca hs i hi)
 |some j =>
  have h1:=yQ hs;obtain⟨a,b⟩:=AM hs;rcases E1 j i with g|g|g
  ·exact absurd b (h j g)
  ·rw[g]
  ·have:=h1.2.2 i (by omega) g
   have hk:(nth c.r.l i).f=k:=hk;simp[hk]at this
theorem ape{c:Cs}{k:Nat}(h:∀j,j<c.s.length→sR c j≠k):kV c.s k=none:=by
 cases hs:kV c.s k with
 |none=>rfl
 |some j=>exact absurd (xm hs).2 (h j (xm hs).1)
theorem apf{c:Cs}{k:Nat}(h:∀j,j<c.r.l.length→yZ c j≠k):lR c.r.l k=none:=by
 cases hs:lR c.r.l k with
 |none=>rfl
 |some j=>exact absurd (AM hs).2 (h j (AM hs).1)
end Go.Proofs.YtcelmhaoipbdiaaGreatDoor
namespace Go.Proofs.YtcelmhaoipbdiaaGreatDoor
set_option linter.all false
open Go.Vm
attribute [local simp] mK mL lN mJ
set_option maxRecDepth 100000 in
set_option maxHeartbeats 8000000 in
theorem apg{c:Cs}(hr:nm c.r){f:Fl}(hf:rA f){p:Sp}(lL:p.a.length≤1000∧p.b.length≤1000∧p.c.length≤1000):∃G',bd F 20 [cs c,fl f,sv p] []=some (wq (some 0) c f p,G'):=by
 suffices h:∀Q:V→Prop,Q (wq (some 0) c f p)→gU (bd F) 20 [cs c,fl f,sv p] [] fun v _=>Q v by
  obtain⟨_,G',h,rfl⟩:=h (fun v=>v=wq (some 0) c f p) rfl;exact⟨G',h⟩
 intro Q hQ;refine ic rfl rfl ?_;have hc:=RG c hr;have hv:=abD c hr f hf;have err:∀e,nR c f p=e→e≠0→Q (ab5 (some 0) e):=fun e h he=>by
  unfold wq at hQ
  rwa [h,aA he]at hQ
 by_cases hz:eU c=0
 case neg =>
  simp (disch:=omega) [-getElem?_pos,wrap64,w6,hc,hz];exact err _ (by unfold nR ki;rw[aP hz,aP hz]) hz
 by_cases ky:fC c f
 case neg =>
  have h0:decide (eU c=0∧fC c f)=false:=decide_eq_false fun g=>ky g.2;rw[h0]at hv;simp (disch:=omega) [-getElem?_pos,wrap64,w6,hc,hz,hv];have hrd:ki c f=50:=by unfold ki;rw[aA (by omega),aA ky]
  exact err 50 (by unfold nR;rw[hrd];rfl) (by decide)
 have hrd:ki c f=0:=by unfold ki;rw[aA (by omega),aP ky]
 have fJ:nR c f p=gw c f p:=by unfold nR;rw[aA (by omega)]
 rw[fJ]at err;rw[fL ⟨hz,ky⟩]at hv;have cv:=nQ hz;have kv:=mo cv.k;have jw:=kv.n;by_cases h1:(p.a.length:Int)=c.r.n
 case neg =>
  simp (disch:=omega) [-getElem?_pos,wrap64,w6,hc,hz,hv,h1];exact err 3 (by unfold gw;rw[aA fun g=>h1 g.1]) (by decide)
 by_cases h2:p.b.length=c.s.length
 case neg =>
  have mi:¬ (p.b.length:Int)=c.s.length:=by omega
  simp (disch:=omega) [-getElem?_pos,wrap64,w6,hc,hz,hv,h1,mi];exact err 3 (by unfold gw;rw[aA fun g=>h2 g.2.1]) (by decide)
 have mi:(p.b.length:Int)=c.s.length:=by omega
 by_cases h3:p.c.length=c.s.length
 case neg =>
  have iK:¬ (p.c.length:Int)=c.s.length:=by omega
  simp (disch:=omega) [-getElem?_pos,wrap64,w6,hc,hz,hv,h1,mi,iK];exact err 3 (by unfold gw;rw[aA fun g=>h3 g.2.2]) (by decide)
 have iK:(p.c.length:Int)=c.s.length:=by omega
 have g5:nn c p:=⟨h1,h2,h3⟩;have ha:=RM p.a lL.1 1073741824;have hb:=RM p.b lL.2.1 1073741824;have vI:=RM p.c lL.2.2 1073741824;have app:eY (p.a++p.b++p.c) 1073741824↔eY p.a 1073741824∧eY p.b 1073741824∧eY p.c 1073741824:=by
  rw[ace,ace,and_assoc]
 by_cases g1:eY p.a 1073741824
 case neg =>
  simp (disch:=omega) [-getElem?_pos,wrap64,w6,hc,hz,hv,h1,mi,iK,ha,g1];exact err 1 (by unfold gw;rw[aP g5,aA fun g=>g1 (app.1 g).1]) (by decide)
 by_cases g2:eY p.b 1073741824
 case neg =>
  simp (disch:=omega) [-getElem?_pos,wrap64,w6,hc,hz,hv,h1,mi,iK,ha,g1,hb,g2];exact err 1 (by unfold gw;rw[aP g5,aA fun g=>g2 (app.1 g).2.1]) (by decide)
 by_cases g3:eY p.c 1073741824
 case neg =>
  simp (disch:=omega) [-getElem?_pos,wrap64,w6,hc,hz,hv,h1,mi,iK,ha,g1,hb,g2,vI,g3];exact err 1 (by unfold gw;rw[aP g5,aA fun g=>g3 (app.1 g).2.2]) (by decide)
 have xV:=app.2 ⟨g1,g2,g3⟩;have hcy:=aoA f (H0 hz ky.2.1) (RW cv.k ky.2.2);have ao1:=ky.1;have I3:=cv.s;have kK:=kv.len;have LC:0<p.a.length:=by omega
 have Gm:f.d.length=c.s.length:=ky.2.1.1;have hwl:f.w.length=c.r.l.length:=ky.2.2.1;simp (disch:=omega) [-getElem?_pos,wrap64,w6,hc,hz,hv,h1,mi,iK,ha,g1,hb,g2,vI,g3];refine bS (fun g4=>?_) (fun g4=>?_)
 ·exact err 6 (by unfold gw;rw[aP g5,aP xV,aP g4]) (by decide)
 have hE:gw c f p=dI (fun k=>vE c p (cz c p f k) k) c.r.n.toNat 0:=by unfold gw;rw[aP g5,aP xV,aA g4]
 have DE:p.a.isEmpty=false:=by
  cases hp:p.a with
  |nil=>rw[hp]at LC;simp at LC
  |cons a l=>rfl
 simp (disch:=omega) [-getElem?_pos,wrap64,hcy,ao7,DE];refine go_loop (fun k:Nat=>ahI p.a.length k c.row f.row p.row [i64 0,.b9,.b9] [.b9,.b9,.b9] [i64 (f.t+1),.da 0 4 f.d.length,.da 1 1 f.w.length]
   [.bP 100 7 c.s.length,.bP 104 1 c.r.n.toNat,.bP 109 1 c.r.l.length] (uX (pad AN (cz c p f k).re c.s.length)) (dN (pad 0 (cz c p f k).lf c.r.n.toNat)) (dN (pad 0 (cz c p f k).cm c.r.l.length)) (dN (cz c p f k).arr)
   [.cells (jy (cz c p f k).d),.cells (kU (cz c p f k).w)])
  (fun k=>k≤c.r.n.toNat∧(∀j,j<k→vE c p (cz c p f j) j=0)∧dI (fun k=>vE c p (cz c p f k) k) (c.r.n.toNat-k) k=gw c f p) (fun k=>c.r.n.toNat-k) 0 rfl (by simp[cz,ao9]) ⟨by omega,by omega,hE.symm⟩ ?_
 rintro k ⟨hk,hzk,hq⟩;have Eu:=vcs hz ky g5 xV hzk;have xS:=H4 cv p f k;have JK:=R0 cv p f k;have DK:=JK.d;have hww:=JK.w;have awP:=Eu.Cq;have apk:=Eu.ll;have DB:=xS.s.1;have apl:=xS.l.1;have ecv:cz c p f (k+1)=vS c p (cz c p f k) k:=rfl;simp (disch:=omega) [-getElem?_pos,wrap64,WC];refine bS (fun fT=>?_) (fun fT=>?_)
 ·have apn:k<c.r.n.toNat:=by omega
  rw[ly apn]at hq;generalize hcv:cz c p f k=v at *;have RS:k<v.arr.length:=by omega
  simp (disch:=omega) [-getElem?_pos,wrap64,lx];obtain⟨s1,s2,s3,s4⟩:=H3 (c:=c) (p:=p) (v:=v) (k:=k);refine go_loop (fun y:Nat×Co×Int=>ahy p.a.length k y.2.2 (sQ c.s) c.s.length y.1 c.row f.row p.row [i64 0,.b9,.b9] [.b9,.b9,.b9] [i64 (f.t+1),.da 0 4 f.d.length,.da 1 1 f.w.length]
    [.bP 100 7 c.s.length,.bP 104 1 c.r.n.toNat,.bP 109 1 c.r.l.length] (uX (pad AN y.2.1.re c.s.length)) (dN (pad 0 v.lf c.r.n.toNat)) (dN (pad 0 v.cm c.r.l.length)) (dN v.arr) [.cells (jy y.2.1.d),.cells (kU v.w)])
   (fun y=>y.1≤c.s.length∧((y.2.1=v∧y.2.2=nth v.arr k∧∀j,j<y.1→sR c j≠k)∨(y.2.1=vD c p v k∧y.2.2=fk c p v k∧mq c p v k=0∧∃j,j<y.1∧kV c.s k=some j)))
   (fun y=>c.s.length-y.1) (0,v,nth v.arr k) rfl (by simp) ⟨by simp,.inl ⟨rfl,rfl,by simp⟩⟩ ?_
  rintro⟨i,u,x⟩ ⟨hi,hu⟩;simp only at hi hu;have apq:(pad AN v.re c.s.length).length=c.s.length:=LF DB;simp (disch:=omega) [-getElem?_pos,wrap64,WA];refine bS (fun h5=>?_) (fun h5=>?_)
  ·have h5:i<c.s.length:=by omega
   have h6:i<f.d.length:=by omega
   have h7:i<p.b.length:=by omega
   have h8:i<p.c.length:=by omega
   simp (disch:=omega) [-getElem?_pos,wrap64,bg (l:=c.s)];refine bS (fun h9=>?_) (fun h9=>?_)
   ·have hs:kV c.s k=some i∧u=v∧x=nth v.arr k∧i=v.re.length:=by
     have e:=(xk xS.s (fun j h0 hj=>(xl cv hj).2.1 h0) h5 h9).1;rcases hu with⟨a,b,d⟩ | ⟨_,_,_,j,hj,hs⟩
     ·exact⟨apc d h5 h9,a,b,e⟩
     ·have:=(xk xS.s (fun j h0 hj=>(xl cv hj).2.1 h0) (xm hs).1 (xm hs).2).1
      omega
    obtain⟨hs,rfl,rfl,Es⟩:=hs;have LH:nth u.d i=nth f.d i:=DK.2 i (by omega)
    obtain⟨Ga,hS⟩:=aoa (nth c.s i).d (nth f.d i) (nth u.arr k) (nth p.b i) (nth p.c i);by_cases he:nO (nth c.s i).d (nth f.d i) (nth u.arr k) (nth p.b i) (nth p.c i)=0
    ·have RV:=(abW he).1
     have e0:mq c p u k=0:=by simp only[mq,hs,LH,he]
     have e1:fk c p u k=pg (vR c p u k i):=by simp only[fk,hs]
     have e2:vD c p u k={ u with d:=u.d.set i (lQ (nth c.s i).d (nth f.d i) (nth u.arr k) (nth p.b i) (nth p.c i)),re:=u.re++[vR c p u k i],lf:=u.lf++[fk c p u k] }:=by rw[vD,hs,← LH]
     have e3:vR c p u k i=lF (nth c.s i).d (nth f.d i) (nth u.arr k) (nth p.b i) (nth p.c i):=by rw[vR,LH]
     rw[sO,aP he]at hS;rw[e3]at e1 e2;rw[e1]at e2;generalize lQ (nth c.s i).d (nth f.d i) (nth u.arr k) (nth p.b i) (nth p.c i)=S' at hS e2;generalize lF (nth c.s i).d (nth f.d i) (nth u.arr k) (nth p.b i) (nth p.c i)=R' at hS RV e1 e2;have hF:=aok R' (by omega) (by omega) (by omega)
     rw[show R'.tur+R'.spi+R'.ovr=pg R' from rfl]at hF;have m7:i<u.d.length:=by omega
     have hZ:((((jy u.d).set (i*4) (i64 S'.v)).set (i*4+1) (i64 S'.rel)).set (i*4+1+1) (jO S'.u)).set (i*4+1+1+1) (jH S'.g)=jy (u.d.set i S'):=abU m7 S';have hrt:(((((((uX (pad AN u.re c.s.length)).set (i*7) (i64 R'.inf)).set (i*7+1) (i64 R'.los)).set (i*7+1+1) (i64 R'.tur)).set (i*7+1+1+1) (i64 R'.spi)).set (i*7+1+1+1+1) (i64 R'.ovr)).set (i*7+1+1+1+1+1) (i64 R'.pow)).set (i*7+1+1+1+1+1+1) (i64 R'.mj)=uX (pad AN (u.re++[R']) c.s.length):=by
      rw[←RZ Es (by omega)]
      exact apb (by rw[LF (by omega)];exact h5) R'
     simp (disch:=omega) [-getElem?_pos,wrap64,bg (l:=f.d),dV (l:=p.b),dV (l:=p.c),lx,hS,hF,hZ,hrt,apq];refine bV (i+1,vD c p u k,fk c p u k) (by simp[e1,e2]) ⟨by simp only;omega,.inr ⟨rfl,rfl,e0,i,by simp only;omega,hs⟩⟩ (by simp only;omega)
    ·rw[sO,aA he]at hS
     have e0:vE c p u k=nO (nth c.s i).d (nth f.d i) (nth u.arr k) (nth p.b i) (nth p.c i):=by
      have:mq c p u k=nO (nth c.s i).d (nth f.d i) (nth u.arr k) (nth p.b i) (nth p.c i):=by simp only[mq,hs,LH]
      rw[vE,this,aP he]
     rw[e0,aA he]at hq;simp (disch:=omega) [-getElem?_pos,wrap64,bg (l:=f.d),dV (l:=p.b),dV (l:=p.c),lx,hS,decide_eq_false he];exact err _ hq.symm he
   ·refine bV (i+1,u,x) (by simp) ⟨by simp only;omega,?_⟩ (by simp only;omega)
    rcases hu with⟨a,b,d⟩ | ⟨a,b,d,j,hj,hs⟩
    ·refine .inl ⟨a,b,fun j hj=>?_⟩
     rcases cF j i with g|g
     ·exact d j g
     ·rw[show j=i by simp only at hj;omega];exact h9
    ·exact .inr ⟨a,b,d,j,by simp only;omega,hs⟩
  ·obtain rfl:i=c.s.length:=by omega
   have hD:u.re=(vD c p v k).re∧u.d=(vD c p v k).d∧x=fk c p v k∧mq c p v k=0:=by
    rcases hu with⟨rfl,rfl,d⟩ | ⟨rfl,b,d,_⟩
    ·have hn:=ape d
     unfold vD fk mq;rw[hn];exact⟨rfl,rfl,rfl,rfl⟩
    ·exact⟨rfl,rfl,b,d⟩
   obtain⟨d1,d2,rfl,d3⟩:=hD;rw[d1,d2];generalize hx:fk c p v k=x at *;have aps:(pad 0 v.lf c.r.n.toNat).length=c.r.n.toNat:=LF (by omega)
   have hZ:(pad 0 v.lf c.r.n.toNat).set k x=pad 0 (vD c p v k).lf c.r.n.toNat:=by rw[RZ (by omega) (by omega),s4]
   simp (disch:=omega) [-getElem?_pos,wrap64,aps,hZ];have apt:(pad 0 v.cm c.r.l.length).length=c.r.l.length:=LF apl;refine go_loop (fun y:Nat×Co=>ahD p.a.length k x (nk c.r.l) c.r.l.length y.1 c.row f.row p.row [i64 0,.b9,.b9] [.b9,.b9,.b9] [i64 (f.t+1),.da 0 4 f.d.length,.da 1 1 f.w.length]
     [.bP 100 7 c.s.length,.bP 104 1 c.r.n.toNat,.bP 109 1 c.r.l.length] (uX (pad AN (vD c p v k).re c.s.length)) (dN (pad 0 (vD c p v k).lf c.r.n.toNat)) (dN (pad 0 y.2.cm c.r.l.length)) (dN y.2.arr) [.cells (jy (vD c p v k).d),.cells (kU y.2.w)])
    (fun y=>y.1≤c.r.l.length∧((y.2=v∧∀j,j<y.1→yZ c j≠k)∨(y.2=vL c v x k∧oI c v x k=0∧∃j,j<y.1∧lR c.r.l k=some j)))
    (fun y=>c.r.l.length-y.1) (0,v) rfl (by simp) ⟨by simp,.inl ⟨rfl,by simp⟩⟩ ?_
   rintro⟨i,u⟩ ⟨hi,hu⟩;simp only at hi hu;simp (disch:=omega) [-getElem?_pos,wrap64,WB];refine bS (fun h5=>?_) (fun h5=>?_)
   ·have h5:i<c.r.l.length:=by omega
    have h6:i<f.w.length:=by omega
    simp (disch:=omega) [-getElem?_pos,wrap64,bg (l:=c.r.l)];refine bS (fun h9=>?_) (fun h9=>?_)
    ·have hs:lR c.r.l k=some i∧u=v∧i=v.cm.length:=by
      have e:=(xk xS.l (fun j h0 hj=>(kv.link hj).2.1 h0) h5 h9).1;rcases hu with⟨a,d⟩ | ⟨_,_,j,hj,hs⟩
      ·exact⟨apd d h5 h9,a,e⟩
      ·have:=(xk xS.l (fun j h0 hj=>(kv.link hj).2.1 h0) (AM hs).1 (AM hs).2).1
       omega
     obtain⟨hs,rfl,Es⟩:=hs;have hwi:nth u.w i=nth f.w i:=hww.2 i (by omega)
     have hfi:=ky.2.2.2 i h5;obtain⟨tt,hR⟩:=aot (nth c.r.l i).r (hr.2 i h5) (nth f.w i) (hf i) x;have bB:=(kv.link h5).1;have H5:(nth c.r.l i).t.toNat<u.arr.length:=by omega
     have eL:oI c u x k=gq (nth c.r.l i).r (nth f.w i) x:=by unfold oI;rw[hs];simp only[hwi]
     have eE:vE c p u k=gq (nth c.r.l i).r (nth f.w i) x:=by
      rw[vE,d3,hx,eL];rfl
     rw[eE]at hq;by_cases he:gq (nth c.r.l i).r (nth f.w i) x=0
     ·have ho:=Er he
      have har:=Eu.arr (nth c.r.l i).t.toNat H5;rw[HX he]at hR;have e2:vL c u x k={ u with w:=u.w.set i (kh (nth c.r.l i).r (nth f.w i) x),cm:=u.cm++[lG (nth c.r.l i).r (nth f.w i) x],arr:=u.arr.set (nth c.r.l i).t.toNat (nth u.arr (nth c.r.l i).t.toNat+lG (nth c.r.l i).r (nth f.w i) x) }:=by
       rw[vL,hs,← hwi]
      have hZ:(pad 0 u.cm c.r.l.length).set i (lG (nth c.r.l i).r (nth f.w i) x)=pad 0 (u.cm++[lG (nth c.r.l i).r (nth f.w i) x]) c.r.l.length:=RZ Es (by omega)
      simp (disch:=omega) [-getElem?_pos,wrap64,bg (l:=f.w),hR,RR,apt,hZ,lx];refine bV (i+1,vL c u x k) (by simp[e2]) ⟨by simp only;omega,.inr ⟨rfl,by rw[eL,he],i,by simp only;omega,hs⟩⟩ (by simp only;omega)
     ·rw[Cj rfl he]at hR
      rw[aA he]at hq;simp (disch:=omega) [-getElem?_pos,wrap64,bg (l:=f.w),hR,decide_eq_false he];exact err _ hq.symm he
    ·refine bV (i+1,u) (by simp) ⟨by simp only;omega,?_⟩ (by simp only;omega)
     rcases hu with⟨a,d⟩ | ⟨a,d,j,hj,hs⟩
     ·refine .inl ⟨a,fun j hj=>?_⟩
      rcases cF j i with g|g
      ·exact d j g
      ·rw[show j=i by simp only at hj;omega];exact h9
     ·exact .inr ⟨a,d,j,by simp only;omega,hs⟩
   ·obtain rfl:i=c.r.l.length:=by omega
    have hD:u=vL c v x k∧oI c v x k=0:=by
     rcases hu with⟨rfl,d⟩ | ⟨rfl,b,_⟩
     ·have hn:=apf d
      unfold vL oI;rw[hn];exact⟨rfl,rfl⟩
     ·exact⟨rfl,b⟩
    obtain⟨rfl,d4⟩:=hD;have eE:vE c p v k=0:=by rw[vE,d3,hx,d4];rfl
    rw[aP eE]at hq;obtain⟨a1,a2,a3⟩:=acd (c:=c) (u:=vD c p v k) (v:=v) (x:=x) (k:=k) s1 s2 s3;obtain⟨b1,b2,b3⟩:=acb (c:=c) (u:=vD c p v k) (x:=x) (k:=k);have hvS:vS c p v k=vL c (vD c p v k) x k:=by rw[vS,hx]
    refine bV (k+1) (by simp[ecv,hvS,a1,a2,a3,b1,b2,b3]) ⟨by omega,fun j hj=>?_,hq⟩ (by omega)
    rcases cF j k with g|g
    ·exact hzk j g
    ·rw[show j=k by omega,hcv];exact eE
 ·obtain rfl:k=c.r.n.toNat:=by omega
  rw[nc]at hq;have zY:=RX cv p f;have w1:((cz c p f c.r.n.toNat).re.length:Int)=c.s.length:=by omega
  rw[RY zY.1,RY apk,RY zY.2];simp (disch:=omega) [-getElem?_pos,wrap64,AJ,Em,ao8,Ot];rw[←hq]at fJ;unfold wq at hQ;rw[fJ,aP rfl]at hQ;exact hQ
end Go.Proofs.YtcelmhaoipbdiaaGreatDoor
namespace Go.Proofs.YtcelmhaoipbdiaaGreatDoor
set_option linter.all false
open Go.Vm
structure Pa(c:Cs)(f:Fl)(p:Sp):Prop where
 c0:eU c=0
 f0:fC c f
 p0:nn c p
 all:eY (p.a++p.b++p.c) 1073741824
 t:f.t≠16777216
 v:∀k,k<c.r.n.toNat→vE c p (cz c p f k) k=0
theorem LI{c:Cs}{f:Fl}{p:Sp}(h:nR c f p=0):Pa c f p:=by
 unfold nR at h;split at h
 ·rename_i h1;exact absurd h h1
 ·rename_i h1
  obtain⟨h2,h3⟩:=BL (gW h1);unfold gw at h;split at h
  ·split at h
   ·split at h
    ·cases h
    ·exact⟨h2,h3,by assumption,by assumption,by assumption,fun k hk=>sy h k (by omega) (by omega)⟩
   ·cases h
  ·cases h
theorem Pa.vc{c:Cs}{f:Fl}{p:Sp}(h:Pa c f p){k:Nat}(hk:k≤c.r.n.toNat):Vc c p (cz c p f k) k:=vcs h.c0 h.f0 h.p0 h.all fun j hj=>h.v j (by omega)
theorem Pa.fl{c:Cs}{f:Fl}{p:Sp}(h:Pa c f p):fC c (uW c f p):=by
 have hv:=h.vc (bR _);have:=h.f0.1;have:=h.t;exact⟨by simp only[uW];omega,hv.d,hv.w⟩
theorem H6{c:Cs}(hk:jx c.r=0){f:Fl}(h:fC c f):rA f:=fun i=>by
 rcases cF i c.r.l.length with g|g
 ·have a:=h.2.2.2 i g
  have:=a.2.1;have:=(tF a.1).len;omega
 ·have:nth f.w i=[]:=by
   simp[nth,List.getD,kF (show f.w.length≤i by have:=h.2.2.1;omega)]
   rfl
  rw[this];simp
end Go.Proofs.YtcelmhaoipbdiaaGreatDoor
namespace Go.Proofs.YtcelmhaoipbdiaaGreatDoor
set_option linter.all false
open Go.Vm
def nS(c:Cs)(cm:List Int)(j:Int):Nat→Int
 |0=>0
 |m+1=>nS c cm j m+if (nth c.r.l m).t=j then nth cm m else 0
theorem aci{c:Cs}{cm:List Int}{x:Int}{j:Int}:∀{m:Nat},m≤cm.length→nS c (cm++[x]) j m=nS c cm j m
 |0,_=>rfl
 |m+1,h=>by
  simp only[nS];rw[aci (by omega),qp (by omega)]
theorem apv{c:Cs}{cm:List Int}{x:Int}{j:Int}:nS c (cm++[x]) j (cm.length+1)=nS c cm j cm.length+if (nth c.r.l cm.length).t=j then x else 0:=by
 have e:nth (cm++[x]) cm.length=x:=by rw[iS,aA (by omega),aP rfl]
 simp only[nS];rw[aci (bR _),e]
structure Da(c:Cs)(p:Sp)(f:Fl)(v:Co)(i k:Nat):Prop where
 e:nO (nth c.s i).d (nth f.d i) (nth (cz c p f k).arr k) (nth p.b i) (nth p.c i)=0
 r:nth v.re i=lF (nth c.s i).d (nth f.d i) (nth (cz c p f k).arr k) (nth p.b i) (nth p.c i)
 d:nth v.d i=lQ (nth c.s i).d (nth f.d i) (nth (cz c p f k).arr k) (nth p.b i) (nth p.c i)
structure Li(c:Cs)(p:Sp)(f:Fl)(v:Co)(m k:Nat):Prop where
 e:gq (nth c.r.l m).r (nth f.w m) (fk c p (cz c p f k) k)=0
 o:nth v.cm m=lG (nth c.r.l m).r (nth f.w m) (fk c p (cz c p f k) k)
 w:nth v.w m=kh (nth c.r.l m).r (nth f.w m) (fk c p (cz c p f k) k)
structure Hi(c:Cs)(p:Sp)(f:Fl)(v:Co)(k:Nat):Prop where
 arr:∀j,j<v.arr.length→nth v.arr j=nth p.a j+nS c v.cm j v.cm.length
 cm:∀m,m<v.cm.length→0≤nth v.cm m∧nth v.cm m≤1125899906842624
 site:∀i,i<v.re.length→∃k':Nat,k'<k∧sR c i=k'∧Da c p f v i k'
 link:∀m,m<v.cm.length→∃k':Nat,k'<k∧yZ c m=k'∧Li c p f v m k'
 lf:∀j,j<k→nth v.lf j=fk c p (cz c p f j) j
theorem apw{c:Cs}{p:Sp}{f:Fl}(h:Pa c f p){k:Nat}(hk:k<c.r.n.toNat)(hh:Hi c p f (cz c p f k) k):Hi c p f (cz c p f (k+1)) (k+1):=by
 have hc:=nQ h.c0;have hv:=h.vc (k:=k) (by omega)
 have ho:=H4 hc p f k;have hf:=R0 hc p f k;obtain⟨e0,eL⟩:=ab2 (h.v k hk);show Hi c p f (vS c p (cz c p f k) k) (k+1);obtain⟨s1,s2,s3,s4⟩:=H3 (c:=c) (p:=p) (v:=cz c p f k) (k:=k);obtain⟨a1,a2,a3⟩:=acd (c:=c) (x:=fk c p (cz c p f k) k) (k:=k) s1 s2 s3;obtain⟨b1,b2,b3⟩:=acb (c:=c) (u:=vD c p (cz c p f k) k) (x:=fk c p (cz c p f k) k) (k:=k);have apx:∀i,i<(vD c p (cz c p f k) k).re.length→∃k':Nat,k'<k+1∧sR c i=k'∧Da c p f (vD c p (cz c p f k) k) i k':=by
  unfold vD;cases hs:kV c.s k with
  |none =>
   intro i hi;obtain⟨k',g1,g2,g3⟩:=hh.site i hi;exact⟨k',by omega,g2,g3.e,g3.r,g3.d⟩
  |some i0 =>
   obtain⟨q1,q2⟩:=xm hs;have q3:=(xk ho.s (fun j h0 hj=>(xl hc hj).2.1 h0) q1 q2).1;have q4:i0<(cz c p f k).d.length:=by have:=hv.d.1;omega
   have q5:=hf.d.2 i0 (by omega)
   intro i hi;simp only[po,p7]at hi;by_cases g:i=i0
   ·subst g
    refine⟨k,by omega,q2,?_,?_,?_⟩
    ·unfold mq at e0
     rw[hs]at e0;rw[←q5];exact e0
    ·show nth ((cz c p f k).re++[_]) i=_
     rw[iS,aA (by omega),aP q3,vR,q5]
    ·show nth ((cz c p f k).d.set i _) i=_
     rw[tH q4,aP rfl,q5]
   ·obtain⟨k',g1,g2,g3⟩:=hh.site i (by omega)
    refine⟨k',by omega,g2,g3.e,?_,?_⟩
    ·show nth ((cz c p f k).re++[_]) i=_
     rw[qp (by omega)];exact g3.r
    ·show nth ((cz c p f k).d.set i0 _) i=_
     rw[tH q4,aA g];exact g3.d
 have hlf:∀j,j<k+1→nth (vD c p (cz c p f k) k).lf j=fk c p (cz c p f j) j:=fun j hj=>by
  have:=hv.ll;rw[s4,iS];by_cases g:j<k
  ·rw[aP (by omega)];exact hh.lf j g
  ·rw[aA (by omega),aP (by omega),show j=k by omega]
 have R1:(∀j,j<(vL c (cz c p f k) (fk c p (cz c p f k) k) k).arr.length→nth (vL c (cz c p f k) (fk c p (cz c p f k) k) k).arr j=nth p.a j+nS c (vL c (cz c p f k) (fk c p (cz c p f k) k) k).cm j (vL c (cz c p f k) (fk c p (cz c p f k) k) k).cm.length) ∧
   (∀m,m<(vL c (cz c p f k) (fk c p (cz c p f k) k) k).cm.length→0≤nth (vL c (cz c p f k) (fk c p (cz c p f k) k) k).cm m∧nth (vL c (cz c p f k) (fk c p (cz c p f k) k) k).cm m≤1125899906842624) ∧
   ∀m,m<(vL c (cz c p f k) (fk c p (cz c p f k) k) k).cm.length→∃k':Nat,k'<k+1∧yZ c m=k'∧Li c p f (vL c (cz c p f k) (fk c p (cz c p f k) k) k) m k':=by
  unfold oI at eL;cases hl:lR c.r.l k with
  |none =>
   rw[show vL c (cz c p f k) (fk c p (cz c p f k) k) k=cz c p f k by unfold vL;rw[hl]]
   exact⟨hh.arr,hh.cm,fun m hm=>by obtain⟨k',g1,g2,g3⟩:=hh.link m hm;exact⟨k',by omega,g2,g3⟩⟩
  |some m0 =>
   rw[hl]at eL;obtain⟨q1,q2⟩:=AM hl;have q3:=(xk ho.l (fun j h0 hj=>((mo hc.k).link hj).2.1 h0) q1 q2).1;have q4:m0<(cz c p f k).w.length:=by have:=hv.w.1;omega
   have q5:=hf.w.2 m0 (by omega)
   have q6:=Er eL;have q7:=((mo hc.k).link q1).1;have q8:=hv.Cq;have q9:(nth c.r.l m0).t.toNat<(cz c p f k).arr.length:=by omega
   have hu:vL c (cz c p f k) (fk c p (cz c p f k) k) k={ cz c p f k with w:=(cz c p f k).w.set m0 (kh (nth c.r.l m0).r (nth (cz c p f k).w m0) (fk c p (cz c p f k) k)),cm:=(cz c p f k).cm++[lG (nth c.r.l m0).r (nth (cz c p f k).w m0) (fk c p (cz c p f k) k)],arr:=(cz c p f k).arr.set (nth c.r.l m0).t.toNat (nth (cz c p f k).arr (nth c.r.l m0).t.toNat+lG (nth c.r.l m0).r (nth (cz c p f k).w m0) (fk c p (cz c p f k) k)) }:=by
    unfold vL;rw[hl]
   rw[hu];refine⟨fun j hj=>?_,fun m hm=>?_,fun m hm=>?_⟩
   ·simp only[oJ]at hj
    simp only[po,p7];rw[tH q9,apv,← q3];by_cases g:j=(nth c.r.l m0).t.toNat
    ·rw[aP g,aP (by omega),← g,hh.arr j hj,q3]
     exact Int.add_assoc _ _ _
    ·rw[aA g,aA (by omega),Il,q3]
     exact hh.arr j hj
   ·simp only[po,p7]at hm
    simp only;rw[iS];by_cases g:m<(cz c p f k).cm.length
    ·rw[aP g];exact hh.cm m g
    ·rw[aA g,aP (by omega)];exact q6
   ·simp only[po,p7]at hm
    by_cases g:m=m0
    ·subst g
     refine⟨k,by omega,q2,by rw[←q5];exact eL,?_,?_⟩
     ·show nth ((cz c p f k).cm++[_]) m=_
      rw[iS,aA (by omega),aP q3,q5]
     ·show nth ((cz c p f k).w.set m _) m=_
      rw[tH q4,aP rfl,q5]
    ·obtain⟨k',g1,g2,g3⟩:=hh.link m (by omega)
     refine⟨k',by omega,g2,g3.e,?_,?_⟩
     ·show nth ((cz c p f k).cm++[_]) m=_
      rw[qp (by omega)];exact g3.o
     ·show nth ((cz c p f k).w.set m0 _) m=_
      rw[tH q4,aA g];exact g3.w
 unfold vS;refine⟨?_,?_,fun i hi=>?_,fun m hm=>?_,by rw[b2];exact hlf⟩
 ·rw[a1,a3];exact R1.1
 ·rw[a3];exact R1.2.1
 ·rw[b1]at hi
  obtain⟨k',g1,g2,g3⟩:=apx i hi;exact⟨k',g1,g2,g3.e,by rw[b1];exact g3.r,by rw[b3];exact g3.d⟩
 ·rw[a3]at hm
  obtain⟨k',g1,g2,g3⟩:=R1.2.2 m hm;exact⟨k',g1,g2,g3.e,by rw[a3];exact g3.o,by rw[a2];exact g3.w⟩
theorem RU{c:Cs}{p:Sp}{f:Fl}(h:Pa c f p):∀{k:Nat},k≤c.r.n.toNat→Hi c p f (cz c p f k) k
 |0,_=>⟨fun j hj=>by simp[cz,nS],fun m hm=>by simp[cz]at hm,fun i hi=>by simp[cz]at hi,fun m hm=>by simp[cz]at hm,fun j hj=>by omega⟩
 |k+1,hk=>apw h (by omega) (RU h (by omega))
end Go.Proofs.YtcelmhaoipbdiaaGreatDoor
namespace Go.Proofs.YtcelmhaoipbdiaaGreatDoor
set_option linter.all false
open Go.Vm
theorem acm{f:Nat→Int}:∀n,dW f (mn f n)=dW f n
 |0=>rfl
 |n+1=>by
  unfold mn;split
  ·rename_i h
   rw[acm n];simp only[dW];have h:f n=0:=by simpa using h
   rw[h,Il]
  ·rfl
theorem LK{l:List Int}:∀n,sm l n=dW (nth l) n
 |0=>rfl
 |n+1=>by simp only[sm,dW];rw[LK n]
theorem acn{f g:Nat→Int}:∀{n:Nat},(∀k,k<n→f k=g k)→dW f n=dW g n
 |0,_=>rfl
 |n+1,h=>by
  simp only[dW];rw[acn fun k hk=>h k (by omega),h n (by omega)]
theorem aco{f:Nat→Int}:∀n,dW (fun k=>f (k+1)) n=dW f (n+1)-f 0
 |0=>by simp[dW]
 |n+1=>by
  have:=aco (f:=f) n;simp only[dW]at this ⊢;omega
theorem acp{f g:Nat→Int}{x:Int}:∀n,dW (fun k=>f k+x*g k) n=dW f n+x*dW g n
 |0=>by simp[dW]
 |n+1=>by
  simp only[dW];rw[acp n,Io];omega
theorem apA{l:List Int}{n:Nat}(h:l.length≤n):sm l n=sm l l.length:=by
 obtain⟨d,rfl⟩:∃d,n=l.length+d:=⟨n-l.length,by omega⟩
 clear h
 induction d with
 |zero=>rfl
 |succ d ih =>
  rw[show l.length+(d+1)=(l.length+d)+1 by omega]
  simp only[sm];rw[ih,uT (by omega),Il]
theorem apB{r:Rc}{p:List Int}{x:Int}(h:gq r p x=0):sm (kh r p x) (kh r p x).length=sm p p.length+r.den*(x-lG r p x):=by
 obtain⟨h1,h2,h3,h4⟩:=Ep h;have hv:=tF h1;have hn:0<r.w.length:=hv.pos;have e1:sm (kh r p x) (kh r p x).length=dW (rN r p x) r.w.length:=by
  have hl:(kh r p x).length=mn (rN r p x) r.w.length:=by simp[kh]
  have e:dW (nth (kh r p x)) (mn (rN r p x) r.w.length)=dW (rN r p x) (mn (rN r p x) r.w.length):=acn fun k hk=>ab0 hk;rw[LK,hl,e,acm]
 obtain⟨m,hm⟩:∃m,r.w.length=m+1:=⟨r.w.length-1,by omega⟩
 have e2:dW (rN r p x) r.w.length=dW (fun k=>rq r p x (k+1)) r.w.length+rq r p x 0 % r.den:=by
  rw[hm];have key:∀j,dW (rN r p x) (j+1)=dW (fun k=>rq r p x (k+1)) (j+1)+rq r p x 0 % r.den:=by
   intro j;induction j with
   |zero=>simp[dW,rN]
   |succ j ih =>
    rw[dW,ih];simp only[dW,rN];rw[aA (by omega)]
    omega
  exact key m
 have e3:rq r p x r.w.length=0:=by
  have:=h2.1;simp only[rq];rw[uT (by omega),uT (bR _)]
  simp
 have e4:dW (rq r p x) r.w.length=sm p p.length+x*r.den:=by
  show dW (fun k=>nth p k+x*nth r.w k) r.w.length=_;rw[acp,← LK,← LK,apA h2.1,hv.sum]
 have e5:rq r p x 0=r.den*lG r p x+rq r p x 0 % r.den:=(Int.mul_ediv_add_emod _ _).symm;have e6:r.den*(x-lG r p x)=x*r.den-r.den*lG r p x:=by rw[Int.mul_sub,Ip r.den x]
 rw[e1,e2,aco,dW,e3,e4,e6];omega
def hB(c:Cs)(f:Fl)(M:Int):Prop:=∀i,i<c.r.l.length→sm (nth f.w i) (nth f.w i).length≤(nth c.r.l i).r.den*(1073741824*M)
theorem apC{r:Rc}{p:List Int}(h:im r p):0≤sm p p.length:=(Ci (i:=p.length) h.2.2).1
theorem acq{c:Cs}{f:Fl}{p:Sp}(h:Pa c f p){M:Int}(hM:0≤M)(hb:hB c f M) :
  hB c (uW c f p) (M+1)∧∀i,i<c.r.l.length→0≤nth (yX c f p).cm i∧nth (yX c f p).cm i≤1073741824*(M+1):=by
 have hc:=nQ h.c0;have e2:=(RX hc p f).2
 suffices g:∀i,i<c.r.l.length→sm (nth (uW c f p).w i) (nth (uW c f p).w i).length≤(nth c.r.l i).r.den*(1073741824*(M+1))∧0≤nth (yX c f p).cm i∧nth (yX c f p).cm i≤1073741824*(M+1) from
  ⟨fun i hi=>(g i hi).1,fun i hi=>(g i hi).2⟩
 intro i hi;obtain⟨k,_,_,hl⟩:=(RU h (bR _)).link i (by omega)
 have hw:nth (uW c f p).w i=_:=hl.w;have ho:nth (yX c f p).cm i=_:=hl.o;have hr:=apB hl.e;have hx:=(Ep hl.e).2.2.1;have h0:=(Er hl.e).1;have hd:=(tF (Ep hl.e).1).den;have hs:=apC (ab1 hl.e);have Ux:=hb i hi;rw[hw,ho];generalize lG (nth c.r.l i).r (nth f.w i) (fk c p (cz c p f k) k)=o at *;generalize fk c p (cz c p f k) k=x at *;generalize kh (nth c.r.l i).r (nth f.w i) x=q at *;generalize (nth c.r.l i).r.den=D at *;generalize sm (nth f.w i) (nth f.w i).length=s at *;have a1:D*(1073741824*(M+1))=D*(1073741824*M)+D*1073741824:=by rw[←Io];congr 1;omega
 have a2:D*(x-o)=D*x-D*o:=Int.mul_sub _ _ _;have a3:D*x≤D*1073741824:=Iq hx.2 (by omega)
 have a4:0≤D*o:=CF (by omega) h0
 refine⟨by omega,h0,?_⟩
 exact Int.le_of_mul_le_mul_left (a:=D) (by omega) (by omega)
theorem LM{c:Cs}{f:Fl}{M N:Int}(hk:jx c.r=0)(h:hB c f M)(hn:M≤N):hB c f N:=fun i hi=>by
 have hd:=(tF ((mo hk).link hi).2.2).den;exact y9 (h i hi) (Iq (by omega) (by omega))
theorem apD{c:Cs}{s:List Ds}:hB c (np c s) 0:=fun i hi=>by
 have e:nth (np c s).w i=[]:=by simp[np,nth,hi]
 rw[e];simp[sm]
end Go.Proofs.YtcelmhaoipbdiaaGreatDoor
