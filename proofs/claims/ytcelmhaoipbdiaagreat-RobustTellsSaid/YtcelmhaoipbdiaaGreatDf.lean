/- Parts of the proof, joined: Cas4, Cas5, Mk5, Flo1, Cas6, Cas7, Cas8, Cas9, Cas10, Cas11, Flo2, Cas12, Bal1. -/
import Derived.Test.YtcelmhaoipbdiaaGreatDe
import Derived.Test.YtcelmhaoipbdiaaGreatDd
namespace Go.Proofs.YtcelmhaoipbdiaaGreat
set_option linter.all false
open Go.Vm
attribute [local simp] ly lz kF lx
def fd(p:Nat→Bool):Nat→Nat→Option Nat
 |0,_=>none
 |m+1,i=>if p i then some i else fd p m (i+1)
theorem agm{p:Nat→Bool}{i n:Nat}(h:i<n):fd p (n-i) i=if p i then some i else fd p (n-(i+1)) (i+1):=by
 obtain⟨m,hm⟩:∃m,n-i=m+1:=⟨n-i-1,by omega⟩
 rw[hm,fd,show n-(i+1)=m by omega]
theorem agn{p:Nat→Bool}{n:Nat}:fd p (n-n) n=none:=by rw[qd];rfl
theorem AW{p:Nat→Bool}:∀{m i k:Nat},fd p m i=some k→(i≤k∧k<i+m)∧p k=true∧∀j,i≤j→j<k→p j=false
 |0,i,k,h=>by simp[fd]at h
 |m+1,i,k,h=>by
  unfold fd at h;split at h
  ·rename_i h1;cases h;exact⟨by omega,h1,fun j a b=>by omega⟩
  ·rename_i h1
   have:=AW h;refine⟨by omega,this.2.1,fun j a b=>?_⟩
   by_cases hj:j=i
   ·subst hj;simpa using h1
   ·exact this.2.2 j (by omega) b
theorem Vw{p:Nat→Bool}:∀{m i:Nat},fd p m i=none→∀j,i≤j→j<i+m→p j=false
 |0,i,_,j,a,b=>by omega
 |m+1,i,h,j,a,b=>by
  unfold fd at h;split at h
  ·cases h
  ·rename_i h1
   by_cases hj:j=i
   ·subst hj;simpa using h1
   ·exact Vw h j (by omega) (by omega)
def vi:Option Nat→Int
 |some k=>k
 |none => -1
def lM(s:List Si)(n:Int):Option Nat:=fd (fun i=>decide ((nth s i).n=n)) s.length 0
def ml(l:List Lk)(n:Int):Option Nat:=fd (fun i=>decide ((nth l i).f=n)) l.length 0
theorem avd(s:List Si)(hs:s.length≤1000)(n:Int){k:Nat}{G:List aP}(hG:G[k]?=some (.cells [i64 n])) :
  aX F 131 [ru s,.fn 132 [.bH k 0]] G=some (i64 (vi (lM s n)),G) :=
 bL rfl rfl (by
  generalize hW:vi (lM s n)=W;have hp:∀x:Si,aX F 132 [.agg x.row,.bH k 0] G=some (.bool (decide (x.n=n)),G):=fun x=>bL rfl rfl (by
   simp (disch:=omega) [-getElem?_pos,wrap64,acB,hG])
  simp (disch:=omega) [-getElem?_pos,wrap64,acA];refine go_loop (fun i:Nat=>aqt (ru s) (.fn 132 [.bH k 0]) s.length i G) (fun i=>i≤s.length∧vi (fd (fun i=>decide ((nth s i).n=n)) (s.length-i) i)=W) (fun i=>s.length-i) 0 rfl (by simp) ⟨by omega,hW⟩ ?_
  rintro i ⟨hi,hq⟩;simp (disch:=omega) [-getElem?_pos,wrap64,acz];refine bB (fun h5=>?_) (fun h5=>?_)
  ·have h5:i<s.length:=by omega
   rw[agm h5]at hq;simp (disch:=omega) [-getElem?_pos,wrap64,aY (l:=s),hp];refine bB (fun h6=>?_) (fun h6=>?_)
   ·rw[aK (dD h6)]at hq
    exact hq
   ·rw[av (by simp[h6])]at hq
    exact bu (i+1) (by simp) ⟨by omega,hq⟩ (by omega)
  ·obtain rfl:i=s.length:=by omega
   rw[agn]at hq;exact hq)
theorem ave(s:List Lk)(hs:s.length≤1000)(n:Int){k:Nat}{G:List aP}(hG:G[k]?=some (.cells [i64 n])) :
  aX F 135 [nV s,.fn 136 [.bH k 0]] G=some (i64 (vi (ml s n)),G) :=
 bL rfl rfl (by
  generalize hW:vi (ml s n)=W;have hp:∀x:Lk,aX F 136 [.agg x.row,.bH k 0] G=some (.bool (decide (x.f=n)),G):=fun x=>bL rfl rfl (by
   simp (disch:=omega) [-getElem?_pos,wrap64,acF,hG])
  simp (disch:=omega) [-getElem?_pos,wrap64,acE];refine go_loop (fun i:Nat=>aqv (nV s) (.fn 136 [.bH k 0]) s.length i G) (fun i=>i≤s.length∧vi (fd (fun i=>decide ((nth s i).f=n)) (s.length-i) i)=W) (fun i=>s.length-i) 0 rfl (by simp) ⟨by omega,hW⟩ ?_
  rintro i ⟨hi,hq⟩;simp (disch:=omega) [-getElem?_pos,wrap64,acD];refine bB (fun h5=>?_) (fun h5=>?_)
  ·have h5:i<s.length:=by omega
   rw[agm h5]at hq;simp (disch:=omega) [-getElem?_pos,wrap64,aY (l:=s),hp];refine bB (fun h6=>?_) (fun h6=>?_)
   ·rw[aK (dD h6)]at hq
    exact hq
   ·rw[av (by simp[h6])]at hq
    exact bu (i+1) (by simp) ⟨by omega,hq⟩ (by omega)
  ·obtain rfl:i=s.length:=by omega
   rw[agn]at hq;exact hq)
theorem avf(x:Int)(G:List aP):aX F 87 [i64 x] G=some (.bool (!decide (0≤x∧x≤1073741824)),G) :=
 bL rfl rfl (by
  by_cases h1:x<0
  ·rw[decide_eq_false (by omega)]
   simp[wrap64,MQ,h1]
  ·by_cases h2:1073741824<x
   ·rw[decide_eq_false (by omega)]
    simp[wrap64,MQ,h1,h2]
   ·rw[dD (by omega)]
    simp[wrap64,MQ,h1,h2])
theorem avg(a b c:List Int)(h:a.length+b.length+c.length≤1000)(G:List aP):aX F 86 [.slice none 1 [[ints a],[ints b],[ints c]]] G=some (ints (a++b++c),G) :=
 bL rfl rfl (by
  simp (disch:=omega) [wrap64,abP,abM,abL,abO,abN,yJ];refine bB (fun g=>absurd g (by omega)) (fun _=>bB (fun g=>absurd g (by omega)) (fun _=>bB (fun g=>absurd g (by omega)) (fun _=>?_)))
  simp (disch:=omega) [wrap64,BX (l:=a++(b++c)) (n:=a.length+b.length+c.length) (by simp;omega)])
structure Sp where
 a:List Int
 b:List Int
 c:List Int
abbrev Sp.row(p:Sp):List V:=[ints p.a,ints p.b,ints p.c]
abbrev sv(p:Sp):V:=.agg p.row
def j7(c:Cs)(p:Sp):Prop:=(p.a.length:Int)=c.r.n∧p.b.length=c.s.length∧p.c.length=c.s.length
instance {c:Cs} {p:Sp}:Decidable (j7 c p):=inferInstanceAs (Decidable (_∧_∧_))
theorem avh(c:Cs)(p:Sp)(G:List aP):aX F 84 [cs c,sv p] G=some (.bool (decide (j7 c p)),G) :=
 bL rfl rfl (by
  obtain⟨⟨n,l⟩,s⟩:=c;obtain⟨a,b,c⟩:=p;generalize hW:decide (j7 ⟨⟨n,l⟩,s⟩ ⟨a,b,c⟩)=W;have no:¬ j7 ⟨⟨n,l⟩,s⟩ ⟨a,b,c⟩→W=false:=fun h=>by rw[←hW];simp[h]
  have yes:j7 ⟨⟨n,l⟩,s⟩ ⟨a,b,c⟩→W=true:=fun h=>by rw[←hW];simp[h]
  unfold j7 at no yes;simp only at no yes;by_cases h1:(a.length:Int)=n
  ·by_cases h2:(b.length:Int)=s.length
   ·by_cases h3:(c.length:Int)=s.length
    ·simp[wrap64,Je,h1,h2,h3]
     exact yes (by omega)
    ·simp[wrap64,Je,h1,h2,h3]
     exact no (by omega)
   ·simp[wrap64,Je,h1,h2]
    exact no (by omega)
  ·simp[wrap64,Je,h1]
   exact no (by omega))
theorem Vx(l:List Int)(hl:l.length≤1000)(m:Int)(G:List aP):aX F 46 [ints l,i64 m] G=some (.bool (decide (dF l m)),G) :=
 bL rfl rfl (by
  generalize hW:decide (dF l m)=W;simp (disch:=omega) [-getElem?_pos,wrap64,aa4];refine go_loop (fun i:Nat=>aor m (ints l) l.length i G) (fun i=>i≤l.length∧∀j,j<i→0≤nth l j∧nth l j≤m) (fun i=>l.length-i) 0 rfl (by simp) (by simp) ?_
  rintro i ⟨hi,hj⟩;simp (disch:=omega) [-getElem?_pos,wrap64,aa3];refine bB (fun h5=>?_) (fun h5=>?_)
  ·have h5:i<l.length:=by omega
   by_cases h6:0≤nth l i∧nth l i≤m
   ·have iI:(decide (0≤nth l i)&&decide (nth l i≤m))=true:=by simp;exact h6
    simp (disch:=omega) [-getElem?_pos,wrap64,dA (l:=l),GH,iI];refine bu (i+1) (by simp) ⟨by omega,fun j h7=>?_⟩ (by omega)
    rcases cM j i with h8|h8
    ·exact hj j h8
    ·rwa [show j=i by omega]
   ·have iI:(decide (0≤nth l i)&&decide (nth l i≤m))=false:=by simp;omega
    simp (disch:=omega) [-getElem?_pos,wrap64,dA (l:=l),GH,iI];rw[←hW,decide_eq_false (fun g:dF l m=>h6 (g i h5))]
  ·obtain rfl:i=l.length:=by omega
   rw[←hW,dD (show dF l m from hj)])
structure Kv(r:Rr):Prop where
 n:1≤r.n∧r.n≤40
 e:∀i,i<r.l.length→lE r i=0
theorem kr{r:Rr}(h:jy r=0):Kv r:=by
 unfold jy at h;split at h
 ·cases h
 ·exact⟨by omega,fun i hi=>sj h i (by omega) (by omega)⟩
theorem Kv.link{r:Rr}(h:Kv r){i:Nat}(hi:i<r.l.length):(0≤(nth r.l i).f∧(nth r.l i).f<(nth r.l i).t∧(nth r.l i).t≤r.n-1)∧(0<i→(nth r.l (i-1)).f<(nth r.l i).f)∧ft (nth r.l i).r=0:=by
 have he:=h.e i hi;unfold lE at he;simp only at he;split at he
 ·split at he
  ·cases he
  ·split at he
   ·cases he
   ·exact⟨by omega,fun h0=>by omega,he⟩
 ·cases he
theorem Kv.up{r:Rr}(h:Kv r):∀{i:Nat},i<r.l.length→(i:Int)≤(nth r.l i).f
 |0,hi=>by have:=(h.link hi).1;omega
 |i+1,hi=>by
  have:=h.up (i:=i) (by omega)
  have:=(h.link hi).2.1 (by omega)
  simp only[sI]at this;omega
theorem Kv.len{r:Rr}(h:Kv r):r.l.length≤39:=by
 have h1:=h.n;by_cases h0:r.l.length=0
 ·omega
 ·have h2:=h.up (i:=r.l.length-1) (by omega)
  have h3:=(h.link (i:=r.l.length-1) (by omega)).1
  omega
theorem ago:∀n:Nat,lb [some 1] (List.replicate n [V.bU])=some (List.replicate n [ints []])
 |0=>rfl
 |n+1=>by rw[Bh,lb,ago n];rfl
theorem agp{n:Nat}:lb [some 1] (chunks 1 (List.replicate n V.bU) 0 n)=some (List.replicate n [ints []]):=by
 rw[ID _ _ _ rfl (by simp),vn,lZ (by simp),KP]
 exact ago n
theorem Vy:∀n:Nat,(List.replicate n [V.bU]).flatten=List.replicate n V.bU
 |0=>rfl
 |n+1=>by rw[Bh,uw,Vy n];rfl
theorem avi(r:Rr)(hr:im r)(G:List aP):aX F 79 [rr r] G=some (.tuple (if jy r=0 then [j0 (List.replicate r.l.length []),i64 0] else [.slice (some 0) 1 [],i64 (jy r)]),G) :=
 bL rfl rfl (by
  have h1:=NV r hr;have h2:=NW r hr;obtain⟨n,l⟩:=r;by_cases hz:jy ⟨n,l⟩=0
  ·have hl:=(kr hz).len
   simp only at hl;rw[aK hz];simp (disch:=omega) [wrap64,S5,h1,h2,hz,Vy,agp]
  ·rw[av hz]
   simp (disch:=omega) [wrap64,S5,h1,h2,hz])
theorem avj(r:Rr)(hr:im r)(G:List aP):aX F 128 [rr r] G=some (.tuple (if jy r=0 then [j0 (List.replicate r.l.length []),i64 0] else [.slice (some 0) 1 [],i64 (jy r)]),G) :=
 bL rfl rfl (by
  have h1:=NV r hr;have h2:=NW r hr;obtain⟨n,l⟩:=r;by_cases hz:jy ⟨n,l⟩=0
  ·have hl:=(kr hz).len
   simp only at hl;rw[aK hz];simp (disch:=omega) [wrap64,Tn,h1,h2,hz,Vy,agp]
  ·rw[av hz]
   simp (disch:=omega) [wrap64,Tn,h1,h2,hz])
noncomputable def qv(c:Cs)(l:List Ds):Int:=if eQ c≠0 then eQ c else if oz c l then 0 else 3
def nA(c:Cs)(l:List Ds):Fl:=⟨0,l,List.replicate c.r.l.length []⟩
noncomputable def qw(c:Cs)(l:List Ds):V:=.tuple (if qv c l=0 then [fl (nA c l),i64 0] else [.agg [i64 0,.slice (some 0) 4 [],.slice (some 0) 1 []],i64 (qv c l)])
theorem AX{c:Cs}(h:eQ c=0){l:List Ds}(hl:oz c l):Kd l:=by
 have h6:=(jM h).s;have h7:=hl.1;refine⟨by omega,fun i hi=>?_⟩
 have h8:=hl.2 i (by omega)
 have h9:=yT h8.1;have a:=h9.u;have b:=h9.g;have c:=h8.2.2.2.1;have d:=h8.2.2.2.2.1;omega
theorem Vz{c:Cs}(h:eQ c=0){l:List Ds}:fP c (nA c l)↔oz c l:=by
 refine⟨fun g=>g.2.1,fun g=>⟨by simp[nA],g,by simp[nA],fun i hi=>?_⟩⟩
 have hk:=(kr (jM h).k).link hi;refine⟨hk.2.2,?_⟩;have e:nth (nA c l).w i=[]:=by simp[nA,nth,hi]
 rw[e];exact⟨by simp,by simp,fun j hj=>by simp at hj⟩
theorem avk(c:Cs)(l:List Ds):kq (nA c l):=fun i=>by
 rcases cM i c.r.l.length with h|h
 ·simp[nA,nth,h]
 ·have e:nth (nA c l).w i=[]:=by
   simp[nA,nth,mo (show(List.replicate c.r.l.length ([]:List Int)).length≤i by simpa using h)]
   rfl
  rw[e];simp
theorem avl(c:Cs)(hr:im c.r)(l:List Ds):∃G',aX F 37 [cs c,ox l] []=some (qw c l,G'):=by
 have h1:=NX c hr;by_cases hz:eQ c=0
 ·have h2:=aga c (by have:=(jM hz).s;omega) l
  by_cases hs:oz c l
  ·have h3:=avi c.r hr
   rw[aK (jM hz).k]at h3;have h4:=Vv l (AX hz hs);rw[show qw c l=.tuple [fl (nA c l),i64 0] by unfold qw;rw[show qv c l=0 by unfold qv;rw[av (by omega),aK hs]];rfl]
   refine⟨[.cells []],bL rfl rfl ?_⟩;simp[wrap64,ML,h1,hz,h2,hs,h3,h4,p9,nA]
  ·rw[show qw c l=.tuple [.agg [i64 0,.slice (some 0) 4 [],.slice (some 0) 1 []],i64 3] by unfold qw;rw[show qv c l=3 by unfold qv;rw[av (by omega),av hs]];rfl]
   refine⟨[],bL rfl rfl ?_⟩;simp[wrap64,ML,h1,hz,h2,hs]
 ·rw[show qw c l=.tuple [.agg [i64 0,.slice (some 0) 4 [],.slice (some 0) 1 []],i64 (eQ c)] by unfold qw;rw[show qv c l=eQ c by unfold qv;rw[aK hz]];rw[av hz]]
  refine⟨[],bL rfl rfl ?_⟩;simp[wrap64,ML,h1,hz]
theorem avm(c:Cs)(hr:im c.r)(l:List Ds)(yV:Kd l):∃G',aX F 83 [cs c,ox l] []=some (qw c l,G'):=by
 have h1:=GG c hr;by_cases hz:eQ c=0
 ·have h3:=avj c.r hr
  rw[aK (jM hz).k]at h3;have h4:=agl l yV;have h5:=Ka c hr (nA c l) (avk c l);by_cases hs:oz c l
  ·rw[dD ⟨hz,(Vz hz).2 hs⟩]at h5
   rw[show qw c l=.tuple [fl (nA c l),i64 0] by unfold qw;rw[show qv c l=0 by unfold qv;rw[av (by omega),aK hs]];rfl]
   refine⟨[.cells []],bL rfl rfl ?_⟩;simp only[fl,Fl.row,nA,j0,KP]at h5;simp[wrap64,MP,h1,hz,h3,h4,h5,p9,nA]
  ·rw[decide_eq_false (fun g=>hs ((Vz hz).1 g.2))]at h5
   rw[show qw c l=.tuple [.agg [i64 0,.slice (some 0) 4 [],.slice (some 0) 1 []],i64 3] by unfold qw;rw[show qv c l=3 by unfold qv;rw[av (by omega),av hs]];rfl]
   refine⟨[.cells []],bL rfl rfl ?_⟩;simp only[fl,Fl.row,nA,j0,KP]at h5;simp[wrap64,MP,h1,hz,h3,h4,h5,p9]
 ·rw[show qw c l=.tuple [.agg [i64 0,.slice (some 0) 4 [],.slice (some 0) 1 []],i64 (eQ c)] by unfold qw;rw[show qv c l=eQ c by unfold qv;rw[aK hz]];rw[av hz]]
  refine⟨[],bL rfl rfl ?_⟩;simp[wrap64,MP,h1,hz]
theorem agq{l:List Int}{a:Int}:∀{i:Nat},i≤l.length→sm (l++[a]) i=sm l i
 |0,_=>rfl
 |i+1,h=>by
  simp only[sm];rw[agq (by omega),so (by omega)]
theorem avn{l:List Int}{a:Int}:sm (l++[a]) (l.length+1)=sm l l.length+a:=by
 simp only[sm];rw[agq (bY _),ik,av (by omega),aK rfl]
abbrev qa(l:List Int):V:=.slice (some 0) 1 (l.map fun n=>[i64 n])
abbrev VA(r:Rc):V:=.agg [qa r.w,i64 r.den]
theorem avo{l:List Int}{k:Nat}(hd:c5 l k):∃r k',aX F 124 [.bH 0 0] [dk l k]=some (VA r,[dk l k'])∧c5 l k'∧ft r=0∧r.w.length≤5:=by
 suffices h:∀Q:V→List aP→Prop,(∀r k',c5 l k'→ft r=0→r.w.length≤5→Q (VA r) [dk l k'])→gw (aX F) 124 [.bH 0 0] [dk l k] Q by
  obtain⟨_,_,h,r,k',rfl,rfl,h1⟩:=h (fun v G=>∃r k',v=VA r∧G=[dk l k']∧c5 l k'∧ft r=0∧r.w.length≤5) fun r k' a b c=>⟨r,k',rfl,rfl,a,b,c⟩;exact⟨r,k',h,h1⟩
 intro Q hQ;refine gF rfl rfl ?_;obtain⟨m,k1,n1,gH,hm⟩:=gG hd 5 (by omega)
 simp (disch:=omega) [wrap64,acp,n1];refine go_loop (fun s:List Int×Int×Int×Nat=>aqi (.bH 0 0) s.2.2.1 [.bU,i64 0] [.slice (some 1022) 1 (s.1.map fun n=>[i64 n]),i64 s.2.1] s.1.length [dk l s.2.2.2])
  (fun s=>s.2.1=sm s.1 s.1.length∧(∀i,i<s.1.length→0≤nth s.1 i∧nth s.1 i≤4)∧(s.1.length:Int)+s.2.2.1+1≤5 ∧ -1≤s.2.2.1∧(s.2.2.1 = -1→0<s.1.length∧1≤nth s.1 (s.1.length-1))∧c5 l s.2.2.2) (fun s=>(s.2.2.1+1).toNat)
  ([],0,m,k1) rfl (by simp) ⟨rfl,by simp,by simp;omega,by simp only;omega,by simp only;omega,gH⟩ ?_
 rintro⟨w,den,x,k⟩ ⟨h1,h2,h3,h4,h5,hd⟩;simp only at h1 h2 h3 h4 h5 hd;have oA:=AT (l:=w) (b:=4) (i:=w.length) h2;obtain⟨a,k2,n2,fp,ha⟩:=gG hd 4 (by omega)
 simp (disch:=omega) [wrap64,aco];refine bB (fun h6=>?_) (fun h6=>?_)
 ·have key:∀b:Int,(0≤b∧b≤4)→(x=0→1≤b)→((den+b=sm (w++[b]) (w++[b]).length)∧(∀i,i<(w++[b]).length→0≤nth (w++[b]) i∧nth (w++[b]) i≤4)∧((w++[b]).length:Int)+(x-1)+1≤5 ∧ -1≤x-1∧(x-1 = -1→0<(w++[b]).length∧1≤nth (w++[b]) ((w++[b]).length-1))∧c5 l k2):=fun b hb yF=>by
   refine⟨by rw[oG,po,avn,h1],fun i hi=>?_,by simp;omega,by omega,fun g=>⟨by simp,?_⟩,fp⟩
   ·rw[ik]
    simp at hi;split
    ·exact h2 i (by assumption)
    ·rw[aK (by omega)];exact hb
   ·rw[oG,po,sI,ik,av (by omega),aK rfl]
    exact yF (by omega)
  by_cases h7:x=0
  ·subst h7
   simp (disch:=omega) [wrap64,n2];exact bu (w++[a+1],den+(a+1),-1,k2) (by simp) (key (a+1) (by omega) (fun _=>by omega)) (by simp)
  ·simp (disch:=omega) [wrap64,n2,h7]
   exact bu (w++[a],den+a,x-1,k2) (by simp) (key a (by omega) (fun g=>absurd g h7)) (by simp only;omega)
 ·have hx:x = -1:=by omega
  obtain⟨h8,h9⟩:=h5 hx;refine hQ ⟨w,den⟩ k hd ?_ (by simp only;omega)
  unfold ft;simp only;rw[av (by omega),av (by omega),aK (show dF w 10000 from fun i hi=>by have:=h2 i hi;omega),aK h1.symm]
structure Rm(m:Int)(l:List Lk)(n:Int):Prop where
 link:∀i,i<l.length→0≤(nth l i).f∧(nth l i).f<(nth l i).t∧(nth l i).t≤m-1∧(nth l i).f<n∧ft (nth l i).r=0∧(nth l i).r.w.length≤5
 up:∀i,0<i→i<l.length→(nth l (i-1)).f<(nth l i).f
 len:(l.length:Int)≤n
theorem Rm.snoc{m:Int}{l:List Lk}{n:Int}(h:Rm m l n)(hn:0≤n){x:Lk}(h1:x.f=n)(h2:n<x.t)(h3:x.t≤m-1)(h4:ft x.r=0)(h5:x.r.w.length≤5):Rm m (l++[x]) (n+1):=by
 refine⟨fun i hi=>?_,fun i h0 hi=>?_,by have:=h.len;simp;omega⟩
 ·simp at hi
  rw[ik];split
  ·have:=h.link i (by assumption);omega
  ·rw[aK (by omega)];omega
 ·simp at hi
  rw[ik,ik,aK (by omega)]
  split
  ·exact h.up i h0 (by assumption)
  ·rw[aK (by omega),h1]
   exact(h.link (i-1) (by omega)).2.2.2.1
theorem Rm.skip{m:Int}{l:List Lk}{n:Int}(h:Rm m l n):Rm m l (n+1) :=
 ⟨fun i hi=>by have:=h.link i hi;omega,h.up,by have:=h.len;omega⟩
theorem Rm.lD{m:Int}{l:List Lk}{n:Int}(h:Rm m l n)(hm:1≤m∧m≤40):jy ⟨m,l⟩=0:=by
 unfold jy;rw[av (by simp only;omega)]
 refine pS fun i _ hi=>?_;have hi:i<l.length:=by simp only at hi;omega
 have a:=h.link i hi;show(if (0≤(nth l i).f∧(nth l i).f≤m-1)∧(0≤(nth l i).t∧(nth l i).t≤m-1) then (if (nth l i).t≤(nth l i).f then 12 else if 0<i∧(nth l i).f≤(nth l (i-1)).f then 4 else ft (nth l i).r) else 11)=0
 rw[aK (by omega),av (by omega),av (fun g=>by have:=h.up i g.1 hi;omega)]
 exact a.2.2.2.2.1
abbrev VB(l:List Lk):V:=.slice (some 0) 4 (l.map Lk.row)
theorem avp{l:List Int}{k:Nat}(hd:c5 l k):∃r k',aX F 81 [.bH 0 0] [dk l k]=some (.agg [i64 r.n,VB r.l],[dk l k'])∧c5 l k'∧jy r=0∧r.n≤6∧∀i,i<r.l.length→(nth r.l i).r.w.length≤5:=by
 suffices h:∀Q:V→List aP→Prop,(∀r k',c5 l k'→jy r=0→r.n≤6→(∀i,i<r.l.length→(nth r.l i).r.w.length≤5)→Q (.agg [i64 r.n,VB r.l]) [dk l k'])→gw (aX F) 81 [.bH 0 0] [dk l k] Q by
  obtain⟨_,_,h,r,k',rfl,rfl,h1⟩:=h (fun v G=>∃r k',v=.agg [i64 r.n,VB r.l]∧G=[dk l k']∧c5 l k'∧jy r=0∧r.n≤6∧∀i,i<r.l.length→(nth r.l i).r.w.length≤5) fun r k' a b c d=>⟨r,k',rfl,rfl,a,b,c,d⟩;exact⟨r,k',h,h1⟩
 intro Q hQ;refine gF rfl rfl ?_;obtain⟨a,k1,n1,gH,ha⟩:=gG hd 6 (by omega)
 obtain⟨m,hm⟩:∃m:Int,1+a=m:=⟨_,rfl⟩;simp (disch:=omega) [wrap64,abI,n1,hm];refine go_loop (fun s:List Lk×Int×Nat=>apl (.bH 0 0) s.2.1 [i64 0,.bU] [i64 m,.slice (some 1036) 4 (s.1.map Lk.row)] s.1.length [dk l s.2.2])
  (fun s=>Rm m s.1 s.2.1∧(0≤s.2.1∧s.2.1<m)∧c5 l s.2.2) (fun s=>(m-s.2.1).toNat) ([],0,k1) rfl (by simp) ⟨⟨by simp,by simp,by simp⟩,by simp only;omega,gH⟩ ?_
 rintro⟨ls,n,k⟩ ⟨h1,h2,hd⟩;simp only at h1 h2 hd;have mb:=h1.len;obtain⟨b,k2,n2,fp,hb⟩:=gG hd 6 (by omega)
 simp (disch:=omega) [wrap64,abH];refine bB (fun h6=>?_) (fun h6=>?_)
 ·by_cases h7:0<b
  ·obtain⟨e,k3,n3,lF,he⟩:=gG fp (m-n-1) (by omega)
   obtain⟨r,k4,n4,pT,qj,lh⟩:=avo lF;simp (disch:=omega) [wrap64,n2,h7,n3,n4];exact bu (ls++[⟨n,n+1+e,r⟩],n+1,k4) (by simp) ⟨h1.snoc h2.1 rfl (by simp only;omega) (by simp only;omega) qj lh,by simp only;omega,pT⟩ (by simp only;omega)
  ·simp (disch:=omega) [wrap64,n2,h7]
   exact bu (ls,n+1,k2) (by simp) ⟨h1.skip,by simp only;omega,fp⟩ (by simp only;omega)
 ·refine hQ ⟨m,ls⟩ k hd (h1.lD (by omega)) (by simp only;omega) fun i hi=>(h1.link i hi).2.2.2.2.2
structure Cm(c:Cs):Prop where
 lD:eQ c=0
 n:c.r.n≤6
 s:c.s.length≤3
 w:∀i,i<c.r.l.length→(nth c.r.l i).r.w.length≤5
theorem Cm.small{c:Cs}(h:Cm c):im c.r:=by
 have:=(kr (jM h.lD).k).len;exact⟨by omega,fun i hi=>by have:=h.w i hi;omega⟩
structure Sm(m:Int)(s:List Si)(l:List Ds)(n:Int):Prop where
 len:l.length=s.length
 three:s.length≤3
 site:∀i,i<s.length→(0≤(nth s i).n∧(nth s i).n<m∧(nth s i).n<n)∧fW (nth s i).d=0∧iU (nth s i).d (nth l i)
 up:∀i,0<i→i<s.length→(nth s (i-1)).n<(nth s i).n
abbrev N8(l:List Si):V:=.slice (some 0) 10 (l.map Si.row)
abbrev N9(l:List Ds):V:=.slice (some 0) 4 (l.map Ds.row)
theorem Sm.snoc{m:Int}{s:List Si}{l:List Ds}{n:Int}(h:Sm m s l n)(h3:s.length<3)(hn:0≤n∧n<m){d:Dm}{x:Ds}(h1:fW d=0)(h2:iU d x):Sm m (s++[⟨n,d⟩]) (l++[x]) (n+1):=by
 refine⟨by simp[h.len],by simp;omega,fun i hi=>?_,fun i h0 hi=>?_⟩
 ·simp at hi
  rw[ik,ik,h.len];split
  ·have:=h.site i (by assumption)
   exact⟨by omega,this.2⟩
  ·rw[aK (by omega),aK (by omega)];exact⟨by simp only;omega,h1,h2⟩
 ·simp at hi
  rw[ik,ik,aK (by omega)]
  split
  ·exact h.up i h0 (by assumption)
  ·rw[aK (by omega)]
   exact(h.site (i-1) (by omega)).1.2.2
theorem Sm.skip{m:Int}{s:List Si}{l:List Ds}{n:Int}(h:Sm m s l n):Sm m s l (n+1) :=
 ⟨h.len,h.three,fun i hi=>⟨by have:=h.site i hi;omega,(h.site i hi).2⟩,h.up⟩
theorem Sm.lD{r:Rr}{s:List Si}{l:List Ds}{n:Int}(h:Sm r.n s l n)(hk:jy r=0)(h6:r.n≤6):eQ ⟨r,s⟩=0:=by
 unfold eQ;simp only;have h3:=h.three;rw[av (by omega),av (by omega),av (by omega)]
 refine pS fun i _ hi=>?_;have hi:i<s.length:=by omega
 have a:=h.site i hi;show(if 0≤(nth s i).n∧(nth s i).n<r.n then (if 0<i∧(nth s i).n≤(nth s (i-1)).n then 4 else fW (nth s i).d) else 41)=0
 rw[aK (by omega),av (fun g=>by have:=h.up i g.1 hi;omega)]
 exact a.2.1
theorem avq{l:List Int}{k:Nat}(hd:c5 l k):∃c s k',aX F 39 [.bH 0 0] [dk l k]=some (.tuple [.agg [i64 c.r.n,nV c.r.l,N8 c.s],N9 s],[dk l k'])∧c5 l k'∧Cm c∧oz c s:=by
 suffices h:∀Q:V→List aP→Prop,(∀c s k',c5 l k'→Cm c→oz c s→Q (.tuple [.agg [i64 c.r.n,nV c.r.l,N8 c.s],N9 s]) [dk l k'])→gw (aX F) 39 [.bH 0 0] [dk l k] Q by
  obtain⟨_,_,h,c,s,k',rfl,rfl,h1⟩:=h (fun v G=>∃c s k',v=.tuple [.agg [i64 c.r.n,nV c.r.l,N8 c.s],N9 s]∧G=[dk l k']∧c5 l k'∧Cm c∧oz c s) fun c s k' a b d=>⟨c,s,k',rfl,rfl,a,b,d⟩;exact⟨c,s,k',h,h1⟩
 intro Q hQ;refine gF rfl rfl ?_;obtain⟨r,k1,n1,gH,hk,hn,hw⟩:=avp hd;have jZ:=(kr hk).n;simp (disch:=omega) [wrap64,aaU,n1];refine go_loop (fun s:List Si×List Ds×Int×Nat=>aoc (.bH 0 0) (.slice (some 1043) 4 (s.2.1.map Ds.row)) s.2.2.1 [i64 0,.bU,.bU] [i64 r.n,nV r.l,.slice (some 1039) 10 (s.1.map Si.row)] s.1.length s.2.1.length [dk l s.2.2.2])
  (fun s=>Sm r.n s.1 s.2.1 s.2.2.1∧(0≤s.2.2.1∧s.2.2.1≤r.n)∧c5 l s.2.2.2) (fun s=>(r.n-s.2.2.1).toNat) ([],[],0,k1) rfl (by simp) ⟨⟨rfl,by simp,by simp,by simp⟩,by simp only;omega,gH⟩ ?_
 rintro⟨s,d,n,k⟩ ⟨h1,h2,hd⟩;simp only at h1 h2 hd;have h3:=h1.three;have hl:=h1.len;have fin:Q (.tuple [.agg [i64 r.n,nV r.l,N8 s],N9 d]) [dk l k]:=hQ ⟨r,s⟩ d k hd ⟨h1.lD hk hn,hn,h3,hw⟩ ⟨hl,fun i hi=>(h1.site i hi).2⟩;by_cases h4:n<r.n
 ·by_cases h5:s.length<3
  ·have AS:(s.length:Int)<3:=by omega
   obtain⟨b,k2,n2,fp,hb⟩:=gG hd 2 (by omega)
   by_cases h6:b=0
   ·obtain⟨dd,x,k3,n3,lF,wx⟩:=auA fp
    simp (disch:=omega) [wrap64,I8,h4,AS,n2,h6,n3];exact bu (s++[⟨n,dd⟩],d++[x],n+1,k3) (by simp[hl]) ⟨h1.snoc h5 (by omega) wx.lD wx.fit,by simp only;omega,lF⟩ (by simp only;omega)
   ·simp (disch:=omega) [wrap64,I8,h4,AS,n2,h6]
    exact bu (s,d,n+1,k2) (by simp) ⟨h1.skip,by simp only;omega,fp⟩ (by simp only;omega)
  ·have AS:¬ (s.length:Int)<3:=by omega
   simp (disch:=omega) [wrap64,I8,h4,AS];exact fin
 ·simp (disch:=omega) [wrap64,I8,h4]
  exact fin
theorem VD{l:List Int}{k:Nat}(hd:c5 l k){c:Cs}(hn:1≤c.r.n∧c.r.n≤40)(hs:c.s.length≤10) :
  ∃p k',aX F 10 [.bH 0 0,cs c] [dk l k]=some (.agg [qa p.a,qa p.b,qa p.c],[dk l k'])∧c5 l k'∧j7 c p∧dF p.a 30∧dF p.b 30∧dF p.c 30:=by
 suffices h:∀Q:V→List aP→Prop,(∀p k',c5 l k'→j7 c p→dF p.a 30→dF p.b 30→dF p.c 30→Q (.agg [qa p.a,qa p.b,qa p.c]) [dk l k'])→gw (aX F) 10 [.bH 0 0,cs c] [dk l k] Q by
  obtain⟨_,_,h,p,k',rfl,rfl,h1⟩:=h (fun v G=>∃p k',v=.agg [qa p.a,qa p.b,qa p.c]∧G=[dk l k']∧c5 l k'∧j7 c p∧dF p.a 30∧dF p.b 30∧dF p.c 30) fun p k' a b d e g=>⟨p,k',rfl,rfl,a,b,d,e,g⟩;exact⟨p,k',h,h1⟩
 intro Q hQ;refine gF rfl rfl ?_;obtain⟨⟨n,r⟩,s⟩:=c;simp only at hn hs;have snoc:∀{a:List Int} {x:Int},dF a 30→(0≤x∧x≤30)→dF (a++[x]) 30:=fun h hx i hi=>by
  simp at hi;rw[ik];split
  ·exact h i (by assumption)
  ·rw[aK (by omega)];exact hx
 simp (disch:=omega) [wrap64,Sf];refine go_loop (fun y:List Int×Nat=>⟨[(0,.bH 0 0),(3,.bj 3 0),(4,.bj 4 0),(5,.bj 5 0),(8,i64 n),(9,i64 y.1.length)],[(3,[i64 n,nV r,ru s]),(4,[.bU,.bU,.bU]),(5,[.slice (some 1016) 1 (y.1.map fun n=>[i64 n]),.bU,.bU])],[(1016,y.1.length)],[dk l y.2]⟩)
  (fun y=>(y.1.length:Int)≤n∧dF y.1 30∧c5 l y.2) (fun y=>(n-y.1.length).toNat) ([],k) rfl (by simp) ⟨by simp;omega,fun i hi=>by simp at hi,hd⟩ ?_
 rintro⟨a,k⟩ ⟨h1,h2,hd⟩;simp only at h1 h2 hd;obtain⟨x,k1,n1,gH,hx⟩:=gG hd 14 (by omega)
 simp (disch:=omega) [wrap64,Sd];refine bB (fun h3=>?_) (fun h3=>?_)
 ·simp (disch:=omega) [wrap64,n1]
  exact bu (a++[x],k1) (by simp) ⟨by simp;omega,snoc h2 (by omega),gH⟩ (by simp;omega)
 ·refine go_loop (fun y:List Int×List Int×Nat=>⟨[(0,.bH 0 0),(4,.bj 4 0),(5,.bj 5 0),(21,i64 s.length),(22,i64 y.1.length)],[(4,[.bU,.bU,.bU]),(5,[.slice (some 1016) 1 (a.map fun n=>[i64 n]),.slice (some 1029) 1 (y.1.map fun n=>[i64 n]),.slice (some 1035) 1 (y.2.1.map fun n=>[i64 n])])],[(1016,a.length),(1029,y.1.length),(1035,y.2.1.length)],[dk l y.2.2]⟩)
   (fun y=>y.1.length≤s.length∧y.2.1.length=y.1.length∧dF y.1 30∧dF y.2.1 30∧c5 l y.2.2) (fun y=>s.length-y.1.length) ([],[],k) rfl (by simp) ⟨by simp,rfl,fun i hi=>by simp at hi,fun i hi=>by simp at hi,hd⟩ ?_
  rintro⟨b,d,k⟩ ⟨g1,g2,g3,g4,hd⟩;simp only at g1 g2 g3 g4 hd;obtain⟨x,k1,n1,gH,hx⟩:=gG hd 3 (by omega)
  obtain⟨y,k2,n2,fp,hy⟩:=gG gH 30 (by omega)
  simp (disch:=omega) [wrap64,Se];refine bB (fun h4=>?_) (fun h4=>?_)
  ·simp (disch:=omega) [wrap64,n1,n2,g2]
   exact bu (b++[x],d++[y],k2) (by simp[g2]) ⟨by simp;omega,by simp[g2],snoc g3 (by omega),snoc g4 (by omega),fp⟩ (by simp;omega)
  ·refine hQ ⟨a,b,d⟩ k hd ⟨by simp only;omega,by simp only;omega,by simp only;omega⟩ h2 g3 g4
structure Co where
 arr:List Int
 d:List Ds
 w:List (List Int)
 re:List Dr
 lf:List Int
 cm:List Int
def qx(r:Dr):Int:=r.tur+r.spi+r.ovr
noncomputable def na(c:Cs)(p:Sp)(v:Co)(k:Nat):Int:=match lM c.s k with
 |none=>0
 |some i=>pf (nth c.s i).d (nth v.d i) (nth v.arr k) (nth p.b i) (nth p.c i)
noncomputable def vR(c:Cs)(p:Sp)(v:Co)(k i:Nat):Dr:=mj (nth c.s i).d (nth v.d i) (nth v.arr k) (nth p.b i) (nth p.c i)
noncomputable def fL(c:Cs)(p:Sp)(v:Co)(k:Nat):Int:=match lM c.s k with
 |none=>nth v.arr k
 |some i=>qx (vR c p v k i)
noncomputable def vD(c:Cs)(p:Sp)(v:Co)(k:Nat):Co:=match lM c.s k with
 |none=>{ v with lf:=v.lf++[fL c p v k] }
 |some i=>{ v with d:=v.d.set i (m9 (nth c.s i).d (nth v.d i) (nth v.arr k) (nth p.b i) (nth p.c i)),re:=v.re++[vR c p v k i],lf:=v.lf++[fL c p v k] }
noncomputable def pg(c:Cs)(v:Co)(x:Int)(k:Nat):Int:=match ml c.r.l k with
 |none=>0
 |some j=>g6 (nth c.r.l j).r (nth v.w j) x
noncomputable def vL(c:Cs)(v:Co)(x:Int)(k:Nat):Co:=match ml c.r.l k with
 |none=>v
 |some j=>{ v with w:=v.w.set j (lL (nth c.r.l j).r (nth v.w j) x),cm:=v.cm++[mP (nth c.r.l j).r (nth v.w j) x],arr:=v.arr.set (nth c.r.l j).t.toNat (nth v.arr (nth c.r.l j).t.toNat+mP (nth c.r.l j).r (nth v.w j) x) }
noncomputable def vE(c:Cs)(p:Sp)(v:Co)(k:Nat):Int:=if na c p v k≠0 then na c p v k else pg c v (fL c p v k) k
noncomputable def vS(c:Cs)(p:Sp)(v:Co)(k:Nat):Co:=vL c (vD c p v k) (fL c p v k) k
structure Vc(c:Cs)(p:Sp)(v:Co)(k:Nat):Prop where
 c0:eQ c=0
 p:j7 c p
 Eo:(v.arr.length:Int)=c.r.n
 arr:∀j,j<v.arr.length→0≤nth v.arr j∧nth v.arr j≤1073741824+1125899906842624*k
 d:oz c v.d
 w:El c v.w
 rl:v.re.length≤k
 ll:v.lf.length=k
 cl:v.cm.length≤k
abbrev crs(c:Cs)(p:Sp)(t:Int)(v:Co):List V:=[i64 t,.c6 0 4 v.d.length,.c6 1 1 v.w.length,i64 c.r.n,nV c.r.l,ru c.s,ints p.a,ints p.b,ints p.c,.c6 2 1 v.arr.length,
 .fE 7 (v.re.map Dr.row),.fE 1 (v.lf.map fun n=>[i64 n]),.fE 1 (v.cm.map fun n=>[i64 n])]
abbrev Gc(c:Cs)(p:Sp)(t:Int)(v:Co)(J:List aP):List aP:=.cells (iq v.d)::.cells (jN v.w)::.cells (cP v.arr)::.cells (crs c p t v)::J
theorem Oa{l:List Ds}{i:Nat}(h:i<l.length):((iq l).drop (i*4)).take 4=(nth l i).row:=NZ (row:=Ds.row) (fun _=>rfl) h
theorem ags{l:List Ds}{i:Nat}(h:i<l.length)(x:Ds):jn (iq l) (i*4) x.row=iq (l.set i x):=Kc (row:=Ds.row) (fun _=>rfl) h
theorem Ob{l:List (List Int)}{i:Nat}(h:i<l.length):((jN l).drop i).take 1=[ints (nth l i)]:=by
 have:=NZ (row:=fun p=>[ints p]) (k:=1) (fun _=>rfl) h
 rwa [Hv]at this
theorem avs{l:List (List Int)}{i:Nat}(h:i<l.length)(x:List Int):jn (jN l) i [ints x]=jN (l.set i x):=by
 have:=Kc (row:=fun p=>[ints p]) (k:=1) (fun _=>rfl) (x:=x) h
 rwa [Hv]at this
theorem st0{d:Dm}{s:Ds}{a b c:Int}(h:pf d s a b c=0):fW d=0∧iU d s∧(0≤a∧a≤1073741824)∧(0≤b∧b≤1073741824)∧(0≤c∧c≤1073741824):=by
 unfold pf at h;split at h
 ·rename_i h1;exact absurd h h1
 ·rename_i h1
  split at h
  ·cases h
  ·rename_i h2
   have h1:dE d s=0:=iu h1;have hd:fW d=0:=by
    unfold dE at h1;split at h1
    ·rename_i h3;exact absurd h1 h3
    ·rename_i h3;exact iu h3
   simp only[CM,zH,yU,EH,CI,vm,decide_eq_false_iff_not,not_or,Classical.not_not]at h2;exact⟨hd,(J1 h1).2,h2.1,h2.2.1,h2.2.2⟩
theorem agu{d:Dm}{s:Ds}{a b c:Int}(h:pf d s a b c=0):((0≤(mj d s a b c).tur∧(mj d s a b c).tur≤1073741824)∧(0≤(mj d s a b c).spi∧(mj d s a b c).spi≤17179869184)∧(0≤(mj d s a b c).ovr∧(mj d s a b c).ovr≤1073741824)) ∧
  (0≤(mj d s a b c).los∧(mj d s a b c).los≤1073741824)∧(m9 d s a b c).v=s.v+a-(mj d s a b c).los-qx (mj d s a b c):=by
 obtain⟨hd,hf,ha,hb,hc⟩:=st0 h;have ov:=yT hd;have p:=U9 ov hf ha hb hc;have hv:=hf.1;have hL:eG s a b=s.v+a-min b (s.v+a):=rfl;have hO:ug d s a b c=max (eG s a b-(gJ d s a b c+mO d s a b c)-lV d) 0:=rfl;have Qg:=p.T0;have hTr:=p.Tr;have hP0:=p.P0;have hP1:=p.P1;have e1:(mj d s a b c).los=min b (s.v+a):=rfl;have e2:(mj d s a b c).tur=gJ d s a b c:=rfl;have e3:(mj d s a b c).spi=mO d s a b c:=rfl;have e4:(mj d s a b c).ovr=ug d s a b c:=rfl;have e5:(m9 d s a b c).v=eG s a b-(gJ d s a b c+mO d s a b c)-ug d s a b c:=rfl;unfold qx;rw[e1,e2,e3,e4,e5];omega
theorem GM{r:Rc}{p:List Int}{x:Int}(h:g6 r p x=0):ft r=0∧iZ r p∧(0≤x∧x≤1073741824)∧wB r p x:=by
 unfold g6 at h;split at h
 ·rename_i h1;exact absurd h h1
 ·rename_i h1
  split at h
  ·rename_i h2
   split at h
   ·rename_i h3;exact⟨iu h1,h2,h3⟩
   ·cases h
  ·cases h
theorem GN{r:Rc}{p:List Int}{x:Int}(h:g6 r p x=0):0≤mP r p x∧mP r p x≤1125899906842624:=by
 obtain⟨h1,h2,h3,h4⟩:=GM h;have hv:=vg h1;have q:=AU hv h2 h3 0;have:=h4 0 (by have:=hv.pos;omega)
 have a:=Hc q.1 (show 0≤r.den by have:=hv.den;omega)
 have b:=KH r.den q.1;unfold mP;omega
theorem VE{l:List (List Int)}{i:Nat}(x:List Int):(jN l).set i (.slice none 1 (x.map fun n=>[i64 n]))=jN (l.set i x):=by
 rcases cM i l.length with h|h
 ·rw[←avs h];rfl
 ·rw[EN (by simpa using h),EN h]
set_option maxRecDepth 100000 in
set_option maxHeartbeats 4000000 in
theorem avt{c:Cs}(hr:im c.r){p:Sp}{v:Co}{k:Nat}(h:Vc c p v k)(hk:k<v.arr.length)(t:Int)(J:List aP) :
  ∃G',aX F 89 [.bH 3 0,i64 k] (Gc c p t v J)=some (i64 (vE c p v k),G')∧(vE c p v k=0→G'=Gc c p t (vS c p v k) (J++[.cells [i64 k]])):=by
 suffices hh:∀Q:V→List aP→Prop,(∀G',(vE c p v k=0→G'=Gc c p t (vS c p v k) (J++[.cells [i64 k]]))→Q (i64 (vE c p v k)) G')→gw (aX F) 89 [.bH 3 0,i64 k] (Gc c p t v J) Q by
  obtain⟨_,G',h,rfl,h1⟩:=hh (fun x G'=>x=i64 (vE c p v k)∧(vE c p v k=0→G'=Gc c p t (vS c p v k) (J++[.cells [i64 k]]))) fun G' g=>⟨rfl,g⟩;exact⟨G',h,h1⟩
 intro Q hQ;refine gF rfl rfl ?_;have cv:=jM h.c0;generalize Cq:J++[aP.cells [i64 k]]=J' at hQ;have hJ:J'[J.length]?=some (.cells [i64 k]):=by rw[←Cq];exact List.getElem?_concat_length
 have tu:∀G0 G1 G2 G3,aX F 131 [ru c.s,.fn 132 [.bH (J.length+1+1+1+1) 0]] (G0::G1::G2::G3::J')=some (i64 (vi (lM c.s k)),G0::G1::G2::G3::J') :=
  fun G0 G1 G2 G3=>avd c.s (by have:=cv.s;omega) k (G:=G0::G1::G2::G3::J') hJ
 have tv:∀G0 G1 G2 G3,aX F 135 [nV c.r.l,.fn 136 [.bH (J.length+1+1+1+1) 0]] (G0::G1::G2::G3::J')=some (i64 (vi (ml c.r.l k)),G0::G1::G2::G3::J') :=
  fun G0 G1 G2 G3=>ave c.r.l (by have:=(kr cv.k).len;omega) k (G:=G0::G1::G2::G3::J') hJ
 have VF:k<v.arr.length:=hk;have mb:=h.ll;have aDI:k≤12:=by have:=h.Eo;have:=cv.n;omega
 have sY:=h.rl;have dJ:=h.cl;have FR:∀j,ml c.r.l k=some j→j<c.r.l.length∧j<v.w.length∧(nth c.r.l j).t.toNat<v.arr.length∧0≤(nth c.r.l j).t:=fun j hl=>by
  have hj:=(AW hl).1;have pN:j<c.r.l.length:=by omega
  have:=(kr cv.k).link pN;have:=h.Eo;have:=h.w.1;omega
 cases hs:lM c.s k with
 |none =>
  have e0:na c p v k=0:=by simp only[na,hs]
  have e1:fL c p v k=nth v.arr k:=by simp only[fL,hs]
  have eE:vE c p v k=pg c v (nth v.arr k) k:=by rw[vE,e0,e1];rfl
  have e2:vS c p v k=vL c { v with lf:=v.lf++[nth v.arr k] } (nth v.arr k) k:=by rw[vS,vD,e1,hs]
  rw[hs]at tu;cases hl:ml c.r.l k with
  |none =>
   rw[hl]at tv;simp only[vi]at tu tv;have e3:vE c p v k=0:=by rw[eE,pg,hl]
   rw[e3]at hQ;simp (disch:=omega) [-getElem?_pos,wrap64,B5,tu,Cq,hJ,lA,tv];refine hQ _ fun _=>?_;rw[e2,vL,hl];simp
  |some j =>
   rw[hl]at tv;simp only[vi]at tu tv;obtain⟨pN,iX,VG,hj4⟩:=FR j hl;have hR:=af9 (nth c.r.l j).r (hr.2 j pN) (nth v.w j) (by have:=(h.w.2 j pN).2.1;have:=(vg (h.w.2 j pN).1).len;omega) (nth v.arr k)
   have e3:vE c p v k=g6 (nth c.r.l j).r (nth v.w j) (nth v.arr k):=by rw[eE,pg,hl]
   rw[e3]at hQ;by_cases hz:g6 (nth c.r.l j).r (nth v.w j) (nth v.arr k)=0
   ·have ho:=GN hz
    have ha:=h.arr (nth c.r.l j).t.toNat VG;rw[J9 hz]at hR;rw[hz]at hQ;simp (disch:=omega) [-getElem?_pos,wrap64,B5,tu,Cq,hJ,lA,tv,aY (l:=c.r.l),Ob,VE,hR];refine hQ _ fun _=>?_;rw[e2,vL,hl];simp
   ·rw[Ek rfl hz]at hR
    simp (disch:=omega) [-getElem?_pos,wrap64,B5,tu,Cq,hJ,lA,tv,aY (l:=c.r.l),Ob,hR,hz];exact hQ _ fun g=>absurd g hz
 |some i =>
  rw[hs]at tu;have hi:=(AW hs).1;have Oc:i<c.s.length:=by omega
  have oe:i<v.d.length:=by have:=h.d.1;omega
  have hpb:i<p.b.length:=by have:=h.p;unfold j7 at this;omega
  have hpc:i<p.c.length:=by have:=h.p;unfold j7 at this;omega
  obtain⟨Ga,hS⟩:=auo (nth c.s i).d (nth v.d i) (nth v.arr k) (nth p.b i) (nth p.c i);by_cases he:pf (nth c.s i).d (nth v.d i) (nth v.arr k) (nth p.b i) (nth p.c i)=0
  ·have VH:=(agu he).1
   have e0:na c p v k=0:=by simp only[na,hs,he]
   have e1:fL c p v k=qx (vR c p v k i):=by simp only[fL,hs]
   have eE:vE c p v k=pg c v (qx (vR c p v k i)) k:=by rw[vE,e0,e1];rfl
   have e2:vS c p v k=vL c { v with d:=v.d.set i (m9 (nth c.s i).d (nth v.d i) (nth v.arr k) (nth p.b i) (nth p.c i)),re:=v.re++[vR c p v k i],lf:=v.lf++[qx (vR c p v k i)] } (qx (vR c p v k i)) k:=by rw[vS,vD,e1,hs]
   rw[uh,aK he]at hS;unfold vR at eE e2;generalize m9 (nth c.s i).d (nth v.d i) (nth v.arr k) (nth p.b i) (nth p.c i)=S' at hS e2;generalize mj (nth c.s i).d (nth v.d i) (nth v.arr k) (nth p.b i) (nth p.c i)=R' at hS VH eE e2;have hF:=aut R' (by omega) (by omega) (by omega)
   rw[show R'.tur+R'.spi+R'.ovr=qx R' from rfl]at hF;have fm:((((iq v.d).set (i*4) (i64 S'.v)).set (i*4+1) (i64 S'.rel)).set (i*4+1+1) (jJ S'.u)).set (i*4+1+1+1) (jw S'.g)=iq (v.d.set i S'):=ags oe S';cases hl:ml c.r.l k with
   |none =>
    rw[hl]at tv;simp only[vi]at tu tv;have e3:vE c p v k=0:=by rw[eE,pg,hl]
    rw[e3]at hQ;simp (disch:=omega) [-getElem?_pos,wrap64,B5,tu,Cq,hJ,lA,tv,aY (l:=c.s),dA (l:=p.b),dA (l:=p.c),Oa,hS,hF,fm];refine hQ _ fun _=>?_;rw[e2,vL,hl];simp
   |some j =>
    rw[hl]at tv;simp only[vi]at tu tv;obtain⟨pN,iX,VG,hj4⟩:=FR j hl;have hR:=af9 (nth c.r.l j).r (hr.2 j pN) (nth v.w j) (by have:=(h.w.2 j pN).2.1;have:=(vg (h.w.2 j pN).1).len;omega) (qx R')
    have e3:vE c p v k=g6 (nth c.r.l j).r (nth v.w j) (qx R'):=by rw[eE,pg,hl]
    rw[e3]at hQ;by_cases hz:g6 (nth c.r.l j).r (nth v.w j) (qx R')=0
    ·have ho:=GN hz
     have ha:=h.arr (nth c.r.l j).t.toNat VG;rw[J9 hz]at hR;rw[hz]at hQ;simp (config:={ maxSteps:=2000000 }) +contextual (disch:=omega) [-getElem?_pos,-List.length_eq_zero_iff,-Int.natCast_eq_zero,wrap64,B5,tu,Cq,hJ,lA,tv,aY (l:=c.r.l),Ob,VE,hR,aY (l:=c.s),dA (l:=p.b),dA (l:=p.c),Oa,hS,hF,fm];refine hQ _ fun _=>?_;rw[e2,vL,hl];simp
    ·rw[Ek rfl hz]at hR
     simp (config:={ maxSteps:=2000000 }) +contextual (disch:=omega) [-getElem?_pos,-List.length_eq_zero_iff,-Int.natCast_eq_zero,wrap64,B5,tu,Cq,hJ,lA,tv,aY (l:=c.r.l),Ob,hR,hz,aY (l:=c.s),dA (l:=p.b),dA (l:=p.c),Oa,hS,hF,fm];exact hQ _ fun g=>absurd g hz
  ·rw[uh,av he]at hS
   simp only[vi]at tu;have e3:vE c p v k=pf (nth c.s i).d (nth v.d i) (nth v.arr k) (nth p.b i) (nth p.c i):=by
    have:na c p v k=pf (nth c.s i).d (nth v.d i) (nth v.arr k) (nth p.b i) (nth p.c i):=by simp only[na,hs]
    rw[vE,this,aK he]
   rw[e3]at hQ;have he':=decide_eq_false he;simp (disch:=omega) [-getElem?_pos,wrap64,B5,tu,Cq,hJ,lA,tv,aY (l:=c.s),dA (l:=p.b),dA (l:=p.c),Oa,hS,he'];exact hQ _ fun g=>absurd g he
end Go.Proofs.YtcelmhaoipbdiaaGreat
namespace Go.Proofs.YtcelmhaoipbdiaaGreat
set_option linter.all false
open Go.Vm
theorem agw{f:Nat→Int}:∀n,nz f n≤n
 |0=>bY _
 |n+1=>by
  unfold nz;split
  ·exact Nat.le_succ_of_le (agw n)
  ·exact bY _
theorem agx{f:Nat→Int}:∀n,0<nz f n→f (nz f n-1)≠0
 |0,h=>by simp[nz]at h
 |n+1,h=>by
  unfold nz at h ⊢;split
  ·rename_i h1;rw[aK h1]at h;exact agx n h
  ·rename_i h1;exact h1
theorem agy{f:Nat→Int}{n i:Nat}(h:i<n):nth ((List.range n).map f) i=f i:=by
 simp[nth,h]
theorem agz{r:Rc}{p:List Int}{x:Int}(h:g6 r p x=0):iZ r (lL r p x):=by
 obtain⟨h1,h2,h3,h4⟩:=GM h;have hv:=vg h1;have hl:(lL r p x).length=nz (rN r p x) r.w.length:=by simp[lL]
 have hle:=agw (f:=rN r p x) r.w.length;have hn:∀i,i<nz (rN r p x) r.w.length→nth (lL r p x) i=rN r p x i:=fun i hi=>agy hi;refine⟨by omega,fun h0=>?_,fun i hi=>?_⟩
 ·rw[hl]at h0 ⊢
  rw[hn _ (by omega)]
  exact agx _ h0
 ·rw[hn i (by omega)]
  have hd:=hv.den;have q0:=AU hv h2 h3 0;have hb:∀k,k≤r.w.length→0≤rq r p x k∧rq r p x k≤1125899906842624:=fun k hk=>by
   rcases cM k r.w.length with g|g
   ·exact⟨(AU hv h2 h3 k).1,h4 k g⟩
   ·have e:rq r p x k=0:=by unfold rq;rw[wC g,wC (by have:=h2.1;omega)];simp
    rw[e];omega
  unfold rN;split
  ·have:=hb 1 hv.pos
   have:=O1 (rq r p x 0) (show r.den≠0 by omega)
   have:=O0 (rq r p x 0) (show 0<r.den by omega)
   omega
  ·have:=hb (i+1) (by omega)
   omega
theorem Od{α:Type}[Inhabited α]{l:List α}{i j:Nat}{x:α}(h:i<l.length):nth (l.set i x) j=if j=i then x else nth l j:=ui h
theorem agA{c:Cs}{p:Sp}{v:Co}{k:Nat}(he:vE c p v k=0):na c p v k=0∧pg c v (fL c p v k) k=0:=by
 unfold vE at he;split at he
 ·rename_i h1;exact absurd he h1
 ·rename_i h1;exact⟨iu h1,he⟩
theorem Ke{c:Cs}{p:Sp}{v:Co}{k:Nat}:(vD c p v k).arr=v.arr∧(vD c p v k).w=v.w∧(vD c p v k).cm=v.cm∧(vD c p v k).lf=v.lf++[fL c p v k]:=by
 unfold vD;cases lM c.s k<;>exact⟨rfl,rfl,rfl,rfl⟩
theorem avw{c:Cs}{p:Sp}{v:Co}{k:Nat}(h:oz c v.d)(h0:na c p v k=0):oz c (vD c p v k).d:=by
 unfold vD;unfold na at h0;cases hs:lM c.s k with
 |none=>exact h
 |some i =>
  rw[hs]at h0;have hi:=(AW hs).1;have oe:i<v.d.length:=by have:=h.1;omega
  obtain⟨g1,g2,ga,gb,gc⟩:=st0 h0;refine⟨by simp only[pj];exact h.1,fun j hj=>?_⟩
  rw[Od oe];by_cases e:j=i
  ·rw[aK e,e]
   exact⟨g1,auG (yT g1) g2 ga gb gc⟩
  ·rw[av e]
   exact h.2 j hj
theorem Vc.next{c:Cs}{p:Sp}{v:Co}{k:Nat}(h:Vc c p v k)(he:vE c p v k=0):Vc c p (vS c p v k) (k+1):=by
 have cv:=jM h.c0;obtain⟨h0,hL⟩:=agA he;obtain⟨s1,s2,s3,s4⟩:=Ke (c:=c) (p:=p) (v:=v) (k:=k);have hd:=avw h.d h0;have tw:(vD c p v k).re.length≤k+1:=by
  have:=h.rl;unfold vD;cases lM c.s k<;>simp<;>omega
 have mb:=h.ll;have dJ:=h.cl;unfold vS vL;unfold pg at hL;cases hl:ml c.r.l k with
 |none =>
  refine⟨h.c0,h.p,by rw[s1];exact h.Eo,fun j hj=>?_,hd,by rw[s2];exact h.w,tw,by rw[s4];simp;omega,by rw[s3];omega⟩
  rw[s1]at hj ⊢;have:=h.arr j hj;omega
 |some j =>
  rw[hl]at hL;have hj:=(AW hl).1;have hjw:j<v.w.length:=by have:=h.w.1;omega
  have ho:=GN hL;have hf:=agz hL;have hc:=(GM hL).1;simp only[s1,s2,s3,s4];refine⟨h.c0,h.p,by simp only[pj];exact h.Eo,fun i hi=>?_,hd,⟨by simp only[pj];exact h.w.1,fun i hi=>?_⟩,tw,by simp;omega,by simp;omega⟩
  ·simp only[pj]at hi
   have GO:=h.arr i hi;by_cases e:i=(nth c.r.l j).t.toNat
   ·subst e
    rw[Od hi,aK rfl];exact⟨Int.add_nonneg GO.1 ho.1,Bb (Int.add_le_add GO.2 ho.2) (by omega)⟩
   ·rcases cM (nth c.r.l j).t.toNat v.arr.length with g|g
    ·rw[Od g,av e];exact⟨GO.1,Bb GO.2 (by omega)⟩
    ·rw[EN g];exact⟨GO.1,Bb GO.2 (by omega)⟩
  ·rw[Od hjw]
   by_cases e:i=j
   ·rw[aK e,e]
    exact⟨hc,hf⟩
   ·rw[av e]
    exact h.w.2 i hi
noncomputable def cE(c:Cs)(p:Sp)(f:Fl):Nat→Co
 |0=>⟨p.a,f.d,f.w,[],[],[]⟩
 |k+1=>vS c p (cE c p f k) k
noncomputable def fS(c:Cs)(f:Fl)(p:Sp):Int :=
 if j7 c p then (if dF (p.a++p.b++p.c) 1073741824 then (if f.t=16777216 then 6 else du (fun k=>vE c p (cE c p f k) k) c.r.n.toNat 0) else 1) else 3
structure Ps where
 re:List Dr
 lf:List Int
 cm:List Int
abbrev Ps.row(x:Ps):List V:=[.slice none 7 (x.re.map Dr.row),ints x.lf,ints x.cm]
abbrev ps(x:Ps):V:=.agg x.row
noncomputable def qb(c:Cs)(f:Fl)(p:Sp):Fl:=⟨f.t+1,(cE c p f c.r.n.toNat).d,(cE c p f c.r.n.toNat).w⟩
noncomputable def la(c:Cs)(f:Fl)(p:Sp):Ps:=⟨(cE c p f c.r.n.toNat).re,(cE c p f c.r.n.toNat).lf,(cE c p f c.r.n.toNat).cm⟩
abbrev paX(e:Int):V:=.tuple [.agg [i64 0,.slice (some 0) 4 [],.slice (some 0) 1 []],.agg [.slice (some 0) 7 [],.slice (some 0) 1 [],.slice (some 0) 1 []],i64 e]
noncomputable def Cr(c:Cs)(f:Fl)(p:Sp)(e:Int):V:=if e=0 then .tuple [fl (qb c f p),ps (la c f p),i64 0] else paX e
theorem agB{l:List Int}:(l.any fun x => !decide (0≤x∧x≤1073741824)) = !decide (dF l 1073741824):=by
 by_cases h:dF l 1073741824
 ·rw[dD h]
  refine mR.2 fun x hx=>?_;obtain⟨i,hi,rfl⟩:=Hp.1 hx;have:=h i hi;rw[show nth l i=l[i] by simp[nth,hi]]at this
  simp;exact this
 ·rw[decide_eq_false h]
  cases hb:l.any fun x => !decide (0≤x∧x≤1073741824) with
  |true=>rfl
  |false =>
   refine absurd (fun i hi=>?_) h;have:=mR.1 hb (nth l i) (oo hi);simpa using this
theorem vc0{c:Cs}{f:Fl}{p:Sp}(hc:eQ c=0)(hf:fP c f)(hp:j7 c p)(ha:dF (p.a++p.b++p.c) 1073741824):Vc c p (cE c p f 0) 0:=by
 refine⟨hc,hp,hp.1,fun j hj=>?_,hf.2.1,hf.2.2,by simp[cE],by simp[cE],by simp[cE]⟩
 have hj:j<p.a.length:=hj;have:=ha j (by simp;omega)
 rw[so (by simp;omega),so hj]at this
 show 0≤nth p.a j∧nth p.a j≤_;omega
theorem vcs{c:Cs}{f:Fl}{p:Sp}(hc:eQ c=0)(hf:fP c f)(hp:j7 c p)(ha:dF (p.a++p.b++p.c) 1073741824):∀{k:Nat},(∀j,j<k→vE c p (cE c p f j) j=0)→Vc c p (cE c p f k) k
 |0,_=>vc0 hc hf hp ha
 |k+1,h=>(vcs hc hf hp ha fun j hj=>h j (by omega)).next (h k (by omega))
end Go.Proofs.YtcelmhaoipbdiaaGreat
namespace Go.Proofs.YtcelmhaoipbdiaaGreat
set_option linter.all false
open Go.Vm
attribute [local simp] ly lz kF lx
theorem GP{c:Cs}{l:List (List Int)}(hk:jy c.r=0)(h:El c l):Vu l:=by
 have hl:=(kr hk).len;refine⟨by have:=h.1;omega,fun i hi=>?_⟩
 have qP:i<c.r.l.length:=by have:=h.1;omega
 have:=(h.2 i qP).2.1;have:=(vg (h.2 i qP).1).len;omega
theorem agC{id t:Nat}{l:List Int}(hl:l≠[]):kC id 0 (.slice (some t) 1 (l.map fun n=>[V.int .i64 n]))=some (.bR id 1 l.length,some (cP l)):=by
 have h:=ZS (id:=id) (t:=t) (l:=l) (vs:=[]) rfl hl;simp[kC,h]
theorem avC{p:List Int}:(cP p).all V.sc=true:=by simp[cP,V.sc]
set_option maxRecDepth 100000 in
set_option maxHeartbeats 2000000 in
theorem agD{c:Cs}(hr:im c.r)(hc:eQ c=0){f:Fl}(hf:fP c f)(p:Sp):∃G',aX F 43 [cs c,fl f,sv p] []=some (Cr c f p (fS c f p),G'):=by
 suffices h:∀Q:V→Prop,Q (Cr c f p (fS c f p))→gw (aX F) 43 [cs c,fl f,sv p] [] fun v _=>Q v by
  obtain⟨_,G',h,rfl⟩:=h (fun v=>v=Cr c f p (fS c f p)) rfl;exact⟨G',h⟩
 intro Q hQ;refine gF rfl rfl ?_;have cv:=jM hc;have kv:=kr cv.k;have xL:=avh c p;by_cases h1:j7 c p
 case neg =>
  rw[show fS c f p=3 by unfold fS;rw[av h1]]at hQ
  simp (disch:=omega) [wrap64,I9,xL,h1];exact hQ
 have s7:p.a.length≤12:=by have:=h1.1;have:=cv.n;omega
 have NO:p.b.length≤6:=by have:=h1.2.1;have:=cv.s;omega
 have dJ:p.c.length≤6:=by have:=h1.2.2;have:=cv.s;omega
 have h2:=avg p.a p.b p.c (by omega)
 have h3:=U5 (p.a++p.b++p.c) (by simp;omega) (fun x => !decide (0≤x∧x≤1073741824)) 87 [] (fun n=>avf n [])
 rw[agB]at h3;by_cases h4:dF (p.a++p.b++p.c) 1073741824
 case neg =>
  rw[show fS c f p=1 by unfold fS;rw[aK h1,av h4]]at hQ
  rw[decide_eq_false h4]at h3;generalize p.a++p.b++p.c=L at h2 h3;simp (disch:=omega) [wrap64,I9,xL,h1,h2,h3];exact hQ
 rw[dD h4]at h3;have e4:=h4;generalize p.a++p.b++p.c=L at h2 h3;by_cases h5:f.t=16777216
 ·rw[show fS c f p=6 by unfold fS;rw[aK h1,aK e4,aK h5]]at hQ
  simp (disch:=omega) [wrap64,I9,xL,h1,h2,h3,h5];exact hQ
 have h6:fS c f p=du (fun k=>vE c p (cE c p f k) k) c.r.n.toNat 0:=by unfold fS;rw[aK h1,aK e4,av h5]
 have h7:=Vv f.d (AX hc hf.2.1) [];have h8:=agk f.w (GP cv.k hf.2.2) [.cells (iq f.d)];have h9:=N6 p.a (by omega)
 have avD:=hf.1;have avE:p.a≠[]:=fun g=>by have:=h1.1;rw[g]at this;have:=kv.n;simp at *;omega
 have Oe:0<p.a.length:=by have:=h1.1;have:=kv.n;omega
 simp (disch:=omega) [wrap64,I9,xL,h1,h2,h3,h5,h7,h8,h9,agC avE,avC,Oe];have yr:=kv.n;refine go_loop (fun x:Nat×List aP=>aoi (.bH 3 0) c.r.n x.1 [z0,.bU,.bU] [.bU,.bU,.bU] (Gc c p (f.t+1) (cE c p f x.1) x.2))
  (fun x=>x.1≤c.r.n.toNat∧(∀j,j<x.1→vE c p (cE c p f j) j=0)∧du (fun k=>vE c p (cE c p f k) k) (c.r.n.toNat-x.1) x.1=fS c f p) (fun x=>c.r.n.toNat-x.1) (0,[]) rfl (by simp[cE]) ⟨by omega,by simp,h6.symm⟩ ?_
 rintro⟨k,J⟩ ⟨hk,hz,hq⟩;simp only at hk hz hq;have GQ:=vcs hc hf h1 e4 hz;simp (disch:=omega) [wrap64,aaZ];refine bB (fun gf=>?_) (fun gf=>?_)
 ·have jZ:k<c.r.n.toNat:=by omega
  have VF:k<(cE c p f k).arr.length:=by have:=GQ.Eo;omega
  obtain⟨G',hv,Ep⟩:=avt hr GQ VF (f.t+1) J;rw[jq jZ]at hq;by_cases BB:vE c p (cE c p f k) k=0
  ·obtain rfl:=Ep BB
   rw[aK BB]at hq;rw[BB]at hv;simp (disch:=omega) [wrap64,hv];refine bu (k+1,J++[.cells [i64 k]]) (by simp[cE]) ⟨by simp only;omega,fun j hj=>?_,hq⟩ (by simp only;omega)
   rcases cM j k with g|g
   ·exact hz j g
   ·rwa [show j=k by simp only at hj;omega]
  ·rw[av BB]at hq
   rw[←hq,Cr,av BB]at hQ;simp (disch:=omega) [wrap64,hv,BB];exact hQ
 ·obtain rfl:k=c.r.n.toNat:=by omega
  rw[lC]at hq;rw[←hq,Cr,aK rfl]at hQ;simp (disch:=omega) [wrap64,p9,sA];exact hQ
abbrev agE(t:Option Nat)(e:Int):V:=.tuple [.agg [i64 0,.slice t 4 [],.slice t 1 []],.agg [.slice t 7 [],.slice t 1 [],.slice t 1 []],i64 e]
noncomputable def nW(c:Cs)(f:Fl)(p:Sp):Int:=if gq c f≠0 then gq c f else fS c f p
noncomputable def ry(t:Option Nat)(c:Cs)(f:Fl)(p:Sp):V:=if nW c f p=0 then .tuple [fl (qb c f p),ps (la c f p),i64 0] else agE t (nW c f p)
theorem yL{c:Cs}{f:Fl}(h:gq c f=0):eQ c=0∧fP c f:=by
 unfold gq at h;split at h
 ·rename_i h1;exact absurd h h1
 ·rename_i h1
  split at h
  ·exact⟨iu h1,by assumption⟩
  ·cases h
theorem Of{c:Cs}(hr:im c.r){f:Fl}(hf:kq f)(p:Sp):∃t G',aX F 11 [cs c,fl f,sv p] []=some (ry t c f p,G'):=by
 have hd:=Vs c hr f hf;by_cases hz:gq c f=0
 ·obtain⟨h1,h2⟩:=yL hz
  obtain⟨Ga,hp⟩:=agD hr h1 h2 p;have e:nW c f p=fS c f p:=by unfold nW;rw[av (by omega)]
  refine⟨none,[],?_⟩;unfold ry;rw[e];unfold Cr at hp;by_cases h3:fS c f p=0
  ·rw[aK h3]at hp ⊢
   refine bL rfl rfl ?_;simp[wrap64,MA,hd,hz,hp]
  ·rw[av h3]at hp ⊢
   refine bL rfl rfl ?_;simp[wrap64,MA,hd,hz,hp]
 ·have e:nW c f p=gq c f:=by unfold nW;rw[aK hz]
  refine⟨some 0,[],?_⟩;unfold ry;rw[e,av hz];refine bL rfl rfl ?_;simp[wrap64,MA,hd,hz]
def A1(g:Nat→Int)(n:Nat)(m:Nat)(k:Int):Prop:=m≤n∧(∀j,j<m→g j<k)∧∀j,m≤j→j<n→k≤g j
theorem y4{g:Nat→Int}{n m i:Nat}{k:Int}(h:A1 g n m k)(Nu:∀j,0<j→j<n→g (j-1)<g j)(hi:i<n)(hg:g i=k):i=m∧A1 g n (m+1) (k+1):=by
 have agF:∀a d,a+d+1<n→g a<g (a+d+1):=fun a d=>by
  induction d with
  |zero=>intro hd;have:=Nu (a+0+1) (by omega) hd;simpa using this
  |succ d ih =>
   intro hd;have h1:=ih (by omega)
   have h2:=Nu (a+(d+1)+1) (by omega) hd
   rw[show a+(d+1)+1-1=a+d+1 by omega]at h2
   omega
 have hmi:m≤i:=by
  rcases cM i m with g1|g1
  ·have:=h.2.1 i g1;omega
  ·exact g1
 have him:i=m:=by
  rcases cM m i with g1|g1
  ·have h1:=agF m (i-m-1) (by omega)
   rw[show m+(i-m-1)+1=i by omega]at h1
   have:=h.2.2 m (bY _) (by omega)
   omega
  ·omega
 subst him;refine⟨rfl,by omega,fun j hj=>?_,fun j hj hn=>?_⟩
 ·rcases cM j i with g1|g1
  ·have:=h.2.1 j g1;omega
  ·rw[show j=i by omega];omega
 ·have h1:=agF i (j-i-1) (by omega)
  rw[show i+(j-i-1)+1=j by omega]at h1
  omega
theorem agG{g:Nat→Int}{n m:Nat}{k:Int}(h:A1 g n m k)(hg:∀i,i<n→g i≠k):A1 g n m (k+1) :=
 ⟨h.1,fun j hj=>by have:=h.2.1 j hj;omega,fun j hj hn=>by have:=h.2.2 j hj hn;have:=hg j hn;omega⟩
theorem agH{g:Nat→Int}{n:Nat}(h:∀j,j<n→0≤g j):A1 g n 0 0:=⟨by omega,by omega,fun j _ hj=>h j hj⟩
theorem agI{g:Nat→Int}{n m:Nat}{k:Int}(h:A1 g n m k)(hk:∀j,j<n→g j<k):m=n:=by
 have h1:=h.1;rcases cM m n with g1|g1
 ·have:=h.2.2 m (bY _) g1
  have:=hk m g1;omega
 ·omega
abbrev uj(c:Cs):Nat→Int:=fun i=>(nth c.s i).n
abbrev A2(c:Cs):Nat→Int:=fun i=>(nth c.r.l i).f
theorem xN{c:Cs}(h:yZ c){i:Nat}(hi:i<c.s.length):(0≤uj c i∧uj c i<c.r.n)∧(0<i→uj c (i-1)<uj c i)∧fW (nth c.s i).d=0:=by
 have he:=h.site i hi;unfold AV at he;simp only at he;split at he
 ·split at he
  ·cases he
  ·rename_i h1 h2
   refine⟨h1,fun h0=>?_,he⟩;show(nth c.s (i-1)).n<(nth c.s i).n;omega
 ·cases he
structure Vo(c:Cs)(v:Co)(k:Nat):Prop where
 s:A1 (uj c) c.s.length v.re.length k
 l:A1 (A2 c) c.r.l.length v.cm.length k
theorem Og{c:Cs}{k:Nat}(h:lM c.s k=none):∀i,i<c.s.length→uj c i≠k:=fun i hi=>by
 have:=Vw h i (by omega) (by omega)
 simpa using this
theorem y5{c:Cs}{k i:Nat}(h:lM c.s k=some i):i<c.s.length∧uj c i=k:=by
 have:=AW h;exact⟨by omega,by simpa using this.2.1⟩
theorem agJ{c:Cs}{k:Nat}(h:ml c.r.l k=none):∀i,i<c.r.l.length→A2 c i≠k:=fun i hi=>by
 have:=Vw h i (by omega) (by omega)
 simpa using this
theorem Ct{c:Cs}{k i:Nat}(h:ml c.r.l k=some i):i<c.r.l.length∧A2 c i=k:=by
 have:=AW h;exact⟨by omega,by simpa using this.2.1⟩
theorem vo0{c:Cs}(h:yZ c)(p:Sp)(f:Fl):Vo c (cE c p f 0) 0 :=
 ⟨agH fun j hj=>(xN h hj).1.1,agH fun j hj=>((kr h.k).link hj).1.1⟩
theorem Vo.next{c:Cs}(hc:yZ c){p:Sp}{v:Co}{k:Nat}(h:Vo c v k):Vo c (vS c p v k) (k+1):=by
 obtain⟨s1,s2,s3,s4⟩:=Ke (c:=c) (p:=p) (v:=v) (k:=k);have hs:A1 (uj c) c.s.length (vD c p v k).re.length (k+1:Int):=by
  unfold vD;cases hs:lM c.s k with
  |none=>exact agG h.s (Og hs)
  |some i =>
   obtain⟨a,b⟩:=y5 hs;simp only[oG,po];exact(y4 h.s (fun j h0 hj=>(xN hc hj).2.1 h0) a b).2
 unfold vS vL;cases hl:ml c.r.l k with
 |none =>
  refine⟨hs,?_⟩;rw[s3];exact agG h.l (agJ hl)
 |some j =>
  obtain⟨a,b⟩:=Ct hl;refine⟨hs,?_⟩;simp only[s3,oG,po];exact(y4 h.l (fun j h0 hj=>((kr hc.k).link hj).2.1 h0) a b).2
theorem Kf{c:Cs}(hc:yZ c)(p:Sp)(f:Fl):∀k,Vo c (cE c p f k) k
 |0=>vo0 hc p f
 |k+1=>(Kf hc p f k).next hc
theorem GS{c:Cs}(hc:yZ c)(p:Sp)(f:Fl):(cE c p f c.r.n.toNat).re.length=c.s.length∧(cE c p f c.r.n.toNat).cm.length=c.r.l.length:=by
 have h:=Kf hc p f c.r.n.toNat;have hn:=(kr hc.k).n;exact⟨agI h.s fun j hj=>by have:=(xN hc hj).1;omega,agI h.l fun j hj=>by have:=((kr hc.k).link hj).1;show(nth c.r.l j).f<_;omega⟩
end Go.Proofs.YtcelmhaoipbdiaaGreat
namespace Go.Proofs.YtcelmhaoipbdiaaGreat
set_option linter.all false
open Go.Vm
def pad{α:Type}(d:α)(l:List α)(n:Nat):List α:=l++List.replicate (n-l.length) d
theorem Kg{α:Type}{d:α}{l:List α}{n:Nat}(h:l.length≤n):(pad d l n).length=n:=by simp[pad];omega
theorem VI{α:Type}{d:α}{l:List α}{n:Nat}(h:l.length=n):pad d l n=l:=by simp[pad,h]
theorem Oh{α:Type}{d x:α}{l:List α}{n i:Nat}(hi:i=l.length)(h:l.length<n):(pad d l n).set i x=pad d (l++[x]) n:=by
 subst hi;unfold pad;obtain⟨m,hm⟩:∃m,n-l.length=m+1:=⟨n-l.length-1,by omega⟩
 rw[hm,Bh,CS _ _ (bY _),qd,KT,oG,po,show n-(l.length+1)=m by omega,wK,WO]
def Cu:Dr:=⟨0,0,0,0,0,0,0⟩
def rz(l:List Dr):List V:=(l.map Dr.row).flatten
@[simp] theorem aDM{l:List Dr}:(rz l).length=l.length*7:=Kb (row:=Dr.row) (fun _=>rfl) l
@[simp] theorem aDN{l:List Dr}{d:Nat}:((rz l).all fun v => !V.cI d v)=true:=N5 (row:=Dr.row) (fun a=>by simp) l
theorem avH{n:Nat}:(List.replicate n [V.int .i64 0,V.int .i64 0,V.int .i64 0,V.int .i64 0,V.int .i64 0,V.int .i64 0,V.int .i64 0]).flatten=rz (pad Cu [] n):=by
 simp[rz,pad,KP,Cu]
theorem avI{l:List Dr}{n:Nat}(h:n=l.length):lb [none,none,none,none,none,none,none] (chunks 7 (rz l) 0 n)=some (l.map Dr.row):=by
 subst h;rw[N3 (row:=Dr.row) (fun _=>rfl) rfl];exact N4 (fun a=>by simp) l
theorem agK{n:Nat}:List.replicate n z0=cP (pad 0 [] n):=by simp[pad,cP]
theorem agL{c:Cs}{u:Co}{x:Int}{k:Nat}:(vL c u x k).re=u.re∧(vL c u x k).lf=u.lf∧(vL c u x k).d=u.d:=by
 unfold vL;cases ml c.r.l k<;>exact⟨rfl,rfl,rfl⟩
theorem agM{c:Cs}{u v:Co}{x:Int}{k:Nat}(h1:u.arr=v.arr)(h2:u.w=v.w)(h3:u.cm=v.cm):(vL c u x k).arr=(vL c v x k).arr∧(vL c u x k).w=(vL c v x k).w∧(vL c u x k).cm=(vL c v x k).cm:=by
 unfold vL;cases ml c.r.l k
 ·exact⟨h1,h2,h3⟩
 ·simp only[h1,h2,h3,and_self]
theorem avJ{l:List Int}{m:Int}:dF l m↔∀x∈l,0≤x∧x≤m:=by
 refine⟨fun h x hx=>?_,fun h i hi=>h _ (oo hi)⟩;obtain⟨i,hi,rfl⟩:=Hp.1 hx;have:=h i hi
 rwa [show nth l i=l[i] by simp[nth,hi]]at this
theorem agN{a b:List Int}{m:Int}:dF (a++b) m↔dF a m∧dF b m:=by
 simp only[avJ,mS];exact⟨fun h=>⟨fun x hx=>h x (.inl hx),fun x hx=>h x (.inr hx)⟩,fun h x hx=>hx.elim (h.1 x) (h.2 x)⟩
theorem avK{l:List Dr}{i:Nat}(h:i<l.length)(x:Dr):jn (rz l) (i*7) x.row=rz (l.set i x):=Kc (row:=Dr.row) (fun _=>rfl) h
structure Vf(f:Fl)(v:Co):Prop where
 d:v.d.length=f.d.length∧∀i,v.re.length≤i→nth v.d i=nth f.d i
 w:v.w.length=f.w.length∧∀i,v.cm.length≤i→nth v.w i=nth f.w i
theorem Vf.next{c:Cs}(hc:yZ c){p:Sp}{f:Fl}{v:Co}{k:Nat}(h:Vf f v)(ho:Vo c v k):Vf f (vS c p v k):=by
 obtain⟨s1,s2,s3,s4⟩:=Ke (c:=c) (p:=p) (v:=v) (k:=k);have hd:(vD c p v k).d.length=f.d.length∧∀i,(vD c p v k).re.length≤i→nth (vD c p v k).d i=nth f.d i:=by
  unfold vD;cases hs:lM c.s k with
  |none=>exact h.d
  |some i =>
   obtain⟨a,b⟩:=y5 hs;have e:=(y4 ho.s (fun j h0 hj=>(xN hc hj).2.1 h0) a b).1;refine⟨by simp only[pj];exact h.d.1,fun j hj=>?_⟩
   simp only[oG,po]at hj;show nth (v.d.set i _) j=nth f.d j;rcases cM i v.d.length with g|g
   ·rw[ui g,av (by omega)]
    exact h.d.2 j (by omega)
   ·rw[EN g]
    exact h.d.2 j (by omega)
 unfold vS vL;cases hl:ml c.r.l k with
 |none=>exact⟨hd,by rw[s2,s3];exact h.w⟩
 |some j =>
  obtain⟨a,b⟩:=Ct hl;have e:=(y4 ho.l (fun j h0 hj=>((kr hc.k).link hj).2.1 h0) a b).1;refine⟨hd,?_⟩;simp only[s2,s3];refine⟨by simp only[pj];exact h.w.1,fun i hi=>?_⟩
  simp only[oG,po]at hi;rcases cM j v.w.length with g|g
  ·rw[ui g,av (by omega)]
   exact h.w.2 i (by omega)
  ·rw[EN g]
   exact h.w.2 i (by omega)
theorem VJ{c:Cs}(hc:yZ c)(p:Sp)(f:Fl):∀k,Vf f (cE c p f k)
 |0=>⟨⟨rfl,fun _ _=>rfl⟩,⟨rfl,fun _ _=>rfl⟩⟩
 |k+1=>(VJ hc p f k).next hc (Kf hc p f k)
theorem avL{c:Cs}{k i:Nat}(h:∀j,j<i→uj c j≠k)(hi:i<c.s.length)(hk:uj c i=k):lM c.s k=some i:=by
 cases hs:lM c.s k with
 |none=>exact absurd hk (Og hs i hi)
 |some j =>
  have h1:=AW hs;obtain⟨a,b⟩:=y5 hs;rcases Ht j i with g|g|g
  ·exact absurd b (h j g)
  ·rw[g]
  ·have:=h1.2.2 i (by omega) g
   have hk:(nth c.s i).n=k:=hk;simp[hk]at this
theorem avM{c:Cs}{k i:Nat}(h:∀j,j<i→A2 c j≠k)(hi:i<c.r.l.length)(hk:A2 c i=k):ml c.r.l k=some i:=by
 cases hs:ml c.r.l k with
 |none=>exact absurd hk (agJ hs i hi)
 |some j =>
  have h1:=AW hs;obtain⟨a,b⟩:=Ct hs;rcases Ht j i with g|g|g
  ·exact absurd b (h j g)
  ·rw[g]
  ·have:=h1.2.2 i (by omega) g
   have hk:(nth c.r.l i).f=k:=hk;simp[hk]at this
theorem avN{c:Cs}{k:Nat}(h:∀j,j<c.s.length→uj c j≠k):lM c.s k=none:=by
 cases hs:lM c.s k with
 |none=>rfl
 |some j=>exact absurd (y5 hs).2 (h j (y5 hs).1)
theorem avO{c:Cs}{k:Nat}(h:∀j,j<c.r.l.length→A2 c j≠k):ml c.r.l k=none:=by
 cases hs:ml c.r.l k with
 |none=>rfl
 |some j=>exact absurd (Ct hs).2 (h j (Ct hs).1)
end Go.Proofs.YtcelmhaoipbdiaaGreat
namespace Go.Proofs.YtcelmhaoipbdiaaGreat
set_option linter.all false
open Go.Vm
attribute [local simp] ly lz kF lx
set_option maxRecDepth 100000 in
set_option maxHeartbeats 8000000 in
theorem Oj{c:Cs}(hr:im c.r){f:Fl}(hf:kq f){p:Sp}(lj:p.a.length≤1000∧p.b.length≤1000∧p.c.length≤1000):∃G',aX F 12 [cs c,fl f,sv p] []=some (ry (some 0) c f p,G'):=by
 suffices h:∀Q:V→Prop,Q (ry (some 0) c f p)→gw (aX F) 12 [cs c,fl f,sv p] [] fun v _=>Q v by
  obtain⟨_,G',h,rfl⟩:=h (fun v=>v=ry (some 0) c f p) rfl;exact⟨G',h⟩
 intro Q hQ;refine gF rfl rfl ?_;have hc:=GG c hr;have hv:=Ka c hr f hf;have err:∀e,nW c f p=e→e≠0→Q (agE (some 0) e):=fun e h he=>by
  unfold ry at hQ
  rwa [h,av he]at hQ
 by_cases hz:eQ c=0
 case neg =>
  simp (disch:=omega) [-getElem?_pos,wrap64,yM,hc,hz];exact err _ (by unfold nW gq;rw[aK hz,aK hz]) hz
 by_cases hY:fP c f
 case neg =>
  have h0:decide (eQ c=0∧fP c f)=false:=decide_eq_false fun g=>hY g.2;rw[h0]at hv;simp (disch:=omega) [-getElem?_pos,wrap64,yM,hc,hz,hv];have Ol:gq c f=50:=by unfold gq;rw[av (by omega),av hY]
  exact err 50 (by unfold nW;rw[Ol];rfl) (by decide)
 have Ol:gq c f=0:=by unfold gq;rw[av (by omega),aK hY]
 have fY:nW c f p=fS c f p:=by unfold nW;rw[av (by omega)]
 rw[fY]at err;rw[dD ⟨hz,hY⟩]at hv;have cv:=jM hz;have kv:=kr cv.k;have jZ:=kv.n;by_cases h1:(p.a.length:Int)=c.r.n
 case neg =>
  simp (disch:=omega) [-getElem?_pos,wrap64,yM,hc,hz,hv,h1];exact err 3 (by unfold fS;rw[av fun g=>h1 g.1]) (by decide)
 by_cases h2:p.b.length=c.s.length
 case neg =>
  have iz:¬ (p.b.length:Int)=c.s.length:=by omega
  simp (disch:=omega) [-getElem?_pos,wrap64,yM,hc,hz,hv,h1,iz];exact err 3 (by unfold fS;rw[av fun g=>h2 g.2.1]) (by decide)
 have iz:(p.b.length:Int)=c.s.length:=by omega
 by_cases h3:p.c.length=c.s.length
 case neg =>
  have iH:¬ (p.c.length:Int)=c.s.length:=by omega
  simp (disch:=omega) [-getElem?_pos,wrap64,yM,hc,hz,hv,h1,iz,iH];exact err 3 (by unfold fS;rw[av fun g=>h3 g.2.2]) (by decide)
 have iH:(p.c.length:Int)=c.s.length:=by omega
 have ib:j7 c p:=⟨h1,h2,h3⟩;have ha:=Vx p.a lj.1 1073741824;have hb:=Vx p.b lj.2.1 1073741824;have xk:=Vx p.c lj.2.2 1073741824;have app:dF (p.a++p.b++p.c) 1073741824↔dF p.a 1073741824∧dF p.b 1073741824∧dF p.c 1073741824:=by
  rw[agN,agN,and_assoc]
 by_cases g1:dF p.a 1073741824
 case neg =>
  simp (disch:=omega) [-getElem?_pos,wrap64,yM,hc,hz,hv,h1,iz,iH,ha,g1];exact err 1 (by unfold fS;rw[aK ib,av fun g=>g1 (app.1 g).1]) (by decide)
 by_cases g2:dF p.b 1073741824
 case neg =>
  simp (disch:=omega) [-getElem?_pos,wrap64,yM,hc,hz,hv,h1,iz,iH,ha,g1,hb,g2];exact err 1 (by unfold fS;rw[aK ib,av fun g=>g2 (app.1 g).2.1]) (by decide)
 by_cases g3:dF p.c 1073741824
 case neg =>
  simp (disch:=omega) [-getElem?_pos,wrap64,yM,hc,hz,hv,h1,iz,iH,ha,g1,hb,g2,xk,g3];exact err 1 (by unfold fS;rw[aK ib,av fun g=>g3 (app.1 g).2.2]) (by decide)
 have Ai:=app.2 ⟨g1,g2,g3⟩;have hcy:=N7 f (AX hz hY.2.1) (GP cv.k hY.2.2);have avD:=hY.1;have EZ:=cv.s;have mb:=kv.len;have Oe:0<p.a.length:=by omega
 have DC:f.d.length=c.s.length:=hY.2.1.1;have GU:f.w.length=c.r.l.length:=hY.2.2.1;simp (disch:=omega) [-getElem?_pos,wrap64,yM,hc,hz,hv,h1,iz,iH,ha,g1,hb,g2,xk,g3];refine bB (fun g4=>?_) (fun g4=>?_)
 ·exact err 6 (by unfold fS;rw[aK ib,aK Ai,aK g4]) (by decide)
 have hE:fS c f p=du (fun k=>vE c p (cE c p f k) k) c.r.n.toNat 0:=by unfold fS;rw[aK ib,aK Ai,av g4]
 have BZ:p.a.isEmpty=false:=by
  cases hp:p.a with
  |nil=>rw[hp]at Oe;simp at Oe
  |cons a l=>rfl
 simp (disch:=omega) [-getElem?_pos,wrap64,hcy,avH,BZ];refine go_loop (fun k:Nat=>ang p.a.length k c.row f.row p.row [i64 0,.bU,.bU] [.bU,.bU,.bU] [i64 (f.t+1),.c6 0 4 f.d.length,.c6 1 1 f.w.length]
   [.bR 100 7 c.s.length,.bR 104 1 c.r.n.toNat,.bR 109 1 c.r.l.length] (rz (pad Cu (cE c p f k).re c.s.length)) (cP (pad 0 (cE c p f k).lf c.r.n.toNat)) (cP (pad 0 (cE c p f k).cm c.r.l.length)) (cP (cE c p f k).arr)
   [.cells (iq (cE c p f k).d),.cells (jN (cE c p f k).w)])
  (fun k=>k≤c.r.n.toNat∧(∀j,j<k→vE c p (cE c p f j) j=0)∧du (fun k=>vE c p (cE c p f k) k) (c.r.n.toNat-k) k=fS c f p) (fun k=>c.r.n.toNat-k) 0 rfl (by simp[cE,agK]) ⟨by omega,by omega,hE.symm⟩ ?_
 rintro k ⟨hk,hzk,hq⟩;have GQ:=vcs hz hY ib Ai hzk;have Af:=Kf cv p f k;have L6:=VJ cv p f k;have FO:=L6.d;have hww:=L6.w;have aDO:=GQ.Eo;have avR:=GQ.ll;have FH:=Af.s.1;have avS:=Af.l.1;have ecv:cE c p f (k+1)=vS c p (cE c p f k) k:=rfl;simp (disch:=omega) [-getElem?_pos,wrap64,aar];refine bB (fun gf=>?_) (fun gf=>?_)
 ·have avU:k<c.r.n.toNat:=by omega
  rw[jq avU]at hq;generalize hcv:cE c p f k=v at *;have VF:k<v.arr.length:=by omega
  simp (disch:=omega) [-getElem?_pos,wrap64,lA];obtain⟨s1,s2,s3,s4⟩:=Ke (c:=c) (p:=p) (v:=v) (k:=k);refine go_loop (fun y:Nat×Co×Int=>am6 p.a.length k y.2.2 (ru c.s) c.s.length y.1 c.row f.row p.row [i64 0,.bU,.bU] [.bU,.bU,.bU] [i64 (f.t+1),.c6 0 4 f.d.length,.c6 1 1 f.w.length]
    [.bR 100 7 c.s.length,.bR 104 1 c.r.n.toNat,.bR 109 1 c.r.l.length] (rz (pad Cu y.2.1.re c.s.length)) (cP (pad 0 v.lf c.r.n.toNat)) (cP (pad 0 v.cm c.r.l.length)) (cP v.arr) [.cells (iq y.2.1.d),.cells (jN v.w)])
   (fun y=>y.1≤c.s.length∧((y.2.1=v∧y.2.2=nth v.arr k∧∀j,j<y.1→uj c j≠k)∨(y.2.1=vD c p v k∧y.2.2=fL c p v k∧na c p v k=0∧∃j,j<y.1∧lM c.s k=some j)))
   (fun y=>c.s.length-y.1) (0,v,nth v.arr k) rfl (by simp) ⟨by simp,.inl ⟨rfl,rfl,by simp⟩⟩ ?_
  rintro⟨i,u,x⟩ ⟨hi,hu⟩;simp only at hi hu;have avW:(pad Cu v.re c.s.length).length=c.s.length:=Kg FH;simp (disch:=omega) [-getElem?_pos,wrap64,aap];refine bB (fun h5=>?_) (fun h5=>?_)
  ·have h5:i<c.s.length:=by omega
   have h6:i<f.d.length:=by omega
   have h7:i<p.b.length:=by omega
   have h8:i<p.c.length:=by omega
   simp (disch:=omega) [-getElem?_pos,wrap64,aY (l:=c.s)];refine bB (fun h9=>?_) (fun h9=>?_)
   ·have hs:lM c.s k=some i∧u=v∧x=nth v.arr k∧i=v.re.length:=by
     have e:=(y4 Af.s (fun j h0 hj=>(xN cv hj).2.1 h0) h5 h9).1;rcases hu with⟨a,b,d⟩ | ⟨_,_,_,j,hj,hs⟩
     ·exact⟨avL d h5 h9,a,b,e⟩
     ·have:=(y4 Af.s (fun j h0 hj=>(xN cv hj).2.1 h0) (y5 hs).1 (y5 hs).2).1
      omega
    obtain⟨hs,rfl,rfl,tw⟩:=hs;have Om:nth u.d i=nth f.d i:=FO.2 i (by omega)
    obtain⟨Ga,hS⟩:=auN (nth c.s i).d (nth f.d i) (nth u.arr k) (nth p.b i) (nth p.c i);by_cases he:pf (nth c.s i).d (nth f.d i) (nth u.arr k) (nth p.b i) (nth p.c i)=0
    ·have VH:=(agu he).1
     have e0:na c p u k=0:=by simp only[na,hs,Om,he]
     have e1:fL c p u k=qx (vR c p u k i):=by simp only[fL,hs]
     have e2:vD c p u k={ u with d:=u.d.set i (m9 (nth c.s i).d (nth f.d i) (nth u.arr k) (nth p.b i) (nth p.c i)),re:=u.re++[vR c p u k i],lf:=u.lf++[fL c p u k] }:=by rw[vD,hs,← Om]
     have e3:vR c p u k i=mj (nth c.s i).d (nth f.d i) (nth u.arr k) (nth p.b i) (nth p.c i):=by rw[vR,Om]
     rw[uh,aK he]at hS;rw[e3]at e1 e2;rw[e1]at e2;generalize m9 (nth c.s i).d (nth f.d i) (nth u.arr k) (nth p.b i) (nth p.c i)=S' at hS e2;generalize mj (nth c.s i).d (nth f.d i) (nth u.arr k) (nth p.b i) (nth p.c i)=R' at hS VH e1 e2;have hF:=auX R' (by omega) (by omega) (by omega)
     rw[show R'.tur+R'.spi+R'.ovr=qx R' from rfl]at hF;have oe:i<u.d.length:=by omega
     have fm:((((iq u.d).set (i*4) (i64 S'.v)).set (i*4+1) (i64 S'.rel)).set (i*4+1+1) (jJ S'.u)).set (i*4+1+1+1) (jw S'.g)=iq (u.d.set i S'):=ags oe S';have hrt:(((((((rz (pad Cu u.re c.s.length)).set (i*7) (i64 R'.inf)).set (i*7+1) (i64 R'.los)).set (i*7+1+1) (i64 R'.tur)).set (i*7+1+1+1) (i64 R'.spi)).set (i*7+1+1+1+1) (i64 R'.ovr)).set (i*7+1+1+1+1+1) (i64 R'.pow)).set (i*7+1+1+1+1+1+1) (i64 R'.jL)=rz (pad Cu (u.re++[R']) c.s.length):=by
      rw[←Oh tw (by omega)]
      exact avK (by rw[Kg (by omega)];exact h5) R'
     simp (disch:=omega) [-getElem?_pos,wrap64,aY (l:=f.d),dA (l:=p.b),dA (l:=p.c),lA,hS,hF,fm,hrt,avW];refine bu (i+1,vD c p u k,fL c p u k) (by simp[e1,e2]) ⟨by simp only;omega,.inr ⟨rfl,rfl,e0,i,by simp only;omega,hs⟩⟩ (by simp only;omega)
    ·rw[uh,av he]at hS
     have e0:vE c p u k=pf (nth c.s i).d (nth f.d i) (nth u.arr k) (nth p.b i) (nth p.c i):=by
      have:na c p u k=pf (nth c.s i).d (nth f.d i) (nth u.arr k) (nth p.b i) (nth p.c i):=by simp only[na,hs,Om]
      rw[vE,this,aK he]
     rw[e0,av he]at hq;simp (disch:=omega) [-getElem?_pos,wrap64,aY (l:=f.d),dA (l:=p.b),dA (l:=p.c),lA,hS,decide_eq_false he];exact err _ hq.symm he
   ·refine bu (i+1,u,x) (by simp) ⟨by simp only;omega,?_⟩ (by simp only;omega)
    rcases hu with⟨a,b,d⟩ | ⟨a,b,d,j,hj,hs⟩
    ·refine .inl ⟨a,b,fun j hj=>?_⟩
     rcases cM j i with g|g
     ·exact d j g
     ·rw[show j=i by simp only at hj;omega];exact h9
    ·exact .inr ⟨a,b,d,j,by simp only;omega,hs⟩
  ·obtain rfl:i=c.s.length:=by omega
   have hD:u.re=(vD c p v k).re∧u.d=(vD c p v k).d∧x=fL c p v k∧na c p v k=0:=by
    rcases hu with⟨rfl,rfl,d⟩ | ⟨rfl,b,d,_⟩
    ·have hn:=avN d
     unfold vD fL na;rw[hn];exact⟨rfl,rfl,rfl,rfl⟩
    ·exact⟨rfl,rfl,b,d⟩
   obtain⟨d1,d2,rfl,d3⟩:=hD;rw[d1,d2];generalize hx:fL c p v k=x at *;have avY:(pad 0 v.lf c.r.n.toNat).length=c.r.n.toNat:=Kg (by omega)
   have fm:(pad 0 v.lf c.r.n.toNat).set k x=pad 0 (vD c p v k).lf c.r.n.toNat:=by rw[Oh (by omega) (by omega),s4]
   simp (disch:=omega) [-getElem?_pos,wrap64,avY,fm];have avZ:(pad 0 v.cm c.r.l.length).length=c.r.l.length:=Kg avS;refine go_loop (fun y:Nat×Co=>ana p.a.length k x (nV c.r.l) c.r.l.length y.1 c.row f.row p.row [i64 0,.bU,.bU] [.bU,.bU,.bU] [i64 (f.t+1),.c6 0 4 f.d.length,.c6 1 1 f.w.length]
     [.bR 100 7 c.s.length,.bR 104 1 c.r.n.toNat,.bR 109 1 c.r.l.length] (rz (pad Cu (vD c p v k).re c.s.length)) (cP (pad 0 (vD c p v k).lf c.r.n.toNat)) (cP (pad 0 y.2.cm c.r.l.length)) (cP y.2.arr) [.cells (iq (vD c p v k).d),.cells (jN y.2.w)])
    (fun y=>y.1≤c.r.l.length∧((y.2=v∧∀j,j<y.1→A2 c j≠k)∨(y.2=vL c v x k∧pg c v x k=0∧∃j,j<y.1∧ml c.r.l k=some j)))
    (fun y=>c.r.l.length-y.1) (0,v) rfl (by simp) ⟨by simp,.inl ⟨rfl,by simp⟩⟩ ?_
   rintro⟨i,u⟩ ⟨hi,hu⟩;simp only at hi hu;simp (disch:=omega) [-getElem?_pos,wrap64,aaq];refine bB (fun h5=>?_) (fun h5=>?_)
   ·have h5:i<c.r.l.length:=by omega
    have h6:i<f.w.length:=by omega
    simp (disch:=omega) [-getElem?_pos,wrap64,aY (l:=c.r.l)];refine bB (fun h9=>?_) (fun h9=>?_)
    ·have hs:ml c.r.l k=some i∧u=v∧i=v.cm.length:=by
      have e:=(y4 Af.l (fun j h0 hj=>(kv.link hj).2.1 h0) h5 h9).1;rcases hu with⟨a,d⟩ | ⟨_,_,j,hj,hs⟩
      ·exact⟨avM d h5 h9,a,e⟩
      ·have:=(y4 Af.l (fun j h0 hj=>(kv.link hj).2.1 h0) (Ct hs).1 (Ct hs).2).1
       omega
     obtain⟨hs,rfl,tw⟩:=hs;have hwi:nth u.w i=nth f.w i:=hww.2 i (by omega)
     have xu:=hY.2.2.2 i h5;obtain⟨tt,hR⟩:=au8 (nth c.r.l i).r (hr.2 i h5) (nth f.w i) (hf i) x;have bI:=(kv.link h5).1;have Kh:(nth c.r.l i).t.toNat<u.arr.length:=by omega
     have eL:pg c u x k=g6 (nth c.r.l i).r (nth f.w i) x:=by unfold pg;rw[hs];simp only[hwi]
     have eE:vE c p u k=g6 (nth c.r.l i).r (nth f.w i) x:=by
      rw[vE,d3,hx,eL];rfl
     rw[eE]at hq;by_cases he:g6 (nth c.r.l i).r (nth f.w i) x=0
     ·have ho:=GN he
      have har:=GQ.arr (nth c.r.l i).t.toNat Kh;rw[J9 he]at hR;have e2:vL c u x k={ u with w:=u.w.set i (lL (nth c.r.l i).r (nth f.w i) x),cm:=u.cm++[mP (nth c.r.l i).r (nth f.w i) x],arr:=u.arr.set (nth c.r.l i).t.toNat (nth u.arr (nth c.r.l i).t.toNat+mP (nth c.r.l i).r (nth f.w i) x) }:=by
       rw[vL,hs,← hwi]
      have fm:(pad 0 u.cm c.r.l.length).set i (mP (nth c.r.l i).r (nth f.w i) x)=pad 0 (u.cm++[mP (nth c.r.l i).r (nth f.w i) x]) c.r.l.length:=Oh tw (by omega)
      simp (disch:=omega) [-getElem?_pos,wrap64,aY (l:=f.w),hR,VE,avZ,fm,lA];refine bu (i+1,vL c u x k) (by simp[e2]) ⟨by simp only;omega,.inr ⟨rfl,by rw[eL,he],i,by simp only;omega,hs⟩⟩ (by simp only;omega)
     ·rw[Ek rfl he]at hR
      rw[av he]at hq;simp (disch:=omega) [-getElem?_pos,wrap64,aY (l:=f.w),hR,decide_eq_false he];exact err _ hq.symm he
    ·refine bu (i+1,u) (by simp) ⟨by simp only;omega,?_⟩ (by simp only;omega)
     rcases hu with⟨a,d⟩ | ⟨a,d,j,hj,hs⟩
     ·refine .inl ⟨a,fun j hj=>?_⟩
      rcases cM j i with g|g
      ·exact d j g
      ·rw[show j=i by simp only at hj;omega];exact h9
     ·exact .inr ⟨a,d,j,by simp only;omega,hs⟩
   ·obtain rfl:i=c.r.l.length:=by omega
    have hD:u=vL c v x k∧pg c v x k=0:=by
     rcases hu with⟨rfl,d⟩ | ⟨rfl,b,_⟩
     ·have hn:=avO d
      unfold vL pg;rw[hn];exact⟨rfl,rfl⟩
     ·exact⟨rfl,b⟩
    obtain⟨rfl,d4⟩:=hD;have eE:vE c p v k=0:=by rw[vE,d3,hx,d4];rfl
    rw[aK eE]at hq;obtain⟨a1,a2,a3⟩:=agM (c:=c) (u:=vD c p v k) (v:=v) (x:=x) (k:=k) s1 s2 s3;obtain⟨b1,b2,b3⟩:=agL (c:=c) (u:=vD c p v k) (x:=x) (k:=k);have hvS:vS c p v k=vL c (vD c p v k) x k:=by rw[vS,hx]
    refine bu (k+1) (by simp[ecv,hvS,a1,a2,a3,b1,b2,b3]) ⟨by omega,fun j hj=>?_,hq⟩ (by omega)
    rcases cM j k with g|g
    ·exact hzk j g
    ·rw[show j=k by omega,hcv];exact eE
 ·obtain rfl:k=c.r.n.toNat:=by omega
  rw[lC]at hq;have w9:=GS cv p f;have w1:((cE c p f c.r.n.toNat).re.length:Int)=c.s.length:=by omega
  rw[VI w9.1,VI avR,VI w9.2];simp (disch:=omega) [-getElem?_pos,wrap64,p9,sA,avI,BX];rw[←hq]at fY;unfold ry at hQ;rw[fY,aK rfl]at hQ;exact hQ
end Go.Proofs.YtcelmhaoipbdiaaGreat
namespace Go.Proofs.YtcelmhaoipbdiaaGreat
set_option linter.all false
open Go.Vm
structure Pa(c:Cs)(f:Fl)(p:Sp):Prop where
 c0:eQ c=0
 f0:fP c f
 p0:j7 c p
 all:dF (p.a++p.b++p.c) 1073741824
 t:f.t≠16777216
 v:∀k,k<c.r.n.toNat→vE c p (cE c p f k) k=0
theorem GV{c:Cs}{f:Fl}{p:Sp}(h:nW c f p=0):Pa c f p:=by
 unfold nW at h;split at h
 ·rename_i h1;exact absurd h h1
 ·rename_i h1
  obtain⟨h2,h3⟩:=yL (iu h1);unfold fS at h;split at h
  ·split at h
   ·split at h
    ·cases h
    ·exact⟨h2,h3,by assumption,by assumption,by assumption,fun k hk=>sj h k (by omega) (by omega)⟩
   ·cases h
  ·cases h
theorem Pa.vc{c:Cs}{f:Fl}{p:Sp}(h:Pa c f p){k:Nat}(hk:k≤c.r.n.toNat):Vc c p (cE c p f k) k:=vcs h.c0 h.f0 h.p0 h.all fun j hj=>h.v j (by omega)
theorem Pa.fl{c:Cs}{f:Fl}{p:Sp}(h:Pa c f p):fP c (qb c f p):=by
 have hv:=h.vc (bY _);have:=h.f0.1;have:=h.t;exact⟨by simp only[qb];omega,hv.d,hv.w⟩
theorem Er{c:Cs}(hk:jy c.r=0){f:Fl}(h:fP c f):kq f:=fun i=>by
 rcases cM i c.r.l.length with g|g
 ·have a:=h.2.2.2 i g
  have:=a.2.1;have:=(vg a.1).len;omega
 ·have:nth f.w i=[]:=by
   simp[nth,List.getD,mo (show f.w.length≤i by have:=h.2.2.1;omega)]
   rfl
  rw[this];simp
end Go.Proofs.YtcelmhaoipbdiaaGreat
namespace Go.Proofs.YtcelmhaoipbdiaaGreat
set_option linter.all false
open Go.Vm
def ph(c:Cs)(cm:List Int)(j:Int):Nat→Int
 |0=>0
 |m+1=>ph c cm j m+if (nth c.r.l m).t=j then nth cm m else 0
theorem agQ{c:Cs}{cm:List Int}{x:Int}{j:Int}:∀{m:Nat},m≤cm.length→ph c (cm++[x]) j m=ph c cm j m
 |0,_=>rfl
 |m+1,h=>by
  simp only[ph];rw[agQ (by omega),so (by omega)]
theorem av1{c:Cs}{cm:List Int}{x:Int}{j:Int}:ph c (cm++[x]) j (cm.length+1)=ph c cm j cm.length+if (nth c.r.l cm.length).t=j then x else 0:=by
 have e:nth (cm++[x]) cm.length=x:=by rw[ik,av (by omega),aK rfl]
 simp only[ph];rw[agQ (bY _),e]
structure Da(c:Cs)(p:Sp)(f:Fl)(v:Co)(i k:Nat):Prop where
 e:pf (nth c.s i).d (nth f.d i) (nth (cE c p f k).arr k) (nth p.b i) (nth p.c i)=0
 r:nth v.re i=mj (nth c.s i).d (nth f.d i) (nth (cE c p f k).arr k) (nth p.b i) (nth p.c i)
 d:nth v.d i=m9 (nth c.s i).d (nth f.d i) (nth (cE c p f k).arr k) (nth p.b i) (nth p.c i)
structure Li(c:Cs)(p:Sp)(f:Fl)(v:Co)(m k:Nat):Prop where
 e:g6 (nth c.r.l m).r (nth f.w m) (fL c p (cE c p f k) k)=0
 o:nth v.cm m=mP (nth c.r.l m).r (nth f.w m) (fL c p (cE c p f k) k)
 w:nth v.w m=lL (nth c.r.l m).r (nth f.w m) (fL c p (cE c p f k) k)
structure Hi(c:Cs)(p:Sp)(f:Fl)(v:Co)(k:Nat):Prop where
 arr:∀j,j<v.arr.length→nth v.arr j=nth p.a j+ph c v.cm j v.cm.length
 cm:∀m,m<v.cm.length→0≤nth v.cm m∧nth v.cm m≤1125899906842624
 site:∀i,i<v.re.length→∃k':Nat,k'<k∧uj c i=k'∧Da c p f v i k'
 link:∀m,m<v.cm.length→∃k':Nat,k'<k∧A2 c m=k'∧Li c p f v m k'
 lf:∀j,j<k→nth v.lf j=fL c p (cE c p f j) j
theorem av2{c:Cs}{p:Sp}{f:Fl}(h:Pa c f p){k:Nat}(hk:k<c.r.n.toNat)(hh:Hi c p f (cE c p f k) k):Hi c p f (cE c p f (k+1)) (k+1):=by
 have hc:=jM h.c0;have hv:=h.vc (k:=k) (by omega)
 have ho:=Kf hc p f k;have hf:=VJ hc p f k;obtain⟨e0,eL⟩:=agA (h.v k hk);show Hi c p f (vS c p (cE c p f k) k) (k+1);obtain⟨s1,s2,s3,s4⟩:=Ke (c:=c) (p:=p) (v:=cE c p f k) (k:=k);obtain⟨a1,a2,a3⟩:=agM (c:=c) (x:=fL c p (cE c p f k) k) (k:=k) s1 s2 s3;obtain⟨b1,b2,b3⟩:=agL (c:=c) (u:=vD c p (cE c p f k) k) (x:=fL c p (cE c p f k) k) (k:=k);have av3:∀i,i<(vD c p (cE c p f k) k).re.length→∃k':Nat,k'<k+1∧uj c i=k'∧Da c p f (vD c p (cE c p f k) k) i k':=by
  unfold vD;cases hs:lM c.s k with
  |none =>
   intro i hi;obtain⟨k',g1,g2,g3⟩:=hh.site i hi;exact⟨k',by omega,g2,g3.e,g3.r,g3.d⟩
  |some i0 =>
   obtain⟨q1,q2⟩:=y5 hs;have q3:=(y4 ho.s (fun j h0 hj=>(xN hc hj).2.1 h0) q1 q2).1;have q4:i0<(cE c p f k).d.length:=by have:=hv.d.1;omega
   have q5:=hf.d.2 i0 (by omega)
   intro i hi;simp only[oG,po]at hi;by_cases g:i=i0
   ·subst g
    refine⟨k,by omega,q2,?_,?_,?_⟩
    ·unfold na at e0
     rw[hs]at e0;rw[←q5];exact e0
    ·show nth ((cE c p f k).re++[_]) i=_
     rw[ik,av (by omega),aK q3,vR,q5]
    ·show nth ((cE c p f k).d.set i _) i=_
     rw[ui q4,aK rfl,q5]
   ·obtain⟨k',g1,g2,g3⟩:=hh.site i (by omega)
    refine⟨k',by omega,g2,g3.e,?_,?_⟩
    ·show nth ((cE c p f k).re++[_]) i=_
     rw[so (by omega)];exact g3.r
    ·show nth ((cE c p f k).d.set i0 _) i=_
     rw[ui q4,av g];exact g3.d
 have hlf:∀j,j<k+1→nth (vD c p (cE c p f k) k).lf j=fL c p (cE c p f j) j:=fun j hj=>by
  have:=hv.ll;rw[s4,ik];by_cases g:j<k
  ·rw[aK (by omega)];exact hh.lf j g
  ·rw[av (by omega),aK (by omega),show j=k by omega]
 have VK:(∀j,j<(vL c (cE c p f k) (fL c p (cE c p f k) k) k).arr.length→nth (vL c (cE c p f k) (fL c p (cE c p f k) k) k).arr j=nth p.a j+ph c (vL c (cE c p f k) (fL c p (cE c p f k) k) k).cm j (vL c (cE c p f k) (fL c p (cE c p f k) k) k).cm.length) ∧
   (∀m,m<(vL c (cE c p f k) (fL c p (cE c p f k) k) k).cm.length→0≤nth (vL c (cE c p f k) (fL c p (cE c p f k) k) k).cm m∧nth (vL c (cE c p f k) (fL c p (cE c p f k) k) k).cm m≤1125899906842624) ∧
   ∀m,m<(vL c (cE c p f k) (fL c p (cE c p f k) k) k).cm.length→∃k':Nat,k'<k+1∧A2 c m=k'∧Li c p f (vL c (cE c p f k) (fL c p (cE c p f k) k) k) m k':=by
  unfold pg at eL;cases hl:ml c.r.l k with
  |none =>
   rw[show vL c (cE c p f k) (fL c p (cE c p f k) k) k=cE c p f k by unfold vL;rw[hl]]
   exact⟨hh.arr,hh.cm,fun m hm=>by obtain⟨k',g1,g2,g3⟩:=hh.link m hm;exact⟨k',by omega,g2,g3⟩⟩
  |some m0 =>
   rw[hl]at eL;obtain⟨q1,q2⟩:=Ct hl;have q3:=(y4 ho.l (fun j h0 hj=>((kr hc.k).link hj).2.1 h0) q1 q2).1;have q4:m0<(cE c p f k).w.length:=by have:=hv.w.1;omega
   have q5:=hf.w.2 m0 (by omega)
   have q6:=GN eL;have q7:=((kr hc.k).link q1).1;have q8:=hv.Eo;have q9:(nth c.r.l m0).t.toNat<(cE c p f k).arr.length:=by omega
   have hu:vL c (cE c p f k) (fL c p (cE c p f k) k) k={ cE c p f k with w:=(cE c p f k).w.set m0 (lL (nth c.r.l m0).r (nth (cE c p f k).w m0) (fL c p (cE c p f k) k)),cm:=(cE c p f k).cm++[mP (nth c.r.l m0).r (nth (cE c p f k).w m0) (fL c p (cE c p f k) k)],arr:=(cE c p f k).arr.set (nth c.r.l m0).t.toNat (nth (cE c p f k).arr (nth c.r.l m0).t.toNat+mP (nth c.r.l m0).r (nth (cE c p f k).w m0) (fL c p (cE c p f k) k)) }:=by
    unfold vL;rw[hl]
   rw[hu];refine⟨fun j hj=>?_,fun m hm=>?_,fun m hm=>?_⟩
   ·simp only[pj]at hj
    simp only[oG,po];rw[ui q9,av1,← q3];by_cases g:j=(nth c.r.l m0).t.toNat
    ·rw[aK g,aK (by omega),← g,hh.arr j hj,q3]
     exact Int.add_assoc _ _ _
    ·rw[av g,av (by omega),KG,q3]
     exact hh.arr j hj
   ·simp only[oG,po]at hm
    simp only;rw[ik];by_cases g:m<(cE c p f k).cm.length
    ·rw[aK g];exact hh.cm m g
    ·rw[av g,aK (by omega)];exact q6
   ·simp only[oG,po]at hm
    by_cases g:m=m0
    ·subst g
     refine⟨k,by omega,q2,by rw[←q5];exact eL,?_,?_⟩
     ·show nth ((cE c p f k).cm++[_]) m=_
      rw[ik,av (by omega),aK q3,q5]
     ·show nth ((cE c p f k).w.set m _) m=_
      rw[ui q4,aK rfl,q5]
    ·obtain⟨k',g1,g2,g3⟩:=hh.link m (by omega)
     refine⟨k',by omega,g2,g3.e,?_,?_⟩
     ·show nth ((cE c p f k).cm++[_]) m=_
      rw[so (by omega)];exact g3.o
     ·show nth ((cE c p f k).w.set m0 _) m=_
      rw[ui q4,av g];exact g3.w
 unfold vS;refine⟨?_,?_,fun i hi=>?_,fun m hm=>?_,by rw[b2];exact hlf⟩
 ·rw[a1,a3];exact VK.1
 ·rw[a3];exact VK.2.1
 ·rw[b1]at hi
  obtain⟨k',g1,g2,g3⟩:=av3 i hi;exact⟨k',g1,g2,g3.e,by rw[b1];exact g3.r,by rw[b3];exact g3.d⟩
 ·rw[a3]at hm
  obtain⟨k',g1,g2,g3⟩:=VK.2.2 m hm;exact⟨k',g1,g2,g3.e,by rw[a3];exact g3.o,by rw[a2];exact g3.w⟩
theorem Oc{c:Cs}{p:Sp}{f:Fl}(h:Pa c f p):∀{k:Nat},k≤c.r.n.toNat→Hi c p f (cE c p f k) k
 |0,_=>⟨fun j hj=>by simp[cE,ph],fun m hm=>by simp[cE]at hm,fun i hi=>by simp[cE]at hi,fun m hm=>by simp[cE]at hm,fun j hj=>by omega⟩
 |k+1,hk=>av2 h (by omega) (Oc h (by omega))
end Go.Proofs.YtcelmhaoipbdiaaGreat
namespace Go.Proofs.YtcelmhaoipbdiaaGreat
set_option linter.all false
open Go.Vm
theorem agT{f:Nat→Int}:∀n,dv f (nz f n)=dv f n
 |0=>rfl
 |n+1=>by
  unfold nz;split
  ·rename_i h
   rw[agT n];simp only[dv];have h:f n=0:=by simpa using h
   rw[h,KG]
  ·rfl
theorem Oo{l:List Int}:∀n,sm l n=dv (nth l) n
 |0=>rfl
 |n+1=>by simp only[sm,dv];rw[Oo n]
theorem agU{f g:Nat→Int}:∀{n:Nat},(∀k,k<n→f k=g k)→dv f n=dv g n
 |0,_=>rfl
 |n+1,h=>by
  simp only[dv];rw[agU fun k hk=>h k (by omega),h n (by omega)]
theorem agV{f:Nat→Int}:∀n,dv (fun k=>f (k+1)) n=dv f (n+1)-f 0
 |0=>by simp[dv]
 |n+1=>by
  have:=agV (f:=f) n;simp only[dv]at this ⊢;omega
theorem agW{f g:Nat→Int}{x:Int}:∀n,dv (fun k=>f k+x*g k) n=dv f n+x*dv g n
 |0=>by simp[dv]
 |n+1=>by
  simp only[dv];rw[agW n,Hf];omega
theorem av6{l:List Int}{n:Nat}(h:l.length≤n):sm l n=sm l l.length:=by
 obtain⟨d,rfl⟩:∃d,n=l.length+d:=⟨n-l.length,by omega⟩
 clear h
 induction d with
 |zero=>rfl
 |succ d ih =>
  rw[show l.length+(d+1)=(l.length+d)+1 by omega]
  simp only[sm];rw[ih,wC (by omega),KG]
theorem av7{r:Rc}{p:List Int}{x:Int}(h:g6 r p x=0):sm (lL r p x) (lL r p x).length=sm p p.length+r.den*(x-mP r p x):=by
 obtain⟨h1,h2,h3,h4⟩:=GM h;have hv:=vg h1;have hn:0<r.w.length:=hv.pos;have e1:sm (lL r p x) (lL r p x).length=dv (rN r p x) r.w.length:=by
  have hl:(lL r p x).length=nz (rN r p x) r.w.length:=by simp[lL]
  have e:dv (nth (lL r p x)) (nz (rN r p x) r.w.length)=dv (rN r p x) (nz (rN r p x) r.w.length):=agU fun k hk=>agy hk;rw[Oo,hl,e,agT]
 obtain⟨m,hm⟩:∃m,r.w.length=m+1:=⟨r.w.length-1,by omega⟩
 have e2:dv (rN r p x) r.w.length=dv (fun k=>rq r p x (k+1)) r.w.length+rq r p x 0 % r.den:=by
  rw[hm];have key:∀j,dv (rN r p x) (j+1)=dv (fun k=>rq r p x (k+1)) (j+1)+rq r p x 0 % r.den:=by
   intro j;induction j with
   |zero=>simp[dv,rN]
   |succ j ih =>
    rw[dv,ih];simp only[dv,rN];rw[av (by omega)]
    omega
  exact key m
 have e3:rq r p x r.w.length=0:=by
  have:=h2.1;simp only[rq];rw[wC (by omega),wC (bY _)]
  simp
 have e4:dv (rq r p x) r.w.length=sm p p.length+x*r.den:=by
  show dv (fun k=>nth p k+x*nth r.w k) r.w.length=_;rw[agW,← Oo,← Oo,av6 h2.1,hv.sum]
 have e5:rq r p x 0=r.den*mP r p x+rq r p x 0 % r.den:=(Int.mul_ediv_add_emod _ _).symm;have e6:r.den*(x-mP r p x)=x*r.den-r.den*mP r p x:=by rw[Int.mul_sub,KI r.den x]
 rw[e1,e2,agV,dv,e3,e4,e6];omega
def hB(c:Cs)(f:Fl)(M:Int):Prop:=∀i,i<c.r.l.length→sm (nth f.w i) (nth f.w i).length≤(nth c.r.l i).r.den*(1073741824*M)
theorem av8{r:Rc}{p:List Int}(h:iZ r p):0≤sm p p.length:=(AT (i:=p.length) h.2.2).1
theorem agX{c:Cs}{f:Fl}{p:Sp}(h:Pa c f p){M:Int}(hM:0≤M)(hb:hB c f M) :
  hB c (qb c f p) (M+1)∧∀i,i<c.r.l.length→0≤nth (la c f p).cm i∧nth (la c f p).cm i≤1073741824*(M+1):=by
 have hc:=jM h.c0;have e2:=(GS hc p f).2
 suffices g:∀i,i<c.r.l.length→sm (nth (qb c f p).w i) (nth (qb c f p).w i).length≤(nth c.r.l i).r.den*(1073741824*(M+1))∧0≤nth (la c f p).cm i∧nth (la c f p).cm i≤1073741824*(M+1) from
  ⟨fun i hi=>(g i hi).1,fun i hi=>(g i hi).2⟩
 intro i hi;obtain⟨k,_,_,hl⟩:=(Oc h (bY _)).link i (by omega)
 have hw:nth (qb c f p).w i=_:=hl.w;have ho:nth (la c f p).cm i=_:=hl.o;have hr:=av7 hl.e;have hx:=(GM hl.e).2.2.1;have h0:=(GN hl.e).1;have hd:=(vg (GM hl.e).1).den;have hs:=av8 (agz hl.e);have Yk:=hb i hi;rw[hw,ho];generalize mP (nth c.r.l i).r (nth f.w i) (fL c p (cE c p f k) k)=o at *;generalize fL c p (cE c p f k) k=x at *;generalize lL (nth c.r.l i).r (nth f.w i) x=q at *;generalize (nth c.r.l i).r.den=D at *;generalize sm (nth f.w i) (nth f.w i).length=s at *;have a1:D*(1073741824*(M+1))=D*(1073741824*M)+D*1073741824:=by rw[←Hf];congr 1;omega
 have a2:D*(x-o)=D*x-D*o:=Int.mul_sub _ _ _;have a3:D*x≤D*1073741824:=KJ hx.2 (by omega)
 have a4:0≤D*o:=CK (by omega) h0
 refine⟨by omega,h0,?_⟩
 exact Int.le_of_mul_le_mul_left (a:=D) (by omega) (by omega)
theorem Oq{c:Cs}{f:Fl}{M N:Int}(hk:jy c.r=0)(h:hB c f M)(hn:M≤N):hB c f N:=fun i hi=>by
 have hd:=(vg ((kr hk).link hi).2.2).den;exact Bb (h i hi) (KJ (by omega) (by omega))
theorem av9{c:Cs}{s:List Ds}:hB c (nA c s) 0:=fun i hi=>by
 have e:nth (nA c s).w i=[]:=by simp[nA,nth,hi]
 rw[e];simp[sm]
end Go.Proofs.YtcelmhaoipbdiaaGreat
