/- Parts of the proof, joined: Cas4, Cas5, Mk5, Flo1, Cas6, Cas7, Cas8, Cas9, Cas10, Cas11, Flo2, Cas12, Bal1. -/
import Derived.Test.YtmpikpodpgnjhaaGreatDe
import Derived.Test.YtmpikpodpgnjhaaGreatDd
namespace Go.Proofs.YtmpikpodpgnjhaaGreat
set_option linter.all false
open Go.Vm
attribute [local simp] mc me ma mb
def fd(p:Nat→Bool):Nat→Nat→Option Nat
 |0,_=>none
 |m+1,i=>if p i then some i else fd p m (i+1)
theorem M9{p:Nat→Bool}{i n:Nat}(h:i<n):fd p (n-i) i=if p i then some i else fd p (n-(i+1)) (i+1):=by
 obtain⟨m,hm⟩:∃m,n-i=m+1:=⟨n-i-1,by omega⟩
 rw[hm,fd,show n-(i+1)=m by omega]
theorem Na{p:Nat→Bool}{n:Nat}:fd p (n-n) n=none:=by rw[Nat.sub_self];rfl
theorem wJ{p:Nat→Bool}:∀{m i k:Nat},fd p m i=some k→(i≤k∧k<i+m)∧p k=true∧∀j,i≤j→j<k→p j=false
 |0,i,k,h=>by simp[fd]at h
 |m+1,i,k,h=>by
  unfold fd at h;split at h
  ·rename_i h1;cases h;exact⟨by omega,h1,fun j a b=>by omega⟩
  ·rename_i h1
   have:=wJ h;refine⟨by omega,this.2.1,fun j a b=>?_⟩
   by_cases hj:j=i
   ·subst hj;simpa using h1
   ·exact this.2.2 j (by omega) b
theorem Nb{p:Nat→Bool}:∀{m i:Nat},fd p m i=none→∀j,i≤j→j<i+m→p j=false
 |0,i,_,j,a,b=>by omega
 |m+1,i,h,j,a,b=>by
  unfold fd at h;split at h
  ·cases h
  ·rename_i h1
   by_cases hj:j=i
   ·subst hj;simpa using h1
   ·exact Nb h j (by omega) (by omega)
def mP:Option Nat→Int
 |some k=>k
 |none => -1
def jn(s:List Si)(n:Int):Option Nat:=fd (fun i=>decide ((nth s i).n=n)) s.length 0
def iA(l:List Lk)(n:Int):Option Nat:=fd (fun i=>decide ((nth l i).f=n)) l.length 0
theorem aiD(s:List Si)(hs:s.length≤1000)(n:Int){k:Nat}{G:List aP}(hG:G[k]?=some (.cells [i64 n])) :
  a8 F 157 [uq s,.fn 158 [.bB k 0]] G=some (i64 (mP (jn s n)),G) :=
 bV rfl rfl (by
  generalize hW:mP (jn s n)=W;have hp:∀x:Si,a8 F 158 [.agg x.row,.bB k 0] G=some (.bool (decide (x.n=n)),G):=fun x=>bV rfl rfl (by
   simp (disch:=omega) [-getElem?_pos,wrap64,To,hG])
  simp (disch:=omega) [-getElem?_pos,wrap64,Tn];refine go_loop (fun i:Nat=>aey (uq s) (.fn 158 [.bB k 0]) s.length i G) (fun i=>i≤s.length∧mP (fd (fun i=>decide ((nth s i).n=n)) (s.length-i) i)=W) (fun i=>s.length-i) 0 rfl (by simp) ⟨by omega,hW⟩ ?_
  rintro i ⟨hi,hq⟩;simp (disch:=omega) [-getElem?_pos,wrap64,Tm];refine bK (fun h5=>?_) (fun h5=>?_)
  ·have h5:i<s.length:=by omega
   rw[M9 h5]at hq;simp (disch:=omega) [-getElem?_pos,wrap64,bb (l:=s),hp];refine bK (fun h6=>?_) (fun h6=>?_)
   ·rw[if_pos (decide_eq_true h6)]at hq
    exact hq
   ·rw[if_neg (by simp[h6])]at hq
    exact bL (i+1) (by simp) ⟨by omega,hq⟩ (by omega)
  ·obtain rfl:i=s.length:=by omega
   rw[Na]at hq;exact hq)
theorem aiE(s:List Lk)(hs:s.length≤1000)(n:Int){k:Nat}{G:List aP}(hG:G[k]?=some (.cells [i64 n])) :
  a8 F 160 [lS s,.fn 161 [.bB k 0]] G=some (i64 (mP (iA s n)),G) :=
 bV rfl rfl (by
  generalize hW:mP (iA s n)=W;have hp:∀x:Lk,a8 F 161 [.agg x.row,.bB k 0] G=some (.bool (decide (x.f=n)),G):=fun x=>bV rfl rfl (by
   simp (disch:=omega) [-getElem?_pos,wrap64,Ts,hG])
  simp (disch:=omega) [-getElem?_pos,wrap64,Tq];refine go_loop (fun i:Nat=>aeA (lS s) (.fn 161 [.bB k 0]) s.length i G) (fun i=>i≤s.length∧mP (fd (fun i=>decide ((nth s i).f=n)) (s.length-i) i)=W) (fun i=>s.length-i) 0 rfl (by simp) ⟨by omega,hW⟩ ?_
  rintro i ⟨hi,hq⟩;simp (disch:=omega) [-getElem?_pos,wrap64,Tp];refine bK (fun h5=>?_) (fun h5=>?_)
  ·have h5:i<s.length:=by omega
   rw[M9 h5]at hq;simp (disch:=omega) [-getElem?_pos,wrap64,bb (l:=s),hp];refine bK (fun h6=>?_) (fun h6=>?_)
   ·rw[if_pos (decide_eq_true h6)]at hq
    exact hq
   ·rw[if_neg (by simp[h6])]at hq
    exact bL (i+1) (by simp) ⟨by omega,hq⟩ (by omega)
  ·obtain rfl:i=s.length:=by omega
   rw[Na]at hq;exact hq)
theorem aiF(x:Int)(G:List aP):a8 F 112 [i64 x] G=some (.bool (!decide (0≤x∧x≤1073741824)),G) :=
 bV rfl rfl (by
  by_cases h1:x<0
  ·rw[decide_eq_false (by omega)]
   simp[wrap64,Gl,h1]
  ·by_cases h2:1073741824<x
   ·rw[decide_eq_false (by omega)]
    simp[wrap64,Gl,h1,h2]
   ·rw[decide_eq_true (by omega)]
    simp[wrap64,Gl,h1,h2])
theorem aiG(a b c:List Int)(h:a.length+b.length+c.length≤1000)(G:List aP):a8 F 89 [.slice none 1 [[ints a],[ints b],[ints c]]] G=some (ints (a++b++c),G) :=
 bV rfl rfl (by
  simp (disch:=omega) [wrap64,Sq,Sj,Sg,Sl,Sk,y6];refine bK (fun g=>absurd g (by omega)) (fun _=>bK (fun g=>absurd g (by omega)) (fun _=>bK (fun g=>absurd g (by omega)) (fun _=>?_)))
  simp (disch:=omega) [wrap64,JZ (l:=a++(b++c)) (n:=a.length+b.length+c.length) (by simp;omega)])
structure Sp where
 a:List Int
 b:List Int
 c:List Int
abbrev Sp.row(p:Sp):List V:=[ints p.a,ints p.b,ints p.c]
abbrev sv(p:Sp):V:=.agg p.row
def mw(c:Cs)(p:Sp):Prop:=(p.a.length:Int)=c.r.n∧p.b.length=c.s.length∧p.c.length=c.s.length
instance {c:Cs} {p:Sp}:Decidable (mw c p):=inferInstanceAs (Decidable (_∧_∧_))
theorem aiH(c:Cs)(p:Sp)(G:List aP):a8 F 87 [cs c,sv p] G=some (.bool (decide (mw c p)),G) :=
 bV rfl rfl (by
  obtain⟨⟨n,l⟩,s⟩:=c;obtain⟨a,b,c⟩:=p;generalize hW:decide (mw ⟨⟨n,l⟩,s⟩ ⟨a,b,c⟩)=W;have no:¬ mw ⟨⟨n,l⟩,s⟩ ⟨a,b,c⟩→W=false:=fun h=>by rw[←hW];simp[h]
  have yes:mw ⟨⟨n,l⟩,s⟩ ⟨a,b,c⟩→W=true:=fun h=>by rw[←hW];simp[h]
  unfold mw at no yes;simp only at no yes;by_cases h1:(a.length:Int)=n
  ·by_cases h2:(b.length:Int)=s.length
   ·by_cases h3:(c.length:Int)=s.length
    ·simp[wrap64,Dn,h1,h2,h3]
     exact yes (by omega)
    ·simp[wrap64,Dn,h1,h2,h3]
     exact no (by omega)
   ·simp[wrap64,Dn,h1,h2]
    exact no (by omega)
  ·simp[wrap64,Dn,h1]
   exact no (by omega))
theorem Nc(l:List Int)(hl:l.length≤1000)(m:Int)(G:List aP):a8 F 94 [ints l,i64 m] G=some (.bool (decide (eP l m)),G) :=
 bV rfl rfl (by
  generalize hW:decide (eP l m)=W;simp (disch:=omega) [-getElem?_pos,wrap64,Su];refine go_loop (fun i:Nat=>ady m (ints l) l.length i G) (fun i=>i≤l.length∧∀j,j<i→0≤nth l j∧nth l j≤m) (fun i=>l.length-i) 0 rfl (by simp) (by simp) ?_
  rintro i ⟨hi,hj⟩;simp (disch:=omega) [-getElem?_pos,wrap64,Ss];refine bK (fun h5=>?_) (fun h5=>?_)
  ·have h5:i<l.length:=by omega
   by_cases h6:0≤nth l i∧nth l i≤m
   ·have hH:(decide (0≤nth l i)&&decide (nth l i≤m))=true:=by simp;exact h6
    simp (disch:=omega) [-getElem?_pos,wrap64,dD (l:=l),BC,hH];refine bL (i+1) (by simp) ⟨by omega,fun j h7=>?_⟩ (by omega)
    rcases Nat.lt_or_ge j i with h8|h8
    ·exact hj j h8
    ·rwa [show j=i by omega]
   ·have hH:(decide (0≤nth l i)&&decide (nth l i≤m))=false:=by simp;omega
    simp (disch:=omega) [-getElem?_pos,wrap64,dD (l:=l),BC,hH];rw[←hW,decide_eq_false (fun g:eP l m=>h6 (g i h5))]
  ·obtain rfl:i=l.length:=by omega
   rw[←hW,decide_eq_true (show eP l m from hj)])
structure Kv(r:Rr):Prop where
 n:1≤r.n∧r.n≤40
 e:∀i,i<r.l.length→lE r i=0
theorem jE{r:Rr}(h:iz r=0):Kv r:=by
 unfold iz at h;split at h
 ·cases h
 ·exact⟨by omega,fun i hi=>rm h i (by omega) (by omega)⟩
theorem Kv.link{r:Rr}(h:Kv r){i:Nat}(hi:i<r.l.length):(0≤(nth r.l i).f∧(nth r.l i).f<(nth r.l i).t∧(nth r.l i).t≤r.n-1)∧(0<i→(nth r.l (i-1)).f<(nth r.l i).f)∧eD (nth r.l i).r=0:=by
 have he:=h.e i hi;unfold lE at he;simp only at he;split at he
 ·split at he
  ·cases he
  ·split at he
   ·cases he
   ·exact⟨by omega,fun h0=>by omega,he⟩
 ·cases he
theorem Kv.up{r:Rr}(h:Kv r):∀{i:Nat},i<r.l.length→(i:Int)≤(nth r.l i).f
 |0,hi=>by have:=(h.link hi).1;omega
 |i+1,hi=>by
  have:=h.up (i:=i) (by omega)
  have:=(h.link hi).2.1 (by omega)
  simp only[Nat.add_sub_cancel]at this;omega
theorem Kv.len{r:Rr}(h:Kv r):r.l.length≤39:=by
 have h1:=h.n;by_cases h0:r.l.length=0
 ·omega
 ·have h2:=h.up (i:=r.l.length-1) (by omega)
  have h3:=(h.link (i:=r.l.length-1) (by omega)).1
  omega
theorem WT:∀n:Nat,kV [some 1] (List.replicate n [V.bW])=some (List.replicate n [ints []])
 |0=>rfl
 |n+1=>by rw[List.replicate_succ,kV,WT n];rfl
theorem WU{n:Nat}:kV [some 1] (chunks 1 (List.replicate n V.bW) 0 n)=some (List.replicate n [ints []]):=by
 rw[CR _ _ _ rfl (by simp),List.drop_zero,List.take_of_length_le (by simp),List.map_replicate]
 exact WT n
theorem Nd:∀n:Nat,(List.replicate n [V.bW]).flatten=List.replicate n V.bW
 |0=>rfl
 |n+1=>by rw[List.replicate_succ,List.flatten_cons,Nd n];rfl
theorem aiI(r:Rr)(hr:mO r)(G:List aP):a8 F 75 [rr r] G=some (.tuple (if iz r=0 then [vp (List.replicate r.l.length []),i64 0] else [.slice (some 0) 1 [],i64 (iz r)]),G) :=
 bV rfl rfl (by
  have h1:=Hw r hr;have h2:=Hx r hr;obtain⟨n,l⟩:=r;by_cases hz:iz ⟨n,l⟩=0
  ·have hl:=(jE hz).len
   simp only at hl;rw[if_pos hz];simp (disch:=omega) [wrap64,KR,h1,h2,hz,Nd,WU]
  ·rw[if_neg hz]
   simp (disch:=omega) [wrap64,KR,h1,h2,hz])
theorem aiJ(r:Rr)(hr:mO r)(G:List aP):a8 F 77 [rr r] G=some (.tuple (if iz r=0 then [vp (List.replicate r.l.length []),i64 0] else [.slice (some 0) 1 [],i64 (iz r)]),G) :=
 bV rfl rfl (by
  have h1:=Hw r hr;have h2:=Hx r hr;obtain⟨n,l⟩:=r;by_cases hz:iz ⟨n,l⟩=0
  ·have hl:=(jE hz).len
   simp only at hl;rw[if_pos hz];simp (disch:=omega) [wrap64,KS,h1,h2,hz,Nd,WU]
  ·rw[if_neg hz]
   simp (disch:=omega) [wrap64,KS,h1,h2,hz])
noncomputable def nR(c:Cs)(l:List Ds):Int:=if e7 c≠0 then e7 c else if mr c l then 0 else 3
def lz(c:Cs)(l:List Ds):Fl:=⟨0,l,List.replicate c.r.l.length []⟩
noncomputable def nS(c:Cs)(l:List Ds):V:=.tuple (if nR c l=0 then [fl (lz c l),i64 0] else [.agg [i64 0,.slice (some 0) 4 [],.slice (some 0) 1 []],i64 (nR c l)])
theorem Ej{c:Cs}(h:e7 c=0){l:List Ds}(hl:mr c l):Ei l:=by
 have h6:=(kb h).s;have h7:=hl.1;refine⟨by omega,fun i hi=>?_⟩
 have h8:=hl.2 i (by omega)
 have h9:=vj h8.1;have a:=h9.u;have b:=h9.g;have c:=h8.2.2.2.1;have d:=h8.2.2.2.2.1;omega
theorem Nf{c:Cs}(h:e7 c=0){l:List Ds}:fG c (lz c l)↔mr c l:=by
 refine⟨fun g=>g.2.1,fun g=>⟨by simp[lz],g,by simp[lz],fun i hi=>?_⟩⟩
 have hk:=(jE (kb h).k).link hi;refine⟨hk.2.2,?_⟩;have e:nth (lz c l).w i=[]:=by simp[lz,nth,hi]
 rw[e];exact⟨by simp,by simp,fun j hj=>by simp at hj⟩
theorem aiK(c:Cs)(l:List Ds):rA (lz c l):=fun i=>by
 rcases Nat.lt_or_ge i c.r.l.length with h|h
 ·simp[lz,nth,h]
 ·have e:nth (lz c l).w i=[]:=by
   simp[lz,nth,List.getElem?_eq_none (show(List.replicate c.r.l.length ([]:List Int)).length≤i by simpa using h)]
   rfl
  rw[e];simp
theorem aiL(c:Cs)(hr:mO c.r)(l:List Ds):∃G',a8 F 31 [cs c,tj l] []=some (nS c l,G'):=by
 have h1:=M0 c hr;by_cases hz:e7 c=0
 ·have h2:=WG c (by have:=(kb hz).s;omega) l
  by_cases hs:mr c l
  ·have h3:=aiI c.r hr
   rw[if_pos (kb hz).k]at h3;have h4:=M8 l (Ej hz hs);rw[show nS c l=.tuple [fl (lz c l),i64 0] by unfold nS;rw[show nR c l=0 by unfold nR;rw[if_neg (by omega),if_pos hs]];rfl]
   refine⟨[.cells []],bV rfl rfl ?_⟩;simp[wrap64,F8,h1,hz,h2,hs,h3,h4,wI,lz]
  ·rw[show nS c l=.tuple [.agg [i64 0,.slice (some 0) 4 [],.slice (some 0) 1 []],i64 3] by unfold nS;rw[show nR c l=3 by unfold nR;rw[if_neg (by omega),if_neg hs]];rfl]
   refine⟨[],bV rfl rfl ?_⟩;simp[wrap64,F8,h1,hz,h2,hs]
 ·rw[show nS c l=.tuple [.agg [i64 0,.slice (some 0) 4 [],.slice (some 0) 1 []],i64 (e7 c)] by unfold nS;rw[show nR c l=e7 c by unfold nR;rw[if_pos hz]];rw[if_neg hz]]
  refine⟨[],bV rfl rfl ?_⟩;simp[wrap64,F8,h1,hz]
theorem aiM(c:Cs)(hr:mO c.r)(l:List Ds)(Ed:Ei l):∃G',a8 F 32 [cs c,tj l] []=some (nS c l,G'):=by
 have h1:=M1 c hr;by_cases hz:e7 c=0
 ·have h3:=aiJ c.r hr
  rw[if_pos (kb hz).k]at h3;have h4:=WS l Ed;have h5:=WI c hr (lz c l) (aiK c l);by_cases hs:mr c l
  ·rw[decide_eq_true ⟨hz,(Nf hz).2 hs⟩]at h5
   rw[show nS c l=.tuple [fl (lz c l),i64 0] by unfold nS;rw[show nR c l=0 by unfold nR;rw[if_neg (by omega),if_pos hs]];rfl]
   refine⟨[.cells []],bV rfl rfl ?_⟩;simp only[fl,Fl.row,lz,vp,List.map_replicate]at h5;simp[wrap64,F9,h1,hz,h3,h4,h5,wI,lz]
  ·rw[decide_eq_false (fun g=>hs ((Nf hz).1 g.2))]at h5
   rw[show nS c l=.tuple [.agg [i64 0,.slice (some 0) 4 [],.slice (some 0) 1 []],i64 3] by unfold nS;rw[show nR c l=3 by unfold nR;rw[if_neg (by omega),if_neg hs]];rfl]
   refine⟨[.cells []],bV rfl rfl ?_⟩;simp only[fl,Fl.row,lz,vp,List.map_replicate]at h5;simp[wrap64,F9,h1,hz,h3,h4,h5,wI]
 ·rw[show nS c l=.tuple [.agg [i64 0,.slice (some 0) 4 [],.slice (some 0) 1 []],i64 (e7 c)] by unfold nS;rw[show nR c l=e7 c by unfold nR;rw[if_pos hz]];rw[if_neg hz]]
  refine⟨[],bV rfl rfl ?_⟩;simp[wrap64,F9,h1,hz]
theorem WV{l:List Int}{a:Int}:∀{i:Nat},i≤l.length→sm (l++[a]) i=sm l i
 |0,_=>rfl
 |i+1,h=>by
  simp only[sm];rw[WV (by omega),nP (by omega)]
theorem aiN{l:List Int}{a:Int}:sm (l++[a]) (l.length+1)=sm l l.length+a:=by
 simp only[sm];rw[WV (Nat.le_refl _),ic,if_neg (by omega),if_pos rfl]
abbrev vq(l:List Int):V:=.slice (some 0) 1 (l.map fun n=>[i64 n])
abbrev Ng(r:Rc):V:=.agg [vq r.w,i64 r.den]
theorem aiO{l:List Int}{k:Nat}(hd:dG l k):∃r k',a8 F 153 [.bB 0 0] [dk l k]=some (Ng r,[dk l k'])∧dG l k'∧eD r=0∧r.w.length≤5:=by
 suffices h:∀Q:V→List aP→Prop,(∀r k',dG l k'→eD r=0→r.w.length≤5→Q (Ng r) [dk l k'])→gY (a8 F) 153 [.bB 0 0] [dk l k] Q by
  obtain⟨_,_,h,r,k',rfl,rfl,h1⟩:=h (fun v G=>∃r k',v=Ng r∧G=[dk l k']∧dG l k'∧eD r=0∧r.w.length≤5) fun r k' a b c=>⟨r,k',rfl,rfl,a,b,c⟩;exact⟨r,k',h,h1⟩
 intro Q hQ;refine iu rfl rfl ?_;obtain⟨m,k1,n1,iK,hm⟩:=fQ hd 5 (by omega)
 simp (disch:=omega) [wrap64,Te,n1];refine go_loop (fun s:List Int×Int×Int×Nat=>aen (.bB 0 0) s.2.2.1 [.bW,i64 0] [.slice (some 1022) 1 (s.1.map fun n=>[i64 n]),i64 s.2.1] s.1.length [dk l s.2.2.2])
  (fun s=>s.2.1=sm s.1 s.1.length∧(∀i,i<s.1.length→0≤nth s.1 i∧nth s.1 i≤4)∧(s.1.length:Int)+s.2.2.1+1≤5 ∧ -1≤s.2.2.1∧(s.2.2.1 = -1→0<s.1.length∧1≤nth s.1 (s.1.length-1))∧dG l s.2.2.2) (fun s=>(s.2.2.1+1).toNat)
  ([],0,m,k1) rfl (by simp) ⟨rfl,by simp,by simp;omega,by simp only;omega,by simp only;omega,iK⟩ ?_
 rintro⟨w,den,x,k⟩ ⟨h1,h2,h3,h4,h5,hd⟩;simp only at h1 h2 h3 h4 h5 hd;have zN:=uo (l:=w) (b:=4) (i:=w.length) h2;obtain⟨a,k2,n2,fm,ha⟩:=fQ hd 4 (by omega)
 simp (disch:=omega) [wrap64,Td];refine bK (fun h6=>?_) (fun h6=>?_)
 ·have key:∀b:Int,(0≤b∧b≤4)→(x=0→1≤b)→((den+b=sm (w++[b]) (w++[b]).length)∧(∀i,i<(w++[b]).length→0≤nth (w++[b]) i∧nth (w++[b]) i≤4)∧((w++[b]).length:Int)+(x-1)+1≤5 ∧ -1≤x-1∧(x-1 = -1→0<(w++[b]).length∧1≤nth (w++[b]) ((w++[b]).length-1))∧dG l k2):=fun b hb AD=>by
   refine⟨by rw[List.length_append,List.length_singleton,aiN,h1],fun i hi=>?_,by simp;omega,by omega,fun g=>⟨by simp,?_⟩,fm⟩
   ·rw[ic]
    simp at hi;split
    ·exact h2 i (by assumption)
    ·rw[if_pos (by omega)];exact hb
   ·rw[List.length_append,List.length_singleton,Nat.add_sub_cancel,ic,if_neg (by omega),if_pos rfl]
    exact AD (by omega)
  by_cases h7:x=0
  ·subst h7
   simp (disch:=omega) [wrap64,n2];exact bL (w++[a+1],den+(a+1),-1,k2) (by simp) (key (a+1) (by omega) (fun _=>by omega)) (by simp)
  ·simp (disch:=omega) [wrap64,n2,h7]
   exact bL (w++[a],den+a,x-1,k2) (by simp) (key a (by omega) (fun g=>absurd g h7)) (by simp only;omega)
 ·have hx:x = -1:=by omega
  obtain⟨h8,h9⟩:=h5 hx;refine hQ ⟨w,den⟩ k hd ?_ (by simp only;omega)
  unfold eD;simp only;rw[if_neg (by omega),if_neg (by omega),if_pos (show eP w 10000 from fun i hi=>by have:=h2 i hi;omega),if_pos h1.symm]
structure Rm(m:Int)(l:List Lk)(n:Int):Prop where
 link:∀i,i<l.length→0≤(nth l i).f∧(nth l i).f<(nth l i).t∧(nth l i).t≤m-1∧(nth l i).f<n∧eD (nth l i).r=0∧(nth l i).r.w.length≤5
 up:∀i,0<i→i<l.length→(nth l (i-1)).f<(nth l i).f
 len:(l.length:Int)≤n
theorem Rm.snoc{m:Int}{l:List Lk}{n:Int}(h:Rm m l n)(hn:0≤n){x:Lk}(h1:x.f=n)(h2:n<x.t)(h3:x.t≤m-1)(h4:eD x.r=0)(h5:x.r.w.length≤5):Rm m (l++[x]) (n+1):=by
 refine⟨fun i hi=>?_,fun i h0 hi=>?_,by have:=h.len;simp;omega⟩
 ·simp at hi
  rw[ic];split
  ·have:=h.link i (by assumption);omega
  ·rw[if_pos (by omega)];omega
 ·simp at hi
  rw[ic,ic,if_pos (by omega)]
  split
  ·exact h.up i h0 (by assumption)
  ·rw[if_pos (by omega),h1]
   exact(h.link (i-1) (by omega)).2.2.2.1
theorem Rm.skip{m:Int}{l:List Lk}{n:Int}(h:Rm m l n):Rm m l (n+1) :=
 ⟨fun i hi=>by have:=h.link i hi;omega,h.up,by have:=h.len;omega⟩
theorem Rm.kS{m:Int}{l:List Lk}{n:Int}(h:Rm m l n)(hm:1≤m∧m≤40):iz ⟨m,l⟩=0:=by
 unfold iz;rw[if_neg (by simp only;omega)]
 refine qq fun i _ hi=>?_;have hi:i<l.length:=by simp only at hi;omega
 have a:=h.link i hi;show(if (0≤(nth l i).f∧(nth l i).f≤m-1)∧(0≤(nth l i).t∧(nth l i).t≤m-1) then (if (nth l i).t≤(nth l i).f then 12 else if 0<i∧(nth l i).f≤(nth l (i-1)).f then 4 else eD (nth l i).r) else 11)=0
 rw[if_pos (by omega),if_neg (by omega),if_neg (fun g=>by have:=h.up i g.1 hi;omega)]
 exact a.2.2.2.2.1
abbrev Nh(l:List Lk):V:=.slice (some 0) 4 (l.map Lk.row)
theorem aiP{l:List Int}{k:Nat}(hd:dG l k):∃r k',a8 F 110 [.bB 0 0] [dk l k]=some (.agg [i64 r.n,Nh r.l],[dk l k'])∧dG l k'∧iz r=0∧r.n≤6∧∀i,i<r.l.length→(nth r.l i).r.w.length≤5:=by
 suffices h:∀Q:V→List aP→Prop,(∀r k',dG l k'→iz r=0→r.n≤6→(∀i,i<r.l.length→(nth r.l i).r.w.length≤5)→Q (.agg [i64 r.n,Nh r.l]) [dk l k'])→gY (a8 F) 110 [.bB 0 0] [dk l k] Q by
  obtain⟨_,_,h,r,k',rfl,rfl,h1⟩:=h (fun v G=>∃r k',v=.agg [i64 r.n,Nh r.l]∧G=[dk l k']∧dG l k'∧iz r=0∧r.n≤6∧∀i,i<r.l.length→(nth r.l i).r.w.length≤5) fun r k' a b c d=>⟨r,k',rfl,rfl,a,b,c,d⟩;exact⟨r,k',h,h1⟩
 intro Q hQ;refine iu rfl rfl ?_;obtain⟨a,k1,n1,iK,ha⟩:=fQ hd 6 (by omega)
 obtain⟨m,hm⟩:∃m:Int,1+a=m:=⟨_,rfl⟩;simp (disch:=omega) [wrap64,Sy,n1,hm];refine go_loop (fun s:List Lk×Int×Nat=>adA (.bB 0 0) s.2.1 [i64 0,.bW] [i64 m,.slice (some 1036) 4 (s.1.map Lk.row)] s.1.length [dk l s.2.2])
  (fun s=>Rm m s.1 s.2.1∧(0≤s.2.1∧s.2.1<m)∧dG l s.2.2) (fun s=>(m-s.2.1).toNat) ([],0,k1) rfl (by simp) ⟨⟨by simp,by simp,by simp⟩,by simp only;omega,iK⟩ ?_
 rintro⟨ls,n,k⟩ ⟨h1,h2,hd⟩;simp only at h1 h2 hd;have jV:=h1.len;obtain⟨b,k2,n2,fm,hb⟩:=fQ hd 6 (by omega)
 simp (disch:=omega) [wrap64,Sx];refine bK (fun h6=>?_) (fun h6=>?_)
 ·by_cases h7:0<b
  ·obtain⟨e,k3,n3,mh,he⟩:=fQ fm (m-n-1) (by omega)
   obtain⟨r,k4,n4,rp,oM,oa⟩:=aiO mh;simp (disch:=omega) [wrap64,n2,h7,n3,n4];exact bL (ls++[⟨n,n+1+e,r⟩],n+1,k4) (by simp) ⟨h1.snoc h2.1 rfl (by simp only;omega) (by simp only;omega) oM oa,by simp only;omega,rp⟩ (by simp only;omega)
  ·simp (disch:=omega) [wrap64,n2,h7]
   exact bL (ls,n+1,k2) (by simp) ⟨h1.skip,by simp only;omega,fm⟩ (by simp only;omega)
 ·refine hQ ⟨m,ls⟩ k hd (h1.kS (by omega)) (by simp only;omega) fun i hi=>(h1.link i hi).2.2.2.2.2
structure Cm(c:Cs):Prop where
 kS:e7 c=0
 n:c.r.n≤6
 s:c.s.length≤3
 w:∀i,i<c.r.l.length→(nth c.r.l i).r.w.length≤5
theorem Cm.small{c:Cs}(h:Cm c):mO c.r:=by
 have:=(jE (kb h.kS).k).len;exact⟨by omega,fun i hi=>by have:=h.w i hi;omega⟩
structure Sm(m:Int)(s:List Si)(l:List Ds)(n:Int):Prop where
 len:l.length=s.length
 three:s.length≤3
 site:∀i,i<s.length→(0≤(nth s i).n∧(nth s i).n<m∧(nth s i).n<n)∧eZ (nth s i).d=0∧gC (nth s i).d (nth l i)
 up:∀i,0<i→i<s.length→(nth s (i-1)).n<(nth s i).n
abbrev HE(l:List Si):V:=.slice (some 0) 10 (l.map Si.row)
abbrev HF(l:List Ds):V:=.slice (some 0) 4 (l.map Ds.row)
theorem Sm.snoc{m:Int}{s:List Si}{l:List Ds}{n:Int}(h:Sm m s l n)(h3:s.length<3)(hn:0≤n∧n<m){d:Dm}{x:Ds}(h1:eZ d=0)(h2:gC d x):Sm m (s++[⟨n,d⟩]) (l++[x]) (n+1):=by
 refine⟨by simp[h.len],by simp;omega,fun i hi=>?_,fun i h0 hi=>?_⟩
 ·simp at hi
  rw[ic,ic,h.len];split
  ·have:=h.site i (by assumption)
   exact⟨by omega,this.2⟩
  ·rw[if_pos (by omega),if_pos (by omega)];exact⟨by simp only;omega,h1,h2⟩
 ·simp at hi
  rw[ic,ic,if_pos (by omega)]
  split
  ·exact h.up i h0 (by assumption)
  ·rw[if_pos (by omega)]
   exact(h.site (i-1) (by omega)).1.2.2
theorem Sm.skip{m:Int}{s:List Si}{l:List Ds}{n:Int}(h:Sm m s l n):Sm m s l (n+1) :=
 ⟨h.len,h.three,fun i hi=>⟨by have:=h.site i hi;omega,(h.site i hi).2⟩,h.up⟩
theorem Sm.kS{r:Rr}{s:List Si}{l:List Ds}{n:Int}(h:Sm r.n s l n)(hk:iz r=0)(h6:r.n≤6):e7 ⟨r,s⟩=0:=by
 unfold e7;simp only;have h3:=h.three;rw[if_neg (by omega),if_neg (by omega),if_neg (by omega)]
 refine qq fun i _ hi=>?_;have hi:i<s.length:=by omega
 have a:=h.site i hi;show(if 0≤(nth s i).n∧(nth s i).n<r.n then (if 0<i∧(nth s i).n≤(nth s (i-1)).n then 4 else eZ (nth s i).d) else 41)=0
 rw[if_pos (by omega),if_neg (fun g=>by have:=h.up i g.1 hi;omega)]
 exact a.2.1
theorem aiQ{l:List Int}{k:Nat}(hd:dG l k):∃c s k',a8 F 52 [.bB 0 0] [dk l k]=some (.tuple [.agg [i64 c.r.n,lS c.r.l,HE c.s],HF s],[dk l k'])∧dG l k'∧Cm c∧mr c s:=by
 suffices h:∀Q:V→List aP→Prop,(∀c s k',dG l k'→Cm c→mr c s→Q (.tuple [.agg [i64 c.r.n,lS c.r.l,HE c.s],HF s]) [dk l k'])→gY (a8 F) 52 [.bB 0 0] [dk l k] Q by
  obtain⟨_,_,h,c,s,k',rfl,rfl,h1⟩:=h (fun v G=>∃c s k',v=.tuple [.agg [i64 c.r.n,lS c.r.l,HE c.s],HF s]∧G=[dk l k']∧dG l k'∧Cm c∧mr c s) fun c s k' a b d=>⟨c,s,k',rfl,rfl,a,b,d⟩;exact⟨c,s,k',h,h1⟩
 intro Q hQ;refine iu rfl rfl ?_;obtain⟨r,k1,n1,iK,hk,hn,hw⟩:=aiP hd;have iy:=(jE hk).n;simp (disch:=omega) [wrap64,RK,n1];refine go_loop (fun s:List Si×List Ds×Int×Nat=>acE (.bB 0 0) (.slice (some 1043) 4 (s.2.1.map Ds.row)) s.2.2.1 [i64 0,.bW,.bW] [i64 r.n,lS r.l,.slice (some 1039) 10 (s.1.map Si.row)] s.1.length s.2.1.length [dk l s.2.2.2])
  (fun s=>Sm r.n s.1 s.2.1 s.2.2.1∧(0≤s.2.2.1∧s.2.2.1≤r.n)∧dG l s.2.2.2) (fun s=>(r.n-s.2.2.1).toNat) ([],[],0,k1) rfl (by simp) ⟨⟨rfl,by simp,by simp,by simp⟩,by simp only;omega,iK⟩ ?_
 rintro⟨s,d,n,k⟩ ⟨h1,h2,hd⟩;simp only at h1 h2 hd;have h3:=h1.three;have hl:=h1.len;have fin:Q (.tuple [.agg [i64 r.n,lS r.l,HE s],HF d]) [dk l k]:=hQ ⟨r,s⟩ d k hd ⟨h1.kS hk hn,hn,h3,hw⟩ ⟨hl,fun i hi=>(h1.site i hi).2⟩;by_cases h4:n<r.n
 ·by_cases h5:s.length<3
  ·have wF:(s.length:Int)<3:=by omega
   obtain⟨b,k2,n2,fm,hb⟩:=fQ hd 2 (by omega)
   by_cases h6:b=0
   ·obtain⟨dd,x,k3,n3,mh,uj⟩:=ah0 fm
    simp (disch:=omega) [wrap64,C8,h4,wF,n2,h6,n3];exact bL (s++[⟨n,dd⟩],d++[x],n+1,k3) (by simp[hl]) ⟨h1.snoc h5 (by omega) uj.kS uj.fit,by simp only;omega,mh⟩ (by simp only;omega)
   ·simp (disch:=omega) [wrap64,C8,h4,wF,n2,h6]
    exact bL (s,d,n+1,k2) (by simp) ⟨h1.skip,by simp only;omega,fm⟩ (by simp only;omega)
  ·have wF:¬ (s.length:Int)<3:=by omega
   simp (disch:=omega) [wrap64,C8,h4,wF];exact fin
 ·simp (disch:=omega) [wrap64,C8,h4]
  exact fin
theorem WW{l:List Int}{k:Nat}(hd:dG l k){c:Cs}(hn:1≤c.r.n∧c.r.n≤40)(hs:c.s.length≤10) :
  ∃p k',a8 F 16 [.bB 0 0,cs c] [dk l k]=some (.agg [vq p.a,vq p.b,vq p.c],[dk l k'])∧dG l k'∧mw c p∧eP p.a 30∧eP p.b 30∧eP p.c 30:=by
 suffices h:∀Q:V→List aP→Prop,(∀p k',dG l k'→mw c p→eP p.a 30→eP p.b 30→eP p.c 30→Q (.agg [vq p.a,vq p.b,vq p.c]) [dk l k'])→gY (a8 F) 16 [.bB 0 0,cs c] [dk l k] Q by
  obtain⟨_,_,h,p,k',rfl,rfl,h1⟩:=h (fun v G=>∃p k',v=.agg [vq p.a,vq p.b,vq p.c]∧G=[dk l k']∧dG l k'∧mw c p∧eP p.a 30∧eP p.b 30∧eP p.c 30) fun p k' a b d e g=>⟨p,k',rfl,rfl,a,b,d,e,g⟩;exact⟨p,k',h,h1⟩
 intro Q hQ;refine iu rfl rfl ?_;obtain⟨⟨n,r⟩,s⟩:=c;simp only at hn hs;have snoc:∀{a:List Int} {x:Int},eP a 30→(0≤x∧x≤30)→eP (a++[x]) 30:=fun h hx i hi=>by
  simp at hi;rw[ic];split
  ·exact h i (by assumption)
  ·rw[if_pos (by omega)];exact hx
 simp (disch:=omega) [wrap64,Ro];refine go_loop (fun y:List Int×Nat=>⟨[(0,.bB 0 0),(3,.bA 3 0),(4,.bA 4 0),(5,.bA 5 0),(8,i64 n),(9,i64 y.1.length)],[(3,[i64 n,lS r,uq s]),(4,[.bW,.bW,.bW]),(5,[.slice (some 1016) 1 (y.1.map fun n=>[i64 n]),.bW,.bW])],[(1016,y.1.length)],[dk l y.2]⟩)
  (fun y=>(y.1.length:Int)≤n∧eP y.1 30∧dG l y.2) (fun y=>(n-y.1.length).toNat) ([],k) rfl (by simp) ⟨by simp;omega,fun i hi=>by simp at hi,hd⟩ ?_
 rintro⟨a,k⟩ ⟨h1,h2,hd⟩;simp only at h1 h2 hd;obtain⟨x,k1,n1,iK,hx⟩:=fQ hd 14 (by omega)
 simp (disch:=omega) [wrap64,Rl];refine bK (fun h3=>?_) (fun h3=>?_)
 ·simp (disch:=omega) [wrap64,n1]
  exact bL (a++[x],k1) (by simp) ⟨by simp;omega,snoc h2 (by omega),iK⟩ (by simp;omega)
 ·refine go_loop (fun y:List Int×List Int×Nat=>⟨[(0,.bB 0 0),(4,.bA 4 0),(5,.bA 5 0),(21,i64 s.length),(22,i64 y.1.length)],[(4,[.bW,.bW,.bW]),(5,[.slice (some 1016) 1 (a.map fun n=>[i64 n]),.slice (some 1029) 1 (y.1.map fun n=>[i64 n]),.slice (some 1035) 1 (y.2.1.map fun n=>[i64 n])])],[(1016,a.length),(1029,y.1.length),(1035,y.2.1.length)],[dk l y.2.2]⟩)
   (fun y=>y.1.length≤s.length∧y.2.1.length=y.1.length∧eP y.1 30∧eP y.2.1 30∧dG l y.2.2) (fun y=>s.length-y.1.length) ([],[],k) rfl (by simp) ⟨by simp,rfl,fun i hi=>by simp at hi,fun i hi=>by simp at hi,hd⟩ ?_
  rintro⟨b,d,k⟩ ⟨g1,g2,g3,g4,hd⟩;simp only at g1 g2 g3 g4 hd;obtain⟨x,k1,n1,iK,hx⟩:=fQ hd 3 (by omega)
  obtain⟨y,k2,n2,fm,hy⟩:=fQ iK 30 (by omega)
  simp (disch:=omega) [wrap64,Rn];refine bK (fun h4=>?_) (fun h4=>?_)
  ·simp (disch:=omega) [wrap64,n1,n2,g2]
   exact bL (b++[x],d++[y],k2) (by simp[g2]) ⟨by simp;omega,by simp[g2],snoc g3 (by omega),snoc g4 (by omega),fm⟩ (by simp;omega)
  ·refine hQ ⟨a,b,d⟩ k hd ⟨by simp only;omega,by simp only;omega,by simp only;omega⟩ h2 g3 g4
structure Co where
 arr:List Int
 d:List Ds
 w:List (List Int)
 re:List Dr
 lf:List Int
 cm:List Int
def my(r:Dr):Int:=r.tur+r.spi+r.ovr
noncomputable def kT(c:Cs)(p:Sp)(v:Co)(k:Nat):Int:=match jn c.s k with
 |none=>0
 |some i=>mq (nth c.s i).d (nth v.d i) (nth v.arr k) (nth p.b i) (nth p.c i)
noncomputable def vR(c:Cs)(p:Sp)(v:Co)(k i:Nat):Dr:=gU (nth c.s i).d (nth v.d i) (nth v.arr k) (nth p.b i) (nth p.c i)
noncomputable def eM(c:Cs)(p:Sp)(v:Co)(k:Nat):Int:=match jn c.s k with
 |none=>nth v.arr k
 |some i=>my (vR c p v k i)
noncomputable def vD(c:Cs)(p:Sp)(v:Co)(k:Nat):Co:=match jn c.s k with
 |none=>{ v with lf:=v.lf++[eM c p v k] }
 |some i=>{ v with d:=v.d.set i (jM (nth c.s i).d (nth v.d i) (nth v.arr k) (nth p.b i) (nth p.c i)),re:=v.re++[vR c p v k i],lf:=v.lf++[eM c p v k] }
noncomputable def ny(c:Cs)(v:Co)(x:Int)(k:Nat):Int:=match iA c.r.l k with
 |none=>0
 |some j=>fL (nth c.r.l j).r (nth v.w j) x
noncomputable def vL(c:Cs)(v:Co)(x:Int)(k:Nat):Co:=match iA c.r.l k with
 |none=>v
 |some j=>{ v with w:=v.w.set j (jC (nth c.r.l j).r (nth v.w j) x),cm:=v.cm++[kK (nth c.r.l j).r (nth v.w j) x],arr:=v.arr.set (nth c.r.l j).t.toNat (nth v.arr (nth c.r.l j).t.toNat+kK (nth c.r.l j).r (nth v.w j) x) }
noncomputable def vE(c:Cs)(p:Sp)(v:Co)(k:Nat):Int:=if kT c p v k≠0 then kT c p v k else ny c v (eM c p v k) k
noncomputable def vS(c:Cs)(p:Sp)(v:Co)(k:Nat):Co:=vL c (vD c p v k) (eM c p v k) k
structure Vc(c:Cs)(p:Sp)(v:Co)(k:Nat):Prop where
 c0:e7 c=0
 p:mw c p
 xX:(v.arr.length:Int)=c.r.n
 arr:∀j,j<v.arr.length→0≤nth v.arr j∧nth v.arr j≤1073741824+1125899906842624*k
 d:mr c v.d
 w:xW c v.w
 rl:v.re.length≤k
 ll:v.lf.length=k
 cl:v.cm.length≤k
abbrev crs(c:Cs)(p:Sp)(t:Int)(v:Co):List V:=[i64 t,.df 0 4 v.d.length,.df 1 1 v.w.length,i64 c.r.n,lS c.r.l,uq c.s,ints p.a,ints p.b,ints p.c,.df 2 1 v.arr.length,
 .eY 7 (v.re.map Dr.row),.eY 1 (v.lf.map fun n=>[i64 n]),.eY 1 (v.cm.map fun n=>[i64 n])]
abbrev Gc(c:Cs)(p:Sp)(t:Int)(v:Co)(J:List aP):List aP:=.cells (iP v.d)::.cells (kc v.w)::.cells (dv v.arr)::.cells (crs c p t v)::J
theorem HG{l:List Ds}{i:Nat}(h:i<l.length):((iP l).drop (i*4)).take 4=(nth l i).row:=M5 (row:=Ds.row) (fun _=>rfl) h
theorem WY{l:List Ds}{i:Nat}(h:i<l.length)(x:Ds):iC (iP l) (i*4) x.row=iP (l.set i x):=HA (row:=Ds.row) (fun _=>rfl) h
theorem HH{l:List (List Int)}{i:Nat}(h:i<l.length):((kc l).drop i).take 1=[ints (nth l i)]:=by
 have:=M5 (row:=fun p=>[ints p]) (k:=1) (fun _=>rfl) h
 rwa [Nat.mul_one]at this
theorem aiS{l:List (List Int)}{i:Nat}(h:i<l.length)(x:List Int):iC (kc l) i [ints x]=kc (l.set i x):=by
 have:=HA (row:=fun p=>[ints p]) (k:=1) (fun _=>rfl) (x:=x) h
 rwa [Nat.mul_one]at this
theorem Ni{d:Dm}{s:Ds}{a b c:Int}(h:mq d s a b c=0):eZ d=0∧gC d s∧(0≤a∧a≤1073741824)∧(0≤b∧b≤1073741824)∧(0≤c∧c≤1073741824):=by
 unfold mq at h;split at h
 ·rename_i h1;exact absurd h h1
 ·rename_i h1
  split at h
  ·cases h
  ·rename_i h2
   have h1:dE d s=0:=Decidable.of_not_not h1;have hd:eZ d=0:=by
    unfold dE at h1;split at h1
    ·rename_i h3;exact absurd h1 h3
    ·rename_i h3;exact Decidable.of_not_not h3
   simp only[List.any_cons,List.any_nil,vk,Bool.or_false,Bool.or_eq_true,Bool.not_eq_true',decide_eq_false_iff_not,not_or,Classical.not_not]at h2;exact⟨hd,(D7 h1).2,h2.1,h2.2.1,h2.2.2⟩
theorem HI{d:Dm}{s:Ds}{a b c:Int}(h:mq d s a b c=0):((0≤(gU d s a b c).tur∧(gU d s a b c).tur≤1073741824)∧(0≤(gU d s a b c).spi∧(gU d s a b c).spi≤17179869184)∧(0≤(gU d s a b c).ovr∧(gU d s a b c).ovr≤1073741824)) ∧
  (0≤(gU d s a b c).los∧(gU d s a b c).los≤1073741824)∧(jM d s a b c).v=s.v+a-(gU d s a b c).los-my (gU d s a b c):=by
 obtain⟨hd,hf,ha,hb,hc⟩:=Ni h;have oY:=vj hd;have p:=MK oY hf ha hb hc;have hv:=hf.1;have hL:ea s a b=s.v+a-min b (s.v+a):=rfl;have hO:qF d s a b c=max (ea s a b-(fq d s a b c+kJ d s a b c)-jL d) 0:=rfl;have IQ:=p.T0;have hTr:=p.Tr;have hP0:=p.P0;have hP1:=p.P1;have e1:(gU d s a b c).los=min b (s.v+a):=rfl;have e2:(gU d s a b c).tur=fq d s a b c:=rfl;have e3:(gU d s a b c).spi=kJ d s a b c:=rfl;have e4:(gU d s a b c).ovr=qF d s a b c:=rfl;have e5:(jM d s a b c).v=ea s a b-(fq d s a b c+kJ d s a b c)-qF d s a b c:=rfl;unfold my;rw[e1,e2,e3,e4,e5];omega
theorem BG{r:Rc}{p:List Int}{x:Int}(h:fL r p x=0):eD r=0∧gM r p∧(0≤x∧x≤1073741824)∧tg r p x:=by
 unfold fL at h;split at h
 ·rename_i h1;exact absurd h h1
 ·rename_i h1
  split at h
  ·rename_i h2
   split at h
   ·rename_i h3;exact⟨Decidable.of_not_not h1,h2,h3⟩
   ·cases h
  ·cases h
theorem BH{r:Rc}{p:List Int}{x:Int}(h:fL r p x=0):0≤kK r p x∧kK r p x≤1125899906842624:=by
 obtain⟨h1,h2,h3,h4⟩:=BG h;have hv:=pU h1;have q:=wG hv h2 h3 0;have:=h4 0 (by have:=hv.pos;omega)
 have a:=Int.ediv_nonneg q.1 (show 0≤r.den by have:=hv.den;omega)
 have b:=Int.ediv_le_self r.den q.1;unfold kK;omega
theorem Nj{l:List (List Int)}{i:Nat}(x:List Int):(kc l).set i (.slice none 1 (x.map fun n=>[i64 n]))=kc (l.set i x):=by
 rcases Nat.lt_or_ge i l.length with h|h
 ·rw[←aiS h];rfl
 ·rw[List.set_eq_of_length_le (by simpa using h),List.set_eq_of_length_le h]
set_option maxRecDepth 100000 in
set_option maxHeartbeats 4000000 in
theorem aiT{c:Cs}(hr:mO c.r){p:Sp}{v:Co}{k:Nat}(h:Vc c p v k)(hk:k<v.arr.length)(t:Int)(J:List aP) :
  ∃G',a8 F 113 [.bB 3 0,i64 k] (Gc c p t v J)=some (i64 (vE c p v k),G')∧(vE c p v k=0→G'=Gc c p t (vS c p v k) (J++[.cells [i64 k]])):=by
 suffices hh:∀Q:V→List aP→Prop,(∀G',(vE c p v k=0→G'=Gc c p t (vS c p v k) (J++[.cells [i64 k]]))→Q (i64 (vE c p v k)) G')→gY (a8 F) 113 [.bB 3 0,i64 k] (Gc c p t v J) Q by
  obtain⟨_,G',h,rfl,h1⟩:=hh (fun x G'=>x=i64 (vE c p v k)∧(vE c p v k=0→G'=Gc c p t (vS c p v k) (J++[.cells [i64 k]]))) fun G' g=>⟨rfl,g⟩;exact⟨G',h,h1⟩
 intro Q hQ;refine iu rfl rfl ?_;have cv:=kb h.c0;generalize xY:J++[aP.cells [i64 k]]=J' at hQ;have hJ:J'[J.length]?=some (.cells [i64 k]):=by rw[←xY];exact List.getElem?_concat_length
 have lu:∀G0 G1 G2 G3,a8 F 157 [uq c.s,.fn 158 [.bB (J.length+1+1+1+1) 0]] (G0::G1::G2::G3::J')=some (i64 (mP (jn c.s k)),G0::G1::G2::G3::J') :=
  fun G0 G1 G2 G3=>aiD c.s (by have:=cv.s;omega) k (G:=G0::G1::G2::G3::J') hJ
 have pW:∀G0 G1 G2 G3,a8 F 160 [lS c.r.l,.fn 161 [.bB (J.length+1+1+1+1) 0]] (G0::G1::G2::G3::J')=some (i64 (mP (iA c.r.l k)),G0::G1::G2::G3::J') :=
  fun G0 G1 G2 G3=>aiE c.r.l (by have:=(jE cv.k).len;omega) k (G:=G0::G1::G2::G3::J') hJ
 have Nk:k<v.arr.length:=hk;have jV:=h.ll;have apm:k≤12:=by have:=h.xX;have:=cv.n;omega
 have yK:=h.rl;have c9:=h.cl;have u5:∀j,iA c.r.l k=some j→j<c.r.l.length∧j<v.w.length∧(nth c.r.l j).t.toNat<v.arr.length∧0≤(nth c.r.l j).t:=fun j hl=>by
  have hj:=(wJ hl).1;have nf:j<c.r.l.length:=by omega
  have:=(jE cv.k).link nf;have:=h.xX;have:=h.w.1;omega
 cases hs:jn c.s k with
 |none =>
  have e0:kT c p v k=0:=by simp only[kT,hs]
  have e1:eM c p v k=nth v.arr k:=by simp only[eM,hs]
  have eE:vE c p v k=ny c v (nth v.arr k) k:=by rw[vE,e0,e1];rfl
  have e2:vS c p v k=vL c { v with lf:=v.lf++[nth v.arr k] } (nth v.arr k) k:=by rw[vS,vD,e1,hs]
  rw[hs]at lu;cases hl:iA c.r.l k with
  |none =>
   rw[hl]at pW;simp only[mP]at lu pW;have e3:vE c p v k=0:=by rw[eE,ny,hl]
   rw[e3]at hQ;simp (disch:=omega) [-getElem?_pos,wrap64,xD,lu,xY,hJ,jI,pW];refine hQ _ fun _=>?_;rw[e2,vL,hl];simp
  |some j =>
   rw[hl]at pW;simp only[mP]at lu pW;obtain⟨nf,yC,Nl,hj4⟩:=u5 j hl;have hR:=WE (nth c.r.l j).r (hr.2 j nf) (nth v.w j) (by have:=(h.w.2 j nf).2.1;have:=(pU (h.w.2 j nf).1).len;omega) (nth v.arr k)
   have e3:vE c p v k=fL (nth c.r.l j).r (nth v.w j) (nth v.arr k):=by rw[eE,ny,hl]
   rw[e3]at hQ;by_cases hz:fL (nth c.r.l j).r (nth v.w j) (nth v.arr k)=0
   ·have ho:=BH hz
    have ha:=h.arr (nth c.r.l j).t.toNat Nl;rw[Eg hz]at hR;rw[hz]at hQ;simp (disch:=omega) [-getElem?_pos,wrap64,xD,lu,xY,hJ,jI,pW,bb (l:=c.r.l),HH,Nj,hR];refine hQ _ fun _=>?_;rw[e2,vL,hl];simp
   ·rw[zL rfl hz]at hR
    simp (disch:=omega) [-getElem?_pos,wrap64,xD,lu,xY,hJ,jI,pW,bb (l:=c.r.l),HH,hR,hz];exact hQ _ fun g=>absurd g hz
 |some i =>
  rw[hs]at lu;have hi:=(wJ hs).1;have xZ:i<c.s.length:=by omega
  have l7:i<v.d.length:=by have:=h.d.1;omega
  have hpb:i<p.b.length:=by have:=h.p;unfold mw at this;omega
  have hpc:i<p.c.length:=by have:=h.p;unfold mw at this;omega
  obtain⟨Ga,hS⟩:=ahP (nth c.s i).d (nth v.d i) (nth v.arr k) (nth p.b i) (nth p.c i);by_cases he:mq (nth c.s i).d (nth v.d i) (nth v.arr k) (nth p.b i) (nth p.c i)=0
  ·have Nm:=(HI he).1
   have e0:kT c p v k=0:=by simp only[kT,hs,he]
   have e1:eM c p v k=my (vR c p v k i):=by simp only[eM,hs]
   have eE:vE c p v k=ny c v (my (vR c p v k i)) k:=by rw[vE,e0,e1];rfl
   have e2:vS c p v k=vL c { v with d:=v.d.set i (jM (nth c.s i).d (nth v.d i) (nth v.arr k) (nth p.b i) (nth p.c i)),re:=v.re++[vR c p v k i],lf:=v.lf++[my (vR c p v k i)] } (my (vR c p v k i)) k:=by rw[vS,vD,e1,hs]
   rw[qG,if_pos he]at hS;unfold vR at eE e2;generalize jM (nth c.s i).d (nth v.d i) (nth v.arr k) (nth p.b i) (nth p.c i)=S' at hS e2;generalize gU (nth c.s i).d (nth v.d i) (nth v.arr k) (nth p.b i) (nth p.c i)=R' at hS Nm eE e2;have hF:=ahU R' (by omega) (by omega) (by omega)
   rw[show R'.tur+R'.spi+R'.ovr=my R' from rfl]at hF;have fA:((((iP v.d).set (i*4) (i64 S'.v)).set (i*4+1) (i64 S'.rel)).set (i*4+1+1) (jg S'.u)).set (i*4+1+1+1) (j8 S'.g)=iP (v.d.set i S'):=WY l7 S';cases hl:iA c.r.l k with
   |none =>
    rw[hl]at pW;simp only[mP]at lu pW;have e3:vE c p v k=0:=by rw[eE,ny,hl]
    rw[e3]at hQ;simp (disch:=omega) [-getElem?_pos,wrap64,xD,lu,xY,hJ,jI,pW,bb (l:=c.s),dD (l:=p.b),dD (l:=p.c),HG,hS,hF,fA];refine hQ _ fun _=>?_;rw[e2,vL,hl];simp
   |some j =>
    rw[hl]at pW;simp only[mP]at lu pW;obtain⟨nf,yC,Nl,hj4⟩:=u5 j hl;have hR:=WE (nth c.r.l j).r (hr.2 j nf) (nth v.w j) (by have:=(h.w.2 j nf).2.1;have:=(pU (h.w.2 j nf).1).len;omega) (my R')
    have e3:vE c p v k=fL (nth c.r.l j).r (nth v.w j) (my R'):=by rw[eE,ny,hl]
    rw[e3]at hQ;by_cases hz:fL (nth c.r.l j).r (nth v.w j) (my R')=0
    ·have ho:=BH hz
     have ha:=h.arr (nth c.r.l j).t.toNat Nl;rw[Eg hz]at hR;rw[hz]at hQ;simp (config:={ maxSteps:=2000000 }) +contextual (disch:=omega) [-getElem?_pos,-List.length_eq_zero_iff,-Int.natCast_eq_zero,wrap64,xD,lu,xY,hJ,jI,pW,bb (l:=c.r.l),HH,Nj,hR,bb (l:=c.s),dD (l:=p.b),dD (l:=p.c),HG,hS,hF,fA];refine hQ _ fun _=>?_;rw[e2,vL,hl];simp
    ·rw[zL rfl hz]at hR
     simp (config:={ maxSteps:=2000000 }) +contextual (disch:=omega) [-getElem?_pos,-List.length_eq_zero_iff,-Int.natCast_eq_zero,wrap64,xD,lu,xY,hJ,jI,pW,bb (l:=c.r.l),HH,hR,hz,bb (l:=c.s),dD (l:=p.b),dD (l:=p.c),HG,hS,hF,fA];exact hQ _ fun g=>absurd g hz
  ·rw[qG,if_neg he]at hS
   simp only[mP]at lu;have e3:vE c p v k=mq (nth c.s i).d (nth v.d i) (nth v.arr k) (nth p.b i) (nth p.c i):=by
    have:kT c p v k=mq (nth c.s i).d (nth v.d i) (nth v.arr k) (nth p.b i) (nth p.c i):=by simp only[kT,hs]
    rw[vE,this,if_pos he]
   rw[e3]at hQ;have he':=decide_eq_false he;simp (disch:=omega) [-getElem?_pos,wrap64,xD,lu,xY,hJ,jI,pW,bb (l:=c.s),dD (l:=p.b),dD (l:=p.c),HG,hS,he'];exact hQ _ fun g=>absurd g he
end Go.Proofs.YtmpikpodpgnjhaaGreat
namespace Go.Proofs.YtmpikpodpgnjhaaGreat
set_option linter.all false
open Go.Vm
theorem W0{f:Nat→Int}:∀n,ly f n≤n
 |0=>Nat.le_refl _
 |n+1=>by
  unfold ly;split
  ·exact Nat.le_succ_of_le (W0 n)
  ·exact Nat.le_refl _
theorem W1{f:Nat→Int}:∀n,0<ly f n→f (ly f n-1)≠0
 |0,h=>by simp[ly]at h
 |n+1,h=>by
  unfold ly at h ⊢;split
  ·rename_i h1;rw[if_pos h1]at h;exact W1 n h
  ·rename_i h1;exact h1
theorem W2{f:Nat→Int}{n i:Nat}(h:i<n):nth ((List.range n).map f) i=f i:=by
 simp[nth,h]
theorem W3{r:Rc}{p:List Int}{x:Int}(h:fL r p x=0):gM r (jC r p x):=by
 obtain⟨h1,h2,h3,h4⟩:=BG h;have hv:=pU h1;have hl:(jC r p x).length=ly (rN r p x) r.w.length:=by simp[jC]
 have hle:=W0 (f:=rN r p x) r.w.length;have hn:∀i,i<ly (rN r p x) r.w.length→nth (jC r p x) i=rN r p x i:=fun i hi=>W2 hi;refine⟨by omega,fun h0=>?_,fun i hi=>?_⟩
 ·rw[hl]at h0 ⊢
  rw[hn _ (by omega)]
  exact W1 _ h0
 ·rw[hn i (by omega)]
  have hd:=hv.den;have q0:=wG hv h2 h3 0;have hb:∀k,k≤r.w.length→0≤rq r p x k∧rq r p x k≤1125899906842624:=fun k hk=>by
   rcases Nat.lt_or_ge k r.w.length with g|g
   ·exact⟨(wG hv h2 h3 k).1,h4 k g⟩
   ·have e:rq r p x k=0:=by unfold rq;rw[ti g,ti (by have:=h2.1;omega)];simp
    rw[e];omega
  unfold rN;split
  ·have:=hb 1 hv.pos
   have:=Int.emod_nonneg (rq r p x 0) (show r.den≠0 by omega)
   have:=Int.emod_lt_of_pos (rq r p x 0) (show 0<r.den by omega)
   omega
  ·have:=hb (i+1) (by omega)
   omega
theorem HJ{α:Type}[Inhabited α]{l:List α}{i j:Nat}{x:α}(h:i<l.length):nth (l.set i x) j=if j=i then x else nth l j:=qH h
theorem Nn{c:Cs}{p:Sp}{v:Co}{k:Nat}(he:vE c p v k=0):kT c p v k=0∧ny c v (eM c p v k) k=0:=by
 unfold vE at he;split at he
 ·rename_i h1;exact absurd he h1
 ·rename_i h1;exact⟨Decidable.of_not_not h1,he⟩
theorem El{c:Cs}{p:Sp}{v:Co}{k:Nat}:(vD c p v k).arr=v.arr∧(vD c p v k).w=v.w∧(vD c p v k).cm=v.cm∧(vD c p v k).lf=v.lf++[eM c p v k]:=by
 unfold vD;cases jn c.s k<;>exact⟨rfl,rfl,rfl,rfl⟩
theorem aiW{c:Cs}{p:Sp}{v:Co}{k:Nat}(h:mr c v.d)(h0:kT c p v k=0):mr c (vD c p v k).d:=by
 unfold vD;unfold kT at h0;cases hs:jn c.s k with
 |none=>exact h
 |some i =>
  rw[hs]at h0;have hi:=(wJ hs).1;have l7:i<v.d.length:=by have:=h.1;omega
  obtain⟨g1,g2,ga,gb,gc⟩:=Ni h0;refine⟨by simp only[List.length_set];exact h.1,fun j hj=>?_⟩
  rw[HJ l7];by_cases e:j=i
  ·rw[if_pos e,e]
   exact⟨g1,Wl (vj g1) g2 ga gb gc⟩
  ·rw[if_neg e]
   exact h.2 j hj
theorem Vc.next{c:Cs}{p:Sp}{v:Co}{k:Nat}(h:Vc c p v k)(he:vE c p v k=0):Vc c p (vS c p v k) (k+1):=by
 have cv:=kb h.c0;obtain⟨h0,hL⟩:=Nn he;obtain⟨s1,s2,s3,s4⟩:=El (c:=c) (p:=p) (v:=v) (k:=k);have hd:=aiW h.d h0;have tl:(vD c p v k).re.length≤k+1:=by
  have:=h.rl;unfold vD;cases jn c.s k<;>simp<;>omega
 have jV:=h.ll;have c9:=h.cl;unfold vS vL;unfold ny at hL;cases hl:iA c.r.l k with
 |none =>
  refine⟨h.c0,h.p,by rw[s1];exact h.xX,fun j hj=>?_,hd,by rw[s2];exact h.w,tl,by rw[s4];simp;omega,by rw[s3];omega⟩
  rw[s1]at hj ⊢;have:=h.arr j hj;omega
 |some j =>
  rw[hl]at hL;have hj:=(wJ hl).1;have hjw:j<v.w.length:=by have:=h.w.1;omega
  have ho:=BH hL;have hf:=W3 hL;have hc:=(BG hL).1;simp only[s1,s2,s3,s4];refine⟨h.c0,h.p,by simp only[List.length_set];exact h.xX,fun i hi=>?_,hd,⟨by simp only[List.length_set];exact h.w.1,fun i hi=>?_⟩,tl,by simp;omega,by simp;omega⟩
  ·simp only[List.length_set]at hi
   have BI:=h.arr i hi;by_cases e:i=(nth c.r.l j).t.toNat
   ·subst e
    rw[HJ hi,if_pos rfl];exact⟨Int.add_nonneg BI.1 ho.1,Int.le_trans (Int.add_le_add BI.2 ho.2) (by omega)⟩
   ·rcases Nat.lt_or_ge (nth c.r.l j).t.toNat v.arr.length with g|g
    ·rw[HJ g,if_neg e];exact⟨BI.1,Int.le_trans BI.2 (by omega)⟩
    ·rw[List.set_eq_of_length_le g];exact⟨BI.1,Int.le_trans BI.2 (by omega)⟩
  ·rw[HJ hjw]
   by_cases e:i=j
   ·rw[if_pos e,e]
    exact⟨hc,hf⟩
   ·rw[if_neg e]
    exact h.w.2 i hi
noncomputable def b8(c:Cs)(p:Sp)(f:Fl):Nat→Co
 |0=>⟨p.a,f.d,f.w,[],[],[]⟩
 |k+1=>vS c p (b8 c p f k) k
noncomputable def gD(c:Cs)(f:Fl)(p:Sp):Int :=
 if mw c p then (if eP (p.a++p.b++p.c) 1073741824 then (if f.t=16777216 then 6 else dK (fun k=>vE c p (b8 c p f k) k) c.r.n.toNat 0) else 1) else 3
structure Ps where
 re:List Dr
 lf:List Int
 cm:List Int
abbrev Ps.row(x:Ps):List V:=[.slice none 7 (x.re.map Dr.row),ints x.lf,ints x.cm]
abbrev ps(x:Ps):V:=.agg x.row
noncomputable def nz(c:Cs)(f:Fl)(p:Sp):Fl:=⟨f.t+1,(b8 c p f c.r.n.toNat).d,(b8 c p f c.r.n.toNat).w⟩
noncomputable def jO(c:Cs)(f:Fl)(p:Sp):Ps:=⟨(b8 c p f c.r.n.toNat).re,(b8 c p f c.r.n.toNat).lf,(b8 c p f c.r.n.toNat).cm⟩
abbrev paX(e:Int):V:=.tuple [.agg [i64 0,.slice (some 0) 4 [],.slice (some 0) 1 []],.agg [.slice (some 0) 7 [],.slice (some 0) 1 [],.slice (some 0) 1 []],i64 e]
noncomputable def ya(c:Cs)(f:Fl)(p:Sp)(e:Int):V:=if e=0 then .tuple [fl (nz c f p),ps (jO c f p),i64 0] else paX e
theorem ai1{l:List Int}:(l.any fun x => !decide (0≤x∧x≤1073741824)) = !decide (eP l 1073741824):=by
 by_cases h:eP l 1073741824
 ·rw[decide_eq_true h]
  refine List.any_eq_false.2 fun x hx=>?_;obtain⟨i,hi,rfl⟩:=List.mem_iff_getElem.1 hx;have:=h i hi;rw[show nth l i=l[i] by simp[nth,hi]]at this
  simp;exact this
 ·rw[decide_eq_false h]
  cases hb:l.any fun x => !decide (0≤x∧x≤1073741824) with
  |true=>rfl
  |false =>
   refine absurd (fun i hi=>?_) h;have:=List.any_eq_false.1 hb (nth l i) (pR hi);simpa using this
theorem vc0{c:Cs}{f:Fl}{p:Sp}(hc:e7 c=0)(hf:fG c f)(hp:mw c p)(ha:eP (p.a++p.b++p.c) 1073741824):Vc c p (b8 c p f 0) 0:=by
 refine⟨hc,hp,hp.1,fun j hj=>?_,hf.2.1,hf.2.2,by simp[b8],by simp[b8],by simp[b8]⟩
 have hj:j<p.a.length:=hj;have:=ha j (by simp;omega)
 rw[nP (by simp;omega),nP hj]at this
 show 0≤nth p.a j∧nth p.a j≤_;omega
theorem vcs{c:Cs}{f:Fl}{p:Sp}(hc:e7 c=0)(hf:fG c f)(hp:mw c p)(ha:eP (p.a++p.b++p.c) 1073741824):∀{k:Nat},(∀j,j<k→vE c p (b8 c p f j) j=0)→Vc c p (b8 c p f k) k
 |0,_=>vc0 hc hf hp ha
 |k+1,h=>(vcs hc hf hp ha fun j hj=>h j (by omega)).next (h k (by omega))
end Go.Proofs.YtmpikpodpgnjhaaGreat
namespace Go.Proofs.YtmpikpodpgnjhaaGreat
set_option linter.all false
open Go.Vm
attribute [local simp] mc me ma mb
theorem No{c:Cs}{l:List (List Int)}(hk:iz c.r=0)(h:xW c l):M7 l:=by
 have hl:=(jE hk).len;refine⟨by have:=h.1;omega,fun i hi=>?_⟩
 have py:i<c.r.l.length:=by have:=h.1;omega
 have:=(h.2 i py).2.1;have:=(pU (h.2 i py).1).len;omega
theorem ai3{id t:Nat}{l:List Int}(hl:l≠[]):iD id 0 (.slice (some t) 1 (l.map fun n=>[V.int .i64 n]))=some (.bO id 1 l.length,some (dv l)):=by
 have h:=Kp (id:=id) (t:=t) (l:=l) (vs:=[]) rfl hl;simp[iD,h]
theorem ai4{p:List Int}:(dv p).all V.sc=true:=by simp[dv,V.sc]
set_option maxRecDepth 100000 in
set_option maxHeartbeats 2000000 in
theorem W4{c:Cs}(hr:mO c.r)(hc:e7 c=0){f:Fl}(hf:fG c f)(p:Sp):∃G',a8 F 55 [cs c,fl f,sv p] []=some (ya c f p (gD c f p),G'):=by
 suffices h:∀Q:V→Prop,Q (ya c f p (gD c f p))→gY (a8 F) 55 [cs c,fl f,sv p] [] fun v _=>Q v by
  obtain⟨_,G',h,rfl⟩:=h (fun v=>v=ya c f p (gD c f p)) rfl;exact⟨G',h⟩
 intro Q hQ;refine iu rfl rfl ?_;have cv:=kb hc;have kv:=jE cv.k;have vn:=aiH c p;by_cases h1:mw c p
 case neg =>
  rw[show gD c f p=3 by unfold gD;rw[if_neg h1]]at hQ
  simp (disch:=omega) [wrap64,C9,vn,h1];exact hQ
 have om:p.a.length≤12:=by have:=h1.1;have:=cv.n;omega
 have um:p.b.length≤6:=by have:=h1.2.1;have:=cv.s;omega
 have c9:p.c.length≤6:=by have:=h1.2.2;have:=cv.s;omega
 have h2:=aiG p.a p.b p.c (by omega)
 have h3:=Wi (p.a++p.b++p.c) (by simp;omega) (fun x => !decide (0≤x∧x≤1073741824)) 112 [] (fun n=>aiF n [])
 rw[ai1]at h3;by_cases h4:eP (p.a++p.b++p.c) 1073741824
 case neg =>
  rw[show gD c f p=1 by unfold gD;rw[if_pos h1,if_neg h4]]at hQ
  rw[decide_eq_false h4]at h3;generalize p.a++p.b++p.c=L at h2 h3;simp (disch:=omega) [wrap64,C9,vn,h1,h2,h3];exact hQ
 rw[decide_eq_true h4]at h3;have e4:=h4;generalize p.a++p.b++p.c=L at h2 h3;by_cases h5:f.t=16777216
 ·rw[show gD c f p=6 by unfold gD;rw[if_pos h1,if_pos e4,if_pos h5]]at hQ
  simp (disch:=omega) [wrap64,C9,vn,h1,h2,h3,h5];exact hQ
 have h6:gD c f p=dK (fun k=>vE c p (b8 c p f k) k) c.r.n.toNat 0:=by unfold gD;rw[if_pos h1,if_pos e4,if_neg h5]
 have h7:=M8 f.d (Ej hc hf.2.1) [];have h8:=WR f.w (No cv.k hf.2.2) [.cells (iP f.d)];have h9:=WQ p.a (by omega)
 have ai5:=hf.1;have ai6:p.a≠[]:=fun g=>by have:=h1.1;rw[g]at this;have:=kv.n;simp at *;omega
 have HK:0<p.a.length:=by have:=h1.1;have:=kv.n;omega
 simp (disch:=omega) [wrap64,C9,vn,h1,h2,h3,h5,h7,h8,h9,ai3 ai6,ai4,HK];have EW:=kv.n;refine go_loop (fun x:Nat×List aP=>acI (.bB 3 0) c.r.n x.1 [z0,.bW,.bW] [.bW,.bW,.bW] (Gc c p (f.t+1) (b8 c p f x.1) x.2))
  (fun x=>x.1≤c.r.n.toNat∧(∀j,j<x.1→vE c p (b8 c p f j) j=0)∧dK (fun k=>vE c p (b8 c p f k) k) (c.r.n.toNat-x.1) x.1=gD c f p) (fun x=>c.r.n.toNat-x.1) (0,[]) rfl (by simp[b8]) ⟨by omega,by simp,h6.symm⟩ ?_
 rintro⟨k,J⟩ ⟨hk,hz,hq⟩;simp only at hk hz hq;have BJ:=vcs hc hf h1 e4 hz;simp (disch:=omega) [wrap64,RN];refine bK (fun fx=>?_) (fun fx=>?_)
 ·have iy:k<c.r.n.toNat:=by omega
  have Nk:k<(b8 c p f k).arr.length:=by have:=BJ.xX;omega
  obtain⟨G',hv,hv2⟩:=aiT hr BJ Nk (f.t+1) J;rw[ld iy]at hq;by_cases xa:vE c p (b8 c p f k) k=0
  ·obtain rfl:=hv2 xa
   rw[if_pos xa]at hq;rw[xa]at hv;simp (disch:=omega) [wrap64,hv];refine bL (k+1,J++[.cells [i64 k]]) (by simp[b8]) ⟨by simp only;omega,fun j hj=>?_,hq⟩ (by simp only;omega)
   rcases Nat.lt_or_ge j k with g|g
   ·exact hz j g
   ·rwa [show j=k by simp only at hj;omega]
  ·rw[if_neg xa]at hq
   rw[←hq,ya,if_neg xa]at hQ;simp (disch:=omega) [wrap64,hv,xa];exact hQ
 ·obtain rfl:k=c.r.n.toNat:=by omega
  rw[mI]at hq;rw[←hq,ya,if_pos rfl]at hQ;simp (disch:=omega) [wrap64,wI,BD];exact hQ
abbrev W5(t:Option Nat)(e:Int):V:=.tuple [.agg [i64 0,.slice t 4 [],.slice t 1 []],.agg [.slice t 7 [],.slice t 1 [],.slice t 1 []],i64 e]
noncomputable def mQ(c:Cs)(f:Fl)(p:Sp):Int:=if jm c f≠0 then jm c f else gD c f p
noncomputable def tm(t:Option Nat)(c:Cs)(f:Fl)(p:Sp):V:=if mQ c f p=0 then .tuple [fl (nz c f p),ps (jO c f p),i64 0] else W5 t (mQ c f p)
theorem xA{c:Cs}{f:Fl}(h:jm c f=0):e7 c=0∧fG c f:=by
 unfold jm at h;split at h
 ·rename_i h1;exact absurd h h1
 ·rename_i h1
  split at h
  ·exact⟨Decidable.of_not_not h1,by assumption⟩
  ·cases h
theorem W6{c:Cs}(hr:mO c.r){f:Fl}(hf:rA f)(p:Sp):∃t G',a8 F 17 [cs c,fl f,sv p] []=some (tm t c f p,G'):=by
 have hd:=M3 c hr f hf;by_cases hz:jm c f=0
 ·obtain⟨h1,h2⟩:=xA hz
  obtain⟨Ga,hp⟩:=W4 hr h1 h2 p;have e:mQ c f p=gD c f p:=by unfold mQ;rw[if_neg (by omega)]
  refine⟨none,[],?_⟩;unfold tm;rw[e];unfold ya at hp;by_cases h3:gD c f p=0
  ·rw[if_pos h3]at hp ⊢
   refine bV rfl rfl ?_;simp[wrap64,F6,hd,hz,hp]
  ·rw[if_neg h3]at hp ⊢
   refine bV rfl rfl ?_;simp[wrap64,F6,hd,hz,hp]
 ·have e:mQ c f p=jm c f:=by unfold mQ;rw[if_pos hz]
  refine⟨some 0,[],?_⟩;unfold tm;rw[e,if_neg hz];refine bV rfl rfl ?_;simp[wrap64,F6,hd,hz]
def wO(g:Nat→Int)(n:Nat)(m:Nat)(k:Int):Prop:=m≤n∧(∀j,j<m→g j<k)∧∀j,m≤j→j<n→k≤g j
theorem uw{g:Nat→Int}{n m i:Nat}{k:Int}(h:wO g n m k)(G5:∀j,0<j→j<n→g (j-1)<g j)(hi:i<n)(hg:g i=k):i=m∧wO g n (m+1) (k+1):=by
 have W7:∀a d,a+d+1<n→g a<g (a+d+1):=fun a d=>by
  induction d with
  |zero=>intro hd;have:=G5 (a+0+1) (by omega) hd;simpa using this
  |succ d ih =>
   intro hd;have h1:=ih (by omega)
   have h2:=G5 (a+(d+1)+1) (by omega) hd
   rw[show a+(d+1)+1-1=a+d+1 by omega]at h2
   omega
 have hmi:m≤i:=by
  rcases Nat.lt_or_ge i m with g1|g1
  ·have:=h.2.1 i g1;omega
  ·exact g1
 have him:i=m:=by
  rcases Nat.lt_or_ge m i with g1|g1
  ·have h1:=W7 m (i-m-1) (by omega)
   rw[show m+(i-m-1)+1=i by omega]at h1
   have:=h.2.2 m (Nat.le_refl _) (by omega)
   omega
  ·omega
 subst him;refine⟨rfl,by omega,fun j hj=>?_,fun j hj hn=>?_⟩
 ·rcases Nat.lt_or_ge j i with g1|g1
  ·have:=h.2.1 j g1;omega
  ·rw[show j=i by omega];omega
 ·have h1:=W7 i (j-i-1) (by omega)
  rw[show i+(j-i-1)+1=j by omega]at h1
  omega
theorem W8{g:Nat→Int}{n m:Nat}{k:Int}(h:wO g n m k)(hg:∀i,i<n→g i≠k):wO g n m (k+1) :=
 ⟨h.1,fun j hj=>by have:=h.2.1 j hj;omega,fun j hj hn=>by have:=h.2.2 j hj hn;have:=hg j hn;omega⟩
theorem W9{g:Nat→Int}{n:Nat}(h:∀j,j<n→0≤g j):wO g n 0 0:=⟨by omega,by omega,fun j _ hj=>h j hj⟩
theorem Xa{g:Nat→Int}{n m:Nat}{k:Int}(h:wO g n m k)(hk:∀j,j<n→g j<k):m=n:=by
 have h1:=h.1;rcases Nat.lt_or_ge m n with g1|g1
 ·have:=h.2.2 m (Nat.le_refl _) g1
  have:=hk m g1;omega
 ·omega
abbrev kd(c:Cs):Nat→Int:=fun i=>(nth c.s i).n
abbrev jP(c:Cs):Nat→Int:=fun i=>(nth c.r.l i).f
theorem pX{c:Cs}(h:ur c){i:Nat}(hi:i<c.s.length):(0≤kd c i∧kd c i<c.r.n)∧(0<i→kd c (i-1)<kd c i)∧eZ (nth c.s i).d=0:=by
 have he:=h.site i hi;unfold wH at he;simp only at he;split at he
 ·split at he
  ·cases he
  ·rename_i h1 h2
   refine⟨h1,fun h0=>?_,he⟩;show(nth c.s (i-1)).n<(nth c.s i).n;omega
 ·cases he
structure Vo(c:Cs)(v:Co)(k:Nat):Prop where
 s:wO (kd c) c.s.length v.re.length k
 l:wO (jP c) c.r.l.length v.cm.length k
theorem HL{c:Cs}{k:Nat}(h:jn c.s k=none):∀i,i<c.s.length→kd c i≠k:=fun i hi=>by
 have:=Nb h i (by omega) (by omega)
 simpa using this
theorem ux{c:Cs}{k i:Nat}(h:jn c.s k=some i):i<c.s.length∧kd c i=k:=by
 have:=wJ h;exact⟨by omega,by simpa using this.2.1⟩
theorem Xb{c:Cs}{k:Nat}(h:iA c.r.l k=none):∀i,i<c.r.l.length→jP c i≠k:=fun i hi=>by
 have:=Nb h i (by omega) (by omega)
 simpa using this
theorem yb{c:Cs}{k i:Nat}(h:iA c.r.l k=some i):i<c.r.l.length∧jP c i=k:=by
 have:=wJ h;exact⟨by omega,by simpa using this.2.1⟩
theorem vo0{c:Cs}(h:ur c)(p:Sp)(f:Fl):Vo c (b8 c p f 0) 0 :=
 ⟨W9 fun j hj=>(pX h hj).1.1,W9 fun j hj=>((jE h.k).link hj).1.1⟩
theorem Vo.next{c:Cs}(hc:ur c){p:Sp}{v:Co}{k:Nat}(h:Vo c v k):Vo c (vS c p v k) (k+1):=by
 obtain⟨s1,s2,s3,s4⟩:=El (c:=c) (p:=p) (v:=v) (k:=k);have hs:wO (kd c) c.s.length (vD c p v k).re.length (k+1:Int):=by
  unfold vD;cases hs:jn c.s k with
  |none=>exact W8 h.s (HL hs)
  |some i =>
   obtain⟨a,b⟩:=ux hs;simp only[List.length_append,List.length_singleton];exact(uw h.s (fun j h0 hj=>(pX hc hj).2.1 h0) a b).2
 unfold vS vL;cases hl:iA c.r.l k with
 |none =>
  refine⟨hs,?_⟩;rw[s3];exact W8 h.l (Xb hl)
 |some j =>
  obtain⟨a,b⟩:=yb hl;refine⟨hs,?_⟩;simp only[s3,List.length_append,List.length_singleton];exact(uw h.l (fun j h0 hj=>((jE hc.k).link hj).2.1 h0) a b).2
theorem yc{c:Cs}(hc:ur c)(p:Sp)(f:Fl):∀k,Vo c (b8 c p f k) k
 |0=>vo0 hc p f
 |k+1=>(yc hc p f k).next hc
theorem HM{c:Cs}(hc:ur c)(p:Sp)(f:Fl):(b8 c p f c.r.n.toNat).re.length=c.s.length∧(b8 c p f c.r.n.toNat).cm.length=c.r.l.length:=by
 have h:=yc hc p f c.r.n.toNat;have hn:=(jE hc.k).n;exact⟨Xa h.s fun j hj=>by have:=(pX hc hj).1;omega,Xa h.l fun j hj=>by have:=((jE hc.k).link hj).1;show(nth c.r.l j).f<_;omega⟩
end Go.Proofs.YtmpikpodpgnjhaaGreat
namespace Go.Proofs.YtmpikpodpgnjhaaGreat
set_option linter.all false
open Go.Vm
def pad{α:Type}(d:α)(l:List α)(n:Nat):List α:=l++List.replicate (n-l.length) d
theorem HN{α:Type}{d:α}{l:List α}{n:Nat}(h:l.length≤n):(pad d l n).length=n:=by simp[pad];omega
theorem Np{α:Type}{d:α}{l:List α}{n:Nat}(h:l.length=n):pad d l n=l:=by simp[pad,h]
theorem Nq{α:Type}{d x:α}{l:List α}{n i:Nat}(hi:i=l.length)(h:l.length<n):(pad d l n).set i x=pad d (l++[x]) n:=by
 subst hi;unfold pad;obtain⟨m,hm⟩:∃m,n-l.length=m+1:=⟨n-l.length-1,by omega⟩
 rw[hm,List.replicate_succ,List.set_append_right _ _ (Nat.le_refl _),Nat.sub_self,List.set_cons_zero,List.length_append,List.length_singleton,show n-(l.length+1)=m by omega,List.append_assoc,List.singleton_append]
def yd:Dr:=⟨0,0,0,0,0,0,0⟩
def tn(l:List Dr):List V:=(l.map Dr.row).flatten
@[simp] theorem apr{l:List Dr}:(tn l).length=l.length*7:=Hz (row:=Dr.row) (fun _=>rfl) l
@[simp] theorem aps{l:List Dr}{d:Nat}:((tn l).all fun v => !V.cj d v)=true:=HD (row:=Dr.row) (fun a=>by simp) l
theorem aja{n:Nat}:(List.replicate n [V.int .i64 0,V.int .i64 0,V.int .i64 0,V.int .i64 0,V.int .i64 0,V.int .i64 0,V.int .i64 0]).flatten=tn (pad yd [] n):=by
 simp[tn,pad,List.map_replicate,yd]
theorem ajb{l:List Dr}{n:Nat}(h:n=l.length):kV [none,none,none,none,none,none,none] (chunks 7 (tn l) 0 n)=some (l.map Dr.row):=by
 subst h;rw[HB (row:=Dr.row) (fun _=>rfl) rfl];exact HC (fun a=>by simp) l
theorem ajc{n:Nat}:List.replicate n z0=dv (pad 0 [] n):=by simp[pad,dv]
theorem Xc{c:Cs}{u:Co}{x:Int}{k:Nat}:(vL c u x k).re=u.re∧(vL c u x k).lf=u.lf∧(vL c u x k).d=u.d:=by
 unfold vL;cases iA c.r.l k<;>exact⟨rfl,rfl,rfl⟩
theorem Xd{c:Cs}{u v:Co}{x:Int}{k:Nat}(h1:u.arr=v.arr)(h2:u.w=v.w)(h3:u.cm=v.cm):(vL c u x k).arr=(vL c v x k).arr∧(vL c u x k).w=(vL c v x k).w∧(vL c u x k).cm=(vL c v x k).cm:=by
 unfold vL;cases iA c.r.l k
 ·exact⟨h1,h2,h3⟩
 ·simp only[h1,h2,h3,and_self]
theorem ajd{l:List Int}{m:Int}:eP l m↔∀x∈l,0≤x∧x≤m:=by
 refine⟨fun h x hx=>?_,fun h i hi=>h _ (pR hi)⟩;obtain⟨i,hi,rfl⟩:=List.mem_iff_getElem.1 hx;have:=h i hi
 rwa [show nth l i=l[i] by simp[nth,hi]]at this
theorem ye{a b:List Int}{m:Int}:eP (a++b) m↔eP a m∧eP b m:=by
 simp only[ajd,List.mem_append];exact⟨fun h=>⟨fun x hx=>h x (.inl hx),fun x hx=>h x (.inr hx)⟩,fun h x hx=>hx.elim (h.1 x) (h.2 x)⟩
theorem aje{l:List Dr}{i:Nat}(h:i<l.length)(x:Dr):iC (tn l) (i*7) x.row=tn (l.set i x):=HA (row:=Dr.row) (fun _=>rfl) h
structure Vf(f:Fl)(v:Co):Prop where
 d:v.d.length=f.d.length∧∀i,v.re.length≤i→nth v.d i=nth f.d i
 w:v.w.length=f.w.length∧∀i,v.cm.length≤i→nth v.w i=nth f.w i
theorem Vf.next{c:Cs}(hc:ur c){p:Sp}{f:Fl}{v:Co}{k:Nat}(h:Vf f v)(ho:Vo c v k):Vf f (vS c p v k):=by
 obtain⟨s1,s2,s3,s4⟩:=El (c:=c) (p:=p) (v:=v) (k:=k);have hd:(vD c p v k).d.length=f.d.length∧∀i,(vD c p v k).re.length≤i→nth (vD c p v k).d i=nth f.d i:=by
  unfold vD;cases hs:jn c.s k with
  |none=>exact h.d
  |some i =>
   obtain⟨a,b⟩:=ux hs;have e:=(uw ho.s (fun j h0 hj=>(pX hc hj).2.1 h0) a b).1;refine⟨by simp only[List.length_set];exact h.d.1,fun j hj=>?_⟩
   simp only[List.length_append,List.length_singleton]at hj;show nth (v.d.set i _) j=nth f.d j;rcases Nat.lt_or_ge i v.d.length with g|g
   ·rw[qH g,if_neg (by omega)]
    exact h.d.2 j (by omega)
   ·rw[List.set_eq_of_length_le g]
    exact h.d.2 j (by omega)
 unfold vS vL;cases hl:iA c.r.l k with
 |none=>exact⟨hd,by rw[s2,s3];exact h.w⟩
 |some j =>
  obtain⟨a,b⟩:=yb hl;have e:=(uw ho.l (fun j h0 hj=>((jE hc.k).link hj).2.1 h0) a b).1;refine⟨hd,?_⟩;simp only[s2,s3];refine⟨by simp only[List.length_set];exact h.w.1,fun i hi=>?_⟩
  simp only[List.length_append,List.length_singleton]at hi;rcases Nat.lt_or_ge j v.w.length with g|g
  ·rw[qH g,if_neg (by omega)]
   exact h.w.2 i (by omega)
  ·rw[List.set_eq_of_length_le g]
   exact h.w.2 i (by omega)
theorem HP{c:Cs}(hc:ur c)(p:Sp)(f:Fl):∀k,Vf f (b8 c p f k)
 |0=>⟨⟨rfl,fun _ _=>rfl⟩,⟨rfl,fun _ _=>rfl⟩⟩
 |k+1=>(HP hc p f k).next hc (yc hc p f k)
theorem Xe{c:Cs}{k i:Nat}(h:∀j,j<i→kd c j≠k)(hi:i<c.s.length)(hk:kd c i=k):jn c.s k=some i:=by
 cases hs:jn c.s k with
 |none=>exact absurd hk (HL hs i hi)
 |some j =>
  have h1:=wJ hs;obtain⟨a,b⟩:=ux hs;rcases Nat.lt_trichotomy j i with g|g|g
  ·exact absurd b (h j g)
  ·rw[g]
  ·have:=h1.2.2 i (by omega) g
   have hk:(nth c.s i).n=k:=hk;simp[hk]at this
theorem Xf{c:Cs}{k i:Nat}(h:∀j,j<i→jP c j≠k)(hi:i<c.r.l.length)(hk:jP c i=k):iA c.r.l k=some i:=by
 cases hs:iA c.r.l k with
 |none=>exact absurd hk (Xb hs i hi)
 |some j =>
  have h1:=wJ hs;obtain⟨a,b⟩:=yb hs;rcases Nat.lt_trichotomy j i with g|g|g
  ·exact absurd b (h j g)
  ·rw[g]
  ·have:=h1.2.2 i (by omega) g
   have hk:(nth c.r.l i).f=k:=hk;simp[hk]at this
theorem Xg{c:Cs}{k:Nat}(h:∀j,j<c.s.length→kd c j≠k):jn c.s k=none:=by
 cases hs:jn c.s k with
 |none=>rfl
 |some j=>exact absurd (ux hs).2 (h j (ux hs).1)
theorem Xh{c:Cs}{k:Nat}(h:∀j,j<c.r.l.length→jP c j≠k):iA c.r.l k=none:=by
 cases hs:iA c.r.l k with
 |none=>rfl
 |some j=>exact absurd (yb hs).2 (h j (yb hs).1)
end Go.Proofs.YtmpikpodpgnjhaaGreat
namespace Go.Proofs.YtmpikpodpgnjhaaGreat
set_option linter.all false
open Go.Vm
attribute [local simp] mc me ma mb
set_option maxRecDepth 100000 in
set_option maxHeartbeats 8000000 in
theorem ajf{c:Cs}(hr:mO c.r){f:Fl}(hf:rA f){p:Sp}(kq:p.a.length≤1000∧p.b.length≤1000∧p.c.length≤1000):∃G',a8 F 42 [cs c,fl f,sv p] []=some (tm (some 0) c f p,G'):=by
 suffices h:∀Q:V→Prop,Q (tm (some 0) c f p)→gY (a8 F) 42 [cs c,fl f,sv p] [] fun v _=>Q v by
  obtain⟨_,G',h,rfl⟩:=h (fun v=>v=tm (some 0) c f p) rfl;exact⟨G',h⟩
 intro Q hQ;refine iu rfl rfl ?_;have hc:=M1 c hr;have hv:=WI c hr f hf;have err:∀e,mQ c f p=e→e≠0→Q (W5 (some 0) e):=fun e h he=>by
  unfold tm at hQ
  rwa [h,if_neg he]at hQ
 by_cases hz:e7 c=0
 case neg =>
  simp (disch:=omega) [-getElem?_pos,wrap64,u6,hc,hz];exact err _ (by unfold mQ jm;rw[if_pos hz,if_pos hz]) hz
 by_cases jd:fG c f
 case neg =>
  have h0:decide (e7 c=0∧fG c f)=false:=decide_eq_false fun g=>jd g.2;rw[h0]at hv;simp (disch:=omega) [-getElem?_pos,wrap64,u6,hc,hz,hv];have Xi:jm c f=50:=by unfold jm;rw[if_neg (by omega),if_neg jd]
  exact err 50 (by unfold mQ;rw[Xi];rfl) (by decide)
 have Xi:jm c f=0:=by unfold jm;rw[if_neg (by omega),if_pos jd]
 have eT:mQ c f p=gD c f p:=by unfold mQ;rw[if_neg (by omega)]
 rw[eT]at err;rw[decide_eq_true ⟨hz,jd⟩]at hv;have cv:=kb hz;have kv:=jE cv.k;have iy:=kv.n;by_cases h1:(p.a.length:Int)=c.r.n
 case neg =>
  simp (disch:=omega) [-getElem?_pos,wrap64,u6,hc,hz,hv,h1];exact err 3 (by unfold gD;rw[if_neg fun g=>h1 g.1]) (by decide)
 by_cases h2:p.b.length=c.s.length
 case neg =>
  have lq:¬ (p.b.length:Int)=c.s.length:=by omega
  simp (disch:=omega) [-getElem?_pos,wrap64,u6,hc,hz,hv,h1,lq];exact err 3 (by unfold gD;rw[if_neg fun g=>h2 g.2.1]) (by decide)
 have lq:(p.b.length:Int)=c.s.length:=by omega
 by_cases h3:p.c.length=c.s.length
 case neg =>
  have iZ:¬ (p.c.length:Int)=c.s.length:=by omega
  simp (disch:=omega) [-getElem?_pos,wrap64,u6,hc,hz,hv,h1,lq,iZ];exact err 3 (by unfold gD;rw[if_neg fun g=>h3 g.2.2]) (by decide)
 have iZ:(p.c.length:Int)=c.s.length:=by omega
 have gx:mw c p:=⟨h1,h2,h3⟩;have ha:=Nc p.a kq.1 1073741824;have hb:=Nc p.b kq.2.1 1073741824;have uY:=Nc p.c kq.2.2 1073741824;have app:eP (p.a++p.b++p.c) 1073741824↔eP p.a 1073741824∧eP p.b 1073741824∧eP p.c 1073741824:=by
  rw[ye,ye,and_assoc]
 by_cases g1:eP p.a 1073741824
 case neg =>
  simp (disch:=omega) [-getElem?_pos,wrap64,u6,hc,hz,hv,h1,lq,iZ,ha,g1];exact err 1 (by unfold gD;rw[if_pos gx,if_neg fun g=>g1 (app.1 g).1]) (by decide)
 by_cases g2:eP p.b 1073741824
 case neg =>
  simp (disch:=omega) [-getElem?_pos,wrap64,u6,hc,hz,hv,h1,lq,iZ,ha,g1,hb,g2];exact err 1 (by unfold gD;rw[if_pos gx,if_neg fun g=>g2 (app.1 g).2.1]) (by decide)
 by_cases g3:eP p.c 1073741824
 case neg =>
  simp (disch:=omega) [-getElem?_pos,wrap64,u6,hc,hz,hv,h1,lq,iZ,ha,g1,hb,g2,uY,g3];exact err 1 (by unfold gD;rw[if_pos gx,if_neg fun g=>g3 (app.1 g).2.2]) (by decide)
 have vV:=app.2 ⟨g1,g2,g3⟩;have hcy:=aiC f (Ej hz jd.2.1) (No cv.k jd.2.2);have ai5:=jd.1;have ET:=cv.s;have jV:=kv.len;have HK:0<p.a.length:=by omega
 have yV:f.d.length=c.s.length:=jd.2.1.1;have Nr:f.w.length=c.r.l.length:=jd.2.2.1;simp (disch:=omega) [-getElem?_pos,wrap64,u6,hc,hz,hv,h1,lq,iZ,ha,g1,hb,g2,uY,g3];refine bK (fun g4=>?_) (fun g4=>?_)
 ·exact err 6 (by unfold gD;rw[if_pos gx,if_pos vV,if_pos g4]) (by decide)
 have hE:gD c f p=dK (fun k=>vE c p (b8 c p f k) k) c.r.n.toNat 0:=by unfold gD;rw[if_pos gx,if_pos vV,if_neg g4]
 have AW:p.a.isEmpty=false:=by
  cases hp:p.a with
  |nil=>rw[hp]at HK;simp at HK
  |cons a l=>rfl
 simp (disch:=omega) [-getElem?_pos,wrap64,hcy,aja,AW];refine go_loop (fun k:Nat=>acC p.a.length k c.row f.row p.row [i64 0,.bW,.bW] [.bW,.bW,.bW] [i64 (f.t+1),.df 0 4 f.d.length,.df 1 1 f.w.length]
   [.bO 100 7 c.s.length,.bO 104 1 c.r.n.toNat,.bO 109 1 c.r.l.length] (tn (pad yd (b8 c p f k).re c.s.length)) (dv (pad 0 (b8 c p f k).lf c.r.n.toNat)) (dv (pad 0 (b8 c p f k).cm c.r.l.length)) (dv (b8 c p f k).arr)
   [.cells (iP (b8 c p f k).d),.cells (kc (b8 c p f k).w)])
  (fun k=>k≤c.r.n.toNat∧(∀j,j<k→vE c p (b8 c p f j) j=0)∧dK (fun k=>vE c p (b8 c p f k) k) (c.r.n.toNat-k) k=gD c f p) (fun k=>c.r.n.toNat-k) 0 rfl (by simp[b8,ajc]) ⟨by omega,by omega,hE.symm⟩ ?_
 rintro k ⟨hk,Xj,hq⟩;have BJ:=vcs hz jd gx vV Xj;have vQ:=yc cv p f k;have FD:=HP cv p f k;have A2:=FD.d;have hww:=FD.w;have apt:=BJ.xX;have aji:=BJ.ll;have AT:=vQ.s.1;have ajj:=vQ.l.1;have ecv:b8 c p f (k+1)=vS c p (b8 c p f k) k:=rfl;simp (disch:=omega) [-getElem?_pos,wrap64,RJ];refine bK (fun fx=>?_) (fun fx=>?_)
 ·have ajl:k<c.r.n.toNat:=by omega
  rw[ld ajl]at hq;generalize hcv:b8 c p f k=v at *;have Nk:k<v.arr.length:=by omega
  simp (disch:=omega) [-getElem?_pos,wrap64,jI];obtain⟨s1,s2,s3,s4⟩:=El (c:=c) (p:=p) (v:=v) (k:=k);refine go_loop (fun y:Nat×Co×Int=>acr p.a.length k y.2.2 (uq c.s) c.s.length y.1 c.row f.row p.row [i64 0,.bW,.bW] [.bW,.bW,.bW] [i64 (f.t+1),.df 0 4 f.d.length,.df 1 1 f.w.length]
    [.bO 100 7 c.s.length,.bO 104 1 c.r.n.toNat,.bO 109 1 c.r.l.length] (tn (pad yd y.2.1.re c.s.length)) (dv (pad 0 v.lf c.r.n.toNat)) (dv (pad 0 v.cm c.r.l.length)) (dv v.arr) [.cells (iP y.2.1.d),.cells (kc v.w)])
   (fun y=>y.1≤c.s.length∧((y.2.1=v∧y.2.2=nth v.arr k∧∀j,j<y.1→kd c j≠k)∨(y.2.1=vD c p v k∧y.2.2=eM c p v k∧kT c p v k=0∧∃j,j<y.1∧jn c.s k=some j)))
   (fun y=>c.s.length-y.1) (0,v,nth v.arr k) rfl (by simp) ⟨by simp,.inl ⟨rfl,rfl,by simp⟩⟩ ?_
  rintro⟨i,u,x⟩ ⟨hi,hu⟩;simp only at hi hu;have ajn:(pad yd v.re c.s.length).length=c.s.length:=HN AT;simp (disch:=omega) [-getElem?_pos,wrap64,RH];refine bK (fun h5=>?_) (fun h5=>?_)
  ·have h5:i<c.s.length:=by omega
   have h6:i<f.d.length:=by omega
   have h7:i<p.b.length:=by omega
   have h8:i<p.c.length:=by omega
   simp (disch:=omega) [-getElem?_pos,wrap64,bb (l:=c.s)];refine bK (fun h9=>?_) (fun h9=>?_)
   ·have hs:jn c.s k=some i∧u=v∧x=nth v.arr k∧i=v.re.length:=by
     have e:=(uw vQ.s (fun j h0 hj=>(pX cv hj).2.1 h0) h5 h9).1;rcases hu with⟨a,b,d⟩ | ⟨_,_,_,j,hj,hs⟩
     ·exact⟨Xe d h5 h9,a,b,e⟩
     ·have:=(uw vQ.s (fun j h0 hj=>(pX cv hj).2.1 h0) (ux hs).1 (ux hs).2).1
      omega
    obtain⟨hs,rfl,rfl,tl⟩:=hs;have HQ:nth u.d i=nth f.d i:=A2.2 i (by omega)
    obtain⟨Ga,hS⟩:=aic (nth c.s i).d (nth f.d i) (nth u.arr k) (nth p.b i) (nth p.c i);by_cases he:mq (nth c.s i).d (nth f.d i) (nth u.arr k) (nth p.b i) (nth p.c i)=0
    ·have Nm:=(HI he).1
     have e0:kT c p u k=0:=by simp only[kT,hs,HQ,he]
     have e1:eM c p u k=my (vR c p u k i):=by simp only[eM,hs]
     have e2:vD c p u k={ u with d:=u.d.set i (jM (nth c.s i).d (nth f.d i) (nth u.arr k) (nth p.b i) (nth p.c i)),re:=u.re++[vR c p u k i],lf:=u.lf++[eM c p u k] }:=by rw[vD,hs,← HQ]
     have e3:vR c p u k i=gU (nth c.s i).d (nth f.d i) (nth u.arr k) (nth p.b i) (nth p.c i):=by rw[vR,HQ]
     rw[qG,if_pos he]at hS;rw[e3]at e1 e2;rw[e1]at e2;generalize jM (nth c.s i).d (nth f.d i) (nth u.arr k) (nth p.b i) (nth p.c i)=S' at hS e2;generalize gU (nth c.s i).d (nth f.d i) (nth u.arr k) (nth p.b i) (nth p.c i)=R' at hS Nm e1 e2;have hF:=aim R' (by omega) (by omega) (by omega)
     rw[show R'.tur+R'.spi+R'.ovr=my R' from rfl]at hF;have l7:i<u.d.length:=by omega
     have fA:((((iP u.d).set (i*4) (i64 S'.v)).set (i*4+1) (i64 S'.rel)).set (i*4+1+1) (jg S'.u)).set (i*4+1+1+1) (j8 S'.g)=iP (u.d.set i S'):=WY l7 S';have hrt:(((((((tn (pad yd u.re c.s.length)).set (i*7) (i64 R'.inf)).set (i*7+1) (i64 R'.los)).set (i*7+1+1) (i64 R'.tur)).set (i*7+1+1+1) (i64 R'.spi)).set (i*7+1+1+1+1) (i64 R'.ovr)).set (i*7+1+1+1+1+1) (i64 R'.pow)).set (i*7+1+1+1+1+1+1) (i64 R'.lr)=tn (pad yd (u.re++[R']) c.s.length):=by
      rw[←Nq tl (by omega)]
      exact aje (by rw[HN (by omega)];exact h5) R'
     simp (disch:=omega) [-getElem?_pos,wrap64,bb (l:=f.d),dD (l:=p.b),dD (l:=p.c),jI,hS,hF,fA,hrt,ajn];refine bL (i+1,vD c p u k,eM c p u k) (by simp[e1,e2]) ⟨by simp only;omega,.inr ⟨rfl,rfl,e0,i,by simp only;omega,hs⟩⟩ (by simp only;omega)
    ·rw[qG,if_neg he]at hS
     have e0:vE c p u k=mq (nth c.s i).d (nth f.d i) (nth u.arr k) (nth p.b i) (nth p.c i):=by
      have:kT c p u k=mq (nth c.s i).d (nth f.d i) (nth u.arr k) (nth p.b i) (nth p.c i):=by simp only[kT,hs,HQ]
      rw[vE,this,if_pos he]
     rw[e0,if_neg he]at hq;simp (disch:=omega) [-getElem?_pos,wrap64,bb (l:=f.d),dD (l:=p.b),dD (l:=p.c),jI,hS,decide_eq_false he];exact err _ hq.symm he
   ·refine bL (i+1,u,x) (by simp) ⟨by simp only;omega,?_⟩ (by simp only;omega)
    rcases hu with⟨a,b,d⟩ | ⟨a,b,d,j,hj,hs⟩
    ·refine .inl ⟨a,b,fun j hj=>?_⟩
     rcases Nat.lt_or_ge j i with g|g
     ·exact d j g
     ·rw[show j=i by simp only at hj;omega];exact h9
    ·exact .inr ⟨a,b,d,j,by simp only;omega,hs⟩
  ·obtain rfl:i=c.s.length:=by omega
   have hD:u.re=(vD c p v k).re∧u.d=(vD c p v k).d∧x=eM c p v k∧kT c p v k=0:=by
    rcases hu with⟨rfl,rfl,d⟩ | ⟨rfl,b,d,_⟩
    ·have hn:=Xg d
     unfold vD eM kT;rw[hn];exact⟨rfl,rfl,rfl,rfl⟩
    ·exact⟨rfl,rfl,b,d⟩
   obtain⟨d1,d2,rfl,d3⟩:=hD;rw[d1,d2];generalize hx:eM c p v k=x at *;have ajp:(pad 0 v.lf c.r.n.toNat).length=c.r.n.toNat:=HN (by omega)
   have fA:(pad 0 v.lf c.r.n.toNat).set k x=pad 0 (vD c p v k).lf c.r.n.toNat:=by rw[Nq (by omega) (by omega),s4]
   simp (disch:=omega) [-getElem?_pos,wrap64,ajp,fA];have ajq:(pad 0 v.cm c.r.l.length).length=c.r.l.length:=HN ajj;refine go_loop (fun y:Nat×Co=>acx p.a.length k x (lS c.r.l) c.r.l.length y.1 c.row f.row p.row [i64 0,.bW,.bW] [.bW,.bW,.bW] [i64 (f.t+1),.df 0 4 f.d.length,.df 1 1 f.w.length]
     [.bO 100 7 c.s.length,.bO 104 1 c.r.n.toNat,.bO 109 1 c.r.l.length] (tn (pad yd (vD c p v k).re c.s.length)) (dv (pad 0 (vD c p v k).lf c.r.n.toNat)) (dv (pad 0 y.2.cm c.r.l.length)) (dv y.2.arr) [.cells (iP (vD c p v k).d),.cells (kc y.2.w)])
    (fun y=>y.1≤c.r.l.length∧((y.2=v∧∀j,j<y.1→jP c j≠k)∨(y.2=vL c v x k∧ny c v x k=0∧∃j,j<y.1∧iA c.r.l k=some j)))
    (fun y=>c.r.l.length-y.1) (0,v) rfl (by simp) ⟨by simp,.inl ⟨rfl,by simp⟩⟩ ?_
   rintro⟨i,u⟩ ⟨hi,hu⟩;simp only at hi hu;simp (disch:=omega) [-getElem?_pos,wrap64,RI];refine bK (fun h5=>?_) (fun h5=>?_)
   ·have h5:i<c.r.l.length:=by omega
    have h6:i<f.w.length:=by omega
    simp (disch:=omega) [-getElem?_pos,wrap64,bb (l:=c.r.l)];refine bK (fun h9=>?_) (fun h9=>?_)
    ·have hs:iA c.r.l k=some i∧u=v∧i=v.cm.length:=by
      have e:=(uw vQ.l (fun j h0 hj=>(kv.link hj).2.1 h0) h5 h9).1;rcases hu with⟨a,d⟩ | ⟨_,_,j,hj,hs⟩
      ·exact⟨Xf d h5 h9,a,e⟩
      ·have:=(uw vQ.l (fun j h0 hj=>(kv.link hj).2.1 h0) (yb hs).1 (yb hs).2).1
       omega
     obtain⟨hs,rfl,tl⟩:=hs;have Xk:nth u.w i=nth f.w i:=hww.2 i (by omega)
     have tW:=jd.2.2.2 i h5;obtain⟨tt,hR⟩:=aiw (nth c.r.l i).r (hr.2 i h5) (nth f.w i) (hf i) x;have br:=(kv.link h5).1;have Em:(nth c.r.l i).t.toNat<u.arr.length:=by omega
     have eL:ny c u x k=fL (nth c.r.l i).r (nth f.w i) x:=by unfold ny;rw[hs];simp only[Xk]
     have eE:vE c p u k=fL (nth c.r.l i).r (nth f.w i) x:=by
      rw[vE,d3,hx,eL];rfl
     rw[eE]at hq;by_cases he:fL (nth c.r.l i).r (nth f.w i) x=0
     ·have ho:=BH he
      have har:=BJ.arr (nth c.r.l i).t.toNat Em;rw[Eg he]at hR;have e2:vL c u x k={ u with w:=u.w.set i (jC (nth c.r.l i).r (nth f.w i) x),cm:=u.cm++[kK (nth c.r.l i).r (nth f.w i) x],arr:=u.arr.set (nth c.r.l i).t.toNat (nth u.arr (nth c.r.l i).t.toNat+kK (nth c.r.l i).r (nth f.w i) x) }:=by
       rw[vL,hs,← Xk]
      have fA:(pad 0 u.cm c.r.l.length).set i (kK (nth c.r.l i).r (nth f.w i) x)=pad 0 (u.cm++[kK (nth c.r.l i).r (nth f.w i) x]) c.r.l.length:=Nq tl (by omega)
      simp (disch:=omega) [-getElem?_pos,wrap64,bb (l:=f.w),hR,Nj,ajq,fA,jI];refine bL (i+1,vL c u x k) (by simp[e2]) ⟨by simp only;omega,.inr ⟨rfl,by rw[eL,he],i,by simp only;omega,hs⟩⟩ (by simp only;omega)
     ·rw[zL rfl he]at hR
      rw[if_neg he]at hq;simp (disch:=omega) [-getElem?_pos,wrap64,bb (l:=f.w),hR,decide_eq_false he];exact err _ hq.symm he
    ·refine bL (i+1,u) (by simp) ⟨by simp only;omega,?_⟩ (by simp only;omega)
     rcases hu with⟨a,d⟩ | ⟨a,d,j,hj,hs⟩
     ·refine .inl ⟨a,fun j hj=>?_⟩
      rcases Nat.lt_or_ge j i with g|g
      ·exact d j g
      ·rw[show j=i by simp only at hj;omega];exact h9
     ·exact .inr ⟨a,d,j,by simp only;omega,hs⟩
   ·obtain rfl:i=c.r.l.length:=by omega
    have hD:u=vL c v x k∧ny c v x k=0:=by
     rcases hu with⟨rfl,d⟩ | ⟨rfl,b,_⟩
     ·have hn:=Xh d
      unfold vL ny;rw[hn];exact⟨rfl,rfl⟩
     ·exact⟨rfl,b⟩
    obtain⟨rfl,d4⟩:=hD;have eE:vE c p v k=0:=by rw[vE,d3,hx,d4];rfl
    rw[if_pos eE]at hq;obtain⟨a1,a2,a3⟩:=Xd (c:=c) (u:=vD c p v k) (v:=v) (x:=x) (k:=k) s1 s2 s3;obtain⟨b1,b2,b3⟩:=Xc (c:=c) (u:=vD c p v k) (x:=x) (k:=k);have hvS:vS c p v k=vL c (vD c p v k) x k:=by rw[vS,hx]
    refine bL (k+1) (by simp[ecv,hvS,a1,a2,a3,b1,b2,b3]) ⟨by omega,fun j hj=>?_,hq⟩ (by omega)
    rcases Nat.lt_or_ge j k with g|g
    ·exact Xj j g
    ·rw[show j=k by omega,hcv];exact eE
 ·obtain rfl:k=c.r.n.toNat:=by omega
  rw[mI]at hq;have sw:=HM cv p f;have w1:((b8 c p f c.r.n.toNat).re.length:Int)=c.s.length:=by omega
  rw[Np sw.1,Np aji,Np sw.2];simp (disch:=omega) [-getElem?_pos,wrap64,wI,BD,ajb,JZ];rw[←hq]at eT;unfold tm at hQ;rw[eT,if_pos rfl]at hQ;exact hQ
end Go.Proofs.YtmpikpodpgnjhaaGreat
namespace Go.Proofs.YtmpikpodpgnjhaaGreat
set_option linter.all false
open Go.Vm
structure Pa(c:Cs)(f:Fl)(p:Sp):Prop where
 c0:e7 c=0
 f0:fG c f
 p0:mw c p
 all:eP (p.a++p.b++p.c) 1073741824
 t:f.t≠16777216
 v:∀k,k<c.r.n.toNat→vE c p (b8 c p f k) k=0
theorem HR{c:Cs}{f:Fl}{p:Sp}(h:mQ c f p=0):Pa c f p:=by
 unfold mQ at h;split at h
 ·rename_i h1;exact absurd h h1
 ·rename_i h1
  obtain⟨h2,h3⟩:=xA (Decidable.of_not_not h1);unfold gD at h;split at h
  ·split at h
   ·split at h
    ·cases h
    ·exact⟨h2,h3,by assumption,by assumption,by assumption,fun k hk=>rm h k (by omega) (by omega)⟩
   ·cases h
  ·cases h
theorem Pa.vc{c:Cs}{f:Fl}{p:Sp}(h:Pa c f p){k:Nat}(hk:k≤c.r.n.toNat):Vc c p (b8 c p f k) k:=vcs h.c0 h.f0 h.p0 h.all fun j hj=>h.v j (by omega)
theorem Pa.fl{c:Cs}{f:Fl}{p:Sp}(h:Pa c f p):fG c (nz c f p):=by
 have hv:=h.vc (Nat.le_refl _);have:=h.f0.1;have:=h.t;exact⟨by simp only[nz];omega,hv.d,hv.w⟩
theorem HS{c:Cs}(hk:iz c.r=0){f:Fl}(h:fG c f):rA f:=fun i=>by
 rcases Nat.lt_or_ge i c.r.l.length with g|g
 ·have a:=h.2.2.2 i g
  have:=a.2.1;have:=(pU a.1).len;omega
 ·have:nth f.w i=[]:=by
   simp[nth,List.getD,List.getElem?_eq_none (show f.w.length≤i by have:=h.2.2.1;omega)]
   rfl
  rw[this];simp
end Go.Proofs.YtmpikpodpgnjhaaGreat
namespace Go.Proofs.YtmpikpodpgnjhaaGreat
set_option linter.all false
open Go.Vm
def gV(c:Cs)(cm:List Int)(j:Int):Nat→Int
 |0=>0
 |m+1=>gV c cm j m+if (nth c.r.l m).t=j then nth cm m else 0
theorem Xl{c:Cs}{cm:List Int}{x:Int}{j:Int}:∀{m:Nat},m≤cm.length→gV c (cm++[x]) j m=gV c cm j m
 |0,_=>rfl
 |m+1,h=>by
  simp only[gV];rw[Xl (by omega),nP (by omega)]
theorem ajs{c:Cs}{cm:List Int}{x:Int}{j:Int}:gV c (cm++[x]) j (cm.length+1)=gV c cm j cm.length+if (nth c.r.l cm.length).t=j then x else 0:=by
 have e:nth (cm++[x]) cm.length=x:=by rw[ic,if_neg (by omega),if_pos rfl]
 simp only[gV];rw[Xl (Nat.le_refl _),e]
structure Da(c:Cs)(p:Sp)(f:Fl)(v:Co)(i k:Nat):Prop where
 e:mq (nth c.s i).d (nth f.d i) (nth (b8 c p f k).arr k) (nth p.b i) (nth p.c i)=0
 r:nth v.re i=gU (nth c.s i).d (nth f.d i) (nth (b8 c p f k).arr k) (nth p.b i) (nth p.c i)
 d:nth v.d i=jM (nth c.s i).d (nth f.d i) (nth (b8 c p f k).arr k) (nth p.b i) (nth p.c i)
structure Li(c:Cs)(p:Sp)(f:Fl)(v:Co)(m k:Nat):Prop where
 e:fL (nth c.r.l m).r (nth f.w m) (eM c p (b8 c p f k) k)=0
 o:nth v.cm m=kK (nth c.r.l m).r (nth f.w m) (eM c p (b8 c p f k) k)
 w:nth v.w m=jC (nth c.r.l m).r (nth f.w m) (eM c p (b8 c p f k) k)
structure Hi(c:Cs)(p:Sp)(f:Fl)(v:Co)(k:Nat):Prop where
 arr:∀j,j<v.arr.length→nth v.arr j=nth p.a j+gV c v.cm j v.cm.length
 cm:∀m,m<v.cm.length→0≤nth v.cm m∧nth v.cm m≤1125899906842624
 site:∀i,i<v.re.length→∃k':Nat,k'<k∧kd c i=k'∧Da c p f v i k'
 link:∀m,m<v.cm.length→∃k':Nat,k'<k∧jP c m=k'∧Li c p f v m k'
 lf:∀j,j<k→nth v.lf j=eM c p (b8 c p f j) j
theorem ajt{c:Cs}{p:Sp}{f:Fl}(h:Pa c f p){k:Nat}(hk:k<c.r.n.toNat)(hh:Hi c p f (b8 c p f k) k):Hi c p f (b8 c p f (k+1)) (k+1):=by
 have hc:=kb h.c0;have hv:=h.vc (k:=k) (by omega)
 have ho:=yc hc p f k;have hf:=HP hc p f k;obtain⟨e0,eL⟩:=Nn (h.v k hk);show Hi c p f (vS c p (b8 c p f k) k) (k+1);obtain⟨s1,s2,s3,s4⟩:=El (c:=c) (p:=p) (v:=b8 c p f k) (k:=k);obtain⟨a1,a2,a3⟩:=Xd (c:=c) (x:=eM c p (b8 c p f k) k) (k:=k) s1 s2 s3;obtain⟨b1,b2,b3⟩:=Xc (c:=c) (u:=vD c p (b8 c p f k) k) (x:=eM c p (b8 c p f k) k) (k:=k);have aju:∀i,i<(vD c p (b8 c p f k) k).re.length→∃k':Nat,k'<k+1∧kd c i=k'∧Da c p f (vD c p (b8 c p f k) k) i k':=by
  unfold vD;cases hs:jn c.s k with
  |none =>
   intro i hi;obtain⟨k',g1,g2,g3⟩:=hh.site i hi;exact⟨k',by omega,g2,g3.e,g3.r,g3.d⟩
  |some i0 =>
   obtain⟨q1,q2⟩:=ux hs;have q3:=(uw ho.s (fun j h0 hj=>(pX hc hj).2.1 h0) q1 q2).1;have q4:i0<(b8 c p f k).d.length:=by have:=hv.d.1;omega
   have q5:=hf.d.2 i0 (by omega)
   intro i hi;simp only[List.length_append,List.length_singleton]at hi;by_cases g:i=i0
   ·subst g
    refine⟨k,by omega,q2,?_,?_,?_⟩
    ·unfold kT at e0
     rw[hs]at e0;rw[←q5];exact e0
    ·show nth ((b8 c p f k).re++[_]) i=_
     rw[ic,if_neg (by omega),if_pos q3,vR,q5]
    ·show nth ((b8 c p f k).d.set i _) i=_
     rw[qH q4,if_pos rfl,q5]
   ·obtain⟨k',g1,g2,g3⟩:=hh.site i (by omega)
    refine⟨k',by omega,g2,g3.e,?_,?_⟩
    ·show nth ((b8 c p f k).re++[_]) i=_
     rw[nP (by omega)];exact g3.r
    ·show nth ((b8 c p f k).d.set i0 _) i=_
     rw[qH q4,if_neg g];exact g3.d
 have En:∀j,j<k+1→nth (vD c p (b8 c p f k) k).lf j=eM c p (b8 c p f j) j:=fun j hj=>by
  have:=hv.ll;rw[s4,ic];by_cases g:j<k
  ·rw[if_pos (by omega)];exact hh.lf j g
  ·rw[if_neg (by omega),if_pos (by omega),show j=k by omega]
 have Ns:(∀j,j<(vL c (b8 c p f k) (eM c p (b8 c p f k) k) k).arr.length→nth (vL c (b8 c p f k) (eM c p (b8 c p f k) k) k).arr j=nth p.a j+gV c (vL c (b8 c p f k) (eM c p (b8 c p f k) k) k).cm j (vL c (b8 c p f k) (eM c p (b8 c p f k) k) k).cm.length) ∧
   (∀m,m<(vL c (b8 c p f k) (eM c p (b8 c p f k) k) k).cm.length→0≤nth (vL c (b8 c p f k) (eM c p (b8 c p f k) k) k).cm m∧nth (vL c (b8 c p f k) (eM c p (b8 c p f k) k) k).cm m≤1125899906842624) ∧
   ∀m,m<(vL c (b8 c p f k) (eM c p (b8 c p f k) k) k).cm.length→∃k':Nat,k'<k+1∧jP c m=k'∧Li c p f (vL c (b8 c p f k) (eM c p (b8 c p f k) k) k) m k':=by
  unfold ny at eL;cases hl:iA c.r.l k with
  |none =>
   rw[show vL c (b8 c p f k) (eM c p (b8 c p f k) k) k=b8 c p f k by unfold vL;rw[hl]]
   exact⟨hh.arr,hh.cm,fun m hm=>by obtain⟨k',g1,g2,g3⟩:=hh.link m hm;exact⟨k',by omega,g2,g3⟩⟩
  |some m0 =>
   rw[hl]at eL;obtain⟨q1,q2⟩:=yb hl;have q3:=(uw ho.l (fun j h0 hj=>((jE hc.k).link hj).2.1 h0) q1 q2).1;have q4:m0<(b8 c p f k).w.length:=by have:=hv.w.1;omega
   have q5:=hf.w.2 m0 (by omega)
   have q6:=BH eL;have q7:=((jE hc.k).link q1).1;have q8:=hv.xX;have q9:(nth c.r.l m0).t.toNat<(b8 c p f k).arr.length:=by omega
   have hu:vL c (b8 c p f k) (eM c p (b8 c p f k) k) k={ b8 c p f k with w:=(b8 c p f k).w.set m0 (jC (nth c.r.l m0).r (nth (b8 c p f k).w m0) (eM c p (b8 c p f k) k)),cm:=(b8 c p f k).cm++[kK (nth c.r.l m0).r (nth (b8 c p f k).w m0) (eM c p (b8 c p f k) k)],arr:=(b8 c p f k).arr.set (nth c.r.l m0).t.toNat (nth (b8 c p f k).arr (nth c.r.l m0).t.toNat+kK (nth c.r.l m0).r (nth (b8 c p f k).w m0) (eM c p (b8 c p f k) k)) }:=by
    unfold vL;rw[hl]
   rw[hu];refine⟨fun j hj=>?_,fun m hm=>?_,fun m hm=>?_⟩
   ·simp only[List.length_set]at hj
    simp only[List.length_append,List.length_singleton];rw[qH q9,ajs,← q3];by_cases g:j=(nth c.r.l m0).t.toNat
    ·rw[if_pos g,if_pos (by omega),← g,hh.arr j hj,q3]
     exact Int.add_assoc _ _ _
    ·rw[if_neg g,if_neg (by omega),Int.add_zero,q3]
     exact hh.arr j hj
   ·simp only[List.length_append,List.length_singleton]at hm
    simp only;rw[ic];by_cases g:m<(b8 c p f k).cm.length
    ·rw[if_pos g];exact hh.cm m g
    ·rw[if_neg g,if_pos (by omega)];exact q6
   ·simp only[List.length_append,List.length_singleton]at hm
    by_cases g:m=m0
    ·subst g
     refine⟨k,by omega,q2,by rw[←q5];exact eL,?_,?_⟩
     ·show nth ((b8 c p f k).cm++[_]) m=_
      rw[ic,if_neg (by omega),if_pos q3,q5]
     ·show nth ((b8 c p f k).w.set m _) m=_
      rw[qH q4,if_pos rfl,q5]
    ·obtain⟨k',g1,g2,g3⟩:=hh.link m (by omega)
     refine⟨k',by omega,g2,g3.e,?_,?_⟩
     ·show nth ((b8 c p f k).cm++[_]) m=_
      rw[nP (by omega)];exact g3.o
     ·show nth ((b8 c p f k).w.set m0 _) m=_
      rw[qH q4,if_neg g];exact g3.w
 unfold vS;refine⟨?_,?_,fun i hi=>?_,fun m hm=>?_,by rw[b2];exact En⟩
 ·rw[a1,a3];exact Ns.1
 ·rw[a3];exact Ns.2.1
 ·rw[b1]at hi
  obtain⟨k',g1,g2,g3⟩:=aju i hi;exact⟨k',g1,g2,g3.e,by rw[b1];exact g3.r,by rw[b3];exact g3.d⟩
 ·rw[a3]at hm
  obtain⟨k',g1,g2,g3⟩:=Ns.2.2 m hm;exact⟨k',g1,g2,g3.e,by rw[a3];exact g3.o,by rw[a2];exact g3.w⟩
theorem xZ{c:Cs}{p:Sp}{f:Fl}(h:Pa c f p):∀{k:Nat},k≤c.r.n.toNat→Hi c p f (b8 c p f k) k
 |0,_=>⟨fun j hj=>by simp[b8,gV],fun m hm=>by simp[b8]at hm,fun i hi=>by simp[b8]at hi,fun m hm=>by simp[b8]at hm,fun j hj=>by omega⟩
 |k+1,hk=>ajt h (by omega) (xZ h (by omega))
end Go.Proofs.YtmpikpodpgnjhaaGreat
namespace Go.Proofs.YtmpikpodpgnjhaaGreat
set_option linter.all false
open Go.Vm
theorem Xo{f:Nat→Int}:∀n,bU f (ly f n)=bU f n
 |0=>rfl
 |n+1=>by
  unfold ly;split
  ·rename_i h
   rw[Xo n];simp only[bU];have h:f n=0:=by simpa using h
   rw[h,Int.add_zero]
  ·rfl
theorem BL{l:List Int}:∀n,sm l n=bU (nth l) n
 |0=>rfl
 |n+1=>by simp only[sm,bU];rw[BL n]
theorem HU{f g:Nat→Int}:∀{n:Nat},(∀k,k<n→f k=g k)→bU f n=bU g n
 |0,_=>rfl
 |n+1,h=>by
  simp only[bU];rw[HU fun k hk=>h k (by omega),h n (by omega)]
theorem Xp{f:Nat→Int}:∀n,bU (fun k=>f (k+1)) n=bU f (n+1)-f 0
 |0=>by simp[bU]
 |n+1=>by
  have:=Xp (f:=f) n;simp only[bU]at this ⊢;omega
theorem Xq{f g:Nat→Int}{x:Int}:∀n,bU (fun k=>f k+x*g k) n=bU f n+x*bU g n
 |0=>by simp[bU]
 |n+1=>by
  simp only[bU];rw[Xq n,Int.mul_add];omega
theorem ajw{l:List Int}{n:Nat}(h:l.length≤n):sm l n=sm l l.length:=by
 obtain⟨d,rfl⟩:∃d,n=l.length+d:=⟨n-l.length,by omega⟩
 clear h
 induction d with
 |zero=>rfl
 |succ d ih =>
  rw[show l.length+(d+1)=(l.length+d)+1 by omega]
  simp only[sm];rw[ih,ti (by omega),Int.add_zero]
theorem Xr{r:Rc}{p:List Int}{x:Int}(h:fL r p x=0):sm (jC r p x) (jC r p x).length=sm p p.length+r.den*(x-kK r p x):=by
 obtain⟨h1,h2,h3,h4⟩:=BG h;have hv:=pU h1;have hn:0<r.w.length:=hv.pos;have e1:sm (jC r p x) (jC r p x).length=bU (rN r p x) r.w.length:=by
  have hl:(jC r p x).length=ly (rN r p x) r.w.length:=by simp[jC]
  have e:bU (nth (jC r p x)) (ly (rN r p x) r.w.length)=bU (rN r p x) (ly (rN r p x) r.w.length):=HU fun k hk=>W2 hk;rw[BL,hl,e,Xo]
 obtain⟨m,hm⟩:∃m,r.w.length=m+1:=⟨r.w.length-1,by omega⟩
 have e2:bU (rN r p x) r.w.length=bU (fun k=>rq r p x (k+1)) r.w.length+rq r p x 0 % r.den:=by
  rw[hm];have key:∀j,bU (rN r p x) (j+1)=bU (fun k=>rq r p x (k+1)) (j+1)+rq r p x 0 % r.den:=by
   intro j;induction j with
   |zero=>simp[bU,rN]
   |succ j ih =>
    rw[bU,ih];simp only[bU,rN];rw[if_neg (by omega)]
    omega
  exact key m
 have e3:rq r p x r.w.length=0:=by
  have:=h2.1;simp only[rq];rw[ti (by omega),ti (Nat.le_refl _)]
  simp
 have e4:bU (rq r p x) r.w.length=sm p p.length+x*r.den:=by
  show bU (fun k=>nth p k+x*nth r.w k) r.w.length=_;rw[Xq,← BL,← BL,ajw h2.1,hv.sum]
 have e5:rq r p x 0=r.den*kK r p x+rq r p x 0 % r.den:=(Int.mul_ediv_add_emod _ _).symm;have e6:r.den*(x-kK r p x)=x*r.den-r.den*kK r p x:=by rw[Int.mul_sub,Int.mul_comm r.den x]
 rw[e1,e2,Xp,bU,e3,e4,e6];omega
def hB(c:Cs)(f:Fl)(M:Int):Prop:=∀i,i<c.r.l.length→sm (nth f.w i) (nth f.w i).length≤(nth c.r.l i).r.den*(1073741824*M)
theorem ajx{r:Rc}{p:List Int}(h:gM r p):0≤sm p p.length:=(uo (i:=p.length) h.2.2).1
theorem HV{c:Cs}{f:Fl}{p:Sp}(h:Pa c f p){M:Int}(hM:0≤M)(hb:hB c f M) :
  hB c (nz c f p) (M+1)∧∀i,i<c.r.l.length→0≤nth (jO c f p).cm i∧nth (jO c f p).cm i≤1073741824*(M+1):=by
 have hc:=kb h.c0;have e2:=(HM hc p f).2
 suffices g:∀i,i<c.r.l.length→sm (nth (nz c f p).w i) (nth (nz c f p).w i).length≤(nth c.r.l i).r.den*(1073741824*(M+1))∧0≤nth (jO c f p).cm i∧nth (jO c f p).cm i≤1073741824*(M+1) from
  ⟨fun i hi=>(g i hi).1,fun i hi=>(g i hi).2⟩
 intro i hi;obtain⟨k,_,_,hl⟩:=(xZ h (Nat.le_refl _)).link i (by omega)
 have hw:nth (nz c f p).w i=_:=hl.w;have ho:nth (jO c f p).cm i=_:=hl.o;have hr:=Xr hl.e;have hx:=(BG hl.e).2.2.1;have h0:=(BH hl.e).1;have hd:=(pU (BG hl.e).1).den;have hs:=ajx (W3 hl.e);have hbi:=hb i hi;rw[hw,ho];generalize kK (nth c.r.l i).r (nth f.w i) (eM c p (b8 c p f k) k)=o at *;generalize eM c p (b8 c p f k) k=x at *;generalize jC (nth c.r.l i).r (nth f.w i) x=q at *;generalize (nth c.r.l i).r.den=D at *;generalize sm (nth f.w i) (nth f.w i).length=s at *;have a1:D*(1073741824*(M+1))=D*(1073741824*M)+D*1073741824:=by rw[←Int.mul_add];congr 1;omega
 have a2:D*(x-o)=D*x-D*o:=Int.mul_sub _ _ _;have a3:D*x≤D*1073741824:=Int.mul_le_mul_of_nonneg_left hx.2 (by omega)
 have a4:0≤D*o:=Int.mul_nonneg (by omega) h0
 refine⟨by omega,h0,?_⟩
 exact Int.le_of_mul_le_mul_left (a:=D) (by omega) (by omega)
theorem Eo{c:Cs}{f:Fl}{M N:Int}(hk:iz c.r=0)(h:hB c f M)(hn:M≤N):hB c f N:=fun i hi=>by
 have hd:=(pU ((jE hk).link hi).2.2).den;exact Int.le_trans (h i hi) (Int.mul_le_mul_of_nonneg_left (by omega) (by omega))
theorem ajy{c:Cs}{s:List Ds}:hB c (lz c s) 0:=fun i hi=>by
 have e:nth (lz c s).w i=[]:=by simp[lz,nth,hi]
 rw[e];simp[sm]
end Go.Proofs.YtmpikpodpgnjhaaGreat
