/- Parts of the proof, joined: Cas4, Cas5, Mk5, Flo1, Cas6, Cas7, Cas8, Cas9, Cas10, Cas11, Flo2, Cas12, Bal1. -/
import Derived.Test.YtmpikpodpgnjhaaGreatDe
import Derived.Test.YtmpikpodpgnjhaaGreatDd
namespace Go.Proofs.YtmpikpodpgnjhaaGreat
set_option linter.all false
open Go.Vm
attribute [local simp] eU eV eS eT
def fd(p:Nat→Bool):Nat→Nat→Option Nat
 |0,_=>none
 |m+1,i=>if p i then some i else fd p m (i+1)
theorem VA{p:Nat→Bool}{i n:Nat}(h:i<n):fd p (n-i) i=if p i then some i else fd p (n-(i+1)) (i+1):=by
 obtain⟨m,hm⟩:∃m,n-i=m+1:=⟨n-i-1,by omega⟩
 rw[hm,fd,show n-(i+1)=m by omega]
theorem VB{p:Nat→Bool}{n:Nat}:fd p (n-n) n=none:=by rw[Nat.sub_self];rfl
theorem wg{p:Nat→Bool}:∀{m i k:Nat},fd p m i=some k→(i≤k∧k<i+m)∧p k=true∧∀j,i≤j→j<k→p j=false
 |0,i,k,h=>by simp[fd]at h
 |m+1,i,k,h=>by
  unfold fd at h;split at h
  ·rename_i h1;cases h;exact⟨by omega,h1,fun j a b=>by omega⟩
  ·rename_i h1
   have:=wg h;refine⟨by omega,this.2.1,fun j a b=>?_⟩
   by_cases hj:j=i
   ·subst hj;simpa using h1
   ·exact this.2.2 j (by omega) b
theorem Nt{p:Nat→Bool}:∀{m i:Nat},fd p m i=none→∀j,i≤j→j<i+m→p j=false
 |0,i,_,j,a,b=>by omega
 |m+1,i,h,j,a,b=>by
  unfold fd at h;split at h
  ·cases h
  ·rename_i h1
   by_cases hj:j=i
   ·subst hj;simpa using h1
   ·exact Nt h j (by omega) (by omega)
def rK:Option Nat→Int
 |some k=>k
 |none => -1
def me(s:List Si)(n:Int):Option Nat:=fd (fun i=>decide ((nth s i).n=n)) s.length 0
def lu(l:List Lk)(n:Int):Option Nat:=fd (fun i=>decide ((nth l i).f=n)) l.length 0
theorem ajt(s:List Si)(hs:s.length≤1000)(n:Int){k:Nat}{G:List aW}(hG:G[k]?=some (.cells [i64 n])) :
  bt F 157 [rJ s,.fn 158 [.bO k 0]] G=some (i64 (rK (me s n)),G) :=
 cg rfl rfl (by
  generalize hW:rK (me s n)=W;have hp:∀x:Si,bt F 158 [.agg x.row,.bO k 0] G=some (.bool (decide (x.n=n)),G):=fun x=>cg rfl rfl (by
   simp (disch:=omega) [-getElem?_pos,wrap64,Lr,hG])
  simp (disch:=omega) [-getElem?_pos,wrap64,Lq];refine go_loop (fun i:Nat=>acw (rJ s) (.fn 158 [.bO k 0]) s.length i G) (fun i=>i≤s.length∧rK (fd (fun i=>decide ((nth s i).n=n)) (s.length-i) i)=W) (fun i=>s.length-i) 0 rfl (by simp) ⟨by omega,hW⟩ ?_
  rintro i ⟨hi,hq⟩;simp (disch:=omega) [-getElem?_pos,wrap64,Sx];refine b9 (fun h5=>?_) (fun h5=>?_)
  ·have h5:i<s.length:=by omega
   rw[VA h5]at hq;simp (disch:=omega) [-getElem?_pos,wrap64,bo (l:=s),hp];refine b9 (fun h6=>?_) (fun h6=>?_)
   ·rw[if_pos (decide_eq_true h6)]at hq
    exact hq
   ·rw[if_neg (by simp[h6])]at hq
    exact cc (i+1) (by simp) ⟨by omega,hq⟩ (by omega)
  ·obtain rfl:i=s.length:=by omega
   rw[VB]at hq;exact hq)
theorem aju(s:List Lk)(hs:s.length≤1000)(n:Int){k:Nat}{G:List aW}(hG:G[k]?=some (.cells [i64 n])) :
  bt F 160 [nN s,.fn 161 [.bO k 0]] G=some (i64 (rK (lu s n)),G) :=
 cg rfl rfl (by
  generalize hW:rK (lu s n)=W;have hp:∀x:Lk,bt F 161 [.agg x.row,.bO k 0] G=some (.bool (decide (x.f=n)),G):=fun x=>cg rfl rfl (by
   simp (disch:=omega) [-getElem?_pos,wrap64,Lt,hG])
  simp (disch:=omega) [-getElem?_pos,wrap64,Ls];refine go_loop (fun i:Nat=>acy (nN s) (.fn 161 [.bO k 0]) s.length i G) (fun i=>i≤s.length∧rK (fd (fun i=>decide ((nth s i).f=n)) (s.length-i) i)=W) (fun i=>s.length-i) 0 rfl (by simp) ⟨by omega,hW⟩ ?_
  rintro i ⟨hi,hq⟩;simp (disch:=omega) [-getElem?_pos,wrap64,Sy];refine b9 (fun h5=>?_) (fun h5=>?_)
  ·have h5:i<s.length:=by omega
   rw[VA h5]at hq;simp (disch:=omega) [-getElem?_pos,wrap64,bo (l:=s),hp];refine b9 (fun h6=>?_) (fun h6=>?_)
   ·rw[if_pos (decide_eq_true h6)]at hq
    exact hq
   ·rw[if_neg (by simp[h6])]at hq
    exact cc (i+1) (by simp) ⟨by omega,hq⟩ (by omega)
  ·obtain rfl:i=s.length:=by omega
   rw[VB]at hq;exact hq)
theorem ajv(x:Int)(G:List aW):bt F 112 [i64 x] G=some (.bool (!decide (0≤x∧x≤1073741824)),G) :=
 cg rfl rfl (by
  by_cases h1:x<0
  ·rw[decide_eq_false (by omega)]
   simp[wrap64,DJ,h1]
  ·by_cases h2:1073741824<x
   ·rw[decide_eq_false (by omega)]
    simp[wrap64,DJ,h1,h2]
   ·rw[decide_eq_true (by omega)]
    simp[wrap64,DJ,h1,h2])
theorem ajw(a b c:List Int)(h:a.length+b.length+c.length≤1000)(G:List aW):bt F 89 [.slice none 1 [[ints a],[ints b],[ints c]]] G=some (ints (a++b++c),G) :=
 cg rfl rfl (by
  simp (disch:=omega) [wrap64,KW,RS,RR,RU,RT,yH];refine b9 (fun g=>absurd g (by omega)) (fun _=>b9 (fun g=>absurd g (by omega)) (fun _=>b9 (fun g=>absurd g (by omega)) (fun _=>?_)))
  simp (disch:=omega) [wrap64,J8 (l:=a++(b++c)) (n:=a.length+b.length+c.length) (by simp;omega)])
structure Sp where
 a:List Int
 b:List Int
 c:List Int
abbrev Sp.row(p:Sp):List V:=[ints p.a,ints p.b,ints p.c]
abbrev sv(p:Sp):V:=.agg p.row
def oq(c:Cs)(p:Sp):Prop:=(p.a.length:Int)=c.r.n∧p.b.length=c.s.length∧p.c.length=c.s.length
instance {c:Cs} {p:Sp}:Decidable (oq c p):=inferInstanceAs (Decidable (_∧_∧_))
theorem ajx(c:Cs)(p:Sp)(G:List aW):bt F 87 [cs c,sv p] G=some (.bool (decide (oq c p)),G) :=
 cg rfl rfl (by
  obtain⟨⟨n,l⟩,s⟩:=c;obtain⟨a,b,c⟩:=p;generalize hW:decide (oq ⟨⟨n,l⟩,s⟩ ⟨a,b,c⟩)=W;have no:¬ oq ⟨⟨n,l⟩,s⟩ ⟨a,b,c⟩→W=false:=fun h=>by rw[←hW];simp[h]
  have yes:oq ⟨⟨n,l⟩,s⟩ ⟨a,b,c⟩→W=true:=fun h=>by rw[←hW];simp[h]
  unfold oq at no yes;simp only at no yes;by_cases h1:(a.length:Int)=n
  ·by_cases h2:(b.length:Int)=s.length
   ·by_cases h3:(c.length:Int)=s.length
    ·simp[wrap64,Bc,h1,h2,h3]
     exact yes (by omega)
    ·simp[wrap64,Bc,h1,h2,h3]
     exact no (by omega)
   ·simp[wrap64,Bc,h1,h2]
    exact no (by omega)
  ·simp[wrap64,Bc,h1]
   exact no (by omega))
theorem Nu(l:List Int)(hl:l.length≤1000)(m:Int)(G:List aW):bt F 94 [ints l,i64 m] G=some (.bool (decide (fN l m)),G) :=
 cg rfl rfl (by
  generalize hW:decide (fN l m)=W;simp (disch:=omega) [-getElem?_pos,wrap64,KY];refine go_loop (fun i:Nat=>abt m (ints l) l.length i G) (fun i=>i≤l.length∧∀j,j<i→0≤nth l j∧nth l j≤m) (fun i=>l.length-i) 0 rfl (by simp) (by simp) ?_
  rintro i ⟨hi,hj⟩;simp (disch:=omega) [-getElem?_pos,wrap64,RV];refine b9 (fun h5=>?_) (fun h5=>?_)
  ·have h5:i<l.length:=by omega
   by_cases h6:0≤nth l i∧nth l i≤m
   ·have iE:(decide (0≤nth l i)&&decide (nth l i≤m))=true:=by simp;exact h6
    simp (disch:=omega) [-getElem?_pos,wrap64,eA (l:=l),BO,iE];refine cc (i+1) (by simp) ⟨by omega,fun j h7=>?_⟩ (by omega)
    rcases Nat.lt_or_ge j i with h8|h8
    ·exact hj j h8
    ·rwa [show j=i by omega]
   ·have iE:(decide (0≤nth l i)&&decide (nth l i≤m))=false:=by simp;omega
    simp (disch:=omega) [-getElem?_pos,wrap64,eA (l:=l),BO,iE];rw[←hW,decide_eq_false (fun g:fN l m=>h6 (g i h5))]
  ·obtain rfl:i=l.length:=by omega
   rw[←hW,decide_eq_true (show fN l m from hj)])
structure Kv(r:Rr):Prop where
 n:1≤r.n∧r.n≤40
 e:∀i,i<r.l.length→lE r i=0
theorem nP{r:Rr}(h:jJ r=0):Kv r:=by
 unfold jJ at h;split at h
 ·cases h
 ·exact⟨by omega,fun i hi=>sE h i (by omega) (by omega)⟩
theorem Kv.link{r:Rr}(h:Kv r){i:Nat}(hi:i<r.l.length):(0≤(nth r.l i).f∧(nth r.l i).f<(nth r.l i).t∧(nth r.l i).t≤r.n-1)∧(0<i→(nth r.l (i-1)).f<(nth r.l i).f)∧e8 (nth r.l i).r=0:=by
 have he:=h.e i hi;unfold lE at he;simp only at he;split at he
 ·split at he
  ·cases he
  ·split at he
   ·cases he
   ·exact⟨by omega,fun h0=>by omega,he⟩
 ·cases he
theorem Kv.up{r:Rr}(h:Kv r):∀{i:Nat},i<r.l.length→(i:Int)≤(nth r.l i).f
 |0,hi=>by have:=(h.link hi).1;omega
 |i+1,hi=>by
  have:=h.up (i:=i) (by omega)
  have:=(h.link hi).2.1 (by omega)
  simp only[Nat.add_sub_cancel]at this;omega
theorem Kv.len{r:Rr}(h:Kv r):r.l.length≤39:=by
 have h1:=h.n;by_cases h0:r.l.length=0
 ·omega
 ·have h2:=h.up (i:=r.l.length-1) (by omega)
  have h3:=(h.link (i:=r.l.length-1) (by omega)).1
  omega
theorem VD:∀n:Nat,ly [some 1] (List.replicate n [V.aK])=some (List.replicate n [ints []])
 |0=>rfl
 |n+1=>by rw[List.replicate_succ,ly,VD n];rfl
theorem VE{n:Nat}:ly [some 1] (chunks 1 (List.replicate n V.aK) 0 n)=some (List.replicate n [ints []]):=by
 rw[C5 _ _ _ rfl (by simp),List.drop_zero,List.take_of_length_le (by simp),List.map_replicate]
 exact VD n
theorem Nv:∀n:Nat,(List.replicate n [V.aK]).flatten=List.replicate n V.aK
 |0=>rfl
 |n+1=>by rw[List.replicate_succ,List.flatten_cons,Nv n];rfl
theorem ajy(r:Rr)(hr:oo r)(G:List aW):bt F 75 [rr r] G=some (.tuple (if jJ r=0 then [tZ (List.replicate r.l.length []),i64 0] else [.slice (some 0) 1 [],i64 (jJ r)]),G) :=
 cg rfl rfl (by
  have h1:=HN r hr;have h2:=HO r hr;obtain⟨n,l⟩:=r;by_cases hz:jJ ⟨n,l⟩=0
  ·have hl:=(nP hz).len
   simp only at hl;rw[if_pos hz];simp (disch:=omega) [wrap64,Gg,h1,h2,hz,Nv,VE]
  ·rw[if_neg hz]
   simp (disch:=omega) [wrap64,Gg,h1,h2,hz])
theorem ajz(r:Rr)(hr:oo r)(G:List aW):bt F 77 [rr r] G=some (.tuple (if jJ r=0 then [tZ (List.replicate r.l.length []),i64 0] else [.slice (some 0) 1 [],i64 (jJ r)]),G) :=
 cg rfl rfl (by
  have h1:=HN r hr;have h2:=HO r hr;obtain⟨n,l⟩:=r;by_cases hz:jJ ⟨n,l⟩=0
  ·have hl:=(nP hz).len
   simp only at hl;rw[if_pos hz];simp (disch:=omega) [wrap64,Gi,h1,h2,hz,Nv,VE]
  ·rw[if_neg hz]
   simp (disch:=omega) [wrap64,Gi,h1,h2,hz])
noncomputable def pD(c:Cs)(l:List Ds):Int:=if gu c≠0 then gu c else if m8 c l then 0 else 3
def lD(c:Cs)(l:List Ds):Fl:=⟨0,l,List.replicate c.r.l.length []⟩
noncomputable def pE(c:Cs)(l:List Ds):V:=.tuple (if pD c l=0 then [fl (lD c l),i64 0] else [.agg [i64 0,.slice (some 0) 4 [],.slice (some 0) 1 []],i64 (pD c l)])
theorem Nw{c:Cs}(h:gu c=0){l:List Ds}(hl:m8 c l):ED l:=by
 have h6:=(oZ h).s;have h7:=hl.1;refine⟨by omega,fun i hi=>?_⟩
 have h8:=hl.2 i (by omega)
 have h9:=tW h8.1;have a:=h9.u;have b:=h9.g;have c:=h8.2.2.2.1;have d:=h8.2.2.2.2.1;omega
theorem VF{c:Cs}(h:gu c=0){l:List Ds}:kB c (lD c l)↔m8 c l:=by
 refine⟨fun g=>g.2.1,fun g=>⟨by simp[lD],g,by simp[lD],fun i hi=>?_⟩⟩
 have hk:=(nP (oZ h).k).link hi;refine⟨hk.2.2,?_⟩;have e:nth (lD c l).w i=[]:=by simp[lD,nth,hi]
 rw[e];exact⟨by simp,by simp,fun j hj=>by simp at hj⟩
theorem ajA(c:Cs)(l:List Ds):ua (lD c l):=fun i=>by
 rcases Nat.lt_or_ge i c.r.l.length with h|h
 ·simp[lD,nth,h]
 ·have e:nth (lD c l).w i=[]:=by
   simp[lD,nth,List.getElem?_eq_none (show(List.replicate c.r.l.length ([]:List Int)).length≤i by simpa using h)]
   rfl
  rw[e];simp
theorem ajB(c:Cs)(hr:oo c.r)(l:List Ds):∃G',bt F 31 [cs c,tY l] []=some (pE c l,G'):=by
 have h1:=No c hr;by_cases hz:gu c=0
 ·have h2:=Vn c (by have:=(oZ hz).s;omega) l
  by_cases hs:m8 c l
  ·have h3:=ajy c.r hr
   rw[if_pos (oZ hz).k]at h3;have h4:=Vx l (Nw hz hs);rw[show pE c l=.tuple [fl (lD c l),i64 0] by unfold pE;rw[show pD c l=0 by unfold pD;rw[if_neg (by omega),if_pos hs]];rfl]
   refine⟨[.cells []],cg rfl rfl ?_⟩;simp[wrap64,Dl,h1,hz,h2,hs,h3,h4,zR,lD]
  ·rw[show pE c l=.tuple [.agg [i64 0,.slice (some 0) 4 [],.slice (some 0) 1 []],i64 3] by unfold pE;rw[show pD c l=3 by unfold pD;rw[if_neg (by omega),if_neg hs]];rfl]
   refine⟨[],cg rfl rfl ?_⟩;simp[wrap64,Dl,h1,hz,h2,hs]
 ·rw[show pE c l=.tuple [.agg [i64 0,.slice (some 0) 4 [],.slice (some 0) 1 []],i64 (gu c)] by unfold pE;rw[show pD c l=gu c by unfold pD;rw[if_pos hz]];rw[if_neg hz]]
  refine⟨[],cg rfl rfl ?_⟩;simp[wrap64,Dl,h1,hz]
theorem apM(c:Cs)(hr:oo c.r)(l:List Ds)(Ex:ED l):∃G',bt F 32 [cs c,tY l] []=some (pE c l,G'):=by
 have h1:=Np c hr;by_cases hz:gu c=0
 ·have h3:=ajz c.r hr
  rw[if_pos (oZ hz).k]at h3;have h4:=Vz l Ex;have h5:=Vq c hr (lD c l) (ajA c l);by_cases hs:m8 c l
  ·rw[decide_eq_true ⟨hz,(VF hz).2 hs⟩]at h5
   rw[show pE c l=.tuple [fl (lD c l),i64 0] by unfold pE;rw[show pD c l=0 by unfold pD;rw[if_neg (by omega),if_pos hs]];rfl]
   refine⟨[.cells []],cg rfl rfl ?_⟩;simp only[fl,Fl.row,lD,tZ,List.map_replicate]at h5;simp[wrap64,Dn,h1,hz,h3,h4,h5,zR,lD]
  ·rw[decide_eq_false (fun g=>hs ((VF hz).1 g.2))]at h5
   rw[show pE c l=.tuple [.agg [i64 0,.slice (some 0) 4 [],.slice (some 0) 1 []],i64 3] by unfold pE;rw[show pD c l=3 by unfold pD;rw[if_neg (by omega),if_neg hs]];rfl]
   refine⟨[.cells []],cg rfl rfl ?_⟩;simp only[fl,Fl.row,lD,tZ,List.map_replicate]at h5;simp[wrap64,Dn,h1,hz,h3,h4,h5,zR]
 ·rw[show pE c l=.tuple [.agg [i64 0,.slice (some 0) 4 [],.slice (some 0) 1 []],i64 (gu c)] by unfold pE;rw[show pD c l=gu c by unfold pD;rw[if_pos hz]];rw[if_neg hz]]
  refine⟨[],cg rfl rfl ?_⟩;simp[wrap64,Dn,h1,hz]
theorem VG{l:List Int}{a:Int}:∀{i:Nat},i≤l.length→sm (l++[a]) i=sm l i
 |0,_=>rfl
 |i+1,h=>by
  simp only[sm];rw[VG (by omega),og (by omega)]
theorem ajC{l:List Int}{a:Int}:sm (l++[a]) (l.length+1)=sm l l.length+a:=by
 simp only[sm];rw[VG (Nat.le_refl _),iS,if_neg (by omega),if_pos rfl]
abbrev uV(l:List Int):V:=.slice (some 0) 1 (l.map fun n=>[i64 n])
abbrev Nx(r:Rc):V:=.agg [uV r.w,i64 r.den]
theorem ajD{l:List Int}{k:Nat}(hd:eM l k):∃r k',bt F 153 [.bO 0 0] [dk l k]=some (Nx r,[dk l k'])∧eM l k'∧e8 r=0∧r.w.length≤5:=by
 suffices h:∀Q:V→List aW→Prop,(∀r k',eM l k'→e8 r=0→r.w.length≤5→Q (Nx r) [dk l k'])→jq (bt F) 153 [.bO 0 0] [dk l k] Q by
  obtain⟨_,_,h,r,k',rfl,rfl,h1⟩:=h (fun v G=>∃r k',v=Nx r∧G=[dk l k']∧eM l k'∧e8 r=0∧r.w.length≤5) fun r k' a b c=>⟨r,k',rfl,rfl,a,b,c⟩;exact⟨r,k',h,h1⟩
 intro Q hQ;refine jV rfl rfl ?_;obtain⟨m,k1,n1,kd,hm⟩:=gU hd 5 (by omega)
 simp (disch:=omega) [wrap64,Lh,n1];refine go_loop (fun s:List Int×Int×Int×Nat=>ack (.bO 0 0) s.2.2.1 [.aK,i64 0] [.slice (some 1022) 1 (s.1.map fun n=>[i64 n]),i64 s.2.1] s.1.length [dk l s.2.2.2])
  (fun s=>s.2.1=sm s.1 s.1.length∧(∀i,i<s.1.length→0≤nth s.1 i∧nth s.1 i≤4)∧(s.1.length:Int)+s.2.2.1+1≤5 ∧ -1≤s.2.2.1∧(s.2.2.1 = -1→0<s.1.length∧1≤nth s.1 (s.1.length-1))∧eM l s.2.2.2) (fun s=>(s.2.2.1+1).toNat)
  ([],0,m,k1) rfl (by simp) ⟨rfl,by simp,by simp;omega,by simp only;omega,by simp only;omega,kd⟩ ?_
 rintro⟨w,den,x,k⟩ ⟨h1,h2,h3,h4,h5,hd⟩;simp only at h1 h2 h3 h4 h5 hd;have VH:=BL (l:=w) (b:=4) (i:=w.length) h2;obtain⟨a,k2,n2,ik,ha⟩:=gU hd 4 (by omega)
 simp (disch:=omega) [wrap64,Sr];refine b9 (fun h6=>?_) (fun h6=>?_)
 ·have key:∀b:Int,(0≤b∧b≤4)→(x=0→1≤b)→((den+b=sm (w++[b]) (w++[b]).length)∧(∀i,i<(w++[b]).length→0≤nth (w++[b]) i∧nth (w++[b]) i≤4)∧((w++[b]).length:Int)+(x-1)+1≤5 ∧ -1≤x-1∧(x-1 = -1→0<(w++[b]).length∧1≤nth (w++[b]) ((w++[b]).length-1))∧eM l k2):=fun b hb Jf=>by
   refine⟨by rw[List.length_append,List.length_singleton,ajC,h1],fun i hi=>?_,by simp;omega,by omega,fun g=>⟨by simp,?_⟩,ik⟩
   ·rw[iS]
    simp at hi;split
    ·exact h2 i (by assumption)
    ·rw[if_pos (by omega)];exact hb
   ·rw[List.length_append,List.length_singleton,Nat.add_sub_cancel,iS,if_neg (by omega),if_pos rfl]
    exact Jf (by omega)
  by_cases h7:x=0
  ·subst h7
   simp (disch:=omega) [wrap64,n2];exact cc (w++[a+1],den+(a+1),-1,k2) (by simp) (key (a+1) (by omega) (fun _=>by omega)) (by simp)
  ·simp (disch:=omega) [wrap64,n2,h7]
   exact cc (w++[a],den+a,x-1,k2) (by simp) (key a (by omega) (fun g=>absurd g h7)) (by simp only;omega)
 ·have hx:x = -1:=by omega
  obtain⟨h8,h9⟩:=h5 hx;refine hQ ⟨w,den⟩ k hd ?_ (by simp only;omega)
  unfold e8;simp only;rw[if_neg (by omega),if_neg (by omega),if_pos (show fN w 10000 from fun i hi=>by have:=h2 i hi;omega),if_pos h1.symm]
structure Rm(m:Int)(l:List Lk)(n:Int):Prop where
 link:∀i,i<l.length→0≤(nth l i).f∧(nth l i).f<(nth l i).t∧(nth l i).t≤m-1∧(nth l i).f<n∧e8 (nth l i).r=0∧(nth l i).r.w.length≤5
 up:∀i,0<i→i<l.length→(nth l (i-1)).f<(nth l i).f
 len:(l.length:Int)≤n
theorem Rm.snoc{m:Int}{l:List Lk}{n:Int}(h:Rm m l n)(hn:0≤n){x:Lk}(h1:x.f=n)(h2:n<x.t)(h3:x.t≤m-1)(h4:e8 x.r=0)(h5:x.r.w.length≤5):Rm m (l++[x]) (n+1):=by
 refine⟨fun i hi=>?_,fun i h0 hi=>?_,by have:=h.len;simp;omega⟩
 ·simp at hi
  rw[iS];split
  ·have:=h.link i (by assumption);omega
  ·rw[if_pos (by omega)];omega
 ·simp at hi
  rw[iS,iS,if_pos (by omega)]
  split
  ·exact h.up i h0 (by assumption)
  ·rw[if_pos (by omega),h1]
   exact(h.link (i-1) (by omega)).2.2.2.1
theorem Rm.skip{m:Int}{l:List Lk}{n:Int}(h:Rm m l n):Rm m l (n+1) :=
 ⟨fun i hi=>by have:=h.link i hi;omega,h.up,by have:=h.len;omega⟩
theorem Rm.mT{m:Int}{l:List Lk}{n:Int}(h:Rm m l n)(hm:1≤m∧m≤40):jJ ⟨m,l⟩=0:=by
 unfold jJ;rw[if_neg (by simp only;omega)]
 refine rC fun i _ hi=>?_;have hi:i<l.length:=by simp only at hi;omega
 have a:=h.link i hi;show(if (0≤(nth l i).f∧(nth l i).f≤m-1)∧(0≤(nth l i).t∧(nth l i).t≤m-1) then (if (nth l i).t≤(nth l i).f then 12 else if 0<i∧(nth l i).f≤(nth l (i-1)).f then 4 else e8 (nth l i).r) else 11)=0
 rw[if_pos (by omega),if_neg (by omega),if_neg (fun g=>by have:=h.up i g.1 hi;omega)]
 exact a.2.2.2.2.1
abbrev Ny(l:List Lk):V:=.slice (some 0) 4 (l.map Lk.row)
theorem ajE{l:List Int}{k:Nat}(hd:eM l k):∃r k',bt F 110 [.bO 0 0] [dk l k]=some (.agg [i64 r.n,Ny r.l],[dk l k'])∧eM l k'∧jJ r=0∧r.n≤6∧∀i,i<r.l.length→(nth r.l i).r.w.length≤5:=by
 suffices h:∀Q:V→List aW→Prop,(∀r k',eM l k'→jJ r=0→r.n≤6→(∀i,i<r.l.length→(nth r.l i).r.w.length≤5)→Q (.agg [i64 r.n,Ny r.l]) [dk l k'])→jq (bt F) 110 [.bO 0 0] [dk l k] Q by
  obtain⟨_,_,h,r,k',rfl,rfl,h1⟩:=h (fun v G=>∃r k',v=.agg [i64 r.n,Ny r.l]∧G=[dk l k']∧eM l k'∧jJ r=0∧r.n≤6∧∀i,i<r.l.length→(nth r.l i).r.w.length≤5) fun r k' a b c d=>⟨r,k',rfl,rfl,a,b,c,d⟩;exact⟨r,k',h,h1⟩
 intro Q hQ;refine jV rfl rfl ?_;obtain⟨a,k1,n1,kd,ha⟩:=gU hd 6 (by omega)
 obtain⟨m,hm⟩:∃m:Int,1+a=m:=⟨_,rfl⟩;simp (disch:=omega) [wrap64,K0,n1,hm];refine go_loop (fun s:List Lk×Int×Nat=>abv (.bO 0 0) s.2.1 [i64 0,.aK] [i64 m,.slice (some 1036) 4 (s.1.map Lk.row)] s.1.length [dk l s.2.2])
  (fun s=>Rm m s.1 s.2.1∧(0≤s.2.1∧s.2.1<m)∧eM l s.2.2) (fun s=>(m-s.2.1).toNat) ([],0,k1) rfl (by simp) ⟨⟨by simp,by simp,by simp⟩,by simp only;omega,kd⟩ ?_
 rintro⟨ls,n,k⟩ ⟨h1,h2,hd⟩;simp only at h1 h2 hd;have km:=h1.len;obtain⟨b,k2,n2,ik,hb⟩:=gU hd 6 (by omega)
 simp (disch:=omega) [wrap64,RW];refine b9 (fun h6=>?_) (fun h6=>?_)
 ·by_cases h7:0<b
  ·obtain⟨e,k3,n3,mV,he⟩:=gU ik (m-n-1) (by omega)
   obtain⟨r,k4,n4,rE,rA,oF⟩:=ajD mV;simp (disch:=omega) [wrap64,n2,h7,n3,n4];exact cc (ls++[⟨n,n+1+e,r⟩],n+1,k4) (by simp) ⟨h1.snoc h2.1 rfl (by simp only;omega) (by simp only;omega) rA oF,by simp only;omega,rE⟩ (by simp only;omega)
  ·simp (disch:=omega) [wrap64,n2,h7]
   exact cc (ls,n+1,k2) (by simp) ⟨h1.skip,by simp only;omega,ik⟩ (by simp only;omega)
 ·refine hQ ⟨m,ls⟩ k hd (h1.mT (by omega)) (by simp only;omega) fun i hi=>(h1.link i hi).2.2.2.2.2
structure Cm(c:Cs):Prop where
 mT:gu c=0
 n:c.r.n≤6
 s:c.s.length≤3
 w:∀i,i<c.r.l.length→(nth c.r.l i).r.w.length≤5
theorem Cm.small{c:Cs}(h:Cm c):oo c.r:=by
 have:=(nP (oZ h.mT).k).len;exact⟨by omega,fun i hi=>by have:=h.w i hi;omega⟩
structure Sm(m:Int)(s:List Si)(l:List Ds)(n:Int):Prop where
 len:l.length=s.length
 three:s.length≤3
 site:∀i,i<s.length→(0≤(nth s i).n∧(nth s i).n<m∧(nth s i).n<n)∧fB (nth s i).d=0∧g8 (nth s i).d (nth l i)
 up:∀i,0<i→i<s.length→(nth s (i-1)).n<(nth s i).n
abbrev HW(l:List Si):V:=.slice (some 0) 10 (l.map Si.row)
abbrev HX(l:List Ds):V:=.slice (some 0) 4 (l.map Ds.row)
theorem Sm.snoc{m:Int}{s:List Si}{l:List Ds}{n:Int}(h:Sm m s l n)(h3:s.length<3)(hn:0≤n∧n<m){d:Dm}{x:Ds}(h1:fB d=0)(h2:g8 d x):Sm m (s++[⟨n,d⟩]) (l++[x]) (n+1):=by
 refine⟨by simp[h.len],by simp;omega,fun i hi=>?_,fun i h0 hi=>?_⟩
 ·simp at hi
  rw[iS,iS,h.len];split
  ·have:=h.site i (by assumption)
   exact⟨by omega,this.2⟩
  ·rw[if_pos (by omega),if_pos (by omega)];exact⟨by simp only;omega,h1,h2⟩
 ·simp at hi
  rw[iS,iS,if_pos (by omega)]
  split
  ·exact h.up i h0 (by assumption)
  ·rw[if_pos (by omega)]
   exact(h.site (i-1) (by omega)).1.2.2
theorem Sm.skip{m:Int}{s:List Si}{l:List Ds}{n:Int}(h:Sm m s l n):Sm m s l (n+1) :=
 ⟨h.len,h.three,fun i hi=>⟨by have:=h.site i hi;omega,(h.site i hi).2⟩,h.up⟩
theorem Sm.mT{r:Rr}{s:List Si}{l:List Ds}{n:Int}(h:Sm r.n s l n)(hk:jJ r=0)(h6:r.n≤6):gu ⟨r,s⟩=0:=by
 unfold gu;simp only;have h3:=h.three;rw[if_neg (by omega),if_neg (by omega),if_neg (by omega)]
 refine rC fun i _ hi=>?_;have hi:i<s.length:=by omega
 have a:=h.site i hi;show(if 0≤(nth s i).n∧(nth s i).n<r.n then (if 0<i∧(nth s i).n≤(nth s (i-1)).n then 4 else fB (nth s i).d) else 41)=0
 rw[if_pos (by omega),if_neg (fun g=>by have:=h.up i g.1 hi;omega)]
 exact a.2.1
theorem apN{l:List Int}{k:Nat}(hd:eM l k):∃c s k',bt F 52 [.bO 0 0] [dk l k]=some (.tuple [.agg [i64 c.r.n,nN c.r.l,HW c.s],HX s],[dk l k'])∧eM l k'∧Cm c∧m8 c s:=by
 suffices h:∀Q:V→List aW→Prop,(∀c s k',eM l k'→Cm c→m8 c s→Q (.tuple [.agg [i64 c.r.n,nN c.r.l,HW c.s],HX s]) [dk l k'])→jq (bt F) 52 [.bO 0 0] [dk l k] Q by
  obtain⟨_,_,h,c,s,k',rfl,rfl,h1⟩:=h (fun v G=>∃c s k',v=.tuple [.agg [i64 c.r.n,nN c.r.l,HW c.s],HX s]∧G=[dk l k']∧eM l k'∧Cm c∧m8 c s) fun c s k' a b d=>⟨c,s,k',rfl,rfl,a,b,d⟩;exact⟨c,s,k',h,h1⟩
 intro Q hQ;refine jV rfl rfl ?_;obtain⟨r,k1,n1,kd,hk,hn,hw⟩:=ajE hd;have ji:=(nP hk).n;simp (disch:=omega) [wrap64,KJ,n1];refine go_loop (fun s:List Si×List Ds×Int×Nat=>aaA (.bO 0 0) (.slice (some 1043) 4 (s.2.1.map Ds.row)) s.2.2.1 [i64 0,.aK,.aK] [i64 r.n,nN r.l,.slice (some 1039) 10 (s.1.map Si.row)] s.1.length s.2.1.length [dk l s.2.2.2])
  (fun s=>Sm r.n s.1 s.2.1 s.2.2.1∧(0≤s.2.2.1∧s.2.2.1≤r.n)∧eM l s.2.2.2) (fun s=>(r.n-s.2.2.1).toNat) ([],[],0,k1) rfl (by simp) ⟨⟨rfl,by simp,by simp,by simp⟩,by simp only;omega,kd⟩ ?_
 rintro⟨s,d,n,k⟩ ⟨h1,h2,hd⟩;simp only at h1 h2 hd;have h3:=h1.three;have hl:=h1.len;have fin:Q (.tuple [.agg [i64 r.n,nN r.l,HW s],HX d]) [dk l k]:=hQ ⟨r,s⟩ d k hd ⟨h1.mT hk hn,hn,h3,hw⟩ ⟨hl,fun i hi=>(h1.site i hi).2⟩;by_cases h4:n<r.n
 ·by_cases h5:s.length<3
  ·have v7:(s.length:Int)<3:=by omega
   obtain⟨b,k2,n2,ik,hb⟩:=gU hd 2 (by omega)
   by_cases h6:b=0
   ·obtain⟨dd,x,k3,n3,mV,tV⟩:=aiD ik
    simp (disch:=omega) [wrap64,Dy,h4,v7,n2,h6,n3];exact cc (s++[⟨n,dd⟩],d++[x],n+1,k3) (by simp[hl]) ⟨h1.snoc h5 (by omega) tV.mT tV.fit,by simp only;omega,mV⟩ (by simp only;omega)
   ·simp (disch:=omega) [wrap64,Dy,h4,v7,n2,h6]
    exact cc (s,d,n+1,k2) (by simp) ⟨h1.skip,by simp only;omega,ik⟩ (by simp only;omega)
  ·have v7:¬ (s.length:Int)<3:=by omega
   simp (disch:=omega) [wrap64,Dy,h4,v7];exact fin
 ·simp (disch:=omega) [wrap64,Dy,h4]
  exact fin
theorem ajF{l:List Int}{k:Nat}(hd:eM l k){c:Cs}(hn:1≤c.r.n∧c.r.n≤40)(hs:c.s.length≤10) :
  ∃p k',bt F 16 [.bO 0 0,cs c] [dk l k]=some (.agg [uV p.a,uV p.b,uV p.c],[dk l k'])∧eM l k'∧oq c p∧fN p.a 30∧fN p.b 30∧fN p.c 30:=by
 suffices h:∀Q:V→List aW→Prop,(∀p k',eM l k'→oq c p→fN p.a 30→fN p.b 30→fN p.c 30→Q (.agg [uV p.a,uV p.b,uV p.c]) [dk l k'])→jq (bt F) 16 [.bO 0 0,cs c] [dk l k] Q by
  obtain⟨_,_,h,p,k',rfl,rfl,h1⟩:=h (fun v G=>∃p k',v=.agg [uV p.a,uV p.b,uV p.c]∧G=[dk l k']∧eM l k'∧oq c p∧fN p.a 30∧fN p.b 30∧fN p.c 30) fun p k' a b d e g=>⟨p,k',rfl,rfl,a,b,d,e,g⟩;exact⟨p,k',h,h1⟩
 intro Q hQ;refine jV rfl rfl ?_;obtain⟨⟨n,r⟩,s⟩:=c;simp only at hn hs;have snoc:∀{a:List Int} {x:Int},fN a 30→(0≤x∧x≤30)→fN (a++[x]) 30:=fun h hx i hi=>by
  simp at hi;rw[iS];split
  ·exact h i (by assumption)
  ·rw[if_pos (by omega)];exact hx
 simp (disch:=omega) [wrap64,KD];refine go_loop (fun y:List Int×Nat=>⟨[(0,.bO 0 0),(3,.bK 3 0),(4,.bK 4 0),(5,.bK 5 0),(8,i64 n),(9,i64 y.1.length)],[(3,[i64 n,nN r,rJ s]),(4,[.aK,.aK,.aK]),(5,[.slice (some 1016) 1 (y.1.map fun n=>[i64 n]),.aK,.aK])],[(1016,y.1.length)],[dk l y.2]⟩)
  (fun y=>(y.1.length:Int)≤n∧fN y.1 30∧eM l y.2) (fun y=>(n-y.1.length).toNat) ([],k) rfl (by simp) ⟨by simp;omega,fun i hi=>by simp at hi,hd⟩ ?_
 rintro⟨a,k⟩ ⟨h1,h2,hd⟩;simp only at h1 h2 hd;obtain⟨x,k1,n1,kd,hx⟩:=gU hd 14 (by omega)
 simp (disch:=omega) [wrap64,Rf];refine b9 (fun h3=>?_) (fun h3=>?_)
 ·simp (disch:=omega) [wrap64,n1]
  exact cc (a++[x],k1) (by simp) ⟨by simp;omega,snoc h2 (by omega),kd⟩ (by simp;omega)
 ·refine go_loop (fun y:List Int×List Int×Nat=>⟨[(0,.bO 0 0),(4,.bK 4 0),(5,.bK 5 0),(21,i64 s.length),(22,i64 y.1.length)],[(4,[.aK,.aK,.aK]),(5,[.slice (some 1016) 1 (a.map fun n=>[i64 n]),.slice (some 1029) 1 (y.1.map fun n=>[i64 n]),.slice (some 1035) 1 (y.2.1.map fun n=>[i64 n])])],[(1016,a.length),(1029,y.1.length),(1035,y.2.1.length)],[dk l y.2.2]⟩)
   (fun y=>y.1.length≤s.length∧y.2.1.length=y.1.length∧fN y.1 30∧fN y.2.1 30∧eM l y.2.2) (fun y=>s.length-y.1.length) ([],[],k) rfl (by simp) ⟨by simp,rfl,fun i hi=>by simp at hi,fun i hi=>by simp at hi,hd⟩ ?_
  rintro⟨b,d,k⟩ ⟨g1,g2,g3,g4,hd⟩;simp only at g1 g2 g3 g4 hd;obtain⟨x,k1,n1,kd,hx⟩:=gU hd 3 (by omega)
  obtain⟨y,k2,n2,ik,hy⟩:=gU kd 30 (by omega)
  simp (disch:=omega) [wrap64,Rg];refine b9 (fun h4=>?_) (fun h4=>?_)
  ·simp (disch:=omega) [wrap64,n1,n2,g2]
   exact cc (b++[x],d++[y],k2) (by simp[g2]) ⟨by simp;omega,by simp[g2],snoc g3 (by omega),snoc g4 (by omega),ik⟩ (by simp;omega)
  ·refine hQ ⟨a,b,d⟩ k hd ⟨by simp only;omega,by simp only;omega,by simp only;omega⟩ h2 g3 g4
structure Co where
 arr:List Int
 d:List Ds
 w:List (List Int)
 re:List Dr
 lf:List Int
 cm:List Int
def rL(r:Dr):Int:=r.tur+r.spi+r.ovr
noncomputable def lO(c:Cs)(p:Sp)(v:Co)(k:Nat):Int:=match me c.s k with
 |none=>0
 |some i=>mZ (nth c.s i).d (nth v.d i) (nth v.arr k) (nth p.b i) (nth p.c i)
noncomputable def vR(c:Cs)(p:Sp)(v:Co)(k i:Nat):Dr:=la (nth c.s i).d (nth v.d i) (nth v.arr k) (nth p.b i) (nth p.c i)
noncomputable def fG(c:Cs)(p:Sp)(v:Co)(k:Nat):Int:=match me c.s k with
 |none=>nth v.arr k
 |some i=>rL (vR c p v k i)
noncomputable def vD(c:Cs)(p:Sp)(v:Co)(k:Nat):Co:=match me c.s k with
 |none=>{ v with lf:=v.lf++[fG c p v k] }
 |some i=>{ v with d:=v.d.set i (lr (nth c.s i).d (nth v.d i) (nth v.arr k) (nth p.b i) (nth p.c i)),re:=v.re++[vR c p v k i],lf:=v.lf++[fG c p v k] }
noncomputable def nQ(c:Cs)(v:Co)(x:Int)(k:Nat):Int:=match lu c.r.l k with
 |none=>0
 |some j=>gD (nth c.r.l j).r (nth v.w j) x
noncomputable def vL(c:Cs)(v:Co)(x:Int)(k:Nat):Co:=match lu c.r.l k with
 |none=>v
 |some j=>{ v with w:=v.w.set j (m7 (nth c.r.l j).r (nth v.w j) x),cm:=v.cm++[m5 (nth c.r.l j).r (nth v.w j) x],arr:=v.arr.set (nth c.r.l j).t.toNat (nth v.arr (nth c.r.l j).t.toNat+m5 (nth c.r.l j).r (nth v.w j) x) }
noncomputable def vE(c:Cs)(p:Sp)(v:Co)(k:Nat):Int:=if lO c p v k≠0 then lO c p v k else nQ c v (fG c p v k) k
noncomputable def vS(c:Cs)(p:Sp)(v:Co)(k:Nat):Co:=vL c (vD c p v k) (fG c p v k) k
structure Vc(c:Cs)(p:Sp)(v:Co)(k:Nat):Prop where
 c0:gu c=0
 p:oq c p
 xw:(v.arr.length:Int)=c.r.n
 arr:∀j,j<v.arr.length→0≤nth v.arr j∧nth v.arr j≤1073741824+1125899906842624*k
 d:m8 c v.d
 w:BN c v.w
 rl:v.re.length≤k
 ll:v.lf.length=k
 cl:v.cm.length≤k
abbrev crs(c:Cs)(p:Sp)(t:Int)(v:Co):List V:=[i64 t,.dB 0 4 v.d.length,.dB 1 1 v.w.length,i64 c.r.n,nN c.r.l,rJ c.s,ints p.a,ints p.b,ints p.c,.dB 2 1 v.arr.length,
 .fC 7 (v.re.map Dr.row),.fC 1 (v.lf.map fun n=>[i64 n]),.fC 1 (v.cm.map fun n=>[i64 n])]
abbrev Gc(c:Cs)(p:Sp)(t:Int)(v:Co)(J:List aW):List aW:=.cells (jj v.d)::.cells (kC v.w)::.cells (dS v.arr)::.cells (crs c p t v)::J
theorem HZ{l:List Ds}{i:Nat}(h:i<l.length):((jj l).drop (i*4)).take 4=(nth l i).row:=Nq (row:=Ds.row) (fun _=>rfl) h
theorem VK{l:List Ds}{i:Nat}(h:i<l.length)(x:Ds):iZ (jj l) (i*4) x.row=jj (l.set i x):=HR (row:=Ds.row) (fun _=>rfl) h
theorem H0{l:List (List Int)}{i:Nat}(h:i<l.length):((kC l).drop i).take 1=[ints (nth l i)]:=by
 have:=Nq (row:=fun p=>[ints p]) (k:=1) (fun _=>rfl) h
 rwa [Nat.mul_one]at this
theorem ajH{l:List (List Int)}{i:Nat}(h:i<l.length)(x:List Int):iZ (kC l) i [ints x]=kC (l.set i x):=by
 have:=HR (row:=fun p=>[ints p]) (k:=1) (fun _=>rfl) (x:=x) h
 rwa [Nat.mul_one]at this
theorem VL{d:Dm}{s:Ds}{a b c:Int}(h:mZ d s a b c=0):fB d=0∧g8 d s∧(0≤a∧a≤1073741824)∧(0≤b∧b≤1073741824)∧(0≤c∧c≤1073741824):=by
 unfold mZ at h;split at h
 ·rename_i h1;exact absurd h h1
 ·rename_i h1
  split at h
  ·cases h
  ·rename_i h2
   have h1:dE d s=0:=Decidable.of_not_not h1;have hd:fB d=0:=by
    unfold dE at h1;split at h1
    ·rename_i h3;exact absurd h1 h3
    ·rename_i h3;exact Decidable.of_not_not h3
   simp only[List.any_cons,List.any_nil,uS,Bool.or_false,Bool.or_eq_true,Bool.not_eq_true',decide_eq_false_iff_not,not_or,Classical.not_not]at h2;exact⟨hd,(Es h1).2,h2.1,h2.2.1,h2.2.2⟩
theorem VM{d:Dm}{s:Ds}{a b c:Int}(h:mZ d s a b c=0):((0≤(la d s a b c).tur∧(la d s a b c).tur≤1073741824)∧(0≤(la d s a b c).spi∧(la d s a b c).spi≤17179869184)∧(0≤(la d s a b c).ovr∧(la d s a b c).ovr≤1073741824)) ∧
  (0≤(la d s a b c).los∧(la d s a b c).los≤1073741824)∧(lr d s a b c).v=s.v+a-(la d s a b c).los-rL (la d s a b c):=by
 obtain⟨hd,hf,ha,hb,hc⟩:=VL h;have pA:=tW hd;have p:=M8 pA hf ha hb hc;have hv:=hf.1;have hL:eB s a b=s.v+a-min b (s.v+a):=rfl;have hO:qT d s a b c=max (eB s a b-(fT d s a b c+kZ d s a b c)-jH d) 0:=rfl;have IY:=p.T0;have hTr:=p.Tr;have hP0:=p.P0;have hP1:=p.P1;have e1:(la d s a b c).los=min b (s.v+a):=rfl;have e2:(la d s a b c).tur=fT d s a b c:=rfl;have e3:(la d s a b c).spi=kZ d s a b c:=rfl;have e4:(la d s a b c).ovr=qT d s a b c:=rfl;have e5:(lr d s a b c).v=eB s a b-(fT d s a b c+kZ d s a b c)-qT d s a b c:=rfl;unfold rL;rw[e1,e2,e3,e4,e5];omega
theorem Nz{r:Rc}{p:List Int}{x:Int}(h:gD r p x=0):e8 r=0∧iv r p∧(0≤x∧x≤1073741824)∧sV r p x:=by
 unfold gD at h;split at h
 ·rename_i h1;exact absurd h h1
 ·rename_i h1
  split at h
  ·rename_i h2
   split at h
   ·rename_i h3;exact⟨Decidable.of_not_not h1,h2,h3⟩
   ·cases h
  ·cases h
theorem EE{r:Rc}{p:List Int}{x:Int}(h:gD r p x=0):0≤m5 r p x∧m5 r p x≤1125899906842624:=by
 obtain⟨h1,h2,h3,h4⟩:=Nz h;have hv:=wa h1;have q:=wc hv h2 h3 0;have:=h4 0 (by have:=hv.pos;omega)
 have a:=Int.ediv_nonneg q.1 (show 0≤r.den by have:=hv.den;omega)
 have b:=Int.ediv_le_self r.den q.1;unfold m5;omega
theorem NA{l:List (List Int)}{i:Nat}(x:List Int):(kC l).set i (.slice none 1 (x.map fun n=>[i64 n]))=kC (l.set i x):=by
 rcases Nat.lt_or_ge i l.length with h|h
 ·rw[←ajH h];rfl
 ·rw[List.set_eq_of_length_le (by simpa using h),List.set_eq_of_length_le h]
set_option maxRecDepth 100000 in
set_option maxHeartbeats 4000000 in
theorem ajI{c:Cs}(hr:oo c.r){p:Sp}{v:Co}{k:Nat}(h:Vc c p v k)(hk:k<v.arr.length)(t:Int)(J:List aW) :
  ∃G',bt F 113 [.bO 3 0,i64 k] (Gc c p t v J)=some (i64 (vE c p v k),G')∧(vE c p v k=0→G'=Gc c p t (vS c p v k) (J++[.cells [i64 k]])):=by
 suffices hh:∀Q:V→List aW→Prop,(∀G',(vE c p v k=0→G'=Gc c p t (vS c p v k) (J++[.cells [i64 k]]))→Q (i64 (vE c p v k)) G')→jq (bt F) 113 [.bO 3 0,i64 k] (Gc c p t v J) Q by
  obtain⟨_,G',h,rfl,h1⟩:=hh (fun x G'=>x=i64 (vE c p v k)∧(vE c p v k=0→G'=Gc c p t (vS c p v k) (J++[.cells [i64 k]]))) fun G' g=>⟨rfl,g⟩;exact⟨G',h,h1⟩
 intro Q hQ;refine jV rfl rfl ?_;have cv:=oZ h.c0;generalize xy:J++[aW.cells [i64 k]]=J' at hQ;have hJ:J'[J.length]?=some (.cells [i64 k]):=by rw[←xy];exact List.getElem?_concat_length
 have qj:∀G0 G1 G2 G3,bt F 157 [rJ c.s,.fn 158 [.bO (J.length+1+1+1+1) 0]] (G0::G1::G2::G3::J')=some (i64 (rK (me c.s k)),G0::G1::G2::G3::J') :=
  fun G0 G1 G2 G3=>ajt c.s (by have:=cv.s;omega) k (G:=G0::G1::G2::G3::J') hJ
 have qk:∀G0 G1 G2 G3,bt F 160 [nN c.r.l,.fn 161 [.bO (J.length+1+1+1+1) 0]] (G0::G1::G2::G3::J')=some (i64 (rK (lu c.r.l k)),G0::G1::G2::G3::J') :=
  fun G0 G1 G2 G3=>aju c.r.l (by have:=(nP cv.k).len;omega) k (G:=G0::G1::G2::G3::J') hJ
 have EF:k<v.arr.length:=hk;have km:=h.ll;have apO:k≤12:=by have:=h.xw;have:=cv.n;omega
 have yh:=h.rl;have dD:=h.cl;have A3:∀j,lu c.r.l k=some j→j<c.r.l.length∧j<v.w.length∧(nth c.r.l j).t.toNat<v.arr.length∧0≤(nth c.r.l j).t:=fun j hl=>by
  have hj:=(wg hl).1;have nD:j<c.r.l.length:=by omega
  have:=(nP cv.k).link nD;have:=h.xw;have:=h.w.1;omega
 cases hs:me c.s k with
 |none =>
  have e0:lO c p v k=0:=by simp only[lO,hs]
  have e1:fG c p v k=nth v.arr k:=by simp only[fG,hs]
  have eE:vE c p v k=nQ c v (nth v.arr k) k:=by rw[vE,e0,e1];rfl
  have e2:vS c p v k=vL c { v with lf:=v.lf++[nth v.arr k] } (nth v.arr k) k:=by rw[vS,vD,e1,hs]
  rw[hs]at qj;cases hl:lu c.r.l k with
  |none =>
   rw[hl]at qk;simp only[rK]at qj qk;have e3:vE c p v k=0:=by rw[eE,nQ,hl]
   rw[e3]at hQ;simp (disch:=omega) [-getElem?_pos,wrap64,vN,qj,xy,hJ,kT,qk];refine hQ _ fun _=>?_;rw[e2,vL,hl];simp
  |some j =>
   rw[hl]at qk;simp only[rK]at qj qk;obtain⟨nD,EZ,NB,hj4⟩:=A3 j hl;have hR:=Vl (nth c.r.l j).r (hr.2 j nD) (nth v.w j) (by have:=(h.w.2 j nD).2.1;have:=(wa (h.w.2 j nD).1).len;omega) (nth v.arr k)
   have e3:vE c p v k=gD (nth c.r.l j).r (nth v.w j) (nth v.arr k):=by rw[eE,nQ,hl]
   rw[e3]at hQ;by_cases hz:gD (nth c.r.l j).r (nth v.w j) (nth v.arr k)=0
   ·have ho:=EE hz
    have ha:=h.arr (nth c.r.l j).t.toNat NB;rw[EB hz]at hR;rw[hz]at hQ;simp (disch:=omega) [-getElem?_pos,wrap64,vN,qj,xy,hJ,kT,qk,bo (l:=c.r.l),H0,NA,hR];refine hQ _ fun _=>?_;rw[e2,vL,hl];simp
   ·rw[zP rfl hz]at hR
    simp (disch:=omega) [-getElem?_pos,wrap64,vN,qj,xy,hJ,kT,qk,bo (l:=c.r.l),H0,hR,hz];exact hQ _ fun g=>absurd g hz
 |some i =>
  rw[hs]at qj;have hi:=(wg hs).1;have BR:i<c.s.length:=by omega
  have mo:i<v.d.length:=by have:=h.d.1;omega
  have F4:i<p.b.length:=by have:=h.p;unfold oq at this;omega
  have Hf:i<p.c.length:=by have:=h.p;unfold oq at this;omega
  obtain⟨Ga,hS⟩:=ais (nth c.s i).d (nth v.d i) (nth v.arr k) (nth p.b i) (nth p.c i);by_cases he:mZ (nth c.s i).d (nth v.d i) (nth v.arr k) (nth p.b i) (nth p.c i)=0
  ·have ND:=(VM he).1
   have e0:lO c p v k=0:=by simp only[lO,hs,he]
   have e1:fG c p v k=rL (vR c p v k i):=by simp only[fG,hs]
   have eE:vE c p v k=nQ c v (rL (vR c p v k i)) k:=by rw[vE,e0,e1];rfl
   have e2:vS c p v k=vL c { v with d:=v.d.set i (lr (nth c.s i).d (nth v.d i) (nth v.arr k) (nth p.b i) (nth p.c i)),re:=v.re++[vR c p v k i],lf:=v.lf++[rL (vR c p v k i)] } (rL (vR c p v k i)) k:=by rw[vS,vD,e1,hs]
   rw[qi,if_pos he]at hS;unfold vR at eE e2;generalize lr (nth c.s i).d (nth v.d i) (nth v.arr k) (nth p.b i) (nth p.c i)=S' at hS e2;generalize la (nth c.s i).d (nth v.d i) (nth v.arr k) (nth p.b i) (nth p.c i)=R' at hS ND eE e2;have hF:=aix R' (by omega) (by omega) (by omega)
   rw[show R'.tur+R'.spi+R'.ovr=rL R' from rfl]at hF;have j8:((((jj v.d).set (i*4) (i64 S'.v)).set (i*4+1) (i64 S'.rel)).set (i*4+1+1) (jD S'.u)).set (i*4+1+1+1) (ju S'.g)=jj (v.d.set i S'):=VK mo S';cases hl:lu c.r.l k with
   |none =>
    rw[hl]at qk;simp only[rK]at qj qk;have e3:vE c p v k=0:=by rw[eE,nQ,hl]
    rw[e3]at hQ;simp (disch:=omega) [-getElem?_pos,wrap64,vN,qj,xy,hJ,kT,qk,bo (l:=c.s),eA (l:=p.b),eA (l:=p.c),HZ,hS,hF,j8];refine hQ _ fun _=>?_;rw[e2,vL,hl];simp
   |some j =>
    rw[hl]at qk;simp only[rK]at qj qk;obtain⟨nD,EZ,NB,hj4⟩:=A3 j hl;have hR:=Vl (nth c.r.l j).r (hr.2 j nD) (nth v.w j) (by have:=(h.w.2 j nD).2.1;have:=(wa (h.w.2 j nD).1).len;omega) (rL R')
    have e3:vE c p v k=gD (nth c.r.l j).r (nth v.w j) (rL R'):=by rw[eE,nQ,hl]
    rw[e3]at hQ;by_cases hz:gD (nth c.r.l j).r (nth v.w j) (rL R')=0
    ·have ho:=EE hz
     have ha:=h.arr (nth c.r.l j).t.toNat NB;rw[EB hz]at hR;rw[hz]at hQ;simp (config:={ maxSteps:=2000000 }) +contextual (disch:=omega) [-getElem?_pos,-List.length_eq_zero_iff,-Int.natCast_eq_zero,wrap64,vN,qj,xy,hJ,kT,qk,bo (l:=c.r.l),H0,NA,hR,bo (l:=c.s),eA (l:=p.b),eA (l:=p.c),HZ,hS,hF,j8];refine hQ _ fun _=>?_;rw[e2,vL,hl];simp
    ·rw[zP rfl hz]at hR
     simp (config:={ maxSteps:=2000000 }) +contextual (disch:=omega) [-getElem?_pos,-List.length_eq_zero_iff,-Int.natCast_eq_zero,wrap64,vN,qj,xy,hJ,kT,qk,bo (l:=c.r.l),H0,hR,hz,bo (l:=c.s),eA (l:=p.b),eA (l:=p.c),HZ,hS,hF,j8];exact hQ _ fun g=>absurd g hz
  ·rw[qi,if_neg he]at hS
   simp only[rK]at qj;have e3:vE c p v k=mZ (nth c.s i).d (nth v.d i) (nth v.arr k) (nth p.b i) (nth p.c i):=by
    have:lO c p v k=mZ (nth c.s i).d (nth v.d i) (nth v.arr k) (nth p.b i) (nth p.c i):=by simp only[lO,hs]
    rw[vE,this,if_pos he]
   rw[e3]at hQ;have he':=decide_eq_false he;simp (disch:=omega) [-getElem?_pos,wrap64,vN,qj,xy,hJ,kT,qk,bo (l:=c.s),eA (l:=p.b),eA (l:=p.c),HZ,hS,he'];exact hQ _ fun g=>absurd g he
end Go.Proofs.YtmpikpodpgnjhaaGreat
namespace Go.Proofs.YtmpikpodpgnjhaaGreat
set_option linter.all false
open Go.Vm
theorem VN{f:Nat→Int}:∀n,oj f n≤n
 |0=>Nat.le_refl _
 |n+1=>by
  unfold oj;split
  ·exact Nat.le_succ_of_le (VN n)
  ·exact Nat.le_refl _
theorem VP{f:Nat→Int}:∀n,0<oj f n→f (oj f n-1)≠0
 |0,h=>by simp[oj]at h
 |n+1,h=>by
  unfold oj at h ⊢;split
  ·rename_i h1;rw[if_pos h1]at h;exact VP n h
  ·rename_i h1;exact h1
theorem ajL{f:Nat→Int}{n i:Nat}(h:i<n):nth ((List.range n).map f) i=f i:=by
 simp[nth,h]
theorem ajM{r:Rc}{p:List Int}{x:Int}(h:gD r p x=0):iv r (m7 r p x):=by
 obtain⟨h1,h2,h3,h4⟩:=Nz h;have hv:=wa h1;have hl:(m7 r p x).length=oj (rN r p x) r.w.length:=by simp[m7]
 have hle:=VN (f:=rN r p x) r.w.length;have hn:∀i,i<oj (rN r p x) r.w.length→nth (m7 r p x) i=rN r p x i:=fun i hi=>ajL hi;refine⟨by omega,fun h0=>?_,fun i hi=>?_⟩
 ·rw[hl]at h0 ⊢
  rw[hn _ (by omega)]
  exact VP _ h0
 ·rw[hn i (by omega)]
  have hd:=hv.den;have q0:=wc hv h2 h3 0;have hb:∀k,k≤r.w.length→0≤rq r p x k∧rq r p x k≤1125899906842624:=fun k hk=>by
   rcases Nat.lt_or_ge k r.w.length with g|g
   ·exact⟨(wc hv h2 h3 k).1,h4 k g⟩
   ·have e:rq r p x k=0:=by unfold rq;rw[wb g,wb (by have:=h2.1;omega)];simp
    rw[e];omega
  unfold rN;split
  ·have:=hb 1 hv.pos
   have:=Int.emod_nonneg (rq r p x 0) (show r.den≠0 by omega)
   have:=Int.emod_lt_of_pos (rq r p x 0) (show 0<r.den by omega)
   omega
  ·have:=hb (i+1) (by omega)
   omega
theorem H2{α:Type}[Inhabited α]{l:List α}{i j:Nat}{x:α}(h:i<l.length):nth (l.set i x) j=if j=i then x else nth l j:=xv h
theorem VQ{c:Cs}{p:Sp}{v:Co}{k:Nat}(he:vE c p v k=0):lO c p v k=0∧nQ c v (fG c p v k) k=0:=by
 unfold vE at he;split at he
 ·rename_i h1;exact absurd he h1
 ·rename_i h1;exact⟨Decidable.of_not_not h1,he⟩
theorem EG{c:Cs}{p:Sp}{v:Co}{k:Nat}:(vD c p v k).arr=v.arr∧(vD c p v k).w=v.w∧(vD c p v k).cm=v.cm∧(vD c p v k).lf=v.lf++[fG c p v k]:=by
 unfold vD;cases me c.s k<;>exact⟨rfl,rfl,rfl,rfl⟩
theorem ajN{c:Cs}{p:Sp}{v:Co}{k:Nat}(h:m8 c v.d)(h0:lO c p v k=0):m8 c (vD c p v k).d:=by
 unfold vD;unfold lO at h0;cases hs:me c.s k with
 |none=>exact h
 |some i =>
  rw[hs]at h0;have hi:=(wg hs).1;have mo:i<v.d.length:=by have:=h.1;omega
  obtain⟨g1,g2,ga,gb,gc⟩:=VL h0;refine⟨by simp only[List.length_set];exact h.1,fun j hj=>?_⟩
  rw[H2 mo];by_cases e:j=i
  ·rw[if_pos e,e]
   exact⟨g1,aiR (tW g1) g2 ga gb gc⟩
  ·rw[if_neg e]
   exact h.2 j hj
theorem Vc.next{c:Cs}{p:Sp}{v:Co}{k:Nat}(h:Vc c p v k)(he:vE c p v k=0):Vc c p (vS c p v k) (k+1):=by
 have cv:=oZ h.c0;obtain⟨h0,hL⟩:=VQ he;obtain⟨s1,s2,s3,s4⟩:=EG (c:=c) (p:=p) (v:=v) (k:=k);have hd:=ajN h.d h0;have BS:(vD c p v k).re.length≤k+1:=by
  have:=h.rl;unfold vD;cases me c.s k<;>simp<;>omega
 have km:=h.ll;have dD:=h.cl;unfold vS vL;unfold nQ at hL;cases hl:lu c.r.l k with
 |none =>
  refine⟨h.c0,h.p,by rw[s1];exact h.xw,fun j hj=>?_,hd,by rw[s2];exact h.w,BS,by rw[s4];simp;omega,by rw[s3];omega⟩
  rw[s1]at hj ⊢;have:=h.arr j hj;omega
 |some j =>
  rw[hl]at hL;have hj:=(wg hl).1;have hjw:j<v.w.length:=by have:=h.w.1;omega
  have ho:=EE hL;have hf:=ajM hL;have hc:=(Nz hL).1;simp only[s1,s2,s3,s4];refine⟨h.c0,h.p,by simp only[List.length_set];exact h.xw,fun i hi=>?_,hd,⟨by simp only[List.length_set];exact h.w.1,fun i hi=>?_⟩,BS,by simp;omega,by simp;omega⟩
  ·simp only[List.length_set]at hi
   have BT:=h.arr i hi;by_cases e:i=(nth c.r.l j).t.toNat
   ·subst e
    rw[H2 hi,if_pos rfl];exact⟨Int.add_nonneg BT.1 ho.1,Int.le_trans (Int.add_le_add BT.2 ho.2) (by omega)⟩
   ·rcases Nat.lt_or_ge (nth c.r.l j).t.toNat v.arr.length with g|g
    ·rw[H2 g,if_neg e];exact⟨BT.1,Int.le_trans BT.2 (by omega)⟩
    ·rw[List.set_eq_of_length_le g];exact⟨BT.1,Int.le_trans BT.2 (by omega)⟩
  ·rw[H2 hjw]
   by_cases e:i=j
   ·rw[if_pos e,e]
    exact⟨hc,hf⟩
   ·rw[if_neg e]
    exact h.w.2 i hi
noncomputable def cB(c:Cs)(p:Sp)(f:Fl):Nat→Co
 |0=>⟨p.a,f.d,f.w,[],[],[]⟩
 |k+1=>vS c p (cB c p f k) k
noncomputable def jK(c:Cs)(f:Fl)(p:Sp):Int :=
 if oq c p then (if fN (p.a++p.b++p.c) 1073741824 then (if f.t=16777216 then 6 else ed (fun k=>vE c p (cB c p f k) k) c.r.n.toNat 0) else 1) else 3
structure Ps where
 re:List Dr
 lf:List Int
 cm:List Int
abbrev Ps.row(x:Ps):List V:=[.slice none 7 (x.re.map Dr.row),ints x.lf,ints x.cm]
abbrev ps(x:Ps):V:=.agg x.row
noncomputable def wo(c:Cs)(f:Fl)(p:Sp):Fl:=⟨f.t+1,(cB c p f c.r.n.toNat).d,(cB c p f c.r.n.toNat).w⟩
noncomputable def zV(c:Cs)(f:Fl)(p:Sp):Ps:=⟨(cB c p f c.r.n.toNat).re,(cB c p f c.r.n.toNat).lf,(cB c p f c.r.n.toNat).cm⟩
abbrev paX(e:Int):V:=.tuple [.agg [i64 0,.slice (some 0) 4 [],.slice (some 0) 1 []],.agg [.slice (some 0) 7 [],.slice (some 0) 1 [],.slice (some 0) 1 []],i64 e]
noncomputable def BU(c:Cs)(f:Fl)(p:Sp)(e:Int):V:=if e=0 then .tuple [fl (wo c f p),ps (zV c f p),i64 0] else paX e
theorem ajS{l:List Int}:(l.any fun x => !decide (0≤x∧x≤1073741824)) = !decide (fN l 1073741824):=by
 by_cases h:fN l 1073741824
 ·rw[decide_eq_true h]
  refine List.any_eq_false.2 fun x hx=>?_;obtain⟨i,hi,rfl⟩:=List.mem_iff_getElem.1 hx;have:=h i hi;rw[show nth l i=l[i] by simp[nth,hi]]at this
  simp;exact this
 ·rw[decide_eq_false h]
  cases hb:l.any fun x => !decide (0≤x∧x≤1073741824) with
  |true=>rfl
  |false =>
   refine absurd (fun i hi=>?_) h;have:=List.any_eq_false.1 hb (nth l i) (rZ hi);simpa using this
theorem vc0{c:Cs}{f:Fl}{p:Sp}(hc:gu c=0)(hf:kB c f)(hp:oq c p)(ha:fN (p.a++p.b++p.c) 1073741824):Vc c p (cB c p f 0) 0:=by
 refine⟨hc,hp,hp.1,fun j hj=>?_,hf.2.1,hf.2.2,by simp[cB],by simp[cB],by simp[cB]⟩
 have hj:j<p.a.length:=hj;have:=ha j (by simp;omega)
 rw[og (by simp;omega),og hj]at this
 show 0≤nth p.a j∧nth p.a j≤_;omega
theorem vcs{c:Cs}{f:Fl}{p:Sp}(hc:gu c=0)(hf:kB c f)(hp:oq c p)(ha:fN (p.a++p.b++p.c) 1073741824):∀{k:Nat},(∀j,j<k→vE c p (cB c p f j) j=0)→Vc c p (cB c p f k) k
 |0,_=>vc0 hc hf hp ha
 |k+1,h=>(vcs hc hf hp ha fun j hj=>h j (by omega)).next (h k (by omega))
end Go.Proofs.YtmpikpodpgnjhaaGreat
namespace Go.Proofs.YtmpikpodpgnjhaaGreat
set_option linter.all false
open Go.Vm
attribute [local simp] eU eV eS eT
theorem VR{c:Cs}{l:List (List Int)}(hk:jJ c.r=0)(h:BN c l):Ns l:=by
 have hl:=(nP hk).len;refine⟨by have:=h.1;omega,fun i hi=>?_⟩
 have pS:i<c.r.l.length:=by have:=h.1;omega
 have:=(h.2 i pS).2.1;have:=(wa (h.2 i pS).1).len;omega
theorem ajU{id t:Nat}{l:List Int}(hl:l≠[]):jN id 0 (.slice (some t) 1 (l.map fun n=>[V.int .i64 n]))=some (.cb id 1 l.length,some (dS l)):=by
 have h:=Q3 (id:=id) (t:=t) (l:=l) (vs:=[]) rfl hl;simp[jN,h]
theorem ajV{p:List Int}:(dS p).all V.sc=true:=by simp[dS,V.sc]
set_option maxRecDepth 100000 in
set_option maxHeartbeats 2000000 in
theorem ajW{c:Cs}(hr:oo c.r)(hc:gu c=0){f:Fl}(hf:kB c f)(p:Sp):∃G',bt F 55 [cs c,fl f,sv p] []=some (BU c f p (jK c f p),G'):=by
 suffices h:∀Q:V→Prop,Q (BU c f p (jK c f p))→jq (bt F) 55 [cs c,fl f,sv p] [] fun v _=>Q v by
  obtain⟨_,G',h,rfl⟩:=h (fun v=>v=BU c f p (jK c f p)) rfl;exact⟨G',h⟩
 intro Q hQ;refine jV rfl rfl ?_;have cv:=oZ hc;have kv:=nP cv.k;have tX:=ajx c p;by_cases h1:oq c p
 case neg =>
  rw[show jK c f p=3 by unfold jK;rw[if_neg h1]]at hQ
  simp (disch:=omega) [wrap64,A7,tX,h1];exact hQ
 have pW:p.a.length≤12:=by have:=h1.1;have:=cv.n;omega
 have HF:p.b.length≤6:=by have:=h1.2.1;have:=cv.s;omega
 have dD:p.c.length≤6:=by have:=h1.2.2;have:=cv.s;omega
 have h2:=ajw p.a p.b p.c (by omega)
 have h3:=UP (p.a++p.b++p.c) (by simp;omega) (fun x => !decide (0≤x∧x≤1073741824)) 112 [] (fun n=>ajv n [])
 rw[ajS]at h3;by_cases h4:fN (p.a++p.b++p.c) 1073741824
 case neg =>
  rw[show jK c f p=1 by unfold jK;rw[if_pos h1,if_neg h4]]at hQ
  rw[decide_eq_false h4]at h3;generalize p.a++p.b++p.c=L at h2 h3;simp (disch:=omega) [wrap64,A7,tX,h1,h2,h3];exact hQ
 rw[decide_eq_true h4]at h3;have e4:=h4;generalize p.a++p.b++p.c=L at h2 h3;by_cases h5:f.t=16777216
 ·rw[show jK c f p=6 by unfold jK;rw[if_pos h1,if_pos e4,if_pos h5]]at hQ
  simp (disch:=omega) [wrap64,A7,tX,h1,h2,h3,h5];exact hQ
 have h6:jK c f p=ed (fun k=>vE c p (cB c p f k) k) c.r.n.toNat 0:=by unfold jK;rw[if_pos h1,if_pos e4,if_neg h5]
 have h7:=Vx f.d (Nw hc hf.2.1) [];have h8:=ajr f.w (VR cv.k hf.2.2) [.cells (jj f.d)];have h9:=Vy p.a (by omega)
 have ajX:=hf.1;have ajY:p.a≠[]:=fun g=>by have:=h1.1;rw[g]at this;have:=kv.n;simp at *;omega
 have H4:0<p.a.length:=by have:=h1.1;have:=kv.n;omega
 simp (disch:=omega) [wrap64,A7,tX,h1,h2,h3,h5,h7,h8,h9,ajU ajY,ajV,H4];have EY:=kv.n;refine go_loop (fun x:Nat×List aW=>aaF (.bO 3 0) c.r.n x.1 [z0,.aK,.aK] [.aK,.aK,.aK] (Gc c p (f.t+1) (cB c p f x.1) x.2))
  (fun x=>x.1≤c.r.n.toNat∧(∀j,j<x.1→vE c p (cB c p f j) j=0)∧ed (fun k=>vE c p (cB c p f k) k) (c.r.n.toNat-x.1) x.1=jK c f p) (fun x=>c.r.n.toNat-x.1) (0,[]) rfl (by simp[cB]) ⟨by omega,by simp,h6.symm⟩ ?_
 rintro⟨k,J⟩ ⟨hk,hz,hq⟩;simp only at hk hz hq;have BV:=vcs hc hf h1 e4 hz;simp (disch:=omega) [wrap64,Rw];refine b9 (fun fW=>?_) (fun fW=>?_)
 ·have ji:k<c.r.n.toNat:=by omega
  have EF:k<(cB c p f k).arr.length:=by have:=BV.xw;omega
  obtain⟨G',hv,hv2⟩:=ajI hr BV EF (f.t+1) J;rw[l7 ji]at hq;by_cases wM:vE c p (cB c p f k) k=0
  ·obtain rfl:=hv2 wM
   rw[if_pos wM]at hq;rw[wM]at hv;simp (disch:=omega) [wrap64,hv];refine cc (k+1,J++[.cells [i64 k]]) (by simp[cB]) ⟨by simp only;omega,fun j hj=>?_,hq⟩ (by simp only;omega)
   rcases Nat.lt_or_ge j k with g|g
   ·exact hz j g
   ·rwa [show j=k by simp only at hj;omega]
  ·rw[if_neg wM]at hq
   rw[←hq,BU,if_neg wM]at hQ;simp (disch:=omega) [wrap64,hv,wM];exact hQ
 ·obtain rfl:k=c.r.n.toNat:=by omega
  rw[mR]at hq;rw[←hq,BU,if_pos rfl]at hQ;simp (disch:=omega) [wrap64,zR,HU];exact hQ
abbrev VS(t:Option Nat)(e:Int):V:=.tuple [.agg [i64 0,.slice t 4 [],.slice t 1 []],.agg [.slice t 7 [],.slice t 1 [],.slice t 1 []],i64 e]
noncomputable def ot(c:Cs)(f:Fl)(p:Sp):Int:=if o0 c f≠0 then o0 c f else jK c f p
noncomputable def sW(t:Option Nat)(c:Cs)(f:Fl)(p:Sp):V:=if ot c f p=0 then .tuple [fl (wo c f p),ps (zV c f p),i64 0] else VS t (ot c f p)
theorem VT{c:Cs}{f:Fl}(h:o0 c f=0):gu c=0∧kB c f:=by
 unfold o0 at h;split at h
 ·rename_i h1;exact absurd h h1
 ·rename_i h1
  split at h
  ·exact⟨Decidable.of_not_not h1,by assumption⟩
  ·cases h
theorem NF{c:Cs}(hr:oo c.r){f:Fl}(hf:ua f)(p:Sp):∃t G',bt F 17 [cs c,fl f,sv p] []=some (sW t c f p,G'):=by
 have hd:=ajp c hr f hf;by_cases hz:o0 c f=0
 ·obtain⟨h1,h2⟩:=VT hz
  obtain⟨Ga,hp⟩:=ajW hr h1 h2 p;have e:ot c f p=jK c f p:=by unfold ot;rw[if_neg (by omega)]
  refine⟨none,[],?_⟩;unfold sW;rw[e];unfold BU at hp;by_cases h3:jK c f p=0
  ·rw[if_pos h3]at hp ⊢
   refine cg rfl rfl ?_;simp[wrap64,Di,hd,hz,hp]
  ·rw[if_neg h3]at hp ⊢
   refine cg rfl rfl ?_;simp[wrap64,Di,hd,hz,hp]
 ·have e:ot c f p=o0 c f:=by unfold ot;rw[if_pos hz]
  refine⟨some 0,[],?_⟩;unfold sW;rw[e,if_neg hz];refine cg rfl rfl ?_;simp[wrap64,Di,hd,hz]
def wq(g:Nat→Int)(n:Nat)(m:Nat)(k:Int):Prop:=m≤n∧(∀j,j<m→g j<k)∧∀j,m≤j→j<n→k≤g j
theorem uW{g:Nat→Int}{n m i:Nat}{k:Int}(h:wq g n m k)(Hh:∀j,0<j→j<n→g (j-1)<g j)(hi:i<n)(hg:g i=k):i=m∧wq g n (m+1) (k+1):=by
 have VU:∀a d,a+d+1<n→g a<g (a+d+1):=fun a d=>by
  induction d with
  |zero=>intro hd;have:=Hh (a+0+1) (by omega) hd;simpa using this
  |succ d ih =>
   intro hd;have h1:=ih (by omega)
   have h2:=Hh (a+(d+1)+1) (by omega) hd
   rw[show a+(d+1)+1-1=a+d+1 by omega]at h2
   omega
 have hmi:m≤i:=by
  rcases Nat.lt_or_ge i m with g1|g1
  ·have:=h.2.1 i g1;omega
  ·exact g1
 have him:i=m:=by
  rcases Nat.lt_or_ge m i with g1|g1
  ·have h1:=VU m (i-m-1) (by omega)
   rw[show m+(i-m-1)+1=i by omega]at h1
   have:=h.2.2 m (Nat.le_refl _) (by omega)
   omega
  ·omega
 subst him;refine⟨rfl,by omega,fun j hj=>?_,fun j hj hn=>?_⟩
 ·rcases Nat.lt_or_ge j i with g1|g1
  ·have:=h.2.1 j g1;omega
  ·rw[show j=i by omega];omega
 ·have h1:=VU i (j-i-1) (by omega)
  rw[show i+(j-i-1)+1=j by omega]at h1
  omega
theorem VV{g:Nat→Int}{n m:Nat}{k:Int}(h:wq g n m k)(hg:∀i,i<n→g i≠k):wq g n m (k+1) :=
 ⟨h.1,fun j hj=>by have:=h.2.1 j hj;omega,fun j hj hn=>by have:=h.2.2 j hj hn;have:=hg j hn;omega⟩
theorem VW{g:Nat→Int}{n:Nat}(h:∀j,j<n→0≤g j):wq g n 0 0:=⟨by omega,by omega,fun j _ hj=>h j hj⟩
theorem VX{g:Nat→Int}{n m:Nat}{k:Int}(h:wq g n m k)(hk:∀j,j<n→g j<k):m=n:=by
 have h1:=h.1;rcases Nat.lt_or_ge m n with g1|g1
 ·have:=h.2.2 m (Nat.le_refl _) g1
  have:=hk m g1;omega
 ·omega
abbrev qU(c:Cs):Nat→Int:=fun i=>(nth c.s i).n
abbrev wu(c:Cs):Nat→Int:=fun i=>(nth c.r.l i).f
theorem xz{c:Cs}(h:xu c){i:Nat}(hi:i<c.s.length):(0≤qU c i∧qU c i<c.r.n)∧(0<i→qU c (i-1)<qU c i)∧fB (nth c.s i).d=0:=by
 have he:=h.site i hi;unfold we at he;simp only at he;split at he
 ·split at he
  ·cases he
  ·rename_i h1 h2
   refine⟨h1,fun h0=>?_,he⟩;show(nth c.s (i-1)).n<(nth c.s i).n;omega
 ·cases he
structure Vo(c:Cs)(v:Co)(k:Nat):Prop where
 s:wq (qU c) c.s.length v.re.length k
 l:wq (wu c) c.r.l.length v.cm.length k
theorem VY{c:Cs}{k:Nat}(h:me c.s k=none):∀i,i<c.s.length→qU c i≠k:=fun i hi=>by
 have:=Nt h i (by omega) (by omega)
 simpa using this
theorem xA{c:Cs}{k i:Nat}(h:me c.s k=some i):i<c.s.length∧qU c i=k:=by
 have:=wg h;exact⟨by omega,by simpa using this.2.1⟩
theorem VZ{c:Cs}{k:Nat}(h:lu c.r.l k=none):∀i,i<c.r.l.length→wu c i≠k:=fun i hi=>by
 have:=Nt h i (by omega) (by omega)
 simpa using this
theorem xB{c:Cs}{k i:Nat}(h:lu c.r.l k=some i):i<c.r.l.length∧wu c i=k:=by
 have:=wg h;exact⟨by omega,by simpa using this.2.1⟩
theorem vo0{c:Cs}(h:xu c)(p:Sp)(f:Fl):Vo c (cB c p f 0) 0 :=
 ⟨VW fun j hj=>(xz h hj).1.1,VW fun j hj=>((nP h.k).link hj).1.1⟩
theorem Vo.next{c:Cs}(hc:xu c){p:Sp}{v:Co}{k:Nat}(h:Vo c v k):Vo c (vS c p v k) (k+1):=by
 obtain⟨s1,s2,s3,s4⟩:=EG (c:=c) (p:=p) (v:=v) (k:=k);have hs:wq (qU c) c.s.length (vD c p v k).re.length (k+1:Int):=by
  unfold vD;cases hs:me c.s k with
  |none=>exact VV h.s (VY hs)
  |some i =>
   obtain⟨a,b⟩:=xA hs;simp only[List.length_append,List.length_singleton];exact(uW h.s (fun j h0 hj=>(xz hc hj).2.1 h0) a b).2
 unfold vS vL;cases hl:lu c.r.l k with
 |none =>
  refine⟨hs,?_⟩;rw[s3];exact VV h.l (VZ hl)
 |some j =>
  obtain⟨a,b⟩:=xB hl;refine⟨hs,?_⟩;simp only[s3,List.length_append,List.length_singleton];exact(uW h.l (fun j h0 hj=>((nP hc.k).link hj).2.1 h0) a b).2
theorem zW{c:Cs}(hc:xu c)(p:Sp)(f:Fl):∀k,Vo c (cB c p f k) k
 |0=>vo0 hc p f
 |k+1=>(zW hc p f k).next hc
theorem NG{c:Cs}(hc:xu c)(p:Sp)(f:Fl):(cB c p f c.r.n.toNat).re.length=c.s.length∧(cB c p f c.r.n.toNat).cm.length=c.r.l.length:=by
 have h:=zW hc p f c.r.n.toNat;have hn:=(nP hc.k).n;exact⟨VX h.s fun j hj=>by have:=(xz hc hj).1;omega,VX h.l fun j hj=>by have:=((nP hc.k).link hj).1;show(nth c.r.l j).f<_;omega⟩
end Go.Proofs.YtmpikpodpgnjhaaGreat
namespace Go.Proofs.YtmpikpodpgnjhaaGreat
set_option linter.all false
open Go.Vm
def pad{α:Type}(d:α)(l:List α)(n:Nat):List α:=l++List.replicate (n-l.length) d
theorem H5{α:Type}{d:α}{l:List α}{n:Nat}(h:l.length≤n):(pad d l n).length=n:=by simp[pad];omega
theorem NH{α:Type}{d:α}{l:List α}{n:Nat}(h:l.length=n):pad d l n=l:=by simp[pad,h]
theorem NI{α:Type}{d x:α}{l:List α}{n i:Nat}(hi:i=l.length)(h:l.length<n):(pad d l n).set i x=pad d (l++[x]) n:=by
 subst hi;unfold pad;obtain⟨m,hm⟩:∃m,n-l.length=m+1:=⟨n-l.length-1,by omega⟩
 rw[hm,List.replicate_succ,List.set_append_right _ _ (Nat.le_refl _),Nat.sub_self,List.set_cons_zero,List.length_append,List.length_singleton,show n-(l.length+1)=m by omega,List.append_assoc,List.singleton_append]
def xC:Dr:=⟨0,0,0,0,0,0,0⟩
def sX(l:List Dr):List V:=(l.map Dr.row).flatten
@[simp] theorem apS{l:List Dr}:(sX l).length=l.length*7:=HQ (row:=Dr.row) (fun _=>rfl) l
@[simp] theorem apT{l:List Dr}{d:Nat}:((sX l).all fun v => !V.cI d v)=true:=HV (row:=Dr.row) (fun a=>by simp) l
theorem aj2{n:Nat}:(List.replicate n [V.int .i64 0,V.int .i64 0,V.int .i64 0,V.int .i64 0,V.int .i64 0,V.int .i64 0,V.int .i64 0]).flatten=sX (pad xC [] n):=by
 simp[sX,pad,List.map_replicate,xC]
theorem aj3{l:List Dr}{n:Nat}(h:n=l.length):ly mP (chunks 7 (sX l) 0 n)=some (l.map Dr.row):=by
 subst h;rw[HS (row:=Dr.row) (fun _=>rfl) rfl];exact HT (fun a=>by simp) l
theorem aj4{n:Nat}:List.replicate n z0=dS (pad 0 [] n):=by simp[pad,dS]
theorem asX{c:Cs}{u:Co}{x:Int}{k:Nat}:(vL c u x k).re=u.re∧(vL c u x k).lf=u.lf∧(vL c u x k).d=u.d:=by
 unfold vL;cases lu c.r.l k<;>exact⟨rfl,rfl,rfl⟩
theorem amq{c:Cs}{u v:Co}{x:Int}{k:Nat}(h1:u.arr=v.arr)(h2:u.w=v.w)(h3:u.cm=v.cm):(vL c u x k).arr=(vL c v x k).arr∧(vL c u x k).w=(vL c v x k).w∧(vL c u x k).cm=(vL c v x k).cm:=by
 unfold vL;cases lu c.r.l k
 ·exact⟨h1,h2,h3⟩
 ·simp only[h1,h2,h3,and_self]
theorem aj5{l:List Int}{m:Int}:fN l m↔∀x∈l,0≤x∧x≤m:=by
 refine⟨fun h x hx=>?_,fun h i hi=>h _ (rZ hi)⟩;obtain⟨i,hi,rfl⟩:=List.mem_iff_getElem.1 hx;have:=h i hi
 rwa [show nth l i=l[i] by simp[nth,hi]]at this
theorem AZ{a b:List Int}{m:Int}:fN (a++b) m↔fN a m∧fN b m:=by
 simp only[aj5,List.mem_append];exact⟨fun h=>⟨fun x hx=>h x (.inl hx),fun x hx=>h x (.inr hx)⟩,fun h x hx=>hx.elim (h.1 x) (h.2 x)⟩
theorem aj6{l:List Dr}{i:Nat}(h:i<l.length)(x:Dr):iZ (sX l) (i*7) x.row=sX (l.set i x):=HR (row:=Dr.row) (fun _=>rfl) h
structure Vf(f:Fl)(v:Co):Prop where
 d:v.d.length=f.d.length∧∀i,v.re.length≤i→nth v.d i=nth f.d i
 w:v.w.length=f.w.length∧∀i,v.cm.length≤i→nth v.w i=nth f.w i
theorem Vf.next{c:Cs}(hc:xu c){p:Sp}{f:Fl}{v:Co}{k:Nat}(h:Vf f v)(ho:Vo c v k):Vf f (vS c p v k):=by
 obtain⟨s1,s2,s3,s4⟩:=EG (c:=c) (p:=p) (v:=v) (k:=k);have hd:(vD c p v k).d.length=f.d.length∧∀i,(vD c p v k).re.length≤i→nth (vD c p v k).d i=nth f.d i:=by
  unfold vD;cases hs:me c.s k with
  |none=>exact h.d
  |some i =>
   obtain⟨a,b⟩:=xA hs;have e:=(uW ho.s (fun j h0 hj=>(xz hc hj).2.1 h0) a b).1;refine⟨by simp only[List.length_set];exact h.d.1,fun j hj=>?_⟩
   simp only[List.length_append,List.length_singleton]at hj;show nth (v.d.set i _) j=nth f.d j;rcases Nat.lt_or_ge i v.d.length with g|g
   ·rw[xv g,if_neg (by omega)]
    exact h.d.2 j (by omega)
   ·rw[List.set_eq_of_length_le g]
    exact h.d.2 j (by omega)
 unfold vS vL;cases hl:lu c.r.l k with
 |none=>exact⟨hd,by rw[s2,s3];exact h.w⟩
 |some j =>
  obtain⟨a,b⟩:=xB hl;have e:=(uW ho.l (fun j h0 hj=>((nP hc.k).link hj).2.1 h0) a b).1;refine⟨hd,?_⟩;simp only[s2,s3];refine⟨by simp only[List.length_set];exact h.w.1,fun i hi=>?_⟩
  simp only[List.length_append,List.length_singleton]at hi;rcases Nat.lt_or_ge j v.w.length with g|g
  ·rw[xv g,if_neg (by omega)]
   exact h.w.2 i (by omega)
  ·rw[List.set_eq_of_length_le g]
   exact h.w.2 i (by omega)
theorem NJ{c:Cs}(hc:xu c)(p:Sp)(f:Fl):∀k,Vf f (cB c p f k)
 |0=>⟨⟨rfl,fun _ _=>rfl⟩,⟨rfl,fun _ _=>rfl⟩⟩
 |k+1=>(NJ hc p f k).next hc (zW hc p f k)
theorem aj7{c:Cs}{k i:Nat}(h:∀j,j<i→qU c j≠k)(hi:i<c.s.length)(hk:qU c i=k):me c.s k=some i:=by
 cases hs:me c.s k with
 |none=>exact absurd hk (VY hs i hi)
 |some j =>
  have h1:=wg hs;obtain⟨a,b⟩:=xA hs;rcases Nat.lt_trichotomy j i with g|g|g
  ·exact absurd b (h j g)
  ·rw[g]
  ·have:=h1.2.2 i (by omega) g
   have hk:(nth c.s i).n=k:=hk;simp[hk]at this
theorem aj8{c:Cs}{k i:Nat}(h:∀j,j<i→wu c j≠k)(hi:i<c.r.l.length)(hk:wu c i=k):lu c.r.l k=some i:=by
 cases hs:lu c.r.l k with
 |none=>exact absurd hk (VZ hs i hi)
 |some j =>
  have h1:=wg hs;obtain⟨a,b⟩:=xB hs;rcases Nat.lt_trichotomy j i with g|g|g
  ·exact absurd b (h j g)
  ·rw[g]
  ·have:=h1.2.2 i (by omega) g
   have hk:(nth c.r.l i).f=k:=hk;simp[hk]at this
theorem aj9{c:Cs}{k:Nat}(h:∀j,j<c.s.length→qU c j≠k):me c.s k=none:=by
 cases hs:me c.s k with
 |none=>rfl
 |some j=>exact absurd (xA hs).2 (h j (xA hs).1)
theorem aka{c:Cs}{k:Nat}(h:∀j,j<c.r.l.length→wu c j≠k):lu c.r.l k=none:=by
 cases hs:lu c.r.l k with
 |none=>rfl
 |some j=>exact absurd (xB hs).2 (h j (xB hs).1)
end Go.Proofs.YtmpikpodpgnjhaaGreat
namespace Go.Proofs.YtmpikpodpgnjhaaGreat
set_option linter.all false
open Go.Vm
attribute [local simp] eU eV eS eT
set_option maxRecDepth 100000 in
set_option maxHeartbeats 8000000 in
theorem apU{c:Cs}(hr:oo c.r){f:Fl}(hf:ua f){p:Sp}(mn:p.a.length≤1000∧p.b.length≤1000∧p.c.length≤1000):∃G',bt F 42 [cs c,fl f,sv p] []=some (sW (some 0) c f p,G'):=by
 suffices h:∀Q:V→Prop,Q (sW (some 0) c f p)→jq (bt F) 42 [cs c,fl f,sv p] [] fun v _=>Q v by
  obtain⟨_,G',h,rfl⟩:=h (fun v=>v=sW (some 0) c f p) rfl;exact⟨G',h⟩
 intro Q hQ;refine jV rfl rfl ?_;have hc:=Np c hr;have hv:=Vq c hr f hf;have err:∀e,ot c f p=e→e≠0→Q (VS (some 0) e):=fun e h he=>by
  unfold sW at hQ
  rwa [h,if_neg he]at hQ
 by_cases hz:gu c=0
 case neg =>
  simp (disch:=omega) [-getElem?_pos,wrap64,tI,hc,hz];exact err _ (by unfold ot o0;rw[if_pos hz,if_pos hz]) hz
 by_cases kN:kB c f
 case neg =>
  have h0:decide (gu c=0∧kB c f)=false:=decide_eq_false fun g=>kN g.2;rw[h0]at hv;simp (disch:=omega) [-getElem?_pos,wrap64,tI,hc,hz,hv];have V3:o0 c f=50:=by unfold o0;rw[if_neg (by omega),if_neg kN]
  exact err 50 (by unfold ot;rw[V3];rfl) (by decide)
 have V3:o0 c f=0:=by unfold o0;rw[if_neg (by omega),if_pos kN]
 have fH:ot c f p=jK c f p:=by unfold ot;rw[if_neg (by omega)]
 rw[fH]at err;rw[decide_eq_true ⟨hz,kN⟩]at hv;have cv:=oZ hz;have kv:=nP cv.k;have ji:=kv.n;by_cases h1:(p.a.length:Int)=c.r.n
 case neg =>
  simp (disch:=omega) [-getElem?_pos,wrap64,tI,hc,hz,hv,h1];exact err 3 (by unfold jK;rw[if_neg fun g=>h1 g.1]) (by decide)
 by_cases h2:p.b.length=c.s.length
 case neg =>
  have lM:¬ (p.b.length:Int)=c.s.length:=by omega
  simp (disch:=omega) [-getElem?_pos,wrap64,tI,hc,hz,hv,h1,lM];exact err 3 (by unfold jK;rw[if_neg fun g=>h2 g.2.1]) (by decide)
 have lM:(p.b.length:Int)=c.s.length:=by omega
 by_cases h3:p.c.length=c.s.length
 case neg =>
  have jw:¬ (p.c.length:Int)=c.s.length:=by omega
  simp (disch:=omega) [-getElem?_pos,wrap64,tI,hc,hz,hv,h1,lM,jw];exact err 3 (by unfold jK;rw[if_neg fun g=>h3 g.2.2]) (by decide)
 have jw:(p.c.length:Int)=c.s.length:=by omega
 have g5:oq c p:=⟨h1,h2,h3⟩;have ha:=Nu p.a mn.1 1073741824;have hb:=Nu p.b mn.2.1 1073741824;have uF:=Nu p.c mn.2.2 1073741824;have app:fN (p.a++p.b++p.c) 1073741824↔fN p.a 1073741824∧fN p.b 1073741824∧fN p.c 1073741824:=by
  rw[AZ,AZ,and_assoc]
 by_cases g1:fN p.a 1073741824
 case neg =>
  simp (disch:=omega) [-getElem?_pos,wrap64,tI,hc,hz,hv,h1,lM,jw,ha,g1];exact err 1 (by unfold jK;rw[if_pos g5,if_neg fun g=>g1 (app.1 g).1]) (by decide)
 by_cases g2:fN p.b 1073741824
 case neg =>
  simp (disch:=omega) [-getElem?_pos,wrap64,tI,hc,hz,hv,h1,lM,jw,ha,g1,hb,g2];exact err 1 (by unfold jK;rw[if_pos g5,if_neg fun g=>g2 (app.1 g).2.1]) (by decide)
 by_cases g3:fN p.c 1073741824
 case neg =>
  simp (disch:=omega) [-getElem?_pos,wrap64,tI,hc,hz,hv,h1,lM,jw,ha,g1,hb,g2,uF,g3];exact err 1 (by unfold jK;rw[if_pos g5,if_neg fun g=>g3 (app.1 g).2.2]) (by decide)
 have vu:=app.2 ⟨g1,g2,g3⟩;have hcy:=ajs f (Nw hz kN.2.1) (VR cv.k kN.2.2);have ajX:=kN.1;have EV:=cv.s;have km:=kv.len;have H4:0<p.a.length:=by omega
 have C1:f.d.length=c.s.length:=kN.2.1.1;have hwl:f.w.length=c.r.l.length:=kN.2.2.1;simp (disch:=omega) [-getElem?_pos,wrap64,tI,hc,hz,hv,h1,lM,jw,ha,g1,hb,g2,uF,g3];refine b9 (fun g4=>?_) (fun g4=>?_)
 ·exact err 6 (by unfold jK;rw[if_pos g5,if_pos vu,if_pos g4]) (by decide)
 have hE:jK c f p=ed (fun k=>vE c p (cB c p f k) k) c.r.n.toNat 0:=by unfold jK;rw[if_pos g5,if_pos vu,if_neg g4]
 have AV:p.a.isEmpty=false:=by
  cases hp:p.a with
  |nil=>rw[hp]at H4;simp at H4
  |cons a l=>rfl
 simp (disch:=omega) [-getElem?_pos,wrap64,hcy,aj2,AV];refine go_loop (fun k:Nat=>aay p.a.length k c.row f.row p.row [i64 0,.aK,.aK] [.aK,.aK,.aK] [i64 (f.t+1),.dB 0 4 f.d.length,.dB 1 1 f.w.length]
   [.cb 100 7 c.s.length,.cb 104 1 c.r.n.toNat,.cb 109 1 c.r.l.length] (sX (pad xC (cB c p f k).re c.s.length)) (dS (pad 0 (cB c p f k).lf c.r.n.toNat)) (dS (pad 0 (cB c p f k).cm c.r.l.length)) (dS (cB c p f k).arr)
   [.cells (jj (cB c p f k).d),.cells (kC (cB c p f k).w)])
  (fun k=>k≤c.r.n.toNat∧(∀j,j<k→vE c p (cB c p f j) j=0)∧ed (fun k=>vE c p (cB c p f k) k) (c.r.n.toNat-k) k=jK c f p) (fun k=>c.r.n.toNat-k) 0 rfl (by simp[cB,aj4]) ⟨by omega,by omega,hE.symm⟩ ?_
 rintro k ⟨hk,V4,hq⟩;have BV:=vcs hz kN g5 vu V4;have vq:=zW cv p f k;have FH:=NJ cv p f k;have A0:=FH.d;have hww:=FH.w;have apW:=BV.xw;have akd:=BV.ll;have AS:=vq.s.1;have ake:=vq.l.1;have ecv:cB c p f (k+1)=vS c p (cB c p f k) k:=rfl;simp (disch:=omega) [-getElem?_pos,wrap64,Rq];refine b9 (fun fW=>?_) (fun fW=>?_)
 ·have akg:k<c.r.n.toNat:=by omega
  rw[l7 akg]at hq;generalize hcv:cB c p f k=v at *;have EF:k<v.arr.length:=by omega
  simp (disch:=omega) [-getElem?_pos,wrap64,kT];obtain⟨s1,s2,s3,s4⟩:=EG (c:=c) (p:=p) (v:=v) (k:=k);refine go_loop (fun y:Nat×Co×Int=>aao p.a.length k y.2.2 (rJ c.s) c.s.length y.1 c.row f.row p.row [i64 0,.aK,.aK] [.aK,.aK,.aK] [i64 (f.t+1),.dB 0 4 f.d.length,.dB 1 1 f.w.length]
    [.cb 100 7 c.s.length,.cb 104 1 c.r.n.toNat,.cb 109 1 c.r.l.length] (sX (pad xC y.2.1.re c.s.length)) (dS (pad 0 v.lf c.r.n.toNat)) (dS (pad 0 v.cm c.r.l.length)) (dS v.arr) [.cells (jj y.2.1.d),.cells (kC v.w)])
   (fun y=>y.1≤c.s.length∧((y.2.1=v∧y.2.2=nth v.arr k∧∀j,j<y.1→qU c j≠k)∨(y.2.1=vD c p v k∧y.2.2=fG c p v k∧lO c p v k=0∧∃j,j<y.1∧me c.s k=some j)))
   (fun y=>c.s.length-y.1) (0,v,nth v.arr k) rfl (by simp) ⟨by simp,.inl ⟨rfl,rfl,by simp⟩⟩ ?_
  rintro⟨i,u,x⟩ ⟨hi,hu⟩;simp only at hi hu;have aki:(pad xC v.re c.s.length).length=c.s.length:=H5 AS;simp (disch:=omega) [-getElem?_pos,wrap64,Ro];refine b9 (fun h5=>?_) (fun h5=>?_)
  ·have h5:i<c.s.length:=by omega
   have h6:i<f.d.length:=by omega
   have h7:i<p.b.length:=by omega
   have h8:i<p.c.length:=by omega
   simp (disch:=omega) [-getElem?_pos,wrap64,bo (l:=c.s)];refine b9 (fun h9=>?_) (fun h9=>?_)
   ·have hs:me c.s k=some i∧u=v∧x=nth v.arr k∧i=v.re.length:=by
     have e:=(uW vq.s (fun j h0 hj=>(xz cv hj).2.1 h0) h5 h9).1;rcases hu with⟨a,b,d⟩ | ⟨_,_,_,j,hj,hs⟩
     ·exact⟨aj7 d h5 h9,a,b,e⟩
     ·have:=(uW vq.s (fun j h0 hj=>(xz cv hj).2.1 h0) (xA hs).1 (xA hs).2).1
      omega
    obtain⟨hs,rfl,rfl,BS⟩:=hs;have H7:nth u.d i=nth f.d i:=A0.2 i (by omega)
    obtain⟨Ga,hS⟩:=U6 (nth c.s i).d (nth f.d i) (nth u.arr k) (nth p.b i) (nth p.c i);by_cases he:mZ (nth c.s i).d (nth f.d i) (nth u.arr k) (nth p.b i) (nth p.c i)=0
    ·have ND:=(VM he).1
     have e0:lO c p u k=0:=by simp only[lO,hs,H7,he]
     have e1:fG c p u k=rL (vR c p u k i):=by simp only[fG,hs]
     have e2:vD c p u k={ u with d:=u.d.set i (lr (nth c.s i).d (nth f.d i) (nth u.arr k) (nth p.b i) (nth p.c i)),re:=u.re++[vR c p u k i],lf:=u.lf++[fG c p u k] }:=by rw[vD,hs,← H7]
     have e3:vR c p u k i=la (nth c.s i).d (nth f.d i) (nth u.arr k) (nth p.b i) (nth p.c i):=by rw[vR,H7]
     rw[qi,if_pos he]at hS;rw[e3]at e1 e2;rw[e1]at e2;generalize lr (nth c.s i).d (nth f.d i) (nth u.arr k) (nth p.b i) (nth p.c i)=S' at hS e2;generalize la (nth c.s i).d (nth f.d i) (nth u.arr k) (nth p.b i) (nth p.c i)=R' at hS ND e1 e2;have hF:=aja R' (by omega) (by omega) (by omega)
     rw[show R'.tur+R'.spi+R'.ovr=rL R' from rfl]at hF;have mo:i<u.d.length:=by omega
     have j8:((((jj u.d).set (i*4) (i64 S'.v)).set (i*4+1) (i64 S'.rel)).set (i*4+1+1) (jD S'.u)).set (i*4+1+1+1) (ju S'.g)=jj (u.d.set i S'):=VK mo S';have hrt:(((((((sX (pad xC u.re c.s.length)).set (i*7) (i64 R'.inf)).set (i*7+1) (i64 R'.los)).set (i*7+1+1) (i64 R'.tur)).set (i*7+1+1+1) (i64 R'.spi)).set (i*7+1+1+1+1) (i64 R'.ovr)).set (i*7+1+1+1+1+1) (i64 R'.pow)).set (i*7+1+1+1+1+1+1) (i64 R'.lN)=sX (pad xC (u.re++[R']) c.s.length):=by
      rw[←NI BS (by omega)]
      exact aj6 (by rw[H5 (by omega)];exact h5) R'
     simp (disch:=omega) [-getElem?_pos,wrap64,bo (l:=f.d),eA (l:=p.b),eA (l:=p.c),kT,hS,hF,j8,hrt,aki];refine cc (i+1,vD c p u k,fG c p u k) (by simp[e1,e2]) ⟨by simp only;omega,.inr ⟨rfl,rfl,e0,i,by simp only;omega,hs⟩⟩ (by simp only;omega)
    ·rw[qi,if_neg he]at hS
     have e0:vE c p u k=mZ (nth c.s i).d (nth f.d i) (nth u.arr k) (nth p.b i) (nth p.c i):=by
      have:lO c p u k=mZ (nth c.s i).d (nth f.d i) (nth u.arr k) (nth p.b i) (nth p.c i):=by simp only[lO,hs,H7]
      rw[vE,this,if_pos he]
     rw[e0,if_neg he]at hq;simp (disch:=omega) [-getElem?_pos,wrap64,bo (l:=f.d),eA (l:=p.b),eA (l:=p.c),kT,hS,decide_eq_false he];exact err _ hq.symm he
   ·refine cc (i+1,u,x) (by simp) ⟨by simp only;omega,?_⟩ (by simp only;omega)
    rcases hu with⟨a,b,d⟩ | ⟨a,b,d,j,hj,hs⟩
    ·refine .inl ⟨a,b,fun j hj=>?_⟩
     rcases Nat.lt_or_ge j i with g|g
     ·exact d j g
     ·rw[show j=i by simp only at hj;omega];exact h9
    ·exact .inr ⟨a,b,d,j,by simp only;omega,hs⟩
  ·obtain rfl:i=c.s.length:=by omega
   have hD:u.re=(vD c p v k).re∧u.d=(vD c p v k).d∧x=fG c p v k∧lO c p v k=0:=by
    rcases hu with⟨rfl,rfl,d⟩ | ⟨rfl,b,d,_⟩
    ·have hn:=aj9 d
     unfold vD fG lO;rw[hn];exact⟨rfl,rfl,rfl,rfl⟩
    ·exact⟨rfl,rfl,b,d⟩
   obtain⟨d1,d2,rfl,d3⟩:=hD;rw[d1,d2];generalize hx:fG c p v k=x at *;have akk:(pad 0 v.lf c.r.n.toNat).length=c.r.n.toNat:=H5 (by omega)
   have j8:(pad 0 v.lf c.r.n.toNat).set k x=pad 0 (vD c p v k).lf c.r.n.toNat:=by rw[NI (by omega) (by omega),s4]
   simp (disch:=omega) [-getElem?_pos,wrap64,akk,j8];have akl:(pad 0 v.cm c.r.l.length).length=c.r.l.length:=H5 ake;refine go_loop (fun y:Nat×Co=>aat p.a.length k x (nN c.r.l) c.r.l.length y.1 c.row f.row p.row [i64 0,.aK,.aK] [.aK,.aK,.aK] [i64 (f.t+1),.dB 0 4 f.d.length,.dB 1 1 f.w.length]
     [.cb 100 7 c.s.length,.cb 104 1 c.r.n.toNat,.cb 109 1 c.r.l.length] (sX (pad xC (vD c p v k).re c.s.length)) (dS (pad 0 (vD c p v k).lf c.r.n.toNat)) (dS (pad 0 y.2.cm c.r.l.length)) (dS y.2.arr) [.cells (jj (vD c p v k).d),.cells (kC y.2.w)])
    (fun y=>y.1≤c.r.l.length∧((y.2=v∧∀j,j<y.1→wu c j≠k)∨(y.2=vL c v x k∧nQ c v x k=0∧∃j,j<y.1∧lu c.r.l k=some j)))
    (fun y=>c.r.l.length-y.1) (0,v) rfl (by simp) ⟨by simp,.inl ⟨rfl,by simp⟩⟩ ?_
   rintro⟨i,u⟩ ⟨hi,hu⟩;simp only at hi hu;simp (disch:=omega) [-getElem?_pos,wrap64,Rp];refine b9 (fun h5=>?_) (fun h5=>?_)
   ·have h5:i<c.r.l.length:=by omega
    have h6:i<f.w.length:=by omega
    simp (disch:=omega) [-getElem?_pos,wrap64,bo (l:=c.r.l)];refine b9 (fun h9=>?_) (fun h9=>?_)
    ·have hs:lu c.r.l k=some i∧u=v∧i=v.cm.length:=by
      have e:=(uW vq.l (fun j h0 hj=>(kv.link hj).2.1 h0) h5 h9).1;rcases hu with⟨a,d⟩ | ⟨_,_,j,hj,hs⟩
      ·exact⟨aj8 d h5 h9,a,e⟩
      ·have:=(uW vq.l (fun j h0 hj=>(kv.link hj).2.1 h0) (xB hs).1 (xB hs).2).1
       omega
     obtain⟨hs,rfl,BS⟩:=hs;have V5:nth u.w i=nth f.w i:=hww.2 i (by omega)
     have CP:=kN.2.2.2 i h5;obtain⟨tt,hR⟩:=ajj (nth c.r.l i).r (hr.2 i h5) (nth f.w i) (hf i) x;have bG:=(kv.link h5).1;have htl:(nth c.r.l i).t.toNat<u.arr.length:=by omega
     have eL:nQ c u x k=gD (nth c.r.l i).r (nth f.w i) x:=by unfold nQ;rw[hs];simp only[V5]
     have eE:vE c p u k=gD (nth c.r.l i).r (nth f.w i) x:=by
      rw[vE,d3,hx,eL];rfl
     rw[eE]at hq;by_cases he:gD (nth c.r.l i).r (nth f.w i) x=0
     ·have ho:=EE he
      have har:=BV.arr (nth c.r.l i).t.toNat htl;rw[EB he]at hR;have e2:vL c u x k={ u with w:=u.w.set i (m7 (nth c.r.l i).r (nth f.w i) x),cm:=u.cm++[m5 (nth c.r.l i).r (nth f.w i) x],arr:=u.arr.set (nth c.r.l i).t.toNat (nth u.arr (nth c.r.l i).t.toNat+m5 (nth c.r.l i).r (nth f.w i) x) }:=by
       rw[vL,hs,← V5]
      have j8:(pad 0 u.cm c.r.l.length).set i (m5 (nth c.r.l i).r (nth f.w i) x)=pad 0 (u.cm++[m5 (nth c.r.l i).r (nth f.w i) x]) c.r.l.length:=NI BS (by omega)
      simp (disch:=omega) [-getElem?_pos,wrap64,bo (l:=f.w),hR,NA,akl,j8,kT];refine cc (i+1,vL c u x k) (by simp[e2]) ⟨by simp only;omega,.inr ⟨rfl,by rw[eL,he],i,by simp only;omega,hs⟩⟩ (by simp only;omega)
     ·rw[zP rfl he]at hR
      rw[if_neg he]at hq;simp (disch:=omega) [-getElem?_pos,wrap64,bo (l:=f.w),hR,decide_eq_false he];exact err _ hq.symm he
    ·refine cc (i+1,u) (by simp) ⟨by simp only;omega,?_⟩ (by simp only;omega)
     rcases hu with⟨a,d⟩ | ⟨a,d,j,hj,hs⟩
     ·refine .inl ⟨a,fun j hj=>?_⟩
      rcases Nat.lt_or_ge j i with g|g
      ·exact d j g
      ·rw[show j=i by simp only at hj;omega];exact h9
     ·exact .inr ⟨a,d,j,by simp only;omega,hs⟩
   ·obtain rfl:i=c.r.l.length:=by omega
    have hD:u=vL c v x k∧nQ c v x k=0:=by
     rcases hu with⟨rfl,d⟩ | ⟨rfl,b,_⟩
     ·have hn:=aka d
      unfold vL nQ;rw[hn];exact⟨rfl,rfl⟩
     ·exact⟨rfl,b⟩
    obtain⟨rfl,d4⟩:=hD;have eE:vE c p v k=0:=by rw[vE,d3,hx,d4];rfl
    rw[if_pos eE]at hq;obtain⟨a1,a2,a3⟩:=amq (c:=c) (u:=vD c p v k) (v:=v) (x:=x) (k:=k) s1 s2 s3;obtain⟨b1,b2,b3⟩:=asX (c:=c) (u:=vD c p v k) (x:=x) (k:=k);have hvS:vS c p v k=vL c (vD c p v k) x k:=by rw[vS,hx]
    refine cc (k+1) (by simp[ecv,hvS,a1,a2,a3,b1,b2,b3]) ⟨by omega,fun j hj=>?_,hq⟩ (by omega)
    rcases Nat.lt_or_ge j k with g|g
    ·exact V4 j g
    ·rw[show j=k by omega,hcv];exact eE
 ·obtain rfl:k=c.r.n.toNat:=by omega
  rw[mR]at hq;have wQ:=NG cv p f;have w1:((cB c p f c.r.n.toNat).re.length:Int)=c.s.length:=by omega
  rw[NH wQ.1,NH akd,NH wQ.2];simp (disch:=omega) [-getElem?_pos,wrap64,zR,HU,aj3,J8];rw[←hq]at fH;unfold sW at hQ;rw[fH,if_pos rfl]at hQ;exact hQ
end Go.Proofs.YtmpikpodpgnjhaaGreat
namespace Go.Proofs.YtmpikpodpgnjhaaGreat
set_option linter.all false
open Go.Vm
structure Pa(c:Cs)(f:Fl)(p:Sp):Prop where
 c0:gu c=0
 f0:kB c f
 p0:oq c p
 all:fN (p.a++p.b++p.c) 1073741824
 t:f.t≠16777216
 v:∀k,k<c.r.n.toNat→vE c p (cB c p f k) k=0
theorem ako{c:Cs}{f:Fl}{p:Sp}(h:ot c f p=0):Pa c f p:=by
 unfold ot at h;split at h
 ·rename_i h1;exact absurd h h1
 ·rename_i h1
  obtain⟨h2,h3⟩:=VT (Decidable.of_not_not h1);unfold jK at h;split at h
  ·split at h
   ·split at h
    ·cases h
    ·exact⟨h2,h3,by assumption,by assumption,by assumption,fun k hk=>sE h k (by omega) (by omega)⟩
   ·cases h
  ·cases h
theorem Pa.vc{c:Cs}{f:Fl}{p:Sp}(h:Pa c f p){k:Nat}(hk:k≤c.r.n.toNat):Vc c p (cB c p f k) k:=vcs h.c0 h.f0 h.p0 h.all fun j hj=>h.v j (by omega)
theorem Pa.fl{c:Cs}{f:Fl}{p:Sp}(h:Pa c f p):kB c (wo c f p):=by
 have hv:=h.vc (Nat.le_refl _);have:=h.f0.1;have:=h.t;exact⟨by simp only[wo];omega,hv.d,hv.w⟩
theorem akp{c:Cs}(hk:jJ c.r=0){f:Fl}(h:kB c f):ua f:=fun i=>by
 rcases Nat.lt_or_ge i c.r.l.length with g|g
 ·have a:=h.2.2.2 i g
  have:=a.2.1;have:=(wa a.1).len;omega
 ·have:nth f.w i=[]:=by
   simp[nth,List.getD,List.getElem?_eq_none (show f.w.length≤i by have:=h.2.2.1;omega)]
   rfl
  rw[this];simp
end Go.Proofs.YtmpikpodpgnjhaaGreat
namespace Go.Proofs.YtmpikpodpgnjhaaGreat
set_option linter.all false
open Go.Vm
def jL(c:Cs)(cm:List Int)(j:Int):Nat→Int
 |0=>0
 |m+1=>jL c cm j m+if (nth c.r.l m).t=j then nth cm m else 0
theorem V6{c:Cs}{cm:List Int}{x:Int}{j:Int}:∀{m:Nat},m≤cm.length→jL c (cm++[x]) j m=jL c cm j m
 |0,_=>rfl
 |m+1,h=>by
  simp only[jL];rw[V6 (by omega),og (by omega)]
theorem akq{c:Cs}{cm:List Int}{x:Int}{j:Int}:jL c (cm++[x]) j (cm.length+1)=jL c cm j cm.length+if (nth c.r.l cm.length).t=j then x else 0:=by
 have e:nth (cm++[x]) cm.length=x:=by rw[iS,if_neg (by omega),if_pos rfl]
 simp only[jL];rw[V6 (Nat.le_refl _),e]
structure Da(c:Cs)(p:Sp)(f:Fl)(v:Co)(i k:Nat):Prop where
 e:mZ (nth c.s i).d (nth f.d i) (nth (cB c p f k).arr k) (nth p.b i) (nth p.c i)=0
 r:nth v.re i=la (nth c.s i).d (nth f.d i) (nth (cB c p f k).arr k) (nth p.b i) (nth p.c i)
 d:nth v.d i=lr (nth c.s i).d (nth f.d i) (nth (cB c p f k).arr k) (nth p.b i) (nth p.c i)
structure Li(c:Cs)(p:Sp)(f:Fl)(v:Co)(m k:Nat):Prop where
 e:gD (nth c.r.l m).r (nth f.w m) (fG c p (cB c p f k) k)=0
 o:nth v.cm m=m5 (nth c.r.l m).r (nth f.w m) (fG c p (cB c p f k) k)
 w:nth v.w m=m7 (nth c.r.l m).r (nth f.w m) (fG c p (cB c p f k) k)
structure Hi(c:Cs)(p:Sp)(f:Fl)(v:Co)(k:Nat):Prop where
 arr:∀j,j<v.arr.length→nth v.arr j=nth p.a j+jL c v.cm j v.cm.length
 cm:∀m,m<v.cm.length→0≤nth v.cm m∧nth v.cm m≤1125899906842624
 site:∀i,i<v.re.length→∃k':Nat,k'<k∧qU c i=k'∧Da c p f v i k'
 link:∀m,m<v.cm.length→∃k':Nat,k'<k∧wu c m=k'∧Li c p f v m k'
 lf:∀j,j<k→nth v.lf j=fG c p (cB c p f j) j
theorem akr{c:Cs}{p:Sp}{f:Fl}(h:Pa c f p){k:Nat}(hk:k<c.r.n.toNat)(hh:Hi c p f (cB c p f k) k):Hi c p f (cB c p f (k+1)) (k+1):=by
 have hc:=oZ h.c0;have hv:=h.vc (k:=k) (by omega)
 have ho:=zW hc p f k;have hf:=NJ hc p f k;obtain⟨e0,eL⟩:=VQ (h.v k hk);show Hi c p f (vS c p (cB c p f k) k) (k+1);obtain⟨s1,s2,s3,s4⟩:=EG (c:=c) (p:=p) (v:=cB c p f k) (k:=k);obtain⟨a1,a2,a3⟩:=amq (c:=c) (x:=fG c p (cB c p f k) k) (k:=k) s1 s2 s3;obtain⟨b1,b2,b3⟩:=asX (c:=c) (u:=vD c p (cB c p f k) k) (x:=fG c p (cB c p f k) k) (k:=k);have aks:∀i,i<(vD c p (cB c p f k) k).re.length→∃k':Nat,k'<k+1∧qU c i=k'∧Da c p f (vD c p (cB c p f k) k) i k':=by
  unfold vD;cases hs:me c.s k with
  |none =>
   intro i hi;obtain⟨k',g1,g2,g3⟩:=hh.site i hi;exact⟨k',by omega,g2,g3.e,g3.r,g3.d⟩
  |some i0 =>
   obtain⟨q1,q2⟩:=xA hs;have q3:=(uW ho.s (fun j h0 hj=>(xz hc hj).2.1 h0) q1 q2).1;have q4:i0<(cB c p f k).d.length:=by have:=hv.d.1;omega
   have q5:=hf.d.2 i0 (by omega)
   intro i hi;simp only[List.length_append,List.length_singleton]at hi;by_cases g:i=i0
   ·subst g
    refine⟨k,by omega,q2,?_,?_,?_⟩
    ·unfold lO at e0
     rw[hs]at e0;rw[←q5];exact e0
    ·show nth ((cB c p f k).re++[_]) i=_
     rw[iS,if_neg (by omega),if_pos q3,vR,q5]
    ·show nth ((cB c p f k).d.set i _) i=_
     rw[xv q4,if_pos rfl,q5]
   ·obtain⟨k',g1,g2,g3⟩:=hh.site i (by omega)
    refine⟨k',by omega,g2,g3.e,?_,?_⟩
    ·show nth ((cB c p f k).re++[_]) i=_
     rw[og (by omega)];exact g3.r
    ·show nth ((cB c p f k).d.set i0 _) i=_
     rw[xv q4,if_neg g];exact g3.d
 have YT:∀j,j<k+1→nth (vD c p (cB c p f k) k).lf j=fG c p (cB c p f j) j:=fun j hj=>by
  have:=hv.ll;rw[s4,iS];by_cases g:j<k
  ·rw[if_pos (by omega)];exact hh.lf j g
  ·rw[if_neg (by omega),if_pos (by omega),show j=k by omega]
 have NK:(∀j,j<(vL c (cB c p f k) (fG c p (cB c p f k) k) k).arr.length→nth (vL c (cB c p f k) (fG c p (cB c p f k) k) k).arr j=nth p.a j+jL c (vL c (cB c p f k) (fG c p (cB c p f k) k) k).cm j (vL c (cB c p f k) (fG c p (cB c p f k) k) k).cm.length) ∧
   (∀m,m<(vL c (cB c p f k) (fG c p (cB c p f k) k) k).cm.length→0≤nth (vL c (cB c p f k) (fG c p (cB c p f k) k) k).cm m∧nth (vL c (cB c p f k) (fG c p (cB c p f k) k) k).cm m≤1125899906842624) ∧
   ∀m,m<(vL c (cB c p f k) (fG c p (cB c p f k) k) k).cm.length→∃k':Nat,k'<k+1∧wu c m=k'∧Li c p f (vL c (cB c p f k) (fG c p (cB c p f k) k) k) m k':=by
  unfold nQ at eL;cases hl:lu c.r.l k with
  |none =>
   rw[show vL c (cB c p f k) (fG c p (cB c p f k) k) k=cB c p f k by unfold vL;rw[hl]]
   exact⟨hh.arr,hh.cm,fun m hm=>by obtain⟨k',g1,g2,g3⟩:=hh.link m hm;exact⟨k',by omega,g2,g3⟩⟩
  |some m0 =>
   rw[hl]at eL;obtain⟨q1,q2⟩:=xB hl;have q3:=(uW ho.l (fun j h0 hj=>((nP hc.k).link hj).2.1 h0) q1 q2).1;have q4:m0<(cB c p f k).w.length:=by have:=hv.w.1;omega
   have q5:=hf.w.2 m0 (by omega)
   have q6:=EE eL;have q7:=((nP hc.k).link q1).1;have q8:=hv.xw;have q9:(nth c.r.l m0).t.toNat<(cB c p f k).arr.length:=by omega
   have hu:vL c (cB c p f k) (fG c p (cB c p f k) k) k={ cB c p f k with w:=(cB c p f k).w.set m0 (m7 (nth c.r.l m0).r (nth (cB c p f k).w m0) (fG c p (cB c p f k) k)),cm:=(cB c p f k).cm++[m5 (nth c.r.l m0).r (nth (cB c p f k).w m0) (fG c p (cB c p f k) k)],arr:=(cB c p f k).arr.set (nth c.r.l m0).t.toNat (nth (cB c p f k).arr (nth c.r.l m0).t.toNat+m5 (nth c.r.l m0).r (nth (cB c p f k).w m0) (fG c p (cB c p f k) k)) }:=by
    unfold vL;rw[hl]
   rw[hu];refine⟨fun j hj=>?_,fun m hm=>?_,fun m hm=>?_⟩
   ·simp only[List.length_set]at hj
    simp only[List.length_append,List.length_singleton];rw[xv q9,akq,← q3];by_cases g:j=(nth c.r.l m0).t.toNat
    ·rw[if_pos g,if_pos (by omega),← g,hh.arr j hj,q3]
     exact Int.add_assoc _ _ _
    ·rw[if_neg g,if_neg (by omega),Int.add_zero,q3]
     exact hh.arr j hj
   ·simp only[List.length_append,List.length_singleton]at hm
    simp only;rw[iS];by_cases g:m<(cB c p f k).cm.length
    ·rw[if_pos g];exact hh.cm m g
    ·rw[if_neg g,if_pos (by omega)];exact q6
   ·simp only[List.length_append,List.length_singleton]at hm
    by_cases g:m=m0
    ·subst g
     refine⟨k,by omega,q2,by rw[←q5];exact eL,?_,?_⟩
     ·show nth ((cB c p f k).cm++[_]) m=_
      rw[iS,if_neg (by omega),if_pos q3,q5]
     ·show nth ((cB c p f k).w.set m _) m=_
      rw[xv q4,if_pos rfl,q5]
    ·obtain⟨k',g1,g2,g3⟩:=hh.link m (by omega)
     refine⟨k',by omega,g2,g3.e,?_,?_⟩
     ·show nth ((cB c p f k).cm++[_]) m=_
      rw[og (by omega)];exact g3.o
     ·show nth ((cB c p f k).w.set m0 _) m=_
      rw[xv q4,if_neg g];exact g3.w
 unfold vS;refine⟨?_,?_,fun i hi=>?_,fun m hm=>?_,by rw[b2];exact YT⟩
 ·rw[a1,a3];exact NK.1
 ·rw[a3];exact NK.2.1
 ·rw[b1]at hi
  obtain⟨k',g1,g2,g3⟩:=aks i hi;exact⟨k',g1,g2,g3.e,by rw[b1];exact g3.r,by rw[b3];exact g3.d⟩
 ·rw[a3]at hm
  obtain⟨k',g1,g2,g3⟩:=NK.2.2 m hm;exact⟨k',g1,g2,g3.e,by rw[a3];exact g3.o,by rw[a2];exact g3.w⟩
theorem BR{c:Cs}{p:Sp}{f:Fl}(h:Pa c f p):∀{k:Nat},k≤c.r.n.toNat→Hi c p f (cB c p f k) k
 |0,_=>⟨fun j hj=>by simp[cB,jL],fun m hm=>by simp[cB]at hm,fun i hi=>by simp[cB]at hi,fun m hm=>by simp[cB]at hm,fun j hj=>by omega⟩
 |k+1,hk=>akr h (by omega) (BR h (by omega))
end Go.Proofs.YtmpikpodpgnjhaaGreat
namespace Go.Proofs.YtmpikpodpgnjhaaGreat
set_option linter.all false
open Go.Vm
theorem Y0{f:Nat→Int}:∀n,gB f (oj f n)=gB f n
 |0=>rfl
 |n+1=>by
  unfold oj;split
  ·rename_i h
   rw[Y0 n];simp only[gB];have h:f n=0:=by simpa using h
   rw[h,Int.add_zero]
  ·rfl
theorem Ja{l:List Int}:∀n,sm l n=gB (nth l) n
 |0=>rfl
 |n+1=>by simp only[sm,gB];rw[Ja n]
theorem Y5{f g:Nat→Int}:∀{n:Nat},(∀k,k<n→f k=g k)→gB f n=gB g n
 |0,_=>rfl
 |n+1,h=>by
  simp only[gB];rw[Y5 fun k hk=>h k (by omega),h n (by omega)]
theorem ZG{f:Nat→Int}:∀n,gB (fun k=>f (k+1)) n=gB f (n+1)-f 0
 |0=>by simp[gB]
 |n+1=>by
  have:=ZG (f:=f) n;simp only[gB]at this ⊢;omega
theorem ZX{f g:Nat→Int}{x:Int}:∀n,gB (fun k=>f k+x*g k) n=gB f n+x*gB g n
 |0=>by simp[gB]
 |n+1=>by
  simp only[gB];rw[ZX n,Int.mul_add];omega
theorem amk{l:List Int}{n:Nat}(h:l.length≤n):sm l n=sm l l.length:=by
 obtain⟨d,rfl⟩:∃d,n=l.length+d:=⟨n-l.length,by omega⟩
 clear h
 induction d with
 |zero=>rfl
 |succ d ih =>
  rw[show l.length+(d+1)=(l.length+d)+1 by omega]
  simp only[sm];rw[ih,wb (by omega),Int.add_zero]
theorem aml{r:Rc}{p:List Int}{x:Int}(h:gD r p x=0):sm (m7 r p x) (m7 r p x).length=sm p p.length+r.den*(x-m5 r p x):=by
 obtain⟨h1,h2,h3,h4⟩:=Nz h;have hv:=wa h1;have hn:0<r.w.length:=hv.pos;have e1:sm (m7 r p x) (m7 r p x).length=gB (rN r p x) r.w.length:=by
  have hl:(m7 r p x).length=oj (rN r p x) r.w.length:=by simp[m7]
  have e:gB (nth (m7 r p x)) (oj (rN r p x) r.w.length)=gB (rN r p x) (oj (rN r p x) r.w.length):=Y5 fun k hk=>ajL hk;rw[Ja,hl,e,Y0]
 obtain⟨m,hm⟩:∃m,r.w.length=m+1:=⟨r.w.length-1,by omega⟩
 have e2:gB (rN r p x) r.w.length=gB (fun k=>rq r p x (k+1)) r.w.length+rq r p x 0 % r.den:=by
  rw[hm];have key:∀j,gB (rN r p x) (j+1)=gB (fun k=>rq r p x (k+1)) (j+1)+rq r p x 0 % r.den:=by
   intro j;induction j with
   |zero=>simp[gB,rN]
   |succ j ih =>
    rw[gB,ih];simp only[gB,rN];rw[if_neg (by omega)]
    omega
  exact key m
 have e3:rq r p x r.w.length=0:=by
  have:=h2.1;simp only[rq];rw[wb (by omega),wb (Nat.le_refl _)]
  simp
 have e4:gB (rq r p x) r.w.length=sm p p.length+x*r.den:=by
  show gB (fun k=>nth p k+x*nth r.w k) r.w.length=_;rw[ZX,← Ja,← Ja,amk h2.1,hv.sum]
 have e5:rq r p x 0=r.den*m5 r p x+rq r p x 0 % r.den:=(Int.mul_ediv_add_emod _ _).symm;have e6:r.den*(x-m5 r p x)=x*r.den-r.den*m5 r p x:=by rw[Int.mul_sub,Int.mul_comm r.den x]
 rw[e1,e2,ZG,gB,e3,e4,e6];omega
def hB(c:Cs)(f:Fl)(M:Int):Prop:=∀i,i<c.r.l.length→sm (nth f.w i) (nth f.w i).length≤(nth c.r.l i).r.den*(1073741824*M)
theorem amm{r:Rc}{p:List Int}(h:iv r p):0≤sm p p.length:=(BL (i:=p.length) h.2.2).1
theorem amn{c:Cs}{f:Fl}{p:Sp}(h:Pa c f p){M:Int}(hM:0≤M)(hb:hB c f M) :
  hB c (wo c f p) (M+1)∧∀i,i<c.r.l.length→0≤nth (zV c f p).cm i∧nth (zV c f p).cm i≤1073741824*(M+1):=by
 have hc:=oZ h.c0;have e2:=(NG hc p f).2
 suffices g:∀i,i<c.r.l.length→sm (nth (wo c f p).w i) (nth (wo c f p).w i).length≤(nth c.r.l i).r.den*(1073741824*(M+1))∧0≤nth (zV c f p).cm i∧nth (zV c f p).cm i≤1073741824*(M+1) from
  ⟨fun i hi=>(g i hi).1,fun i hi=>(g i hi).2⟩
 intro i hi;obtain⟨k,_,_,hl⟩:=(BR h (Nat.le_refl _)).link i (by omega)
 have hw:nth (wo c f p).w i=_:=hl.w;have ho:nth (zV c f p).cm i=_:=hl.o;have hr:=aml hl.e;have hx:=(Nz hl.e).2.2.1;have h0:=(EE hl.e).1;have hd:=(wa (Nz hl.e).1).den;have hs:=amm (ajM hl.e);have hbi:=hb i hi;rw[hw,ho];generalize m5 (nth c.r.l i).r (nth f.w i) (fG c p (cB c p f k) k)=o at *;generalize fG c p (cB c p f k) k=x at *;generalize m7 (nth c.r.l i).r (nth f.w i) x=q at *;generalize (nth c.r.l i).r.den=D at *;generalize sm (nth f.w i) (nth f.w i).length=s at *;have a1:D*(1073741824*(M+1))=D*(1073741824*M)+D*1073741824:=by rw[←Int.mul_add];congr 1;omega
 have a2:D*(x-o)=D*x-D*o:=Int.mul_sub _ _ _;have a3:D*x≤D*1073741824:=Int.mul_le_mul_of_nonneg_left hx.2 (by omega)
 have a4:0≤D*o:=Int.mul_nonneg (by omega) h0
 refine⟨by omega,h0,?_⟩
 exact Int.le_of_mul_le_mul_left (a:=D) (by omega) (by omega)
theorem Jh{c:Cs}{f:Fl}{M N:Int}(hk:jJ c.r=0)(h:hB c f M)(hn:M≤N):hB c f N:=fun i hi=>by
 have hd:=(wa ((nP hk).link hi).2.2).den;exact Int.le_trans (h i hi) (Int.mul_le_mul_of_nonneg_left (by omega) (by omega))
theorem amo{c:Cs}{s:List Ds}:hB c (lD c s) 0:=fun i hi=>by
 have e:nth (lD c s).w i=[]:=by simp[lD,nth,hi]
 rw[e];simp[sm]
end Go.Proofs.YtmpikpodpgnjhaaGreat
