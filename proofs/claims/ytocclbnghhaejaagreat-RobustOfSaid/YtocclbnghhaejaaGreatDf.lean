/- Parts of the proof, joined: Cas4, Cas5, Mk5, Flo1, Cas6, Cas7, Cas8, Cas9, Cas10, Cas11, Flo2, Cas12, Bal1. -/
import Derived.Test.YtocclbnghhaejaaGreatDe
import Derived.Test.YtocclbnghhaejaaGreatDd
namespace Go.Proofs.YtocclbnghhaejaaGreat
set_option linter.all false
open Go.Vm
attribute [local simp] lQ lR kP lP
def fd(p:Nat→Bool):Nat→Nat→Option Nat
 |0,_=>none
 |m+1,i=>if p i then some i else fd p m (i+1)
theorem aay{p:Nat→Bool}{i n:Nat}(h:i<n):fd p (n-i) i=if p i then some i else fd p (n-(i+1)) (i+1):=by
 obtain⟨m,hm⟩:∃m,n-i=m+1:=⟨n-i-1,by omega⟩
 rw[hm,fd,show n-(i+1)=m by omega]
theorem aaz{p:Nat→Bool}{n:Nat}:fd p (n-n) n=none:=by rw[Nat.sub_self];rfl
theorem yu{p:Nat→Bool}:∀{m i k:Nat},fd p m i=some k→(i≤k∧k<i+m)∧p k=true∧∀j,i≤j→j<k→p j=false
 |0,i,k,h=>by simp[fd]at h
 |m+1,i,k,h=>by
  unfold fd at h;split at h
  ·rename_i h1;cases h;exact⟨by omega,h1,fun j a b=>by omega⟩
  ·rename_i h1
   have:=yu h;refine⟨by omega,this.2.1,fun j a b=>?_⟩
   by_cases hj:j=i
   ·subst hj;simpa using h1
   ·exact this.2.2 j (by omega) b
theorem P8{p:Nat→Bool}:∀{m i:Nat},fd p m i=none→∀j,i≤j→j<i+m→p j=false
 |0,i,_,j,a,b=>by omega
 |m+1,i,h,j,a,b=>by
  unfold fd at h;split at h
  ·cases h
  ·rename_i h1
   by_cases hj:j=i
   ·subst hj;simpa using h1
   ·exact P8 h j (by omega) (by omega)
def ti:Option Nat→Int
 |some k=>k
 |none => -1
def kU(s:List Si)(n:Int):Option Nat:=fd (fun i=>decide ((nth s i).n=n)) s.length 0
def lV(l:List Lk)(n:Int):Option Nat:=fd (fun i=>decide ((nth l i).f=n)) l.length 0
theorem an1(s:List Si)(hs:s.length≤1000)(n:Int){k:Nat}{G:List aP}(hG:G[k]?=some (.cells [i64 n])) :
  aX F 183 [qe s,.fn 184 [.bG k 0]] G=some (i64 (ti (kU s n)),G) :=
 bM rfl rfl (by
  generalize hW:ti (kU s n)=W;have hp:∀x:Si,aX F 184 [.agg x.row,.bG k 0] G=some (.bool (decide (x.n=n)),G):=fun x=>bM rfl rfl (by
   simp (disch:=omega) [-getElem?_pos,wrap64,Xy,hG])
  simp (disch:=omega) [-getElem?_pos,wrap64,Xx];refine go_loop (fun i:Nat=>akd (qe s) (.fn 184 [.bG k 0]) s.length i G) (fun i=>i≤s.length∧ti (fd (fun i=>decide ((nth s i).n=n)) (s.length-i) i)=W) (fun i=>s.length-i) 0 rfl (by simp) ⟨by omega,hW⟩ ?_
  rintro i ⟨hi,hq⟩;simp (disch:=omega) [-getElem?_pos,wrap64,Xw];refine bE (fun h5=>?_) (fun h5=>?_)
  ·have h5:i<s.length:=by omega
   rw[aay h5]at hq;simp (disch:=omega) [-getElem?_pos,wrap64,aW (l:=s),hp];refine bE (fun h6=>?_) (fun h6=>?_)
   ·rw[if_pos (decide_eq_true h6)]at hq
    exact hq
   ·rw[if_neg (by simp[h6])]at hq
    exact bF (i+1) (by simp) ⟨by omega,hq⟩ (by omega)
  ·obtain rfl:i=s.length:=by omega
   rw[aaz]at hq;exact hq)
theorem an2(s:List Lk)(hs:s.length≤1000)(n:Int){k:Nat}{G:List aP}(hG:G[k]?=some (.cells [i64 n])) :
  aX F 187 [nC s,.fn 188 [.bG k 0]] G=some (i64 (ti (lV s n)),G) :=
 bM rfl rfl (by
  generalize hW:ti (lV s n)=W;have hp:∀x:Lk,aX F 188 [.agg x.row,.bG k 0] G=some (.bool (decide (x.f=n)),G):=fun x=>bM rfl rfl (by
   simp (disch:=omega) [-getElem?_pos,wrap64,XC,hG])
  simp (disch:=omega) [-getElem?_pos,wrap64,XB];refine go_loop (fun i:Nat=>akf (nC s) (.fn 188 [.bG k 0]) s.length i G) (fun i=>i≤s.length∧ti (fd (fun i=>decide ((nth s i).f=n)) (s.length-i) i)=W) (fun i=>s.length-i) 0 rfl (by simp) ⟨by omega,hW⟩ ?_
  rintro i ⟨hi,hq⟩;simp (disch:=omega) [-getElem?_pos,wrap64,XA];refine bE (fun h5=>?_) (fun h5=>?_)
  ·have h5:i<s.length:=by omega
   rw[aay h5]at hq;simp (disch:=omega) [-getElem?_pos,wrap64,aW (l:=s),hp];refine bE (fun h6=>?_) (fun h6=>?_)
   ·rw[if_pos (decide_eq_true h6)]at hq
    exact hq
   ·rw[if_neg (by simp[h6])]at hq
    exact bF (i+1) (by simp) ⟨by omega,hq⟩ (by omega)
  ·obtain rfl:i=s.length:=by omega
   rw[aaz]at hq;exact hq)
theorem an3(x:Int)(G:List aP):aX F 153 [i64 x] G=some (.bool (!decide (0≤x∧x≤1073741824)),G) :=
 bM rfl rfl (by
  by_cases h1:x<0
  ·rw[decide_eq_false (by omega)]
   simp[wrap64,I8,h1]
  ·by_cases h2:1073741824<x
   ·rw[decide_eq_false (by omega)]
    simp[wrap64,I8,h1,h2]
   ·rw[decide_eq_true (by omega)]
    simp[wrap64,I8,h1,h2])
theorem an4(a b c:List Int)(h:a.length+b.length+c.length≤1000)(G:List aP):aX F 152 [.slice none 1 [[ints a],[ints b],[ints c]]] G=some (ints (a++b++c),G) :=
 bM rfl rfl (by
  simp (disch:=omega) [wrap64,WV,WS,WR,WU,WT,Bc];refine bE (fun g=>absurd g (by omega)) (fun _=>bE (fun g=>absurd g (by omega)) (fun _=>bE (fun g=>absurd g (by omega)) (fun _=>?_)))
  simp (disch:=omega) [wrap64,MD (l:=a++(b++c)) (n:=a.length+b.length+c.length) (by simp;omega)])
structure Sp where
 a:List Int
 b:List Int
 c:List Int
abbrev Sp.row(p:Sp):List V:=[ints p.a,ints p.b,ints p.c]
abbrev sv(p:Sp):V:=.agg p.row
def mj(c:Cs)(p:Sp):Prop:=(p.a.length:Int)=c.r.n∧p.b.length=c.s.length∧p.c.length=c.s.length
instance {c:Cs} {p:Sp}:Decidable (mj c p):=inferInstanceAs (Decidable (_∧_∧_))
theorem an5(c:Cs)(p:Sp)(G:List aP):aX F 151 [cs c,sv p] G=some (.bool (decide (mj c p)),G) :=
 bM rfl rfl (by
  obtain⟨⟨n,l⟩,s⟩:=c;obtain⟨a,b,c⟩:=p;generalize hW:decide (mj ⟨⟨n,l⟩,s⟩ ⟨a,b,c⟩)=W;have no:¬ mj ⟨⟨n,l⟩,s⟩ ⟨a,b,c⟩→W=false:=fun h=>by rw[←hW];simp[h]
  have yes:mj ⟨⟨n,l⟩,s⟩ ⟨a,b,c⟩→W=true:=fun h=>by rw[←hW];simp[h]
  unfold mj at no yes;simp only at no yes;by_cases h1:(a.length:Int)=n
  ·by_cases h2:(b.length:Int)=s.length
   ·by_cases h3:(c.length:Int)=s.length
    ·simp[wrap64,FU,h1,h2,h3]
     exact yes (by omega)
    ·simp[wrap64,FU,h1,h2,h3]
     exact no (by omega)
   ·simp[wrap64,FU,h1,h2]
    exact no (by omega)
  ·simp[wrap64,FU,h1]
   exact no (by omega))
theorem P9(l:List Int)(hl:l.length≤1000)(m:Int)(G:List aP):aX F 84 [ints l,i64 m] G=some (.bool (decide (eJ l m)),G) :=
 bM rfl rfl (by
  generalize hW:decide (eJ l m)=W;simp (disch:=omega) [-getElem?_pos,wrap64,V4];refine go_loop (fun i:Nat=>air m (ints l) l.length i G) (fun i=>i≤l.length∧∀j,j<i→0≤nth l j∧nth l j≤m) (fun i=>l.length-i) 0 rfl (by simp) (by simp) ?_
  rintro i ⟨hi,hj⟩;simp (disch:=omega) [-getElem?_pos,wrap64,V3];refine bE (fun h5=>?_) (fun h5=>?_)
  ·have h5:i<l.length:=by omega
   by_cases h6:0≤nth l i∧nth l i≤m
   ·have gV:(decide (0≤nth l i)&&decide (nth l i≤m))=true:=by simp;exact h6
    simp (disch:=omega) [-getElem?_pos,wrap64,dj (l:=l),DX,gV];refine bF (i+1) (by simp) ⟨by omega,fun j h7=>?_⟩ (by omega)
    rcases Nat.lt_or_ge j i with h8|h8
    ·exact hj j h8
    ·rwa [show j=i by omega]
   ·have gV:(decide (0≤nth l i)&&decide (nth l i≤m))=false:=by simp;omega
    simp (disch:=omega) [-getElem?_pos,wrap64,dj (l:=l),DX,gV];rw[←hW,decide_eq_false (fun g:eJ l m=>h6 (g i h5))]
  ·obtain rfl:i=l.length:=by omega
   rw[←hW,decide_eq_true (show eJ l m from hj)])
structure Kv(r:Rr):Prop where
 n:1≤r.n∧r.n≤40
 e:∀i,i<r.l.length→lE r i=0
theorem j0{r:Rr}(h:jd r=0):Kv r:=by
 unfold jd at h;split at h
 ·cases h
 ·exact⟨by omega,fun i hi=>rU h i (by omega) (by omega)⟩
theorem Kv.link{r:Rr}(h:Kv r){i:Nat}(hi:i<r.l.length):(0≤(nth r.l i).f∧(nth r.l i).f<(nth r.l i).t∧(nth r.l i).t≤r.n-1)∧(0<i→(nth r.l (i-1)).f<(nth r.l i).f)∧eM (nth r.l i).r=0:=by
 have he:=h.e i hi;unfold lE at he;simp only at he;split at he
 ·split at he
  ·cases he
  ·split at he
   ·cases he
   ·exact⟨by omega,fun h0=>by omega,he⟩
 ·cases he
theorem Kv.up{r:Rr}(h:Kv r):∀{i:Nat},i<r.l.length→(i:Int)≤(nth r.l i).f
 |0,hi=>by have:=(h.link hi).1;omega
 |i+1,hi=>by
  have:=h.up (i:=i) (by omega)
  have:=(h.link hi).2.1 (by omega)
  simp only[Nat.add_sub_cancel]at this;omega
theorem Kv.len{r:Rr}(h:Kv r):r.l.length≤39:=by
 have h1:=h.n;by_cases h0:r.l.length=0
 ·omega
 ·have h2:=h.up (i:=r.l.length-1) (by omega)
  have h3:=(h.link (i:=r.l.length-1) (by omega)).1
  omega
theorem aaA:∀n:Nat,kr [some 1] (List.replicate n [V.bV])=some (List.replicate n [ints []])
 |0=>rfl
 |n+1=>by rw[List.replicate_succ,kr,aaA n];rfl
theorem aaB{n:Nat}:kr [some 1] (chunks 1 (List.replicate n V.bV) 0 n)=some (List.replicate n [ints []]):=by
 rw[Fe _ _ _ rfl (by simp),List.drop_zero,List.take_of_length_le (by simp),List.map_replicate]
 exact aaA n
theorem Qa:∀n:Nat,(List.replicate n [V.bV]).flatten=List.replicate n V.bV
 |0=>rfl
 |n+1=>by rw[List.replicate_succ,List.flatten_cons,Qa n];rfl
theorem aaC(r:Rr)(hr:gW r)(G:List aP):aX F 71 [rr r] G=some (.tuple (if jd r=0 then [je (List.replicate r.l.length []),i64 0] else [.slice (some 0) 1 [],i64 (jd r)]),G) :=
 bM rfl rfl (by
  have h1:=J5 r hr;have h2:=J6 r hr;obtain⟨n,l⟩:=r;by_cases hz:jd ⟨n,l⟩=0
  ·have hl:=(j0 hz).len
   simp only at hl;rw[if_pos hz];simp (disch:=omega) [wrap64,ND,h1,h2,hz,Qa,aaB]
  ·rw[if_neg hz]
   simp (disch:=omega) [wrap64,ND,h1,h2,hz])
noncomputable def kV(c:Cs)(l:List Ds):Int:=if ew c≠0 then ew c else if mi c l then 0 else 3
def jw(c:Cs)(l:List Ds):Fl:=⟨0,l,List.replicate c.r.l.length []⟩
noncomputable def kE(c:Cs)(l:List Ds):V:=.tuple (if kV c l=0 then [fl (jw c l),i64 0] else [.agg [i64 0,.slice (some 0) 4 [],.slice (some 0) 1 []],i64 (kV c l)])
theorem Ai{c:Cs}(h:ew c=0){l:List Ds}(hl:mi c l):G5 l:=by
 have h6:=(jZ h).s;have h7:=hl.1;refine⟨by omega,fun i hi=>?_⟩
 have h8:=hl.2 i (by omega)
 have h9:=yn h8.1;have a:=h9.u;have b:=h9.g;have c:=h8.2.2.2.1;have d:=h8.2.2.2.2.1;omega
theorem D0{c:Cs}(h:ew c=0){l:List Ds}:ft c (jw c l)↔mi c l:=by
 refine⟨fun g=>g.2.1,fun g=>⟨by simp[jw],g,by simp[jw],fun i hi=>?_⟩⟩
 have hk:=(j0 (jZ h).k).link hi;refine⟨hk.2.2,?_⟩;have e:nth (jw c l).w i=[]:=by simp[jw,nth,hi]
 rw[e];exact⟨by simp,by simp,fun j hj=>by simp at hj⟩
theorem aaD(c:Cs)(l:List Ds):jY (jw c l):=fun i=>by
 rcases Nat.lt_or_ge i c.r.l.length with h|h
 ·simp[jw,nth,h]
 ·have e:nth (jw c l).w i=[]:=by
   simp[jw,nth,List.getElem?_eq_none (show(List.replicate c.r.l.length ([]:List Int)).length≤i by simpa using h)]
   rfl
  rw[e];simp
theorem an7(c:Cs)(hr:gW c.r)(l:List Ds)(BS:G5 l):∃G',aX F 25 [cs c,m7 l] []=some (kE c l,G'):=by
 have h1:=BX c hr;by_cases hz:ew c=0
 ·have h3:=aaC c.r hr
  rw[if_pos (jZ hz).k]at h3;have h4:=aax l BS;have h5:=DY c hr (jw c l) (aaD c l);by_cases hs:mi c l
  ·rw[decide_eq_true ⟨hz,(D0 hz).2 hs⟩]at h5
   rw[show kE c l=.tuple [fl (jw c l),i64 0] by unfold kE;rw[show kV c l=0 by unfold kV;rw[if_neg (by omega),if_pos hs]];rfl]
   refine⟨[.cells []],bM rfl rfl ?_⟩;simp only[fl,Fl.row,jw,je,List.map_replicate]at h5;simp[wrap64,Br,h1,hz,h3,h4,h5,sr,jw]
  ·rw[decide_eq_false (fun g=>hs ((D0 hz).1 g.2))]at h5
   rw[show kE c l=.tuple [.agg [i64 0,.slice (some 0) 4 [],.slice (some 0) 1 []],i64 3] by unfold kE;rw[show kV c l=3 by unfold kV;rw[if_neg (by omega),if_neg hs]];rfl]
   refine⟨[.cells []],bM rfl rfl ?_⟩;simp only[fl,Fl.row,jw,je,List.map_replicate]at h5;simp[wrap64,Br,h1,hz,h3,h4,h5,sr]
 ·rw[show kE c l=.tuple [.agg [i64 0,.slice (some 0) 4 [],.slice (some 0) 1 []],i64 (ew c)] by unfold kE;rw[show kV c l=ew c by unfold kV;rw[if_pos hz]];rw[if_neg hz]]
  refine⟨[],bM rfl rfl ?_⟩;simp[wrap64,Br,h1,hz]
theorem aaF{l:List Int}{a:Int}:∀{i:Nat},i≤l.length→sm (l++[a]) i=sm l i
 |0,_=>rfl
 |i+1,h=>by
  simp only[sm];rw[aaF (by omega),p8 (by omega)]
theorem an8{l:List Int}{a:Int}:sm (l++[a]) (l.length+1)=sm l l.length+a:=by
 simp only[sm];rw[aaF (Nat.le_refl _),iF,if_neg (by omega),if_pos rfl]
abbrev wL(l:List Int):V:=.slice (some 0) 1 (l.map fun n=>[i64 n])
abbrev Qb(r:Rc):V:=.agg [wL r.w,i64 r.den]
theorem an9{l:List Int}{k:Nat}(hd:db l k):∃r k',aX F 156 [.bG 0 0] [dk l k]=some (Qb r,[dk l k'])∧db l k'∧eM r=0∧r.w.length≤5:=by
 suffices h:∀Q:V→List aP→Prop,(∀r k',db l k'→eM r=0→r.w.length≤5→Q (Qb r) [dk l k'])→gy (aX F) 156 [.bG 0 0] [dk l k] Q by
  obtain⟨_,_,h,r,k',rfl,rfl,h1⟩:=h (fun v G=>∃r k',v=Qb r∧G=[dk l k']∧db l k'∧eM r=0∧r.w.length≤5) fun r k' a b c=>⟨r,k',rfl,rfl,a,b,c⟩;exact⟨r,k',h,h1⟩
 intro Q hQ;refine gS rfl rfl ?_;obtain⟨m,k1,n1,gB,hm⟩:=fK hd 5 (by omega)
 simp (disch:=omega) [wrap64,WZ,n1];refine go_loop (fun s:List Int×Int×Int×Nat=>ajy (.bG 0 0) s.2.2.1 [.bV,i64 0] [.slice (some 1022) 1 (s.1.map fun n=>[i64 n]),i64 s.2.1] s.1.length [dk l s.2.2.2])
  (fun s=>s.2.1=sm s.1 s.1.length∧(∀i,i<s.1.length→0≤nth s.1 i∧nth s.1 i≤4)∧(s.1.length:Int)+s.2.2.1+1≤5 ∧ -1≤s.2.2.1∧(s.2.2.1 = -1→0<s.1.length∧1≤nth s.1 (s.1.length-1))∧db l s.2.2.2) (fun s=>(s.2.2.1+1).toNat)
  ([],0,m,k1) rfl (by simp) ⟨rfl,by simp,by simp;omega,by simp only;omega,by simp only;omega,gB⟩ ?_
 rintro⟨w,den,x,k⟩ ⟨h1,h2,h3,h4,h5,hd⟩;simp only at h1 h2 h3 h4 h5 hd;have qU:=yq (l:=w) (b:=4) (i:=w.length) h2;obtain⟨a,k2,n2,eX,ha⟩:=fK hd 4 (by omega)
 simp (disch:=omega) [wrap64,WY];refine bE (fun h6=>?_) (fun h6=>?_)
 ·have key:∀b:Int,(0≤b∧b≤4)→(x=0→1≤b)→((den+b=sm (w++[b]) (w++[b]).length)∧(∀i,i<(w++[b]).length→0≤nth (w++[b]) i∧nth (w++[b]) i≤4)∧((w++[b]).length:Int)+(x-1)+1≤5 ∧ -1≤x-1∧(x-1 = -1→0<(w++[b]).length∧1≤nth (w++[b]) ((w++[b]).length-1))∧db l k2):=fun b hb zB=>by
   refine⟨by rw[List.length_append,List.length_singleton,an8,h1],fun i hi=>?_,by simp;omega,by omega,fun g=>⟨by simp,?_⟩,eX⟩
   ·rw[iF]
    simp at hi;split
    ·exact h2 i (by assumption)
    ·rw[if_pos (by omega)];exact hb
   ·rw[List.length_append,List.length_singleton,Nat.add_sub_cancel,iF,if_neg (by omega),if_pos rfl]
    exact zB (by omega)
  by_cases h7:x=0
  ·subst h7
   simp (disch:=omega) [wrap64,n2];exact bF (w++[a+1],den+(a+1),-1,k2) (by simp) (key (a+1) (by omega) (fun _=>by omega)) (by simp)
  ·simp (disch:=omega) [wrap64,n2,h7]
   exact bF (w++[a],den+a,x-1,k2) (by simp) (key a (by omega) (fun g=>absurd g h7)) (by simp only;omega)
 ·have hx:x = -1:=by omega
  obtain⟨h8,h9⟩:=h5 hx;refine hQ ⟨w,den⟩ k hd ?_ (by simp only;omega)
  unfold eM;simp only;rw[if_neg (by omega),if_neg (by omega),if_pos (show eJ w 10000 from fun i hi=>by have:=h2 i hi;omega),if_pos h1.symm]
structure Rm(m:Int)(l:List Lk)(n:Int):Prop where
 link:∀i,i<l.length→0≤(nth l i).f∧(nth l i).f<(nth l i).t∧(nth l i).t≤m-1∧(nth l i).f<n∧eM (nth l i).r=0∧(nth l i).r.w.length≤5
 up:∀i,0<i→i<l.length→(nth l (i-1)).f<(nth l i).f
 len:(l.length:Int)≤n
theorem Rm.snoc{m:Int}{l:List Lk}{n:Int}(h:Rm m l n)(hn:0≤n){x:Lk}(h1:x.f=n)(h2:n<x.t)(h3:x.t≤m-1)(h4:eM x.r=0)(h5:x.r.w.length≤5):Rm m (l++[x]) (n+1):=by
 refine⟨fun i hi=>?_,fun i h0 hi=>?_,by have:=h.len;simp;omega⟩
 ·simp at hi
  rw[iF];split
  ·have:=h.link i (by assumption);omega
  ·rw[if_pos (by omega)];omega
 ·simp at hi
  rw[iF,iF,if_pos (by omega)]
  split
  ·exact h.up i h0 (by assumption)
  ·rw[if_pos (by omega),h1]
   exact(h.link (i-1) (by omega)).2.2.2.1
theorem Rm.skip{m:Int}{l:List Lk}{n:Int}(h:Rm m l n):Rm m l (n+1) :=
 ⟨fun i hi=>by have:=h.link i hi;omega,h.up,by have:=h.len;omega⟩
theorem Rm.eH{m:Int}{l:List Lk}{n:Int}(h:Rm m l n)(hm:1≤m∧m≤40):jd ⟨m,l⟩=0:=by
 unfold jd;rw[if_neg (by simp only;omega)]
 refine rW fun i _ hi=>?_;have hi:i<l.length:=by simp only at hi;omega
 have a:=h.link i hi;show(if (0≤(nth l i).f∧(nth l i).f≤m-1)∧(0≤(nth l i).t∧(nth l i).t≤m-1) then (if (nth l i).t≤(nth l i).f then 12 else if 0<i∧(nth l i).f≤(nth l (i-1)).f then 4 else eM (nth l i).r) else 11)=0
 rw[if_pos (by omega),if_neg (by omega),if_neg (fun g=>by have:=h.up i g.1 hi;omega)]
 exact a.2.2.2.2.1
abbrev Qc(l:List Lk):V:=.slice (some 0) 4 (l.map Lk.row)
theorem aoa{l:List Int}{k:Nat}(hd:db l k):∃r k',aX F 108 [.bG 0 0] [dk l k]=some (.agg [i64 r.n,Qc r.l],[dk l k'])∧db l k'∧jd r=0∧r.n≤6∧∀i,i<r.l.length→(nth r.l i).r.w.length≤5:=by
 suffices h:∀Q:V→List aP→Prop,(∀r k',db l k'→jd r=0→r.n≤6→(∀i,i<r.l.length→(nth r.l i).r.w.length≤5)→Q (.agg [i64 r.n,Qc r.l]) [dk l k'])→gy (aX F) 108 [.bG 0 0] [dk l k] Q by
  obtain⟨_,_,h,r,k',rfl,rfl,h1⟩:=h (fun v G=>∃r k',v=.agg [i64 r.n,Qc r.l]∧G=[dk l k']∧db l k'∧jd r=0∧r.n≤6∧∀i,i<r.l.length→(nth r.l i).r.w.length≤5) fun r k' a b c d=>⟨r,k',rfl,rfl,a,b,c,d⟩;exact⟨r,k',h,h1⟩
 intro Q hQ;refine gS rfl rfl ?_;obtain⟨a,k1,n1,gB,ha⟩:=fK hd 6 (by omega)
 obtain⟨m,hm⟩:∃m:Int,1+a=m:=⟨_,rfl⟩;simp (disch:=omega) [wrap64,Wg,n1,hm];refine go_loop (fun s:List Lk×Int×Nat=>aiI (.bG 0 0) s.2.1 [i64 0,.bV] [i64 m,.slice (some 1036) 4 (s.1.map Lk.row)] s.1.length [dk l s.2.2])
  (fun s=>Rm m s.1 s.2.1∧(0≤s.2.1∧s.2.1<m)∧db l s.2.2) (fun s=>(m-s.2.1).toNat) ([],0,k1) rfl (by simp) ⟨⟨by simp,by simp,by simp⟩,by simp only;omega,gB⟩ ?_
 rintro⟨ls,n,k⟩ ⟨h1,h2,hd⟩;simp only at h1 h2 hd;have ky:=h1.len;obtain⟨b,k2,n2,eX,hb⟩:=fK hd 6 (by omega)
 simp (disch:=omega) [wrap64,Wf];refine bE (fun h6=>?_) (fun h6=>?_)
 ·by_cases h7:0<b
  ·obtain⟨e,k3,n3,lT,he⟩:=fK eX (m-n-1) (by omega)
   obtain⟨r,k4,n4,pE,uf,nL⟩:=an9 lT;simp (disch:=omega) [wrap64,n2,h7,n3,n4];exact bF (ls++[⟨n,n+1+e,r⟩],n+1,k4) (by simp) ⟨h1.snoc h2.1 rfl (by simp only;omega) (by simp only;omega) uf nL,by simp only;omega,pE⟩ (by simp only;omega)
  ·simp (disch:=omega) [wrap64,n2,h7]
   exact bF (ls,n+1,k2) (by simp) ⟨h1.skip,by simp only;omega,eX⟩ (by simp only;omega)
 ·refine hQ ⟨m,ls⟩ k hd (h1.eH (by omega)) (by simp only;omega) fun i hi=>(h1.link i hi).2.2.2.2.2
structure Cm(c:Cs):Prop where
 eH:ew c=0
 n:c.r.n≤6
 s:c.s.length≤3
 w:∀i,i<c.r.l.length→(nth c.r.l i).r.w.length≤5
theorem Cm.small{c:Cs}(h:Cm c):gW c.r:=by
 have:=(j0 (jZ h.eH).k).len;exact⟨by omega,fun i hi=>by have:=h.w i hi;omega⟩
structure Sm(m:Int)(s:List Si)(l:List Ds)(n:Int):Prop where
 len:l.length=s.length
 three:s.length≤3
 site:∀i,i<s.length→(0≤(nth s i).n∧(nth s i).n<m∧(nth s i).n<n)∧fq (nth s i).d=0∧iS (nth s i).d (nth l i)
 up:∀i,0<i→i<s.length→(nth s (i-1)).n<(nth s i).n
abbrev J9(l:List Si):V:=.slice (some 0) 10 (l.map Si.row)
abbrev Ka(l:List Ds):V:=.slice (some 0) 4 (l.map Ds.row)
theorem Sm.snoc{m:Int}{s:List Si}{l:List Ds}{n:Int}(h:Sm m s l n)(h3:s.length<3)(hn:0≤n∧n<m){d:Dm}{x:Ds}(h1:fq d=0)(h2:iS d x):Sm m (s++[⟨n,d⟩]) (l++[x]) (n+1):=by
 refine⟨by simp[h.len],by simp;omega,fun i hi=>?_,fun i h0 hi=>?_⟩
 ·simp at hi
  rw[iF,iF,h.len];split
  ·have:=h.site i (by assumption)
   exact⟨by omega,this.2⟩
  ·rw[if_pos (by omega),if_pos (by omega)];exact⟨by simp only;omega,h1,h2⟩
 ·simp at hi
  rw[iF,iF,if_pos (by omega)]
  split
  ·exact h.up i h0 (by assumption)
  ·rw[if_pos (by omega)]
   exact(h.site (i-1) (by omega)).1.2.2
theorem Sm.skip{m:Int}{s:List Si}{l:List Ds}{n:Int}(h:Sm m s l n):Sm m s l (n+1) :=
 ⟨h.len,h.three,fun i hi=>⟨by have:=h.site i hi;omega,(h.site i hi).2⟩,h.up⟩
theorem Sm.eH{r:Rr}{s:List Si}{l:List Ds}{n:Int}(h:Sm r.n s l n)(hk:jd r=0)(h6:r.n≤6):ew ⟨r,s⟩=0:=by
 unfold ew;simp only;have h3:=h.three;rw[if_neg (by omega),if_neg (by omega),if_neg (by omega)]
 refine rW fun i _ hi=>?_;have hi:i<s.length:=by omega
 have a:=h.site i hi;show(if 0≤(nth s i).n∧(nth s i).n<r.n then (if 0<i∧(nth s i).n≤(nth s (i-1)).n then 4 else fq (nth s i).d) else 41)=0
 rw[if_pos (by omega),if_neg (fun g=>by have:=h.up i g.1 hi;omega)]
 exact a.2.1
theorem aob{l:List Int}{k:Nat}(hd:db l k):∃c s k',aX F 54 [.bG 0 0] [dk l k]=some (.tuple [.agg [i64 c.r.n,nC c.r.l,J9 c.s],Ka s],[dk l k'])∧db l k'∧Cm c∧mi c s:=by
 suffices h:∀Q:V→List aP→Prop,(∀c s k',db l k'→Cm c→mi c s→Q (.tuple [.agg [i64 c.r.n,nC c.r.l,J9 c.s],Ka s]) [dk l k'])→gy (aX F) 54 [.bG 0 0] [dk l k] Q by
  obtain⟨_,_,h,c,s,k',rfl,rfl,h1⟩:=h (fun v G=>∃c s k',v=.tuple [.agg [i64 c.r.n,nC c.r.l,J9 c.s],Ka s]∧G=[dk l k']∧db l k'∧Cm c∧mi c s) fun c s k' a b d=>⟨c,s,k',rfl,rfl,a,b,d⟩;exact⟨c,s,k',h,h1⟩
 intro Q hQ;refine gS rfl rfl ?_;obtain⟨r,k1,n1,gB,hk,hn,hw⟩:=aoa hd;have jc:=(j0 hk).n;simp (disch:=omega) [wrap64,Vh,n1];refine go_loop (fun s:List Si×List Ds×Int×Nat=>ahh (.bG 0 0) (.slice (some 1043) 4 (s.2.1.map Ds.row)) s.2.2.1 [i64 0,.bV,.bV] [i64 r.n,nC r.l,.slice (some 1039) 10 (s.1.map Si.row)] s.1.length s.2.1.length [dk l s.2.2.2])
  (fun s=>Sm r.n s.1 s.2.1 s.2.2.1∧(0≤s.2.2.1∧s.2.2.1≤r.n)∧db l s.2.2.2) (fun s=>(r.n-s.2.2.1).toNat) ([],[],0,k1) rfl (by simp) ⟨⟨rfl,by simp,by simp,by simp⟩,by simp only;omega,gB⟩ ?_
 rintro⟨s,d,n,k⟩ ⟨h1,h2,hd⟩;simp only at h1 h2 hd;have h3:=h1.three;have hl:=h1.len;have fin:Q (.tuple [.agg [i64 r.n,nC r.l,J9 s],Ka d]) [dk l k]:=hQ ⟨r,s⟩ d k hd ⟨h1.eH hk hn,hn,h3,hw⟩ ⟨hl,fun i hi=>(h1.site i hi).2⟩;by_cases h4:n<r.n
 ·by_cases h5:s.length<3
  ·have yo:(s.length:Int)<3:=by omega
   obtain⟨b,k2,n2,eX,hb⟩:=fK hd 2 (by omega)
   by_cases h6:b=0
   ·obtain⟨dd,x,k3,n3,lT,vC⟩:=ann eX
    simp (disch:=omega) [wrap64,FI,h4,yo,n2,h6,n3];exact bF (s++[⟨n,dd⟩],d++[x],n+1,k3) (by simp[hl]) ⟨h1.snoc h5 (by omega) vC.eH vC.fit,by simp only;omega,lT⟩ (by simp only;omega)
   ·simp (disch:=omega) [wrap64,FI,h4,yo,n2,h6]
    exact bF (s,d,n+1,k2) (by simp) ⟨h1.skip,by simp only;omega,eX⟩ (by simp only;omega)
  ·have yo:¬ (s.length:Int)<3:=by omega
   simp (disch:=omega) [wrap64,FI,h4,yo];exact fin
 ·simp (disch:=omega) [wrap64,FI,h4]
  exact fin
theorem Qd{l:List Int}{k:Nat}(hd:db l k){c:Cs}(hn:1≤c.r.n∧c.r.n≤40)(hs:c.s.length≤10) :
  ∃p k',aX F 77 [.bG 0 0,cs c] [dk l k]=some (.agg [wL p.a,wL p.b,wL p.c],[dk l k'])∧db l k'∧mj c p∧eJ p.a 30∧eJ p.b 30∧eJ p.c 30:=by
 suffices h:∀Q:V→List aP→Prop,(∀p k',db l k'→mj c p→eJ p.a 30→eJ p.b 30→eJ p.c 30→Q (.agg [wL p.a,wL p.b,wL p.c]) [dk l k'])→gy (aX F) 77 [.bG 0 0,cs c] [dk l k] Q by
  obtain⟨_,_,h,p,k',rfl,rfl,h1⟩:=h (fun v G=>∃p k',v=.agg [wL p.a,wL p.b,wL p.c]∧G=[dk l k']∧db l k'∧mj c p∧eJ p.a 30∧eJ p.b 30∧eJ p.c 30) fun p k' a b d e g=>⟨p,k',rfl,rfl,a,b,d,e,g⟩;exact⟨p,k',h,h1⟩
 intro Q hQ;refine gS rfl rfl ?_;obtain⟨⟨n,r⟩,s⟩:=c;simp only at hn hs;have snoc:∀{a:List Int} {x:Int},eJ a 30→(0≤x∧x≤30)→eJ (a++[x]) 30:=fun h hx i hi=>by
  simp at hi;rw[iF];split
  ·exact h i (by assumption)
  ·rw[if_pos (by omega)];exact hx
 simp (disch:=omega) [wrap64,VQ];refine go_loop (fun y:List Int×Nat=>⟨[(0,.bG 0 0),(3,.bf 3 0),(4,.bf 4 0),(5,.bf 5 0),(8,i64 n),(9,i64 y.1.length)],[(3,[i64 n,nC r,qe s]),(4,[.bV,.bV,.bV]),(5,[.slice (some 1016) 1 (y.1.map fun n=>[i64 n]),.bV,.bV])],[(1016,y.1.length)],[dk l y.2]⟩)
  (fun y=>(y.1.length:Int)≤n∧eJ y.1 30∧db l y.2) (fun y=>(n-y.1.length).toNat) ([],k) rfl (by simp) ⟨by simp;omega,fun i hi=>by simp at hi,hd⟩ ?_
 rintro⟨a,k⟩ ⟨h1,h2,hd⟩;simp only at h1 h2 hd;obtain⟨x,k1,n1,gB,hx⟩:=fK hd 14 (by omega)
 simp (disch:=omega) [wrap64,VN];refine bE (fun h3=>?_) (fun h3=>?_)
 ·simp (disch:=omega) [wrap64,n1]
  exact bF (a++[x],k1) (by simp) ⟨by simp;omega,snoc h2 (by omega),gB⟩ (by simp;omega)
 ·refine go_loop (fun y:List Int×List Int×Nat=>⟨[(0,.bG 0 0),(4,.bf 4 0),(5,.bf 5 0),(21,i64 s.length),(22,i64 y.1.length)],[(4,[.bV,.bV,.bV]),(5,[.slice (some 1016) 1 (a.map fun n=>[i64 n]),.slice (some 1029) 1 (y.1.map fun n=>[i64 n]),.slice (some 1035) 1 (y.2.1.map fun n=>[i64 n])])],[(1016,a.length),(1029,y.1.length),(1035,y.2.1.length)],[dk l y.2.2]⟩)
   (fun y=>y.1.length≤s.length∧y.2.1.length=y.1.length∧eJ y.1 30∧eJ y.2.1 30∧db l y.2.2) (fun y=>s.length-y.1.length) ([],[],k) rfl (by simp) ⟨by simp,rfl,fun i hi=>by simp at hi,fun i hi=>by simp at hi,hd⟩ ?_
  rintro⟨b,d,k⟩ ⟨g1,g2,g3,g4,hd⟩;simp only at g1 g2 g3 g4 hd;obtain⟨x,k1,n1,gB,hx⟩:=fK hd 3 (by omega)
  obtain⟨y,k2,n2,eX,hy⟩:=fK gB 30 (by omega)
  simp (disch:=omega) [wrap64,VP];refine bE (fun h4=>?_) (fun h4=>?_)
  ·simp (disch:=omega) [wrap64,n1,n2,g2]
   exact bF (b++[x],d++[y],k2) (by simp[g2]) ⟨by simp;omega,by simp[g2],snoc g3 (by omega),snoc g4 (by omega),eX⟩ (by simp;omega)
  ·refine hQ ⟨a,b,d⟩ k hd ⟨by simp only;omega,by simp only;omega,by simp only;omega⟩ h2 g3 g4
structure Co where
 arr:List Int
 d:List Ds
 w:List (List Int)
 re:List Dr
 lf:List Int
 cm:List Int
def oM(r:Dr):Int:=r.tur+r.spi+r.ovr
noncomputable def ml(c:Cs)(p:Sp)(v:Co)(k:Nat):Int:=match kU c.s k with
 |none=>0
 |some i=>nB (nth c.s i).d (nth v.d i) (nth v.arr k) (nth p.b i) (nth p.c i)
noncomputable def vR(c:Cs)(p:Sp)(v:Co)(k i:Nat):Dr:=lD (nth c.s i).d (nth v.d i) (nth v.arr k) (nth p.b i) (nth p.c i)
noncomputable def ff(c:Cs)(p:Sp)(v:Co)(k:Nat):Int:=match kU c.s k with
 |none=>nth v.arr k
 |some i=>oM (vR c p v k i)
noncomputable def vD(c:Cs)(p:Sp)(v:Co)(k:Nat):Co:=match kU c.s k with
 |none=>{ v with lf:=v.lf++[ff c p v k] }
 |some i=>{ v with d:=v.d.set i (lU (nth c.s i).d (nth v.d i) (nth v.arr k) (nth p.b i) (nth p.c i)),re:=v.re++[vR c p v k i],lf:=v.lf++[ff c p v k] }
noncomputable def oq(c:Cs)(v:Co)(x:Int)(k:Nat):Int:=match lV c.r.l k with
 |none=>0
 |some j=>gw (nth c.r.l j).r (nth v.w j) x
noncomputable def vL(c:Cs)(v:Co)(x:Int)(k:Nat):Co:=match lV c.r.l k with
 |none=>v
 |some j=>{ v with w:=v.w.set j (kj (nth c.r.l j).r (nth v.w j) x),cm:=v.cm++[lG (nth c.r.l j).r (nth v.w j) x],arr:=v.arr.set (nth c.r.l j).t.toNat (nth v.arr (nth c.r.l j).t.toNat+lG (nth c.r.l j).r (nth v.w j) x) }
noncomputable def vE(c:Cs)(p:Sp)(v:Co)(k:Nat):Int:=if ml c p v k≠0 then ml c p v k else oq c v (ff c p v k) k
noncomputable def vS(c:Cs)(p:Sp)(v:Co)(k:Nat):Co:=vL c (vD c p v k) (ff c p v k) k
structure Vc(c:Cs)(p:Sp)(v:Co)(k:Nat):Prop where
 c0:ew c=0
 p:mj c p
 B3:(v.arr.length:Int)=c.r.n
 arr:∀j,j<v.arr.length→0≤nth v.arr j∧nth v.arr j≤1073741824+1125899906842624*k
 d:mi c v.d
 w:BW c v.w
 rl:v.re.length≤k
 ll:v.lf.length=k
 cl:v.cm.length≤k
abbrev crs(c:Cs)(p:Sp)(t:Int)(v:Co):List V:=[i64 t,.dh 0 4 v.d.length,.dh 1 1 v.w.length,i64 c.r.n,nC c.r.l,qe c.s,ints p.a,ints p.b,ints p.c,.dh 2 1 v.arr.length,
 .fm 7 (v.re.map Dr.row),.fm 1 (v.lf.map fun n=>[i64 n]),.fm 1 (v.cm.map fun n=>[i64 n])]
abbrev Gc(c:Cs)(p:Sp)(t:Int)(v:Co)(J:List aP):List aP:=.cells (gX v.d)::.cells (km v.w)::.cells (dM v.arr)::.cells (crs c p t v)::J
theorem Kb{l:List Ds}{i:Nat}(h:i<l.length):((gX l).drop (i*4)).take 4=(nth l i).row:=J8 (row:=Ds.row) (fun _=>rfl) h
theorem aaH{l:List Ds}{i:Nat}(h:i<l.length)(x:Ds):jg (gX l) (i*4) x.row=gX (l.set i x):=GX (row:=Ds.row) (fun _=>rfl) h
theorem Kc{l:List (List Int)}{i:Nat}(h:i<l.length):((km l).drop i).take 1=[ints (nth l i)]:=by
 have:=J8 (row:=fun p=>[ints p]) (k:=1) (fun _=>rfl) h
 rwa [Nat.mul_one]at this
theorem aod{l:List (List Int)}{i:Nat}(h:i<l.length)(x:List Int):jg (km l) i [ints x]=km (l.set i x):=by
 have:=GX (row:=fun p=>[ints p]) (k:=1) (fun _=>rfl) (x:=x) h
 rwa [Nat.mul_one]at this
theorem st0{d:Dm}{s:Ds}{a b c:Int}(h:nB d s a b c=0):fq d=0∧iS d s∧(0≤a∧a≤1073741824)∧(0≤b∧b≤1073741824)∧(0≤c∧c≤1073741824):=by
 unfold nB at h;split at h
 ·rename_i h1;exact absurd h h1
 ·rename_i h1
  split at h
  ·cases h
  ·rename_i h2
   have h1:dE d s=0:=Decidable.of_not_not h1;have hd:fq d=0:=by
    unfold dE at h1;split at h1
    ·rename_i h3;exact absurd h1 h3
    ·rename_i h3;exact Decidable.of_not_not h3
   simp only[List.any_cons,List.any_nil,wH,Bool.or_false,Bool.or_eq_true,Bool.not_eq_true',decide_eq_false_iff_not,not_or,Classical.not_not]at h2;exact⟨hd,(GI h1).2,h2.1,h2.2.1,h2.2.2⟩
theorem aaJ{d:Dm}{s:Ds}{a b c:Int}(h:nB d s a b c=0):((0≤(lD d s a b c).tur∧(lD d s a b c).tur≤1073741824)∧(0≤(lD d s a b c).spi∧(lD d s a b c).spi≤17179869184)∧(0≤(lD d s a b c).ovr∧(lD d s a b c).ovr≤1073741824)) ∧
  (0≤(lD d s a b c).los∧(lD d s a b c).los≤1073741824)∧(lU d s a b c).v=s.v+a-(lD d s a b c).los-oM (lD d s a b c):=by
 obtain⟨hd,hf,ha,hb,hc⟩:=st0 h;have qc:=yn hd;have p:=PJ qc hf ha hb hc;have hv:=hf.1;have hL:eh s a b=s.v+a-min b (s.v+a):=rfl;have hO:sn d s a b c=max (eh s a b-(fW d s a b c+lC d s a b c)-kD d) 0:=rfl;have Ls:=p.T0;have hTr:=p.Tr;have hP0:=p.P0;have hP1:=p.P1;have e1:(lD d s a b c).los=min b (s.v+a):=rfl;have e2:(lD d s a b c).tur=fW d s a b c:=rfl;have e3:(lD d s a b c).spi=lC d s a b c:=rfl;have e4:(lD d s a b c).ovr=sn d s a b c:=rfl;have e5:(lU d s a b c).v=eh s a b-(fW d s a b c+lC d s a b c)-sn d s a b c:=rfl;unfold oM;rw[e1,e2,e3,e4,e5];omega
theorem D2{r:Rc}{p:List Int}{x:Int}(h:gw r p x=0):eM r=0∧im r p∧(0≤x∧x≤1073741824)∧uu r p x:=by
 unfold gw at h;split at h
 ·rename_i h1;exact absurd h h1
 ·rename_i h1
  split at h
  ·rename_i h2
   split at h
   ·rename_i h3;exact⟨Decidable.of_not_not h1,h2,h3⟩
   ·cases h
  ·cases h
theorem D3{r:Rc}{p:List Int}{x:Int}(h:gw r p x=0):0≤lG r p x∧lG r p x≤1125899906842624:=by
 obtain⟨h1,h2,h3,h4⟩:=D2 h;have hv:=te h1;have q:=yr hv h2 h3 0;have:=h4 0 (by have:=hv.pos;omega)
 have a:=Int.ediv_nonneg q.1 (show 0≤r.den by have:=hv.den;omega)
 have b:=Int.ediv_le_self r.den q.1;unfold lG;omega
theorem Qe{l:List (List Int)}{i:Nat}(x:List Int):(km l).set i (.slice none 1 (x.map fun n=>[i64 n]))=km (l.set i x):=by
 rcases Nat.lt_or_ge i l.length with h|h
 ·rw[←aod h];rfl
 ·rw[List.set_eq_of_length_le (by simpa using h),List.set_eq_of_length_le h]
set_option maxRecDepth 100000 in
set_option maxHeartbeats 4000000 in
theorem aoe{c:Cs}(hr:gW c.r){p:Sp}{v:Co}{k:Nat}(h:Vc c p v k)(hk:k<v.arr.length)(t:Int)(J:List aP) :
  ∃G',aX F 155 [.bG 3 0,i64 k] (Gc c p t v J)=some (i64 (vE c p v k),G')∧(vE c p v k=0→G'=Gc c p t (vS c p v k) (J++[.cells [i64 k]])):=by
 suffices hh:∀Q:V→List aP→Prop,(∀G',(vE c p v k=0→G'=Gc c p t (vS c p v k) (J++[.cells [i64 k]]))→Q (i64 (vE c p v k)) G')→gy (aX F) 155 [.bG 3 0,i64 k] (Gc c p t v J) Q by
  obtain⟨_,G',h,rfl,h1⟩:=hh (fun x G'=>x=i64 (vE c p v k)∧(vE c p v k=0→G'=Gc c p t (vS c p v k) (J++[.cells [i64 k]]))) fun G' g=>⟨rfl,g⟩;exact⟨G',h,h1⟩
 intro Q hQ;refine gS rfl rfl ?_;have cv:=jZ h.c0;generalize Aj:J++[aP.cells [i64 k]]=J' at hQ;have hJ:J'[J.length]?=some (.cells [i64 k]):=by rw[←Aj];exact List.getElem?_concat_length
 have qT:∀G0 G1 G2 G3,aX F 183 [qe c.s,.fn 184 [.bG (J.length+1+1+1+1) 0]] (G0::G1::G2::G3::J')=some (i64 (ti (kU c.s k)),G0::G1::G2::G3::J') :=
  fun G0 G1 G2 G3=>an1 c.s (by have:=cv.s;omega) k (G:=G0::G1::G2::G3::J') hJ
 have qV:∀G0 G1 G2 G3,aX F 187 [nC c.r.l,.fn 188 [.bG (J.length+1+1+1+1) 0]] (G0::G1::G2::G3::J')=some (i64 (ti (lV c.r.l k)),G0::G1::G2::G3::J') :=
  fun G0 G1 G2 G3=>an2 c.r.l (by have:=(j0 cv.k).len;omega) k (G:=G0::G1::G2::G3::J') hJ
 have Qf:k<v.arr.length:=hk;have ky:=h.ll;have av5:k≤12:=by have:=h.B3;have:=cv.n;omega
 have AS:=h.rl;have dw:=h.cl;have Dg:∀j,lV c.r.l k=some j→j<c.r.l.length∧j<v.w.length∧(nth c.r.l j).t.toNat<v.arr.length∧0≤(nth c.r.l j).t:=fun j hl=>by
  have hj:=(yu hl).1;have oc:j<c.r.l.length:=by omega
  have:=(j0 cv.k).link oc;have:=h.B3;have:=h.w.1;omega
 cases hs:kU c.s k with
 |none =>
  have e0:ml c p v k=0:=by simp only[ml,hs]
  have e1:ff c p v k=nth v.arr k:=by simp only[ff,hs]
  have eE:vE c p v k=oq c v (nth v.arr k) k:=by rw[vE,e0,e1];rfl
  have e2:vS c p v k=vL c { v with lf:=v.lf++[nth v.arr k] } (nth v.arr k) k:=by rw[vS,vD,e1,hs]
  rw[hs]at qT;cases hl:lV c.r.l k with
  |none =>
   rw[hl]at qV;simp only[ti]at qT qV;have e3:vE c p v k=0:=by rw[eE,oq,hl]
   rw[e3]at hQ;simp (disch:=omega) [-getElem?_pos,wrap64,zQ,qT,Aj,hJ,lx,qV];refine hQ _ fun _=>?_;rw[e2,vL,hl];simp
  |some j =>
   rw[hl]at qV;simp only[ti]at qT qV;obtain⟨oc,nO,Qg,hj4⟩:=Dg j hl;have hR:=aao (nth c.r.l j).r (hr.2 j oc) (nth v.w j) (by have:=(h.w.2 j oc).2.1;have:=(te (h.w.2 j oc).1).len;omega) (nth v.arr k)
   have e3:vE c p v k=gw (nth c.r.l j).r (nth v.w j) (nth v.arr k):=by rw[eE,oq,hl]
   rw[e3]at hQ;by_cases hz:gw (nth c.r.l j).r (nth v.w j) (nth v.arr k)=0
   ·have ho:=D3 hz
    have ha:=h.arr (nth c.r.l j).t.toNat Qg;rw[GU hz]at hR;rw[hz]at hQ;simp (disch:=omega) [-getElem?_pos,wrap64,zQ,qT,Aj,hJ,lx,qV,aW (l:=c.r.l),Kc,Qe,hR];refine hQ _ fun _=>?_;rw[e2,vL,hl];simp
   ·rw[BV rfl hz]at hR
    simp (disch:=omega) [-getElem?_pos,wrap64,zQ,qT,Aj,hJ,lx,qV,aW (l:=c.r.l),Kc,hR,hz];exact hQ _ fun g=>absurd g hz
 |some i =>
  rw[hs]at qT;have hi:=(yu hs).1;have Qh:i<c.s.length:=by omega
  have mO:i<v.d.length:=by have:=h.d.1;omega
  have hpb:i<p.b.length:=by have:=h.p;unfold mj at this;omega
  have hpc:i<p.c.length:=by have:=h.p;unfold mj at this;omega
  obtain⟨Ga,hS⟩:=anb (nth c.s i).d (nth v.d i) (nth v.arr k) (nth p.b i) (nth p.c i);by_cases he:nB (nth c.s i).d (nth v.d i) (nth v.arr k) (nth p.b i) (nth p.c i)=0
  ·have Qi:=(aaJ he).1
   have e0:ml c p v k=0:=by simp only[ml,hs,he]
   have e1:ff c p v k=oM (vR c p v k i):=by simp only[ff,hs]
   have eE:vE c p v k=oq c v (oM (vR c p v k i)) k:=by rw[vE,e0,e1];rfl
   have e2:vS c p v k=vL c { v with d:=v.d.set i (lU (nth c.s i).d (nth v.d i) (nth v.arr k) (nth p.b i) (nth p.c i)),re:=v.re++[vR c p v k i],lf:=v.lf++[oM (vR c p v k i)] } (oM (vR c p v k i)) k:=by rw[vS,vD,e1,hs]
   rw[so,if_pos he]at hS;unfold vR at eE e2;generalize lU (nth c.s i).d (nth v.d i) (nth v.arr k) (nth p.b i) (nth p.c i)=S' at hS e2;generalize lD (nth c.s i).d (nth v.d i) (nth v.arr k) (nth p.b i) (nth p.c i)=R' at hS Qi eE e2;have hF:=anh R' (by omega) (by omega) (by omega)
   rw[show R'.tur+R'.spi+R'.ovr=oM R' from rfl]at hF;have gN:((((gX v.d).set (i*4) (i64 S'.v)).set (i*4+1) (i64 S'.rel)).set (i*4+1+1) (jT S'.u)).set (i*4+1+1+1) (jJ S'.g)=gX (v.d.set i S'):=aaH mO S';cases hl:lV c.r.l k with
   |none =>
    rw[hl]at qV;simp only[ti]at qT qV;have e3:vE c p v k=0:=by rw[eE,oq,hl]
    rw[e3]at hQ;simp (disch:=omega) [-getElem?_pos,wrap64,zQ,qT,Aj,hJ,lx,qV,aW (l:=c.s),dj (l:=p.b),dj (l:=p.c),Kb,hS,hF,gN];refine hQ _ fun _=>?_;rw[e2,vL,hl];simp
   |some j =>
    rw[hl]at qV;simp only[ti]at qT qV;obtain⟨oc,nO,Qg,hj4⟩:=Dg j hl;have hR:=aao (nth c.r.l j).r (hr.2 j oc) (nth v.w j) (by have:=(h.w.2 j oc).2.1;have:=(te (h.w.2 j oc).1).len;omega) (oM R')
    have e3:vE c p v k=gw (nth c.r.l j).r (nth v.w j) (oM R'):=by rw[eE,oq,hl]
    rw[e3]at hQ;by_cases hz:gw (nth c.r.l j).r (nth v.w j) (oM R')=0
    ·have ho:=D3 hz
     have ha:=h.arr (nth c.r.l j).t.toNat Qg;rw[GU hz]at hR;rw[hz]at hQ;simp (config:={ maxSteps:=2000000 }) +contextual (disch:=omega) [-getElem?_pos,-List.length_eq_zero_iff,-Int.natCast_eq_zero,wrap64,zQ,qT,Aj,hJ,lx,qV,aW (l:=c.r.l),Kc,Qe,hR,aW (l:=c.s),dj (l:=p.b),dj (l:=p.c),Kb,hS,hF,gN];refine hQ _ fun _=>?_;rw[e2,vL,hl];simp
    ·rw[BV rfl hz]at hR
     simp (config:={ maxSteps:=2000000 }) +contextual (disch:=omega) [-getElem?_pos,-List.length_eq_zero_iff,-Int.natCast_eq_zero,wrap64,zQ,qT,Aj,hJ,lx,qV,aW (l:=c.r.l),Kc,hR,hz,aW (l:=c.s),dj (l:=p.b),dj (l:=p.c),Kb,hS,hF,gN];exact hQ _ fun g=>absurd g hz
  ·rw[so,if_neg he]at hS
   simp only[ti]at qT;have e3:vE c p v k=nB (nth c.s i).d (nth v.d i) (nth v.arr k) (nth p.b i) (nth p.c i):=by
    have:ml c p v k=nB (nth c.s i).d (nth v.d i) (nth v.arr k) (nth p.b i) (nth p.c i):=by simp only[ml,hs]
    rw[vE,this,if_pos he]
   rw[e3]at hQ;have he':=decide_eq_false he;simp (disch:=omega) [-getElem?_pos,wrap64,zQ,qT,Aj,hJ,lx,qV,aW (l:=c.s),dj (l:=p.b),dj (l:=p.c),Kb,hS,he'];exact hQ _ fun g=>absurd g he
end Go.Proofs.YtocclbnghhaejaaGreat
namespace Go.Proofs.YtocclbnghhaejaaGreat
set_option linter.all false
open Go.Vm
theorem aaL{f:Nat→Int}:∀n,mh f n≤n
 |0=>Nat.le_refl _
 |n+1=>by
  unfold mh;split
  ·exact Nat.le_succ_of_le (aaL n)
  ·exact Nat.le_refl _
theorem aaM{f:Nat→Int}:∀n,0<mh f n→f (mh f n-1)≠0
 |0,h=>by simp[mh]at h
 |n+1,h=>by
  unfold mh at h ⊢;split
  ·rename_i h1;rw[if_pos h1]at h;exact aaM n h
  ·rename_i h1;exact h1
theorem aaN{f:Nat→Int}{n i:Nat}(h:i<n):nth ((List.range n).map f) i=f i:=by
 simp[nth,h]
theorem aaO{r:Rc}{p:List Int}{x:Int}(h:gw r p x=0):im r (kj r p x):=by
 obtain⟨h1,h2,h3,h4⟩:=D2 h;have hv:=te h1;have hl:(kj r p x).length=mh (rN r p x) r.w.length:=by simp[kj]
 have hle:=aaL (f:=rN r p x) r.w.length;have hn:∀i,i<mh (rN r p x) r.w.length→nth (kj r p x) i=rN r p x i:=fun i hi=>aaN hi;refine⟨by omega,fun h0=>?_,fun i hi=>?_⟩
 ·rw[hl]at h0 ⊢
  rw[hn _ (by omega)]
  exact aaM _ h0
 ·rw[hn i (by omega)]
  have hd:=hv.den;have q0:=yr hv h2 h3 0;have hb:∀k,k≤r.w.length→0≤rq r p x k∧rq r p x k≤1125899906842624:=fun k hk=>by
   rcases Nat.lt_or_ge k r.w.length with g|g
   ·exact⟨(yr hv h2 h3 k).1,h4 k g⟩
   ·have e:rq r p x k=0:=by unfold rq;rw[uw g,uw (by have:=h2.1;omega)];simp
    rw[e];omega
  unfold rN;split
  ·have:=hb 1 hv.pos
   have:=Int.emod_nonneg (rq r p x 0) (show r.den≠0 by omega)
   have:=Int.emod_lt_of_pos (rq r p x 0) (show 0<r.den by omega)
   omega
  ·have:=hb (i+1) (by omega)
   omega
theorem Kd{α:Type}[Inhabited α]{l:List α}{i j:Nat}{x:α}(h:i<l.length):nth (l.set i x) j=if j=i then x else nth l j:=tg h
theorem aaP{c:Cs}{p:Sp}{v:Co}{k:Nat}(he:vE c p v k=0):ml c p v k=0∧oq c v (ff c p v k) k=0:=by
 unfold vE at he;split at he
 ·rename_i h1;exact absurd he h1
 ·rename_i h1;exact⟨Decidable.of_not_not h1,he⟩
theorem G6{c:Cs}{p:Sp}{v:Co}{k:Nat}:(vD c p v k).arr=v.arr∧(vD c p v k).w=v.w∧(vD c p v k).cm=v.cm∧(vD c p v k).lf=v.lf++[ff c p v k]:=by
 unfold vD;cases kU c.s k<;>exact⟨rfl,rfl,rfl,rfl⟩
theorem aoh{c:Cs}{p:Sp}{v:Co}{k:Nat}(h:mi c v.d)(h0:ml c p v k=0):mi c (vD c p v k).d:=by
 unfold vD;unfold ml at h0;cases hs:kU c.s k with
 |none=>exact h
 |some i =>
  rw[hs]at h0;have hi:=(yu hs).1;have mO:i<v.d.length:=by have:=h.1;omega
  obtain⟨g1,g2,ga,gb,gc⟩:=st0 h0;refine⟨by simp only[List.length_set];exact h.1,fun j hj=>?_⟩
  rw[Kd mO];by_cases e:j=i
  ·rw[if_pos e,e]
   exact⟨g1,anu (yn g1) g2 ga gb gc⟩
  ·rw[if_neg e]
   exact h.2 j hj
theorem Vc.next{c:Cs}{p:Sp}{v:Co}{k:Nat}(h:Vc c p v k)(he:vE c p v k=0):Vc c p (vS c p v k) (k+1):=by
 have cv:=jZ h.c0;obtain⟨h0,hL⟩:=aaP he;obtain⟨s1,s2,s3,s4⟩:=G6 (c:=c) (p:=p) (v:=v) (k:=k);have hd:=aoh h.d h0;have wO:(vD c p v k).re.length≤k+1:=by
  have:=h.rl;unfold vD;cases kU c.s k<;>simp<;>omega
 have ky:=h.ll;have dw:=h.cl;unfold vS vL;unfold oq at hL;cases hl:lV c.r.l k with
 |none =>
  refine⟨h.c0,h.p,by rw[s1];exact h.B3,fun j hj=>?_,hd,by rw[s2];exact h.w,wO,by rw[s4];simp;omega,by rw[s3];omega⟩
  rw[s1]at hj ⊢;have:=h.arr j hj;omega
 |some j =>
  rw[hl]at hL;have hj:=(yu hl).1;have hjw:j<v.w.length:=by have:=h.w.1;omega
  have ho:=D3 hL;have hf:=aaO hL;have hc:=(D2 hL).1;simp only[s1,s2,s3,s4];refine⟨h.c0,h.p,by simp only[List.length_set];exact h.B3,fun i hi=>?_,hd,⟨by simp only[List.length_set];exact h.w.1,fun i hi=>?_⟩,wO,by simp;omega,by simp;omega⟩
  ·simp only[List.length_set]at hi
   have D4:=h.arr i hi;by_cases e:i=(nth c.r.l j).t.toNat
   ·subst e
    rw[Kd hi,if_pos rfl];exact⟨Int.add_nonneg D4.1 ho.1,Int.le_trans (Int.add_le_add D4.2 ho.2) (by omega)⟩
   ·rcases Nat.lt_or_ge (nth c.r.l j).t.toNat v.arr.length with g|g
    ·rw[Kd g,if_neg e];exact⟨D4.1,Int.le_trans D4.2 (by omega)⟩
    ·rw[List.set_eq_of_length_le g];exact⟨D4.1,Int.le_trans D4.2 (by omega)⟩
  ·rw[Kd hjw]
   by_cases e:i=j
   ·rw[if_pos e,e]
    exact⟨hc,hf⟩
   ·rw[if_neg e]
    exact h.w.2 i hi
noncomputable def cy(c:Cs)(p:Sp)(f:Fl):Nat→Co
 |0=>⟨p.a,f.d,f.w,[],[],[]⟩
 |k+1=>vS c p (cy c p f k) k
noncomputable def fP(c:Cs)(f:Fl)(p:Sp):Int :=
 if mj c p then (if eJ (p.a++p.b++p.c) 1073741824 then (if f.t=16777216 then 6 else dB (fun k=>vE c p (cy c p f k) k) c.r.n.toNat 0) else 1) else 3
structure Ps where
 re:List Dr
 lf:List Int
 cm:List Int
abbrev Ps.row(x:Ps):List V:=[.slice none 7 (x.re.map Dr.row),ints x.lf,ints x.cm]
abbrev ps(x:Ps):V:=.agg x.row
noncomputable def oN(c:Cs)(f:Fl)(p:Sp):Fl:=⟨f.t+1,(cy c p f c.r.n.toNat).d,(cy c p f c.r.n.toNat).w⟩
noncomputable def sw(c:Cs)(f:Fl)(p:Sp):Ps:=⟨(cy c p f c.r.n.toNat).re,(cy c p f c.r.n.toNat).lf,(cy c p f c.r.n.toNat).cm⟩
abbrev paX(e:Int):V:=.tuple [.agg [i64 0,.slice (some 0) 4 [],.slice (some 0) 1 []],.agg [.slice (some 0) 7 [],.slice (some 0) 1 [],.slice (some 0) 1 []],i64 e]
noncomputable def Ak(c:Cs)(f:Fl)(p:Sp)(e:Int):V:=if e=0 then .tuple [fl (oN c f p),ps (sw c f p),i64 0] else paX e
theorem aaQ{l:List Int}:(l.any fun x => !decide (0≤x∧x≤1073741824)) = !decide (eJ l 1073741824):=by
 by_cases h:eJ l 1073741824
 ·rw[decide_eq_true h]
  refine List.any_eq_false.2 fun x hx=>?_;obtain⟨i,hi,rfl⟩:=List.mem_iff_getElem.1 hx;have:=h i hi;rw[show nth l i=l[i] by simp[nth,hi]]at this
  simp;exact this
 ·rw[decide_eq_false h]
  cases hb:l.any fun x => !decide (0≤x∧x≤1073741824) with
  |true=>rfl
  |false =>
   refine absurd (fun i hi=>?_) h;have:=List.any_eq_false.1 hb (nth l i) (oK hi);simpa using this
theorem vc0{c:Cs}{f:Fl}{p:Sp}(hc:ew c=0)(hf:ft c f)(hp:mj c p)(ha:eJ (p.a++p.b++p.c) 1073741824):Vc c p (cy c p f 0) 0:=by
 refine⟨hc,hp,hp.1,fun j hj=>?_,hf.2.1,hf.2.2,by simp[cy],by simp[cy],by simp[cy]⟩
 have hj:j<p.a.length:=hj;have:=ha j (by simp;omega)
 rw[p8 (by simp;omega),p8 hj]at this
 show 0≤nth p.a j∧nth p.a j≤_;omega
theorem vcs{c:Cs}{f:Fl}{p:Sp}(hc:ew c=0)(hf:ft c f)(hp:mj c p)(ha:eJ (p.a++p.b++p.c) 1073741824):∀{k:Nat},(∀j,j<k→vE c p (cy c p f j) j=0)→Vc c p (cy c p f k) k
 |0,_=>vc0 hc hf hp ha
 |k+1,h=>(vcs hc hf hp ha fun j hj=>h j (by omega)).next (h k (by omega))
end Go.Proofs.YtocclbnghhaejaaGreat
namespace Go.Proofs.YtocclbnghhaejaaGreat
set_option linter.all false
open Go.Vm
attribute [local simp] lQ lR kP lP
theorem G7{c:Cs}{l:List (List Int)}(hk:jd c.r=0)(h:BW c l):P5 l:=by
 have hl:=(j0 hk).len;refine⟨by have:=h.1;omega,fun i hi=>?_⟩
 have qA:i<c.r.l.length:=by have:=h.1;omega
 have:=(h.2 i qA).2.1;have:=(te (h.2 i qA).1).len;omega
theorem aon{id t:Nat}{l:List Int}(hl:l≠[]):j8 id 0 (.slice (some t) 1 (l.map fun n=>[V.int .i64 n]))=some (.bQ id 1 l.length,some (dM l)):=by
 have h:=Uh (id:=id) (t:=t) (l:=l) (vs:=[]) rfl hl;simp[j8,h]
theorem aoo{p:List Int}:(dM p).all V.sc=true:=by simp[dM,V.sc]
set_option maxRecDepth 100000 in
set_option maxHeartbeats 2000000 in
theorem aaR{c:Cs}(hr:gW c.r)(hc:ew c=0){f:Fl}(hf:ft c f)(p:Sp):∃G',aX F 107 [cs c,fl f,sv p] []=some (Ak c f p (fP c f p),G'):=by
 suffices h:∀Q:V→Prop,Q (Ak c f p (fP c f p))→gy (aX F) 107 [cs c,fl f,sv p] [] fun v _=>Q v by
  obtain⟨_,G',h,rfl⟩:=h (fun v=>v=Ak c f p (fP c f p)) rfl;exact⟨G',h⟩
 intro Q hQ;refine gS rfl rfl ?_;have cv:=jZ hc;have kv:=j0 cv.k;have vF:=an5 c p;by_cases h1:mj c p
 case neg =>
  rw[show fP c f p=3 by unfold fP;rw[if_neg h1]]at hQ
  simp (disch:=omega) [wrap64,FN,vF,h1];exact hQ
 have qG:p.a.length≤12:=by have:=h1.1;have:=cv.n;omega
 have DS:p.b.length≤6:=by have:=h1.2.1;have:=cv.s;omega
 have dw:p.c.length≤6:=by have:=h1.2.2;have:=cv.s;omega
 have h2:=an4 p.a p.b p.c (by omega)
 have h3:=PF (p.a++p.b++p.c) (by simp;omega) (fun x => !decide (0≤x∧x≤1073741824)) 153 [] (fun n=>an3 n [])
 rw[aaQ]at h3;by_cases h4:eJ (p.a++p.b++p.c) 1073741824
 case neg =>
  rw[show fP c f p=1 by unfold fP;rw[if_pos h1,if_neg h4]]at hQ
  rw[decide_eq_false h4]at h3;generalize p.a++p.b++p.c=L at h2 h3;simp (disch:=omega) [wrap64,FN,vF,h1,h2,h3];exact hQ
 rw[decide_eq_true h4]at h3;have e4:=h4;generalize p.a++p.b++p.c=L at h2 h3;by_cases h5:f.t=16777216
 ·rw[show fP c f p=6 by unfold fP;rw[if_pos h1,if_pos e4,if_pos h5]]at hQ
  simp (disch:=omega) [wrap64,FN,vF,h1,h2,h3,h5];exact hQ
 have h6:fP c f p=dB (fun k=>vE c p (cy c p f k) k) c.r.n.toNat 0:=by unfold fP;rw[if_pos h1,if_pos e4,if_neg h5]
 have h7:=P6 f.d (Ai hc hf.2.1) [];have h8:=aaw f.w (G7 cv.k hf.2.2) [.cells (gX f.d)];have h9:=aav p.a (by omega)
 have aop:=hf.1;have aoq:p.a≠[]:=fun g=>by have:=h1.1;rw[g]at this;have:=kv.n;simp at *;omega
 have Ke:0<p.a.length:=by have:=h1.1;have:=kv.n;omega
 simp (disch:=omega) [wrap64,FN,vF,h1,h2,h3,h5,h7,h8,h9,aon aoq,aoo,Ke];have vW:=kv.n;refine go_loop (fun x:Nat×List aP=>aiF (.bG 3 0) c.r.n x.1 [z0,.bV,.bV] [.bV,.bV,.bV] (Gc c p (f.t+1) (cy c p f x.1) x.2))
  (fun x=>x.1≤c.r.n.toNat∧(∀j,j<x.1→vE c p (cy c p f j) j=0)∧dB (fun k=>vE c p (cy c p f k) k) (c.r.n.toNat-x.1) x.1=fP c f p) (fun x=>c.r.n.toNat-x.1) (0,[]) rfl (by simp[cy]) ⟨by omega,by simp,h6.symm⟩ ?_
 rintro⟨k,J⟩ ⟨hk,hz,hq⟩;simp only at hk hz hq;have D5:=vcs hc hf h1 e4 hz;simp (disch:=omega) [wrap64,We];refine bE (fun fO=>?_) (fun fO=>?_)
 ·have jc:k<c.r.n.toNat:=by omega
  have Qf:k<(cy c p f k).arr.length:=by have:=D5.B3;omega
  obtain⟨G',hv,hv2⟩:=aoe hr D5 Qf (f.t+1) J;rw[kB jc]at hq;by_cases tK:vE c p (cy c p f k) k=0
  ·obtain rfl:=hv2 tK
   rw[if_pos tK]at hq;rw[tK]at hv;simp (disch:=omega) [wrap64,hv];refine bF (k+1,J++[.cells [i64 k]]) (by simp[cy]) ⟨by simp only;omega,fun j hj=>?_,hq⟩ (by simp only;omega)
   rcases Nat.lt_or_ge j k with g|g
   ·exact hz j g
   ·rwa [show j=k by simp only at hj;omega]
  ·rw[if_neg tK]at hq
   rw[←hq,Ak,if_neg tK]at hQ;simp (disch:=omega) [wrap64,hv,tK];exact hQ
 ·obtain rfl:k=c.r.n.toNat:=by omega
  rw[mE]at hq;rw[←hq,Ak,if_pos rfl]at hQ;simp (disch:=omega) [wrap64,sr,Ag];exact hQ
abbrev aaS(t:Option Nat)(e:Int):V:=.tuple [.agg [i64 0,.slice t 4 [],.slice t 1 []],.agg [.slice t 7 [],.slice t 1 [],.slice t 1 []],i64 e]
noncomputable def m8(c:Cs)(f:Fl)(p:Sp):Int:=if iq c f≠0 then iq c f else fP c f p
noncomputable def qf(t:Option Nat)(c:Cs)(f:Fl)(p:Sp):V:=if m8 c f p=0 then .tuple [fl (oN c f p),ps (sw c f p),i64 0] else aaS t (m8 c f p)
theorem wx{c:Cs}{f:Fl}(h:iq c f=0):ew c=0∧ft c f:=by
 unfold iq at h;split at h
 ·rename_i h1;exact absurd h h1
 ·rename_i h1
  split at h
  ·exact⟨Decidable.of_not_not h1,by assumption⟩
  ·cases h
theorem Qj{c:Cs}(hr:gW c.r){f:Fl}(hf:jY f)(p:Sp):∃t G',aX F 53 [cs c,fl f,sv p] []=some (qf t c f p,G'):=by
 have hd:=PZ c hr f hf;by_cases hz:iq c f=0
 ·obtain⟨h1,h2⟩:=wx hz
  obtain⟨Ga,hp⟩:=aaR hr h1 h2 p;have e:m8 c f p=fP c f p:=by unfold m8;rw[if_neg (by omega)]
  refine⟨none,[],?_⟩;unfold qf;rw[e];unfold Ak at hp;by_cases h3:fP c f p=0
  ·rw[if_pos h3]at hp ⊢
   refine bM rfl rfl ?_;simp[wrap64,IU,hd,hz,hp]
  ·rw[if_neg h3]at hp ⊢
   refine bM rfl rfl ?_;simp[wrap64,IU,hd,hz,hp]
 ·have e:m8 c f p=iq c f:=by unfold m8;rw[if_pos hz]
  refine⟨some 0,[],?_⟩;unfold qf;rw[e,if_neg hz];refine bM rfl rfl ?_;simp[wrap64,IU,hd,hz]
def yC(g:Nat→Int)(n:Nat)(m:Nat)(k:Int):Prop:=m≤n∧(∀j,j<m→g j<k)∧∀j,m≤j→j<n→k≤g j
theorem wP{g:Nat→Int}{n m i:Nat}{k:Int}(h:yC g n m k)(JE:∀j,0<j→j<n→g (j-1)<g j)(hi:i<n)(hg:g i=k):i=m∧yC g n (m+1) (k+1):=by
 have aaT:∀a d,a+d+1<n→g a<g (a+d+1):=fun a d=>by
  induction d with
  |zero=>intro hd;have:=JE (a+0+1) (by omega) hd;simpa using this
  |succ d ih =>
   intro hd;have h1:=ih (by omega)
   have h2:=JE (a+(d+1)+1) (by omega) hd
   rw[show a+(d+1)+1-1=a+d+1 by omega]at h2
   omega
 have hmi:m≤i:=by
  rcases Nat.lt_or_ge i m with g1|g1
  ·have:=h.2.1 i g1;omega
  ·exact g1
 have him:i=m:=by
  rcases Nat.lt_or_ge m i with g1|g1
  ·have h1:=aaT m (i-m-1) (by omega)
   rw[show m+(i-m-1)+1=i by omega]at h1
   have:=h.2.2 m (Nat.le_refl _) (by omega)
   omega
  ·omega
 subst him;refine⟨rfl,by omega,fun j hj=>?_,fun j hj hn=>?_⟩
 ·rcases Nat.lt_or_ge j i with g1|g1
  ·have:=h.2.1 j g1;omega
  ·rw[show j=i by omega];omega
 ·have h1:=aaT i (j-i-1) (by omega)
  rw[show i+(j-i-1)+1=j by omega]at h1
  omega
theorem aaU{g:Nat→Int}{n m:Nat}{k:Int}(h:yC g n m k)(hg:∀i,i<n→g i≠k):yC g n m (k+1) :=
 ⟨h.1,fun j hj=>by have:=h.2.1 j hj;omega,fun j hj hn=>by have:=h.2.2 j hj hn;have:=hg j hn;omega⟩
theorem aaV{g:Nat→Int}{n:Nat}(h:∀j,j<n→0≤g j):yC g n 0 0:=⟨by omega,by omega,fun j _ hj=>h j hj⟩
theorem aaW{g:Nat→Int}{n m:Nat}{k:Int}(h:yC g n m k)(hk:∀j,j<n→g j<k):m=n:=by
 have h1:=h.1;rcases Nat.lt_or_ge m n with g1|g1
 ·have:=h.2.2 m (Nat.le_refl _) g1
  have:=hk m g1;omega
 ·omega
abbrev sx(c:Cs):Nat→Int:=fun i=>(nth c.s i).n
abbrev yD(c:Cs):Nat→Int:=fun i=>(nth c.r.l i).f
theorem wQ{c:Cs}(h:wK c){i:Nat}(hi:i<c.s.length):(0≤sx c i∧sx c i<c.r.n)∧(0<i→sx c (i-1)<sx c i)∧fq (nth c.s i).d=0:=by
 have he:=h.site i hi;unfold yt at he;simp only at he;split at he
 ·split at he
  ·cases he
  ·rename_i h1 h2
   refine⟨h1,fun h0=>?_,he⟩;show(nth c.s (i-1)).n<(nth c.s i).n;omega
 ·cases he
structure Vo(c:Cs)(v:Co)(k:Nat):Prop where
 s:yC (sx c) c.s.length v.re.length k
 l:yC (yD c) c.r.l.length v.cm.length k
theorem Kf{c:Cs}{k:Nat}(h:kU c.s k=none):∀i,i<c.s.length→sx c i≠k:=fun i hi=>by
 have:=P8 h i (by omega) (by omega)
 simpa using this
theorem wR{c:Cs}{k i:Nat}(h:kU c.s k=some i):i<c.s.length∧sx c i=k:=by
 have:=yu h;exact⟨by omega,by simpa using this.2.1⟩
theorem aaX{c:Cs}{k:Nat}(h:lV c.r.l k=none):∀i,i<c.r.l.length→yD c i≠k:=fun i hi=>by
 have:=P8 h i (by omega) (by omega)
 simpa using this
theorem Al{c:Cs}{k i:Nat}(h:lV c.r.l k=some i):i<c.r.l.length∧yD c i=k:=by
 have:=yu h;exact⟨by omega,by simpa using this.2.1⟩
theorem vo0{c:Cs}(h:wK c)(p:Sp)(f:Fl):Vo c (cy c p f 0) 0 :=
 ⟨aaV fun j hj=>(wQ h hj).1.1,aaV fun j hj=>((j0 h.k).link hj).1.1⟩
theorem Vo.next{c:Cs}(hc:wK c){p:Sp}{v:Co}{k:Nat}(h:Vo c v k):Vo c (vS c p v k) (k+1):=by
 obtain⟨s1,s2,s3,s4⟩:=G6 (c:=c) (p:=p) (v:=v) (k:=k);have hs:yC (sx c) c.s.length (vD c p v k).re.length (k+1:Int):=by
  unfold vD;cases hs:kU c.s k with
  |none=>exact aaU h.s (Kf hs)
  |some i =>
   obtain⟨a,b⟩:=wR hs;simp only[List.length_append,List.length_singleton];exact(wP h.s (fun j h0 hj=>(wQ hc hj).2.1 h0) a b).2
 unfold vS vL;cases hl:lV c.r.l k with
 |none =>
  refine⟨hs,?_⟩;rw[s3];exact aaU h.l (aaX hl)
 |some j =>
  obtain⟨a,b⟩:=Al hl;refine⟨hs,?_⟩;simp only[s3,List.length_append,List.length_singleton];exact(wP h.l (fun j h0 hj=>((j0 hc.k).link hj).2.1 h0) a b).2
theorem G8{c:Cs}(hc:wK c)(p:Sp)(f:Fl):∀k,Vo c (cy c p f k) k
 |0=>vo0 hc p f
 |k+1=>(G8 hc p f k).next hc
theorem aaY{c:Cs}(hc:wK c)(p:Sp)(f:Fl):(cy c p f c.r.n.toNat).re.length=c.s.length∧(cy c p f c.r.n.toNat).cm.length=c.r.l.length:=by
 have h:=G8 hc p f c.r.n.toNat;have hn:=(j0 hc.k).n;exact⟨aaW h.s fun j hj=>by have:=(wQ hc hj).1;omega,aaW h.l fun j hj=>by have:=((j0 hc.k).link hj).1;show(nth c.r.l j).f<_;omega⟩
end Go.Proofs.YtocclbnghhaejaaGreat
namespace Go.Proofs.YtocclbnghhaejaaGreat
set_option linter.all false
open Go.Vm
def pad{α:Type}(d:α)(l:List α)(n:Nat):List α:=l++List.replicate (n-l.length) d
theorem Kg{α:Type}{d:α}{l:List α}{n:Nat}(h:l.length≤n):(pad d l n).length=n:=by simp[pad];omega
theorem Qk{α:Type}{d:α}{l:List α}{n:Nat}(h:l.length=n):pad d l n=l:=by simp[pad,h]
theorem Ql{α:Type}{d x:α}{l:List α}{n i:Nat}(hi:i=l.length)(h:l.length<n):(pad d l n).set i x=pad d (l++[x]) n:=by
 subst hi;unfold pad;obtain⟨m,hm⟩:∃m,n-l.length=m+1:=⟨n-l.length-1,by omega⟩
 rw[hm,List.replicate_succ,List.set_append_right _ _ (Nat.le_refl _),Nat.sub_self,List.set_cons_zero,List.length_append,List.length_singleton,show n-(l.length+1)=m by omega,List.append_assoc,List.singleton_append]
def Am:Dr:=⟨0,0,0,0,0,0,0⟩
def pK(l:List Dr):List V:=(l.map Dr.row).flatten
@[simp] theorem av9{l:List Dr}:(pK l).length=l.length*7:=DZ (row:=Dr.row) (fun _=>rfl) l
@[simp] theorem awa{l:List Dr}{d:Nat}:((pK l).all fun v => !V.cD d v)=true:=G4 (row:=Dr.row) (fun a=>by simp) l
theorem aou{n:Nat}:(List.replicate n [V.int .i64 0,V.int .i64 0,V.int .i64 0,V.int .i64 0,V.int .i64 0,V.int .i64 0,V.int .i64 0]).flatten=pK (pad Am [] n):=by
 simp[pK,pad,List.map_replicate,Am]
theorem aov{l:List Dr}{n:Nat}(h:n=l.length):kr [none,none,none,none,none,none,none] (chunks 7 (pK l) 0 n)=some (l.map Dr.row):=by
 subst h;rw[GY (row:=Dr.row) (fun _=>rfl) rfl];exact GZ (fun a=>by simp) l
theorem aow{n:Nat}:List.replicate n z0=dM (pad 0 [] n):=by simp[pad,dM]
theorem aaZ{c:Cs}{u:Co}{x:Int}{k:Nat}:(vL c u x k).re=u.re∧(vL c u x k).lf=u.lf∧(vL c u x k).d=u.d:=by
 unfold vL;cases lV c.r.l k<;>exact⟨rfl,rfl,rfl⟩
theorem aa0{c:Cs}{u v:Co}{x:Int}{k:Nat}(h1:u.arr=v.arr)(h2:u.w=v.w)(h3:u.cm=v.cm):(vL c u x k).arr=(vL c v x k).arr∧(vL c u x k).w=(vL c v x k).w∧(vL c u x k).cm=(vL c v x k).cm:=by
 unfold vL;cases lV c.r.l k
 ·exact⟨h1,h2,h3⟩
 ·simp only[h1,h2,h3,and_self]
theorem aox{l:List Int}{m:Int}:eJ l m↔∀x∈l,0≤x∧x≤m:=by
 refine⟨fun h x hx=>?_,fun h i hi=>h _ (oK hi)⟩;obtain⟨i,hi,rfl⟩:=List.mem_iff_getElem.1 hx;have:=h i hi
 rwa [show nth l i=l[i] by simp[nth,hi]]at this
theorem aa1{a b:List Int}{m:Int}:eJ (a++b) m↔eJ a m∧eJ b m:=by
 simp only[aox,List.mem_append];exact⟨fun h=>⟨fun x hx=>h x (.inl hx),fun x hx=>h x (.inr hx)⟩,fun h x hx=>hx.elim (h.1 x) (h.2 x)⟩
theorem aoy{l:List Dr}{i:Nat}(h:i<l.length)(x:Dr):jg (pK l) (i*7) x.row=pK (l.set i x):=GX (row:=Dr.row) (fun _=>rfl) h
structure Vf(f:Fl)(v:Co):Prop where
 d:v.d.length=f.d.length∧∀i,v.re.length≤i→nth v.d i=nth f.d i
 w:v.w.length=f.w.length∧∀i,v.cm.length≤i→nth v.w i=nth f.w i
theorem Vf.next{c:Cs}(hc:wK c){p:Sp}{f:Fl}{v:Co}{k:Nat}(h:Vf f v)(ho:Vo c v k):Vf f (vS c p v k):=by
 obtain⟨s1,s2,s3,s4⟩:=G6 (c:=c) (p:=p) (v:=v) (k:=k);have hd:(vD c p v k).d.length=f.d.length∧∀i,(vD c p v k).re.length≤i→nth (vD c p v k).d i=nth f.d i:=by
  unfold vD;cases hs:kU c.s k with
  |none=>exact h.d
  |some i =>
   obtain⟨a,b⟩:=wR hs;have e:=(wP ho.s (fun j h0 hj=>(wQ hc hj).2.1 h0) a b).1;refine⟨by simp only[List.length_set];exact h.d.1,fun j hj=>?_⟩
   simp only[List.length_append,List.length_singleton]at hj;show nth (v.d.set i _) j=nth f.d j;rcases Nat.lt_or_ge i v.d.length with g|g
   ·rw[tg g,if_neg (by omega)]
    exact h.d.2 j (by omega)
   ·rw[List.set_eq_of_length_le g]
    exact h.d.2 j (by omega)
 unfold vS vL;cases hl:lV c.r.l k with
 |none=>exact⟨hd,by rw[s2,s3];exact h.w⟩
 |some j =>
  obtain⟨a,b⟩:=Al hl;have e:=(wP ho.l (fun j h0 hj=>((j0 hc.k).link hj).2.1 h0) a b).1;refine⟨hd,?_⟩;simp only[s2,s3];refine⟨by simp only[List.length_set];exact h.w.1,fun i hi=>?_⟩
  simp only[List.length_append,List.length_singleton]at hi;rcases Nat.lt_or_ge j v.w.length with g|g
  ·rw[tg g,if_neg (by omega)]
   exact h.w.2 i (by omega)
  ·rw[List.set_eq_of_length_le g]
   exact h.w.2 i (by omega)
theorem Qm{c:Cs}(hc:wK c)(p:Sp)(f:Fl):∀k,Vf f (cy c p f k)
 |0=>⟨⟨rfl,fun _ _=>rfl⟩,⟨rfl,fun _ _=>rfl⟩⟩
 |k+1=>(Qm hc p f k).next hc (G8 hc p f k)
theorem aoz{c:Cs}{k i:Nat}(h:∀j,j<i→sx c j≠k)(hi:i<c.s.length)(hk:sx c i=k):kU c.s k=some i:=by
 cases hs:kU c.s k with
 |none=>exact absurd hk (Kf hs i hi)
 |some j =>
  have h1:=yu hs;obtain⟨a,b⟩:=wR hs;rcases Nat.lt_trichotomy j i with g|g|g
  ·exact absurd b (h j g)
  ·rw[g]
  ·have:=h1.2.2 i (by omega) g
   have hk:(nth c.s i).n=k:=hk;simp[hk]at this
theorem aoA{c:Cs}{k i:Nat}(h:∀j,j<i→yD c j≠k)(hi:i<c.r.l.length)(hk:yD c i=k):lV c.r.l k=some i:=by
 cases hs:lV c.r.l k with
 |none=>exact absurd hk (aaX hs i hi)
 |some j =>
  have h1:=yu hs;obtain⟨a,b⟩:=Al hs;rcases Nat.lt_trichotomy j i with g|g|g
  ·exact absurd b (h j g)
  ·rw[g]
  ·have:=h1.2.2 i (by omega) g
   have hk:(nth c.r.l i).f=k:=hk;simp[hk]at this
theorem aoB{c:Cs}{k:Nat}(h:∀j,j<c.s.length→sx c j≠k):kU c.s k=none:=by
 cases hs:kU c.s k with
 |none=>rfl
 |some j=>exact absurd (wR hs).2 (h j (wR hs).1)
theorem aoC{c:Cs}{k:Nat}(h:∀j,j<c.r.l.length→yD c j≠k):lV c.r.l k=none:=by
 cases hs:lV c.r.l k with
 |none=>rfl
 |some j=>exact absurd (Al hs).2 (h j (Al hs).1)
end Go.Proofs.YtocclbnghhaejaaGreat
namespace Go.Proofs.YtocclbnghhaejaaGreat
set_option linter.all false
open Go.Vm
attribute [local simp] lQ lR kP lP
set_option maxRecDepth 100000 in
set_option maxHeartbeats 8000000 in
theorem Ki{c:Cs}(hr:gW c.r){f:Fl}(hf:jY f){p:Sp}(lM:p.a.length≤1000∧p.b.length≤1000∧p.c.length≤1000):∃G',aX F 33 [cs c,fl f,sv p] []=some (qf (some 0) c f p,G'):=by
 suffices h:∀Q:V→Prop,Q (qf (some 0) c f p)→gy (aX F) 33 [cs c,fl f,sv p] [] fun v _=>Q v by
  obtain⟨_,G',h,rfl⟩:=h (fun v=>v=qf (some 0) c f p) rfl;exact⟨G',h⟩
 intro Q hQ;refine gS rfl rfl ?_;have hc:=BX c hr;have hv:=DY c hr f hf;have err:∀e,m8 c f p=e→e≠0→Q (aaS (some 0) e):=fun e h he=>by
  unfold qf at hQ
  rwa [h,if_neg he]at hQ
 by_cases hz:ew c=0
 case neg =>
  simp (disch:=omega) [-getElem?_pos,wrap64,wy,hc,hz];exact err _ (by unfold m8 iq;rw[if_pos hz,if_pos hz]) hz
 by_cases iP:ft c f
 case neg =>
  have h0:decide (ew c=0∧ft c f)=false:=decide_eq_false fun g=>iP g.2;rw[h0]at hv;simp (disch:=omega) [-getElem?_pos,wrap64,wy,hc,hz,hv];have hrd:iq c f=50:=by unfold iq;rw[if_neg (by omega),if_neg iP]
  exact err 50 (by unfold m8;rw[hrd];rfl) (by decide)
 have hrd:iq c f=0:=by unfold iq;rw[if_neg (by omega),if_pos iP]
 have fC:m8 c f p=fP c f p:=by unfold m8;rw[if_neg (by omega)]
 rw[fC]at err;rw[decide_eq_true ⟨hz,iP⟩]at hv;have cv:=jZ hz;have kv:=j0 cv.k;have jc:=kv.n;by_cases h1:(p.a.length:Int)=c.r.n
 case neg =>
  simp (disch:=omega) [-getElem?_pos,wrap64,wy,hc,hz,hv,h1];exact err 3 (by unfold fP;rw[if_neg fun g=>h1 g.1]) (by decide)
 by_cases h2:p.b.length=c.s.length
 case neg =>
  have mg:¬ (p.b.length:Int)=c.s.length:=by omega
  simp (disch:=omega) [-getElem?_pos,wrap64,wy,hc,hz,hv,h1,mg];exact err 3 (by unfold fP;rw[if_neg fun g=>h2 g.2.1]) (by decide)
 have mg:(p.b.length:Int)=c.s.length:=by omega
 by_cases h3:p.c.length=c.s.length
 case neg =>
  have gU:¬ (p.c.length:Int)=c.s.length:=by omega
  simp (disch:=omega) [-getElem?_pos,wrap64,wy,hc,hz,hv,h1,mg,gU];exact err 3 (by unfold fP;rw[if_neg fun g=>h3 g.2.2]) (by decide)
 have gU:(p.c.length:Int)=c.s.length:=by omega
 have iO:mj c p:=⟨h1,h2,h3⟩;have ha:=P9 p.a lM.1 1073741824;have hb:=P9 p.b lM.2.1 1073741824;have u7:=P9 p.c lM.2.2 1073741824;have app:eJ (p.a++p.b++p.c) 1073741824↔eJ p.a 1073741824∧eJ p.b 1073741824∧eJ p.c 1073741824:=by
  rw[aa1,aa1,and_assoc]
 by_cases g1:eJ p.a 1073741824
 case neg =>
  simp (disch:=omega) [-getElem?_pos,wrap64,wy,hc,hz,hv,h1,mg,gU,ha,g1];exact err 1 (by unfold fP;rw[if_pos iO,if_neg fun g=>g1 (app.1 g).1]) (by decide)
 by_cases g2:eJ p.b 1073741824
 case neg =>
  simp (disch:=omega) [-getElem?_pos,wrap64,wy,hc,hz,hv,h1,mg,gU,ha,g1,hb,g2];exact err 1 (by unfold fP;rw[if_pos iO,if_neg fun g=>g2 (app.1 g).2.1]) (by decide)
 by_cases g3:eJ p.c 1073741824
 case neg =>
  simp (disch:=omega) [-getElem?_pos,wrap64,wy,hc,hz,hv,h1,mg,gU,ha,g1,hb,g2,u7,g3];exact err 1 (by unfold fP;rw[if_pos iO,if_neg fun g=>g3 (app.1 g).2.2]) (by decide)
 have xr:=app.2 ⟨g1,g2,g3⟩;have hcy:=P7 f (Ai hz iP.2.1) (G7 cv.k iP.2.2);have aop:=iP.1;have HA:=cv.s;have ky:=kv.len;have Ke:0<p.a.length:=by omega
 have A3:f.d.length=c.s.length:=iP.2.1.1;have Qn:f.w.length=c.r.l.length:=iP.2.2.1;simp (disch:=omega) [-getElem?_pos,wrap64,wy,hc,hz,hv,h1,mg,gU,ha,g1,hb,g2,u7,g3];refine bE (fun g4=>?_) (fun g4=>?_)
 ·exact err 6 (by unfold fP;rw[if_pos iO,if_pos xr,if_pos g4]) (by decide)
 have hE:fP c f p=dB (fun k=>vE c p (cy c p f k) k) c.r.n.toNat 0:=by unfold fP;rw[if_pos iO,if_pos xr,if_neg g4]
 have C7:p.a.isEmpty=false:=by
  cases hp:p.a with
  |nil=>rw[hp]at Ke;simp at Ke
  |cons a l=>rfl
 simp (disch:=omega) [-getElem?_pos,wrap64,hcy,aou,C7];refine go_loop (fun k:Nat=>ahf p.a.length k c.row f.row p.row [i64 0,.bV,.bV] [.bV,.bV,.bV] [i64 (f.t+1),.dh 0 4 f.d.length,.dh 1 1 f.w.length]
   [.bQ 100 7 c.s.length,.bQ 104 1 c.r.n.toNat,.bQ 109 1 c.r.l.length] (pK (pad Am (cy c p f k).re c.s.length)) (dM (pad 0 (cy c p f k).lf c.r.n.toNat)) (dM (pad 0 (cy c p f k).cm c.r.l.length)) (dM (cy c p f k).arr)
   [.cells (gX (cy c p f k).d),.cells (km (cy c p f k).w)])
  (fun k=>k≤c.r.n.toNat∧(∀j,j<k→vE c p (cy c p f j) j=0)∧dB (fun k=>vE c p (cy c p f k) k) (c.r.n.toNat-k) k=fP c f p) (fun k=>c.r.n.toNat-k) 0 rfl (by simp[cy,aow]) ⟨by omega,by omega,hE.symm⟩ ?_
 rintro k ⟨hk,hzk,hq⟩;have D5:=vcs hz iP iO xr hzk;have xo:=G8 cv p f k;have Ik:=Qm cv p f k;have Dd:=Ik.d;have hww:=Ik.w;have awb:=D5.B3;have aoF:=D5.ll;have C2:=xo.s.1;have aoG:=xo.l.1;have ecv:cy c p f (k+1)=vS c p (cy c p f k) k:=rfl;simp (disch:=omega) [-getElem?_pos,wrap64,Ve];refine bE (fun fO=>?_) (fun fO=>?_)
 ·have aoI:k<c.r.n.toNat:=by omega
  rw[kB aoI]at hq;generalize hcv:cy c p f k=v at *;have Qf:k<v.arr.length:=by omega
  simp (disch:=omega) [-getElem?_pos,wrap64,lx];obtain⟨s1,s2,s3,s4⟩:=G6 (c:=c) (p:=p) (v:=v) (k:=k);refine go_loop (fun y:Nat×Co×Int=>ag5 p.a.length k y.2.2 (qe c.s) c.s.length y.1 c.row f.row p.row [i64 0,.bV,.bV] [.bV,.bV,.bV] [i64 (f.t+1),.dh 0 4 f.d.length,.dh 1 1 f.w.length]
    [.bQ 100 7 c.s.length,.bQ 104 1 c.r.n.toNat,.bQ 109 1 c.r.l.length] (pK (pad Am y.2.1.re c.s.length)) (dM (pad 0 v.lf c.r.n.toNat)) (dM (pad 0 v.cm c.r.l.length)) (dM v.arr) [.cells (gX y.2.1.d),.cells (km v.w)])
   (fun y=>y.1≤c.s.length∧((y.2.1=v∧y.2.2=nth v.arr k∧∀j,j<y.1→sx c j≠k)∨(y.2.1=vD c p v k∧y.2.2=ff c p v k∧ml c p v k=0∧∃j,j<y.1∧kU c.s k=some j)))
   (fun y=>c.s.length-y.1) (0,v,nth v.arr k) rfl (by simp) ⟨by simp,.inl ⟨rfl,rfl,by simp⟩⟩ ?_
  rintro⟨i,u,x⟩ ⟨hi,hu⟩;simp only at hi hu;have aoK:(pad Am v.re c.s.length).length=c.s.length:=Kg C2;simp (disch:=omega) [-getElem?_pos,wrap64,Va];refine bE (fun h5=>?_) (fun h5=>?_)
  ·have h5:i<c.s.length:=by omega
   have h6:i<f.d.length:=by omega
   have h7:i<p.b.length:=by omega
   have h8:i<p.c.length:=by omega
   simp (disch:=omega) [-getElem?_pos,wrap64,aW (l:=c.s)];refine bE (fun h9=>?_) (fun h9=>?_)
   ·have hs:kU c.s k=some i∧u=v∧x=nth v.arr k∧i=v.re.length:=by
     have e:=(wP xo.s (fun j h0 hj=>(wQ cv hj).2.1 h0) h5 h9).1;rcases hu with⟨a,b,d⟩ | ⟨_,_,_,j,hj,hs⟩
     ·exact⟨aoz d h5 h9,a,b,e⟩
     ·have:=(wP xo.s (fun j h0 hj=>(wQ cv hj).2.1 h0) (wR hs).1 (wR hs).2).1
      omega
    obtain⟨hs,rfl,rfl,wO⟩:=hs;have Kj:nth u.d i=nth f.d i:=Dd.2 i (by omega)
    obtain⟨Ga,hS⟩:=anC (nth c.s i).d (nth f.d i) (nth u.arr k) (nth p.b i) (nth p.c i);by_cases he:nB (nth c.s i).d (nth f.d i) (nth u.arr k) (nth p.b i) (nth p.c i)=0
    ·have Qi:=(aaJ he).1
     have e0:ml c p u k=0:=by simp only[ml,hs,Kj,he]
     have e1:ff c p u k=oM (vR c p u k i):=by simp only[ff,hs]
     have e2:vD c p u k={ u with d:=u.d.set i (lU (nth c.s i).d (nth f.d i) (nth u.arr k) (nth p.b i) (nth p.c i)),re:=u.re++[vR c p u k i],lf:=u.lf++[ff c p u k] }:=by rw[vD,hs,← Kj]
     have e3:vR c p u k i=lD (nth c.s i).d (nth f.d i) (nth u.arr k) (nth p.b i) (nth p.c i):=by rw[vR,Kj]
     rw[so,if_pos he]at hS;rw[e3]at e1 e2;rw[e1]at e2;generalize lU (nth c.s i).d (nth f.d i) (nth u.arr k) (nth p.b i) (nth p.c i)=S' at hS e2;generalize lD (nth c.s i).d (nth f.d i) (nth u.arr k) (nth p.b i) (nth p.c i)=R' at hS Qi e1 e2;have hF:=anL R' (by omega) (by omega) (by omega)
     rw[show R'.tur+R'.spi+R'.ovr=oM R' from rfl]at hF;have mO:i<u.d.length:=by omega
     have gN:((((gX u.d).set (i*4) (i64 S'.v)).set (i*4+1) (i64 S'.rel)).set (i*4+1+1) (jT S'.u)).set (i*4+1+1+1) (jJ S'.g)=gX (u.d.set i S'):=aaH mO S';have hrt:(((((((pK (pad Am u.re c.s.length)).set (i*7) (i64 R'.inf)).set (i*7+1) (i64 R'.los)).set (i*7+1+1) (i64 R'.tur)).set (i*7+1+1+1) (i64 R'.spi)).set (i*7+1+1+1+1) (i64 R'.ovr)).set (i*7+1+1+1+1+1) (i64 R'.pow)).set (i*7+1+1+1+1+1+1) (i64 R'.jW)=pK (pad Am (u.re++[R']) c.s.length):=by
      rw[←Ql wO (by omega)]
      exact aoy (by rw[Kg (by omega)];exact h5) R'
     simp (disch:=omega) [-getElem?_pos,wrap64,aW (l:=f.d),dj (l:=p.b),dj (l:=p.c),lx,hS,hF,gN,hrt,aoK];refine bF (i+1,vD c p u k,ff c p u k) (by simp[e1,e2]) ⟨by simp only;omega,.inr ⟨rfl,rfl,e0,i,by simp only;omega,hs⟩⟩ (by simp only;omega)
    ·rw[so,if_neg he]at hS
     have e0:vE c p u k=nB (nth c.s i).d (nth f.d i) (nth u.arr k) (nth p.b i) (nth p.c i):=by
      have:ml c p u k=nB (nth c.s i).d (nth f.d i) (nth u.arr k) (nth p.b i) (nth p.c i):=by simp only[ml,hs,Kj]
      rw[vE,this,if_pos he]
     rw[e0,if_neg he]at hq;simp (disch:=omega) [-getElem?_pos,wrap64,aW (l:=f.d),dj (l:=p.b),dj (l:=p.c),lx,hS,decide_eq_false he];exact err _ hq.symm he
   ·refine bF (i+1,u,x) (by simp) ⟨by simp only;omega,?_⟩ (by simp only;omega)
    rcases hu with⟨a,b,d⟩ | ⟨a,b,d,j,hj,hs⟩
    ·refine .inl ⟨a,b,fun j hj=>?_⟩
     rcases Nat.lt_or_ge j i with g|g
     ·exact d j g
     ·rw[show j=i by simp only at hj;omega];exact h9
    ·exact .inr ⟨a,b,d,j,by simp only;omega,hs⟩
  ·obtain rfl:i=c.s.length:=by omega
   have hD:u.re=(vD c p v k).re∧u.d=(vD c p v k).d∧x=ff c p v k∧ml c p v k=0:=by
    rcases hu with⟨rfl,rfl,d⟩ | ⟨rfl,b,d,_⟩
    ·have hn:=aoB d
     unfold vD ff ml;rw[hn];exact⟨rfl,rfl,rfl,rfl⟩
    ·exact⟨rfl,rfl,b,d⟩
   obtain⟨d1,d2,rfl,d3⟩:=hD;rw[d1,d2];generalize hx:ff c p v k=x at *;have aoM:(pad 0 v.lf c.r.n.toNat).length=c.r.n.toNat:=Kg (by omega)
   have gN:(pad 0 v.lf c.r.n.toNat).set k x=pad 0 (vD c p v k).lf c.r.n.toNat:=by rw[Ql (by omega) (by omega),s4]
   simp (disch:=omega) [-getElem?_pos,wrap64,aoM,gN];have aoN:(pad 0 v.cm c.r.l.length).length=c.r.l.length:=Kg aoG;refine go_loop (fun y:Nat×Co=>aha p.a.length k x (nC c.r.l) c.r.l.length y.1 c.row f.row p.row [i64 0,.bV,.bV] [.bV,.bV,.bV] [i64 (f.t+1),.dh 0 4 f.d.length,.dh 1 1 f.w.length]
     [.bQ 100 7 c.s.length,.bQ 104 1 c.r.n.toNat,.bQ 109 1 c.r.l.length] (pK (pad Am (vD c p v k).re c.s.length)) (dM (pad 0 (vD c p v k).lf c.r.n.toNat)) (dM (pad 0 y.2.cm c.r.l.length)) (dM y.2.arr) [.cells (gX (vD c p v k).d),.cells (km y.2.w)])
    (fun y=>y.1≤c.r.l.length∧((y.2=v∧∀j,j<y.1→yD c j≠k)∨(y.2=vL c v x k∧oq c v x k=0∧∃j,j<y.1∧lV c.r.l k=some j)))
    (fun y=>c.r.l.length-y.1) (0,v) rfl (by simp) ⟨by simp,.inl ⟨rfl,by simp⟩⟩ ?_
   rintro⟨i,u⟩ ⟨hi,hu⟩;simp only at hi hu;simp (disch:=omega) [-getElem?_pos,wrap64,Vb];refine bE (fun h5=>?_) (fun h5=>?_)
   ·have h5:i<c.r.l.length:=by omega
    have h6:i<f.w.length:=by omega
    simp (disch:=omega) [-getElem?_pos,wrap64,aW (l:=c.r.l)];refine bE (fun h9=>?_) (fun h9=>?_)
    ·have hs:lV c.r.l k=some i∧u=v∧i=v.cm.length:=by
      have e:=(wP xo.l (fun j h0 hj=>(kv.link hj).2.1 h0) h5 h9).1;rcases hu with⟨a,d⟩ | ⟨_,_,j,hj,hs⟩
      ·exact⟨aoA d h5 h9,a,e⟩
      ·have:=(wP xo.l (fun j h0 hj=>(kv.link hj).2.1 h0) (Al hs).1 (Al hs).2).1
       omega
     obtain⟨hs,rfl,wO⟩:=hs;have hwi:nth u.w i=nth f.w i:=hww.2 i (by omega)
     have vk:=iP.2.2.2 i h5;obtain⟨tt,hR⟩:=anW (nth c.r.l i).r (hr.2 i h5) (nth f.w i) (hf i) x;have bA:=(kv.link h5).1;have D7:(nth c.r.l i).t.toNat<u.arr.length:=by omega
     have eL:oq c u x k=gw (nth c.r.l i).r (nth f.w i) x:=by unfold oq;rw[hs];simp only[hwi]
     have eE:vE c p u k=gw (nth c.r.l i).r (nth f.w i) x:=by
      rw[vE,d3,hx,eL];rfl
     rw[eE]at hq;by_cases he:gw (nth c.r.l i).r (nth f.w i) x=0
     ·have ho:=D3 he
      have har:=D5.arr (nth c.r.l i).t.toNat D7;rw[GU he]at hR;have e2:vL c u x k={ u with w:=u.w.set i (kj (nth c.r.l i).r (nth f.w i) x),cm:=u.cm++[lG (nth c.r.l i).r (nth f.w i) x],arr:=u.arr.set (nth c.r.l i).t.toNat (nth u.arr (nth c.r.l i).t.toNat+lG (nth c.r.l i).r (nth f.w i) x) }:=by
       rw[vL,hs,← hwi]
      have gN:(pad 0 u.cm c.r.l.length).set i (lG (nth c.r.l i).r (nth f.w i) x)=pad 0 (u.cm++[lG (nth c.r.l i).r (nth f.w i) x]) c.r.l.length:=Ql wO (by omega)
      simp (disch:=omega) [-getElem?_pos,wrap64,aW (l:=f.w),hR,Qe,aoN,gN,lx];refine bF (i+1,vL c u x k) (by simp[e2]) ⟨by simp only;omega,.inr ⟨rfl,by rw[eL,he],i,by simp only;omega,hs⟩⟩ (by simp only;omega)
     ·rw[BV rfl he]at hR
      rw[if_neg he]at hq;simp (disch:=omega) [-getElem?_pos,wrap64,aW (l:=f.w),hR,decide_eq_false he];exact err _ hq.symm he
    ·refine bF (i+1,u) (by simp) ⟨by simp only;omega,?_⟩ (by simp only;omega)
     rcases hu with⟨a,d⟩ | ⟨a,d,j,hj,hs⟩
     ·refine .inl ⟨a,fun j hj=>?_⟩
      rcases Nat.lt_or_ge j i with g|g
      ·exact d j g
      ·rw[show j=i by simp only at hj;omega];exact h9
     ·exact .inr ⟨a,d,j,by simp only;omega,hs⟩
   ·obtain rfl:i=c.r.l.length:=by omega
    have hD:u=vL c v x k∧oq c v x k=0:=by
     rcases hu with⟨rfl,d⟩ | ⟨rfl,b,_⟩
     ·have hn:=aoC d
      unfold vL oq;rw[hn];exact⟨rfl,rfl⟩
     ·exact⟨rfl,b⟩
    obtain⟨rfl,d4⟩:=hD;have eE:vE c p v k=0:=by rw[vE,d3,hx,d4];rfl
    rw[if_pos eE]at hq;obtain⟨a1,a2,a3⟩:=aa0 (c:=c) (u:=vD c p v k) (v:=v) (x:=x) (k:=k) s1 s2 s3;obtain⟨b1,b2,b3⟩:=aaZ (c:=c) (u:=vD c p v k) (x:=x) (k:=k);have hvS:vS c p v k=vL c (vD c p v k) x k:=by rw[vS,hx]
    refine bF (k+1) (by simp[ecv,hvS,a1,a2,a3,b1,b2,b3]) ⟨by omega,fun j hj=>?_,hq⟩ (by omega)
    rcases Nat.lt_or_ge j k with g|g
    ·exact hzk j g
    ·rw[show j=k by omega,hcv];exact eE
 ·obtain rfl:k=c.r.n.toNat:=by omega
  rw[mE]at hq;have EC:=aaY cv p f;have w1:((cy c p f c.r.n.toNat).re.length:Int)=c.s.length:=by omega
  rw[Qk EC.1,Qk aoF,Qk EC.2];simp (disch:=omega) [-getElem?_pos,wrap64,sr,Ag,aov,MD];rw[←hq]at fC;unfold qf at hQ;rw[fC,if_pos rfl]at hQ;exact hQ
end Go.Proofs.YtocclbnghhaejaaGreat
namespace Go.Proofs.YtocclbnghhaejaaGreat
set_option linter.all false
open Go.Vm
structure Pa(c:Cs)(f:Fl)(p:Sp):Prop where
 c0:ew c=0
 f0:ft c f
 p0:mj c p
 all:eJ (p.a++p.b++p.c) 1073741824
 t:f.t≠16777216
 v:∀k,k<c.r.n.toNat→vE c p (cy c p f k) k=0
theorem Kk{c:Cs}{f:Fl}{p:Sp}(h:m8 c f p=0):Pa c f p:=by
 unfold m8 at h;split at h
 ·rename_i h1;exact absurd h h1
 ·rename_i h1
  obtain⟨h2,h3⟩:=wx (Decidable.of_not_not h1);unfold fP at h;split at h
  ·split at h
   ·split at h
    ·cases h
    ·exact⟨h2,h3,by assumption,by assumption,by assumption,fun k hk=>rU h k (by omega) (by omega)⟩
   ·cases h
  ·cases h
theorem Pa.vc{c:Cs}{f:Fl}{p:Sp}(h:Pa c f p){k:Nat}(hk:k≤c.r.n.toNat):Vc c p (cy c p f k) k:=vcs h.c0 h.f0 h.p0 h.all fun j hj=>h.v j (by omega)
theorem Pa.fl{c:Cs}{f:Fl}{p:Sp}(h:Pa c f p):ft c (oN c f p):=by
 have hv:=h.vc (Nat.le_refl _);have:=h.f0.1;have:=h.t;exact⟨by simp only[oN];omega,hv.d,hv.w⟩
theorem yF{c:Cs}(hk:jd c.r=0){f:Fl}(h:ft c f):jY f:=fun i=>by
 rcases Nat.lt_or_ge i c.r.l.length with g|g
 ·have a:=h.2.2.2 i g
  have:=a.2.1;have:=(te a.1).len;omega
 ·have:nth f.w i=[]:=by
   simp[nth,List.getD,List.getElem?_eq_none (show f.w.length≤i by have:=h.2.2.1;omega)]
   rfl
  rw[this];simp
end Go.Proofs.YtocclbnghhaejaaGreat
namespace Go.Proofs.YtocclbnghhaejaaGreat
set_option linter.all false
open Go.Vm
def nD(c:Cs)(cm:List Int)(j:Int):Nat→Int
 |0=>0
 |m+1=>nD c cm j m+if (nth c.r.l m).t=j then nth cm m else 0
theorem aa5{c:Cs}{cm:List Int}{x:Int}{j:Int}:∀{m:Nat},m≤cm.length→nD c (cm++[x]) j m=nD c cm j m
 |0,_=>rfl
 |m+1,h=>by
  simp only[nD];rw[aa5 (by omega),p8 (by omega)]
theorem aoP{c:Cs}{cm:List Int}{x:Int}{j:Int}:nD c (cm++[x]) j (cm.length+1)=nD c cm j cm.length+if (nth c.r.l cm.length).t=j then x else 0:=by
 have e:nth (cm++[x]) cm.length=x:=by rw[iF,if_neg (by omega),if_pos rfl]
 simp only[nD];rw[aa5 (Nat.le_refl _),e]
structure Da(c:Cs)(p:Sp)(f:Fl)(v:Co)(i k:Nat):Prop where
 e:nB (nth c.s i).d (nth f.d i) (nth (cy c p f k).arr k) (nth p.b i) (nth p.c i)=0
 r:nth v.re i=lD (nth c.s i).d (nth f.d i) (nth (cy c p f k).arr k) (nth p.b i) (nth p.c i)
 d:nth v.d i=lU (nth c.s i).d (nth f.d i) (nth (cy c p f k).arr k) (nth p.b i) (nth p.c i)
structure Li(c:Cs)(p:Sp)(f:Fl)(v:Co)(m k:Nat):Prop where
 e:gw (nth c.r.l m).r (nth f.w m) (ff c p (cy c p f k) k)=0
 o:nth v.cm m=lG (nth c.r.l m).r (nth f.w m) (ff c p (cy c p f k) k)
 w:nth v.w m=kj (nth c.r.l m).r (nth f.w m) (ff c p (cy c p f k) k)
structure Hi(c:Cs)(p:Sp)(f:Fl)(v:Co)(k:Nat):Prop where
 arr:∀j,j<v.arr.length→nth v.arr j=nth p.a j+nD c v.cm j v.cm.length
 cm:∀m,m<v.cm.length→0≤nth v.cm m∧nth v.cm m≤1125899906842624
 site:∀i,i<v.re.length→∃k':Nat,k'<k∧sx c i=k'∧Da c p f v i k'
 link:∀m,m<v.cm.length→∃k':Nat,k'<k∧yD c m=k'∧Li c p f v m k'
 lf:∀j,j<k→nth v.lf j=ff c p (cy c p f j) j
theorem aoQ{c:Cs}{p:Sp}{f:Fl}(h:Pa c f p){k:Nat}(hk:k<c.r.n.toNat)(hh:Hi c p f (cy c p f k) k):Hi c p f (cy c p f (k+1)) (k+1):=by
 have hc:=jZ h.c0;have hv:=h.vc (k:=k) (by omega)
 have ho:=G8 hc p f k;have hf:=Qm hc p f k;obtain⟨e0,eL⟩:=aaP (h.v k hk);show Hi c p f (vS c p (cy c p f k) k) (k+1);obtain⟨s1,s2,s3,s4⟩:=G6 (c:=c) (p:=p) (v:=cy c p f k) (k:=k);obtain⟨a1,a2,a3⟩:=aa0 (c:=c) (x:=ff c p (cy c p f k) k) (k:=k) s1 s2 s3;obtain⟨b1,b2,b3⟩:=aaZ (c:=c) (u:=vD c p (cy c p f k) k) (x:=ff c p (cy c p f k) k) (k:=k);have aoR:∀i,i<(vD c p (cy c p f k) k).re.length→∃k':Nat,k'<k+1∧sx c i=k'∧Da c p f (vD c p (cy c p f k) k) i k':=by
  unfold vD;cases hs:kU c.s k with
  |none =>
   intro i hi;obtain⟨k',g1,g2,g3⟩:=hh.site i hi;exact⟨k',by omega,g2,g3.e,g3.r,g3.d⟩
  |some i0 =>
   obtain⟨q1,q2⟩:=wR hs;have q3:=(wP ho.s (fun j h0 hj=>(wQ hc hj).2.1 h0) q1 q2).1;have q4:i0<(cy c p f k).d.length:=by have:=hv.d.1;omega
   have q5:=hf.d.2 i0 (by omega)
   intro i hi;simp only[List.length_append,List.length_singleton]at hi;by_cases g:i=i0
   ·subst g
    refine⟨k,by omega,q2,?_,?_,?_⟩
    ·unfold ml at e0
     rw[hs]at e0;rw[←q5];exact e0
    ·show nth ((cy c p f k).re++[_]) i=_
     rw[iF,if_neg (by omega),if_pos q3,vR,q5]
    ·show nth ((cy c p f k).d.set i _) i=_
     rw[tg q4,if_pos rfl,q5]
   ·obtain⟨k',g1,g2,g3⟩:=hh.site i (by omega)
    refine⟨k',by omega,g2,g3.e,?_,?_⟩
    ·show nth ((cy c p f k).re++[_]) i=_
     rw[p8 (by omega)];exact g3.r
    ·show nth ((cy c p f k).d.set i0 _) i=_
     rw[tg q4,if_neg g];exact g3.d
 have hlf:∀j,j<k+1→nth (vD c p (cy c p f k) k).lf j=ff c p (cy c p f j) j:=fun j hj=>by
  have:=hv.ll;rw[s4,iF];by_cases g:j<k
  ·rw[if_pos (by omega)];exact hh.lf j g
  ·rw[if_neg (by omega),if_pos (by omega),show j=k by omega]
 have Qo:(∀j,j<(vL c (cy c p f k) (ff c p (cy c p f k) k) k).arr.length→nth (vL c (cy c p f k) (ff c p (cy c p f k) k) k).arr j=nth p.a j+nD c (vL c (cy c p f k) (ff c p (cy c p f k) k) k).cm j (vL c (cy c p f k) (ff c p (cy c p f k) k) k).cm.length) ∧
   (∀m,m<(vL c (cy c p f k) (ff c p (cy c p f k) k) k).cm.length→0≤nth (vL c (cy c p f k) (ff c p (cy c p f k) k) k).cm m∧nth (vL c (cy c p f k) (ff c p (cy c p f k) k) k).cm m≤1125899906842624) ∧
   ∀m,m<(vL c (cy c p f k) (ff c p (cy c p f k) k) k).cm.length→∃k':Nat,k'<k+1∧yD c m=k'∧Li c p f (vL c (cy c p f k) (ff c p (cy c p f k) k) k) m k':=by
  unfold oq at eL;cases hl:lV c.r.l k with
  |none =>
   rw[show vL c (cy c p f k) (ff c p (cy c p f k) k) k=cy c p f k by unfold vL;rw[hl]]
   exact⟨hh.arr,hh.cm,fun m hm=>by obtain⟨k',g1,g2,g3⟩:=hh.link m hm;exact⟨k',by omega,g2,g3⟩⟩
  |some m0 =>
   rw[hl]at eL;obtain⟨q1,q2⟩:=Al hl;have q3:=(wP ho.l (fun j h0 hj=>((j0 hc.k).link hj).2.1 h0) q1 q2).1;have q4:m0<(cy c p f k).w.length:=by have:=hv.w.1;omega
   have q5:=hf.w.2 m0 (by omega)
   have q6:=D3 eL;have q7:=((j0 hc.k).link q1).1;have q8:=hv.B3;have q9:(nth c.r.l m0).t.toNat<(cy c p f k).arr.length:=by omega
   have hu:vL c (cy c p f k) (ff c p (cy c p f k) k) k={ cy c p f k with w:=(cy c p f k).w.set m0 (kj (nth c.r.l m0).r (nth (cy c p f k).w m0) (ff c p (cy c p f k) k)),cm:=(cy c p f k).cm++[lG (nth c.r.l m0).r (nth (cy c p f k).w m0) (ff c p (cy c p f k) k)],arr:=(cy c p f k).arr.set (nth c.r.l m0).t.toNat (nth (cy c p f k).arr (nth c.r.l m0).t.toNat+lG (nth c.r.l m0).r (nth (cy c p f k).w m0) (ff c p (cy c p f k) k)) }:=by
    unfold vL;rw[hl]
   rw[hu];refine⟨fun j hj=>?_,fun m hm=>?_,fun m hm=>?_⟩
   ·simp only[List.length_set]at hj
    simp only[List.length_append,List.length_singleton];rw[tg q9,aoP,← q3];by_cases g:j=(nth c.r.l m0).t.toNat
    ·rw[if_pos g,if_pos (by omega),← g,hh.arr j hj,q3]
     exact Int.add_assoc _ _ _
    ·rw[if_neg g,if_neg (by omega),Int.add_zero,q3]
     exact hh.arr j hj
   ·simp only[List.length_append,List.length_singleton]at hm
    simp only;rw[iF];by_cases g:m<(cy c p f k).cm.length
    ·rw[if_pos g];exact hh.cm m g
    ·rw[if_neg g,if_pos (by omega)];exact q6
   ·simp only[List.length_append,List.length_singleton]at hm
    by_cases g:m=m0
    ·subst g
     refine⟨k,by omega,q2,by rw[←q5];exact eL,?_,?_⟩
     ·show nth ((cy c p f k).cm++[_]) m=_
      rw[iF,if_neg (by omega),if_pos q3,q5]
     ·show nth ((cy c p f k).w.set m _) m=_
      rw[tg q4,if_pos rfl,q5]
    ·obtain⟨k',g1,g2,g3⟩:=hh.link m (by omega)
     refine⟨k',by omega,g2,g3.e,?_,?_⟩
     ·show nth ((cy c p f k).cm++[_]) m=_
      rw[p8 (by omega)];exact g3.o
     ·show nth ((cy c p f k).w.set m0 _) m=_
      rw[tg q4,if_neg g];exact g3.w
 unfold vS;refine⟨?_,?_,fun i hi=>?_,fun m hm=>?_,by rw[b2];exact hlf⟩
 ·rw[a1,a3];exact Qo.1
 ·rw[a3];exact Qo.2.1
 ·rw[b1]at hi
  obtain⟨k',g1,g2,g3⟩:=aoR i hi;exact⟨k',g1,g2,g3.e,by rw[b1];exact g3.r,by rw[b3];exact g3.d⟩
 ·rw[a3]at hm
  obtain⟨k',g1,g2,g3⟩:=Qo.2.2 m hm;exact⟨k',g1,g2,g3.e,by rw[a3];exact g3.o,by rw[a2];exact g3.w⟩
theorem Qh{c:Cs}{p:Sp}{f:Fl}(h:Pa c f p):∀{k:Nat},k≤c.r.n.toNat→Hi c p f (cy c p f k) k
 |0,_=>⟨fun j hj=>by simp[cy,nD],fun m hm=>by simp[cy]at hm,fun i hi=>by simp[cy]at hi,fun m hm=>by simp[cy]at hm,fun j hj=>by omega⟩
 |k+1,hk=>aoQ h (by omega) (Qh h (by omega))
end Go.Proofs.YtocclbnghhaejaaGreat
namespace Go.Proofs.YtocclbnghhaejaaGreat
set_option linter.all false
open Go.Vm
theorem aa8{f:Nat→Int}:∀n,dN f (mh f n)=dN f n
 |0=>rfl
 |n+1=>by
  unfold mh;split
  ·rename_i h
   rw[aa8 n];simp only[dN];have h:f n=0:=by simpa using h
   rw[h,Int.add_zero]
  ·rfl
theorem Km{l:List Int}:∀n,sm l n=dN (nth l) n
 |0=>rfl
 |n+1=>by simp only[sm,dN];rw[Km n]
theorem aa9{f g:Nat→Int}:∀{n:Nat},(∀k,k<n→f k=g k)→dN f n=dN g n
 |0,_=>rfl
 |n+1,h=>by
  simp only[dN];rw[aa9 fun k hk=>h k (by omega),h n (by omega)]
theorem aba{f:Nat→Int}:∀n,dN (fun k=>f (k+1)) n=dN f (n+1)-f 0
 |0=>by simp[dN]
 |n+1=>by
  have:=aba (f:=f) n;simp only[dN]at this ⊢;omega
theorem abb{f g:Nat→Int}{x:Int}:∀n,dN (fun k=>f k+x*g k) n=dN f n+x*dN g n
 |0=>by simp[dN]
 |n+1=>by
  simp only[dN];rw[abb n,Int.mul_add];omega
theorem aoU{l:List Int}{n:Nat}(h:l.length≤n):sm l n=sm l l.length:=by
 obtain⟨d,rfl⟩:∃d,n=l.length+d:=⟨n-l.length,by omega⟩
 clear h
 induction d with
 |zero=>rfl
 |succ d ih =>
  rw[show l.length+(d+1)=(l.length+d)+1 by omega]
  simp only[sm];rw[ih,uw (by omega),Int.add_zero]
theorem aoV{r:Rc}{p:List Int}{x:Int}(h:gw r p x=0):sm (kj r p x) (kj r p x).length=sm p p.length+r.den*(x-lG r p x):=by
 obtain⟨h1,h2,h3,h4⟩:=D2 h;have hv:=te h1;have hn:0<r.w.length:=hv.pos;have e1:sm (kj r p x) (kj r p x).length=dN (rN r p x) r.w.length:=by
  have hl:(kj r p x).length=mh (rN r p x) r.w.length:=by simp[kj]
  have e:dN (nth (kj r p x)) (mh (rN r p x) r.w.length)=dN (rN r p x) (mh (rN r p x) r.w.length):=aa9 fun k hk=>aaN hk;rw[Km,hl,e,aa8]
 obtain⟨m,hm⟩:∃m,r.w.length=m+1:=⟨r.w.length-1,by omega⟩
 have e2:dN (rN r p x) r.w.length=dN (fun k=>rq r p x (k+1)) r.w.length+rq r p x 0 % r.den:=by
  rw[hm];have key:∀j,dN (rN r p x) (j+1)=dN (fun k=>rq r p x (k+1)) (j+1)+rq r p x 0 % r.den:=by
   intro j;induction j with
   |zero=>simp[dN,rN]
   |succ j ih =>
    rw[dN,ih];simp only[dN,rN];rw[if_neg (by omega)]
    omega
  exact key m
 have e3:rq r p x r.w.length=0:=by
  have:=h2.1;simp only[rq];rw[uw (by omega),uw (Nat.le_refl _)]
  simp
 have e4:dN (rq r p x) r.w.length=sm p p.length+x*r.den:=by
  show dN (fun k=>nth p k+x*nth r.w k) r.w.length=_;rw[abb,← Km,← Km,aoU h2.1,hv.sum]
 have e5:rq r p x 0=r.den*lG r p x+rq r p x 0 % r.den:=(Int.mul_ediv_add_emod _ _).symm;have e6:r.den*(x-lG r p x)=x*r.den-r.den*lG r p x:=by rw[Int.mul_sub,Int.mul_comm r.den x]
 rw[e1,e2,aba,dN,e3,e4,e6];omega
def hB(c:Cs)(f:Fl)(M:Int):Prop:=∀i,i<c.r.l.length→sm (nth f.w i) (nth f.w i).length≤(nth c.r.l i).r.den*(1073741824*M)
theorem aoW{r:Rc}{p:List Int}(h:im r p):0≤sm p p.length:=(yq (i:=p.length) h.2.2).1
theorem abc{c:Cs}{f:Fl}{p:Sp}(h:Pa c f p){M:Int}(hM:0≤M)(hb:hB c f M) :
  hB c (oN c f p) (M+1)∧∀i,i<c.r.l.length→0≤nth (sw c f p).cm i∧nth (sw c f p).cm i≤1073741824*(M+1):=by
 have hc:=jZ h.c0;have e2:=(aaY hc p f).2
 suffices g:∀i,i<c.r.l.length→sm (nth (oN c f p).w i) (nth (oN c f p).w i).length≤(nth c.r.l i).r.den*(1073741824*(M+1))∧0≤nth (sw c f p).cm i∧nth (sw c f p).cm i≤1073741824*(M+1) from
  ⟨fun i hi=>(g i hi).1,fun i hi=>(g i hi).2⟩
 intro i hi;obtain⟨k,_,_,hl⟩:=(Qh h (Nat.le_refl _)).link i (by omega)
 have hw:nth (oN c f p).w i=_:=hl.w;have ho:nth (sw c f p).cm i=_:=hl.o;have hr:=aoV hl.e;have hx:=(D2 hl.e).2.2.1;have h0:=(D3 hl.e).1;have hd:=(te (D2 hl.e).1).den;have hs:=aoW (aaO hl.e);have SB:=hb i hi;rw[hw,ho];generalize lG (nth c.r.l i).r (nth f.w i) (ff c p (cy c p f k) k)=o at *;generalize ff c p (cy c p f k) k=x at *;generalize kj (nth c.r.l i).r (nth f.w i) x=q at *;generalize (nth c.r.l i).r.den=D at *;generalize sm (nth f.w i) (nth f.w i).length=s at *;have a1:D*(1073741824*(M+1))=D*(1073741824*M)+D*1073741824:=by rw[←Int.mul_add];congr 1;omega
 have a2:D*(x-o)=D*x-D*o:=Int.mul_sub _ _ _;have a3:D*x≤D*1073741824:=Int.mul_le_mul_of_nonneg_left hx.2 (by omega)
 have a4:0≤D*o:=Int.mul_nonneg (by omega) h0
 refine⟨by omega,h0,?_⟩
 exact Int.le_of_mul_le_mul_left (a:=D) (by omega) (by omega)
theorem Ko{c:Cs}{f:Fl}{M N:Int}(hk:jd c.r=0)(h:hB c f M)(hn:M≤N):hB c f N:=fun i hi=>by
 have hd:=(te ((j0 hk).link hi).2.2).den;exact Int.le_trans (h i hi) (Int.mul_le_mul_of_nonneg_left (by omega) (by omega))
theorem aoX{c:Cs}{s:List Ds}:hB c (jw c s) 0:=fun i hi=>by
 have e:nth (jw c s).w i=[]:=by simp[jw,nth,hi]
 rw[e];simp[sm]
end Go.Proofs.YtocclbnghhaejaaGreat
