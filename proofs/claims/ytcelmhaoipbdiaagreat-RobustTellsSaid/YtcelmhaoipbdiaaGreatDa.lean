/- Parts of the proof, joined: Mk1, Cur1, Cur2, Sto1, Sto2, Sto3, Un1, Un2, Un3, Un4, Mk2, Gat1. -/
import Derived.Test.YtcelmhaoipbdiaaGreatQV
namespace Go.Proofs.YtcelmhaoipbdiaaGreat
set_option linter.all false
open Go.Vm
attribute [local simp] ly lz kF lx
def DX(n m:Int):Int:=(IntKind.i64.wrap (n.tmod m+m)).tmod m
theorem aes{n m:Int}(hm:m≠0)(G:List aP):aX F 56 [i64 n,i64 m] G=some (i64 (DX n m),G) :=
 bL rfl rfl (by simp[abb,hm,DX])
abbrev ints(l:List Int):V:=.slice none 1 (l.map fun n=>[i64 n])
abbrev dk(l:List Int)(k:Nat):aP:=.cells [ints l,i64 k]
theorem asK{n:Int}{l:List Int}{k:Nat}(h:n<1∨l.length≤k):aX F 17 [.bH 0 0,i64 n] [dk l k]=some (i64 0,[dk l k]) :=
 bL rfl rfl (by
  by_cases h1:n<1
  ·simp[DP,h1]
  ·have h2:l.length≤k:=h.resolve_left h1
   simp[DP,h1,h2])
theorem asL{n:Int}{l:List Int}{k:Nat}{v:Int}(h1:1≤n)(h2:l[k]?=some v)(hk:k<9223372036854775807):aX F 17 [.bH 0 0,i64 n] [dk l k]=some (i64 (DX v n),[dk l (k+1)]) :=
 bL rfl rfl (by
  have hn:¬ n<1:=by omega
  have hl:¬ l.length≤k:=by have:=(Hl.1 h2).1;omega
  simp (disch:=omega) [-getElem?_pos,wrap64,DP,hn,hl,h2,aes])
theorem aet{v n:Int}(h1:1≤n)(h2:n≤4611686018427387904):0≤DX v n∧DX v n<n:=by
 have h3:-n<v.tmod n:=by
  rcases Int.le_total 0 v with h|h
  ·have:=O7 n h;omega
  ·have h4:=O6 (-v) (show 0<n by omega)
   rw[Int.neg_tmod]at h4;omega
 have h4:v.tmod n<n:=O6 _ (by omega)
 unfold DX;rw[wrap64 (by omega) (by omega)]
 exact⟨O7 _ (by omega),O6 _ (by omega)⟩
def c5(l:List Int)(k:Nat):Prop:=k≤l.length∧l.length≤9223372036854775807
theorem gG{l:List Int}{k:Nat}(hd:c5 l k)(n:Int)(hn:n≤4611686018427387904) :
  ∃v k',aX F 17 [.bH 0 0,i64 n] [dk l k]=some (i64 v,[dk l k'])∧c5 l k'∧0≤v∧(v<n∨v=0):=by
 by_cases h:n<1∨l.length≤k
 ·exact⟨0,k,asK h,hd,by omega,.inr rfl⟩
 ·obtain⟨h1,h2⟩:=hd
  have h3:k<l.length:=by omega
  have h4:=asL (n:=n) (l:=l) (k:=k) (v:=nth l k) (by omega) (dA h3) (by omega)
  have h5:=aet (v:=nth l k) (n:=n) (by omega) hn
  exact⟨_,_,h4,⟨by omega,h2⟩,h5.1,.inl h5.2⟩
theorem DY(l:List Int)(G:List aP):aX F 6 [ints l] G=some (.bool (decide (l.length≤500)),G) :=
 bL rfl rfl (by simp[aak];omega)
theorem TW(l:List Int):aX F 7 [ints l] []=some (.bH 0 0,[dk l 0]) :=
 bL rfl rfl (by simp[aal])
def du(f:Nat→Int):Nat→Nat→Int
 |0,_=>0
 |m+1,i=>if f i=0 then du f m (i+1) else f i
theorem jq{f:Nat→Int}{i n:Nat}(h:i<n):du f (n-i) i=if f i=0 then du f (n-(i+1)) (i+1) else f i:=by
 obtain⟨m,hm⟩:∃m,n-i=m+1:=⟨n-i-1,by omega⟩
 rw[hm,du,show n-(i+1)=m by omega]
theorem sj{f:Nat→Int}:∀{m i:Nat},du f m i=0→∀j,i≤j→j<i+m→f j=0
 |0,i,_,j,h1,h2=>by omega
 |m+1,i,h,j,h1,h2=>by
  unfold du at h;split at h
  ·rename_i h0
   by_cases hj:j=i
   ·rw[hj];exact h0
   ·exact sj h j (by omega) (by omega)
  ·rename_i h0;exact absurd h h0
theorem pS{f:Nat→Int}:∀{m i:Nat},(∀j,i≤j→j<i+m→f j=0)→du f m i=0
 |0,i,_=>rfl
 |m+1,i,h=>by
  unfold du;rw[aK (h i (by omega) (by omega))]
  exact pS fun j h1 h2=>h j (by omega) (by omega)
theorem lC{f:Nat→Int}{n:Nat}:du f (n-n) n=0:=by rw[qd];rfl
theorem dM(n m:Int)(G:List aP):aX F 172 [i64 n,i64 m] G=some (.bool (decide (0≤n)&&decide (n≤m)),G) :=
 bL rfl rfl (by simp +contextual [wrap64,adr])
theorem asM(n m:Int)(G:List aP):aX F 146 [i64 n,i64 m] G=some (.bool (decide (0≤n)&&decide (n≤m)),G) :=
 bL rfl rfl (by simp +contextual [wrap64,acN])
theorem dh(n m:Int)(G:List aP):aX F 96 [i64 n,i64 m] G=some (.bool (decide (0≤n)&&decide (n≤m)),G) :=
 bL rfl rfl (by simp[wrap64,abX,asM])
structure Pt where
 x:Int
 y:Int
 deriving Inhabited,DecidableEq
abbrev Pt.row(p:Pt):List V:=[i64 p.x,i64 p.y]
abbrev jg(c:List Pt):V:=.slice none 2 (c.map Pt.row)
def iQ(c:List Pt)(i:Nat):Int :=
 if ¬((0≤(nth c i).x∧(nth c i).x≤1073741824)∧0≤(nth c i).y∧(nth c i).y≤274877906944) then 1
 else if i=0 then 0
 else if (nth c i).x≤(nth c (i-1)).x∨(nth c i).y<(nth c (i-1)).y then 4
 else if (4611686018427387904:Int).tdiv ((nth c i).x-(nth c (i-1)).x)<(nth c i).y-(nth c (i-1)).y then 1 else 0
def gT(c:List Pt):Int:=if c.length=0 then 3 else if 100<c.length then 10 else du (iQ c) c.length 0
theorem Nf{c:List Pt}{i:Nat}(h:iQ c i=0):(0≤(nth c i).x∧(nth c i).x≤1073741824)∧0≤(nth c i).y∧(nth c i).y≤274877906944:=by
 unfold iQ at h;split at h
 ·cases h
 ·rename_i h1;exact iu h1
theorem TX{c:List Pt}{i:Nat}(h:iQ c i=0)(hi:0<i):(nth c (i-1)).x<(nth c i).x∧(nth c (i-1)).y≤(nth c i).y ∧
  (nth c i).y-(nth c (i-1)).y≤(4611686018427387904:Int).tdiv ((nth c i).x-(nth c (i-1)).x):=by
 unfold iQ at h;split at h
 ·cases h
 ·rw[av (by omega)]at h
  split at h
  ·cases h
  ·split at h
   ·cases h
   ·omega
theorem asN(a b:Int)(h:0<a)(G:List aP):aX F 199 [i64 a,i64 b] G=some (.bool (decide ((4611686018427387904:Int).tdiv a<b)),G) :=
 bL rfl rfl (by
  have h1:0≤(4611686018427387904:Int).tdiv a:=zG (by omega) (by omega)
  have h2:(4611686018427387904:Int).tdiv a≤4611686018427387904:=by
   have:=CL (a:=4611686018427387904) a (by omega)
   omega
  have h3:a≠0:=by omega
  simp (disch:=omega) [wrap64,adT,h,h3])
theorem o0(c:List Pt)(G:List aP):aX F 186 [jg c] G=some (i64 (gT c),G) :=
 bL rfl rfl (by
  generalize hW:gT c=W;unfold gT at hW;simp +contextual (disch:=omega) [-getElem?_pos,-Int.natCast_eq_zero,wrap64,adF];refine ic (fun h=>?_) (fun h=>bB (fun h'=>?_) (fun h'=>?_))
  ·simp[-List.length_eq_zero_iff,-Int.natCast_eq_zero]at h
   rw[aK (by omega)]at hW
   exact hW
  ·simp[-List.length_eq_zero_iff,-Int.natCast_eq_zero]at h
   rw[av (by omega),aK (by omega)]at hW
   simpa using hW
  ·have hq:du (iQ c) (c.length-0) 0=W:=by
    simp[-List.length_eq_zero_iff,-Int.natCast_eq_zero]at h;rw[av (by omega),av (by omega)]at hW
    exact hW
   refine go_loop (fun i:Nat=>arG (jg c) (jg c) c.length i G) (fun i=>i≤c.length∧du (iQ c) (c.length-i) i=W∧∀j,j<i→iQ c j=0) (fun i=>c.length-i) 0 rfl (by simp) ⟨by omega,hq,by omega⟩ ?_
   rintro i ⟨hi,hq,hz⟩;simp +contextual (disch:=omega) [-getElem?_pos,-Int.natCast_eq_zero,wrap64,adE];refine bB (fun h1=>?_) (fun h1=>?_)
   ·have h1:i<c.length:=by omega
    rw[jq h1]at hq;have e:=aY h1;simp +contextual (disch:=omega) [-getElem?_pos,-Int.natCast_eq_zero,wrap64,aY (l:=c),dM];refine ic (fun h2=>?_) (fun h2=>?_)
    ·simp +contextual (disch:=omega) [-getElem?_pos,-Int.natCast_eq_zero,wrap64,h2,dM]
     simp[-List.length_eq_zero_iff,-Int.natCast_eq_zero]at h2;rw[show iQ c i=1 by rw[iQ,aK (by omega)],av (by decide)]at hq
     exact hq
    ·simp +contextual (disch:=omega) [-getElem?_pos,-Int.natCast_eq_zero,wrap64,h2,dM]
     simp[-List.length_eq_zero_iff,-Int.natCast_eq_zero]at h2;refine ic (fun h3=>?_) (fun h3=>bB (fun h4=>?_) (fun h4=>?_))
     ·simp[-List.length_eq_zero_iff,-Int.natCast_eq_zero]at h3
      rw[show iQ c i=1 by rw[iQ,aK (by omega)],av (by decide)]at hq
      exact hq
     ·simp[-List.length_eq_zero_iff,-Int.natCast_eq_zero]at h3
      have h0:iQ c i=0:=by rw[iQ,av (by omega),aK (by omega)]
      rw[h0,aK rfl]at hq;exact bu (i+1) (by simp) ⟨by omega,hq,fun j hj=>by rcases cM j i with h|h;exact hz j h;rwa [show j=i by omega]⟩ (by omega)
     ·simp[-List.length_eq_zero_iff,-Int.natCast_eq_zero]at h3
      have h5:((i:Int)-1).toNat=i-1:=by omega
      have h6:i-1<c.length:=by omega
      have h7:0≤(i:Int)-1:=by omega
      have h8:=Nf (hz (i-1) (by omega))
      simp +contextual (disch:=omega) [-getElem?_pos,-Int.natCast_eq_zero,wrap64,aY (l:=c),h5,h7];refine ic (fun h9=>?_) (fun h9=>?_)
      ·simp[-List.length_eq_zero_iff,-Int.natCast_eq_zero]at h9
       rw[show iQ c i=4 by rw[iQ,av (by omega),av (by omega),aK (by omega)],av (by decide)]at hq
       exact hq
      ·simp[-List.length_eq_zero_iff,-Int.natCast_eq_zero]at h9
       simp +contextual (disch:=omega) [-getElem?_pos,-Int.natCast_eq_zero,wrap64,asN];refine bB (fun gf=>?_) (fun gf=>?_)
       ·rw[show iQ c i=1 by rw[iQ,av (by omega),av (by omega),av (by omega),aK (by omega)],av (by decide)]at hq
        exact hq
       ·have h0:iQ c i=0:=by rw[iQ,av (by omega),av (by omega),av (by omega),av (by omega)]
        rw[h0,aK rfl]at hq;exact bu (i+1) (by simp) ⟨by omega,hq,fun j hj=>by rcases cM j i with h|h;exact hz j h;rwa [show j=i by omega]⟩ (by omega)
   ·obtain rfl:i=c.length:=by omega
    rw[lC]at hq;simp[←hq])
theorem mZ(c:List Pt)(G:List aP):aX F 175 [jg c] G=some (i64 (gT c),G) :=
 bL rfl rfl (by
  generalize hW:gT c=W;unfold gT at hW;simp +contextual (disch:=omega) [-getElem?_pos,-Int.natCast_eq_zero,wrap64,adu];refine ic (fun h=>?_) (fun h=>bB (fun h'=>?_) (fun h'=>?_))
  ·simp[-List.length_eq_zero_iff,-Int.natCast_eq_zero]at h
   rw[aK (by omega)]at hW
   exact hW
  ·simp[-List.length_eq_zero_iff,-Int.natCast_eq_zero]at h
   rw[av (by omega),aK (by omega)]at hW
   simpa using hW
  ·have hq:du (iQ c) (c.length-0) 0=W:=by
    simp[-List.length_eq_zero_iff,-Int.natCast_eq_zero]at h;rw[av (by omega),av (by omega)]at hW
    exact hW
   refine go_loop (fun i:Nat=>aru (jg c) (jg c) c.length i G) (fun i=>i≤c.length∧du (iQ c) (c.length-i) i=W∧∀j,j<i→iQ c j=0) (fun i=>c.length-i) 0 rfl (by simp) ⟨by omega,hq,by omega⟩ ?_
   rintro i ⟨hi,hq,hz⟩;simp +contextual (disch:=omega) [-getElem?_pos,-Int.natCast_eq_zero,wrap64,adt];refine bB (fun h1=>?_) (fun h1=>?_)
   ·have h1:i<c.length:=by omega
    rw[jq h1]at hq;have e:=aY h1;simp +contextual (disch:=omega) [-getElem?_pos,-Int.natCast_eq_zero,wrap64,aY (l:=c),dh];refine ic (fun h2=>?_) (fun h2=>?_)
    ·simp +contextual (disch:=omega) [-getElem?_pos,-Int.natCast_eq_zero,wrap64,h2,dh]
     simp[-List.length_eq_zero_iff,-Int.natCast_eq_zero]at h2;rw[show iQ c i=1 by rw[iQ,aK (by omega)],av (by decide)]at hq
     exact hq
    ·simp +contextual (disch:=omega) [-getElem?_pos,-Int.natCast_eq_zero,wrap64,h2,dh]
     simp[-List.length_eq_zero_iff,-Int.natCast_eq_zero]at h2;refine ic (fun h3=>?_) (fun h3=>bB (fun h4=>?_) (fun h4=>?_))
     ·simp[-List.length_eq_zero_iff,-Int.natCast_eq_zero]at h3
      rw[show iQ c i=1 by rw[iQ,aK (by omega)],av (by decide)]at hq
      exact hq
     ·simp[-List.length_eq_zero_iff,-Int.natCast_eq_zero]at h3
      have h0:iQ c i=0:=by rw[iQ,av (by omega),aK (by omega)]
      rw[h0,aK rfl]at hq;exact bu (i+1) (by simp) ⟨by omega,hq,fun j hj=>by rcases cM j i with h|h;exact hz j h;rwa [show j=i by omega]⟩ (by omega)
     ·simp[-List.length_eq_zero_iff,-Int.natCast_eq_zero]at h3
      have h5:((i:Int)-1).toNat=i-1:=by omega
      have h6:i-1<c.length:=by omega
      have h7:0≤(i:Int)-1:=by omega
      have h8:=Nf (hz (i-1) (by omega))
      simp +contextual (disch:=omega) [-getElem?_pos,-Int.natCast_eq_zero,wrap64,aY (l:=c),h5,h7];refine ic (fun h9=>?_) (fun h9=>?_)
      ·simp[-List.length_eq_zero_iff,-Int.natCast_eq_zero]at h9
       rw[show iQ c i=4 by rw[iQ,av (by omega),av (by omega),aK (by omega)],av (by decide)]at hq
       exact hq
      ·simp[-List.length_eq_zero_iff,-Int.natCast_eq_zero]at h9
       have kR:(nth c i).x-(nth c (i-1)).x≠0:=by omega
       have uM:(4611686018427387904:Int).tdiv ((nth c i).x-(nth c (i-1)).x)≤4611686018427387904:=by
        have:=CL (a:=4611686018427387904) ((nth c i).x-(nth c (i-1)).x) (by omega)
        omega
       have h13:0≤(4611686018427387904:Int).tdiv ((nth c i).x-(nth c (i-1)).x):=zG (by omega) (by omega)
       simp +contextual (disch:=omega) [-getElem?_pos,-Int.natCast_eq_zero,wrap64,kR];refine bB (fun gf=>?_) (fun gf=>?_)
       ·rw[show iQ c i=1 by rw[iQ,av (by omega),av (by omega),av (by omega),aK (by omega)],av (by decide)]at hq
        exact hq
       ·have h0:iQ c i=0:=by rw[iQ,av (by omega),av (by omega),av (by omega),av (by omega)]
        rw[h0,aK rfl]at hq;exact bu (i+1) (by simp) ⟨by omega,hq,fun j hj=>by rcases cM j i with h|h;exact hz j h;rwa [show j=i by omega]⟩ (by omega)
   ·obtain rfl:i=c.length:=by omega
    rw[lC]at hq;simp[←hq])
def qp(c:List Pt)(i:Nat)(x:Int):Int :=
 (nth c (i-1)).y+(((nth c i).y-(nth c (i-1)).y)*(x-(nth c (i-1)).x)).tdiv ((nth c i).x-(nth c (i-1)).x)
def xC(c:List Pt)(x:Int):Nat→Nat→Int
 |0,_=>(nth c (c.length-1)).y
 |m+1,i=>if x≤(nth c i).x then (if i=0 then (nth c i).y else qp c i x) else xC c x m (i+1)
def iR(c:List Pt)(x:Int):Int:=xC c x c.length 0
structure Cv(c:List Pt):Prop where
 pos:0<c.length
 jI:c.length≤100
 x0:∀i,i<c.length→0≤(nth c i).x∧(nth c i).x≤1073741824
 y0:∀i,i<c.length→0≤(nth c i).y∧(nth c i).y≤274877906944
 up:∀i,0<i→i<c.length→(nth c (i-1)).x<(nth c i).x
 mono:∀i,0<i→i<c.length→(nth c (i-1)).y≤(nth c i).y
 prod:∀i,0<i→i<c.length→((nth c i).y-(nth c (i-1)).y)*((nth c i).x-(nth c (i-1)).x)≤4611686018427387904
theorem m6{c:List Pt}(h:gT c=0):Cv c:=by
 unfold gT at h;split at h
 ·cases h
 ·split at h
  ·cases h
  ·have hz:∀i,i<c.length→iQ c i=0:=fun i hi=>sj h i (by omega) (by omega)
   refine⟨by omega,by omega,fun i hi=>(Nf (hz i hi)).1,fun i hi=>(Nf (hz i hi)).2,fun i h0 hi=>(TX (hz i hi) h0).1,fun i h0 hi=>(TX (hz i hi) h0).2.1,fun i h0 hi=>?_⟩
   obtain⟨h1,h2,h3⟩:=TX (hz i hi) h0;generalize Ng:(nth c i).x-(nth c (i-1)).x=dx at *;generalize Nh:(nth c i).y-(nth c (i-1)).y=dy at *;have h4:(4611686018427387904:Int).tdiv dx*dx≤4611686018427387904:=by
    have:=Int.mul_tdiv_add_tmod 4611686018427387904 dx;rw[KI]at this;have:=O7 (a:=4611686018427387904) dx (by omega)
    omega
   exact Bb (CJ h3 (by omega)) h4
theorem Cv.lt{c:List Pt}(h:Cv c):∀{i j:Nat},i<j→j<c.length→(nth c i).x<(nth c j).x:=by
 intro i j TY hj;induction j with
 |zero=>omega
 |succ j ih =>
  have:=h.up (j+1) (by omega) hj
  simp at this;rcases cM i j with h1|h1
  ·have:=ih h1 (by omega);omega
  ·obtain rfl:i=j:=by omega
   exact this
theorem Cv.le{c:List Pt}(h:Cv c):∀{i j:Nat},i≤j→j<c.length→(nth c i).y≤(nth c j).y:=by
 intro i j TY hj;induction j with
 |zero=>obtain rfl:i=0:=by omega
        omega
 |succ j ih =>
  have:=h.mono (j+1) (by omega) hj
  simp at this;rcases cM j i with h1|h1
  ·obtain rfl:i=j+1:=by omega
   omega
  ·have:=ih h1 (by omega);omega
theorem Jv{c:List Pt}(h:Cv c){i:Nat}{x:Int}(h0:0<i)(hi:i<c.length)(h1:(nth c (i-1)).x≤x)(h2:x≤(nth c i).x) :
  0≤((nth c i).y-(nth c (i-1)).y)*(x-(nth c (i-1)).x)∧((nth c i).y-(nth c (i-1)).y)*(x-(nth c (i-1)).x)≤4611686018427387904 ∧
  0≤(((nth c i).y-(nth c (i-1)).y)*(x-(nth c (i-1)).x)).tdiv ((nth c i).x-(nth c (i-1)).x) ∧
  (((nth c i).y-(nth c (i-1)).y)*(x-(nth c (i-1)).x)).tdiv ((nth c i).x-(nth c (i-1)).x)≤(nth c i).y-(nth c (i-1)).y:=by
 have h3:=h.up i h0 hi;have h4:=h.mono i h0 hi;have h5:=h.prod i h0 hi;generalize Ng:(nth c i).x-(nth c (i-1)).x=dx at *;generalize Nh:(nth c i).y-(nth c (i-1)).y=dy at *;generalize ht:x-(nth c (i-1)).x=t at *;have h6:0≤dy*t:=CK (by omega) (by omega)
 have h7:dy*t≤dy*dx:=KJ (by omega) (by omega)
 refine⟨h6,by omega,zG h6 (by omega),?_⟩
 have h8:=Int.tdiv_le_tdiv (a:=dy*t) (b:=dy*dx) (c:=dx) (by omega) h7
 rwa [KK _ (by omega)]at h8
theorem Jw{c:List Pt}{x:Int}{n:Nat}:∀{k i:Nat},i≤k→k≤n→(∀j,i≤j→j<k→(nth c j).x<x)→xC c x (n-i) i=xC c x (n-k) k:=by
 intro k;induction k with
 |zero=>intro i h1 _ _;obtain rfl:i=0:=by omega
        rfl
 |succ k ih =>
  intro i h1 h2 h3;rcases cM k i with h|h
  ·obtain rfl:i=k+1:=by omega
   rfl
  ·rw[ih h (by omega) (fun j a b=>h3 j a (by omega))]
   obtain⟨m,hm⟩:∃m,n-k=m+1:=⟨n-k-1,by omega⟩
   have:=h3 k h (by omega)
   rw[hm,xC,av (by omega),show n-(k+1)=m by omega]
theorem Jx{c:List Pt}{x:Int}{n i:Nat}(hi:i<n)(h:x≤(nth c i).x):xC c x (n-i) i=if i=0 then (nth c i).y else qp c i x:=by
 obtain⟨m,hm⟩:∃m,n-i=m+1:=⟨n-i-1,by omega⟩
 rw[hm,xC,aK h]
theorem DZ{c:List Pt}{x:Int}(h:Cv c)(h1:x≤(nth c 0).x):iR c x=(nth c 0).y:=by
 have:=Jx (c:=c) (x:=x) (n:=c.length) h.pos h1;simpa [iR] using this
theorem yN{c:List Pt}{x:Int}{i:Nat}(h:Cv c)(h0:0<i)(hi:i<c.length)(h1:(nth c (i-1)).x≤x)(h2:x≤(nth c i).x):iR c x=qp c i x:=by
 have up:=h.up i h0 hi;by_cases hx:(nth c (i-1)).x<x
 ·have:=Jw (c:=c) (x:=x) (n:=c.length) (i:=0) (k:=i) (by omega) (by omega) (fun j _ hj=>by
   rcases cM j (i-1) with h3|h3
   ·have:=h.lt h3 (by omega);omega
   ·obtain rfl:j=i-1:=by omega
    exact hx)
  rw[Jx hi h2,av (by omega)]at this
  simpa [iR] using this
 ·have hx:x=(nth c (i-1)).x:=by omega
  subst hx;have:=Jw (c:=c) (x:=(nth c (i-1)).x) (n:=c.length) (i:=0) (k:=i-1) (by omega) (by omega) (fun j _ hj=>h.lt (by omega) (by omega))
  rw[Jx (n:=c.length) (i:=i-1) (by omega) (by omega)]at this
  have e:qp c i (nth c (i-1)).x=(nth c (i-1)).y:=by simp[qp]
  rw[e];simp only[xY]at this;rw[iR,this];split
  ·rfl
  ·rename_i h3
   have h4:=h.up (i-1) (by omega) (by omega)
   rw[qp,KK _ (by omega)]
   omega
theorem Ni{c:List Pt}{x:Int}(h:Cv c)(h1:(nth c (c.length-1)).x≤x):iR c x=(nth c (c.length-1)).y:=by
 have hp:=h.pos;rcases cM 1 c.length with h2|h2
 ·by_cases hx:(nth c (c.length-1)).x<x
  ·have:=Jw (c:=c) (x:=x) (n:=c.length) (i:=0) (k:=c.length) (by omega) (by omega) (fun j _ hj=>by
    rcases cM j (c.length-1) with h3|h3
    ·have:=h.lt h3 (by omega);omega
    ·obtain rfl:j=c.length-1:=by omega
     exact hx)
   simp only[xY,qd]at this;rw[iR,this,xC]
  ·obtain rfl:x=(nth c (c.length-1)).x:=by omega
   have hu:=h.up (c.length-1) (by omega) (by omega)
   rw[yN h (i:=c.length-1) (by omega) (by omega) (by omega) (by omega),qp,KK _ (by omega)]
   omega
 ·by_cases hx:x≤(nth c 0).x
  ·rw[DZ h hx,show c.length-1=0 by omega]
  ·have:=Jw (c:=c) (x:=x) (n:=c.length) (i:=0) (k:=c.length) (by omega) (by omega) (fun j _ hj=>by
    obtain rfl:j=0:=by omega
    omega)
   simp only[xY,qd]at this;rw[iR,this,xC]
theorem TZ{c:List Pt}(h:Cv c)(x:Int):x≤(nth c 0).x∨(∃i,0<i∧i<c.length∧(nth c (i-1)).x≤x∧x≤(nth c i).x)∨(nth c (c.length-1)).x≤x:=by
 have hp:=h.pos;by_cases h1:x≤(nth c 0).x
 ·exact .inl h1
 ·have:∀k,k<c.length→(∃i,0<i∧i≤k∧(nth c (i-1)).x≤x∧x≤(nth c i).x)∨(nth c k).x≤x:=by
   intro k;induction k with
   |zero=>intro _;right;omega
   |succ k ih =>
    intro hk;rcases ih (by omega) with⟨i,a,b,d,e⟩ | h2
    ·exact .inl ⟨i,a,by omega,d,e⟩
    ·by_cases h3:x≤(nth c (k+1)).x
     ·exact .inl ⟨k+1,by omega,by omega,h2,h3⟩
     ·right;omega
  rcases this (c.length-1) (by omega) with⟨i,a,b,d,e⟩ | h2
  ·exact .inr (.inl ⟨i,a,by omega,d,e⟩)
  ·exact .inr (.inr h2)
theorem F9{c:List Pt}(h:Cv c)(x:Int):(nth c 0).y≤iR c x∧iR c x≤(nth c (c.length-1)).y:=by
 have hp:=h.pos;have h0:=h.le (i:=0) (j:=c.length-1) (by omega) (by omega)
 rcases TZ h x with h1 | ⟨i,a,b,d,e⟩ | h1
 ·rw[DZ h h1];omega
 ·rw[yN h a b d e]
  have h2:=Jv h a b d e;have h3:=h.le (i:=0) (j:=i-1) (by omega) (by omega)
  have h4:=h.le (i:=i) (j:=c.length-1) (by omega) (by omega)
  unfold qp;omega
 ·rw[Ni h h1];omega
theorem Jy{c:List Pt}(h:Cv c)(x:Int)(G:List aP):aX F 157 [jg c,i64 x] G=some (i64 (iR c x),G) :=
 bL rfl rfl (by
  have hp:=h.pos;have hf:=h.jI;generalize hW:iR c x=W;simp +contextual (disch:=omega) [-getElem?_pos,wrap64,ac4];refine go_loop (fun i:Nat=>aq2 (jg c) x (jg c) c.length i G) (fun i=>i≤c.length∧xC c x (c.length-i) i=W∧(0<i→(nth c (i-1)).x<x)) (fun i=>c.length-i) 0 rfl (by simp) ⟨by omega,hW,by omega⟩ ?_
  rintro i ⟨hi,hq,hl⟩;simp +contextual (disch:=omega) [-getElem?_pos,wrap64,ac3];refine bB (fun h1=>?_) (fun h1=>?_)
  ·have h1:i<c.length:=by omega
   simp +contextual (disch:=omega) [-getElem?_pos,wrap64,aY (l:=c)];refine ic (fun h2=>?_) (fun h2=>bB (fun h3=>?_) (fun h3=>?_))
   ·simp[-List.length_eq_zero_iff,-Int.natCast_eq_zero]at h2
    obtain rfl:i=0:=by omega
    rw[Jx h1 h2.1,aK rfl]at hq;exact hq
   ·simp[-List.length_eq_zero_iff,-Int.natCast_eq_zero]at h2
    have h4:0<i:=by omega
    have h5:1≤(i:Int):=by omega
    have h6:i-1<c.length:=by omega
    have h9:=hl h4;have h7:=Jv h h4 h1 (by omega) h3
    have h8:=h.up i h4 h1;have gf:=h.x0 i h1;have kR:=h.x0 (i-1) h6;have uM:=h.y0 i h1;have h13:=h.y0 (i-1) h6;have T3:(nth c i).x-(nth c (i-1)).x≠0:=by omega
    rw[Jx h1 h3,av (by omega),qp]at hq
    simp +contextual (disch:=omega) [-getElem?_pos,wrap64,aY (l:=c),h5,T3];exact hq
   ·simp[-List.length_eq_zero_iff,-Int.natCast_eq_zero]at h2
    have:=Jw (c:=c) (x:=x) (n:=c.length) (i:=i) (k:=i+1) (by omega) (by omega) (fun j a b=>by
     obtain rfl:j=i:=by omega
     omega)
    rw[this]at hq;exact bu (i+1) (by simp) ⟨by omega,hq,fun _=>by simp;omega⟩ (by omega)
  ·obtain rfl:i=c.length:=by omega
   have h2:((c.length:Int)-1).toNat=c.length-1:=by omega
   rw[qd,xC]at hq;simp +contextual (disch:=omega) [-getElem?_pos,wrap64,aY (l:=c),h2];exact hq)
theorem aev{c:List Pt}(h:Cv c)(x:Int)(G:List aP):aX F 178 [jg c,i64 x] G=some (i64 (iR c x),G) :=
 bL rfl rfl (by
  have hp:=h.pos;have hf:=h.jI;generalize hW:iR c x=W;simp (disch:=omega) [-getElem?_pos,wrap64,adx,aY (l:=c)];refine bB (fun h1=>?_) (fun h1=>?_)
  ·rw[DZ h h1]at hW
   exact hW
  ·refine go_loop (fun i:Nat=>ary (jg c) x (i+1) G) (fun i=>i+1≤c.length∧(nth c i).x≤x) (fun i=>c.length-i) 0 rfl (by simp) ⟨by omega,by omega⟩ ?_
   rintro i ⟨hi,hl⟩;simp (disch:=omega) [-getElem?_pos,wrap64,adw];refine bB (fun h2=>?_) (fun h2=>?_)
   ·have h2:i+1<c.length:=by omega
    have h3:((i:Int)+1).toNat=i+1:=by omega
    simp (disch:=omega) [-getElem?_pos,wrap64,aY (l:=c),h3];refine bB (fun h4=>?_) (fun h4=>?_)
    ·have h7:=Jv h (i:=i+1) (x:=x) (by omega) h2 (by simpa using hl) (by omega)
     have h8:=h.up (i+1) (by omega) h2
     have gf:=h.x0 (i+1) h2;have kR:=h.x0 i (by omega)
     have uM:=h.y0 (i+1) h2;have h13:=h.y0 i (by omega)
     rw[yN h (i:=i+1) (by omega) h2 (by simpa using hl) (by omega),qp]at hW
     simp only[sI]at h7 h8 hW;have T3:(nth c (i+1)).x-(nth c i).x≠0:=by omega
     simp (disch:=omega) [-getElem?_pos,wrap64,aY (l:=c),T3];exact hW
    ·exact bu (i+1) (by simp) ⟨by omega,by omega⟩ (by omega)
   ·obtain rfl:c.length-1=i:=by omega
    have h3:((c.length:Int)-1).toNat=c.length-1:=by omega
    rw[Ni h hl]at hW;simp (disch:=omega) [-getElem?_pos,wrap64,aY (l:=c),h3];exact hW)
theorem T4(c:List Pt)(x:Int)(G:List aP):aX F 148 [jg c,i64 x] G=some (.tuple [i64 (if gT c=0 then iR c x else 0),i64 (gT c)],G) :=
 bL rfl rfl (by
  by_cases h:gT c=0
  ·simp[wrap64,Tu,mZ,h,aev (m6 h)]
  ·simp[wrap64,Tu,mZ,h])
structure Rs where
 c:List Pt
 d:Int
 l:Int
 f:Int
 s:Int
 t:Int
abbrev Rs.cells(r:Rs):List V:=[jg r.c,i64 r.d,i64 r.l,i64 r.f,i64 r.s,i64 r.t]
def tU(c:List Pt)(i:Nat):Int:=if (nth c i).y≤(nth c (i-1)).y then 4 else 0
def tV(r:Rs):List Int:=[(nth r.c 0).x,r.d,r.l,r.f,r.s,r.t,(nth r.c (r.c.length-1)).x]
def qZ(l:List Int)(i:Nat):Int:=if nth l i<nth l (i-1) then 4 else 0
def iS(r:Rs):Int :=
 if gT r.c≠0 then gT r.c else if r.c.length<2 then 3 else if 16777216<(nth r.c (r.c.length-1)).x then 1
 else if du (tU r.c) (r.c.length-1) 1=0 then du (qZ (tV r)) (7-1) 1 else 4
theorem aew{c:List Pt}(h:gT c=0):c.length≤100:=by
 unfold gT at h;split at h
 ·cases h
 ·split at h
  ·cases h
  ·omega
theorem Gb(r:Rs)(G:List aP):aX F 161 [.agg r.cells] G=some (i64 (iS r),G) :=
 bL rfl rfl (by
  generalize hW:iS r=W;unfold iS at hW;simp (disch:=omega) [-getElem?_pos,wrap64,ada,o0];refine ic (fun h=>?_) (fun h=>?_)
  ·simp[-List.length_eq_zero_iff,-Int.natCast_eq_zero]at h
   rw[aK (by omega)]at hW
   exact hW
  ·simp[-List.length_eq_zero_iff,-Int.natCast_eq_zero]at h
   rw[av (by omega)]at hW
   refine bB (fun h2=>?_) (fun h2=>?_)
   ·rw[aK (by omega)]at hW
    simpa using hW
   ·rw[av (by omega)]at hW
    have h3:((r.c.length:Int)-1).toNat=r.c.length-1:=by omega
    have h4:r.c.length-1<r.c.length:=by omega
    have h5:0≤(r.c.length:Int)-1:=by omega
    have hl:=aew h;simp (disch:=omega) [-getElem?_pos,wrap64,aY (l:=r.c),h3,h4,h5];refine bB (fun h6=>?_) (fun h6=>?_)
    ·rw[aK (by omega)]at hW
     simpa using hW
    ·rw[av (by omega)]at hW
     have hq:(if du (tU r.c) (r.c.length-1) 1=0 then du (qZ (tV r)) (7-1) 1 else (4:Int))=W:=hW
     clear hW
     refine go_loop (fun i:Nat=>aq6 r.c.length i r.cells G) (fun i=>1≤i∧i≤r.c.length∧(if du (tU r.c) (r.c.length-i) i=0 then du (qZ (tV r)) (7-1) 1 else (4:Int))=W) (fun i=>r.c.length-i) 1 rfl (by simp) ⟨by omega,by omega,hq⟩ ?_
     rintro i ⟨T5,hi,hq⟩;simp (disch:=omega) [-getElem?_pos,wrap64,ac8];refine bB (fun h7=>?_) (fun h7=>?_)
     ·have h7:i<r.c.length:=by omega
      rw[jq h7]at hq;have h8:((i:Int)-1).toNat=i-1:=by omega
      have h9:i-1<r.c.length:=by omega
      have gf:0≤(i:Int)-1:=by omega
      simp (disch:=omega) [-getElem?_pos,wrap64,aY (l:=r.c),h8,h9,gf,h7];refine bB (fun kR=>?_) (fun kR=>?_)
      ·have e:tU r.c i=4:=by rw[tU,aK kR]
       rw[e]at hq;simpa using hq
      ·have e:tU r.c i=0:=by rw[tU,av kR]
       rw[e,aK rfl]at hq;exact bu (i+1) (by simp) ⟨by omega,by omega,hq⟩ (by omega)
     ·have h7:i=r.c.length:=by omega
      subst h7;rw[lC]at hq;rw[aK rfl]at hq;simp (disch:=omega) [-getElem?_pos,wrap64,aY (l:=r.c),h3,h4,h5];have hL:(tV r).length=7:=rfl;have hO:[V.int IntKind.i64 (nth r.c 0).x,V.int IntKind.i64 r.d,V.int IntKind.i64 r.l,V.int IntKind.i64 r.f,V.int IntKind.i64 r.s,V.int IntKind.i64 r.t,V.int IntKind.i64 (nth r.c (r.c.length-1)).x]=(tV r).map (V.int .i64):=rfl;rw[hO];generalize tV r=L at hq hL ⊢;refine go_loop (fun i:Nat=>aq8 i (L.map (V.int .i64)) G) (fun i=>1≤i∧i≤7∧du (qZ L) (7-i) i=W) (fun i=>7-i) 1 rfl (by simp) ⟨by omega,by omega,hq⟩ ?_
      rintro j ⟨pN,hj,hq⟩;simp (disch:=omega) [-getElem?_pos,wrap64,ac9];refine bB (fun h7=>?_) (fun h7=>?_)
      ·have h7:j<7:=by omega
       rw[jq h7]at hq;have h8:((j:Int)-1).toNat=j-1:=by omega
       have h9:j-1<L.length:=by omega
       have gf:0≤(j:Int)-1:=by omega
       have kR:j<L.length:=by omega
       simp (disch:=omega) [-getElem?_pos,wrap64,aY (l:=L),h8,h9,gf,h7,kR,hL];refine bB (fun uM=>?_) (fun uM=>?_)
       ·have e:qZ L j=4:=by rw[qZ,aK uM]
        rw[e]at hq;simpa using hq
       ·have e:qZ L j=0:=by rw[qZ,av uM]
        rw[e,aK rfl]at hq;exact bu (j+1) (by simp) ⟨by omega,by omega,hq⟩ (by omega)
      ·have h7:j=7:=by omega
       subst h7;simpa [du] using hq)
theorem tj{r:Rs}(h:iS r=0):gT r.c=0:=by
 unfold iS at h;split at h
 ·rename_i h1;exact h
 ·rename_i h1;exact iu h1
theorem aex{c:List Pt}(h:Cv c):∀{m i:Nat},i+m<c.length→(nth c i).x≤(nth c (i+m)).x
 |0,i,_=>by simp
 |m+1,i,hi=>by
  have h1:=aex h (m:=m) (i:=i) (by omega)
  have h2:=h.up (i+m+1) (by omega) (by omega)
  have h3:i+m+1-1=i+m:=by omega
  rw[h3]at h2;have h4:i+(m+1)=i+m+1:=by omega
  rw[h4];omega
theorem B7(r:Rs)(G:List aP):aX F 139 [.agg r.cells] G=some (i64 (iS r),G) :=
 bL rfl rfl (by
  generalize hW:iS r=W;unfold iS at hW;by_cases h:gT r.c=0
  ·rw[av (by omega)]at hW
   have hl:=aew h;simp (disch:=omega) [-getElem?_pos,wrap64,Tp,mZ,h];refine bB (fun h2=>?_) (fun h2=>?_)
   ·rw[aK (by omega)]at hW
    simpa using hW
   ·rw[av (by omega)]at hW
    have h3:((r.c.length:Int)-1).toNat=r.c.length-1:=by omega
    have h4:r.c.length-1<r.c.length:=by omega
    have h5:0≤(r.c.length:Int)-1:=by omega
    refine go_loop (fun i:Nat=>aqz r.c.length (jg r.c) r.c.length i r.cells G) (fun i=>i≤r.c.length∧∀j,j<i→(nth r.c j).x≤16777216) (fun i=>r.c.length-i) 0 rfl (by simp) ⟨by omega,by omega⟩ ?_
    rintro i ⟨hi,hz⟩;simp (disch:=omega) [-getElem?_pos,wrap64,acH];refine bB (fun h6=>?_) (fun h6=>?_)
    ·have h6:i<r.c.length:=by omega
     simp (disch:=omega) [-getElem?_pos,wrap64,aY (l:=r.c),h6];refine bB (fun h7=>?_) (fun h7=>?_)
     ·have h8:=aex (m6 h) (m:=r.c.length-1-i) (i:=i) (by omega)
      rw[show i+(r.c.length-1-i)=r.c.length-1 by omega]at h8
      rw[aK (by omega)]at hW
      simpa using hW
     ·exact bu (i+1) (by simp) ⟨by omega,fun j hj=>by rcases cM j i with h|h;exact hz j h;rw[show j=i by omega];omega⟩ (by omega)
    ·have h6:i=r.c.length:=by omega
     subst h6;have h8:=hz (r.c.length-1) (by omega)
     rw[av (by omega)]at hW
     have hq:(if du (tU r.c) (r.c.length-1) 1=0 then du (qZ (tV r)) (7-1) 1 else (4:Int))=W:=hW
     clear hW
     refine go_loop (fun i:Nat=>aqB r.c.length i r.cells G) (fun i=>1≤i∧i≤r.c.length∧(if du (tU r.c) (r.c.length-i) i=0 then du (qZ (tV r)) (7-1) 1 else (4:Int))=W) (fun i=>r.c.length-i) 1 rfl (by simp) ⟨by omega,by omega,hq⟩ ?_
     rintro i ⟨T5,hi,hq⟩;simp (disch:=omega) [-getElem?_pos,wrap64,acI];refine bB (fun h7=>?_) (fun h7=>?_)
     ·have h7:i<r.c.length:=by omega
      rw[jq h7]at hq;have h8:((i:Int)-1).toNat=i-1:=by omega
      have h9:i-1<r.c.length:=by omega
      have gf:0≤(i:Int)-1:=by omega
      simp (disch:=omega) [-getElem?_pos,wrap64,aY (l:=r.c),h8,h9,gf,h7];refine bB (fun kR=>?_) (fun kR=>?_)
      ·have e:tU r.c i=4:=by rw[tU,aK kR]
       rw[e]at hq;simpa using hq
      ·have e:tU r.c i=0:=by rw[tU,av kR]
       rw[e,aK rfl]at hq;exact bu (i+1) (by simp) ⟨by omega,by omega,hq⟩ (by omega)
     ·have h7:i=r.c.length:=by omega
      subst h7;rw[lC]at hq;rw[aK rfl]at hq;simp (disch:=omega) [-getElem?_pos,wrap64,aY (l:=r.c),h3,h4,h5];have hL:(tV r).length=7:=rfl;have hO:[[V.int IntKind.i64 (nth r.c 0).x],[V.int IntKind.i64 r.d],[V.int IntKind.i64 r.l],[V.int IntKind.i64 r.f],[V.int IntKind.i64 r.s],[V.int IntKind.i64 r.t],[V.int IntKind.i64 (nth r.c (r.c.length-1)).x]]=(tV r).map (fun n=>[V.int .i64 n]):=rfl;rw[hO];generalize tV r=L at hq hL ⊢;refine go_loop (fun i:Nat=>aqD (.slice none 1 (L.map (fun n=>[V.int .i64 n]))) i G) (fun i=>1≤i∧i≤7∧du (qZ L) (7-i) i=W) (fun i=>7-i) 1 rfl (by simp) ⟨by omega,by omega,hq⟩ ?_
      rintro j ⟨pN,hj,hq⟩;simp (disch:=omega) [-getElem?_pos,wrap64,acJ,hL];refine bB (fun h7=>?_) (fun h7=>?_)
      ·have h7:j<7:=by omega
       rw[jq h7]at hq;have h8:((j:Int)-1).toNat=j-1:=by omega
       have h9:j-1<L.length:=by omega
       have gf:0≤(j:Int)-1:=by omega
       have kR:j<L.length:=by omega
       simp (disch:=omega) [-getElem?_pos,wrap64,aY (l:=L),h8,h9,gf,h7,kR,hL];refine bB (fun uM=>?_) (fun uM=>?_)
       ·have e:qZ L j=4:=by rw[qZ,aK uM]
        rw[e]at hq;simpa using hq
       ·have e:qZ L j=0:=by rw[qZ,av uM]
        rw[e,aK rfl]at hq;exact bu (j+1) (by simp) ⟨by omega,by omega,hq⟩ (by omega)
      ·have h7:j=7:=by omega
       subst h7;simpa [du] using hq
  ·rw[aK h]at hW
   simp (disch:=omega) [-getElem?_pos,wrap64,Tp,mZ,h];exact hW)
def nq(r:Rs)(l:Int):Int:=if iS r≠0 then iS r else if 0≤l∧l≤16777216 then 0 else 1
theorem aey{r:Rs}{l:Int}(h:nq r l=0):iS r=0:=by
 unfold nq at h;split at h
 ·exact h
 ·rename_i h1;exact iu h1
theorem aez(r:Rs)(l:Int)(G:List aP):aX F 147 [.agg r.cells,i64 l] G=some (i64 (nq r l),G) :=
 bL rfl rfl (by
  by_cases h:iS r=0
  ·by_cases h1:0≤l
   ·by_cases h2:l≤16777216
    ·simp[wrap64,Jk,B7,h,h1,h2,dh,nq]
    ·simp[wrap64,Jk,B7,h,h1,h2,dh,nq]
   ·simp[wrap64,Jk,B7,h,h1,dh,nq]
  ·simp[wrap64,Jk,B7,h,nq])
theorem Jz(r:Rs)(l:Int)(G:List aP):aX F 97 [.agg r.cells,i64 l] G=some (.tuple [i64 (if nq r l=0 then iR r.c l else 0),i64 (nq r l)],G) :=
 bL rfl rfl (by
  by_cases h:nq r l=0
  ·simp[wrap64,S8,aez,h,T4,tj (aey h)]
  ·simp[wrap64,S8,aez,h])
def D1(c:List Pt)(y:Int)(i:Nat):Int :=
 (nth c i).x+((y-(nth c i).y+1)*((nth c (i+1)).x-(nth c i).x)-1).tdiv ((nth c (i+1)).y-(nth c i).y)
def tl(c:List Pt)(y:Int):Nat→Nat→Int
 |0,_=>(nth c (c.length-1)).x
 |m+1,i=>if y<(nth c (i+1)).y then D1 c y i else tl c y m (i+1)
def yO(c:List Pt)(y:Int):Int:=tl c y (c.length-1) 0
theorem asO{c:List Pt}{y:Int}{i n:Nat}(h:i<n):tl c y (n-i) i=if y<(nth c (i+1)).y then D1 c y i else tl c y (n-(i+1)) (i+1):=by
 obtain⟨m,hm⟩:∃m,n-i=m+1:=⟨n-i-1,by omega⟩
 rw[hm,tl,show n-(i+1)=m by omega]
theorem aeA{c:List Pt}(h:gT c=0)(y:Int)(G:List aP) :
  aX F 201 [jg c,i64 y] G=some (.tuple [i64 (if y<(nth c 0).y then 0 else yO c y),.bool (decide ((nth c 0).y≤y)),i64 0],G) :=
 bL rfl rfl (by
  have hc:=m6 h;have hp:=hc.pos;have hl:=hc.jI;simp (disch:=omega) [-getElem?_pos,wrap64,adV,o0,h,aY (l:=c),hp];refine bB (fun h1=>⟨fun h2=>absurd h1 (by omega),h1⟩) (fun h1=>?_)
  have hT:(List.take c.length (List.map Pt.row c)).tail=c.tail.map Pt.row:=by
   rw[lZ (by simp),List.map_tail]
  have hTl:c.tail.length=c.length-1:=by simp
  have hTn:∀i,nth c.tail i=nth c (i+1):=fun i=>by simp[nth]
  rw[hT];generalize c.tail=T at hTl hTn ⊢;refine go_loop (fun i:Nat=>arY (jg c) y (.slice none 2 (T.map Pt.row)) ((c.length-1:Nat):Int) i G) (fun i=>i≤c.length-1∧tl c y (c.length-1-i) i=yO c y∧(nth c i).y≤y) (fun i=>c.length-1-i) 0 rfl (by simp) ⟨by omega,rfl,by omega⟩ ?_
  rintro i ⟨hi,hq,hy⟩;simp (disch:=omega) [-getElem?_pos,wrap64,adU];refine bB (fun h2=>?_) (fun h2=>?_)
  ·have h2:i<c.length-1:=by omega
   rw[asO h2]at hq;have h3:i<T.length:=by omega
   have h4:i<c.length:=by omega
   simp (disch:=omega) [-getElem?_pos,wrap64,aY (l:=T),aY (l:=c),h3,h4,hTn];refine bB (fun h5=>?_) (fun h5=>?_)
   ·rw[aK h5]at hq
    have y1:=hc.y0 i h4;have y2:=hc.y0 (i+1) (by omega)
    have x1:=hc.x0 i h4;have x2:=hc.x0 (i+1) (by omega)
    have u1:=hc.up (i+1) (by omega) (by omega)
    have u2:=hc.prod (i+1) (by omega) (by omega)
    simp only[sI]at u1 u2;have a1:(y-(nth c i).y+1)*((nth c (i+1)).x-(nth c i).x)≤((nth c (i+1)).y-(nth c i).y)*((nth c (i+1)).x-(nth c i).x):=CJ (by omega) (by omega)
    have a2:0<(y-(nth c i).y+1)*((nth c (i+1)).x-(nth c i).x):=O4 (by omega) (by omega)
    have b1:0≤((y-(nth c i).y+1)*((nth c (i+1)).x-(nth c i).x)-1).tdiv ((nth c (i+1)).y-(nth c i).y):=zG (by omega) (by omega)
    have b2:((y-(nth c i).y+1)*((nth c (i+1)).x-(nth c i).x)-1).tdiv ((nth c (i+1)).y-(nth c i).y)≤(y-(nth c i).y+1)*((nth c (i+1)).x-(nth c i).x)-1:=CL _ (by omega)
    have d0:¬ (nth c (i+1)).y-(nth c i).y=0:=by omega
    have e0:¬ y<(nth c 0).y:=h1;have e1:(nth c 0).y≤y:=by omega
    simp (disch:=omega) [-getElem?_pos,wrap64,wrap64,d0,e0,e1];rw[←hq];rfl
   ·rw[av h5]at hq
    exact bu (i+1) (by simp) ⟨by omega,hq,by omega⟩ (by omega)
  ·have h2:i=c.length-1:=by omega
   subst h2;have h4:c.length-1<c.length:=by omega
   have h5:((c.length:Int)-1).toNat=c.length-1:=by omega
   have e0:¬ y<(nth c 0).y:=h1;have e1:(nth c 0).y≤y:=by omega
   rw[qd]at hq;simp (disch:=omega) [-getElem?_pos,wrap64,aY (l:=c),h4,h5,e0,e1];rw[←hq];rfl)
def kI(r:Rs)(v:Int):Int:=if v<(nth r.c 0).y then (nth r.c 0).x else yO r.c v
theorem asQ{r:Rs}(h:iS r=0)(v:Int)(G:List aP):aX F 191 [.agg r.cells,i64 v] G=some (i64 (kI r v),G) :=
 bL rfl rfl (by
  have hp:=(m6 (tj h)).pos;by_cases h1:v<(nth r.c 0).y
  ·have h2:¬ (nth r.c 0).y≤v:=by omega
   simp[-getElem?_pos,wrap64,TG,aeA (tj h),h1,h2,aY (l:=r.c),hp,kI]
  ·have h2:(nth r.c 0).y≤v:=by omega
   simp[-getElem?_pos,wrap64,TG,aeA (tj h),h1,h2,aY (l:=r.c),hp,kI])
structure Bd where
 lo:Int
 hi:Int
 deriving Inhabited,DecidableEq
abbrev Bd.row(b:Bd):List V:=[i64 b.lo,i64 b.hi]
abbrev D2(l:List Bd):V:=.slice none 2 (l.map Bd.row)
structure Un where
 table:List Pt
 least:Int
 dC:Int
 gx:List Bd
 up:Int
 down:Int
 deriving Inhabited,DecidableEq
abbrev Un.row(u:Un):List V:=[jg u.table,i64 u.least,i64 u.dC,D2 u.gx,i64 u.up,i64 u.down]
abbrev un(u:Un):V:=.agg u.row
def mh(z:List Bd)(i:Nat):Int :=
 if ¬((0≤(nth z i).lo∧(nth z i).lo≤1073741824)∧0≤(nth z i).hi∧(nth z i).hi≤1073741824) then 1 else if (nth z i).hi≤(nth z i).lo then 4 else 0
def iG(u:Un):Int :=
 if gT u.table≠0 then gT u.table
 else if 1073741824<(nth u.table (u.table.length-1)).y then 1
 else if u.least<1∨u.dC<u.least∨1073741824<u.dC then 1
 else if 10<u.gx.length then 10
 else if du (mh u.gx) u.gx.length 0≠0 then du (mh u.gx) u.gx.length 0
 else if ¬((0≤u.up∧u.up≤1000)∧0≤u.down∧u.down≤1000) then 1 else 0
theorem u7{c:List Pt}(h:gT c=0):0<c.length:=(m6 h).pos
theorem tW(u:Un)(G:List aP):aX F 162 [un u] G=some (i64 (iG u),G) :=
 bL rfl rfl (by
  obtain⟨c,least,dC,z,up,down⟩:=u;generalize hW:iG ⟨c,least,dC,z,up,down⟩=W;unfold iG at hW;simp only at hW;by_cases hc:gT c=0
  ·have hp:=u7 hc
   have hf:=(m6 hc).jI;have h2:((c.length:Int)-1).toNat=c.length-1:=by omega
   rw[av (by simpa using hc)]at hW
   simp +contextual (disch:=omega) [-getElem?_pos,wrap64,Tx,o0,hc,aY (l:=c),h2];refine bB (fun h3=>?_) (fun h3=>?_)
   ·rw[aK (by omega)]at hW
    exact hW
   refine ic (fun h4=>?_) (fun h4=>?_)
   ·simp[-List.length_eq_zero_iff,-Int.natCast_eq_zero]at h4
    rw[av (by omega),aK (by omega)]at hW
    exact hW
   simp[-List.length_eq_zero_iff,-Int.natCast_eq_zero]at h4;rw[av (by omega),av (by omega)]at hW
   refine bB (fun h5=>?_) (fun h5=>?_)
   ·rw[aK (by omega)]at hW
    exact hW
   rw[av (by omega)]at hW
   refine go_loop (fun i:Nat=>ara (D2 z) z.length i [jg c,i64 least,i64 dC,D2 z,i64 up,i64 down] G) (fun i=>i≤z.length∧du (mh z) (z.length-i) i=du (mh z) z.length 0) (fun i=>z.length-i) 0 rfl (by simp) ⟨by omega,rfl⟩ ?_
   rintro i ⟨hi,hq⟩;simp +contextual (disch:=omega) [-getElem?_pos,wrap64,adb];refine bB (fun h1=>?_) (fun h1=>?_)
   ·have h1:i<z.length:=by omega
    rw[jq h1]at hq;simp +contextual (disch:=omega) [-getElem?_pos,wrap64,aY (l:=z),dM];refine ic (fun h6=>?_) (fun h6=>?_)
    ·simp +contextual (disch:=omega) [-getElem?_pos,wrap64,h6,dM]
     simp[-List.length_eq_zero_iff,-Int.natCast_eq_zero]at h6;rw[show mh z i=1 by rw[mh,aK (by omega)],av (by decide)]at hq
     rw[←hq,aK (by decide)]at hW
     exact hW
    ·simp +contextual (disch:=omega) [-getElem?_pos,wrap64,h6,dM]
     simp[-List.length_eq_zero_iff,-Int.natCast_eq_zero]at h6;refine ic (fun h7=>?_) (fun h7=>bB (fun h8=>?_) (fun h8=>?_))
     ·simp[-List.length_eq_zero_iff,-Int.natCast_eq_zero]at h7
      rw[show mh z i=1 by rw[mh,aK (by omega)],av (by decide)]at hq
      rw[←hq,aK (by decide)]at hW
      exact hW
     ·simp[-List.length_eq_zero_iff,-Int.natCast_eq_zero]at h7
      rw[show mh z i=4 by rw[mh,av (by omega),aK (by omega)],av (by decide)]at hq
      rw[←hq,aK (by decide)]at hW
      exact hW
     ·simp[-List.length_eq_zero_iff,-Int.natCast_eq_zero]at h7
      rw[show mh z i=0 by rw[mh,av (by omega),av (by omega)],aK rfl]at hq
      exact bu (i+1) (by simp) ⟨by omega,hq⟩ (by omega)
   ·obtain rfl:i=z.length:=by omega
    rw[lC]at hq;rw[←hq,av (by decide)]at hW
    simp +contextual (disch:=omega) [-getElem?_pos,wrap64,dM];refine ic (fun h6=>?_) (fun h6=>?_)
    ·simp +contextual (disch:=omega) [-getElem?_pos,wrap64,h6,dM]
     simp[-List.length_eq_zero_iff,-Int.natCast_eq_zero]at h6;rw[aK (by omega)]at hW
     exact hW
    ·simp +contextual (disch:=omega) [-getElem?_pos,wrap64,h6,dM]
     simp[-List.length_eq_zero_iff,-Int.natCast_eq_zero]at h6;refine ic (fun h7=>?_) (fun h7=>?_)
     ·simp[-List.length_eq_zero_iff,-Int.natCast_eq_zero]at h7
      rw[aK (by omega)]at hW
      exact hW
     ·simp[-List.length_eq_zero_iff,-Int.natCast_eq_zero]at h7
      rw[av (by omega)]at hW
      exact hW
  ·rw[aK (by simpa using hc)]at hW
   simp +contextual (disch:=omega) [-getElem?_pos,wrap64,Tx,o0,hc];exact hW)
theorem om(u:Un)(G:List aP):aX F 140 [un u] G=some (i64 (iG u),G) :=
 bL rfl rfl (by
  obtain⟨c,least,dC,z,up,down⟩:=u;generalize hW:iG ⟨c,least,dC,z,up,down⟩=W;unfold iG at hW;simp only at hW;by_cases hc:gT c=0
  ·have hp:=u7 hc
   have hf:=(m6 hc).jI;have h2:((c.length:Int)-1).toNat=c.length-1:=by omega
   rw[av (by simpa using hc)]at hW
   simp +contextual (disch:=omega) [-getElem?_pos,wrap64,Tq,mZ,hc,aY (l:=c),h2];refine ic (fun h4=>?_) (fun h4=>?_)
   ·simp[-List.length_eq_zero_iff,-Int.natCast_eq_zero]at h4
    by_cases h3:1073741824<(nth c (c.length-1)).y
    ·rw[aK h3]at hW
     exact hW
    ·rw[av h3,aK (by omega)]at hW
     exact hW
   simp[-List.length_eq_zero_iff,-Int.natCast_eq_zero]at h4;rw[av (by omega),av (by omega)]at hW
   refine bB (fun h5=>?_) (fun h5=>?_)
   ·rw[aK (by omega)]at hW
    exact hW
   rw[av (by omega)]at hW
   refine go_loop (fun i:Nat=>aqF (D2 z) z.length i [jg c,i64 least,i64 dC,D2 z,i64 up,i64 down] G) (fun i=>i≤z.length∧du (mh z) (z.length-i) i=du (mh z) z.length 0) (fun i=>z.length-i) 0 rfl (by simp) ⟨by omega,rfl⟩ ?_
   rintro i ⟨hi,hq⟩;simp +contextual (disch:=omega) [-getElem?_pos,wrap64,acK];refine bB (fun h1=>?_) (fun h1=>?_)
   ·have h1:i<z.length:=by omega
    rw[jq h1]at hq;simp +contextual (disch:=omega) [-getElem?_pos,wrap64,aY (l:=z),dh];refine ic (fun h6=>?_) (fun h6=>?_)
    ·simp +contextual (disch:=omega) [-getElem?_pos,wrap64,h6,dh]
     simp[-List.length_eq_zero_iff,-Int.natCast_eq_zero]at h6;rw[show mh z i=1 by rw[mh,aK (by omega)],av (by decide)]at hq
     rw[←hq,aK (by decide)]at hW
     exact hW
    ·simp +contextual (disch:=omega) [-getElem?_pos,wrap64,h6,dh]
     simp[-List.length_eq_zero_iff,-Int.natCast_eq_zero]at h6;refine ic (fun h7=>?_) (fun h7=>bB (fun h8=>?_) (fun h8=>?_))
     ·simp[-List.length_eq_zero_iff,-Int.natCast_eq_zero]at h7
      rw[show mh z i=1 by rw[mh,aK (by omega)],av (by decide)]at hq
      rw[←hq,aK (by decide)]at hW
      exact hW
     ·simp[-List.length_eq_zero_iff,-Int.natCast_eq_zero]at h7
      rw[show mh z i=4 by rw[mh,av (by omega),aK (by omega)],av (by decide)]at hq
      rw[←hq,aK (by decide)]at hW
      exact hW
     ·simp[-List.length_eq_zero_iff,-Int.natCast_eq_zero]at h7
      rw[show mh z i=0 by rw[mh,av (by omega),av (by omega)],aK rfl]at hq
      exact bu (i+1) (by simp) ⟨by omega,hq⟩ (by omega)
   ·obtain rfl:i=z.length:=by omega
    rw[lC]at hq;rw[←hq,av (by decide)]at hW
    simp +contextual (disch:=omega) [-getElem?_pos,wrap64,dh];refine ic (fun h6=>?_) (fun h6=>?_)
    ·simp +contextual (disch:=omega) [-getElem?_pos,wrap64,h6,dh]
     simp[-List.length_eq_zero_iff,-Int.natCast_eq_zero]at h6;rw[aK (by omega)]at hW
     exact hW
    ·simp +contextual (disch:=omega) [-getElem?_pos,wrap64,h6,dh]
     simp[-List.length_eq_zero_iff,-Int.natCast_eq_zero]at h6;refine ic (fun h7=>?_) (fun h7=>?_)
     ·simp[-List.length_eq_zero_iff,-Int.natCast_eq_zero]at h7
      rw[aK (by omega)]at hW
      exact hW
     ·simp[-List.length_eq_zero_iff,-Int.natCast_eq_zero]at h7
      rw[av (by omega)]at hW
      exact hW
  ·rw[aK (by simpa using hc)]at hW
   simp +contextual (disch:=omega) [-getElem?_pos,wrap64,Tq,mZ,hc];exact hW)
structure Uv(u:Un):Prop where
 cv:Cv u.table
 top:(nth u.table (u.table.length-1)).y≤1073741824
 least:1≤u.least
 dC:u.least≤u.dC
 T6:u.dC≤1073741824
 jI:u.gx.length≤10
 Nj:∀i,i<u.gx.length→(0≤(nth u.gx i).lo∧(nth u.gx i).hi≤1073741824)∧(nth u.gx i).lo<(nth u.gx i).hi
 up:0≤u.up∧u.up≤1000
 down:0≤u.down∧u.down≤1000
 lD:gT u.table=0
theorem rf{u:Un}(h:iG u=0):Uv u:=by
 unfold iG at h;split at h
 ·contradiction
 ·split at h
  ·cases h
  ·split at h
   ·cases h
   ·split at h
    ·cases h
    ·split at h
     ·contradiction
     ·split at h
      ·cases h
      ·rename_i h1 h2 h3 h4 h5 h6
       have h1:gT u.table=0:=iu h1;have h5:du (mh u.gx) u.gx.length 0=0:=iu h5;refine⟨m6 h1,by omega,by omega,by omega,by omega,by omega,fun i hi=>?_,by omega,by omega,h1⟩
       have h7:=sj h5 i (by omega) (by omega)
       unfold mh at h7;split at h7
       ·cases h7
       ·split at h7
        ·cases h7
        ·omega
def ins(u:Un)(q:Int):Prop:=∃i,i<u.gx.length∧(nth u.gx i).lo<q∧q<(nth u.gx i).hi
theorem aeC{u:Un}(hu:Uv u)(q:Int)(G:List aP) :
  ∃r,aX F 219 [un u,i64 q] G=some (i64 r,G)∧q≤r∧¬ins u r∧(∀t,q≤t→t<r→ins u t)∧(r=q∨r≤1073741824):=by
 suffices h:gw (aX F) 219 [un u,i64 q] G fun v G'=>G'=G∧∃r,v=i64 r∧q≤r∧¬ins u r∧(∀t,q≤t→t<r→ins u t)∧(r=q∨r≤1073741824) by
  obtain⟨_,_,h,rfl,r,rfl,h2⟩:=h;exact⟨r,h,h2⟩
 refine gF rfl rfl ?_;have hz:=hu.Nj;have hf:=hu.jI;simp +contextual (disch:=omega) [-getElem?_pos,wrap64,aec];refine go_loop (fun r:Int=>asl r u.row G) (fun r=>q≤r∧(∀t,q≤t→t<r→ins u t)∧(r=q∨r≤1073741824)) (fun r=>(1073741824-r).toNat) q rfl (by simp) ⟨by omega,by omega,.inl rfl⟩ ?_
 rintro r ⟨h1,h2,h3⟩;simp +contextual (disch:=omega) [-getElem?_pos,wrap64,aeb];refine go_loop (fun i:Nat=>asi r (D2 u.gx) u.gx.length i u.row G) (fun i=>i≤u.gx.length∧∀j,j<i→¬((nth u.gx j).lo<r∧r<(nth u.gx j).hi)) (fun i=>u.gx.length-i) 0 rfl (by simp) ⟨by omega,by omega⟩ ?_
 rintro i ⟨hi,hn⟩;simp +contextual (disch:=omega) [-getElem?_pos,wrap64,aea];refine bB (fun h4=>?_) (fun h4=>?_)
 ·have h4:i<u.gx.length:=by omega
  have h5:=hz i h4;simp +contextual (disch:=omega) [-getElem?_pos,wrap64,aY (l:=u.gx)];refine ic (fun h6=>?_) (fun h6=>?_)
  ·simp[-List.length_eq_zero_iff,-Int.natCast_eq_zero]at h6
   refine bu (nth u.gx i).hi (by simp) ⟨by omega,fun t ha hb=>?_,by omega⟩ (by omega)
   by_cases h7:t<r
   ·exact h2 t ha h7
   ·exact⟨i,h4,by omega,hb⟩
  ·simp[-List.length_eq_zero_iff,-Int.natCast_eq_zero]at h6
   refine bu (i+1) (by simp) ⟨by omega,fun j hj=>?_⟩ (by omega)
   rcases cM j i with h7|h7
   ·have:=hn j h7;omega
   ·obtain rfl:j=i:=by omega
    omega
 ·obtain rfl:i=u.gx.length:=by omega
  exact⟨h1,fun⟨j,hj,h5,h6⟩=>hn j hj ⟨h5,h6⟩,h2,h3⟩
theorem aeD{u:Un}(hu:Uv u)(q:Int)(G:List aP) :
  (∃e,aX F 196 [un u,i64 q] G=some (.tuple [i64 e,.bool true],G)∧ins u q∧q<e∧e≤1073741824∧∀t,q≤t→t<e→ins u t) ∨
  (aX F 196 [un u,i64 q] G=some (.tuple [i64 0,.bool false],G)∧¬ins u q):=by
 suffices h:gw (aX F) 196 [un u,i64 q] G fun v G'=>G'=G∧((∃e,v=.tuple [i64 e,.bool true]∧ins u q∧q<e∧e≤1073741824∧∀t,q≤t→t<e→ins u t)∨v=.tuple [i64 0,.bool false]∧¬ins u q) by
  obtain⟨_,_,h,rfl,⟨e,rfl,h2⟩ | ⟨rfl,h2⟩⟩:=h
  ·exact .inl ⟨e,h,h2⟩
  ·exact .inr ⟨h,h2⟩
 refine gF rfl rfl ?_;have hz:=hu.Nj;have hf:=hu.jI;simp +contextual (disch:=omega) [-getElem?_pos,wrap64,adP];refine go_loop (fun i:Nat=>arR q (D2 u.gx) u.gx.length i G) (fun i=>i≤u.gx.length∧∀j,j<i→¬((nth u.gx j).lo<q∧q<(nth u.gx j).hi)) (fun i=>u.gx.length-i) 0 rfl (by simp) ⟨by omega,by omega⟩ ?_
 rintro i ⟨hi,hn⟩;simp +contextual (disch:=omega) [-getElem?_pos,wrap64,adO];refine bB (fun h4=>?_) (fun h4=>?_)
 ·have h4:i<u.gx.length:=by omega
  have h5:=hz i h4;simp +contextual (disch:=omega) [-getElem?_pos,wrap64,aY (l:=u.gx)];refine ic (fun h6=>?_) (fun h6=>?_)
  ·simp[-List.length_eq_zero_iff,-Int.natCast_eq_zero]at h6
   exact⟨⟨i,h4,by omega,by omega⟩,by omega,by omega,fun t ha hb=>⟨i,h4,by omega,hb⟩⟩
  ·simp[-List.length_eq_zero_iff,-Int.natCast_eq_zero]at h6
   refine bu (i+1) (by simp) ⟨by omega,fun j hj=>?_⟩ (by omega)
   rcases cM j i with h7|h7
   ·have:=hn j h7;omega
   ·obtain rfl:j=i:=by omega
    omega
 ·obtain rfl:i=u.gx.length:=by omega
  rintro⟨j,hj,h5,h6⟩;exact hn j hj ⟨h5,h6⟩
structure Us where
 cu:Int
 since:Int
 out:Bool
 deriving Inhabited,DecidableEq
abbrev Us.row(s:Us):List V:=[i64 s.cu,i64 s.since,.bool s.out]
abbrev us(s:Us):V:=.agg s.row
def qq(u:Un)(q:Int):Prop:=u.least≤q∧q≤u.dC∧¬ins u q
noncomputable instance aCY{u:Un}{q:Int}:Decidable (qq u q):=Classical.propDecidable _
noncomputable instance aCZ{u:Un}{q:Int}:Decidable (ins u q):=Classical.propDecidable _
theorem B9{u:Un}(hu:Uv u)(q:Int)(G:List aP):aX F 207 [un u,i64 q] G=some (.bool (decide (qq u q)),G) :=
 bL rfl rfl (by
  obtain⟨r,h1,h2,h3,h4,_⟩:=aeC hu q [];have key:decide (qq u q)=(decide (u.least≤q)&&decide (q≤u.dC)&&decide (r=q)):=by
   rw[Bool.eq_iff_iff];simp only[kA,b8];constructor
   ·rintro⟨a,b,d⟩
    refine⟨⟨a,b⟩,Decidable.byContradiction fun cq=>d (h4 q (by omega) (by omega))⟩
   ·rintro⟨⟨a,b⟩,rfl⟩
    exact⟨a,b,h3⟩
  rw[key];simp +contextual [wrap64,adZ,h1];refine ic (fun h5=>?_) (fun h5=>?_)
  ·simp +contextual [wrap64,h5,h1]
  ·simp +contextual [wrap64,h5,h1])
theorem AJ(u:Un)(q:Int)(G:List aP):aX F 176 [un u,i64 q] G=some (.bool (decide (iG u=0∧qq u q)),G) :=
 bL rfl rfl (by
  generalize hW:decide (iG u=0∧qq u q)=W;by_cases hc:iG u=0
  ·simp +contextual [wrap64,TB,om,hc]
   refine ic (fun h1=>?_) (fun h1=>?_)
   ·simp[-List.length_eq_zero_iff,-Int.natCast_eq_zero]at h1
    rw[←hW,decide_eq_false (fun h=>by have:=h.2.1;have:=h.2.2.1;omega)]
   ·simp[-List.length_eq_zero_iff,-Int.natCast_eq_zero]at h1
    rcases aeD (rf hc) q []with⟨e,h2,h3,_⟩ | ⟨h2,h3⟩
    ·simp +contextual [wrap64,h2]
     rw[←hW,decide_eq_false (fun h=>h.2.2.2 h3)]
    ·simp +contextual [wrap64,h2]
     rw[←hW,dD ⟨hc,by omega,by omega,h3⟩]
  ·simp +contextual [wrap64,TB,om,hc]
   rw[←hW,decide_eq_false (fun h=>hc h.1)])
def fB(u:Un)(s:Us):Prop:=iG u=0∧(0≤s.since∧s.since≤1000)∧(s.cu=0∨s.out=false∧qq u s.cu)
def kU(u:Un)(s:Us)(q:Int):Prop:=if q=0 then (0<s.cu→u.up≤s.since) else s.out=false∧¬(s.cu=0∧s.since<u.down)∧qq u q
noncomputable instance aC0{u:Un}{s:Us}:Decidable (fB u s):=Classical.propDecidable _
noncomputable instance aC1{u:Un}{s:Us}{q:Int}:Decidable (kU u s q):=Classical.propDecidable _
theorem T7{u:Un}(hc:iG u=0)(s:Us)(G:List aP):aX F 200 [un u,us s] G=some (.bool (decide (fB u s)),G) :=
 bL rfl rfl (by
  obtain⟨cu,since,out⟩:=s;generalize hW:decide (fB u ⟨cu,since,out⟩)=W;have e:fB u ⟨cu,since,out⟩↔(0≤since∧since≤1000)∧(cu=0∨out=false∧qq u cu):=by simp[fB,hc]
  by_cases h1:0≤since∧since≤1000
  ·by_cases h2:cu=0
   ·simp[wrap64,Js,dM,B9 (rf hc),h1.1,h1.2,h2]
    rw[←hW,dD (e.2 ⟨h1,.inl h2⟩)]
   ·cases out with
    |true =>
     simp[wrap64,Js,dM,B9 (rf hc),h1.1,h1.2,h2];rw[←hW,decide_eq_false (fun h=>by have:=(e.1 h).2;simp[h2]at this)]
    |false =>
     simp[wrap64,Js,dM,B9 (rf hc),h1.1,h1.2,h2];rw[←hW];simp[e,h1,h2]
  ·have h3:(decide (0≤since)&&decide (since≤1000))=false:=by simp;omega
   simp[wrap64,Js,dM,B9 (rf hc),h3];rw[←hW,decide_eq_false (fun h=>h1 (e.1 h).1)])
theorem Ca(u:Un)(s:Us)(G:List aP):aX F 188 [un u,us s] G=some (.bool (decide (fB u s)),G) :=
 bL rfl rfl (by
  generalize hW:decide (fB u s)=W;by_cases hc:iG u=0
  ·simp[wrap64,TE,tW,hc,T7 hc]
   exact hW
  ·simp[wrap64,TE,tW,hc]
   rw[←hW,decide_eq_false (fun h=>hc h.1)])
theorem yP(u:Un)(s:Us)(G:List aP):aX F 142 [un u,us s] G=some (.bool (decide (fB u s)),G) :=
 bL rfl rfl (by
  obtain⟨cu,since,out⟩:=s;generalize hW:decide (fB u ⟨cu,since,out⟩)=W;by_cases hc:iG u=0
  ·have e:fB u ⟨cu,since,out⟩↔(0≤since∧since≤1000)∧(cu=0∨out=false∧qq u cu):=by simp[fB,hc]
   by_cases h1:0≤since∧since≤1000
   ·by_cases h2:cu=0
    ·simp[wrap64,F6,om,dh,AJ,hc,h1.1,h1.2,h2]
     rw[←hW,dD (e.2 ⟨h1,.inl h2⟩)]
    ·by_cases h3:qq u cu
     ·simp[wrap64,F6,om,dh,AJ,hc,h1.1,h1.2,h2,h3]
      rw[←hW];simp[e,h1,h2,h3]
     ·simp[wrap64,F6,om,dh,AJ,hc,h1.1,h1.2,h2,h3]
      rw[←hW];simp[e,h1,h2,h3]
   ·have h3:(decide (0≤since)&&decide (since≤1000))=false:=by simp;omega
    simp[wrap64,F6,om,dh,AJ,hc,h3];rw[←hW,decide_eq_false (fun h=>h1 (e.1 h).1)]
  ·simp[wrap64,F6,om,hc]
   rw[←hW,decide_eq_false (fun h=>hc h.1)])
theorem Nk{u:Un}(hc:iG u=0){q:Int}(h:qq u q):1≤q:=by have:=(rf hc).least;have:=h.1;omega
theorem T8{u:Un}{s:Us}(hv:fB u s)(q:Int)(G:List aP):aX F 218 [un u,us s,i64 q] G=some (.bool (decide (kU u s q)),G) :=
 bL rfl rfl (by
  obtain⟨hc,h1,h2⟩:=hv;obtain⟨cu,since,out⟩:=s;simp only at h1 h2;generalize hW:decide (kU u ⟨cu,since,out⟩ q)=W;simp only[kU]at hW;by_cases h3:q=0
  ·subst h3
   by_cases h4:0<cu
   ·simp[wrap64,DV,h4]
    rw[←hW];simp[h4]
   ·simp[wrap64,DV,h4]
    rw[←hW];simp[h4]
  ·simp only[h3,if_false]at hW
   cases out with
   |true =>
    simp[wrap64,DV,h3];rw[←hW];simp
   |false =>
    by_cases h5:cu=0
    ·by_cases h6:since<u.down
     ·simp[wrap64,DV,h3,h5,h6]
      rw[←hW];simp[h5];omega
     ·simp[wrap64,DV,h3,h5,h6,B9 (rf hc)]
      rw[←hW];simp[h5];omega
    ·simp[wrap64,DV,h3,h5,B9 (rf hc)]
     rw[←hW];simp[h5])
theorem asR(u:Un)(s:Us)(q:Int)(G:List aP):aX F 228 [un u,us s,i64 q] G=some (.bool (decide (fB u s∧kU u s q)),G) :=
 bL rfl rfl (by
  generalize hW:decide (fB u s∧kU u s q)=W;by_cases hv:fB u s
  ·simp[wrap64,TR,Ca,hv,T8 hv]
   rw[←hW];simp[hv]
  ·simp[wrap64,TR,Ca,hv]
   rw[←hW];simp[hv])
theorem T9(u:Un)(s:Us)(q:Int)(G:List aP):aX F 183 [un u,us s,i64 q] G=some (.bool (decide (fB u s∧kU u s q)),G) :=
 bL rfl rfl (by
  generalize hW:decide (fB u s∧kU u s q)=W;have hV:=yP u s [];by_cases hv:fB u s
  ·obtain⟨hc,h1,h2⟩:=id hv
   obtain⟨cu,since,out⟩:=s;simp only[hv,decide_true]at hV;simp only at h1 h2;simp only[kU]at hW;have hf:cu=0∨0<cu:=by
    rcases h2 with h | ⟨_,h⟩
    ·exact .inl h
    ·have:=Nk hc h;omega
   by_cases h3:q=0
   ·subst h3
    by_cases h4:0<cu
    ·simp +contextual [wrap64,B6,hV,h4]
     rw[←hW];simp[h4,hv]
    ·simp +contextual [wrap64,B6,hV,h4]
     rw[←hW];simp[h4,hv]
   ·simp only[h3,if_false]at hW
    cases out with
    |true =>
     simp +contextual [wrap64,B6,hV,h3];rw[←hW];simp
    |false =>
     by_cases h5:qq u q
     ·have h6:=Nk hc h5
      have h8:0<q:=by omega
      rcases hf with h7|h7
      ·subst h7
       simp +contextual [wrap64,B6,hV,h3,AJ,hc,h5,h8];rw[←hW];simp[hv,h5]
      ·have h9:¬cu=0:=by omega
       simp +contextual [wrap64,B6,hV,h3,AJ,hc,h5,h8,h7,h9];rw[←hW];simp[hv,h5,h9]
     ·simp +contextual [wrap64,B6,hV,h3,AJ,hc,h5]
      rw[←hW];simp[h5]
  ·simp +contextual [wrap64,B6,hV,hv]
   rw[←hW];simp[hv])
noncomputable def yQ(u:Un)(q:Int):Int:=if iG u≠0 then iG u else if q=0∨qq u q then 0 else 1
noncomputable def pow(u:Un)(q:Int):Int:=if iG u=0∧q≠0∧qq u q then iR u.table q else 0
theorem JA(u:Un)(q:Int)(G:List aP):aX F 206 [un u,i64 q] G=some (.tuple [i64 (pow u q),i64 (yQ u q)],G) :=
 bL rfl rfl (by
  by_cases hc:iG u=0
  ·by_cases h1:q=0
   ·simp[wrap64,Jt,tW,hc,h1]
    simp[pow,yQ,hc]
   ·by_cases h2:qq u q
    ·simp[wrap64,Jt,tW,hc,h1,B9 (rf hc),h2,Jy (rf hc).cv]
     simp[pow,yQ,hc,h1,h2]
    ·simp[wrap64,Jt,tW,hc,h1,B9 (rf hc),h2]
     simp[pow,yQ,hc,h1,h2]
  ·simp[wrap64,Jt,tW,hc]
   simp[pow,yQ,hc])
theorem Ua(u:Un)(q:Int)(G:List aP):aX F 182 [un u,i64 q] G=some (.tuple [i64 (pow u q),i64 (yQ u q)],G) :=
 bL rfl rfl (by
  by_cases hc:iG u=0
  ·by_cases h1:q=0
   ·simp[wrap64,Jr,om,hc,h1]
    simp[pow,yQ,hc]
   ·by_cases h2:qq u q
    ·simp[wrap64,Jr,om,hc,h1,AJ,h2,T4,(rf hc).lD]
     simp[pow,yQ,hc,h1,h2]
    ·simp[wrap64,Jr,om,hc,h1,AJ,h2]
     simp[pow,yQ,hc,h1,h2]
  ·simp[wrap64,Jr,om,hc]
   simp[pow,yQ,hc])
noncomputable def tX(u:Un)(s:Us)(q:Int):Int:=if iG u≠0 then iG u else if ¬fB u s then 3 else if ¬kU u s q then 15 else 0
def tY(s:Us)(q:Int):Us:=⟨q,if decide (0<s.cu)=decide (0<q) then min 1000 (s.since+1) else 1,s.out⟩
theorem Ub(u:Un)(s:Us)(q:Int)(G:List aP):aX F 151 [un u,us s,i64 q] G =
  some (.tuple (if tX u s q=0 then [us (tY s q),.bool (decide (s.cu=0)&&decide (0<q)),i64 0] else [us ⟨0,0,false⟩,.bool false,i64 (tX u s q)]),G) :=
 bL rfl rfl (by
  by_cases hc:iG u=0
  ·by_cases hv:fB u s
   ·by_cases hm:kU u s q
    ·have h1:=hv.2.1
     simp +contextual (disch:=omega) [wrap64,Jl,om,yP,T9,hc,hv,hm];have e:tX u s q=0:=by simp[tX,hc,hv,hm]
     refine ic (fun h=>?_) (fun h=>?_)
     ·simp at h
      simp[e,tY,h]
     ·simp at h
      simp[e,tY,h]
    ·simp +contextual (disch:=omega) [wrap64,Jl,om,yP,T9,hc,hv,hm]
     simp[tX,hc,hv,hm]
   ·simp +contextual (disch:=omega) [wrap64,Jl,om,yP,hc,hv]
    simp[tX,hc,hv]
  ·simp +contextual (disch:=omega) [wrap64,Jl,om,hc]
   simp[tX,hc])
noncomputable def fJ(u:Un)(g:Int):List Int:=((List.range ((u.dC / g).toNat+1)).map fun k:Nat=>(k:Int)*g).filter fun q=>decide (qq u q)
noncomputable def below(u:Un)(g t:Int):List Int:=(fJ u g).filter fun q=>decide (q<t)
theorem Cb{u:Un}(hu:Uv u){g:Int}(hg:1≤g){q:Int}:q∈fJ u g↔qq u q∧∃k:Nat,q=k*g:=by
 simp only[fJ,zK,nc,EL,kA];constructor
 ·rintro⟨⟨k,_,rfl⟩,h⟩
  exact⟨h,k,rfl⟩
 ·rintro⟨h,k,rfl⟩
  refine⟨⟨k,?_,rfl⟩,h⟩;have h1:=h.2.1;have:(k:Int)≤u.dC / g:=(O2 (by omega)).2 h1
  omega
theorem asS{u:Un}{g:Int}(hg:1≤g):(fJ u g).Pairwise (· < ·):=by
 refine List.Pairwise.filter _ ?_;rw[WN];refine List.Pairwise.imp ?_ (List.pairwise_lt_range);intro a b tm;exact Int.mul_lt_mul_of_pos_right (by omega) (by omega)
theorem aeE{q:Int}:∀{l:List Int},l.Pairwise (· < ·)→q∈l→l.filter (fun x=>decide (x<q+1))=l.filter (fun x=>decide (x<q))++[q]
 |[],_,h=>by simp at h
 |a::l,hp,h=>by
  obtain⟨h1,h2⟩:=xW.1 hp;rcases jQ.1 h with rfl|h3
  ·have e:∀t,t≤q+1→l.filter (fun x=>decide (x<t))=[]:=fun t ht=>by
    rw[WG];intro b hb;have:=h1 b hb;simp;omega
   have h3:q<q+1:=by omega
   have h4:¬ q<q:=by omega
   simp[h3,e (q+1) (by omega),e q (by omega)]
  ·have:=h1 q h3
   have h4:a<q:=this;have h5:a<q+1:=by omega
   simp[h4,h5,aeE h2 h3]
theorem Uc{u:Un}{g q:Int}(hg:1≤g)(h:q∈fJ u g):below u g (q+1)=below u g q++[q]:=aeE (asS hg) h
theorem Ud{u:Un}{g t t':Int}(h:∀q∈fJ u g,t≤q→q<t'→False)(hle:t≤t'):below u g t=below u g t':=by
 refine WE fun q hq=>?_;have:=h q hq;by_cases h1:q<t
 ·have:q<t':=by omega
  simp[h1,this]
 ·have h2:¬ q<t':=fun h2=>this (by omega) h2
  simp[h1,h2]
theorem aeF{u:Un}{g t:Int}(h:∀q∈fJ u g,q<t):below u g t=fJ u g:=by
 refine KN.2 fun q hq=>?_;simp[h q hq]
theorem Ue{u:Un}{g t:Int}(h:t≤u.least):below u g t=[]:=by
 refine WG.2 fun q hq=>?_;simp only[fJ,zK,kA]at hq;have:=hq.2.1;simp;omega
theorem aeG{u:Un}{g q:Int}(hg:1≤g)(h:q∈fJ u g):(below u g q).length<(fJ u g).length:=by
 have h1:=Uc hg h;have h2:(below u g (q+1)).length≤(fJ u g).length:=EK _ _;rw[h1]at h2;simp at h2;omega
def wg(q g:Int):Int:=(q+g-1).tdiv g*g
theorem Nl{q g:Int}(hq:0≤q)(hg:1≤g):q≤wg q g∧wg q g≤q+g-1∧(∃k:Nat,wg q g=k*g)∧∀k:Nat,q≤k*g→wg q g≤k*g:=by
 unfold wg;rw[Bc (by omega)]
 have h1:=Int.ediv_mul_le (q+g-1) (b:=g) (by omega)
 have h2:=Int.lt_ediv_add_one_mul_self (q+g-1) (b:=g) (by omega)
 have h3:0≤(q+g-1) / g:=Hc (by omega) (by omega)
 rw[KF,O5]at h2;refine⟨by omega,h1,⟨((q+g-1) / g).toNat,by rw[Int.toNat_of_nonneg h3]⟩,fun k hk=>?_⟩
 refine CJ ?_ (by omega)
 refine KL.1 fun h4=>?_;have h5:((k:Int)+1)*g≤(q+g-1) / g*g:=CJ (by omega) (by omega)
 rw[KF,O5]at h5;omega
theorem Uf{u:Un}(hu:Uv u){g q:Int}(hq:0≤q)(hg:1≤g):below u g q=below u g (wg q g):=by
 obtain⟨h1,_,_,h4⟩:=Nl hq hg;refine Ud (fun x hx a b=>?_) h1;obtain⟨_,k,rfl⟩:=(Cb hu hg).1 hx;have:=h4 k a;omega
theorem aeH{u:Un}(hu:Uv u){g q r:Int}(hg:1≤g)(h:∀t,q≤t→t<r→ins u t)(hle:q≤r):below u g q=below u g r :=
 Ud (fun x hx a b=>((Cb hu hg).1 hx).1.2.2 (h x a b)) hle
theorem asT{u:Un}(hu:Uv u){g q:Int}(hg:1≤g)(hq:∃k:Nat,q=k*g):below u g (q+1)=below u g (q+g):=by
 refine Ud (fun x hx a b=>?_) (by omega)
 obtain⟨_,k,rfl⟩:=(Cb hu hg).1 hx;obtain⟨m,rfl⟩:=hq;have h1:(m:Int)<k:=by
  refine Int.not_le.1 fun h=>?_;have:=CJ h (show 0≤g by omega)
  omega
 have h2:((m:Int)+1)*g≤k*g:=CJ (by omega) (by omega)
 rw[KF,O5]at h2;omega
noncomputable def ij(u:Un)(g:Int):Int:=if iG u≠0 then iG u else if g<1∨1073741824<g then 1 else if 200<(fJ u g).length then 10 else 0
noncomputable def pc(u:Un)(g:Int):List Int:=if ij u g=0 then fJ u g else []
abbrev own(l:List Int):V:=.slice (some 0) 1 (l.map fun n=>[i64 n])
theorem Ug(u:Un)(g:Int)(G:List aP):aX F 225 [un u,i64 g] G=some (.tuple [own (pc u g),i64 (ij u g)],G) :=
 bL rfl rfl (by
  by_cases hc:iG u=0
  ·simp +contextual (disch:=omega) [wrap64,TQ,tW,hc]
   refine ic (fun h1=>?_) (fun h1=>?_)
   ·simp[-List.length_eq_zero_iff,-Int.natCast_eq_zero]at h1
    have e:ij u g=1:=by simp[ij,hc,h1]
    simp[pc,e]
   ·simp[-List.length_eq_zero_iff,-Int.natCast_eq_zero]at h1
    have hu:=rf hc;have m1:=hu.least;have m2:=hu.dC;have m3:=hu.T6;have hg:1≤g:=h1.1;refine go_loop (fun f:Int=>asv g (.slice (some 1049) 1 ((below u g f).map fun n=>[i64 n])) f u.row (below u g f).length G) (fun f=>u.least≤f∧f≤1073741825∧(below u g f).length≤200) (fun f=>(1073741826-f).toNat) u.least rfl (by simp[Ue]) (by simp[Ue];omega) ?_
    rintro f ⟨It,xp,Iu⟩;obtain⟨r1,r2,r3,r4⟩:=Nl (q:=f) (g:=g) (by omega) hg
    have r5:=Uf hu (q:=f) (g:=g) (by omega) hg
    have r6:(f+g-1).tdiv g*g=wg f g:=rfl;have d1:0≤(f+g-1).tdiv g:=zG (by omega) (by omega)
    have d2:(f+g-1).tdiv g≤f+g-1:=by
     have:=CL (a:=f+g-1) g (by omega)
     omega
    have g0:¬g=0:=by omega
    generalize wg f g=Z at r1 r2 r3 r4 r5 r6;simp +contextual (disch:=omega) [wrap64,aek,g0,r6];refine bB (fun h2=>?_) (fun h2=>?_)
    ·have hb:below u g f=fJ u g:=aeF fun q hq=>by
      rw[Cb hu hg]at hq;obtain⟨hq,k,rfl⟩:=hq;have:=hq.2.1;refine Int.not_le.1 fun h=>?_;have:=r4 k h;omega
     have e:ij u g=0:=by simp[ij,hc];rw[hb]at Iu;omega
     rw[hb];simp[pc,e]
    ·obtain⟨r,s1,s2,s3,s4,s5⟩:=aeC hu Z []
     simp +contextual (disch:=omega) [wrap64,s1];refine ic (fun h3=>?_) (fun h3=>?_)
     ·simp[-List.length_eq_zero_iff,-Int.natCast_eq_zero]at h3
      have hb:below u g f=below u g r:=by rw[r5,aeH hu hg s4 s2]
      refine bu r (by rw[hb];simp) ⟨by omega,by omega,by rwa [←hb]⟩ (by omega)
     ·simp[-List.length_eq_zero_iff,-Int.natCast_eq_zero]at h3
      subst h3;have hm:r∈fJ u g:=(Cb hu hg).2 ⟨⟨by omega,by omega,s3⟩,r3⟩
      have hb:below u g (r+1)=below u g f++[r]:=by rw[r5,Uc hg hm]
      refine bB (fun h4=>?_) (fun h4=>?_)
      ·have:=aeG hg hm
       have e:ij u g=10:=by
        simp only[ij,hc,ne_eq,not_true,if_false];rw[av (by omega),aK (by rw[←r5]at this;omega)]
       simp[pc,e]
      ·refine bu (r+1) (by rw[hb];simp) ⟨by omega,by omega,by rw[hb];simp;omega⟩ (by omega)
  ·have e:ij u g=iG u:=by simp[ij,hc]
   simp +contextual (disch:=omega) [wrap64,TQ,tW,hc];simp[pc,e,hc])
theorem Gd(u:Un)(g:Int)(G:List aP):aX F 189 [un u,i64 g] G=some (.tuple [own (pc u g),i64 (ij u g)],G) :=
 bL rfl rfl (by
  by_cases hc:iG u=0
  ·simp +contextual (disch:=omega) [wrap64,TF,om,hc]
   refine ic (fun h1=>?_) (fun h1=>?_)
   ·simp[-List.length_eq_zero_iff,-Int.natCast_eq_zero]at h1
    have e:ij u g=1:=by simp[ij,hc,h1]
    simp[pc,e]
   ·simp[-List.length_eq_zero_iff,-Int.natCast_eq_zero]at h1
    have hu:=rf hc;have m1:=hu.least;have m2:=hu.dC;have m3:=hu.T6;have hg:1≤g:=h1.1;have g0:¬g=0:=by omega
    obtain⟨r1,r2,r3,r4⟩:=Nl (q:=u.least) (g:=g) (by omega) hg
    have r5:=Uf hu (q:=u.least) (g:=g) (by omega) hg
    have r6:(u.least+g-1).tdiv g*g=wg u.least g:=rfl;have d1:0≤(u.least+g-1).tdiv g:=zG (by omega) (by omega)
    have d2:(u.least+g-1).tdiv g≤u.least+g-1:=by
     have:=CL (a:=u.least+g-1) g (by omega)
     omega
    rw[Ue (by omega)]at r5
    generalize wg u.least g=Z at r1 r2 r3 r4 r5 r6;simp +contextual (disch:=omega) [wrap64,g0,r6];refine go_loop (fun f:Int=>arI g (.slice (some 1056) 1 ((below u g f).map fun n=>[i64 n])) f u.row (below u g f).length G) (fun f=>u.least≤f∧f≤2147483648∧(∃k:Nat,f=k*g)∧(below u g f).length≤200) (fun f=>(2147483649-f).toNat) Z rfl (by simp[←r5]) ⟨by omega,by omega,r3,by rw[←r5];simp⟩ ?_
    rintro f ⟨It,xp,hf4,Iu⟩;simp +contextual (disch:=omega) [wrap64,adH];refine bB (fun h2=>?_) (fun h2=>?_)
    ·rcases aeD hu f []with⟨e,s1,s2,s3,s4,s5⟩ | ⟨s1,s2⟩
     ·obtain⟨p1,p2,p3,p4⟩:=Nl (q:=e) (g:=g) (by omega) hg
      have p5:=Uf hu (q:=e) (g:=g) (by omega) hg
      have p6:(e+g-1).tdiv g*g=wg e g:=rfl;have t1:0≤(e+g-1).tdiv g:=zG (by omega) (by omega)
      have t2:(e+g-1).tdiv g≤e+g-1:=by
       have:=CL (a:=e+g-1) g (by omega)
       omega
      generalize wg e g=E at p1 p2 p3 p4 p5 p6;simp +contextual (disch:=omega) [wrap64,s1,g0,p6];have hb:below u g f=below u g E:=by rw[←p5];exact aeH hu hg s5 (by omega)
      exact bu E (by rw[hb];simp) ⟨by omega,by omega,p3,by rwa [←hb]⟩ (by omega)
     ·have hm:f∈fJ u g↔u.least≤f:=by
       rw[Cb hu hg];exact⟨fun h=>h.1.1,fun h=>⟨⟨h,by omega,s2⟩,hf4⟩⟩
      have hm:=hm.2 It;have hb:below u g (f+g)=below u g f++[f]:=by rw[←asT hu hg hf4,Uc hg hm]
      simp +contextual (disch:=omega) [wrap64,s1];refine bB (fun h4=>?_) (fun h4=>?_)
      ·have:=aeG hg hm
       have e:ij u g=10:=by
        simp only[ij,hc,ne_eq,not_true,if_false];rw[av (by omega),aK (by omega)]
       simp[pc,e]
      ·refine bu (f+g) (by rw[hb];simp) ⟨by omega,by omega,?_,by rw[hb];simp;omega⟩ (by omega)
       obtain⟨k,hk⟩:=hf4;exact⟨k+1,by rw[hk];simp[KF]⟩
    ·have hb:below u g f=fJ u g:=aeF fun q hq=>by
      rw[Cb hu hg]at hq;have:=hq.1.2.1;omega
     have e:ij u g=0:=by simp[ij,hc];rw[hb]at Iu;omega
     rw[hb];simp[pc,e]
  ·have e:ij u g=iG u:=by simp[ij,hc]
   simp +contextual (disch:=omega) [wrap64,TF,om,hc];simp[pc,e,hc])
theorem ik{α:Type}[Inhabited α]{l:List α}{a:α}{i:Nat}:nth (l++[a]) i=if i<l.length then nth l i else if i=l.length then a else default:=by
 simp only[nth,List.getD,qB];split
 ·rfl
 ·split
  ·rename_i h;subst h;simp
  ·rename_i h1 h2
   rw[mo (by simp;omega)]
   rfl
structure Cw(c:List Pt)(x y dx dy least:Int):Prop where
 pos:0<c.length
 jI:c.length≤5
 first:nth c 0=⟨x,y⟩
 step:∀i,0<i→i<c.length→((nth c (i-1)).x<(nth c i).x∧(nth c i).x≤(nth c (i-1)).x+dx)∧(nth c (i-1)).y+least≤(nth c i).y∧(nth c i).y≤(nth c (i-1)).y+dy
theorem Cw.up{c:List Pt}{x y dx dy least:Int}(h:Cw c x y dx dy least)(h0:0≤x∧x≤1000)(h1:0≤y∧y≤1000)(h2:0≤dx∧dx≤1000)(h3:0≤dy∧dy≤1000)(h4:0≤least) :
  ∀i:Nat,i<c.length→(0≤(nth c i).x∧(nth c i).x≤1000+1000*(i:Int))∧0≤(nth c i).y∧(nth c i).y≤1000+1000*(i:Int):=by
 intro i;induction i with
 |zero=>intro hi;have:=h.first;rw[this];simp;omega
 |succ i ih =>
  intro hi;have a:=ih (by omega)
  have b:=h.step (i+1) (by omega) hi
  simp only[sI]at b;omega
theorem Cw.lD{c:List Pt}{x y dx dy least:Int}(h:Cw c x y dx dy least)(h0:0≤x∧x≤1000)(h1:0≤y∧y≤1000)(h2:0≤dx∧dx≤1000)(h3:0≤dy∧dy≤1000)(h4:0≤least):gT c=0:=by
 have hp:=h.pos;have hf:=h.jI;unfold gT;rw[av (by omega),av (by omega)]
 refine pS fun i _ hi=>?_;have a:=h.up h0 h1 h2 h3 h4 i (by omega)
 unfold iQ;rw[av (by omega)]
 split
 ·rfl
 ·have b:=h.step i (by omega) (by omega)
  rw[av (by omega),av]
  rw[Bc (by omega)]
  generalize hu:(nth c i).x-(nth c (i-1)).x=u;generalize hv:(nth c i).y-(nth c (i-1)).y=v;refine KL.2 ((O2 (by omega)).2 ?_)
  have:v*u≤1000*1000:=EI (by omega) (by omega) (by omega) (by omega)
  omega
abbrev opts(c:List Pt):V:=.slice (some 0) 2 (c.map Pt.row)
theorem Uh{l:List Int}{k:Nat}(hd:c5 l k){x y dx dy:Int}(strict:Bool)(h0:0≤x∧x≤1000)(h1:0≤y∧y≤1000)(h2:1≤dx∧dx≤1000)(h3:1≤dy∧dy≤1000) :
  ∃c k',aX F 166 [.bH 0 0,i64 x,i64 y,i64 dx,i64 dy,.bool strict] [dk l k]=some (opts c,[dk l k'])∧c5 l k'∧2≤c.length∧Cw c x y dx dy (if strict then 1 else 0):=by
 suffices h:gw (aX F) 166 [.bH 0 0,i64 x,i64 y,i64 dx,i64 dy,.bool strict] [dk l k] fun v G=>∃c k',v=opts c∧G=[dk l k']∧c5 l k'∧2≤c.length∧Cw c x y dx dy (if strict then 1 else 0) by
  obtain⟨_,_,h,c,k',rfl,rfl,h1⟩:=h;exact⟨c,k',h,h1⟩
 generalize hL:(if strict then 1 else 0:Int)=L
 have AK:0≤L∧L≤1:=by rw[←hL];cases strict<;>simp
 refine gF rfl rfl ?_;obtain⟨a,k1,n1,gH,ha⟩:=gG hd 4 (by omega)
 have main:∀K:cH,(∀c k',c5 l k'→2≤c.length→Cw c x y dx dy L→∀z,K (.exit 0) ⟨[(0,.bH 0 0),(1,i64 (nth c (c.length-1)).x),(2,i64 (nth c (c.length-1)).y),(3,i64 dx),(4,i64 dy),(13,i64 L),(14,.slice (some 1020) 2 (c.map Pt.row)),(15,i64 0),(25,z)],[],[(1020,c.length)],[dk l k']⟩) →
   go (aX F) adk (adl (.bH 0 0) x y dx dy L (.slice (some 1020) 2 [Pt.row ⟨x,y⟩]) (1+a) 1 [dk l k1]) K:=by
  intro K hK;refine go_loop (fun s:List Pt×Int×Nat=>adl (.bH 0 0) (nth s.1 (s.1.length-1)).x (nth s.1 (s.1.length-1)).y dx dy L (.slice (some 1020) 2 (s.1.map Pt.row)) s.2.1 s.1.length [dk l s.2.2])
   (fun s=>Cw s.1 x y dx dy L∧(0<s.2.1∨2≤s.1.length)∧0≤s.2.1∧(s.1.length:Int)+s.2.1≤5∧c5 l s.2.2) (fun s=>s.2.1.toNat) ([⟨x,y⟩],1+a,k1) rfl (by simp[nth]) ⟨⟨by simp,by simp,rfl,fun i a b=>by simp at b;omega⟩,by simp;omega,by simp;omega,by simp;omega,gH⟩ ?_
  rintro⟨c,m,k⟩ ⟨hc,JB,hm2,Nn,hd⟩;simp only at hc JB hm2 Nn hd;have hp:=hc.pos;have hu:=hc.up h0 h1 ⟨by omega,h2.2⟩ ⟨by omega,h3.2⟩ AK.1 (c.length-1) (by omega)
  obtain⟨p,k2,n2,fp,hp2⟩:=gG hd dx (by omega)
  obtain⟨q,k3,n3,lF,hq⟩:=gG fp dy (by omega)
  simp (disch:=omega) [wrap64,adj];refine bB (fun h4=>?_) (fun h4=>?_)
  ·simp (disch:=omega) [wrap64,n2,n3]
   refine bu (c++[⟨(nth c (c.length-1)).x+1+p,(nth c (c.length-1)).y+L+q⟩],m-1,k3) (by simp[ik]) ⟨⟨by simp,by simp;omega,?_,fun i hi hj=>?_⟩,by simp;omega,by simp;omega,by simp;omega,lF⟩ (by simp;omega)
   ·rw[ik,aK hp];exact hc.first
   ·simp at hj
    rw[ik,ik];by_cases tZ:i<c.length
    ·rw[aK (by omega),aK (by omega)]
     exact hc.step i hi tZ
    ·obtain rfl:i=c.length:=by omega
     rw[aK (by omega),av (by omega),aK rfl]
     simp only;omega
  ·obtain rfl:m=0:=by omega
   exact hK c k hd (by omega) hc _
 cases strict with
 |true =>
  simp at hL;subst hL;simp (disch:=omega) [wrap64,Tz,n1];refine main _ fun c k' q1 q2 q3 z=>?_;simp (disch:=omega) [wrap64,wrap64];exact⟨c,rfl,k',rfl,q1,q2,q3⟩
 |false =>
  simp at hL;subst hL;simp (disch:=omega) [wrap64,Tz,n1];refine main _ fun c k' q1 q2 q3 z=>?_;simp (disch:=omega) [wrap64,wrap64];exact⟨c,rfl,k',rfl,q1,q2,q3⟩
structure Uw(u:Un):Prop where
 table:Cw u.table 0 0 10 30 0
 two:2≤u.table.length
 least:1≤u.least∧u.least≤8
 dC:u.least≤u.dC∧u.dC≤19
 jI:u.gx.length≤2
 Nj:∀i,i<u.gx.length→(0≤(nth u.gx i).lo∧(nth u.gx i).hi≤20)∧(nth u.gx i).lo<(nth u.gx i).hi
 up:0≤u.up∧u.up≤2
 down:0≤u.down∧u.down≤2
theorem Uw.lD{u:Un}(h:Uw u):iG u=0:=by
 have c:=h.table.lD (by omega) (by omega) (by omega) (by omega) (by omega)
 have hp:=h.table.pos;have hf:=h.table.jI;have hu:=h.table.up (by omega) (by omega) (by omega) (by omega) (by omega) (u.table.length-1) (by omega)
 have a1:=h.least;have a2:=h.dC;have a3:=h.jI;have a4:=h.up;have a5:=h.down;have z:du (mh u.gx) u.gx.length 0=0:=pS fun i _ hi=>by
  have:=h.Nj i (by omega)
  rw[mh,av (by omega),av (by omega)]
 unfold iG;rw[av (by omega),av (by omega),av (by omega),av (by omega),av (by omega),av (by omega)]
abbrev ung(u:Un):V:=.agg [jg u.table,i64 u.least,i64 u.dC,.slice (some 0) 2 (u.gx.map Bd.row),i64 u.up,i64 u.down]
theorem asV{l:List Int}{k:Nat}(hd:c5 l k):∃u k',aX F 167 [.bH 0 0] [dk l k]=some (ung u,[dk l k'])∧c5 l k'∧Uw u:=by
 suffices h:gw (aX F) 167 [.bH 0 0] [dk l k] fun v G=>∃u k',v=ung u∧G=[dk l k']∧c5 l k'∧Uw u by
  obtain⟨_,_,h,u,k',rfl,rfl,h1⟩:=h;exact⟨u,k',h,h1⟩
 refine gF rfl rfl ?_;obtain⟨c,k1,n1,gH,Dj,hc⟩:=Uh hd (x:=0) (y:=0) (dx:=10) (dy:=30) false (by omega) (by omega) (by omega) (by omega)
 obtain⟨a1,k2,n2,fp,Ui⟩:=gG gH 8 (by omega)
 obtain⟨a2,k3,n3,lF,xD⟩:=gG fp 3 (by omega)
 obtain⟨a3,k4,n4,pT,ha3⟩:=gG lF 3 (by omega)
 obtain⟨a4,k5,n5,yR,ha4⟩:=gG pT 12 (by omega)
 obtain⟨a5,k6,n6,JC,ha5⟩:=gG yR 3 (by omega)
 simp (disch:=omega) [wrap64,adn,n1,n2,n3,n4,n5,n6];refine go_loop (fun s:List Bd×Int×Nat=>arn (.bH 0 0) s.2.1 [.bU,i64 0,i64 0,.bU,i64 0,i64 0] [jg c,i64 (1+a1),i64 (1+a1+a4),.slice (some 1040) 2 (s.1.map Bd.row),i64 a2,i64 a3] s.1.length [dk l s.2.2])
  (fun s=>(∀i,i<s.1.length→(0≤(nth s.1 i).lo∧(nth s.1 i).hi≤20)∧(nth s.1 i).lo<(nth s.1 i).hi)∧0≤s.2.1∧(s.1.length:Int)+s.2.1≤2∧c5 l s.2.2) (fun s=>s.2.1.toNat) ([],a5,k6) rfl (by simp) ⟨fun i h=>by simp at h,by simp;omega,by simp;omega,JC⟩ ?_
 rintro⟨z,m,k⟩ ⟨hz,JB,hm2,hd⟩;simp only at hz JB hm2 hd;obtain⟨b1,k7,n7,hd7,Uj⟩:=gG hd 16 (by omega)
 obtain⟨b2,k8,n8,hd8,Ay⟩:=gG hd7 5 (by omega)
 simp (disch:=omega) [wrap64,adm];refine bB (fun h4=>?_) (fun h4=>?_)
 ·simp (disch:=omega) [wrap64,n7,n8]
  refine bu (z++[⟨b1,b1+1+b2⟩],m-1,k8) (by simp) ⟨fun i hi=>?_,by simp;omega,by simp;omega,hd8⟩ (by simp;omega)
  simp at hi;rw[ik];split
  ·exact hz i (by assumption)
  ·rw[aK (by omega)]
   simp only;omega
 ·refine⟨⟨c,1+a1,1+a1+a4,z,a2,a3⟩,⟨rfl,rfl,rfl,rfl,rfl,rfl⟩,k,rfl,hd,?_⟩
  exact⟨hc,Dj,by simp only;omega,by simp only;omega,by simp only;omega,hz,by simp only;omega,by simp only;omega⟩
theorem aeN{u:Un}{g:Int}:(fJ u g).length≤(u.dC / g).toNat+1:=by
 refine kL (EK _ _) ?_;simp
theorem Uw.ij{u:Un}(h:Uw u){g:Int}(h1:1≤g)(h2:g≤1073741824):ij u g=0:=by
 have a:=aeN (u:=u) (g:=g);have b:=h.dC;have c:=h.least;have d:u.dC / g≤u.dC:=KH _ (by omega)
 unfold Go.Proofs.YtcelmhaoipbdiaaGreat.ij;rw[av (by simp[h.lD]),av (by omega),av (by omega)]
theorem asY{l:List Int}{k:Nat}(hd:c5 l k){u:Un}(hu:Uw u):∃s k',aX F 168 [.bH 0 0,un u] [dk l k]=some (us s,[dk l k'])∧c5 l k'∧fB u s:=by
 suffices h:∀Q:V→List aP→Prop,(∀s k',c5 l k'→fB u s→Q (us s) [dk l k'])→gw (aX F) 168 [.bH 0 0,un u] [dk l k] Q by
  obtain⟨_,_,h,s,k',rfl,rfl,h1⟩:=h (fun v G=>∃s k',v=us s∧G=[dk l k']∧c5 l k'∧fB u s) fun s k' a b=>⟨s,k',rfl,rfl,a,b⟩;exact⟨s,k',h,h1⟩
 intro Q hQ;refine gF rfl rfl ?_;have hc:=hu.lD;have he:=hu.ij (g:=1) (by omega) (by omega)
 have hf:pc u 1=fJ u 1:=by simp[pc,he]
 have Ge:=aeN (u:=u) (g:=1);have hm:=hu.dC;obtain⟨a1,k1,n1,gH,Ui⟩:=gG hd 5 (by omega)
 obtain⟨a2,k2,n2,fp,xD⟩:=gG gH 7 (by omega)
 obtain⟨a3,k3,n3,lF,ha3⟩:=gG fp 2 (by omega)
 obtain⟨a4,k4,n4,pT,ha4⟩:=gG lF (fJ u 1).length (by omega)
 have off:∀o,fB u ⟨0,a1,o⟩:=fun o=>⟨hc,by simp only;omega,.inl rfl⟩
 by_cases h1:0<(fJ u 1).length
 ·by_cases h2:a2=6
  ·simp +contextual (disch:=omega) [-getElem?_pos,wrap64,Jq,n1,n2,Gd,he,hf,h2]
   exact hQ ⟨0,a1,true⟩ k2 fp (off _)
  ·by_cases h3:a3=0
   ·have h4:a4.toNat<(fJ u 1).length:=by omega
    simp +contextual (disch:=omega) [-getElem?_pos,wrap64,Jq,n1,n2,n3,n4,Gd,he,hf,h2,h3,h1,dA h4];refine hQ ⟨nth (fJ u 1) a4.toNat,a1,false⟩ k4 pT ⟨hc,by simp only;omega,.inr ⟨rfl,?_⟩⟩
    exact((Cb (rf hc) (by omega)).1 (g9 (dA h4))).1
   ·simp +contextual (disch:=omega) [-getElem?_pos,wrap64,Jq,n1,n2,n3,Gd,he,hf,h2,h3,h1]
    exact hQ ⟨0,a1,false⟩ k3 lF (off _)
 ·simp +contextual (disch:=omega) [-getElem?_pos,wrap64,Jq,n1,n2,Gd,he,hf,h1]
  exact hQ ⟨0,a1,decide (a2=6)⟩ k2 fp (off _)
abbrev lG(l:List Un):V:=.slice none 6 (l.map Un.row)
abbrev jJ(l:List Us):V:=.slice none 3 (l.map Us.row)
abbrev Uk(l:List Un):V:=.slice (some 0) 6 (l.map Un.row)
abbrev JD(l:List Us):V:=.slice (some 0) 3 (l.map Us.row)
structure JE(a:List Un)(b:List Us):Prop where
 len:a.length=b.length
 unit:∀i,i<a.length→Uw (nth a i)
 state:∀i,i<a.length→fB (nth a i) (nth b i)
theorem asZ{l:List Int}{k:Nat}(hd:c5 l k){m:Nat}(hm:m≤1000):∃a b k',aX F 126 [.bH 0 0,i64 m] [dk l k]=some (.tuple [Uk a,JD b],[dk l k'])∧c5 l k'∧JE a b∧a.length≤m:=by
 suffices h:∀Q:V→List aP→Prop,(∀a b k',c5 l k'→JE a b→a.length≤m→Q (.tuple [Uk a,JD b]) [dk l k'])→gw (aX F) 126 [.bH 0 0,i64 m] [dk l k] Q by
  obtain⟨_,_,h,a,b,k',rfl,rfl,h1⟩:=h (fun v G=>∃a b k',v=.tuple [Uk a,JD b]∧G=[dk l k']∧c5 l k'∧JE a b∧a.length≤m) fun a b k' h1 h2 h3=>⟨a,b,k',rfl,rfl,h1,h2,h3⟩;exact⟨a,b,k',h,h1⟩
 intro Q hQ;refine gF rfl rfl ?_;obtain⟨n,k1,n1,gH,hn⟩:=gG hd (m+1) (by omega)
 simp (disch:=omega) [wrap64,acu,n1];refine go_loop (fun s:List Un×List Us×Int×Nat=>aqm (.bH 0 0) (.slice (some 1023) 6 (s.1.map Un.row)) (.slice (some 1029) 3 (s.2.1.map Us.row)) s.2.2.1 s.1.length s.2.1.length [dk l s.2.2.2])
  (fun s=>JE s.1 s.2.1∧(s.1.length:Int)+s.2.2.1≤m∧0≤s.2.2.1∧c5 l s.2.2.2) (fun s=>s.2.2.1.toNat) ([],[],n,k1) rfl (by simp) ⟨⟨rfl,by simp,by simp⟩,by simp;omega,by simp;omega,gH⟩ ?_
 rintro⟨a,b,n,k⟩ ⟨tm,h1,h2,hd⟩;simp only at tm h1 h2 hd;obtain⟨u,k2,n2,fp,hu⟩:=asV hd;obtain⟨s,k3,n3,lF,hs⟩:=asY fp hu;have hl:=tm.len;simp (disch:=omega) [wrap64,acs];refine bB (fun h4=>?_) (fun h4=>?_)
 ·simp (disch:=omega) [wrap64,n2,n3]
  refine bu (a++[u],b++[s],n-1,k3) (by simp) ⟨⟨by simp[hl],fun i hi=>?_,fun i hi=>?_⟩,by simp;omega,by simp;omega,lF⟩ (by simp;omega)
  ·simp at hi
   rw[ik];split
   ·exact tm.unit i (by assumption)
   ·rw[aK (by omega)];exact hu
  ·simp at hi
   rw[ik,ik,← hl];split
   ·exact tm.state i (by assumption)
   ·rw[aK (by omega),aK (by omega)];exact hs
 ·exact hQ a b k hd tm (by omega)
structure Rt where
 lv:Int
 c:List Pt
 deriving Inhabited
abbrev Rt.row(r:Rt):List V:=[i64 r.lv,jg r.c]
abbrev D3(l:List Rt):V:=.slice none 2 (l.map Rt.row)
structure Gt where
 r:List Rt
 dC:Int
 move:Int
 deriving Inhabited
abbrev Gt.row(g:Gt):List V:=[D3 g.r,i64 g.dC,i64 g.move]
abbrev gt(g:Gt):V:=.agg g.row
def pU(l:List Rt)(i:Nat):Int :=
 if ¬(0≤(nth l i).lv∧(nth l i).lv≤16777216) then 1
 else if 0<i∧(nth l i).lv≤(nth l (i-1)).lv then 4
 else if gT (nth l i).c≠0 then gT (nth l i).c
 else if ¬((nth (nth l i).c 0).x=0∧(nth (nth l i).c 0).y=0) then 3
 else if 1073741824<(nth (nth l i).c ((nth l i).c.length-1)).y then 1 else 0
def lH(g:Gt):Int :=
 if g.r.length=0 then 3 else if 10<g.r.length then 10 else if du (pU g.r) g.r.length 0≠0 then du (pU g.r) g.r.length 0
 else if ¬((0≤g.dC∧g.dC≤1000)∧0≤g.move∧g.move≤1000) then 1 else 0
theorem Cd(g:Gt)(G:List aP):aX F 163 [gt g] G=some (i64 (lH g),G) :=
 bL rfl rfl (by
  obtain⟨l,dC,move⟩:=g;generalize hW:lH ⟨l,dC,move⟩=W;unfold lH at hW;simp only at hW;simp (disch:=omega) [-getElem?_pos,-Int.natCast_eq_zero,wrap64,adf];refine bB (fun h1=>?_) (fun h1=>bB (fun h2=>?_) (fun h2=>?_))
  ·rw[aK (by omega)]at hW
   exact hW
  ·rw[av (by omega),aK (by omega)]at hW
   exact hW
  ·rw[av (by omega),av (by omega)]at hW
   refine go_loop (fun i:Nat=>ard (D3 l) l.length i [D3 l,i64 dC,i64 move] G) (fun i=>i≤l.length∧du (pU l) (l.length-i) i=du (pU l) l.length 0) (fun i=>l.length-i) 0 rfl (by simp) ⟨by omega,rfl⟩ ?_
   rintro i ⟨hi,hq⟩;simp (disch:=omega) [-getElem?_pos,-Int.natCast_eq_zero,wrap64,ade];refine bB (fun h3=>?_) (fun h3=>?_)
   ·have h3:i<l.length:=by omega
    have h4:((i:Int)-1).toNat=i-1:=by omega
    rw[jq h3]at hq;have stop:pU l i≠0→W=pU l i:=fun h=>by
     rw[av h]at hq;rw[←hq,aK h]at hW;exact hW.symm
    unfold pU at stop;by_cases a1:0≤(nth l i).lv∧(nth l i).lv≤16777216
    ·have a2:(!decide (0≤(nth l i).lv) || !decide ((nth l i).lv≤16777216))=false:=by simp;omega
     have a3:0<i→0≤(i:Int)-1:=by omega
     have a4:i-1<l.length:=by omega
     rw[av (by omega)]at stop
     by_cases b1:0<i∧(nth l i).lv≤(nth l (i-1)).lv
     ·rw[aK b1]at stop
      have b2:0<i:=b1.1;have b3:=b1.2;have b4:0≤(i:Int)-1:=by omega
      simp (disch:=omega) [-getElem?_pos,-Int.natCast_eq_zero,wrap64,aY (l:=l),h3,dM,dh,a2,b2,b3,b4,h4,a4];exact(stop (by omega)).symm
     ·rw[av b1]at stop
      by_cases c1:gT (nth l i).c=0
      ·rw[av (by omega)]at stop
       have hp:=u7 c1;have hfw:=(m6 c1).jI;have c2:(((nth l i).c.length:Int)-1).toNat=(nth l i).c.length-1:=by omega
       have c3:(nth l i).c.length-1<(nth l i).c.length:=by omega
       have c4:0≤((nth l i).c.length:Int)-1:=by omega
       by_cases d1:(nth (nth l i).c 0).x=0∧(nth (nth l i).c 0).y=0
       ·rw[av (by omega)]at stop
        obtain⟨d2,d3⟩:=d1;by_cases e1:1073741824<(nth (nth l i).c ((nth l i).c.length-1)).y
        ·rw[aK e1]at stop
         rcases nG i with b6|b6
         ·subst b6
          simp (disch:=omega) [-getElem?_pos,-Int.natCast_eq_zero,wrap64,aY (l:=l),h3,dM,dh,o0,mZ,a2,c1,V.gA,eJ,kO,aY (l:=(nth l 0).c),hp,c2,c3,c4,d2,d3,e1];exact(stop (by omega)).symm
         ·have b7:¬ (nth l i).lv≤(nth l (i-1)).lv:=fun h=>b1 ⟨b6,h⟩
          have b4:0≤(i:Int)-1:=by omega
          simp (disch:=omega) [-getElem?_pos,-Int.natCast_eq_zero,wrap64,aY (l:=l),h3,dM,dh,o0,mZ,a2,c1,b6,b7,b4,h4,a4,V.gA,eJ,kO,aY (l:=(nth l i).c),hp,c2,c3,c4,d2,d3,e1];exact(stop (by omega)).symm
        ·have hz:pU l i=0:=by
          unfold pU;rw[av (by omega),av b1,av (by omega),av (by omega),av e1]
         rw[aK hz]at hq;rcases nG i with b6|b6
         ·subst b6
          simp (disch:=omega) [-getElem?_pos,-Int.natCast_eq_zero,wrap64,aY (l:=l),h3,dM,dh,o0,mZ,a2,c1,V.gA,eJ,kO,aY (l:=(nth l 0).c),hp,c2,c3,c4,d2,d3,e1];exact bu (0+1) (by simp) ⟨by omega,hq⟩ (by omega)
         ·have b7:¬ (nth l i).lv≤(nth l (i-1)).lv:=fun h=>b1 ⟨b6,h⟩
          have b4:0≤(i:Int)-1:=by omega
          simp (disch:=omega) [-getElem?_pos,-Int.natCast_eq_zero,wrap64,aY (l:=l),h3,dM,dh,o0,mZ,a2,c1,b6,b7,b4,h4,a4,V.gA,eJ,kO,aY (l:=(nth l i).c),hp,c2,c3,c4,d2,d3,e1];exact bu (i+1) (by simp) ⟨by omega,hq⟩ (by omega)
       ·rw[aK d1]at stop
        have d4:(decide ((nth (nth l i).c 0).x=0)&&decide ((nth (nth l i).c 0).y=0))=false:=by simpa using d1
        have d5:((nth (nth l i).c 0).x==0&&(nth (nth l i).c 0).y==0)=false:=by simpa using d1
        rcases nG i with b6|b6
        ·subst b6
         simp (disch:=omega) [-getElem?_pos,-Int.natCast_eq_zero,wrap64,aY (l:=l),h3,dM,dh,o0,mZ,a2,c1,V.gA,eJ,kO,aY (l:=(nth l 0).c),hp,d4,d5];exact(stop (by omega)).symm
        ·have b7:¬ (nth l i).lv≤(nth l (i-1)).lv:=fun h=>b1 ⟨b6,h⟩
         have b4:0≤(i:Int)-1:=by omega
         simp (disch:=omega) [-getElem?_pos,-Int.natCast_eq_zero,wrap64,aY (l:=l),h3,dM,dh,o0,mZ,a2,c1,b6,b7,b4,h4,a4,V.gA,eJ,kO,aY (l:=(nth l i).c),hp,d4,d5];exact(stop (by omega)).symm
      ·rw[aK c1]at stop
       rcases nG i with b6|b6
       ·subst b6
        simp (disch:=omega) [-getElem?_pos,-Int.natCast_eq_zero,wrap64,aY (l:=l),h3,dM,dh,o0,mZ,a2,c1,c1];exact(stop (by omega)).symm
       ·have b7:¬ (nth l i).lv≤(nth l (i-1)).lv:=fun h=>b1 ⟨b6,h⟩
        have b4:0≤(i:Int)-1:=by omega
        simp (disch:=omega) [-getElem?_pos,-Int.natCast_eq_zero,wrap64,aY (l:=l),h3,dM,dh,o0,mZ,a2,c1,b6,b7,b4,h4,a4,c1];exact(stop (by omega)).symm
    ·rw[aK a1]at stop
     have a2:(!decide (0≤(nth l i).lv) || !decide ((nth l i).lv≤16777216))=true:=by simp;omega
     simp (disch:=omega) [-getElem?_pos,-Int.natCast_eq_zero,wrap64,aY (l:=l),h3,dM,dh,a2];exact(stop (by omega)).symm
   ·obtain rfl:i=l.length:=by omega
    rw[lC]at hq;rw[←hq,av (by omega)]at hW
    by_cases m1:0≤dC∧dC≤1000
    ·have m2:(!decide (0≤dC) || !decide (dC≤1000))=false:=by simp;omega
     by_cases m3:0≤move∧move≤1000
     ·have m4:(!decide (0≤move) || !decide (move≤1000))=false:=by simp;omega
      rw[av (by omega)]at hW
      simp (disch:=omega) [-getElem?_pos,-Int.natCast_eq_zero,wrap64,dM,dh,m2,m4];exact hW
     ·have m4:(!decide (0≤move) || !decide (move≤1000))=true:=by simp;omega
      rw[aK (by omega)]at hW
      simp (disch:=omega) [-getElem?_pos,-Int.natCast_eq_zero,wrap64,dM,dh,m2,m4];exact hW
    ·have m2:(!decide (0≤dC) || !decide (dC≤1000))=true:=by simp;omega
     rw[aK (by omega)]at hW
     simp (disch:=omega) [-getElem?_pos,-Int.natCast_eq_zero,wrap64,dM,dh,m2];exact hW)
theorem Ce(g:Gt)(G:List aP):aX F 141 [gt g] G=some (i64 (lH g),G) :=
 bL rfl rfl (by
  obtain⟨l,dC,move⟩:=g;generalize hW:lH ⟨l,dC,move⟩=W;unfold lH at hW;simp only at hW;simp (disch:=omega) [-getElem?_pos,-Int.natCast_eq_zero,wrap64,acM];refine bB (fun h1=>?_) (fun h1=>bB (fun h2=>?_) (fun h2=>?_))
  ·rw[aK (by omega)]at hW
   exact hW
  ·rw[av (by omega),aK (by omega)]at hW
   exact hW
  ·rw[av (by omega),av (by omega)]at hW
   refine go_loop (fun i:Nat=>aqH (D3 l) l.length i [D3 l,i64 dC,i64 move] G) (fun i=>i≤l.length∧du (pU l) (l.length-i) i=du (pU l) l.length 0) (fun i=>l.length-i) 0 rfl (by simp) ⟨by omega,rfl⟩ ?_
   rintro i ⟨hi,hq⟩;simp (disch:=omega) [-getElem?_pos,-Int.natCast_eq_zero,wrap64,acL];refine bB (fun h3=>?_) (fun h3=>?_)
   ·have h3:i<l.length:=by omega
    have h4:((i:Int)-1).toNat=i-1:=by omega
    rw[jq h3]at hq;have stop:pU l i≠0→W=pU l i:=fun h=>by
     rw[av h]at hq;rw[←hq,aK h]at hW;exact hW.symm
    unfold pU at stop;by_cases a1:0≤(nth l i).lv∧(nth l i).lv≤16777216
    ·have a2:(!decide (0≤(nth l i).lv) || !decide ((nth l i).lv≤16777216))=false:=by simp;omega
     have a3:0<i→0≤(i:Int)-1:=by omega
     have a4:i-1<l.length:=by omega
     rw[av (by omega)]at stop
     by_cases b1:0<i∧(nth l i).lv≤(nth l (i-1)).lv
     ·rw[aK b1]at stop
      have b2:0<i:=b1.1;have b3:=b1.2;have b4:0≤(i:Int)-1:=by omega
      simp (disch:=omega) [-getElem?_pos,-Int.natCast_eq_zero,wrap64,aY (l:=l),h3,dM,dh,a2,b2,b3,b4,h4,a4];exact(stop (by omega)).symm
     ·rw[av b1]at stop
      by_cases c1:gT (nth l i).c=0
      ·rw[av (by omega)]at stop
       have hp:=u7 c1;have hfw:=(m6 c1).jI;have c2:(((nth l i).c.length:Int)-1).toNat=(nth l i).c.length-1:=by omega
       have c3:(nth l i).c.length-1<(nth l i).c.length:=by omega
       have c4:0≤((nth l i).c.length:Int)-1:=by omega
       by_cases d1:(nth (nth l i).c 0).x=0∧(nth (nth l i).c 0).y=0
       ·rw[av (by omega)]at stop
        obtain⟨d2,d3⟩:=d1;by_cases e1:1073741824<(nth (nth l i).c ((nth l i).c.length-1)).y
        ·rw[aK e1]at stop
         rcases nG i with b6|b6
         ·subst b6
          simp (disch:=omega) [-getElem?_pos,-Int.natCast_eq_zero,wrap64,aY (l:=l),h3,dM,dh,o0,mZ,a2,c1,V.gA,eJ,kO,aY (l:=(nth l 0).c),hp,c2,c3,c4,d2,d3,e1];exact(stop (by omega)).symm
         ·have b7:¬ (nth l i).lv≤(nth l (i-1)).lv:=fun h=>b1 ⟨b6,h⟩
          have b4:0≤(i:Int)-1:=by omega
          simp (disch:=omega) [-getElem?_pos,-Int.natCast_eq_zero,wrap64,aY (l:=l),h3,dM,dh,o0,mZ,a2,c1,b6,b7,b4,h4,a4,V.gA,eJ,kO,aY (l:=(nth l i).c),hp,c2,c3,c4,d2,d3,e1];exact(stop (by omega)).symm
        ·have hz:pU l i=0:=by
          unfold pU;rw[av (by omega),av b1,av (by omega),av (by omega),av e1]
         rw[aK hz]at hq;rcases nG i with b6|b6
         ·subst b6
          simp (disch:=omega) [-getElem?_pos,-Int.natCast_eq_zero,wrap64,aY (l:=l),h3,dM,dh,o0,mZ,a2,c1,V.gA,eJ,kO,aY (l:=(nth l 0).c),hp,c2,c3,c4,d2,d3,e1];exact bu (0+1) (by simp) ⟨by omega,hq⟩ (by omega)
         ·have b7:¬ (nth l i).lv≤(nth l (i-1)).lv:=fun h=>b1 ⟨b6,h⟩
          have b4:0≤(i:Int)-1:=by omega
          simp (disch:=omega) [-getElem?_pos,-Int.natCast_eq_zero,wrap64,aY (l:=l),h3,dM,dh,o0,mZ,a2,c1,b6,b7,b4,h4,a4,V.gA,eJ,kO,aY (l:=(nth l i).c),hp,c2,c3,c4,d2,d3,e1];exact bu (i+1) (by simp) ⟨by omega,hq⟩ (by omega)
       ·rw[aK d1]at stop
        have d4:(decide ((nth (nth l i).c 0).x=0)&&decide ((nth (nth l i).c 0).y=0))=false:=by simpa using d1
        have d5:((nth (nth l i).c 0).x==0&&(nth (nth l i).c 0).y==0)=false:=by simpa using d1
        rcases nG i with b6|b6
        ·subst b6
         simp (disch:=omega) [-getElem?_pos,-Int.natCast_eq_zero,wrap64,aY (l:=l),h3,dM,dh,o0,mZ,a2,c1,V.gA,eJ,kO,aY (l:=(nth l 0).c),hp,d4,d5];exact(stop (by omega)).symm
        ·have b7:¬ (nth l i).lv≤(nth l (i-1)).lv:=fun h=>b1 ⟨b6,h⟩
         have b4:0≤(i:Int)-1:=by omega
         simp (disch:=omega) [-getElem?_pos,-Int.natCast_eq_zero,wrap64,aY (l:=l),h3,dM,dh,o0,mZ,a2,c1,b6,b7,b4,h4,a4,V.gA,eJ,kO,aY (l:=(nth l i).c),hp,d4,d5];exact(stop (by omega)).symm
      ·rw[aK c1]at stop
       rcases nG i with b6|b6
       ·subst b6
        simp (disch:=omega) [-getElem?_pos,-Int.natCast_eq_zero,wrap64,aY (l:=l),h3,dM,dh,o0,mZ,a2,c1,c1];exact(stop (by omega)).symm
       ·have b7:¬ (nth l i).lv≤(nth l (i-1)).lv:=fun h=>b1 ⟨b6,h⟩
        have b4:0≤(i:Int)-1:=by omega
        simp (disch:=omega) [-getElem?_pos,-Int.natCast_eq_zero,wrap64,aY (l:=l),h3,dM,dh,o0,mZ,a2,c1,b6,b7,b4,h4,a4,c1];exact(stop (by omega)).symm
    ·rw[aK a1]at stop
     have a2:(!decide (0≤(nth l i).lv) || !decide ((nth l i).lv≤16777216))=true:=by simp;omega
     simp (disch:=omega) [-getElem?_pos,-Int.natCast_eq_zero,wrap64,aY (l:=l),h3,dM,dh,a2];exact(stop (by omega)).symm
   ·obtain rfl:i=l.length:=by omega
    rw[lC]at hq;rw[←hq,av (by omega)]at hW
    by_cases m1:0≤dC∧dC≤1000
    ·have m2:(!decide (0≤dC) || !decide (dC≤1000))=false:=by simp;omega
     by_cases m3:0≤move∧move≤1000
     ·have m4:(!decide (0≤move) || !decide (move≤1000))=false:=by simp;omega
      rw[av (by omega)]at hW
      simp (disch:=omega) [-getElem?_pos,-Int.natCast_eq_zero,wrap64,dM,dh,m2,m4];exact hW
     ·have m4:(!decide (0≤move) || !decide (move≤1000))=true:=by simp;omega
      rw[aK (by omega)]at hW
      simp (disch:=omega) [-getElem?_pos,-Int.natCast_eq_zero,wrap64,dM,dh,m2,m4];exact hW
    ·have m2:(!decide (0≤dC) || !decide (dC≤1000))=true:=by simp;omega
     rw[aK (by omega)]at hW
     simp (disch:=omega) [-getElem?_pos,-Int.natCast_eq_zero,wrap64,dM,dh,m2];exact hW)
end Go.Proofs.YtcelmhaoipbdiaaGreat
