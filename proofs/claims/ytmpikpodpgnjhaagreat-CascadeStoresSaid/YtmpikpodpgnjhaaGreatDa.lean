/- Parts of the proof, joined: Mk1, Cur1, Cur2, Sto1, Sto2, Sto3, Un1, Un2, Un3, Un4, Mk2, Gat1. -/
import Derived.Test.YtmpikpodpgnjhaaGreatQV
namespace Go.Proofs.YtmpikpodpgnjhaaGreat
set_option linter.all false
open Go.Vm
attribute [local simp] mc me ma mb
def Be(n m:Int):Int:=(IntKind.i64.wrap (n.tmod m+m)).tmod m
theorem af5{n m:Int}(hm:m≠0)(G:List aP):a8 F 64 [i64 n,i64 m] G=some (i64 (Be n m),G) :=
 bV rfl rfl (by simp[RX,hm,Be])
abbrev ints(l:List Int):V:=.slice none 1 (l.map fun n=>[i64 n])
abbrev dk(l:List Int)(k:Nat):aP:=.cells [ints l,i64 k]
theorem af6{n:Int}{l:List Int}{k:Nat}(h:n<1∨l.length≤k):a8 F 23 [.bB 0 0,i64 n] [dk l k]=some (i64 0,[dk l k]) :=
 bV rfl rfl (by
  by_cases h1:n<1
  ·simp[F7,h1]
  ·have h2:l.length≤k:=h.resolve_left h1
   simp[F7,h1,h2])
theorem af7{n:Int}{l:List Int}{k:Nat}{v:Int}(h1:1≤n)(h2:l[k]?=some v)(hk:k<9223372036854775807):a8 F 23 [.bB 0 0,i64 n] [dk l k]=some (i64 (Be v n),[dk l (k+1)]) :=
 bV rfl rfl (by
  have hn:¬ n<1:=by omega
  have hl:¬ l.length≤k:=by have:=(List.getElem?_eq_some_iff.1 h2).1;omega
  simp (disch:=omega) [-getElem?_pos,wrap64,F7,hn,hl,h2,af5])
theorem af8{v n:Int}(h1:1≤n)(h2:n≤4611686018427387904):0≤Be v n∧Be v n<n:=by
 have h3:-n<v.tmod n:=by
  rcases Int.le_total 0 v with h|h
  ·have:=Int.tmod_nonneg n h;omega
  ·have h4:=Int.tmod_lt_of_pos (-v) (show 0<n by omega)
   rw[Int.neg_tmod]at h4;omega
 have h4:v.tmod n<n:=Int.tmod_lt_of_pos _ (by omega)
 unfold Be;rw[wrap64 (by omega) (by omega)]
 exact⟨Int.tmod_nonneg _ (by omega),Int.tmod_lt_of_pos _ (by omega)⟩
def dG(l:List Int)(k:Nat):Prop:=k≤l.length∧l.length≤9223372036854775807
theorem fQ{l:List Int}{k:Nat}(hd:dG l k)(n:Int)(hn:n≤4611686018427387904) :
  ∃v k',a8 F 23 [.bB 0 0,i64 n] [dk l k]=some (i64 v,[dk l k'])∧dG l k'∧0≤v∧(v<n∨v=0):=by
 by_cases h:n<1∨l.length≤k
 ·exact⟨0,k,af6 h,hd,by omega,.inr rfl⟩
 ·obtain⟨h1,h2⟩:=hd
  have h3:k<l.length:=by omega
  have h4:=af7 (n:=n) (l:=l) (k:=k) (v:=nth l k) (by omega) (dD h3) (by omega)
  have h5:=af8 (v:=nth l k) (n:=n) (by omega) hn
  exact⟨_,_,h4,⟨by omega,h2⟩,h5.1,.inl h5.2⟩
theorem GJ(l:List Int)(G:List aP):a8 F 13 [ints l] G=some (.bool (decide (l.length≤500)),G) :=
 bV rfl rfl (by simp[Ri];omega)
theorem LD(l:List Int):a8 F 14 [ints l] []=some (.bB 0 0,[dk l 0]) :=
 bV rfl rfl (by simp[Rj])
def dK(f:Nat→Int):Nat→Nat→Int
 |0,_=>0
 |m+1,i=>if f i=0 then dK f m (i+1) else f i
theorem ld{f:Nat→Int}{i n:Nat}(h:i<n):dK f (n-i) i=if f i=0 then dK f (n-(i+1)) (i+1) else f i:=by
 obtain⟨m,hm⟩:∃m,n-i=m+1:=⟨n-i-1,by omega⟩
 rw[hm,dK,show n-(i+1)=m by omega]
theorem rm{f:Nat→Int}:∀{m i:Nat},dK f m i=0→∀j,i≤j→j<i+m→f j=0
 |0,i,_,j,h1,h2=>by omega
 |m+1,i,h,j,h1,h2=>by
  unfold dK at h;split at h
  ·rename_i h0
   by_cases hj:j=i
   ·rw[hj];exact h0
   ·exact rm h j (by omega) (by omega)
  ·rename_i h0;exact absurd h h0
theorem qq{f:Nat→Int}:∀{m i:Nat},(∀j,i≤j→j<i+m→f j=0)→dK f m i=0
 |0,i,_=>rfl
 |m+1,i,h=>by
  unfold dK;rw[if_pos (h i (by omega) (by omega))]
  exact qq fun j h1 h2=>h j (by omega) (by omega)
theorem mI{f:Nat→Int}{n:Nat}:dK f (n-n) n=0:=by rw[Nat.sub_self];rfl
theorem dj(n m:Int)(G:List aP):a8 F 147 [i64 n,i64 m] G=some (.bool (decide (0≤n)&&decide (n≤m)),G) :=
 bV rfl rfl (by simp +contextual [wrap64,Tc])
theorem af9(n m:Int)(G:List aP):a8 F 115 [i64 n,i64 m] G=some (.bool (decide (0≤n)&&decide (n≤m)),G) :=
 bV rfl rfl (by simp +contextual [wrap64,SB])
theorem cN(n m:Int)(G:List aP):a8 F 57 [i64 n,i64 m] G=some (.bool (decide (0≤n)&&decide (n≤m)),G) :=
 bV rfl rfl (by simp[wrap64,RP,af9])
structure Pt where
 x:Int
 y:Int
 deriving Inhabited,DecidableEq
abbrev Pt.row(p:Pt):List V:=[i64 p.x,i64 p.y]
abbrev gQ(c:List Pt):V:=.slice none 2 (c.map Pt.row)
def gz(c:List Pt)(i:Nat):Int :=
 if ¬((0≤(nth c i).x∧(nth c i).x≤1073741824)∧0≤(nth c i).y∧(nth c i).y≤274877906944) then 1
 else if i=0 then 0
 else if (nth c i).x≤(nth c (i-1)).x∨(nth c i).y<(nth c (i-1)).y then 4
 else if (4611686018427387904:Int).tdiv ((nth c i).x-(nth c (i-1)).x)<(nth c i).y-(nth c (i-1)).y then 1 else 0
def fD(c:List Pt):Int:=if c.length=0 then 3 else if 100<c.length then 10 else dK (gz c) c.length 0
theorem GK{c:List Pt}{i:Nat}(h:gz c i=0):(0≤(nth c i).x∧(nth c i).x≤1073741824)∧0≤(nth c i).y∧(nth c i).y≤274877906944:=by
 unfold gz at h;split at h
 ·cases h
 ·rename_i h1;exact Decidable.of_not_not h1
theorem LF{c:List Pt}{i:Nat}(h:gz c i=0)(hi:0<i):(nth c (i-1)).x<(nth c i).x∧(nth c (i-1)).y≤(nth c i).y ∧
  (nth c i).y-(nth c (i-1)).y≤(4611686018427387904:Int).tdiv ((nth c i).x-(nth c (i-1)).x):=by
 unfold gz at h;split at h
 ·cases h
 ·rw[if_neg (by omega)]at h
  split at h
  ·cases h
  ·split at h
   ·cases h
   ·omega
theorem aga(a b:Int)(h:0<a)(G:List aP):a8 F 189 [i64 a,i64 b] G=some (.bool (decide ((4611686018427387904:Int).tdiv a<b)),G) :=
 bV rfl rfl (by
  have h1:0≤(4611686018427387904:Int).tdiv a:=Int.tdiv_nonneg (by omega) (by omega)
  have h2:(4611686018427387904:Int).tdiv a≤4611686018427387904:=by
   have:=Int.tdiv_le_self (a:=4611686018427387904) a (by omega)
   omega
  have h3:a≠0:=by omega
  simp (disch:=omega) [wrap64,TV,h,h3])
theorem mJ(c:List Pt)(G:List aP):a8 F 173 [gQ c] G=some (i64 (fD c),G) :=
 bV rfl rfl (by
  generalize hW:fD c=W;unfold fD at hW;simp +contextual (disch:=omega) [-getElem?_pos,-Int.natCast_eq_zero,wrap64,TF];refine gm (fun h=>?_) (fun h=>bK (fun h'=>?_) (fun h'=>?_))
  ·simp[-List.length_eq_zero_iff,-Int.natCast_eq_zero]at h
   rw[if_pos (by omega)]at hW
   exact hW
  ·simp[-List.length_eq_zero_iff,-Int.natCast_eq_zero]at h
   rw[if_neg (by omega),if_pos (by omega)]at hW
   simpa using hW
  ·have hq:dK (gz c) (c.length-0) 0=W:=by
    simp[-List.length_eq_zero_iff,-Int.natCast_eq_zero]at h;rw[if_neg (by omega),if_neg (by omega)]at hW
    exact hW
   refine go_loop (fun i:Nat=>aeO (gQ c) (gQ c) c.length i G) (fun i=>i≤c.length∧dK (gz c) (c.length-i) i=W∧∀j,j<i→gz c j=0) (fun i=>c.length-i) 0 rfl (by simp) ⟨by omega,hq,by omega⟩ ?_
   rintro i ⟨hi,hq,hz⟩;simp +contextual (disch:=omega) [-getElem?_pos,-Int.natCast_eq_zero,wrap64,TE];refine bK (fun h1=>?_) (fun h1=>?_)
   ·have h1:i<c.length:=by omega
    rw[ld h1]at hq;have e:=bb h1;simp +contextual (disch:=omega) [-getElem?_pos,-Int.natCast_eq_zero,wrap64,bb (l:=c),dj];refine gm (fun h2=>?_) (fun h2=>?_)
    ·simp +contextual (disch:=omega) [-getElem?_pos,-Int.natCast_eq_zero,wrap64,h2,dj]
     simp[-List.length_eq_zero_iff,-Int.natCast_eq_zero]at h2;rw[show gz c i=1 by rw[gz,if_pos (by omega)],if_neg (by decide)]at hq
     exact hq
    ·simp +contextual (disch:=omega) [-getElem?_pos,-Int.natCast_eq_zero,wrap64,h2,dj]
     simp[-List.length_eq_zero_iff,-Int.natCast_eq_zero]at h2;refine gm (fun h3=>?_) (fun h3=>bK (fun h4=>?_) (fun h4=>?_))
     ·simp[-List.length_eq_zero_iff,-Int.natCast_eq_zero]at h3
      rw[show gz c i=1 by rw[gz,if_pos (by omega)],if_neg (by decide)]at hq
      exact hq
     ·simp[-List.length_eq_zero_iff,-Int.natCast_eq_zero]at h3
      have h0:gz c i=0:=by rw[gz,if_neg (by omega),if_pos (by omega)]
      rw[h0,if_pos rfl]at hq;exact bL (i+1) (by simp) ⟨by omega,hq,fun j hj=>by rcases Nat.lt_or_ge j i with h|h;exact hz j h;rwa [show j=i by omega]⟩ (by omega)
     ·simp[-List.length_eq_zero_iff,-Int.natCast_eq_zero]at h3
      have h5:((i:Int)-1).toNat=i-1:=by omega
      have h6:i-1<c.length:=by omega
      have h7:0≤(i:Int)-1:=by omega
      have h8:=GK (hz (i-1) (by omega))
      simp +contextual (disch:=omega) [-getElem?_pos,-Int.natCast_eq_zero,wrap64,bb (l:=c),h5,h7];refine gm (fun h9=>?_) (fun h9=>?_)
      ·simp[-List.length_eq_zero_iff,-Int.natCast_eq_zero]at h9
       rw[show gz c i=4 by rw[gz,if_neg (by omega),if_neg (by omega),if_pos (by omega)],if_neg (by decide)]at hq
       exact hq
      ·simp[-List.length_eq_zero_iff,-Int.natCast_eq_zero]at h9
       simp +contextual (disch:=omega) [-getElem?_pos,-Int.natCast_eq_zero,wrap64,aga];refine bK (fun fx=>?_) (fun fx=>?_)
       ·rw[show gz c i=1 by rw[gz,if_neg (by omega),if_neg (by omega),if_neg (by omega),if_pos (by omega)],if_neg (by decide)]at hq
        exact hq
       ·have h0:gz c i=0:=by rw[gz,if_neg (by omega),if_neg (by omega),if_neg (by omega),if_neg (by omega)]
        rw[h0,if_pos rfl]at hq;exact bL (i+1) (by simp) ⟨by omega,hq,fun j hj=>by rcases Nat.lt_or_ge j i with h|h;exact hz j h;rwa [show j=i by omega]⟩ (by omega)
   ·obtain rfl:i=c.length:=by omega
    rw[mI]at hq;simp[←hq])
theorem kR(c:List Pt)(G:List aP):a8 F 164 [gQ c] G=some (i64 (fD c),G) :=
 bV rfl rfl (by
  generalize hW:fD c=W;unfold fD at hW;simp +contextual (disch:=omega) [-getElem?_pos,-Int.natCast_eq_zero,wrap64,Tv];refine gm (fun h=>?_) (fun h=>bK (fun h'=>?_) (fun h'=>?_))
  ·simp[-List.length_eq_zero_iff,-Int.natCast_eq_zero]at h
   rw[if_pos (by omega)]at hW
   exact hW
  ·simp[-List.length_eq_zero_iff,-Int.natCast_eq_zero]at h
   rw[if_neg (by omega),if_pos (by omega)]at hW
   simpa using hW
  ·have hq:dK (gz c) (c.length-0) 0=W:=by
    simp[-List.length_eq_zero_iff,-Int.natCast_eq_zero]at h;rw[if_neg (by omega),if_neg (by omega)]at hW
    exact hW
   refine go_loop (fun i:Nat=>aeE (gQ c) (gQ c) c.length i G) (fun i=>i≤c.length∧dK (gz c) (c.length-i) i=W∧∀j,j<i→gz c j=0) (fun i=>c.length-i) 0 rfl (by simp) ⟨by omega,hq,by omega⟩ ?_
   rintro i ⟨hi,hq,hz⟩;simp +contextual (disch:=omega) [-getElem?_pos,-Int.natCast_eq_zero,wrap64,Tu];refine bK (fun h1=>?_) (fun h1=>?_)
   ·have h1:i<c.length:=by omega
    rw[ld h1]at hq;have e:=bb h1;simp +contextual (disch:=omega) [-getElem?_pos,-Int.natCast_eq_zero,wrap64,bb (l:=c),cN];refine gm (fun h2=>?_) (fun h2=>?_)
    ·simp +contextual (disch:=omega) [-getElem?_pos,-Int.natCast_eq_zero,wrap64,h2,cN]
     simp[-List.length_eq_zero_iff,-Int.natCast_eq_zero]at h2;rw[show gz c i=1 by rw[gz,if_pos (by omega)],if_neg (by decide)]at hq
     exact hq
    ·simp +contextual (disch:=omega) [-getElem?_pos,-Int.natCast_eq_zero,wrap64,h2,cN]
     simp[-List.length_eq_zero_iff,-Int.natCast_eq_zero]at h2;refine gm (fun h3=>?_) (fun h3=>bK (fun h4=>?_) (fun h4=>?_))
     ·simp[-List.length_eq_zero_iff,-Int.natCast_eq_zero]at h3
      rw[show gz c i=1 by rw[gz,if_pos (by omega)],if_neg (by decide)]at hq
      exact hq
     ·simp[-List.length_eq_zero_iff,-Int.natCast_eq_zero]at h3
      have h0:gz c i=0:=by rw[gz,if_neg (by omega),if_pos (by omega)]
      rw[h0,if_pos rfl]at hq;exact bL (i+1) (by simp) ⟨by omega,hq,fun j hj=>by rcases Nat.lt_or_ge j i with h|h;exact hz j h;rwa [show j=i by omega]⟩ (by omega)
     ·simp[-List.length_eq_zero_iff,-Int.natCast_eq_zero]at h3
      have h5:((i:Int)-1).toNat=i-1:=by omega
      have h6:i-1<c.length:=by omega
      have h7:0≤(i:Int)-1:=by omega
      have h8:=GK (hz (i-1) (by omega))
      simp +contextual (disch:=omega) [-getElem?_pos,-Int.natCast_eq_zero,wrap64,bb (l:=c),h5,h7];refine gm (fun h9=>?_) (fun h9=>?_)
      ·simp[-List.length_eq_zero_iff,-Int.natCast_eq_zero]at h9
       rw[show gz c i=4 by rw[gz,if_neg (by omega),if_neg (by omega),if_pos (by omega)],if_neg (by decide)]at hq
       exact hq
      ·simp[-List.length_eq_zero_iff,-Int.natCast_eq_zero]at h9
       have jW:(nth c i).x-(nth c (i-1)).x≠0:=by omega
       have qU:(4611686018427387904:Int).tdiv ((nth c i).x-(nth c (i-1)).x)≤4611686018427387904:=by
        have:=Int.tdiv_le_self (a:=4611686018427387904) ((nth c i).x-(nth c (i-1)).x) (by omega)
        omega
       have UN:0≤(4611686018427387904:Int).tdiv ((nth c i).x-(nth c (i-1)).x):=Int.tdiv_nonneg (by omega) (by omega)
       simp +contextual (disch:=omega) [-getElem?_pos,-Int.natCast_eq_zero,wrap64,jW];refine bK (fun fx=>?_) (fun fx=>?_)
       ·rw[show gz c i=1 by rw[gz,if_neg (by omega),if_neg (by omega),if_neg (by omega),if_pos (by omega)],if_neg (by decide)]at hq
        exact hq
       ·have h0:gz c i=0:=by rw[gz,if_neg (by omega),if_neg (by omega),if_neg (by omega),if_neg (by omega)]
        rw[h0,if_pos rfl]at hq;exact bL (i+1) (by simp) ⟨by omega,hq,fun j hj=>by rcases Nat.lt_or_ge j i with h|h;exact hz j h;rwa [show j=i by omega]⟩ (by omega)
   ·obtain rfl:i=c.length:=by omega
    rw[mI]at hq;simp[←hq])
def nM(c:List Pt)(i:Nat)(x:Int):Int :=
 (nth c (i-1)).y+(((nth c i).y-(nth c (i-1)).y)*(x-(nth c (i-1)).x)).tdiv ((nth c i).x-(nth c (i-1)).x)
def ub(c:List Pt)(x:Int):Nat→Nat→Int
 |0,_=>(nth c (c.length-1)).y
 |m+1,i=>if x≤(nth c i).x then (if i=0 then (nth c i).y else nM c i x) else ub c x m (i+1)
def gK(c:List Pt)(x:Int):Int:=ub c x c.length 0
structure Cv(c:List Pt):Prop where
 pos:0<c.length
 jJ:c.length≤100
 x0:∀i,i<c.length→0≤(nth c i).x∧(nth c i).x≤1073741824
 y0:∀i,i<c.length→0≤(nth c i).y∧(nth c i).y≤274877906944
 up:∀i,0<i→i<c.length→(nth c (i-1)).x<(nth c i).x
 mono:∀i,0<i→i<c.length→(nth c (i-1)).y≤(nth c i).y
 prod:∀i,0<i→i<c.length→((nth c i).y-(nth c (i-1)).y)*((nth c i).x-(nth c (i-1)).x)≤4611686018427387904
theorem lh{c:List Pt}(h:fD c=0):Cv c:=by
 unfold fD at h;split at h
 ·cases h
 ·split at h
  ·cases h
  ·have hz:∀i,i<c.length→gz c i=0:=fun i hi=>rm h i (by omega) (by omega)
   refine⟨by omega,by omega,fun i hi=>(GK (hz i hi)).1,fun i hi=>(GK (hz i hi)).2,fun i h0 hi=>(LF (hz i hi) h0).1,fun i h0 hi=>(LF (hz i hi) h0).2.1,fun i h0 hi=>?_⟩
   obtain⟨h1,h2,h3⟩:=LF (hz i hi) h0;generalize GL:(nth c i).x-(nth c (i-1)).x=dx at *;generalize GM:(nth c i).y-(nth c (i-1)).y=dy at *;have h4:(4611686018427387904:Int).tdiv dx*dx≤4611686018427387904:=by
    have:=Int.mul_tdiv_add_tmod 4611686018427387904 dx;rw[Int.mul_comm]at this;have:=Int.tmod_nonneg (a:=4611686018427387904) dx (by omega)
    omega
   exact Int.le_trans (Int.mul_le_mul_of_nonneg_right h3 (by omega)) h4
theorem Cv.lt{c:List Pt}(h:Cv c):∀{i j:Nat},i<j→j<c.length→(nth c i).x<(nth c j).x:=by
 intro i j LG hj;induction j with
 |zero=>omega
 |succ j ih =>
  have:=h.up (j+1) (by omega) hj
  simp at this;rcases Nat.lt_or_ge i j with h1|h1
  ·have:=ih h1 (by omega);omega
  ·obtain rfl:i=j:=by omega
   exact this
theorem Cv.le{c:List Pt}(h:Cv c):∀{i j:Nat},i≤j→j<c.length→(nth c i).y≤(nth c j).y:=by
 intro i j LG hj;induction j with
 |zero=>obtain rfl:i=0:=by omega
        omega
 |succ j ih =>
  have:=h.mono (j+1) (by omega) hj
  simp at this;rcases Nat.lt_or_ge j i with h1|h1
  ·obtain rfl:i=j+1:=by omega
   omega
  ·have:=ih h1 (by omega);omega
theorem DF{c:List Pt}(h:Cv c){i:Nat}{x:Int}(h0:0<i)(hi:i<c.length)(h1:(nth c (i-1)).x≤x)(h2:x≤(nth c i).x) :
  0≤((nth c i).y-(nth c (i-1)).y)*(x-(nth c (i-1)).x)∧((nth c i).y-(nth c (i-1)).y)*(x-(nth c (i-1)).x)≤4611686018427387904 ∧
  0≤(((nth c i).y-(nth c (i-1)).y)*(x-(nth c (i-1)).x)).tdiv ((nth c i).x-(nth c (i-1)).x) ∧
  (((nth c i).y-(nth c (i-1)).y)*(x-(nth c (i-1)).x)).tdiv ((nth c i).x-(nth c (i-1)).x)≤(nth c i).y-(nth c (i-1)).y:=by
 have h3:=h.up i h0 hi;have h4:=h.mono i h0 hi;have h5:=h.prod i h0 hi;generalize GL:(nth c i).x-(nth c (i-1)).x=dx at *;generalize GM:(nth c i).y-(nth c (i-1)).y=dy at *;generalize ht:x-(nth c (i-1)).x=t at *;have h6:0≤dy*t:=Int.mul_nonneg (by omega) (by omega)
 have h7:dy*t≤dy*dx:=Int.mul_le_mul_of_nonneg_left (by omega) (by omega)
 refine⟨h6,by omega,Int.tdiv_nonneg h6 (by omega),?_⟩
 have h8:=Int.tdiv_le_tdiv (a:=dy*t) (b:=dy*dx) (c:=dx) (by omega) h7
 rwa [Int.mul_tdiv_cancel _ (by omega)]at h8
theorem DG{c:List Pt}{x:Int}{n:Nat}:∀{k i:Nat},i≤k→k≤n→(∀j,i≤j→j<k→(nth c j).x<x)→ub c x (n-i) i=ub c x (n-k) k:=by
 intro k;induction k with
 |zero=>intro i h1 _ _;obtain rfl:i=0:=by omega
        rfl
 |succ k ih =>
  intro i h1 h2 h3;rcases Nat.lt_or_ge k i with h|h
  ·obtain rfl:i=k+1:=by omega
   rfl
  ·rw[ih h (by omega) (fun j a b=>h3 j a (by omega))]
   obtain⟨m,hm⟩:∃m,n-k=m+1:=⟨n-k-1,by omega⟩
   have:=h3 k h (by omega)
   rw[hm,ub,if_neg (by omega),show n-(k+1)=m by omega]
theorem DH{c:List Pt}{x:Int}{n i:Nat}(hi:i<n)(h:x≤(nth c i).x):ub c x (n-i) i=if i=0 then (nth c i).y else nM c i x:=by
 obtain⟨m,hm⟩:∃m,n-i=m+1:=⟨n-i-1,by omega⟩
 rw[hm,ub,if_pos h]
theorem zm{c:List Pt}{x:Int}(h:Cv c)(h1:x≤(nth c 0).x):gK c x=(nth c 0).y:=by
 have:=DH (c:=c) (x:=x) (n:=c.length) h.pos h1;simpa [gK] using this
theorem u7{c:List Pt}{x:Int}{i:Nat}(h:Cv c)(h0:0<i)(hi:i<c.length)(h1:(nth c (i-1)).x≤x)(h2:x≤(nth c i).x):gK c x=nM c i x:=by
 have up:=h.up i h0 hi;by_cases hx:(nth c (i-1)).x<x
 ·have:=DG (c:=c) (x:=x) (n:=c.length) (i:=0) (k:=i) (by omega) (by omega) (fun j _ hj=>by
   rcases Nat.lt_or_ge j (i-1) with h3|h3
   ·have:=h.lt h3 (by omega);omega
   ·obtain rfl:j=i-1:=by omega
    exact hx)
  rw[DH hi h2,if_neg (by omega)]at this
  simpa [gK] using this
 ·have hx:x=(nth c (i-1)).x:=by omega
  subst hx;have:=DG (c:=c) (x:=(nth c (i-1)).x) (n:=c.length) (i:=0) (k:=i-1) (by omega) (by omega) (fun j _ hj=>h.lt (by omega) (by omega))
  rw[DH (n:=c.length) (i:=i-1) (by omega) (by omega)]at this
  have e:nM c i (nth c (i-1)).x=(nth c (i-1)).y:=by simp[nM]
  rw[e];simp only[Nat.sub_zero]at this;rw[gK,this];split
  ·rfl
  ·rename_i h3
   have h4:=h.up (i-1) (by omega) (by omega)
   rw[nM,Int.mul_tdiv_cancel _ (by omega)]
   omega
theorem GN{c:List Pt}{x:Int}(h:Cv c)(h1:(nth c (c.length-1)).x≤x):gK c x=(nth c (c.length-1)).y:=by
 have hp:=h.pos;rcases Nat.lt_or_ge 1 c.length with h2|h2
 ·by_cases hx:(nth c (c.length-1)).x<x
  ·have:=DG (c:=c) (x:=x) (n:=c.length) (i:=0) (k:=c.length) (by omega) (by omega) (fun j _ hj=>by
    rcases Nat.lt_or_ge j (c.length-1) with h3|h3
    ·have:=h.lt h3 (by omega);omega
    ·obtain rfl:j=c.length-1:=by omega
     exact hx)
   simp only[Nat.sub_zero,Nat.sub_self]at this;rw[gK,this,ub]
  ·obtain rfl:x=(nth c (c.length-1)).x:=by omega
   have hu:=h.up (c.length-1) (by omega) (by omega)
   rw[u7 h (i:=c.length-1) (by omega) (by omega) (by omega) (by omega),nM,Int.mul_tdiv_cancel _ (by omega)]
   omega
 ·by_cases hx:x≤(nth c 0).x
  ·rw[zm h hx,show c.length-1=0 by omega]
  ·have:=DG (c:=c) (x:=x) (n:=c.length) (i:=0) (k:=c.length) (by omega) (by omega) (fun j _ hj=>by
    obtain rfl:j=0:=by omega
    omega)
   simp only[Nat.sub_zero,Nat.sub_self]at this;rw[gK,this,ub]
theorem LH{c:List Pt}(h:Cv c)(x:Int):x≤(nth c 0).x∨(∃i,0<i∧i<c.length∧(nth c (i-1)).x≤x∧x≤(nth c i).x)∨(nth c (c.length-1)).x≤x:=by
 have hp:=h.pos;by_cases h1:x≤(nth c 0).x
 ·exact .inl h1
 ·have:∀k,k<c.length→(∃i,0<i∧i≤k∧(nth c (i-1)).x≤x∧x≤(nth c i).x)∨(nth c k).x≤x:=by
   intro k;induction k with
   |zero=>intro _;right;omega
   |succ k ih =>
    intro hk;rcases ih (by omega) with⟨i,a,b,d,e⟩ | h2
    ·exact .inl ⟨i,a,by omega,d,e⟩
    ·by_cases h3:x≤(nth c (k+1)).x
     ·exact .inl ⟨k+1,by omega,by omega,h2,h3⟩
     ·right;omega
  rcases this (c.length-1) (by omega) with⟨i,a,b,d,e⟩ | h2
  ·exact .inr (.inl ⟨i,a,by omega,d,e⟩)
  ·exact .inr (.inr h2)
theorem Bf{c:List Pt}(h:Cv c)(x:Int):(nth c 0).y≤gK c x∧gK c x≤(nth c (c.length-1)).y:=by
 have hp:=h.pos;have h0:=h.le (i:=0) (j:=c.length-1) (by omega) (by omega)
 rcases LH h x with h1 | ⟨i,a,b,d,e⟩ | h1
 ·rw[zm h h1];omega
 ·rw[u7 h a b d e]
  have h2:=DF h a b d e;have h3:=h.le (i:=0) (j:=i-1) (by omega) (by omega)
  have h4:=h.le (i:=i) (j:=c.length-1) (by omega) (by omega)
  unfold nM;omega
 ·rw[GN h h1];omega
theorem GO{c:List Pt}(h:Cv c)(x:Int)(G:List aP):a8 F 201 [gQ c,i64 x] G=some (i64 (gK c x),G) :=
 bV rfl rfl (by
  have hp:=h.pos;have hf:=h.jJ;generalize hW:gK c x=W;simp +contextual (disch:=omega) [-getElem?_pos,wrap64,Ua];refine go_loop (fun i:Nat=>afl (gQ c) x (gQ c) c.length i G) (fun i=>i≤c.length∧ub c x (c.length-i) i=W∧(0<i→(nth c (i-1)).x<x)) (fun i=>c.length-i) 0 rfl (by simp) ⟨by omega,hW,by omega⟩ ?_
  rintro i ⟨hi,hq,hl⟩;simp +contextual (disch:=omega) [-getElem?_pos,wrap64,T9];refine bK (fun h1=>?_) (fun h1=>?_)
  ·have h1:i<c.length:=by omega
   simp +contextual (disch:=omega) [-getElem?_pos,wrap64,bb (l:=c)];refine gm (fun h2=>?_) (fun h2=>bK (fun h3=>?_) (fun h3=>?_))
   ·simp[-List.length_eq_zero_iff,-Int.natCast_eq_zero]at h2
    obtain rfl:i=0:=by omega
    rw[DH h1 h2.1,if_pos rfl]at hq;exact hq
   ·simp[-List.length_eq_zero_iff,-Int.natCast_eq_zero]at h2
    have h4:0<i:=by omega
    have h5:1≤(i:Int):=by omega
    have h6:i-1<c.length:=by omega
    have h9:=hl h4;have h7:=DF h h4 h1 (by omega) h3
    have h8:=h.up i h4 h1;have fx:=h.x0 i h1;have jW:=h.x0 (i-1) h6;have qU:=h.y0 i h1;have UN:=h.y0 (i-1) h6;have LI:(nth c i).x-(nth c (i-1)).x≠0:=by omega
    rw[DH h1 h3,if_neg (by omega),nM]at hq
    simp +contextual (disch:=omega) [-getElem?_pos,wrap64,bb (l:=c),h5,LI];exact hq
   ·simp[-List.length_eq_zero_iff,-Int.natCast_eq_zero]at h2
    have:=DG (c:=c) (x:=x) (n:=c.length) (i:=i) (k:=i+1) (by omega) (by omega) (fun j a b=>by
     obtain rfl:j=i:=by omega
     omega)
    rw[this]at hq;exact bL (i+1) (by simp) ⟨by omega,hq,fun _=>by simp;omega⟩ (by omega)
  ·obtain rfl:i=c.length:=by omega
   have h2:((c.length:Int)-1).toNat=c.length-1:=by omega
   rw[Nat.sub_self,ub]at hq;simp +contextual (disch:=omega) [-getElem?_pos,wrap64,bb (l:=c),h2];exact hq)
theorem UO{c:List Pt}(h:Cv c)(x:Int)(G:List aP):a8 F 165 [gQ c,i64 x] G=some (i64 (gK c x),G) :=
 bV rfl rfl (by
  have hp:=h.pos;have hf:=h.jJ;generalize hW:gK c x=W;simp (disch:=omega) [-getElem?_pos,wrap64,Tx,bb (l:=c)];refine bK (fun h1=>?_) (fun h1=>?_)
  ·rw[zm h h1]at hW
   exact hW
  ·refine go_loop (fun i:Nat=>aeG (gQ c) x (i+1) G) (fun i=>i+1≤c.length∧(nth c i).x≤x) (fun i=>c.length-i) 0 rfl (by simp) ⟨by omega,by omega⟩ ?_
   rintro i ⟨hi,hl⟩;simp (disch:=omega) [-getElem?_pos,wrap64,Tw];refine bK (fun h2=>?_) (fun h2=>?_)
   ·have h2:i+1<c.length:=by omega
    have h3:((i:Int)+1).toNat=i+1:=by omega
    simp (disch:=omega) [-getElem?_pos,wrap64,bb (l:=c),h3];refine bK (fun h4=>?_) (fun h4=>?_)
    ·have h7:=DF h (i:=i+1) (x:=x) (by omega) h2 (by simpa using hl) (by omega)
     have h8:=h.up (i+1) (by omega) h2
     have fx:=h.x0 (i+1) h2;have jW:=h.x0 i (by omega)
     have qU:=h.y0 (i+1) h2;have UN:=h.y0 i (by omega)
     rw[u7 h (i:=i+1) (by omega) h2 (by simpa using hl) (by omega),nM]at hW
     simp only[Nat.add_sub_cancel]at h7 h8 hW;have LI:(nth c (i+1)).x-(nth c i).x≠0:=by omega
     simp (disch:=omega) [-getElem?_pos,wrap64,bb (l:=c),LI];exact hW
    ·exact bL (i+1) (by simp) ⟨by omega,by omega⟩ (by omega)
   ·obtain rfl:c.length-1=i:=by omega
    have h3:((c.length:Int)-1).toNat=c.length-1:=by omega
    rw[GN h hl]at hW;simp (disch:=omega) [-getElem?_pos,wrap64,bb (l:=c),h3];exact hW)
theorem LJ(c:List Pt)(x:Int)(G:List aP):a8 F 119 [gQ c,i64 x] G=some (.tuple [i64 (if fD c=0 then gK c x else 0),i64 (fD c)],G) :=
 bV rfl rfl (by
  by_cases h:fD c=0
  ·simp[wrap64,KV,kR,h,UO (lh h)]
  ·simp[wrap64,KV,kR,h])
structure Rs where
 c:List Pt
 d:Int
 l:Int
 f:Int
 s:Int
 t:Int
abbrev Rs.cells(r:Rs):List V:=[gQ r.c,i64 r.d,i64 r.l,i64 r.f,i64 r.s,i64 r.t]
def qt(c:List Pt)(i:Nat):Int:=if (nth c i).y≤(nth c (i-1)).y then 4 else 0
def qu(r:Rs):List Int:=[(nth r.c 0).x,r.d,r.l,r.f,r.s,r.t,(nth r.c (r.c.length-1)).x]
def oy(l:List Int)(i:Nat):Int:=if nth l i<nth l (i-1) then 4 else 0
def gL(r:Rs):Int :=
 if fD r.c≠0 then fD r.c else if r.c.length<2 then 3 else if 16777216<(nth r.c (r.c.length-1)).x then 1
 else if dK (qt r.c) (r.c.length-1) 1=0 then dK (oy (qu r)) (7-1) 1 else 4
theorem UP{c:List Pt}(h:fD c=0):c.length≤100:=by
 unfold fD at h;split at h
 ·cases h
 ·split at h
  ·cases h
  ·omega
theorem UQ(r:Rs)(G:List aP):a8 F 128 [.agg r.cells] G=some (i64 (gL r),G) :=
 bV rfl rfl (by
  generalize hW:gL r=W;unfold gL at hW;simp (disch:=omega) [-getElem?_pos,wrap64,SV,mJ];refine gm (fun h=>?_) (fun h=>?_)
  ·simp[-List.length_eq_zero_iff,-Int.natCast_eq_zero]at h
   rw[if_pos (by omega)]at hW
   exact hW
  ·simp[-List.length_eq_zero_iff,-Int.natCast_eq_zero]at h
   rw[if_neg (by omega)]at hW
   refine bK (fun h2=>?_) (fun h2=>?_)
   ·rw[if_pos (by omega)]at hW
    simpa using hW
   ·rw[if_neg (by omega)]at hW
    have h3:((r.c.length:Int)-1).toNat=r.c.length-1:=by omega
    have h4:r.c.length-1<r.c.length:=by omega
    have h5:0≤(r.c.length:Int)-1:=by omega
    have hl:=UP h;simp (disch:=omega) [-getElem?_pos,wrap64,bb (l:=r.c),h3,h4,h5];refine bK (fun h6=>?_) (fun h6=>?_)
    ·rw[if_pos (by omega)]at hW
     simpa using hW
    ·rw[if_neg (by omega)]at hW
     have hq:(if dK (qt r.c) (r.c.length-1) 1=0 then dK (oy (qu r)) (7-1) 1 else (4:Int))=W:=hW
     clear hW
     refine go_loop (fun i:Nat=>adY r.c.length i r.cells G) (fun i=>1≤i∧i≤r.c.length∧(if dK (qt r.c) (r.c.length-i) i=0 then dK (oy (qu r)) (7-1) 1 else (4:Int))=W) (fun i=>r.c.length-i) 1 rfl (by simp) ⟨by omega,by omega,hq⟩ ?_
     rintro i ⟨LK,hi,hq⟩;simp (disch:=omega) [-getElem?_pos,wrap64,SR];refine bK (fun h7=>?_) (fun h7=>?_)
     ·have h7:i<r.c.length:=by omega
      rw[ld h7]at hq;have h8:((i:Int)-1).toNat=i-1:=by omega
      have h9:i-1<r.c.length:=by omega
      have fx:0≤(i:Int)-1:=by omega
      simp (disch:=omega) [-getElem?_pos,wrap64,bb (l:=r.c),h8,h9,fx,h7];refine bK (fun jW=>?_) (fun jW=>?_)
      ·have e:qt r.c i=4:=by rw[qt,if_pos jW]
       rw[e]at hq;simpa using hq
      ·have e:qt r.c i=0:=by rw[qt,if_neg jW]
       rw[e,if_pos rfl]at hq;exact bL (i+1) (by simp) ⟨by omega,by omega,hq⟩ (by omega)
     ·have h7:i=r.c.length:=by omega
      subst h7;rw[mI]at hq;rw[if_pos rfl]at hq;simp (disch:=omega) [-getElem?_pos,wrap64,bb (l:=r.c),h3,h4,h5];have hL:(qu r).length=7:=rfl;have hO:[V.int IntKind.i64 (nth r.c 0).x,V.int IntKind.i64 r.d,V.int IntKind.i64 r.l,V.int IntKind.i64 r.f,V.int IntKind.i64 r.s,V.int IntKind.i64 r.t,V.int IntKind.i64 (nth r.c (r.c.length-1)).x]=(qu r).map (V.int .i64):=rfl;rw[hO];generalize qu r=L at hq hL ⊢;refine go_loop (fun i:Nat=>ad0 i (L.map (V.int .i64)) G) (fun i=>1≤i∧i≤7∧dK (oy L) (7-i) i=W) (fun i=>7-i) 1 rfl (by simp) ⟨by omega,by omega,hq⟩ ?_
      rintro j ⟨nf,hj,hq⟩;simp (disch:=omega) [-getElem?_pos,wrap64,SS];refine bK (fun h7=>?_) (fun h7=>?_)
      ·have h7:j<7:=by omega
       rw[ld h7]at hq;have h8:((j:Int)-1).toNat=j-1:=by omega
       have h9:j-1<L.length:=by omega
       have fx:0≤(j:Int)-1:=by omega
       have jW:j<L.length:=by omega
       simp (disch:=omega) [-getElem?_pos,wrap64,bb (l:=L),h8,h9,fx,h7,jW,hL];refine bK (fun qU=>?_) (fun qU=>?_)
       ·have e:oy L j=4:=by rw[oy,if_pos qU]
        rw[e]at hq;simpa using hq
       ·have e:oy L j=0:=by rw[oy,if_neg qU]
        rw[e,if_pos rfl]at hq;exact bL (j+1) (by simp) ⟨by omega,by omega,hq⟩ (by omega)
      ·have h7:j=7:=by omega
       subst h7;simpa [dK] using hq)
theorem qv{r:Rs}(h:gL r=0):fD r.c=0:=by
 unfold gL at h;split at h
 ·rename_i h1;exact h
 ·rename_i h1;exact Decidable.of_not_not h1
theorem UR{c:List Pt}(h:Cv c):∀{m i:Nat},i+m<c.length→(nth c i).x≤(nth c (i+m)).x
 |0,i,_=>by simp
 |m+1,i,hi=>by
  have h1:=UR h (m:=m) (i:=i) (by omega)
  have h2:=h.up (i+m+1) (by omega) (by omega)
  have h3:i+m+1-1=i+m:=by omega
  rw[h3]at h2;have h4:i+(m+1)=i+m+1:=by omega
  rw[h4];omega
theorem xF(r:Rs)(G:List aP):a8 F 131 [.agg r.cells] G=some (i64 (gL r),G) :=
 bV rfl rfl (by
  generalize hW:gL r=W;unfold gL at hW;by_cases h:fD r.c=0
  ·rw[if_neg (by omega)]at hW
   have hl:=UP h;simp (disch:=omega) [-getElem?_pos,wrap64,K1,kR,h];refine bK (fun h2=>?_) (fun h2=>?_)
   ·rw[if_pos (by omega)]at hW
    simpa using hW
   ·rw[if_neg (by omega)]at hW
    have h3:((r.c.length:Int)-1).toNat=r.c.length-1:=by omega
    have h4:r.c.length-1<r.c.length:=by omega
    have h5:0≤(r.c.length:Int)-1:=by omega
    refine go_loop (fun i:Nat=>ad7 r.c.length (gQ r.c) r.c.length i r.cells G) (fun i=>i≤r.c.length∧∀j,j<i→(nth r.c j).x≤16777216) (fun i=>r.c.length-i) 0 rfl (by simp) ⟨by omega,by omega⟩ ?_
    rintro i ⟨hi,hz⟩;simp (disch:=omega) [-getElem?_pos,wrap64,SZ];refine bK (fun h6=>?_) (fun h6=>?_)
    ·have h6:i<r.c.length:=by omega
     simp (disch:=omega) [-getElem?_pos,wrap64,bb (l:=r.c),h6];refine bK (fun h7=>?_) (fun h7=>?_)
     ·have h8:=UR (lh h) (m:=r.c.length-1-i) (i:=i) (by omega)
      rw[show i+(r.c.length-1-i)=r.c.length-1 by omega]at h8
      rw[if_pos (by omega)]at hW
      simpa using hW
     ·exact bL (i+1) (by simp) ⟨by omega,fun j hj=>by rcases Nat.lt_or_ge j i with h|h;exact hz j h;rw[show j=i by omega];omega⟩ (by omega)
    ·have h6:i=r.c.length:=by omega
     subst h6;have h8:=hz (r.c.length-1) (by omega)
     rw[if_neg (by omega)]at hW
     have hq:(if dK (qt r.c) (r.c.length-1) 1=0 then dK (oy (qu r)) (7-1) 1 else (4:Int))=W:=hW
     clear hW
     refine go_loop (fun i:Nat=>ad9 r.c.length i r.cells G) (fun i=>1≤i∧i≤r.c.length∧(if dK (qt r.c) (r.c.length-i) i=0 then dK (oy (qu r)) (7-1) 1 else (4:Int))=W) (fun i=>r.c.length-i) 1 rfl (by simp) ⟨by omega,by omega,hq⟩ ?_
     rintro i ⟨LK,hi,hq⟩;simp (disch:=omega) [-getElem?_pos,wrap64,S4];refine bK (fun h7=>?_) (fun h7=>?_)
     ·have h7:i<r.c.length:=by omega
      rw[ld h7]at hq;have h8:((i:Int)-1).toNat=i-1:=by omega
      have h9:i-1<r.c.length:=by omega
      have fx:0≤(i:Int)-1:=by omega
      simp (disch:=omega) [-getElem?_pos,wrap64,bb (l:=r.c),h8,h9,fx,h7];refine bK (fun jW=>?_) (fun jW=>?_)
      ·have e:qt r.c i=4:=by rw[qt,if_pos jW]
       rw[e]at hq;simpa using hq
      ·have e:qt r.c i=0:=by rw[qt,if_neg jW]
       rw[e,if_pos rfl]at hq;exact bL (i+1) (by simp) ⟨by omega,by omega,hq⟩ (by omega)
     ·have h7:i=r.c.length:=by omega
      subst h7;rw[mI]at hq;rw[if_pos rfl]at hq;simp (disch:=omega) [-getElem?_pos,wrap64,bb (l:=r.c),h3,h4,h5];have hL:(qu r).length=7:=rfl;have hO:[[V.int IntKind.i64 (nth r.c 0).x],[V.int IntKind.i64 r.d],[V.int IntKind.i64 r.l],[V.int IntKind.i64 r.f],[V.int IntKind.i64 r.s],[V.int IntKind.i64 r.t],[V.int IntKind.i64 (nth r.c (r.c.length-1)).x]]=(qu r).map (fun n=>[V.int .i64 n]):=rfl;rw[hO];generalize qu r=L at hq hL ⊢
      refine go_loop (fun i:Nat=>aeb (.slice none 1 (L.map (fun n=>[V.int .i64 n]))) i G) (fun i=>1≤i∧i≤7∧dK (oy L) (7-i) i=W) (fun i=>7-i) 1 rfl (by simp) ⟨by omega,by omega,hq⟩ ?_
      rintro j ⟨nf,hj,hq⟩;simp (disch:=omega) [-getElem?_pos,wrap64,S5,hL];refine bK (fun h7=>?_) (fun h7=>?_)
      ·have h7:j<7:=by omega
       rw[ld h7]at hq;have h8:((j:Int)-1).toNat=j-1:=by omega
       have h9:j-1<L.length:=by omega
       have fx:0≤(j:Int)-1:=by omega
       have jW:j<L.length:=by omega
       simp (disch:=omega) [-getElem?_pos,wrap64,bb (l:=L),h8,h9,fx,h7,jW,hL];refine bK (fun qU=>?_) (fun qU=>?_)
       ·have e:oy L j=4:=by rw[oy,if_pos qU]
        rw[e]at hq;simpa using hq
       ·have e:oy L j=0:=by rw[oy,if_neg qU]
        rw[e,if_pos rfl]at hq;exact bL (j+1) (by simp) ⟨by omega,by omega,hq⟩ (by omega)
      ·have h7:j=7:=by omega
       subst h7;simpa [dK] using hq
  ·rw[if_pos h]at hW
   simp (disch:=omega) [-getElem?_pos,wrap64,K1,kR,h];exact hW)
def qw(r:Rs)(l:Int):Int:=if gL r≠0 then gL r else if 0≤l∧l≤16777216 then 0 else 1
theorem agb{r:Rs}{l:Int}(h:qw r l=0):gL r=0:=by
 unfold qw at h;split at h
 ·exact h
 ·rename_i h1;exact Decidable.of_not_not h1
theorem US(r:Rs)(l:Int)(G:List aP):a8 F 118 [.agg r.cells,i64 l] G=some (i64 (qw r l),G) :=
 bV rfl rfl (by
  by_cases h:gL r=0
  ·by_cases h1:0≤l
   ·by_cases h2:l≤16777216
    ·simp[wrap64,Dq,xF,h,h1,h2,cN,qw]
    ·simp[wrap64,Dq,xF,h,h1,h2,cN,qw]
   ·simp[wrap64,Dq,xF,h,h1,cN,qw]
  ·simp[wrap64,Dq,xF,h,qw])
theorem GP(r:Rs)(l:Int)(G:List aP):a8 F 59 [.agg r.cells,i64 l] G=some (.tuple [i64 (if qw r l=0 then gK r.c l else 0),i64 (qw r l)],G) :=
 bV rfl rfl (by
  by_cases h:qw r l=0
  ·simp[wrap64,KL,US,h,LJ,qv (agb h)]
  ·simp[wrap64,KL,US,h])
def zn(c:List Pt)(y:Int)(i:Nat):Int :=
 (nth c i).x+((y-(nth c i).y+1)*((nth c (i+1)).x-(nth c i).x)-1).tdiv ((nth c (i+1)).y-(nth c i).y)
def pM(c:List Pt)(y:Int):Nat→Nat→Int
 |0,_=>(nth c (c.length-1)).x
 |m+1,i=>if y<(nth c (i+1)).y then zn c y i else pM c y m (i+1)
def u9(c:List Pt)(y:Int):Int:=pM c y (c.length-1) 0
theorem agc{c:List Pt}{y:Int}{i n:Nat}(h:i<n):pM c y (n-i) i=if y<(nth c (i+1)).y then zn c y i else pM c y (n-(i+1)) (i+1):=by
 obtain⟨m,hm⟩:∃m,n-i=m+1:=⟨n-i-1,by omega⟩
 rw[hm,pM,show n-(i+1)=m by omega]
theorem UT{c:List Pt}(h:fD c=0)(y:Int)(G:List aP) :
  a8 F 203 [gQ c,i64 y] G=some (.tuple [i64 (if y<(nth c 0).y then 0 else u9 c y),.bool (decide ((nth c 0).y≤y)),i64 0],G) :=
 bV rfl rfl (by
  have hc:=lh h;have hp:=hc.pos;have hl:=hc.jJ;simp (disch:=omega) [-getElem?_pos,wrap64,Uc,mJ,h,bb (l:=c),hp];refine bK (fun h1=>⟨fun h2=>absurd h1 (by omega),h1⟩) (fun h1=>?_)
  have hT:(List.take c.length (List.map Pt.row c)).tail=c.tail.map Pt.row:=by
   rw[List.take_of_length_le (by simp),List.map_tail]
  have hTl:c.tail.length=c.length-1:=by simp
  have UU:∀i,nth c.tail i=nth c (i+1):=fun i=>by simp[nth]
  rw[hT];generalize c.tail=T at hTl UU ⊢;refine go_loop (fun i:Nat=>afn (gQ c) y (.slice none 2 (T.map Pt.row)) ((c.length-1:Nat):Int) i G) (fun i=>i≤c.length-1∧pM c y (c.length-1-i) i=u9 c y∧(nth c i).y≤y) (fun i=>c.length-1-i) 0 rfl (by simp) ⟨by omega,rfl,by omega⟩ ?_
  rintro i ⟨hi,hq,hy⟩;simp (disch:=omega) [-getElem?_pos,wrap64,Ub];refine bK (fun h2=>?_) (fun h2=>?_)
  ·have h2:i<c.length-1:=by omega
   rw[agc h2]at hq;have h3:i<T.length:=by omega
   have h4:i<c.length:=by omega
   simp (disch:=omega) [-getElem?_pos,wrap64,bb (l:=T),bb (l:=c),h3,h4,UU];refine bK (fun h5=>?_) (fun h5=>?_)
   ·rw[if_pos h5]at hq
    have y1:=hc.y0 i h4;have y2:=hc.y0 (i+1) (by omega)
    have x1:=hc.x0 i h4;have x2:=hc.x0 (i+1) (by omega)
    have u1:=hc.up (i+1) (by omega) (by omega)
    have u2:=hc.prod (i+1) (by omega) (by omega)
    simp only[Nat.add_sub_cancel]at u1 u2;have a1:(y-(nth c i).y+1)*((nth c (i+1)).x-(nth c i).x)≤((nth c (i+1)).y-(nth c i).y)*((nth c (i+1)).x-(nth c i).x):=Int.mul_le_mul_of_nonneg_right (by omega) (by omega)
    have a2:0<(y-(nth c i).y+1)*((nth c (i+1)).x-(nth c i).x):=Int.mul_pos (by omega) (by omega)
    have b1:0≤((y-(nth c i).y+1)*((nth c (i+1)).x-(nth c i).x)-1).tdiv ((nth c (i+1)).y-(nth c i).y):=Int.tdiv_nonneg (by omega) (by omega)
    have b2:((y-(nth c i).y+1)*((nth c (i+1)).x-(nth c i).x)-1).tdiv ((nth c (i+1)).y-(nth c i).y)≤(y-(nth c i).y+1)*((nth c (i+1)).x-(nth c i).x)-1:=Int.tdiv_le_self _ (by omega)
    have d0:¬ (nth c (i+1)).y-(nth c i).y=0:=by omega
    have e0:¬ y<(nth c 0).y:=h1;have e1:(nth c 0).y≤y:=by omega
    simp (disch:=omega) [-getElem?_pos,wrap64,wrap64,d0,e0,e1];rw[←hq];rfl
   ·rw[if_neg h5]at hq
    exact bL (i+1) (by simp) ⟨by omega,hq,by omega⟩ (by omega)
  ·have h2:i=c.length-1:=by omega
   subst h2;have h4:c.length-1<c.length:=by omega
   have h5:((c.length:Int)-1).toNat=c.length-1:=by omega
   have e0:¬ y<(nth c 0).y:=h1;have e1:(nth c 0).y≤y:=by omega
   rw[Nat.sub_self]at hq;simp (disch:=omega) [-getElem?_pos,wrap64,bb (l:=c),h4,h5,e0,e1];rw[←hq];rfl)
def g5(r:Rs)(v:Int):Int:=if v<(nth r.c 0).y then (nth r.c 0).x else u9 r.c v
theorem age{r:Rs}(h:gL r=0)(v:Int)(G:List aP):a8 F 196 [.agg r.cells,i64 v] G=some (i64 (g5 r v),G) :=
 bV rfl rfl (by
  have hp:=(lh (qv h)).pos;by_cases h1:v<(nth r.c 0).y
  ·have h2:¬ (nth r.c 0).y≤v:=by omega
   simp[-getElem?_pos,wrap64,Lp,UT (qv h),h1,h2,bb (l:=r.c),hp,g5]
  ·have h2:(nth r.c 0).y≤v:=by omega
   simp[-getElem?_pos,wrap64,Lp,UT (qv h),h1,h2,bb (l:=r.c),hp,g5])
structure Bd where
 lo:Int
 hi:Int
 deriving Inhabited,DecidableEq
abbrev Bd.row(b:Bd):List V:=[i64 b.lo,i64 b.hi]
abbrev zo(l:List Bd):V:=.slice none 2 (l.map Bd.row)
structure Un where
 table:List Pt
 least:Int
 c5:Int
 fe:List Bd
 up:Int
 down:Int
 deriving Inhabited,DecidableEq
abbrev Un.row(u:Un):List V:=[gQ u.table,i64 u.least,i64 u.c5,zo u.fe,i64 u.up,i64 u.down]
abbrev un(u:Un):V:=.agg u.row
def j7(z:List Bd)(i:Nat):Int :=
 if ¬((0≤(nth z i).lo∧(nth z i).lo≤1073741824)∧0≤(nth z i).hi∧(nth z i).hi≤1073741824) then 1 else if (nth z i).hi≤(nth z i).lo then 4 else 0
def gp(u:Un):Int :=
 if fD u.table≠0 then fD u.table
 else if 1073741824<(nth u.table (u.table.length-1)).y then 1
 else if u.least<1∨u.c5<u.least∨1073741824<u.c5 then 1
 else if 10<u.fe.length then 10
 else if dK (j7 u.fe) u.fe.length 0≠0 then dK (j7 u.fe) u.fe.length 0
 else if ¬((0≤u.up∧u.up≤1000)∧0≤u.down∧u.down≤1000) then 1 else 0
theorem rn{c:List Pt}(h:fD c=0):0<c.length:=(lh h).pos
theorem qx(u:Un)(G:List aP):a8 F 129 [un u] G=some (i64 (gp u),G) :=
 bV rfl rfl (by
  obtain⟨c,least,c5,z,up,down⟩:=u;generalize hW:gp ⟨c,least,c5,z,up,down⟩=W;unfold gp at hW;simp only at hW;by_cases hc:fD c=0
  ·have hp:=rn hc
   have hf:=(lh hc).jJ;have h2:((c.length:Int)-1).toNat=c.length-1:=by omega
   rw[if_neg (by simpa using hc)]at hW
   simp +contextual (disch:=omega) [-getElem?_pos,wrap64,KZ,mJ,hc,bb (l:=c),h2];refine bK (fun h3=>?_) (fun h3=>?_)
   ·rw[if_pos (by omega)]at hW
    exact hW
   refine gm (fun h4=>?_) (fun h4=>?_)
   ·simp[-List.length_eq_zero_iff,-Int.natCast_eq_zero]at h4
    rw[if_neg (by omega),if_pos (by omega)]at hW
    exact hW
   simp[-List.length_eq_zero_iff,-Int.natCast_eq_zero]at h4;rw[if_neg (by omega),if_neg (by omega)]at hW
   refine bK (fun h5=>?_) (fun h5=>?_)
   ·rw[if_pos (by omega)]at hW
    exact hW
   rw[if_neg (by omega)]at hW
   refine go_loop (fun i:Nat=>ad2 (zo z) z.length i [gQ c,i64 least,i64 c5,zo z,i64 up,i64 down] G) (fun i=>i≤z.length∧dK (j7 z) (z.length-i) i=dK (j7 z) z.length 0) (fun i=>z.length-i) 0 rfl (by simp) ⟨by omega,rfl⟩ ?_
   rintro i ⟨hi,hq⟩;simp +contextual (disch:=omega) [-getElem?_pos,wrap64,SW];refine bK (fun h1=>?_) (fun h1=>?_)
   ·have h1:i<z.length:=by omega
    rw[ld h1]at hq;simp +contextual (disch:=omega) [-getElem?_pos,wrap64,bb (l:=z),dj];refine gm (fun h6=>?_) (fun h6=>?_)
    ·simp +contextual (disch:=omega) [-getElem?_pos,wrap64,h6,dj]
     simp[-List.length_eq_zero_iff,-Int.natCast_eq_zero]at h6;rw[show j7 z i=1 by rw[j7,if_pos (by omega)],if_neg (by decide)]at hq
     rw[←hq,if_pos (by decide)]at hW
     exact hW
    ·simp +contextual (disch:=omega) [-getElem?_pos,wrap64,h6,dj]
     simp[-List.length_eq_zero_iff,-Int.natCast_eq_zero]at h6;refine gm (fun h7=>?_) (fun h7=>bK (fun h8=>?_) (fun h8=>?_))
     ·simp[-List.length_eq_zero_iff,-Int.natCast_eq_zero]at h7
      rw[show j7 z i=1 by rw[j7,if_pos (by omega)],if_neg (by decide)]at hq
      rw[←hq,if_pos (by decide)]at hW
      exact hW
     ·simp[-List.length_eq_zero_iff,-Int.natCast_eq_zero]at h7
      rw[show j7 z i=4 by rw[j7,if_neg (by omega),if_pos (by omega)],if_neg (by decide)]at hq
      rw[←hq,if_pos (by decide)]at hW
      exact hW
     ·simp[-List.length_eq_zero_iff,-Int.natCast_eq_zero]at h7
      rw[show j7 z i=0 by rw[j7,if_neg (by omega),if_neg (by omega)],if_pos rfl]at hq
      exact bL (i+1) (by simp) ⟨by omega,hq⟩ (by omega)
   ·obtain rfl:i=z.length:=by omega
    rw[mI]at hq;rw[←hq,if_neg (by decide)]at hW
    simp +contextual (disch:=omega) [-getElem?_pos,wrap64,dj];refine gm (fun h6=>?_) (fun h6=>?_)
    ·simp +contextual (disch:=omega) [-getElem?_pos,wrap64,h6,dj]
     simp[-List.length_eq_zero_iff,-Int.natCast_eq_zero]at h6;rw[if_pos (by omega)]at hW
     exact hW
    ·simp +contextual (disch:=omega) [-getElem?_pos,wrap64,h6,dj]
     simp[-List.length_eq_zero_iff,-Int.natCast_eq_zero]at h6;refine gm (fun h7=>?_) (fun h7=>?_)
     ·simp[-List.length_eq_zero_iff,-Int.natCast_eq_zero]at h7
      rw[if_pos (by omega)]at hW
      exact hW
     ·simp[-List.length_eq_zero_iff,-Int.natCast_eq_zero]at h7
      rw[if_neg (by omega)]at hW
      exact hW
  ·rw[if_pos (by simpa using hc)]at hW
   simp +contextual (disch:=omega) [-getElem?_pos,wrap64,KZ,mJ,hc];exact hW)
theorem mg(u:Un)(G:List aP):a8 F 132 [un u] G=some (i64 (gp u),G) :=
 bV rfl rfl (by
  obtain⟨c,least,c5,z,up,down⟩:=u;generalize hW:gp ⟨c,least,c5,z,up,down⟩=W;unfold gp at hW;simp only at hW;by_cases hc:fD c=0
  ·have hp:=rn hc
   have hf:=(lh hc).jJ;have h2:((c.length:Int)-1).toNat=c.length-1:=by omega
   rw[if_neg (by simpa using hc)]at hW
   simp +contextual (disch:=omega) [-getElem?_pos,wrap64,K2,kR,hc,bb (l:=c),h2];refine gm (fun h4=>?_) (fun h4=>?_)
   ·simp[-List.length_eq_zero_iff,-Int.natCast_eq_zero]at h4
    by_cases h3:1073741824<(nth c (c.length-1)).y
    ·rw[if_pos h3]at hW
     exact hW
    ·rw[if_neg h3,if_pos (by omega)]at hW
     exact hW
   simp[-List.length_eq_zero_iff,-Int.natCast_eq_zero]at h4;rw[if_neg (by omega),if_neg (by omega)]at hW
   refine bK (fun h5=>?_) (fun h5=>?_)
   ·rw[if_pos (by omega)]at hW
    exact hW
   rw[if_neg (by omega)]at hW
   refine go_loop (fun i:Nat=>aed (zo z) z.length i [gQ c,i64 least,i64 c5,zo z,i64 up,i64 down] G) (fun i=>i≤z.length∧dK (j7 z) (z.length-i) i=dK (j7 z) z.length 0) (fun i=>z.length-i) 0 rfl (by simp) ⟨by omega,rfl⟩ ?_
   rintro i ⟨hi,hq⟩;simp +contextual (disch:=omega) [-getElem?_pos,wrap64,S6];refine bK (fun h1=>?_) (fun h1=>?_)
   ·have h1:i<z.length:=by omega
    rw[ld h1]at hq;simp +contextual (disch:=omega) [-getElem?_pos,wrap64,bb (l:=z),cN];refine gm (fun h6=>?_) (fun h6=>?_)
    ·simp +contextual (disch:=omega) [-getElem?_pos,wrap64,h6,cN]
     simp[-List.length_eq_zero_iff,-Int.natCast_eq_zero]at h6;rw[show j7 z i=1 by rw[j7,if_pos (by omega)],if_neg (by decide)]at hq
     rw[←hq,if_pos (by decide)]at hW
     exact hW
    ·simp +contextual (disch:=omega) [-getElem?_pos,wrap64,h6,cN]
     simp[-List.length_eq_zero_iff,-Int.natCast_eq_zero]at h6;refine gm (fun h7=>?_) (fun h7=>bK (fun h8=>?_) (fun h8=>?_))
     ·simp[-List.length_eq_zero_iff,-Int.natCast_eq_zero]at h7
      rw[show j7 z i=1 by rw[j7,if_pos (by omega)],if_neg (by decide)]at hq
      rw[←hq,if_pos (by decide)]at hW
      exact hW
     ·simp[-List.length_eq_zero_iff,-Int.natCast_eq_zero]at h7
      rw[show j7 z i=4 by rw[j7,if_neg (by omega),if_pos (by omega)],if_neg (by decide)]at hq
      rw[←hq,if_pos (by decide)]at hW
      exact hW
     ·simp[-List.length_eq_zero_iff,-Int.natCast_eq_zero]at h7
      rw[show j7 z i=0 by rw[j7,if_neg (by omega),if_neg (by omega)],if_pos rfl]at hq
      exact bL (i+1) (by simp) ⟨by omega,hq⟩ (by omega)
   ·obtain rfl:i=z.length:=by omega
    rw[mI]at hq;rw[←hq,if_neg (by decide)]at hW
    simp +contextual (disch:=omega) [-getElem?_pos,wrap64,cN];refine gm (fun h6=>?_) (fun h6=>?_)
    ·simp +contextual (disch:=omega) [-getElem?_pos,wrap64,h6,cN]
     simp[-List.length_eq_zero_iff,-Int.natCast_eq_zero]at h6;rw[if_pos (by omega)]at hW
     exact hW
    ·simp +contextual (disch:=omega) [-getElem?_pos,wrap64,h6,cN]
     simp[-List.length_eq_zero_iff,-Int.natCast_eq_zero]at h6;refine gm (fun h7=>?_) (fun h7=>?_)
     ·simp[-List.length_eq_zero_iff,-Int.natCast_eq_zero]at h7
      rw[if_pos (by omega)]at hW
      exact hW
     ·simp[-List.length_eq_zero_iff,-Int.natCast_eq_zero]at h7
      rw[if_neg (by omega)]at hW
      exact hW
  ·rw[if_pos (by simpa using hc)]at hW
   simp +contextual (disch:=omega) [-getElem?_pos,wrap64,K2,kR,hc];exact hW)
structure Uv(u:Un):Prop where
 cv:Cv u.table
 top:(nth u.table (u.table.length-1)).y≤1073741824
 least:1≤u.least
 c5:u.least≤u.c5
 LM:u.c5≤1073741824
 jJ:u.fe.length≤10
 GQ:∀i,i<u.fe.length→(0≤(nth u.fe i).lo∧(nth u.fe i).hi≤1073741824)∧(nth u.fe i).lo<(nth u.fe i).hi
 up:0≤u.up∧u.up≤1000
 down:0≤u.down∧u.down≤1000
 kS:fD u.table=0
theorem oz{u:Un}(h:gp u=0):Uv u:=by
 unfold gp at h;split at h
 ·contradiction
 ·split at h
  ·cases h
  ·split at h
   ·cases h
   ·split at h
    ·cases h
    ·split at h
     ·contradiction
     ·split at h
      ·cases h
      ·rename_i h1 h2 h3 h4 h5 h6
       have h1:fD u.table=0:=Decidable.of_not_not h1;have h5:dK (j7 u.fe) u.fe.length 0=0:=Decidable.of_not_not h5;refine⟨lh h1,by omega,by omega,by omega,by omega,by omega,fun i hi=>?_,by omega,by omega,h1⟩
       have h7:=rm h5 i (by omega) (by omega)
       unfold j7 at h7;split at h7
       ·cases h7
       ·split at h7
        ·cases h7
        ·omega
def ins(u:Un)(q:Int):Prop:=∃i,i<u.fe.length∧(nth u.fe i).lo<q∧q<(nth u.fe i).hi
theorem UW{u:Un}(hu:Uv u)(q:Int)(G:List aP) :
  ∃r,a8 F 221 [un u,i64 q] G=some (i64 r,G)∧q≤r∧¬ins u r∧(∀t,q≤t→t<r→ins u t)∧(r=q∨r≤1073741824):=by
 suffices h:gY (a8 F) 221 [un u,i64 q] G fun v G'=>G'=G∧∃r,v=i64 r∧q≤r∧¬ins u r∧(∀t,q≤t→t<r→ins u t)∧(r=q∨r≤1073741824) by
  obtain⟨_,_,h,rfl,r,rfl,h2⟩:=h;exact⟨r,h,h2⟩
 refine iu rfl rfl ?_;have hz:=hu.GQ;have hf:=hu.jJ;simp +contextual (disch:=omega) [-getElem?_pos,wrap64,Ux];refine go_loop (fun r:Int=>afJ r u.row G) (fun r=>q≤r∧(∀t,q≤t→t<r→ins u t)∧(r=q∨r≤1073741824)) (fun r=>(1073741824-r).toNat) q rfl (by simp) ⟨by omega,by omega,.inl rfl⟩ ?_
 rintro r ⟨h1,h2,h3⟩;simp +contextual (disch:=omega) [-getElem?_pos,wrap64,Uu];refine go_loop (fun i:Nat=>afH r (zo u.fe) u.fe.length i u.row G) (fun i=>i≤u.fe.length∧∀j,j<i→¬((nth u.fe j).lo<r∧r<(nth u.fe j).hi)) (fun i=>u.fe.length-i) 0 rfl (by simp) ⟨by omega,by omega⟩ ?_
 rintro i ⟨hi,hn⟩;simp +contextual (disch:=omega) [-getElem?_pos,wrap64,Ut];refine bK (fun h4=>?_) (fun h4=>?_)
 ·have h4:i<u.fe.length:=by omega
  have h5:=hz i h4;simp +contextual (disch:=omega) [-getElem?_pos,wrap64,bb (l:=u.fe)];refine gm (fun h6=>?_) (fun h6=>?_)
  ·simp[-List.length_eq_zero_iff,-Int.natCast_eq_zero]at h6
   refine bL (nth u.fe i).hi (by simp) ⟨by omega,fun t ha hb=>?_,by omega⟩ (by omega)
   by_cases h7:t<r
   ·exact h2 t ha h7
   ·exact⟨i,h4,by omega,hb⟩
  ·simp[-List.length_eq_zero_iff,-Int.natCast_eq_zero]at h6
   refine bL (i+1) (by simp) ⟨by omega,fun j hj=>?_⟩ (by omega)
   rcases Nat.lt_or_ge j i with h7|h7
   ·have:=hn j h7;omega
   ·obtain rfl:j=i:=by omega
    omega
 ·obtain rfl:i=u.fe.length:=by omega
  exact⟨h1,fun⟨j,hj,h5,h6⟩=>hn j hj ⟨h5,h6⟩,h2,h3⟩
theorem UX{u:Un}(hu:Uv u)(q:Int)(G:List aP) :
  (∃e,a8 F 190 [un u,i64 q] G=some (.tuple [i64 e,.bool true],G)∧ins u q∧q<e∧e≤1073741824∧∀t,q≤t→t<e→ins u t) ∨
  (a8 F 190 [un u,i64 q] G=some (.tuple [i64 0,.bool false],G)∧¬ins u q):=by
 suffices h:gY (a8 F) 190 [un u,i64 q] G fun v G'=>G'=G∧((∃e,v=.tuple [i64 e,.bool true]∧ins u q∧q<e∧e≤1073741824∧∀t,q≤t→t<e→ins u t)∨v=.tuple [i64 0,.bool false]∧¬ins u q) by
  obtain⟨_,_,h,rfl,⟨e,rfl,h2⟩ | ⟨rfl,h2⟩⟩:=h
  ·exact .inl ⟨e,h,h2⟩
  ·exact .inr ⟨h,h2⟩
 refine iu rfl rfl ?_;have hz:=hu.GQ;have hf:=hu.jJ;simp +contextual (disch:=omega) [-getElem?_pos,wrap64,TX];refine go_loop (fun i:Nat=>ae7 q (zo u.fe) u.fe.length i G) (fun i=>i≤u.fe.length∧∀j,j<i→¬((nth u.fe j).lo<q∧q<(nth u.fe j).hi)) (fun i=>u.fe.length-i) 0 rfl (by simp) ⟨by omega,by omega⟩ ?_
 rintro i ⟨hi,hn⟩;simp +contextual (disch:=omega) [-getElem?_pos,wrap64,TW];refine bK (fun h4=>?_) (fun h4=>?_)
 ·have h4:i<u.fe.length:=by omega
  have h5:=hz i h4;simp +contextual (disch:=omega) [-getElem?_pos,wrap64,bb (l:=u.fe)];refine gm (fun h6=>?_) (fun h6=>?_)
  ·simp[-List.length_eq_zero_iff,-Int.natCast_eq_zero]at h6
   exact⟨⟨i,h4,by omega,by omega⟩,by omega,by omega,fun t ha hb=>⟨i,h4,by omega,hb⟩⟩
  ·simp[-List.length_eq_zero_iff,-Int.natCast_eq_zero]at h6
   refine bL (i+1) (by simp) ⟨by omega,fun j hj=>?_⟩ (by omega)
   rcases Nat.lt_or_ge j i with h7|h7
   ·have:=hn j h7;omega
   ·obtain rfl:j=i:=by omega
    omega
 ·obtain rfl:i=u.fe.length:=by omega
  rintro⟨j,hj,h5,h6⟩;exact hn j hj ⟨h5,h6⟩
structure Us where
 bZ:Int
 since:Int
 out:Bool
 deriving Inhabited,DecidableEq
abbrev Us.row(s:Us):List V:=[i64 s.bZ,i64 s.since,.bool s.out]
abbrev us(s:Us):V:=.agg s.row
def nN(u:Un)(q:Int):Prop:=u.least≤q∧q≤u.c5∧¬ins u q
noncomputable instance aoA{u:Un}{q:Int}:Decidable (nN u q):=Classical.propDecidable _
noncomputable instance aoB{u:Un}{q:Int}:Decidable (ins u q):=Classical.propDecidable _
theorem xH{u:Un}(hu:Uv u)(q:Int)(G:List aP):a8 F 209 [un u,i64 q] G=some (.bool (decide (nN u q)),G) :=
 bV rfl rfl (by
  obtain⟨r,h1,h2,h3,h4,_⟩:=UW hu q [];have key:decide (nN u q)=(decide (u.least≤q)&&decide (q≤u.c5)&&decide (r=q)):=by
   rw[Bool.eq_iff_iff];simp only[decide_eq_true_eq,Bool.and_eq_true];constructor
   ·rintro⟨a,b,d⟩
    refine⟨⟨a,b⟩,Decidable.byContradiction fun ch=>d (h4 q (by omega) (by omega))⟩
   ·rintro⟨⟨a,b⟩,rfl⟩
    exact⟨a,b,h3⟩
  rw[key];simp +contextual [wrap64,Ug,h1];refine gm (fun h5=>?_) (fun h5=>?_)
  ·simp +contextual [wrap64,h5,h1]
  ·simp +contextual [wrap64,h5,h1])
theorem wu(u:Un)(q:Int)(G:List aP):a8 F 175 [un u,i64 q] G=some (.bool (decide (gp u=0∧nN u q)),G) :=
 bV rfl rfl (by
  generalize hW:decide (gp u=0∧nN u q)=W;by_cases hc:gp u=0
  ·simp +contextual [wrap64,Lh,mg,hc]
   refine gm (fun h1=>?_) (fun h1=>?_)
   ·simp[-List.length_eq_zero_iff,-Int.natCast_eq_zero]at h1
    rw[←hW,decide_eq_false (fun h=>by have:=h.2.1;have:=h.2.2.1;omega)]
   ·simp[-List.length_eq_zero_iff,-Int.natCast_eq_zero]at h1
    rcases UX (oz hc) q []with⟨e,h2,h3,_⟩ | ⟨h2,h3⟩
    ·simp +contextual [wrap64,h2]
     rw[←hW,decide_eq_false (fun h=>h.2.2.2 h3)]
    ·simp +contextual [wrap64,h2]
     rw[←hW,decide_eq_true ⟨hc,by omega,by omega,h3⟩]
  ·simp +contextual [wrap64,Lh,mg,hc]
   rw[←hW,decide_eq_false (fun h=>hc h.1)])
def eJ(u:Un)(s:Us):Prop:=gp u=0∧(0≤s.since∧s.since≤1000)∧(s.bZ=0∨s.out=false∧nN u s.bZ)
def jf(u:Un)(s:Us)(q:Int):Prop:=if q=0 then (0<s.bZ→u.up≤s.since) else s.out=false∧¬(s.bZ=0∧s.since<u.down)∧nN u q
noncomputable instance aoC{u:Un}{s:Us}:Decidable (eJ u s):=Classical.propDecidable _
noncomputable instance aoD{u:Un}{s:Us}{q:Int}:Decidable (jf u s q):=Classical.propDecidable _
theorem LN{u:Un}(hc:gp u=0)(s:Us)(G:List aP):a8 F 202 [un u,us s] G=some (.bool (decide (eJ u s)),G) :=
 bV rfl rfl (by
  obtain⟨bZ,since,out⟩:=s;generalize hW:decide (eJ u ⟨bZ,since,out⟩)=W;have e:eJ u ⟨bZ,since,out⟩↔(0≤since∧since≤1000)∧(bZ=0∨out=false∧nN u bZ):=by simp[eJ,hc]
  by_cases h1:0≤since∧since≤1000
  ·by_cases h2:bZ=0
   ·simp[wrap64,DB,dj,xH (oz hc),h1.1,h1.2,h2]
    rw[←hW,decide_eq_true (e.2 ⟨h1,.inl h2⟩)]
   ·cases out with
    |true =>
     simp[wrap64,DB,dj,xH (oz hc),h1.1,h1.2,h2];rw[←hW,decide_eq_false (fun h=>by have:=(e.1 h).2;simp[h2]at this)]
    |false =>
     simp[wrap64,DB,dj,xH (oz hc),h1.1,h1.2,h2];rw[←hW];simp[e,h1,h2]
  ·have h3:(decide (0≤since)&&decide (since≤1000))=false:=by simp;omega
   simp[wrap64,DB,dj,xH (oz hc),h3];rw[←hW,decide_eq_false (fun h=>h1 (e.1 h).1)])
theorem xI(u:Un)(s:Us)(G:List aP):a8 F 192 [un u,us s] G=some (.bool (decide (eJ u s)),G) :=
 bV rfl rfl (by
  generalize hW:decide (eJ u s)=W;by_cases hc:gp u=0
  ·simp[wrap64,Ln,qx,hc,LN hc]
   exact hW
  ·simp[wrap64,Ln,qx,hc]
   rw[←hW,decide_eq_false (fun h=>hc h.1)])
theorem vb(u:Un)(s:Us)(G:List aP):a8 F 135 [un u,us s] G=some (.bool (decide (eJ u s)),G) :=
 bV rfl rfl (by
  obtain⟨bZ,since,out⟩:=s;generalize hW:decide (eJ u ⟨bZ,since,out⟩)=W;by_cases hc:gp u=0
  ·have e:eJ u ⟨bZ,since,out⟩↔(0≤since∧since≤1000)∧(bZ=0∨out=false∧nN u bZ):=by simp[eJ,hc]
   by_cases h1:0≤since∧since≤1000
   ·by_cases h2:bZ=0
    ·simp[wrap64,Bb,mg,cN,wu,hc,h1.1,h1.2,h2]
     rw[←hW,decide_eq_true (e.2 ⟨h1,.inl h2⟩)]
    ·by_cases h3:nN u bZ
     ·simp[wrap64,Bb,mg,cN,wu,hc,h1.1,h1.2,h2,h3]
      rw[←hW];simp[e,h1,h2,h3]
     ·simp[wrap64,Bb,mg,cN,wu,hc,h1.1,h1.2,h2,h3]
      rw[←hW];simp[e,h1,h2,h3]
   ·have h3:(decide (0≤since)&&decide (since≤1000))=false:=by simp;omega
    simp[wrap64,Bb,mg,cN,wu,hc,h3];rw[←hW,decide_eq_false (fun h=>h1 (e.1 h).1)]
  ·simp[wrap64,Bb,mg,hc]
   rw[←hW,decide_eq_false (fun h=>hc h.1)])
theorem GR{u:Un}(hc:gp u=0){q:Int}(h:nN u q):1≤q:=by have:=(oz hc).least;have:=h.1;omega
theorem LO{u:Un}{s:Us}(hv:eJ u s)(q:Int)(G:List aP):a8 F 220 [un u,us s,i64 q] G=some (.bool (decide (jf u s q)),G) :=
 bV rfl rfl (by
  obtain⟨hc,h1,h2⟩:=hv;obtain⟨bZ,since,out⟩:=s;simp only at h1 h2;generalize hW:decide (jf u ⟨bZ,since,out⟩ q)=W;simp only[jf]at hW;by_cases h3:q=0
  ·subst h3
   by_cases h4:0<bZ
   ·simp[wrap64,zl,h4]
    rw[←hW];simp[h4]
   ·simp[wrap64,zl,h4]
    rw[←hW];simp[h4]
  ·simp only[h3,if_false]at hW
   cases out with
   |true =>
    simp[wrap64,zl,h3];rw[←hW];simp
   |false =>
    by_cases h5:bZ=0
    ·by_cases h6:since<u.down
     ·simp[wrap64,zl,h3,h5,h6]
      rw[←hW];simp[h5];omega
     ·simp[wrap64,zl,h3,h5,h6,xH (oz hc)]
      rw[←hW];simp[h5];omega
    ·simp[wrap64,zl,h3,h5,xH (oz hc)]
     rw[←hW];simp[h5])
theorem agf(u:Un)(s:Us)(q:Int)(G:List aP):a8 F 231 [un u,us s,i64 q] G=some (.bool (decide (eJ u s∧jf u s q)),G) :=
 bV rfl rfl (by
  generalize hW:decide (eJ u s∧jf u s q)=W;by_cases hv:eJ u s
  ·simp[wrap64,LA,xI,hv,LO hv]
   rw[←hW];simp[hv]
  ·simp[wrap64,LA,xI,hv]
   rw[←hW];simp[hv])
theorem LP(u:Un)(s:Us)(q:Int)(G:List aP):a8 F 170 [un u,us s,i64 q] G=some (.bool (decide (eJ u s∧jf u s q)),G) :=
 bV rfl rfl (by
  generalize hW:decide (eJ u s∧jf u s q)=W;have hV:=vb u s [];by_cases hv:eJ u s
  ·obtain⟨hc,h1,h2⟩:=id hv
   obtain⟨bZ,since,out⟩:=s;simp only[hv,decide_true]at hV;simp only at h1 h2;simp only[jf]at hW;have hf:bZ=0∨0<bZ:=by
    rcases h2 with h | ⟨_,h⟩
    ·exact .inl h
    ·have:=GR hc h;omega
   by_cases h3:q=0
   ·subst h3
    by_cases h4:0<bZ
    ·simp +contextual [wrap64,xE,hV,h4]
     rw[←hW];simp[h4,hv]
    ·simp +contextual [wrap64,xE,hV,h4]
     rw[←hW];simp[h4,hv]
   ·simp only[h3,if_false]at hW
    cases out with
    |true =>
     simp +contextual [wrap64,xE,hV,h3];rw[←hW];simp
    |false =>
     by_cases h5:nN u q
     ·have h6:=GR hc h5
      have h8:0<q:=by omega
      rcases hf with h7|h7
      ·subst h7
       simp +contextual [wrap64,xE,hV,h3,wu,hc,h5,h8];rw[←hW];simp[hv,h5]
      ·have h9:¬bZ=0:=by omega
       simp +contextual [wrap64,xE,hV,h3,wu,hc,h5,h8,h7,h9];rw[←hW];simp[hv,h5,h9]
     ·simp +contextual [wrap64,xE,hV,h3,wu,hc,h5]
      rw[←hW];simp[h5]
  ·simp +contextual [wrap64,xE,hV,hv]
   rw[←hW];simp[hv])
noncomputable def vd(u:Un)(q:Int):Int:=if gp u≠0 then gp u else if q=0∨nN u q then 0 else 1
noncomputable def pow(u:Un)(q:Int):Int:=if gp u=0∧q≠0∧nN u q then gK u.table q else 0
theorem DI(u:Un)(q:Int)(G:List aP):a8 F 208 [un u,i64 q] G=some (.tuple [i64 (pow u q),i64 (vd u q)],G) :=
 bV rfl rfl (by
  by_cases hc:gp u=0
  ·by_cases h1:q=0
   ·simp[wrap64,DC,qx,hc,h1]
    simp[pow,vd,hc]
   ·by_cases h2:nN u q
    ·simp[wrap64,DC,qx,hc,h1,xH (oz hc),h2,GO (oz hc).cv]
     simp[pow,vd,hc,h1,h2]
    ·simp[wrap64,DC,qx,hc,h1,xH (oz hc),h2]
     simp[pow,vd,hc,h1,h2]
  ·simp[wrap64,DC,qx,hc]
   simp[pow,vd,hc])
theorem LQ(u:Un)(q:Int)(G:List aP):a8 F 169 [un u,i64 q] G=some (.tuple [i64 (pow u q),i64 (vd u q)],G) :=
 bV rfl rfl (by
  by_cases hc:gp u=0
  ·by_cases h1:q=0
   ·simp[wrap64,Dy,mg,hc,h1]
    simp[pow,vd,hc]
   ·by_cases h2:nN u q
    ·simp[wrap64,Dy,mg,hc,h1,wu,h2,LJ,(oz hc).kS]
     simp[pow,vd,hc,h1,h2]
    ·simp[wrap64,Dy,mg,hc,h1,wu,h2]
     simp[pow,vd,hc,h1,h2]
  ·simp[wrap64,Dy,mg,hc]
   simp[pow,vd,hc])
noncomputable def qy(u:Un)(s:Us)(q:Int):Int:=if gp u≠0 then gp u else if ¬eJ u s then 3 else if ¬jf u s q then 15 else 0
def qz(s:Us)(q:Int):Us:=⟨q,if decide (0<s.bZ)=decide (0<q) then min 1000 (s.since+1) else 1,s.out⟩
theorem LR(u:Un)(s:Us)(q:Int)(G:List aP):a8 F 122 [un u,us s,i64 q] G =
  some (.tuple (if qy u s q=0 then [us (qz s q),.bool (decide (s.bZ=0)&&decide (0<q)),i64 0] else [us ⟨0,0,false⟩,.bool false,i64 (qy u s q)]),G) :=
 bV rfl rfl (by
  by_cases hc:gp u=0
  ·by_cases hv:eJ u s
   ·by_cases hm:jf u s q
    ·have h1:=hv.2.1
     simp +contextual (disch:=omega) [wrap64,Du,mg,vb,LP,hc,hv,hm];have e:qy u s q=0:=by simp[qy,hc,hv,hm]
     refine gm (fun h=>?_) (fun h=>?_)
     ·simp at h
      simp[e,qz,h]
     ·simp at h
      simp[e,qz,h]
    ·simp +contextual (disch:=omega) [wrap64,Du,mg,vb,LP,hc,hv,hm]
     simp[qy,hc,hv,hm]
   ·simp +contextual (disch:=omega) [wrap64,Du,mg,vb,hc,hv]
    simp[qy,hc,hv]
  ·simp +contextual (disch:=omega) [wrap64,Du,mg,hc]
   simp[qy,hc])
noncomputable def eO(u:Un)(g:Int):List Int:=((List.range ((u.c5 / g).toNat+1)).map fun k:Nat=>(k:Int)*g).filter fun q=>decide (nN u q)
noncomputable def below(u:Un)(g t:Int):List Int:=(eO u g).filter fun q=>decide (q<t)
theorem xJ{u:Un}(hu:Uv u){g:Int}(hg:1≤g){q:Int}:q∈eO u g↔nN u q∧∃k:Nat,q=k*g:=by
 simp only[eO,List.mem_filter,List.mem_map,List.mem_range,decide_eq_true_eq];constructor
 ·rintro⟨⟨k,_,rfl⟩,h⟩
  exact⟨h,k,rfl⟩
 ·rintro⟨h,k,rfl⟩
  refine⟨⟨k,?_,rfl⟩,h⟩;have h1:=h.2.1;have:(k:Int)≤u.c5 / g:=(Int.le_ediv_iff_mul_le (by omega)).2 h1
  omega
theorem agh{u:Un}{g:Int}(hg:1≤g):(eO u g).Pairwise (· < ·):=by
 refine List.Pairwise.filter _ ?_;rw[List.pairwise_map];refine List.Pairwise.imp ?_ (List.pairwise_lt_range);intro a b pN;exact Int.mul_lt_mul_of_pos_right (by omega) (by omega)
theorem UY{q:Int}:∀{l:List Int},l.Pairwise (· < ·)→q∈l→l.filter (fun x=>decide (x<q+1))=l.filter (fun x=>decide (x<q))++[q]
 |[],_,h=>by simp at h
 |a::l,hp,h=>by
  obtain⟨h1,h2⟩:=List.pairwise_cons.1 hp;rcases List.mem_cons.1 h with rfl|h3
  ·have e:∀t,t≤q+1→l.filter (fun x=>decide (x<t))=[]:=fun t ht=>by
    rw[List.filter_eq_nil_iff];intro b hb;have:=h1 b hb;simp;omega
   have h3:q<q+1:=by omega
   have h4:¬ q<q:=by omega
   simp[h3,e (q+1) (by omega),e q (by omega)]
  ·have:=h1 q h3
   have h4:a<q:=this;have h5:a<q+1:=by omega
   simp[h4,h5,UY h2 h3]
theorem LS{u:Un}{g q:Int}(hg:1≤g)(h:q∈eO u g):below u g (q+1)=below u g q++[q]:=UY (agh hg) h
theorem LU{u:Un}{g t t':Int}(h:∀q∈eO u g,t≤q→q<t'→False)(hle:t≤t'):below u g t=below u g t':=by
 refine List.filter_congr fun q hq=>?_;have:=h q hq;by_cases h1:q<t
 ·have:q<t':=by omega
  simp[h1,this]
 ·have h2:¬ q<t':=fun h2=>this (by omega) h2
  simp[h1,h2]
theorem UZ{u:Un}{g t:Int}(h:∀q∈eO u g,q<t):below u g t=eO u g:=by
 refine List.filter_eq_self.2 fun q hq=>?_;simp[h q hq]
theorem LV{u:Un}{g t:Int}(h:t≤u.least):below u g t=[]:=by
 refine List.filter_eq_nil_iff.2 fun q hq=>?_;simp only[eO,List.mem_filter,decide_eq_true_eq]at hq;have:=hq.2.1;simp;omega
theorem U0{u:Un}{g q:Int}(hg:1≤g)(h:q∈eO u g):(below u g q).length<(eO u g).length:=by
 have h1:=LS hg h;have h2:(below u g (q+1)).length≤(eO u g).length:=List.length_filter_le _ _;rw[h1]at h2;simp at h2;omega
def sW(q g:Int):Int:=(q+g-1).tdiv g*g
theorem GS{q g:Int}(hq:0≤q)(hg:1≤g):q≤sW q g∧sW q g≤q+g-1∧(∃k:Nat,sW q g=k*g)∧∀k:Nat,q≤k*g→sW q g≤k*g:=by
 unfold sW;rw[Int.tdiv_eq_ediv_of_nonneg (by omega)]
 have h1:=Int.ediv_mul_le (q+g-1) (b:=g) (by omega)
 have h2:=Int.lt_ediv_add_one_mul_self (q+g-1) (b:=g) (by omega)
 have h3:0≤(q+g-1) / g:=Int.ediv_nonneg (by omega) (by omega)
 rw[Int.add_mul,Int.one_mul]at h2;refine⟨by omega,h1,⟨((q+g-1) / g).toNat,by rw[Int.toNat_of_nonneg h3]⟩,fun k hk=>?_⟩
 refine Int.mul_le_mul_of_nonneg_right ?_ (by omega)
 refine Int.not_lt.1 fun h4=>?_;have h5:((k:Int)+1)*g≤(q+g-1) / g*g:=Int.mul_le_mul_of_nonneg_right (by omega) (by omega)
 rw[Int.add_mul,Int.one_mul]at h5;omega
theorem LW{u:Un}(hu:Uv u){g q:Int}(hq:0≤q)(hg:1≤g):below u g q=below u g (sW q g):=by
 obtain⟨h1,_,_,h4⟩:=GS hq hg;refine LU (fun x hx a b=>?_) h1;obtain⟨_,k,rfl⟩:=(xJ hu hg).1 hx;have:=h4 k a;omega
theorem U3{u:Un}(hu:Uv u){g q r:Int}(hg:1≤g)(h:∀t,q≤t→t<r→ins u t)(hle:q≤r):below u g q=below u g r :=
 LU (fun x hx a b=>((xJ hu hg).1 hx).1.2.2 (h x a b)) hle
theorem agi{u:Un}(hu:Uv u){g q:Int}(hg:1≤g)(hq:∃k:Nat,q=k*g):below u g (q+1)=below u g (q+g):=by
 refine LU (fun x hx a b=>?_) (by omega)
 obtain⟨_,k,rfl⟩:=(xJ hu hg).1 hx;obtain⟨m,rfl⟩:=hq;have h1:(m:Int)<k:=by
  refine Int.not_le.1 fun h=>?_;have:=Int.mul_le_mul_of_nonneg_right h (show 0≤g by omega)
  omega
 have h2:((m:Int)+1)*g≤k*g:=Int.mul_le_mul_of_nonneg_right (by omega) (by omega)
 rw[Int.add_mul,Int.one_mul]at h2;omega
noncomputable def fR(u:Un)(g:Int):Int:=if gp u≠0 then gp u else if g<1∨1073741824<g then 1 else if 200<(eO u g).length then 10 else 0
noncomputable def mK(u:Un)(g:Int):List Int:=if fR u g=0 then eO u g else []
abbrev own(l:List Int):V:=.slice (some 0) 1 (l.map fun n=>[i64 n])
theorem LX(u:Un)(g:Int)(G:List aP):a8 F 228 [un u,i64 g] G=some (.tuple [own (mK u g),i64 (fR u g)],G) :=
 bV rfl rfl (by
  by_cases hc:gp u=0
  ·simp +contextual (disch:=omega) [wrap64,Lz,qx,hc]
   refine gm (fun h1=>?_) (fun h1=>?_)
   ·simp[-List.length_eq_zero_iff,-Int.natCast_eq_zero]at h1
    have e:fR u g=1:=by simp[fR,hc,h1]
    simp[mK,e]
   ·simp[-List.length_eq_zero_iff,-Int.natCast_eq_zero]at h1
    have hu:=oz hc;have m1:=hu.least;have m2:=hu.c5;have m3:=hu.LM;have hg:1≤g:=h1.1;refine go_loop (fun f:Int=>afW g (.slice (some 1049) 1 ((below u g f).map fun n=>[i64 n])) f u.row (below u g f).length G) (fun f=>u.least≤f∧f≤1073741825∧(below u g f).length≤200) (fun f=>(1073741826-f).toNat) u.least rfl (by simp[LV]) (by simp[LV];omega) ?_
    rintro f ⟨FB,vZ,CH⟩;obtain⟨r1,r2,r3,r4⟩:=GS (q:=f) (g:=g) (by omega) hg
    have r5:=LW hu (q:=f) (g:=g) (by omega) hg
    have r6:(f+g-1).tdiv g*g=sW f g:=rfl;have d1:0≤(f+g-1).tdiv g:=Int.tdiv_nonneg (by omega) (by omega)
    have d2:(f+g-1).tdiv g≤f+g-1:=by
     have:=Int.tdiv_le_self (a:=f+g-1) g (by omega)
     omega
    have g0:¬g=0:=by omega
    generalize sW f g=Z at r1 r2 r3 r4 r5 r6;simp +contextual (disch:=omega) [wrap64,UH,g0,r6];refine bK (fun h2=>?_) (fun h2=>?_)
    ·have hb:below u g f=eO u g:=UZ fun q hq=>by
      rw[xJ hu hg]at hq;obtain⟨hq,k,rfl⟩:=hq;have:=hq.2.1;refine Int.not_le.1 fun h=>?_;have:=r4 k h;omega
     have e:fR u g=0:=by simp[fR,hc];rw[hb]at CH;omega
     rw[hb];simp[mK,e]
    ·obtain⟨r,s1,s2,s3,s4,s5⟩:=UW hu Z []
     simp +contextual (disch:=omega) [wrap64,s1];refine gm (fun h3=>?_) (fun h3=>?_)
     ·simp[-List.length_eq_zero_iff,-Int.natCast_eq_zero]at h3
      have hb:below u g f=below u g r:=by rw[r5,U3 hu hg s4 s2]
      refine bL r (by rw[hb];simp) ⟨by omega,by omega,by rwa [←hb]⟩ (by omega)
     ·simp[-List.length_eq_zero_iff,-Int.natCast_eq_zero]at h3
      subst h3;have hm:r∈eO u g:=(xJ hu hg).2 ⟨⟨by omega,by omega,s3⟩,r3⟩
      have hb:below u g (r+1)=below u g f++[r]:=by rw[r5,LS hg hm]
      refine bK (fun h4=>?_) (fun h4=>?_)
      ·have:=U0 hg hm
       have e:fR u g=10:=by
        simp only[fR,hc,ne_eq,not_true,if_false];rw[if_neg (by omega),if_pos (by rw[←r5]at this;omega)]
       simp[mK,e]
      ·refine bL (r+1) (by rw[hb];simp) ⟨by omega,by omega,by rw[hb];simp;omega⟩ (by omega)
  ·have e:fR u g=gp u:=by simp[fR,hc]
   simp +contextual (disch:=omega) [wrap64,Lz,qx,hc];simp[mK,e,hc])
theorem Bg(u:Un)(g:Int)(G:List aP):a8 F 194 [un u,i64 g] G=some (.tuple [own (mK u g),i64 (fR u g)],G) :=
 bV rfl rfl (by
  by_cases hc:gp u=0
  ·simp +contextual (disch:=omega) [wrap64,Lo,mg,hc]
   refine gm (fun h1=>?_) (fun h1=>?_)
   ·simp[-List.length_eq_zero_iff,-Int.natCast_eq_zero]at h1
    have e:fR u g=1:=by simp[fR,hc,h1]
    simp[mK,e]
   ·simp[-List.length_eq_zero_iff,-Int.natCast_eq_zero]at h1
    have hu:=oz hc;have m1:=hu.least;have m2:=hu.c5;have m3:=hu.LM;have hg:1≤g:=h1.1;have g0:¬g=0:=by omega
    obtain⟨r1,r2,r3,r4⟩:=GS (q:=u.least) (g:=g) (by omega) hg
    have r5:=LW hu (q:=u.least) (g:=g) (by omega) hg
    have r6:(u.least+g-1).tdiv g*g=sW u.least g:=rfl;have d1:0≤(u.least+g-1).tdiv g:=Int.tdiv_nonneg (by omega) (by omega)
    have d2:(u.least+g-1).tdiv g≤u.least+g-1:=by
     have:=Int.tdiv_le_self (a:=u.least+g-1) g (by omega)
     omega
    rw[LV (by omega)]at r5
    generalize sW u.least g=Z at r1 r2 r3 r4 r5 r6;simp +contextual (disch:=omega) [wrap64,g0,r6];refine go_loop (fun f:Int=>ae9 g (.slice (some 1056) 1 ((below u g f).map fun n=>[i64 n])) f u.row (below u g f).length G) (fun f=>u.least≤f∧f≤2147483648∧(∃k:Nat,f=k*g)∧(below u g f).length≤200) (fun f=>(2147483649-f).toNat) Z rfl (by simp[←r5]) ⟨by omega,by omega,r3,by rw[←r5];simp⟩ ?_
    rintro f ⟨FB,vZ,hf4,CH⟩;simp +contextual (disch:=omega) [wrap64,TZ];refine bK (fun h2=>?_) (fun h2=>?_)
    ·rcases UX hu f []with⟨e,s1,s2,s3,s4,s5⟩ | ⟨s1,s2⟩
     ·obtain⟨p1,p2,p3,p4⟩:=GS (q:=e) (g:=g) (by omega) hg
      have p5:=LW hu (q:=e) (g:=g) (by omega) hg
      have p6:(e+g-1).tdiv g*g=sW e g:=rfl;have t1:0≤(e+g-1).tdiv g:=Int.tdiv_nonneg (by omega) (by omega)
      have t2:(e+g-1).tdiv g≤e+g-1:=by
       have:=Int.tdiv_le_self (a:=e+g-1) g (by omega)
       omega
      generalize sW e g=E at p1 p2 p3 p4 p5 p6;simp +contextual (disch:=omega) [wrap64,s1,g0,p6];have hb:below u g f=below u g E:=by rw[←p5];exact U3 hu hg s5 (by omega)
      exact bL E (by rw[hb];simp) ⟨by omega,by omega,p3,by rwa [←hb]⟩ (by omega)
     ·have hm:f∈eO u g↔u.least≤f:=by
       rw[xJ hu hg];exact⟨fun h=>h.1.1,fun h=>⟨⟨h,by omega,s2⟩,hf4⟩⟩
      have hm:=hm.2 FB;have hb:below u g (f+g)=below u g f++[f]:=by rw[←agi hu hg hf4,LS hg hm]
      simp +contextual (disch:=omega) [wrap64,s1];refine bK (fun h4=>?_) (fun h4=>?_)
      ·have:=U0 hg hm
       have e:fR u g=10:=by
        simp only[fR,hc,ne_eq,not_true,if_false];rw[if_neg (by omega),if_pos (by omega)]
       simp[mK,e]
      ·refine bL (f+g) (by rw[hb];simp) ⟨by omega,by omega,?_,by rw[hb];simp;omega⟩ (by omega)
       obtain⟨k,hk⟩:=hf4;exact⟨k+1,by rw[hk];simp[Int.add_mul]⟩
    ·have hb:below u g f=eO u g:=UZ fun q hq=>by
      rw[xJ hu hg]at hq;have:=hq.1.2.1;omega
     have e:fR u g=0:=by simp[fR,hc];rw[hb]at CH;omega
     rw[hb];simp[mK,e]
  ·have e:fR u g=gp u:=by simp[fR,hc]
   simp +contextual (disch:=omega) [wrap64,Lo,mg,hc];simp[mK,e,hc])
theorem ic{α:Type}[Inhabited α]{l:List α}{a:α}{i:Nat}:nth (l++[a]) i=if i<l.length then nth l i else if i=l.length then a else default:=by
 simp only[nth,List.getD,List.getElem?_append];split
 ·rfl
 ·split
  ·rename_i h;subst h;simp
  ·rename_i h1 h2
   rw[List.getElem?_eq_none (by simp;omega)]
   rfl
structure Cw(c:List Pt)(x y dx dy least:Int):Prop where
 pos:0<c.length
 jJ:c.length≤5
 first:nth c 0=⟨x,y⟩
 step:∀i,0<i→i<c.length→((nth c (i-1)).x<(nth c i).x∧(nth c i).x≤(nth c (i-1)).x+dx)∧(nth c (i-1)).y+least≤(nth c i).y∧(nth c i).y≤(nth c (i-1)).y+dy
theorem Cw.up{c:List Pt}{x y dx dy least:Int}(h:Cw c x y dx dy least)(h0:0≤x∧x≤1000)(h1:0≤y∧y≤1000)(h2:0≤dx∧dx≤1000)(h3:0≤dy∧dy≤1000)(h4:0≤least) :
  ∀i:Nat,i<c.length→(0≤(nth c i).x∧(nth c i).x≤1000+1000*(i:Int))∧0≤(nth c i).y∧(nth c i).y≤1000+1000*(i:Int):=by
 intro i;induction i with
 |zero=>intro hi;have:=h.first;rw[this];simp;omega
 |succ i ih =>
  intro hi;have a:=ih (by omega)
  have b:=h.step (i+1) (by omega) hi
  simp only[Nat.add_sub_cancel]at b;omega
theorem Cw.kS{c:List Pt}{x y dx dy least:Int}(h:Cw c x y dx dy least)(h0:0≤x∧x≤1000)(h1:0≤y∧y≤1000)(h2:0≤dx∧dx≤1000)(h3:0≤dy∧dy≤1000)(h4:0≤least):fD c=0:=by
 have hp:=h.pos;have hf:=h.jJ;unfold fD;rw[if_neg (by omega),if_neg (by omega)]
 refine qq fun i _ hi=>?_;have a:=h.up h0 h1 h2 h3 h4 i (by omega)
 unfold gz;rw[if_neg (by omega)]
 split
 ·rfl
 ·have b:=h.step i (by omega) (by omega)
  rw[if_neg (by omega),if_neg]
  rw[Int.tdiv_eq_ediv_of_nonneg (by omega)]
  generalize hu:(nth c i).x-(nth c (i-1)).x=u;generalize hv:(nth c i).y-(nth c (i-1)).y=v;refine Int.not_lt.2 ((Int.le_ediv_iff_mul_le (by omega)).2 ?_)
  have:v*u≤1000*1000:=Int.mul_le_mul (by omega) (by omega) (by omega) (by omega)
  omega
abbrev opts(c:List Pt):V:=.slice (some 0) 2 (c.map Pt.row)
theorem LY{l:List Int}{k:Nat}(hd:dG l k){x y dx dy:Int}(strict:Bool)(h0:0≤x∧x≤1000)(h1:0≤y∧y≤1000)(h2:1≤dx∧dx≤1000)(h3:1≤dy∧dy≤1000) :
  ∃c k',a8 F 179 [.bB 0 0,i64 x,i64 y,i64 dx,i64 dy,.bool strict] [dk l k]=some (opts c,[dk l k'])∧dG l k'∧2≤c.length∧Cw c x y dx dy (if strict then 1 else 0):=by
 suffices h:gY (a8 F) 179 [.bB 0 0,i64 x,i64 y,i64 dx,i64 dy,.bool strict] [dk l k] fun v G=>∃c k',v=opts c∧G=[dk l k']∧dG l k'∧2≤c.length∧Cw c x y dx dy (if strict then 1 else 0) by
  obtain⟨_,_,h,c,k',rfl,rfl,h1⟩:=h;exact⟨c,k',h,h1⟩
 generalize hL:(if strict then 1 else 0:Int)=L
 have hL1:0≤L∧L≤1:=by rw[←hL];cases strict<;>simp
 refine iu rfl rfl ?_;obtain⟨a,k1,n1,iK,ha⟩:=fQ hd 4 (by omega)
 have main:∀K:cf,(∀c k',dG l k'→2≤c.length→Cw c x y dx dy L→∀z,K (.exit 0) ⟨[(0,.bB 0 0),(1,i64 (nth c (c.length-1)).x),(2,i64 (nth c (c.length-1)).y),(3,i64 dx),(4,i64 dy),(13,i64 L),(14,.slice (some 1020) 2 (c.map Pt.row)),(15,i64 0),(25,z)],[],[(1020,c.length)],[dk l k']⟩) →
   go (a8 F) TK (TL (.bB 0 0) x y dx dy L (.slice (some 1020) 2 [Pt.row ⟨x,y⟩]) (1+a) 1 [dk l k1]) K:=by
  intro K hK;refine go_loop (fun s:List Pt×Int×Nat=>TL (.bB 0 0) (nth s.1 (s.1.length-1)).x (nth s.1 (s.1.length-1)).y dx dy L (.slice (some 1020) 2 (s.1.map Pt.row)) s.2.1 s.1.length [dk l s.2.2])
   (fun s=>Cw s.1 x y dx dy L∧(0<s.2.1∨2≤s.1.length)∧0≤s.2.1∧(s.1.length:Int)+s.2.1≤5∧dG l s.2.2) (fun s=>s.2.1.toNat) ([⟨x,y⟩],1+a,k1) rfl (by simp[nth]) ⟨⟨by simp,by simp,rfl,fun i a b=>by simp at b;omega⟩,by simp;omega,by simp;omega,by simp;omega,iK⟩ ?_
  rintro⟨c,m,k⟩ ⟨hc,zp,hm2,GU,hd⟩;simp only at hc zp hm2 GU hd;have hp:=hc.pos;have hu:=hc.up h0 h1 ⟨by omega,h2.2⟩ ⟨by omega,h3.2⟩ hL1.1 (c.length-1) (by omega)
  obtain⟨p,k2,n2,fm,hp2⟩:=fQ hd dx (by omega)
  obtain⟨q,k3,n3,mh,hq⟩:=fQ fm dy (by omega)
  simp (disch:=omega) [wrap64,TJ];refine bK (fun h4=>?_) (fun h4=>?_)
  ·simp (disch:=omega) [wrap64,n2,n3]
   refine bL (c++[⟨(nth c (c.length-1)).x+1+p,(nth c (c.length-1)).y+L+q⟩],m-1,k3) (by simp[ic]) ⟨⟨by simp,by simp;omega,?_,fun i hi hj=>?_⟩,by simp;omega,by simp;omega,by simp;omega,mh⟩ (by simp;omega)
   ·rw[ic,if_pos hp];exact hc.first
   ·simp at hj
    rw[ic,ic];by_cases qA:i<c.length
    ·rw[if_pos (by omega),if_pos (by omega)]
     exact hc.step i hi qA
    ·obtain rfl:i=c.length:=by omega
     rw[if_pos (by omega),if_neg (by omega),if_pos rfl]
     simp only;omega
  ·obtain rfl:m=0:=by omega
   exact hK c k hd (by omega) hc _
 cases strict with
 |true =>
  simp at hL;subst hL;simp (disch:=omega) [wrap64,Lj,n1];refine main _ fun c k' q1 q2 q3 z=>?_;simp (disch:=omega) [wrap64,wrap64];exact⟨c,rfl,k',rfl,q1,q2,q3⟩
 |false =>
  simp at hL;subst hL;simp (disch:=omega) [wrap64,Lj,n1];refine main _ fun c k' q1 q2 q3 z=>?_;simp (disch:=omega) [wrap64,wrap64];exact⟨c,rfl,k',rfl,q1,q2,q3⟩
structure Uw(u:Un):Prop where
 table:Cw u.table 0 0 10 30 0
 two:2≤u.table.length
 least:1≤u.least∧u.least≤8
 c5:u.least≤u.c5∧u.c5≤19
 jJ:u.fe.length≤2
 GQ:∀i,i<u.fe.length→(0≤(nth u.fe i).lo∧(nth u.fe i).hi≤20)∧(nth u.fe i).lo<(nth u.fe i).hi
 up:0≤u.up∧u.up≤2
 down:0≤u.down∧u.down≤2
theorem Uw.kS{u:Un}(h:Uw u):gp u=0:=by
 have c:=h.table.kS (by omega) (by omega) (by omega) (by omega) (by omega)
 have hp:=h.table.pos;have hf:=h.table.jJ;have hu:=h.table.up (by omega) (by omega) (by omega) (by omega) (by omega) (u.table.length-1) (by omega)
 have a1:=h.least;have a2:=h.c5;have a3:=h.jJ;have a4:=h.up;have a5:=h.down;have z:dK (j7 u.fe) u.fe.length 0=0:=qq fun i _ hi=>by
  have:=h.GQ i (by omega)
  rw[j7,if_neg (by omega),if_neg (by omega)]
 unfold gp;rw[if_neg (by omega),if_neg (by omega),if_neg (by omega),if_neg (by omega),if_neg (by omega),if_neg (by omega)]
abbrev U7(u:Un):V:=.agg [gQ u.table,i64 u.least,i64 u.c5,.slice (some 0) 2 (u.fe.map Bd.row),i64 u.up,i64 u.down]
theorem agl{l:List Int}{k:Nat}(hd:dG l k):∃u k',a8 F 180 [.bB 0 0] [dk l k]=some (U7 u,[dk l k'])∧dG l k'∧Uw u:=by
 suffices h:gY (a8 F) 180 [.bB 0 0] [dk l k] fun v G=>∃u k',v=U7 u∧G=[dk l k']∧dG l k'∧Uw u by
  obtain⟨_,_,h,u,k',rfl,rfl,h1⟩:=h;exact⟨u,k',h,h1⟩
 refine iu rfl rfl ?_;obtain⟨c,k1,n1,iK,Ce,hc⟩:=LY hd (x:=0) (y:=0) (dx:=10) (dy:=30) false (by omega) (by omega) (by omega) (by omega)
 obtain⟨a1,k2,n2,fm,LZ⟩:=fQ iK 8 (by omega)
 obtain⟨a2,k3,n3,mh,L0⟩:=fQ fm 3 (by omega)
 obtain⟨a3,k4,n4,rp,U8⟩:=fQ mh 3 (by omega)
 obtain⟨a4,k5,n5,DJ,U9⟩:=fQ rp 12 (by omega)
 obtain⟨a5,k6,n6,DK,ha5⟩:=fQ DJ 3 (by omega)
 simp (disch:=omega) [wrap64,TN,n1,n2,n3,n4,n5,n6];refine go_loop (fun s:List Bd×Int×Nat=>aeW (.bB 0 0) s.2.1 [.bW,i64 0,i64 0,.bW,i64 0,i64 0] [gQ c,i64 (1+a1),i64 (1+a1+a4),.slice (some 1040) 2 (s.1.map Bd.row),i64 a2,i64 a3] s.1.length [dk l s.2.2])
  (fun s=>(∀i,i<s.1.length→(0≤(nth s.1 i).lo∧(nth s.1 i).hi≤20)∧(nth s.1 i).lo<(nth s.1 i).hi)∧0≤s.2.1∧(s.1.length:Int)+s.2.1≤2∧dG l s.2.2) (fun s=>s.2.1.toNat) ([],a5,k6) rfl (by simp) ⟨fun i h=>by simp at h,by simp;omega,by simp;omega,DK⟩ ?_
 rintro⟨z,m,k⟩ ⟨hz,zp,hm2,hd⟩;simp only at hz zp hm2 hd;obtain⟨b1,k7,n7,hd7,hb1⟩:=fQ hd 16 (by omega)
 obtain⟨b2,k8,n8,hd8,xw⟩:=fQ hd7 5 (by omega)
 simp (disch:=omega) [wrap64,TM];refine bK (fun h4=>?_) (fun h4=>?_)
 ·simp (disch:=omega) [wrap64,n7,n8]
  refine bL (z++[⟨b1,b1+1+b2⟩],m-1,k8) (by simp) ⟨fun i hi=>?_,by simp;omega,by simp;omega,hd8⟩ (by simp;omega)
  simp at hi;rw[ic];split
  ·exact hz i (by assumption)
  ·rw[if_pos (by omega)]
   simp only;omega
 ·refine⟨⟨c,1+a1,1+a1+a4,z,a2,a3⟩,⟨rfl,rfl,rfl,rfl,rfl,rfl⟩,k,rfl,hd,?_⟩
  exact⟨hc,Ce,by simp only;omega,by simp only;omega,by simp only;omega,hz,by simp only;omega,by simp only;omega⟩
theorem Va{u:Un}{g:Int}:(eO u g).length≤(u.c5 / g).toNat+1:=by
 refine Nat.le_trans (List.length_filter_le _ _) ?_;simp
theorem Uw.fR{u:Un}(h:Uw u){g:Int}(h1:1≤g)(h2:g≤1073741824):fR u g=0:=by
 have a:=Va (u:=u) (g:=g);have b:=h.c5;have c:=h.least;have d:u.c5 / g≤u.c5:=Int.ediv_le_self _ (by omega)
 unfold Go.Proofs.YtmpikpodpgnjhaaGreat.fR;rw[if_neg (by simp[h.kS]),if_neg (by omega),if_neg (by omega)]
theorem ago{l:List Int}{k:Nat}(hd:dG l k){u:Un}(hu:Uw u):∃s k',a8 F 181 [.bB 0 0,un u] [dk l k]=some (us s,[dk l k'])∧dG l k'∧eJ u s:=by
 suffices h:∀Q:V→List aP→Prop,(∀s k',dG l k'→eJ u s→Q (us s) [dk l k'])→gY (a8 F) 181 [.bB 0 0,un u] [dk l k] Q by
  obtain⟨_,_,h,s,k',rfl,rfl,h1⟩:=h (fun v G=>∃s k',v=us s∧G=[dk l k']∧dG l k'∧eJ u s) fun s k' a b=>⟨s,k',rfl,rfl,a,b⟩;exact⟨s,k',h,h1⟩
 intro Q hQ;refine iu rfl rfl ?_;have hc:=hu.kS;have he:=hu.fR (g:=1) (by omega) (by omega)
 have hf:mK u 1=eO u 1:=by simp[mK,he]
 have Bh:=Va (u:=u) (g:=1);have hm:=hu.c5;obtain⟨a1,k1,n1,iK,LZ⟩:=fQ hd 5 (by omega)
 obtain⟨a2,k2,n2,fm,L0⟩:=fQ iK 7 (by omega)
 obtain⟨a3,k3,n3,mh,U8⟩:=fQ fm 2 (by omega)
 obtain⟨a4,k4,n4,rp,U9⟩:=fQ mh (eO u 1).length (by omega)
 have off:∀o,eJ u ⟨0,a1,o⟩:=fun o=>⟨hc,by simp only;omega,.inl rfl⟩
 by_cases h1:0<(eO u 1).length
 ·by_cases h2:a2=6
  ·simp +contextual (disch:=omega) [-getElem?_pos,wrap64,DA,n1,n2,Bg,he,hf,h2]
   exact hQ ⟨0,a1,true⟩ k2 fm (off _)
  ·by_cases h3:a3=0
   ·have h4:a4.toNat<(eO u 1).length:=by omega
    simp +contextual (disch:=omega) [-getElem?_pos,wrap64,DA,n1,n2,n3,n4,Bg,he,hf,h2,h3,h1,dD h4];refine hQ ⟨nth (eO u 1) a4.toNat,a1,false⟩ k4 rp ⟨hc,by simp only;omega,.inr ⟨rfl,?_⟩⟩
    exact((xJ (oz hc) (by omega)).1 (List.mem_of_getElem? (dD h4))).1
   ·simp +contextual (disch:=omega) [-getElem?_pos,wrap64,DA,n1,n2,n3,Bg,he,hf,h2,h3,h1]
    exact hQ ⟨0,a1,false⟩ k3 mh (off _)
 ·simp +contextual (disch:=omega) [-getElem?_pos,wrap64,DA,n1,n2,Bg,he,hf,h1]
  exact hQ ⟨0,a1,decide (a2=6)⟩ k2 fm (off _)
abbrev jy(l:List Un):V:=.slice none 6 (l.map Un.row)
abbrev jg(l:List Us):V:=.slice none 3 (l.map Us.row)
abbrev L1(l:List Un):V:=.slice (some 0) 6 (l.map Un.row)
abbrev DL(l:List Us):V:=.slice (some 0) 3 (l.map Us.row)
structure DM(a:List Un)(b:List Us):Prop where
 len:a.length=b.length
 unit:∀i,i<a.length→Uw (nth a i)
 state:∀i,i<a.length→eJ (nth a i) (nth b i)
theorem agp{l:List Int}{k:Nat}(hd:dG l k){m:Nat}(hm:m≤1000):∃a b k',a8 F 155 [.bB 0 0,i64 m] [dk l k]=some (.tuple [L1 a,DL b],[dk l k'])∧dG l k'∧DM a b∧a.length≤m:=by
 suffices h:∀Q:V→List aP→Prop,(∀a b k',dG l k'→DM a b→a.length≤m→Q (.tuple [L1 a,DL b]) [dk l k'])→gY (a8 F) 155 [.bB 0 0,i64 m] [dk l k] Q by
  obtain⟨_,_,h,a,b,k',rfl,rfl,h1⟩:=h (fun v G=>∃a b k',v=.tuple [L1 a,DL b]∧G=[dk l k']∧dG l k'∧DM a b∧a.length≤m) fun a b k' h1 h2 h3=>⟨a,b,k',rfl,rfl,h1,h2,h3⟩;exact⟨a,b,k',h,h1⟩
 intro Q hQ;refine iu rfl rfl ?_;obtain⟨n,k1,n1,iK,hn⟩:=fQ hd (m+1) (by omega)
 simp (disch:=omega) [wrap64,Tj,n1];refine go_loop (fun s:List Un×List Us×Int×Nat=>aet (.bB 0 0) (.slice (some 1023) 6 (s.1.map Un.row)) (.slice (some 1029) 3 (s.2.1.map Us.row)) s.2.2.1 s.1.length s.2.1.length [dk l s.2.2.2])
  (fun s=>DM s.1 s.2.1∧(s.1.length:Int)+s.2.2.1≤m∧0≤s.2.2.1∧dG l s.2.2.2) (fun s=>s.2.2.1.toNat) ([],[],n,k1) rfl (by simp) ⟨⟨rfl,by simp,by simp⟩,by simp;omega,by simp;omega,iK⟩ ?_
 rintro⟨a,b,n,k⟩ ⟨pN,h1,h2,hd⟩;simp only at pN h1 h2 hd;obtain⟨u,k2,n2,fm,hu⟩:=agl hd;obtain⟨s,k3,n3,mh,hs⟩:=ago fm hu;have hl:=pN.len;simp (disch:=omega) [wrap64,Ti];refine bK (fun h4=>?_) (fun h4=>?_)
 ·simp (disch:=omega) [wrap64,n2,n3]
  refine bL (a++[u],b++[s],n-1,k3) (by simp) ⟨⟨by simp[hl],fun i hi=>?_,fun i hi=>?_⟩,by simp;omega,by simp;omega,mh⟩ (by simp;omega)
  ·simp at hi
   rw[ic];split
   ·exact pN.unit i (by assumption)
   ·rw[if_pos (by omega)];exact hu
  ·simp at hi
   rw[ic,ic,← hl];split
   ·exact pN.state i (by assumption)
   ·rw[if_pos (by omega),if_pos (by omega)];exact hs
 ·exact hQ a b k hd pN (by omega)
structure Rt where
 lv:Int
 c:List Pt
 deriving Inhabited
abbrev Rt.row(r:Rt):List V:=[i64 r.lv,gQ r.c]
abbrev zq(l:List Rt):V:=.slice none 2 (l.map Rt.row)
structure Gt where
 r:List Rt
 c5:Int
 move:Int
 deriving Inhabited
abbrev Gt.row(g:Gt):List V:=[zq g.r,i64 g.c5,i64 g.move]
abbrev gt(g:Gt):V:=.agg g.row
def nk(l:List Rt)(i:Nat):Int :=
 if ¬(0≤(nth l i).lv∧(nth l i).lv≤16777216) then 1
 else if 0<i∧(nth l i).lv≤(nth l (i-1)).lv then 4
 else if fD (nth l i).c≠0 then fD (nth l i).c
 else if ¬((nth (nth l i).c 0).x=0∧(nth (nth l i).c 0).y=0) then 3
 else if 1073741824<(nth (nth l i).c ((nth l i).c.length-1)).y then 1 else 0
def jz(g:Gt):Int :=
 if g.r.length=0 then 3 else if 10<g.r.length then 10 else if dK (nk g.r) g.r.length 0≠0 then dK (nk g.r) g.r.length 0
 else if ¬((0≤g.c5∧g.c5≤1000)∧0≤g.move∧g.move≤1000) then 1 else 0
theorem xL(g:Gt)(G:List aP):a8 F 130 [gt g] G=some (i64 (jz g),G) :=
 bV rfl rfl (by
  obtain⟨l,c5,move⟩:=g;generalize hW:jz ⟨l,c5,move⟩=W;unfold jz at hW;simp only at hW;simp (disch:=omega) [-getElem?_pos,-Int.natCast_eq_zero,wrap64,SY];refine bK (fun h1=>?_) (fun h1=>bK (fun h2=>?_) (fun h2=>?_))
  ·rw[if_pos (by omega)]at hW
   exact hW
  ·rw[if_neg (by omega),if_pos (by omega)]at hW
   exact hW
  ·rw[if_neg (by omega),if_neg (by omega)]at hW
   refine go_loop (fun i:Nat=>ad5 (zq l) l.length i [zq l,i64 c5,i64 move] G) (fun i=>i≤l.length∧dK (nk l) (l.length-i) i=dK (nk l) l.length 0) (fun i=>l.length-i) 0 rfl (by simp) ⟨by omega,rfl⟩ ?_
   rintro i ⟨hi,hq⟩;simp (disch:=omega) [-getElem?_pos,-Int.natCast_eq_zero,wrap64,SX];refine bK (fun h3=>?_) (fun h3=>?_)
   ·have h3:i<l.length:=by omega
    have h4:((i:Int)-1).toNat=i-1:=by omega
    rw[ld h3]at hq;have stop:nk l i≠0→W=nk l i:=fun h=>by
     rw[if_neg h]at hq;rw[←hq,if_pos h]at hW;exact hW.symm
    unfold nk at stop;by_cases a1:0≤(nth l i).lv∧(nth l i).lv≤16777216
    ·have a2:(!decide (0≤(nth l i).lv) || !decide ((nth l i).lv≤16777216))=false:=by simp;omega
     have a3:0<i→0≤(i:Int)-1:=by omega
     have a4:i-1<l.length:=by omega
     rw[if_neg (by omega)]at stop
     by_cases b1:0<i∧(nth l i).lv≤(nth l (i-1)).lv
     ·rw[if_pos b1]at stop
      have b2:0<i:=b1.1;have b3:=b1.2;have b4:0≤(i:Int)-1:=by omega
      simp (disch:=omega) [-getElem?_pos,-Int.natCast_eq_zero,wrap64,bb (l:=l),h3,dj,cN,a2,b2,b3,b4,h4,a4];exact(stop (by omega)).symm
     ·rw[if_neg b1]at stop
      by_cases c1:fD (nth l i).c=0
      ·rw[if_neg (by omega)]at stop
       have hp:=rn c1;have hfw:=(lh c1).jJ;have c2:(((nth l i).c.length:Int)-1).toNat=(nth l i).c.length-1:=by omega
       have c3:(nth l i).c.length-1<(nth l i).c.length:=by omega
       have c4:0≤((nth l i).c.length:Int)-1:=by omega
       by_cases d1:(nth (nth l i).c 0).x=0∧(nth (nth l i).c 0).y=0
       ·rw[if_neg (by omega)]at stop
        obtain⟨d2,d3⟩:=d1;by_cases e1:1073741824<(nth (nth l i).c ((nth l i).c.length-1)).y
        ·rw[if_pos e1]at stop
         rcases Nat.eq_zero_or_pos i with b6|b6
         ·subst b6
          simp (disch:=omega) [-getElem?_pos,-Int.natCast_eq_zero,wrap64,bb (l:=l),h3,dj,cN,mJ,kR,a2,c1,V.iR,er,ki,bb (l:=(nth l 0).c),hp,c2,c3,c4,d2,d3,e1];exact(stop (by omega)).symm
         ·have b7:¬ (nth l i).lv≤(nth l (i-1)).lv:=fun h=>b1 ⟨b6,h⟩
          have b4:0≤(i:Int)-1:=by omega
          simp (disch:=omega) [-getElem?_pos,-Int.natCast_eq_zero,wrap64,bb (l:=l),h3,dj,cN,mJ,kR,a2,c1,b6,b7,b4,h4,a4,V.iR,er,ki,bb (l:=(nth l i).c),hp,c2,c3,c4,d2,d3,e1];exact(stop (by omega)).symm
        ·have hz:nk l i=0:=by
          unfold nk;rw[if_neg (by omega),if_neg b1,if_neg (by omega),if_neg (by omega),if_neg e1]
         rw[if_pos hz]at hq;rcases Nat.eq_zero_or_pos i with b6|b6
         ·subst b6
          simp (disch:=omega) [-getElem?_pos,-Int.natCast_eq_zero,wrap64,bb (l:=l),h3,dj,cN,mJ,kR,a2,c1,V.iR,er,ki,bb (l:=(nth l 0).c),hp,c2,c3,c4,d2,d3,e1];exact bL (0+1) (by simp) ⟨by omega,hq⟩ (by omega)
         ·have b7:¬ (nth l i).lv≤(nth l (i-1)).lv:=fun h=>b1 ⟨b6,h⟩
          have b4:0≤(i:Int)-1:=by omega
          simp (disch:=omega) [-getElem?_pos,-Int.natCast_eq_zero,wrap64,bb (l:=l),h3,dj,cN,mJ,kR,a2,c1,b6,b7,b4,h4,a4,V.iR,er,ki,bb (l:=(nth l i).c),hp,c2,c3,c4,d2,d3,e1];exact bL (i+1) (by simp) ⟨by omega,hq⟩ (by omega)
       ·rw[if_pos d1]at stop
        have d4:(decide ((nth (nth l i).c 0).x=0)&&decide ((nth (nth l i).c 0).y=0))=false:=by simpa using d1
        have d5:((nth (nth l i).c 0).x==0&&(nth (nth l i).c 0).y==0)=false:=by simpa using d1
        rcases Nat.eq_zero_or_pos i with b6|b6
        ·subst b6
         simp (disch:=omega) [-getElem?_pos,-Int.natCast_eq_zero,wrap64,bb (l:=l),h3,dj,cN,mJ,kR,a2,c1,V.iR,er,ki,bb (l:=(nth l 0).c),hp,d4,d5];exact(stop (by omega)).symm
        ·have b7:¬ (nth l i).lv≤(nth l (i-1)).lv:=fun h=>b1 ⟨b6,h⟩
         have b4:0≤(i:Int)-1:=by omega
         simp (disch:=omega) [-getElem?_pos,-Int.natCast_eq_zero,wrap64,bb (l:=l),h3,dj,cN,mJ,kR,a2,c1,b6,b7,b4,h4,a4,V.iR,er,ki,bb (l:=(nth l i).c),hp,d4,d5];exact(stop (by omega)).symm
      ·rw[if_pos c1]at stop
       rcases Nat.eq_zero_or_pos i with b6|b6
       ·subst b6
        simp (disch:=omega) [-getElem?_pos,-Int.natCast_eq_zero,wrap64,bb (l:=l),h3,dj,cN,mJ,kR,a2,c1,c1];exact(stop (by omega)).symm
       ·have b7:¬ (nth l i).lv≤(nth l (i-1)).lv:=fun h=>b1 ⟨b6,h⟩
        have b4:0≤(i:Int)-1:=by omega
        simp (disch:=omega) [-getElem?_pos,-Int.natCast_eq_zero,wrap64,bb (l:=l),h3,dj,cN,mJ,kR,a2,c1,b6,b7,b4,h4,a4,c1];exact(stop (by omega)).symm
    ·rw[if_pos a1]at stop
     have a2:(!decide (0≤(nth l i).lv) || !decide ((nth l i).lv≤16777216))=true:=by simp;omega
     simp (disch:=omega) [-getElem?_pos,-Int.natCast_eq_zero,wrap64,bb (l:=l),h3,dj,cN,a2];exact(stop (by omega)).symm
   ·obtain rfl:i=l.length:=by omega
    rw[mI]at hq;rw[←hq,if_neg (by omega)]at hW
    by_cases m1:0≤c5∧c5≤1000
    ·have m2:(!decide (0≤c5) || !decide (c5≤1000))=false:=by simp;omega
     by_cases m3:0≤move∧move≤1000
     ·have m4:(!decide (0≤move) || !decide (move≤1000))=false:=by simp;omega
      rw[if_neg (by omega)]at hW
      simp (disch:=omega) [-getElem?_pos,-Int.natCast_eq_zero,wrap64,dj,cN,m2,m4];exact hW
     ·have m4:(!decide (0≤move) || !decide (move≤1000))=true:=by simp;omega
      rw[if_pos (by omega)]at hW
      simp (disch:=omega) [-getElem?_pos,-Int.natCast_eq_zero,wrap64,dj,cN,m2,m4];exact hW
    ·have m2:(!decide (0≤c5) || !decide (c5≤1000))=true:=by simp;omega
     rw[if_pos (by omega)]at hW
     simp (disch:=omega) [-getElem?_pos,-Int.natCast_eq_zero,wrap64,dj,cN,m2];exact hW)
theorem xM(g:Gt)(G:List aP):a8 F 133 [gt g] G=some (i64 (jz g),G) :=
 bV rfl rfl (by
  obtain⟨l,c5,move⟩:=g;generalize hW:jz ⟨l,c5,move⟩=W;unfold jz at hW;simp only at hW;simp (disch:=omega) [-getElem?_pos,-Int.natCast_eq_zero,wrap64,S8];refine bK (fun h1=>?_) (fun h1=>bK (fun h2=>?_) (fun h2=>?_))
  ·rw[if_pos (by omega)]at hW
   exact hW
  ·rw[if_neg (by omega),if_pos (by omega)]at hW
   exact hW
  ·rw[if_neg (by omega),if_neg (by omega)]at hW
   refine go_loop (fun i:Nat=>aef (zq l) l.length i [zq l,i64 c5,i64 move] G) (fun i=>i≤l.length∧dK (nk l) (l.length-i) i=dK (nk l) l.length 0) (fun i=>l.length-i) 0 rfl (by simp) ⟨by omega,rfl⟩ ?_
   rintro i ⟨hi,hq⟩;simp (disch:=omega) [-getElem?_pos,-Int.natCast_eq_zero,wrap64,S7];refine bK (fun h3=>?_) (fun h3=>?_)
   ·have h3:i<l.length:=by omega
    have h4:((i:Int)-1).toNat=i-1:=by omega
    rw[ld h3]at hq;have stop:nk l i≠0→W=nk l i:=fun h=>by
     rw[if_neg h]at hq;rw[←hq,if_pos h]at hW;exact hW.symm
    unfold nk at stop;by_cases a1:0≤(nth l i).lv∧(nth l i).lv≤16777216
    ·have a2:(!decide (0≤(nth l i).lv) || !decide ((nth l i).lv≤16777216))=false:=by simp;omega
     have a3:0<i→0≤(i:Int)-1:=by omega
     have a4:i-1<l.length:=by omega
     rw[if_neg (by omega)]at stop
     by_cases b1:0<i∧(nth l i).lv≤(nth l (i-1)).lv
     ·rw[if_pos b1]at stop
      have b2:0<i:=b1.1;have b3:=b1.2;have b4:0≤(i:Int)-1:=by omega
      simp (disch:=omega) [-getElem?_pos,-Int.natCast_eq_zero,wrap64,bb (l:=l),h3,dj,cN,a2,b2,b3,b4,h4,a4];exact(stop (by omega)).symm
     ·rw[if_neg b1]at stop
      by_cases c1:fD (nth l i).c=0
      ·rw[if_neg (by omega)]at stop
       have hp:=rn c1;have hfw:=(lh c1).jJ;have c2:(((nth l i).c.length:Int)-1).toNat=(nth l i).c.length-1:=by omega
       have c3:(nth l i).c.length-1<(nth l i).c.length:=by omega
       have c4:0≤((nth l i).c.length:Int)-1:=by omega
       by_cases d1:(nth (nth l i).c 0).x=0∧(nth (nth l i).c 0).y=0
       ·rw[if_neg (by omega)]at stop
        obtain⟨d2,d3⟩:=d1;by_cases e1:1073741824<(nth (nth l i).c ((nth l i).c.length-1)).y
        ·rw[if_pos e1]at stop
         rcases Nat.eq_zero_or_pos i with b6|b6
         ·subst b6
          simp (disch:=omega) [-getElem?_pos,-Int.natCast_eq_zero,wrap64,bb (l:=l),h3,dj,cN,mJ,kR,a2,c1,V.iR,er,ki,bb (l:=(nth l 0).c),hp,c2,c3,c4,d2,d3,e1];exact(stop (by omega)).symm
         ·have b7:¬ (nth l i).lv≤(nth l (i-1)).lv:=fun h=>b1 ⟨b6,h⟩
          have b4:0≤(i:Int)-1:=by omega
          simp (disch:=omega) [-getElem?_pos,-Int.natCast_eq_zero,wrap64,bb (l:=l),h3,dj,cN,mJ,kR,a2,c1,b6,b7,b4,h4,a4,V.iR,er,ki,bb (l:=(nth l i).c),hp,c2,c3,c4,d2,d3,e1];exact(stop (by omega)).symm
        ·have hz:nk l i=0:=by
          unfold nk;rw[if_neg (by omega),if_neg b1,if_neg (by omega),if_neg (by omega),if_neg e1]
         rw[if_pos hz]at hq;rcases Nat.eq_zero_or_pos i with b6|b6
         ·subst b6
          simp (disch:=omega) [-getElem?_pos,-Int.natCast_eq_zero,wrap64,bb (l:=l),h3,dj,cN,mJ,kR,a2,c1,V.iR,er,ki,bb (l:=(nth l 0).c),hp,c2,c3,c4,d2,d3,e1];exact bL (0+1) (by simp) ⟨by omega,hq⟩ (by omega)
         ·have b7:¬ (nth l i).lv≤(nth l (i-1)).lv:=fun h=>b1 ⟨b6,h⟩
          have b4:0≤(i:Int)-1:=by omega
          simp (disch:=omega) [-getElem?_pos,-Int.natCast_eq_zero,wrap64,bb (l:=l),h3,dj,cN,mJ,kR,a2,c1,b6,b7,b4,h4,a4,V.iR,er,ki,bb (l:=(nth l i).c),hp,c2,c3,c4,d2,d3,e1];exact bL (i+1) (by simp) ⟨by omega,hq⟩ (by omega)
       ·rw[if_pos d1]at stop
        have d4:(decide ((nth (nth l i).c 0).x=0)&&decide ((nth (nth l i).c 0).y=0))=false:=by simpa using d1
        have d5:((nth (nth l i).c 0).x==0&&(nth (nth l i).c 0).y==0)=false:=by simpa using d1
        rcases Nat.eq_zero_or_pos i with b6|b6
        ·subst b6
         simp (disch:=omega) [-getElem?_pos,-Int.natCast_eq_zero,wrap64,bb (l:=l),h3,dj,cN,mJ,kR,a2,c1,V.iR,er,ki,bb (l:=(nth l 0).c),hp,d4,d5];exact(stop (by omega)).symm
        ·have b7:¬ (nth l i).lv≤(nth l (i-1)).lv:=fun h=>b1 ⟨b6,h⟩
         have b4:0≤(i:Int)-1:=by omega
         simp (disch:=omega) [-getElem?_pos,-Int.natCast_eq_zero,wrap64,bb (l:=l),h3,dj,cN,mJ,kR,a2,c1,b6,b7,b4,h4,a4,V.iR,er,ki,bb (l:=(nth l i).c),hp,d4,d5];exact(stop (by omega)).symm
      ·rw[if_pos c1]at stop
       rcases Nat.eq_zero_or_pos i with b6|b6
       ·subst b6
        simp (disch:=omega) [-getElem?_pos,-Int.natCast_eq_zero,wrap64,bb (l:=l),h3,dj,cN,mJ,kR,a2,c1,c1];exact(stop (by omega)).symm
       ·have b7:¬ (nth l i).lv≤(nth l (i-1)).lv:=fun h=>b1 ⟨b6,h⟩
        have b4:0≤(i:Int)-1:=by omega
        simp (disch:=omega) [-getElem?_pos,-Int.natCast_eq_zero,wrap64,bb (l:=l),h3,dj,cN,mJ,kR,a2,c1,b6,b7,b4,h4,a4,c1];exact(stop (by omega)).symm
    ·rw[if_pos a1]at stop
     have a2:(!decide (0≤(nth l i).lv) || !decide ((nth l i).lv≤16777216))=true:=by simp;omega
     simp (disch:=omega) [-getElem?_pos,-Int.natCast_eq_zero,wrap64,bb (l:=l),h3,dj,cN,a2];exact(stop (by omega)).symm
   ·obtain rfl:i=l.length:=by omega
    rw[mI]at hq;rw[←hq,if_neg (by omega)]at hW
    by_cases m1:0≤c5∧c5≤1000
    ·have m2:(!decide (0≤c5) || !decide (c5≤1000))=false:=by simp;omega
     by_cases m3:0≤move∧move≤1000
     ·have m4:(!decide (0≤move) || !decide (move≤1000))=false:=by simp;omega
      rw[if_neg (by omega)]at hW
      simp (disch:=omega) [-getElem?_pos,-Int.natCast_eq_zero,wrap64,dj,cN,m2,m4];exact hW
     ·have m4:(!decide (0≤move) || !decide (move≤1000))=true:=by simp;omega
      rw[if_pos (by omega)]at hW
      simp (disch:=omega) [-getElem?_pos,-Int.natCast_eq_zero,wrap64,dj,cN,m2,m4];exact hW
    ·have m2:(!decide (0≤c5) || !decide (c5≤1000))=true:=by simp;omega
     rw[if_pos (by omega)]at hW
     simp (disch:=omega) [-getElem?_pos,-Int.natCast_eq_zero,wrap64,dj,cN,m2];exact hW)
end Go.Proofs.YtmpikpodpgnjhaaGreat
