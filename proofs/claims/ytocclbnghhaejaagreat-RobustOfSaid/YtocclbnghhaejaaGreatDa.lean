/- Parts of the proof, joined: Mk1, Cur1, Cur2, Sto1, Sto2, Sto3, Un1, Un2, Un3, Un4, Mk2, Gat1. -/
import Derived.Test.YtocclbnghhaejaaGreatQV
namespace Go.Proofs.YtocclbnghhaejaaGreat
set_option linter.all false
open Go.Vm
attribute [local simp] lQ lR kP lP
def By(n m:Int):Int:=(IntKind.i64.wrap (n.tmod m+m)).tmod m
theorem YE{n m:Int}(hm:m≠0)(G:List aP):aX F 48 [i64 n,i64 m] G=some (i64 (By n m),G) :=
 bM rfl rfl (by simp[Vg,hm,By])
abbrev ints(l:List Int):V:=.slice none 1 (l.map fun n=>[i64 n])
abbrev dk(l:List Int)(k:Nat):aP:=.cells [ints l,i64 k]
theorem alv{n:Int}{l:List Int}{k:Nat}(h:n<1∨l.length≤k):aX F 16 [.bG 0 0,i64 n] [dk l k]=some (i64 0,[dk l k]) :=
 bM rfl rfl (by
  by_cases h1:n<1
  ·simp[Bk,h1]
  ·have h2:l.length≤k:=h.resolve_left h1
   simp[Bk,h1,h2])
theorem alw{n:Int}{l:List Int}{k:Nat}{v:Int}(h1:1≤n)(h2:l[k]?=some v)(hk:k<9223372036854775807):aX F 16 [.bG 0 0,i64 n] [dk l k]=some (i64 (By v n),[dk l (k+1)]) :=
 bM rfl rfl (by
  have hn:¬ n<1:=by omega
  have hl:¬ l.length≤k:=by have:=(List.getElem?_eq_some_iff.1 h2).1;omega
  simp (disch:=omega) [-getElem?_pos,wrap64,Bk,hn,hl,h2,YE])
theorem YF{v n:Int}(h1:1≤n)(h2:n≤4611686018427387904):0≤By v n∧By v n<n:=by
 have h3:-n<v.tmod n:=by
  rcases Int.le_total 0 v with h|h
  ·have:=Int.tmod_nonneg n h;omega
  ·have h4:=Int.tmod_lt_of_pos (-v) (show 0<n by omega)
   rw[Int.neg_tmod]at h4;omega
 have h4:v.tmod n<n:=Int.tmod_lt_of_pos _ (by omega)
 unfold By;rw[wrap64 (by omega) (by omega)]
 exact⟨Int.tmod_nonneg _ (by omega),Int.tmod_lt_of_pos _ (by omega)⟩
def db(l:List Int)(k:Nat):Prop:=k≤l.length∧l.length≤9223372036854775807
theorem fK{l:List Int}{k:Nat}(hd:db l k)(n:Int)(hn:n≤4611686018427387904) :
  ∃v k',aX F 16 [.bG 0 0,i64 n] [dk l k]=some (i64 v,[dk l k'])∧db l k'∧0≤v∧(v<n∨v=0):=by
 by_cases h:n<1∨l.length≤k
 ·exact⟨0,k,alv h,hd,by omega,.inr rfl⟩
 ·obtain⟨h1,h2⟩:=hd
  have h3:k<l.length:=by omega
  have h4:=alw (n:=n) (l:=l) (k:=k) (v:=nth l k) (by omega) (dj h3) (by omega)
  have h5:=YF (v:=nth l k) (n:=n) (by omega) hn
  exact⟨_,_,h4,⟨by omega,h2⟩,h5.1,.inl h5.2⟩
theorem s8(l:List Int)(G:List aP):aX F 12 [ints l] G=some (.bool (decide (l.length≤500)),G) :=
 bM rfl rfl (by simp[UL];omega)
theorem F6(l:List Int):aX F 13 [ints l] []=some (.bG 0 0,[dk l 0]) :=
 bM rfl rfl (by simp[UM])
def dB(f:Nat→Int):Nat→Nat→Int
 |0,_=>0
 |m+1,i=>if f i=0 then dB f m (i+1) else f i
theorem kB{f:Nat→Int}{i n:Nat}(h:i<n):dB f (n-i) i=if f i=0 then dB f (n-(i+1)) (i+1) else f i:=by
 obtain⟨m,hm⟩:∃m,n-i=m+1:=⟨n-i-1,by omega⟩
 rw[hm,dB,show n-(i+1)=m by omega]
theorem rU{f:Nat→Int}:∀{m i:Nat},dB f m i=0→∀j,i≤j→j<i+m→f j=0
 |0,i,_,j,h1,h2=>by omega
 |m+1,i,h,j,h1,h2=>by
  unfold dB at h;split at h
  ·rename_i h0
   by_cases hj:j=i
   ·rw[hj];exact h0
   ·exact rU h j (by omega) (by omega)
  ·rename_i h0;exact absurd h h0
theorem rW{f:Nat→Int}:∀{m i:Nat},(∀j,i≤j→j<i+m→f j=0)→dB f m i=0
 |0,i,_=>rfl
 |m+1,i,h=>by
  unfold dB;rw[if_pos (h i (by omega) (by omega))]
  exact rW fun j h1 h2=>h j (by omega) (by omega)
theorem mE{f:Nat→Int}{n:Nat}:dB f (n-n) n=0:=by rw[Nat.sub_self];rfl
theorem dC(n m:Int)(G:List aP):aX F 147 [i64 n,i64 m] G=some (.bool (decide (0≤n)&&decide (n≤m)),G) :=
 bM rfl rfl (by simp +contextual [wrap64,WO])
theorem alx(n m:Int)(G:List aP):aX F 150 [i64 n,i64 m] G=some (.bool (decide (0≤n)&&decide (n≤m)),G) :=
 bM rfl rfl (by simp +contextual [wrap64,WQ])
theorem cT(n m:Int)(G:List aP):aX F 106 [i64 n,i64 m] G=some (.bool (decide (0≤n)&&decide (n≤m)),G) :=
 bM rfl rfl (by simp[wrap64,auY,alx])
structure Pt where
 x:Int
 y:Int
 deriving Inhabited,DecidableEq
abbrev Pt.row(p:Pt):List V:=[i64 p.x,i64 p.y]
abbrev iv(c:List Pt):V:=.slice none 2 (c.map Pt.row)
def g8(c:List Pt)(i:Nat):Int :=
 if ¬((0≤(nth c i).x∧(nth c i).x≤1073741824)∧0≤(nth c i).y∧(nth c i).y≤274877906944) then 1
 else if i=0 then 0
 else if (nth c i).x≤(nth c (i-1)).x∨(nth c i).y<(nth c (i-1)).y then 4
 else if (4611686018427387904:Int).tdiv ((nth c i).x-(nth c (i-1)).x)<(nth c i).y-(nth c (i-1)).y then 1 else 0
def gi(c:List Pt):Int:=if c.length=0 then 3 else if 100<c.length then 10 else dB (g8 c) c.length 0
theorem Jl{c:List Pt}{i:Nat}(h:g8 c i=0):(0≤(nth c i).x∧(nth c i).x≤1073741824)∧0≤(nth c i).y∧(nth c i).y≤274877906944:=by
 unfold g8 at h;split at h
 ·cases h
 ·rename_i h1;exact Decidable.of_not_not h1
theorem OC{c:List Pt}{i:Nat}(h:g8 c i=0)(hi:0<i):(nth c (i-1)).x<(nth c i).x∧(nth c (i-1)).y≤(nth c i).y ∧
  (nth c i).y-(nth c (i-1)).y≤(4611686018427387904:Int).tdiv ((nth c i).x-(nth c (i-1)).x):=by
 unfold g8 at h;split at h
 ·cases h
 ·rw[if_neg (by omega)]at h
  split at h
  ·cases h
  ·split at h
   ·cases h
   ·omega
theorem aly(a b:Int)(h:0<a)(G:List aP):aX F 194 [i64 a,i64 b] G=some (.bool (decide ((4611686018427387904:Int).tdiv a<b)),G) :=
 bM rfl rfl (by
  have h1:0≤(4611686018427387904:Int).tdiv a:=Int.tdiv_nonneg (by omega) (by omega)
  have h2:(4611686018427387904:Int).tdiv a≤4611686018427387904:=by
   have:=Int.tdiv_le_self (a:=4611686018427387904) a (by omega)
   omega
  have h3:a≠0:=by omega
  simp (disch:=omega) [wrap64,XK,h,h3])
theorem nq(c:List Pt)(G:List aP):aX F 160 [iv c] G=some (i64 (gi c),G) :=
 bM rfl rfl (by
  generalize hW:gi c=W;unfold gi at hW;simp +contextual (disch:=omega) [-getElem?_pos,-Int.natCast_eq_zero,wrap64,W7];refine fe (fun h=>?_) (fun h=>bE (fun h'=>?_) (fun h'=>?_))
  ·simp[-List.length_eq_zero_iff,-Int.natCast_eq_zero]at h
   rw[if_pos (by omega)]at hW
   exact hW
  ·simp[-List.length_eq_zero_iff,-Int.natCast_eq_zero]at h
   rw[if_neg (by omega),if_pos (by omega)]at hW
   simpa using hW
  ·have hq:dB (g8 c) (c.length-0) 0=W:=by
    simp[-List.length_eq_zero_iff,-Int.natCast_eq_zero]at h;rw[if_neg (by omega),if_neg (by omega)]at hW
    exact hW
   refine go_loop (fun i:Nat=>ajH (iv c) (iv c) c.length i G) (fun i=>i≤c.length∧dB (g8 c) (c.length-i) i=W∧∀j,j<i→g8 c j=0) (fun i=>c.length-i) 0 rfl (by simp) ⟨by omega,hq,by omega⟩ ?_
   rintro i ⟨hi,hq,hz⟩;simp +contextual (disch:=omega) [-getElem?_pos,-Int.natCast_eq_zero,wrap64,W6];refine bE (fun h1=>?_) (fun h1=>?_)
   ·have h1:i<c.length:=by omega
    rw[kB h1]at hq;have e:=aW h1;simp +contextual (disch:=omega) [-getElem?_pos,-Int.natCast_eq_zero,wrap64,aW (l:=c),dC];refine fe (fun h2=>?_) (fun h2=>?_)
    ·simp +contextual (disch:=omega) [-getElem?_pos,-Int.natCast_eq_zero,wrap64,h2,dC]
     simp[-List.length_eq_zero_iff,-Int.natCast_eq_zero]at h2;rw[show g8 c i=1 by rw[g8,if_pos (by omega)],if_neg (by decide)]at hq
     exact hq
    ·simp +contextual (disch:=omega) [-getElem?_pos,-Int.natCast_eq_zero,wrap64,h2,dC]
     simp[-List.length_eq_zero_iff,-Int.natCast_eq_zero]at h2;refine fe (fun h3=>?_) (fun h3=>bE (fun h4=>?_) (fun h4=>?_))
     ·simp[-List.length_eq_zero_iff,-Int.natCast_eq_zero]at h3
      rw[show g8 c i=1 by rw[g8,if_pos (by omega)],if_neg (by decide)]at hq
      exact hq
     ·simp[-List.length_eq_zero_iff,-Int.natCast_eq_zero]at h3
      have h0:g8 c i=0:=by rw[g8,if_neg (by omega),if_pos (by omega)]
      rw[h0,if_pos rfl]at hq;exact bF (i+1) (by simp) ⟨by omega,hq,fun j hj=>by rcases Nat.lt_or_ge j i with h|h;exact hz j h;rwa [show j=i by omega]⟩ (by omega)
     ·simp[-List.length_eq_zero_iff,-Int.natCast_eq_zero]at h3
      have h5:((i:Int)-1).toNat=i-1:=by omega
      have h6:i-1<c.length:=by omega
      have h7:0≤(i:Int)-1:=by omega
      have h8:=Jl (hz (i-1) (by omega))
      simp +contextual (disch:=omega) [-getElem?_pos,-Int.natCast_eq_zero,wrap64,aW (l:=c),h5,h7];refine fe (fun h9=>?_) (fun h9=>?_)
      ·simp[-List.length_eq_zero_iff,-Int.natCast_eq_zero]at h9
       rw[show g8 c i=4 by rw[g8,if_neg (by omega),if_neg (by omega),if_pos (by omega)],if_neg (by decide)]at hq
       exact hq
      ·simp[-List.length_eq_zero_iff,-Int.natCast_eq_zero]at h9
       simp +contextual (disch:=omega) [-getElem?_pos,-Int.natCast_eq_zero,wrap64,aly];refine bE (fun fO=>?_) (fun fO=>?_)
       ·rw[show g8 c i=1 by rw[g8,if_neg (by omega),if_neg (by omega),if_neg (by omega),if_pos (by omega)],if_neg (by decide)]at hq
        exact hq
       ·have h0:g8 c i=0:=by rw[g8,if_neg (by omega),if_neg (by omega),if_neg (by omega),if_neg (by omega)]
        rw[h0,if_pos rfl]at hq;exact bF (i+1) (by simp) ⟨by omega,hq,fun j hj=>by rcases Nat.lt_or_ge j i with h|h;exact hz j h;rwa [show j=i by omega]⟩ (by omega)
   ·obtain rfl:i=c.length:=by omega
    rw[mE]at hq;simp[←hq])
theorem lS(c:List Pt)(G:List aP):aX F 161 [iv c] G=some (i64 (gi c),G) :=
 bM rfl rfl (by
  generalize hW:gi c=W;unfold gi at hW;simp +contextual (disch:=omega) [-getElem?_pos,-Int.natCast_eq_zero,wrap64,W9];refine fe (fun h=>?_) (fun h=>bE (fun h'=>?_) (fun h'=>?_))
  ·simp[-List.length_eq_zero_iff,-Int.natCast_eq_zero]at h
   rw[if_pos (by omega)]at hW
   exact hW
  ·simp[-List.length_eq_zero_iff,-Int.natCast_eq_zero]at h
   rw[if_neg (by omega),if_pos (by omega)]at hW
   simpa using hW
  ·have hq:dB (g8 c) (c.length-0) 0=W:=by
    simp[-List.length_eq_zero_iff,-Int.natCast_eq_zero]at h;rw[if_neg (by omega),if_neg (by omega)]at hW
    exact hW
   refine go_loop (fun i:Nat=>ajJ (iv c) (iv c) c.length i G) (fun i=>i≤c.length∧dB (g8 c) (c.length-i) i=W∧∀j,j<i→g8 c j=0) (fun i=>c.length-i) 0 rfl (by simp) ⟨by omega,hq,by omega⟩ ?_
   rintro i ⟨hi,hq,hz⟩;simp +contextual (disch:=omega) [-getElem?_pos,-Int.natCast_eq_zero,wrap64,W8];refine bE (fun h1=>?_) (fun h1=>?_)
   ·have h1:i<c.length:=by omega
    rw[kB h1]at hq;have e:=aW h1;simp +contextual (disch:=omega) [-getElem?_pos,-Int.natCast_eq_zero,wrap64,aW (l:=c),cT];refine fe (fun h2=>?_) (fun h2=>?_)
    ·simp +contextual (disch:=omega) [-getElem?_pos,-Int.natCast_eq_zero,wrap64,h2,cT]
     simp[-List.length_eq_zero_iff,-Int.natCast_eq_zero]at h2;rw[show g8 c i=1 by rw[g8,if_pos (by omega)],if_neg (by decide)]at hq
     exact hq
    ·simp +contextual (disch:=omega) [-getElem?_pos,-Int.natCast_eq_zero,wrap64,h2,cT]
     simp[-List.length_eq_zero_iff,-Int.natCast_eq_zero]at h2;refine fe (fun h3=>?_) (fun h3=>bE (fun h4=>?_) (fun h4=>?_))
     ·simp[-List.length_eq_zero_iff,-Int.natCast_eq_zero]at h3
      rw[show g8 c i=1 by rw[g8,if_pos (by omega)],if_neg (by decide)]at hq
      exact hq
     ·simp[-List.length_eq_zero_iff,-Int.natCast_eq_zero]at h3
      have h0:g8 c i=0:=by rw[g8,if_neg (by omega),if_pos (by omega)]
      rw[h0,if_pos rfl]at hq;exact bF (i+1) (by simp) ⟨by omega,hq,fun j hj=>by rcases Nat.lt_or_ge j i with h|h;exact hz j h;rwa [show j=i by omega]⟩ (by omega)
     ·simp[-List.length_eq_zero_iff,-Int.natCast_eq_zero]at h3
      have h5:((i:Int)-1).toNat=i-1:=by omega
      have h6:i-1<c.length:=by omega
      have h7:0≤(i:Int)-1:=by omega
      have h8:=Jl (hz (i-1) (by omega))
      simp +contextual (disch:=omega) [-getElem?_pos,-Int.natCast_eq_zero,wrap64,aW (l:=c),h5,h7];refine fe (fun h9=>?_) (fun h9=>?_)
      ·simp[-List.length_eq_zero_iff,-Int.natCast_eq_zero]at h9
       rw[show g8 c i=4 by rw[g8,if_neg (by omega),if_neg (by omega),if_pos (by omega)],if_neg (by decide)]at hq
       exact hq
      ·simp[-List.length_eq_zero_iff,-Int.natCast_eq_zero]at h9
       have iA:(nth c i).x-(nth c (i-1)).x≠0:=by omega
       have sM:(4611686018427387904:Int).tdiv ((nth c i).x-(nth c (i-1)).x)≤4611686018427387904:=by
        have:=Int.tdiv_le_self (a:=4611686018427387904) ((nth c i).x-(nth c (i-1)).x) (by omega)
        omega
       have YG:0≤(4611686018427387904:Int).tdiv ((nth c i).x-(nth c (i-1)).x):=Int.tdiv_nonneg (by omega) (by omega)
       simp +contextual (disch:=omega) [-getElem?_pos,-Int.natCast_eq_zero,wrap64,iA];refine bE (fun fO=>?_) (fun fO=>?_)
       ·rw[show g8 c i=1 by rw[g8,if_neg (by omega),if_neg (by omega),if_neg (by omega),if_pos (by omega)],if_neg (by decide)]at hq
        exact hq
       ·have h0:g8 c i=0:=by rw[g8,if_neg (by omega),if_neg (by omega),if_neg (by omega),if_neg (by omega)]
        rw[h0,if_pos rfl]at hq;exact bF (i+1) (by simp) ⟨by omega,hq,fun j hj=>by rcases Nat.lt_or_ge j i with h|h;exact hz j h;rwa [show j=i by omega]⟩ (by omega)
   ·obtain rfl:i=c.length:=by omega
    rw[mE]at hq;simp[←hq])
def oI(c:List Pt)(i:Nat)(x:Int):Int :=
 (nth c (i-1)).y+(((nth c i).y-(nth c (i-1)).y)*(x-(nth c (i-1)).x)).tdiv ((nth c i).x-(nth c (i-1)).x)
def vu(c:List Pt)(x:Int):Nat→Nat→Int
 |0,_=>(nth c (c.length-1)).y
 |m+1,i=>if x≤(nth c i).x then (if i=0 then (nth c i).y else oI c i x) else vu c x m (i+1)
def ik(c:List Pt)(x:Int):Int:=vu c x c.length 0
structure Cv(c:List Pt):Prop where
 pos:0<c.length
 jo:c.length≤100
 x0:∀i,i<c.length→0≤(nth c i).x∧(nth c i).x≤1073741824
 y0:∀i,i<c.length→0≤(nth c i).y∧(nth c i).y≤274877906944
 up:∀i,0<i→i<c.length→(nth c (i-1)).x<(nth c i).x
 mono:∀i,0<i→i<c.length→(nth c (i-1)).y≤(nth c i).y
 prod:∀i,0<i→i<c.length→((nth c i).y-(nth c (i-1)).y)*((nth c i).x-(nth c (i-1)).x)≤4611686018427387904
theorem mb{c:List Pt}(h:gi c=0):Cv c:=by
 unfold gi at h;split at h
 ·cases h
 ·split at h
  ·cases h
  ·have hz:∀i,i<c.length→g8 c i=0:=fun i hi=>rU h i (by omega) (by omega)
   refine⟨by omega,by omega,fun i hi=>(Jl (hz i hi)).1,fun i hi=>(Jl (hz i hi)).2,fun i h0 hi=>(OC (hz i hi) h0).1,fun i h0 hi=>(OC (hz i hi) h0).2.1,fun i h0 hi=>?_⟩
   obtain⟨h1,h2,h3⟩:=OC (hz i hi) h0;generalize Jm:(nth c i).x-(nth c (i-1)).x=dx at *;generalize Jo:(nth c i).y-(nth c (i-1)).y=dy at *;have h4:(4611686018427387904:Int).tdiv dx*dx≤4611686018427387904:=by
    have:=Int.mul_tdiv_add_tmod 4611686018427387904 dx;rw[Int.mul_comm]at this;have:=Int.tmod_nonneg (a:=4611686018427387904) dx (by omega)
    omega
   exact Int.le_trans (Int.mul_le_mul_of_nonneg_right h3 (by omega)) h4
theorem Cv.lt{c:List Pt}(h:Cv c):∀{i j:Nat},i<j→j<c.length→(nth c i).x<(nth c j).x:=by
 intro i j OD hj;induction j with
 |zero=>omega
 |succ j ih =>
  have:=h.up (j+1) (by omega) hj
  simp at this;rcases Nat.lt_or_ge i j with h1|h1
  ·have:=ih h1 (by omega);omega
  ·obtain rfl:i=j:=by omega
   exact this
theorem Cv.le{c:List Pt}(h:Cv c):∀{i j:Nat},i≤j→j<c.length→(nth c i).y≤(nth c j).y:=by
 intro i j OD hj;induction j with
 |zero=>obtain rfl:i=0:=by omega
        omega
 |succ j ih =>
  have:=h.mono (j+1) (by omega) hj
  simp at this;rcases Nat.lt_or_ge j i with h1|h1
  ·obtain rfl:i=j+1:=by omega
   omega
  ·have:=ih h1 (by omega);omega
theorem F7{c:List Pt}(h:Cv c){i:Nat}{x:Int}(h0:0<i)(hi:i<c.length)(h1:(nth c (i-1)).x≤x)(h2:x≤(nth c i).x) :
  0≤((nth c i).y-(nth c (i-1)).y)*(x-(nth c (i-1)).x)∧((nth c i).y-(nth c (i-1)).y)*(x-(nth c (i-1)).x)≤4611686018427387904 ∧
  0≤(((nth c i).y-(nth c (i-1)).y)*(x-(nth c (i-1)).x)).tdiv ((nth c i).x-(nth c (i-1)).x) ∧
  (((nth c i).y-(nth c (i-1)).y)*(x-(nth c (i-1)).x)).tdiv ((nth c i).x-(nth c (i-1)).x)≤(nth c i).y-(nth c (i-1)).y:=by
 have h3:=h.up i h0 hi;have h4:=h.mono i h0 hi;have h5:=h.prod i h0 hi;generalize Jm:(nth c i).x-(nth c (i-1)).x=dx at *;generalize Jo:(nth c i).y-(nth c (i-1)).y=dy at *;generalize ht:x-(nth c (i-1)).x=t at *;have h6:0≤dy*t:=Int.mul_nonneg (by omega) (by omega)
 have h7:dy*t≤dy*dx:=Int.mul_le_mul_of_nonneg_left (by omega) (by omega)
 refine⟨h6,by omega,Int.tdiv_nonneg h6 (by omega),?_⟩
 have h8:=Int.tdiv_le_tdiv (a:=dy*t) (b:=dy*dx) (c:=dx) (by omega) h7
 rwa [Int.mul_tdiv_cancel _ (by omega)]at h8
theorem F8{c:List Pt}{x:Int}{n:Nat}:∀{k i:Nat},i≤k→k≤n→(∀j,i≤j→j<k→(nth c j).x<x)→vu c x (n-i) i=vu c x (n-k) k:=by
 intro k;induction k with
 |zero=>intro i h1 _ _;obtain rfl:i=0:=by omega
        rfl
 |succ k ih =>
  intro i h1 h2 h3;rcases Nat.lt_or_ge k i with h|h
  ·obtain rfl:i=k+1:=by omega
   rfl
  ·rw[ih h (by omega) (fun j a b=>h3 j a (by omega))]
   obtain⟨m,hm⟩:∃m,n-k=m+1:=⟨n-k-1,by omega⟩
   have:=h3 k h (by omega)
   rw[hm,vu,if_neg (by omega),show n-(k+1)=m by omega]
theorem F9{c:List Pt}{x:Int}{n i:Nat}(hi:i<n)(h:x≤(nth c i).x):vu c x (n-i) i=if i=0 then (nth c i).y else oI c i x:=by
 obtain⟨m,hm⟩:∃m,n-i=m+1:=⟨n-i-1,by omega⟩
 rw[hm,vu,if_pos h]
theorem Bz{c:List Pt}{x:Int}(h:Cv c)(h1:x≤(nth c 0).x):ik c x=(nth c 0).y:=by
 have:=F9 (c:=c) (x:=x) (n:=c.length) h.pos h1;simpa [ik] using this
theorem CM{c:List Pt}{x:Int}{i:Nat}(h:Cv c)(h0:0<i)(hi:i<c.length)(h1:(nth c (i-1)).x≤x)(h2:x≤(nth c i).x):ik c x=oI c i x:=by
 have up:=h.up i h0 hi;by_cases hx:(nth c (i-1)).x<x
 ·have:=F8 (c:=c) (x:=x) (n:=c.length) (i:=0) (k:=i) (by omega) (by omega) (fun j _ hj=>by
   rcases Nat.lt_or_ge j (i-1) with h3|h3
   ·have:=h.lt h3 (by omega);omega
   ·obtain rfl:j=i-1:=by omega
    exact hx)
  rw[F9 hi h2,if_neg (by omega)]at this
  simpa [ik] using this
 ·have hx:x=(nth c (i-1)).x:=by omega
  subst hx;have:=F8 (c:=c) (x:=(nth c (i-1)).x) (n:=c.length) (i:=0) (k:=i-1) (by omega) (by omega) (fun j _ hj=>h.lt (by omega) (by omega))
  rw[F9 (n:=c.length) (i:=i-1) (by omega) (by omega)]at this
  have e:oI c i (nth c (i-1)).x=(nth c (i-1)).y:=by simp[oI]
  rw[e];simp only[Nat.sub_zero]at this;rw[ik,this];split
  ·rfl
  ·rename_i h3
   have h4:=h.up (i-1) (by omega) (by omega)
   rw[oI,Int.mul_tdiv_cancel _ (by omega)]
   omega
theorem Jp{c:List Pt}{x:Int}(h:Cv c)(h1:(nth c (c.length-1)).x≤x):ik c x=(nth c (c.length-1)).y:=by
 have hp:=h.pos;rcases Nat.lt_or_ge 1 c.length with h2|h2
 ·by_cases hx:(nth c (c.length-1)).x<x
  ·have:=F8 (c:=c) (x:=x) (n:=c.length) (i:=0) (k:=c.length) (by omega) (by omega) (fun j _ hj=>by
    rcases Nat.lt_or_ge j (c.length-1) with h3|h3
    ·have:=h.lt h3 (by omega);omega
    ·obtain rfl:j=c.length-1:=by omega
     exact hx)
   simp only[Nat.sub_zero,Nat.sub_self]at this;rw[ik,this,vu]
  ·obtain rfl:x=(nth c (c.length-1)).x:=by omega
   have hu:=h.up (c.length-1) (by omega) (by omega)
   rw[CM h (i:=c.length-1) (by omega) (by omega) (by omega) (by omega),oI,Int.mul_tdiv_cancel _ (by omega)]
   omega
 ·by_cases hx:x≤(nth c 0).x
  ·rw[Bz h hx,show c.length-1=0 by omega]
  ·have:=F8 (c:=c) (x:=x) (n:=c.length) (i:=0) (k:=c.length) (by omega) (by omega) (fun j _ hj=>by
    obtain rfl:j=0:=by omega
    omega)
   simp only[Nat.sub_zero,Nat.sub_self]at this;rw[ik,this,vu]
theorem OE{c:List Pt}(h:Cv c)(x:Int):x≤(nth c 0).x∨(∃i,0<i∧i<c.length∧(nth c (i-1)).x≤x∧x≤(nth c i).x)∨(nth c (c.length-1)).x≤x:=by
 have hp:=h.pos;by_cases h1:x≤(nth c 0).x
 ·exact .inl h1
 ·have:∀k,k<c.length→(∃i,0<i∧i≤k∧(nth c (i-1)).x≤x∧x≤(nth c i).x)∨(nth c k).x≤x:=by
   intro k;induction k with
   |zero=>intro _;right;omega
   |succ k ih =>
    intro hk;rcases ih (by omega) with⟨i,a,b,d,e⟩ | h2
    ·exact .inl ⟨i,a,by omega,d,e⟩
    ·by_cases h3:x≤(nth c (k+1)).x
     ·exact .inl ⟨k+1,by omega,by omega,h2,h3⟩
     ·right;omega
  rcases this (c.length-1) (by omega) with⟨i,a,b,d,e⟩ | h2
  ·exact .inr (.inl ⟨i,a,by omega,d,e⟩)
  ·exact .inr (.inr h2)
theorem DA{c:List Pt}(h:Cv c)(x:Int):(nth c 0).y≤ik c x∧ik c x≤(nth c (c.length-1)).y:=by
 have hp:=h.pos;have h0:=h.le (i:=0) (j:=c.length-1) (by omega) (by omega)
 rcases OE h x with h1 | ⟨i,a,b,d,e⟩ | h1
 ·rw[Bz h h1];omega
 ·rw[CM h a b d e]
  have h2:=F7 h a b d e;have h3:=h.le (i:=0) (j:=i-1) (by omega) (by omega)
  have h4:=h.le (i:=i) (j:=c.length-1) (by omega) (by omega)
  unfold oI;omega
 ·rw[Jp h h1];omega
theorem Jq{c:List Pt}(h:Cv c)(x:Int)(G:List aP):aX F 179 [iv c,i64 x] G=some (i64 (ik c x),G) :=
 bM rfl rfl (by
  have hp:=h.pos;have hf:=h.jo;generalize hW:ik c x=W;simp +contextual (disch:=omega) [-getElem?_pos,wrap64,Xu];refine go_loop (fun i:Nat=>akb (iv c) x (iv c) c.length i G) (fun i=>i≤c.length∧vu c x (c.length-i) i=W∧(0<i→(nth c (i-1)).x<x)) (fun i=>c.length-i) 0 rfl (by simp) ⟨by omega,hW,by omega⟩ ?_
  rintro i ⟨hi,hq,hl⟩;simp +contextual (disch:=omega) [-getElem?_pos,wrap64,Xt];refine bE (fun h1=>?_) (fun h1=>?_)
  ·have h1:i<c.length:=by omega
   simp +contextual (disch:=omega) [-getElem?_pos,wrap64,aW (l:=c)];refine fe (fun h2=>?_) (fun h2=>bE (fun h3=>?_) (fun h3=>?_))
   ·simp[-List.length_eq_zero_iff,-Int.natCast_eq_zero]at h2
    obtain rfl:i=0:=by omega
    rw[F9 h1 h2.1,if_pos rfl]at hq;exact hq
   ·simp[-List.length_eq_zero_iff,-Int.natCast_eq_zero]at h2
    have h4:0<i:=by omega
    have h5:1≤(i:Int):=by omega
    have h6:i-1<c.length:=by omega
    have h9:=hl h4;have h7:=F7 h h4 h1 (by omega) h3
    have h8:=h.up i h4 h1;have fO:=h.x0 i h1;have iA:=h.x0 (i-1) h6;have sM:=h.y0 i h1;have YG:=h.y0 (i-1) h6;have OF:(nth c i).x-(nth c (i-1)).x≠0:=by omega
    rw[F9 h1 h3,if_neg (by omega),oI]at hq
    simp +contextual (disch:=omega) [-getElem?_pos,wrap64,aW (l:=c),h5,OF];exact hq
   ·simp[-List.length_eq_zero_iff,-Int.natCast_eq_zero]at h2
    have:=F8 (c:=c) (x:=x) (n:=c.length) (i:=i) (k:=i+1) (by omega) (by omega) (fun j a b=>by
     obtain rfl:j=i:=by omega
     omega)
    rw[this]at hq;exact bF (i+1) (by simp) ⟨by omega,hq,fun _=>by simp;omega⟩ (by omega)
  ·obtain rfl:i=c.length:=by omega
   have h2:((c.length:Int)-1).toNat=c.length-1:=by omega
   rw[Nat.sub_self,vu]at hq;simp +contextual (disch:=omega) [-getElem?_pos,wrap64,aW (l:=c),h2];exact hq)
theorem YH{c:List Pt}(h:Cv c)(x:Int)(G:List aP):aX F 195 [iv c,i64 x] G=some (i64 (ik c x),G) :=
 bM rfl rfl (by
  have hp:=h.pos;have hf:=h.jo;generalize hW:ik c x=W;simp (disch:=omega) [-getElem?_pos,wrap64,XM,aW (l:=c)];refine bE (fun h1=>?_) (fun h1=>?_)
  ·rw[Bz h h1]at hW
   exact hW
  ·refine go_loop (fun i:Nat=>ako (iv c) x (i+1) G) (fun i=>i+1≤c.length∧(nth c i).x≤x) (fun i=>c.length-i) 0 rfl (by simp) ⟨by omega,by omega⟩ ?_
   rintro i ⟨hi,hl⟩;simp (disch:=omega) [-getElem?_pos,wrap64,XL];refine bE (fun h2=>?_) (fun h2=>?_)
   ·have h2:i+1<c.length:=by omega
    have h3:((i:Int)+1).toNat=i+1:=by omega
    simp (disch:=omega) [-getElem?_pos,wrap64,aW (l:=c),h3];refine bE (fun h4=>?_) (fun h4=>?_)
    ·have h7:=F7 h (i:=i+1) (x:=x) (by omega) h2 (by simpa using hl) (by omega)
     have h8:=h.up (i+1) (by omega) h2
     have fO:=h.x0 (i+1) h2;have iA:=h.x0 i (by omega)
     have sM:=h.y0 (i+1) h2;have YG:=h.y0 i (by omega)
     rw[CM h (i:=i+1) (by omega) h2 (by simpa using hl) (by omega),oI]at hW
     simp only[Nat.add_sub_cancel]at h7 h8 hW;have OF:(nth c (i+1)).x-(nth c i).x≠0:=by omega
     simp (disch:=omega) [-getElem?_pos,wrap64,aW (l:=c),OF];exact hW
    ·exact bF (i+1) (by simp) ⟨by omega,by omega⟩ (by omega)
   ·obtain rfl:c.length-1=i:=by omega
    have h3:((c.length:Int)-1).toNat=c.length-1:=by omega
    rw[Jp h hl]at hW;simp (disch:=omega) [-getElem?_pos,wrap64,aW (l:=c),h3];exact hW)
theorem OG(c:List Pt)(x:Int)(G:List aP):aX F 164 [iv c,i64 x] G=some (.tuple [i64 (if gi c=0 then ik c x else 0),i64 (gi c)],G) :=
 bM rfl rfl (by
  by_cases h:gi c=0
  ·simp[wrap64,N8,lS,h,YH (mb h)]
  ·simp[wrap64,N8,lS,h])
structure Rs where
 c:List Pt
 d:Int
 l:Int
 f:Int
 s:Int
 t:Int
abbrev Rs.cells(r:Rs):List V:=[iv r.c,i64 r.d,i64 r.l,i64 r.f,i64 r.s,i64 r.t]
def rY(c:List Pt)(i:Nat):Int:=if (nth c i).y≤(nth c (i-1)).y then 4 else 0
def r0(r:Rs):List Int:=[(nth r.c 0).x,r.d,r.l,r.f,r.s,r.t,(nth r.c (r.c.length-1)).x]
def pC(l:List Int)(i:Nat):Int:=if nth l i<nth l (i-1) then 4 else 0
def il(r:Rs):Int :=
 if gi r.c≠0 then gi r.c else if r.c.length<2 then 3 else if 16777216<(nth r.c (r.c.length-1)).x then 1
 else if dB (rY r.c) (r.c.length-1) 1=0 then dB (pC (r0 r)) (7-1) 1 else 4
theorem YI{c:List Pt}(h:gi c=0):c.length≤100:=by
 unfold gi at h;split at h
 ·cases h
 ·split at h
  ·cases h
  ·omega
theorem YJ(r:Rs)(G:List aP):aX F 112 [.agg r.cells] G=some (i64 (il r),G) :=
 bM rfl rfl (by
  generalize hW:il r=W;unfold il at hW;simp (disch:=omega) [-getElem?_pos,wrap64,auZ,nq];refine fe (fun h=>?_) (fun h=>?_)
  ·simp[-List.length_eq_zero_iff,-Int.natCast_eq_zero]at h
   rw[if_pos (by omega)]at hW
   exact hW
  ·simp[-List.length_eq_zero_iff,-Int.natCast_eq_zero]at h
   rw[if_neg (by omega)]at hW
   refine bE (fun h2=>?_) (fun h2=>?_)
   ·rw[if_pos (by omega)]at hW
    simpa using hW
   ·rw[if_neg (by omega)]at hW
    have h3:((r.c.length:Int)-1).toNat=r.c.length-1:=by omega
    have h4:r.c.length-1<r.c.length:=by omega
    have h5:0≤(r.c.length:Int)-1:=by omega
    have hl:=YI h;simp (disch:=omega) [-getElem?_pos,wrap64,aW (l:=r.c),h3,h4,h5];refine bE (fun h6=>?_) (fun h6=>?_)
    ·rw[if_pos (by omega)]at hW
     simpa using hW
    ·rw[if_neg (by omega)]at hW
     have hq:(if dB (rY r.c) (r.c.length-1) 1=0 then dB (pC (r0 r)) (7-1) 1 else (4:Int))=W:=hW
     clear hW
     refine go_loop (fun i:Nat=>aiN r.c.length i r.cells G) (fun i=>1≤i∧i≤r.c.length∧(if dB (rY r.c) (r.c.length-i) i=0 then dB (pC (r0 r)) (7-1) 1 else (4:Int))=W) (fun i=>r.c.length-i) 1 rfl (by simp) ⟨by omega,by omega,hq⟩ ?_
     rintro i ⟨OH,hi,hq⟩;simp (disch:=omega) [-getElem?_pos,wrap64,Wk];refine bE (fun h7=>?_) (fun h7=>?_)
     ·have h7:i<r.c.length:=by omega
      rw[kB h7]at hq;have h8:((i:Int)-1).toNat=i-1:=by omega
      have h9:i-1<r.c.length:=by omega
      have fO:0≤(i:Int)-1:=by omega
      simp (disch:=omega) [-getElem?_pos,wrap64,aW (l:=r.c),h8,h9,fO,h7];refine bE (fun iA=>?_) (fun iA=>?_)
      ·have e:rY r.c i=4:=by rw[rY,if_pos iA]
       rw[e]at hq;simpa using hq
      ·have e:rY r.c i=0:=by rw[rY,if_neg iA]
       rw[e,if_pos rfl]at hq;exact bF (i+1) (by simp) ⟨by omega,by omega,hq⟩ (by omega)
     ·have h7:i=r.c.length:=by omega
      subst h7;rw[mE]at hq;rw[if_pos rfl]at hq;simp (disch:=omega) [-getElem?_pos,wrap64,aW (l:=r.c),h3,h4,h5];have hL:(r0 r).length=7:=rfl;have hO:[V.int IntKind.i64 (nth r.c 0).x,V.int IntKind.i64 r.d,V.int IntKind.i64 r.l,V.int IntKind.i64 r.f,V.int IntKind.i64 r.s,V.int IntKind.i64 r.t,V.int IntKind.i64 (nth r.c (r.c.length-1)).x]=(r0 r).map (V.int .i64):=rfl;rw[hO];generalize r0 r=L at hq hL ⊢;refine go_loop (fun i:Nat=>aiP i (L.map (V.int .i64)) G) (fun i=>1≤i∧i≤7∧dB (pC L) (7-i) i=W) (fun i=>7-i) 1 rfl (by simp) ⟨by omega,by omega,hq⟩ ?_
      rintro j ⟨oc,hj,hq⟩;simp (disch:=omega) [-getElem?_pos,wrap64,Wl];refine bE (fun h7=>?_) (fun h7=>?_)
      ·have h7:j<7:=by omega
       rw[kB h7]at hq;have h8:((j:Int)-1).toNat=j-1:=by omega
       have h9:j-1<L.length:=by omega
       have fO:0≤(j:Int)-1:=by omega
       have iA:j<L.length:=by omega
       simp (disch:=omega) [-getElem?_pos,wrap64,aW (l:=L),h8,h9,fO,h7,iA,hL];refine bE (fun sM=>?_) (fun sM=>?_)
       ·have e:pC L j=4:=by rw[pC,if_pos sM]
        rw[e]at hq;simpa using hq
       ·have e:pC L j=0:=by rw[pC,if_neg sM]
        rw[e,if_pos rfl]at hq;exact bF (j+1) (by simp) ⟨by omega,by omega,hq⟩ (by omega)
      ·have h7:j=7:=by omega
       subst h7;simpa [dB] using hq)
theorem r7{r:Rs}(h:il r=0):gi r.c=0:=by
 unfold il at h;split at h
 ·rename_i h1;exact h
 ·rename_i h1;exact Decidable.of_not_not h1
theorem YK{c:List Pt}(h:Cv c):∀{m i:Nat},i+m<c.length→(nth c i).x≤(nth c (i+m)).x
 |0,i,_=>by simp
 |m+1,i,hi=>by
  have h1:=YK h (m:=m) (i:=i) (by omega)
  have h2:=h.up (i+m+1) (by omega) (by omega)
  have h3:i+m+1-1=i+m:=by omega
  rw[h3]at h2;have h4:i+(m+1)=i+m+1:=by omega
  rw[h4];omega
theorem zS(r:Rs)(G:List aP):aX F 116 [.agg r.cells] G=some (i64 (il r),G) :=
 bM rfl rfl (by
  generalize hW:il r=W;unfold il at hW;by_cases h:gi r.c=0
  ·rw[if_neg (by omega)]at hW
   have hl:=YI h;simp (disch:=omega) [-getElem?_pos,wrap64,NO,lS,h];refine bE (fun h2=>?_) (fun h2=>?_)
   ·rw[if_pos (by omega)]at hW
    simpa using hW
   ·rw[if_neg (by omega)]at hW
    have h3:((r.c.length:Int)-1).toNat=r.c.length-1:=by omega
    have h4:r.c.length-1<r.c.length:=by omega
    have h5:0≤(r.c.length:Int)-1:=by omega
    refine go_loop (fun i:Nat=>aiY r.c.length (iv r.c) r.c.length i r.cells G) (fun i=>i≤r.c.length∧∀j,j<i→(nth r.c j).x≤16777216) (fun i=>r.c.length-i) 0 rfl (by simp) ⟨by omega,by omega⟩ ?_
    rintro i ⟨hi,hz⟩;simp (disch:=omega) [-getElem?_pos,wrap64,Wt];refine bE (fun h6=>?_) (fun h6=>?_)
    ·have h6:i<r.c.length:=by omega
     simp (disch:=omega) [-getElem?_pos,wrap64,aW (l:=r.c),h6];refine bE (fun h7=>?_) (fun h7=>?_)
     ·have h8:=YK (mb h) (m:=r.c.length-1-i) (i:=i) (by omega)
      rw[show i+(r.c.length-1-i)=r.c.length-1 by omega]at h8
      rw[if_pos (by omega)]at hW
      simpa using hW
     ·exact bF (i+1) (by simp) ⟨by omega,fun j hj=>by rcases Nat.lt_or_ge j i with h|h;exact hz j h;rw[show j=i by omega];omega⟩ (by omega)
    ·have h6:i=r.c.length:=by omega
     subst h6;have h8:=hz (r.c.length-1) (by omega)
     rw[if_neg (by omega)]at hW
     have hq:(if dB (rY r.c) (r.c.length-1) 1=0 then dB (pC (r0 r)) (7-1) 1 else (4:Int))=W:=hW
     clear hW
     refine go_loop (fun i:Nat=>ai0 r.c.length i r.cells G) (fun i=>1≤i∧i≤r.c.length∧(if dB (rY r.c) (r.c.length-i) i=0 then dB (pC (r0 r)) (7-1) 1 else (4:Int))=W) (fun i=>r.c.length-i) 1 rfl (by simp) ⟨by omega,by omega,hq⟩ ?_
     rintro i ⟨OH,hi,hq⟩;simp (disch:=omega) [-getElem?_pos,wrap64,Wu];refine bE (fun h7=>?_) (fun h7=>?_)
     ·have h7:i<r.c.length:=by omega
      rw[kB h7]at hq;have h8:((i:Int)-1).toNat=i-1:=by omega
      have h9:i-1<r.c.length:=by omega
      have fO:0≤(i:Int)-1:=by omega
      simp (disch:=omega) [-getElem?_pos,wrap64,aW (l:=r.c),h8,h9,fO,h7];refine bE (fun iA=>?_) (fun iA=>?_)
      ·have e:rY r.c i=4:=by rw[rY,if_pos iA]
       rw[e]at hq;simpa using hq
      ·have e:rY r.c i=0:=by rw[rY,if_neg iA]
       rw[e,if_pos rfl]at hq;exact bF (i+1) (by simp) ⟨by omega,by omega,hq⟩ (by omega)
     ·have h7:i=r.c.length:=by omega
      subst h7;rw[mE]at hq;rw[if_pos rfl]at hq;simp (disch:=omega) [-getElem?_pos,wrap64,aW (l:=r.c),h3,h4,h5];have hL:(r0 r).length=7:=rfl;have hO:[[V.int IntKind.i64 (nth r.c 0).x],[V.int IntKind.i64 r.d],[V.int IntKind.i64 r.l],[V.int IntKind.i64 r.f],[V.int IntKind.i64 r.s],[V.int IntKind.i64 r.t],[V.int IntKind.i64 (nth r.c (r.c.length-1)).x]]=(r0 r).map (fun n=>[V.int .i64 n]):=rfl;rw[hO];generalize r0 r=L at hq hL ⊢
      refine go_loop (fun i:Nat=>ai2 (.slice none 1 (L.map (fun n=>[V.int .i64 n]))) i G) (fun i=>1≤i∧i≤7∧dB (pC L) (7-i) i=W) (fun i=>7-i) 1 rfl (by simp) ⟨by omega,by omega,hq⟩ ?_
      rintro j ⟨oc,hj,hq⟩;simp (disch:=omega) [-getElem?_pos,wrap64,Wv,hL];refine bE (fun h7=>?_) (fun h7=>?_)
      ·have h7:j<7:=by omega
       rw[kB h7]at hq;have h8:((j:Int)-1).toNat=j-1:=by omega
       have h9:j-1<L.length:=by omega
       have fO:0≤(j:Int)-1:=by omega
       have iA:j<L.length:=by omega
       simp (disch:=omega) [-getElem?_pos,wrap64,aW (l:=L),h8,h9,fO,h7,iA,hL];refine bE (fun sM=>?_) (fun sM=>?_)
       ·have e:pC L j=4:=by rw[pC,if_pos sM]
        rw[e]at hq;simpa using hq
       ·have e:pC L j=0:=by rw[pC,if_neg sM]
        rw[e,if_pos rfl]at hq;exact bF (j+1) (by simp) ⟨by omega,by omega,hq⟩ (by omega)
      ·have h7:j=7:=by omega
       subst h7;simpa [dB] using hq
  ·rw[if_pos h]at hW
   simp (disch:=omega) [-getElem?_pos,wrap64,NO,lS,h];exact hW)
def r8(r:Rs)(l:Int):Int:=if il r≠0 then il r else if 0≤l∧l≤16777216 then 0 else 1
theorem alz{r:Rs}{l:Int}(h:r8 r l=0):il r=0:=by
 unfold r8 at h;split at h
 ·exact h
 ·rename_i h1;exact Decidable.of_not_not h1
theorem YL(r:Rs)(l:Int)(G:List aP):aX F 163 [.agg r.cells,i64 l] G=some (i64 (r8 r l),G) :=
 bM rfl rfl (by
  by_cases h:il r=0
  ·by_cases h1:0≤l
   ·by_cases h2:l≤16777216
    ·simp[wrap64,FW,zS,h,h1,h2,cT,r8]
    ·simp[wrap64,FW,zS,h,h1,h2,cT,r8]
   ·simp[wrap64,FW,zS,h,h1,cT,r8]
  ·simp[wrap64,FW,zS,h,r8])
theorem Jr(r:Rs)(l:Int)(G:List aP):aX F 120 [.agg r.cells,i64 l] G=some (.tuple [i64 (if r8 r l=0 then ik r.c l else 0),i64 (r8 r l)],G) :=
 bM rfl rfl (by
  by_cases h:r8 r l=0
  ·simp[wrap64,NS,YL,h,OG,r7 (alz h)]
  ·simp[wrap64,NS,YL,h])
def BB(c:List Pt)(y:Int)(i:Nat):Int :=
 (nth c i).x+((y-(nth c i).y+1)*((nth c (i+1)).x-(nth c i).x)-1).tdiv ((nth c (i+1)).y-(nth c i).y)
def qN(c:List Pt)(y:Int):Nat→Nat→Int
 |0,_=>(nth c (c.length-1)).x
 |m+1,i=>if y<(nth c (i+1)).y then BB c y i else qN c y m (i+1)
def wA(c:List Pt)(y:Int):Int:=qN c y (c.length-1) 0
theorem alA{c:List Pt}{y:Int}{i n:Nat}(h:i<n):qN c y (n-i) i=if y<(nth c (i+1)).y then BB c y i else qN c y (n-(i+1)) (i+1):=by
 obtain⟨m,hm⟩:∃m,n-i=m+1:=⟨n-i-1,by omega⟩
 rw[hm,qN,show n-(i+1)=m by omega]
theorem YM{c:List Pt}(h:gi c=0)(y:Int)(G:List aP) :
  aX F 222 [iv c,i64 y] G=some (.tuple [i64 (if y<(nth c 0).y then 0 else wA c y),.bool (decide ((nth c 0).y≤y)),i64 0],G) :=
 bM rfl rfl (by
  have hc:=mb h;have hp:=hc.pos;have hl:=hc.jo;simp (disch:=omega) [-getElem?_pos,wrap64,Yb,nq,h,aW (l:=c),hp];refine bE (fun h1=>⟨fun h2=>absurd h1 (by omega),h1⟩) (fun h1=>?_)
  have hT:(List.take c.length (List.map Pt.row c)).tail=c.tail.map Pt.row:=by
   rw[List.take_of_length_le (by simp),List.map_tail]
  have hTl:c.tail.length=c.length-1:=by simp
  have YN:∀i,nth c.tail i=nth c (i+1):=fun i=>by simp[nth]
  rw[hT];generalize c.tail=T at hTl YN ⊢;refine go_loop (fun i:Nat=>akP (iv c) y (.slice none 2 (T.map Pt.row)) ((c.length-1:Nat):Int) i G) (fun i=>i≤c.length-1∧qN c y (c.length-1-i) i=wA c y∧(nth c i).y≤y) (fun i=>c.length-1-i) 0 rfl (by simp) ⟨by omega,rfl,by omega⟩ ?_
  rintro i ⟨hi,hq,hy⟩;simp (disch:=omega) [-getElem?_pos,wrap64,Ya];refine bE (fun h2=>?_) (fun h2=>?_)
  ·have h2:i<c.length-1:=by omega
   rw[alA h2]at hq;have h3:i<T.length:=by omega
   have h4:i<c.length:=by omega
   simp (disch:=omega) [-getElem?_pos,wrap64,aW (l:=T),aW (l:=c),h3,h4,YN];refine bE (fun h5=>?_) (fun h5=>?_)
   ·rw[if_pos h5]at hq
    have y1:=hc.y0 i h4;have y2:=hc.y0 (i+1) (by omega)
    have x1:=hc.x0 i h4;have x2:=hc.x0 (i+1) (by omega)
    have u1:=hc.up (i+1) (by omega) (by omega)
    have u2:=hc.prod (i+1) (by omega) (by omega)
    simp only[Nat.add_sub_cancel]at u1 u2;have a1:(y-(nth c i).y+1)*((nth c (i+1)).x-(nth c i).x)≤((nth c (i+1)).y-(nth c i).y)*((nth c (i+1)).x-(nth c i).x):=Int.mul_le_mul_of_nonneg_right (by omega) (by omega)
    have a2:0<(y-(nth c i).y+1)*((nth c (i+1)).x-(nth c i).x):=Int.mul_pos (by omega) (by omega)
    have b1:0≤((y-(nth c i).y+1)*((nth c (i+1)).x-(nth c i).x)-1).tdiv ((nth c (i+1)).y-(nth c i).y):=Int.tdiv_nonneg (by omega) (by omega)
    have b2:((y-(nth c i).y+1)*((nth c (i+1)).x-(nth c i).x)-1).tdiv ((nth c (i+1)).y-(nth c i).y)≤(y-(nth c i).y+1)*((nth c (i+1)).x-(nth c i).x)-1:=Int.tdiv_le_self _ (by omega)
    have d0:¬ (nth c (i+1)).y-(nth c i).y=0:=by omega
    have e0:¬ y<(nth c 0).y:=h1;have e1:(nth c 0).y≤y:=by omega
    simp (disch:=omega) [-getElem?_pos,wrap64,wrap64,d0,e0,e1];rw[←hq];rfl
   ·rw[if_neg h5]at hq
    exact bF (i+1) (by simp) ⟨by omega,hq,by omega⟩ (by omega)
  ·have h2:i=c.length-1:=by omega
   subst h2;have h4:c.length-1<c.length:=by omega
   have h5:((c.length:Int)-1).toNat=c.length-1:=by omega
   have e0:¬ y<(nth c 0).y:=h1;have e1:(nth c 0).y≤y:=by omega
   rw[Nat.sub_self]at hq;simp (disch:=omega) [-getElem?_pos,wrap64,aW (l:=c),h4,h5,e0,e1];rw[←hq];rfl)
def jG(r:Rs)(v:Int):Int:=if v<(nth r.c 0).y then (nth r.c 0).x else wA r.c v
theorem alC{r:Rs}(h:il r=0)(v:Int)(G:List aP):aX F 216 [.agg r.cells,i64 v] G=some (i64 (jG r v),G) :=
 bM rfl rfl (by
  have hp:=(mb (r7 h)).pos;by_cases h1:v<(nth r.c 0).y
  ·have h2:¬ (nth r.c 0).y≤v:=by omega
   simp[-getElem?_pos,wrap64,Om,YM (r7 h),h1,h2,aW (l:=r.c),hp,jG]
  ·have h2:(nth r.c 0).y≤v:=by omega
   simp[-getElem?_pos,wrap64,Om,YM (r7 h),h1,h2,aW (l:=r.c),hp,jG])
structure Bd where
 lo:Int
 hi:Int
 deriving Inhabited,DecidableEq
abbrev Bd.row(b:Bd):List V:=[i64 b.lo,i64 b.hi]
abbrev BC(l:List Bd):V:=.slice none 2 (l.map Bd.row)
structure Un where
 table:List Pt
 least:Int
 c9:Int
 fL:List Bd
 up:Int
 down:Int
 deriving Inhabited,DecidableEq
abbrev Un.row(u:Un):List V:=[iv u.table,i64 u.least,i64 u.c9,BC u.fL,i64 u.up,i64 u.down]
abbrev un(u:Un):V:=.agg u.row
def kR(z:List Bd)(i:Nat):Int :=
 if ¬((0≤(nth z i).lo∧(nth z i).lo≤1073741824)∧0≤(nth z i).hi∧(nth z i).hi≤1073741824) then 1 else if (nth z i).hi≤(nth z i).lo then 4 else 0
def gT(u:Un):Int :=
 if gi u.table≠0 then gi u.table
 else if 1073741824<(nth u.table (u.table.length-1)).y then 1
 else if u.least<1∨u.c9<u.least∨1073741824<u.c9 then 1
 else if 10<u.fL.length then 10
 else if dB (kR u.fL) u.fL.length 0≠0 then dB (kR u.fL) u.fL.length 0
 else if ¬((0≤u.up∧u.up≤1000)∧0≤u.down∧u.down≤1000) then 1 else 0
theorem s9{c:List Pt}(h:gi c=0):0<c.length:=(mb h).pos
theorem r9(u:Un)(G:List aP):aX F 113 [un u] G=some (i64 (gT u),G) :=
 bM rfl rfl (by
  obtain⟨c,least,c9,z,up,down⟩:=u;generalize hW:gT ⟨c,least,c9,z,up,down⟩=W;unfold gT at hW;simp only at hW;by_cases hc:gi c=0
  ·have hp:=s9 hc
   have hf:=(mb hc).jo;have h2:((c.length:Int)-1).toNat=c.length-1:=by omega
   rw[if_neg (by simpa using hc)]at hW
   simp +contextual (disch:=omega) [-getElem?_pos,wrap64,NM,nq,hc,aW (l:=c),h2];refine bE (fun h3=>?_) (fun h3=>?_)
   ·rw[if_pos (by omega)]at hW
    exact hW
   refine fe (fun h4=>?_) (fun h4=>?_)
   ·simp[-List.length_eq_zero_iff,-Int.natCast_eq_zero]at h4
    rw[if_neg (by omega),if_pos (by omega)]at hW
    exact hW
   simp[-List.length_eq_zero_iff,-Int.natCast_eq_zero]at h4;rw[if_neg (by omega),if_neg (by omega)]at hW
   refine bE (fun h5=>?_) (fun h5=>?_)
   ·rw[if_pos (by omega)]at hW
    exact hW
   rw[if_neg (by omega)]at hW
   refine go_loop (fun i:Nat=>aiR (BC z) z.length i [iv c,i64 least,i64 c9,BC z,i64 up,i64 down] G) (fun i=>i≤z.length∧dB (kR z) (z.length-i) i=dB (kR z) z.length 0) (fun i=>z.length-i) 0 rfl (by simp) ⟨by omega,rfl⟩ ?_
   rintro i ⟨hi,hq⟩;simp +contextual (disch:=omega) [-getElem?_pos,wrap64,Wo];refine bE (fun h1=>?_) (fun h1=>?_)
   ·have h1:i<z.length:=by omega
    rw[kB h1]at hq;simp +contextual (disch:=omega) [-getElem?_pos,wrap64,aW (l:=z),dC];refine fe (fun h6=>?_) (fun h6=>?_)
    ·simp +contextual (disch:=omega) [-getElem?_pos,wrap64,h6,dC]
     simp[-List.length_eq_zero_iff,-Int.natCast_eq_zero]at h6;rw[show kR z i=1 by rw[kR,if_pos (by omega)],if_neg (by decide)]at hq
     rw[←hq,if_pos (by decide)]at hW
     exact hW
    ·simp +contextual (disch:=omega) [-getElem?_pos,wrap64,h6,dC]
     simp[-List.length_eq_zero_iff,-Int.natCast_eq_zero]at h6;refine fe (fun h7=>?_) (fun h7=>bE (fun h8=>?_) (fun h8=>?_))
     ·simp[-List.length_eq_zero_iff,-Int.natCast_eq_zero]at h7
      rw[show kR z i=1 by rw[kR,if_pos (by omega)],if_neg (by decide)]at hq
      rw[←hq,if_pos (by decide)]at hW
      exact hW
     ·simp[-List.length_eq_zero_iff,-Int.natCast_eq_zero]at h7
      rw[show kR z i=4 by rw[kR,if_neg (by omega),if_pos (by omega)],if_neg (by decide)]at hq
      rw[←hq,if_pos (by decide)]at hW
      exact hW
     ·simp[-List.length_eq_zero_iff,-Int.natCast_eq_zero]at h7
      rw[show kR z i=0 by rw[kR,if_neg (by omega),if_neg (by omega)],if_pos rfl]at hq
      exact bF (i+1) (by simp) ⟨by omega,hq⟩ (by omega)
   ·obtain rfl:i=z.length:=by omega
    rw[mE]at hq;rw[←hq,if_neg (by decide)]at hW
    simp +contextual (disch:=omega) [-getElem?_pos,wrap64,dC];refine fe (fun h6=>?_) (fun h6=>?_)
    ·simp +contextual (disch:=omega) [-getElem?_pos,wrap64,h6,dC]
     simp[-List.length_eq_zero_iff,-Int.natCast_eq_zero]at h6;rw[if_pos (by omega)]at hW
     exact hW
    ·simp +contextual (disch:=omega) [-getElem?_pos,wrap64,h6,dC]
     simp[-List.length_eq_zero_iff,-Int.natCast_eq_zero]at h6;refine fe (fun h7=>?_) (fun h7=>?_)
     ·simp[-List.length_eq_zero_iff,-Int.natCast_eq_zero]at h7
      rw[if_pos (by omega)]at hW
      exact hW
     ·simp[-List.length_eq_zero_iff,-Int.natCast_eq_zero]at h7
      rw[if_neg (by omega)]at hW
      exact hW
  ·rw[if_pos (by simpa using hc)]at hW
   simp +contextual (disch:=omega) [-getElem?_pos,wrap64,NM,nq,hc];exact hW)
theorem mV(u:Un)(G:List aP):aX F 117 [un u] G=some (i64 (gT u),G) :=
 bM rfl rfl (by
  obtain⟨c,least,c9,z,up,down⟩:=u;generalize hW:gT ⟨c,least,c9,z,up,down⟩=W;unfold gT at hW;simp only at hW;by_cases hc:gi c=0
  ·have hp:=s9 hc
   have hf:=(mb hc).jo;have h2:((c.length:Int)-1).toNat=c.length-1:=by omega
   rw[if_neg (by simpa using hc)]at hW
   simp +contextual (disch:=omega) [-getElem?_pos,wrap64,NQ,lS,hc,aW (l:=c),h2];refine fe (fun h4=>?_) (fun h4=>?_)
   ·simp[-List.length_eq_zero_iff,-Int.natCast_eq_zero]at h4
    by_cases h3:1073741824<(nth c (c.length-1)).y
    ·rw[if_pos h3]at hW
     exact hW
    ·rw[if_neg h3,if_pos (by omega)]at hW
     exact hW
   simp[-List.length_eq_zero_iff,-Int.natCast_eq_zero]at h4;rw[if_neg (by omega),if_neg (by omega)]at hW
   refine bE (fun h5=>?_) (fun h5=>?_)
   ·rw[if_pos (by omega)]at hW
    exact hW
   rw[if_neg (by omega)]at hW
   refine go_loop (fun i:Nat=>ai4 (BC z) z.length i [iv c,i64 least,i64 c9,BC z,i64 up,i64 down] G) (fun i=>i≤z.length∧dB (kR z) (z.length-i) i=dB (kR z) z.length 0) (fun i=>z.length-i) 0 rfl (by simp) ⟨by omega,rfl⟩ ?_
   rintro i ⟨hi,hq⟩;simp +contextual (disch:=omega) [-getElem?_pos,wrap64,Ww];refine bE (fun h1=>?_) (fun h1=>?_)
   ·have h1:i<z.length:=by omega
    rw[kB h1]at hq;simp +contextual (disch:=omega) [-getElem?_pos,wrap64,aW (l:=z),cT];refine fe (fun h6=>?_) (fun h6=>?_)
    ·simp +contextual (disch:=omega) [-getElem?_pos,wrap64,h6,cT]
     simp[-List.length_eq_zero_iff,-Int.natCast_eq_zero]at h6;rw[show kR z i=1 by rw[kR,if_pos (by omega)],if_neg (by decide)]at hq
     rw[←hq,if_pos (by decide)]at hW
     exact hW
    ·simp +contextual (disch:=omega) [-getElem?_pos,wrap64,h6,cT]
     simp[-List.length_eq_zero_iff,-Int.natCast_eq_zero]at h6;refine fe (fun h7=>?_) (fun h7=>bE (fun h8=>?_) (fun h8=>?_))
     ·simp[-List.length_eq_zero_iff,-Int.natCast_eq_zero]at h7
      rw[show kR z i=1 by rw[kR,if_pos (by omega)],if_neg (by decide)]at hq
      rw[←hq,if_pos (by decide)]at hW
      exact hW
     ·simp[-List.length_eq_zero_iff,-Int.natCast_eq_zero]at h7
      rw[show kR z i=4 by rw[kR,if_neg (by omega),if_pos (by omega)],if_neg (by decide)]at hq
      rw[←hq,if_pos (by decide)]at hW
      exact hW
     ·simp[-List.length_eq_zero_iff,-Int.natCast_eq_zero]at h7
      rw[show kR z i=0 by rw[kR,if_neg (by omega),if_neg (by omega)],if_pos rfl]at hq
      exact bF (i+1) (by simp) ⟨by omega,hq⟩ (by omega)
   ·obtain rfl:i=z.length:=by omega
    rw[mE]at hq;rw[←hq,if_neg (by decide)]at hW
    simp +contextual (disch:=omega) [-getElem?_pos,wrap64,cT];refine fe (fun h6=>?_) (fun h6=>?_)
    ·simp +contextual (disch:=omega) [-getElem?_pos,wrap64,h6,cT]
     simp[-List.length_eq_zero_iff,-Int.natCast_eq_zero]at h6;rw[if_pos (by omega)]at hW
     exact hW
    ·simp +contextual (disch:=omega) [-getElem?_pos,wrap64,h6,cT]
     simp[-List.length_eq_zero_iff,-Int.natCast_eq_zero]at h6;refine fe (fun h7=>?_) (fun h7=>?_)
     ·simp[-List.length_eq_zero_iff,-Int.natCast_eq_zero]at h7
      rw[if_pos (by omega)]at hW
      exact hW
     ·simp[-List.length_eq_zero_iff,-Int.natCast_eq_zero]at h7
      rw[if_neg (by omega)]at hW
      exact hW
  ·rw[if_pos (by simpa using hc)]at hW
   simp +contextual (disch:=omega) [-getElem?_pos,wrap64,NQ,lS,hc];exact hW)
structure Uv(u:Un):Prop where
 cv:Cv u.table
 top:(nth u.table (u.table.length-1)).y≤1073741824
 least:1≤u.least
 c9:u.least≤u.c9
 OJ:u.c9≤1073741824
 jo:u.fL.length≤10
 Js:∀i,i<u.fL.length→(0≤(nth u.fL i).lo∧(nth u.fL i).hi≤1073741824)∧(nth u.fL i).lo<(nth u.fL i).hi
 up:0≤u.up∧u.up≤1000
 down:0≤u.down∧u.down≤1000
 eH:gi u.table=0
theorem pD{u:Un}(h:gT u=0):Uv u:=by
 unfold gT at h;split at h
 ·contradiction
 ·split at h
  ·cases h
  ·split at h
   ·cases h
   ·split at h
    ·cases h
    ·split at h
     ·contradiction
     ·split at h
      ·cases h
      ·rename_i h1 h2 h3 h4 h5 h6
       have h1:gi u.table=0:=Decidable.of_not_not h1;have h5:dB (kR u.fL) u.fL.length 0=0:=Decidable.of_not_not h5;refine⟨mb h1,by omega,by omega,by omega,by omega,by omega,fun i hi=>?_,by omega,by omega,h1⟩
       have h7:=rU h5 i (by omega) (by omega)
       unfold kR at h7;split at h7
       ·cases h7
       ·split at h7
        ·cases h7
        ·omega
def ins(u:Un)(q:Int):Prop:=∃i,i<u.fL.length∧(nth u.fL i).lo<q∧q<(nth u.fL i).hi
theorem YP{u:Un}(hu:Uv u)(q:Int)(G:List aP) :
  ∃r,aX F 228 [un u,i64 q] G=some (i64 r,G)∧q≤r∧¬ins u r∧(∀t,q≤t→t<r→ins u t)∧(r=q∨r≤1073741824):=by
 suffices h:gy (aX F) 228 [un u,i64 q] G fun v G'=>G'=G∧∃r,v=i64 r∧q≤r∧¬ins u r∧(∀t,q≤t→t<r→ins u t)∧(r=q∨r≤1073741824) by
  obtain⟨_,_,h,rfl,r,rfl,h2⟩:=h;exact⟨r,h,h2⟩
 refine gS rfl rfl ?_;have hz:=hu.Js;have hf:=hu.jo;simp +contextual (disch:=omega) [-getElem?_pos,wrap64,Yh];refine go_loop (fun r:Int=>akZ r u.row G) (fun r=>q≤r∧(∀t,q≤t→t<r→ins u t)∧(r=q∨r≤1073741824)) (fun r=>(1073741824-r).toNat) q rfl (by simp) ⟨by omega,by omega,.inl rfl⟩ ?_
 rintro r ⟨h1,h2,h3⟩;simp +contextual (disch:=omega) [-getElem?_pos,wrap64,Yg];refine go_loop (fun i:Nat=>akX r (BC u.fL) u.fL.length i u.row G) (fun i=>i≤u.fL.length∧∀j,j<i→¬((nth u.fL j).lo<r∧r<(nth u.fL j).hi)) (fun i=>u.fL.length-i) 0 rfl (by simp) ⟨by omega,by omega⟩ ?_
 rintro i ⟨hi,hn⟩;simp +contextual (disch:=omega) [-getElem?_pos,wrap64,Yf];refine bE (fun h4=>?_) (fun h4=>?_)
 ·have h4:i<u.fL.length:=by omega
  have h5:=hz i h4;simp +contextual (disch:=omega) [-getElem?_pos,wrap64,aW (l:=u.fL)];refine fe (fun h6=>?_) (fun h6=>?_)
  ·simp[-List.length_eq_zero_iff,-Int.natCast_eq_zero]at h6
   refine bF (nth u.fL i).hi (by simp) ⟨by omega,fun t ha hb=>?_,by omega⟩ (by omega)
   by_cases h7:t<r
   ·exact h2 t ha h7
   ·exact⟨i,h4,by omega,hb⟩
  ·simp[-List.length_eq_zero_iff,-Int.natCast_eq_zero]at h6
   refine bF (i+1) (by simp) ⟨by omega,fun j hj=>?_⟩ (by omega)
   rcases Nat.lt_or_ge j i with h7|h7
   ·have:=hn j h7;omega
   ·obtain rfl:j=i:=by omega
    omega
 ·obtain rfl:i=u.fL.length:=by omega
  exact⟨h1,fun⟨j,hj,h5,h6⟩=>hn j hj ⟨h5,h6⟩,h2,h3⟩
theorem YQ{u:Un}(hu:Uv u)(q:Int)(G:List aP) :
  (∃e,aX F 196 [un u,i64 q] G=some (.tuple [i64 e,.bool true],G)∧ins u q∧q<e∧e≤1073741824∧∀t,q≤t→t<e→ins u t) ∨
  (aX F 196 [un u,i64 q] G=some (.tuple [i64 0,.bool false],G)∧¬ins u q):=by
 suffices h:gy (aX F) 196 [un u,i64 q] G fun v G'=>G'=G∧((∃e,v=.tuple [i64 e,.bool true]∧ins u q∧q<e∧e≤1073741824∧∀t,q≤t→t<e→ins u t)∨v=.tuple [i64 0,.bool false]∧¬ins u q) by
  obtain⟨_,_,h,rfl,⟨e,rfl,h2⟩ | ⟨rfl,h2⟩⟩:=h
  ·exact .inl ⟨e,h,h2⟩
  ·exact .inr ⟨h,h2⟩
 refine gS rfl rfl ?_;have hz:=hu.Js;have hf:=hu.jo;simp +contextual (disch:=omega) [-getElem?_pos,wrap64,XO];refine go_loop (fun i:Nat=>akq q (BC u.fL) u.fL.length i G) (fun i=>i≤u.fL.length∧∀j,j<i→¬((nth u.fL j).lo<q∧q<(nth u.fL j).hi)) (fun i=>u.fL.length-i) 0 rfl (by simp) ⟨by omega,by omega⟩ ?_
 rintro i ⟨hi,hn⟩;simp +contextual (disch:=omega) [-getElem?_pos,wrap64,XN];refine bE (fun h4=>?_) (fun h4=>?_)
 ·have h4:i<u.fL.length:=by omega
  have h5:=hz i h4;simp +contextual (disch:=omega) [-getElem?_pos,wrap64,aW (l:=u.fL)];refine fe (fun h6=>?_) (fun h6=>?_)
  ·simp[-List.length_eq_zero_iff,-Int.natCast_eq_zero]at h6
   exact⟨⟨i,h4,by omega,by omega⟩,by omega,by omega,fun t ha hb=>⟨i,h4,by omega,hb⟩⟩
  ·simp[-List.length_eq_zero_iff,-Int.natCast_eq_zero]at h6
   refine bF (i+1) (by simp) ⟨by omega,fun j hj=>?_⟩ (by omega)
   rcases Nat.lt_or_ge j i with h7|h7
   ·have:=hn j h7;omega
   ·obtain rfl:j=i:=by omega
    omega
 ·obtain rfl:i=u.fL.length:=by omega
  rintro⟨j,hj,h5,h6⟩;exact hn j hj ⟨h5,h6⟩
structure Us where
 cd:Int
 since:Int
 out:Bool
 deriving Inhabited,DecidableEq
abbrev Us.row(s:Us):List V:=[i64 s.cd,i64 s.since,.bool s.out]
abbrev us(s:Us):V:=.agg s.row
def oJ(u:Un)(q:Int):Prop:=u.least≤q∧q≤u.c9∧¬ins u q
noncomputable instance avl{u:Un}{q:Int}:Decidable (oJ u q):=Classical.propDecidable _
noncomputable instance avm{u:Un}{q:Int}:Decidable (ins u q):=Classical.propDecidable _
theorem zU{u:Un}(hu:Uv u)(q:Int)(G:List aP):aX F 221 [un u,i64 q] G=some (.bool (decide (oJ u q)),G) :=
 bM rfl rfl (by
  obtain⟨r,h1,h2,h3,h4,_⟩:=YP hu q [];have key:decide (oJ u q)=(decide (u.least≤q)&&decide (q≤u.c9)&&decide (r=q)):=by
   rw[Bool.eq_iff_iff];simp only[decide_eq_true_eq,Bool.and_eq_true];constructor
   ·rintro⟨a,b,d⟩
    refine⟨⟨a,b⟩,Decidable.byContradiction fun cg=>d (h4 q (by omega) (by omega))⟩
   ·rintro⟨⟨a,b⟩,rfl⟩
    exact⟨a,b,h3⟩
  rw[key];simp +contextual [wrap64,X9,h1];refine fe (fun h5=>?_) (fun h5=>?_)
  ·simp +contextual [wrap64,h5,h1]
  ·simp +contextual [wrap64,h5,h1])
theorem xT(u:Un)(q:Int)(G:List aP):aX F 165 [un u,i64 q] G=some (.bool (decide (gT u=0∧oJ u q)),G) :=
 bM rfl rfl (by
  generalize hW:decide (gT u=0∧oJ u q)=W;by_cases hc:gT u=0
  ·simp +contextual [wrap64,N9,mV,hc]
   refine fe (fun h1=>?_) (fun h1=>?_)
   ·simp[-List.length_eq_zero_iff,-Int.natCast_eq_zero]at h1
    rw[←hW,decide_eq_false (fun h=>by have:=h.2.1;have:=h.2.2.1;omega)]
   ·simp[-List.length_eq_zero_iff,-Int.natCast_eq_zero]at h1
    rcases YQ (pD hc) q []with⟨e,h2,h3,_⟩ | ⟨h2,h3⟩
    ·simp +contextual [wrap64,h2]
     rw[←hW,decide_eq_false (fun h=>h.2.2.2 h3)]
    ·simp +contextual [wrap64,h2]
     rw[←hW,decide_eq_true ⟨hc,by omega,by omega,h3⟩]
  ·simp +contextual [wrap64,N9,mV,hc]
   rw[←hW,decide_eq_false (fun h=>hc h.1)])
def eU(u:Un)(s:Us):Prop:=gT u=0∧(0≤s.since∧s.since≤1000)∧(s.cd=0∨s.out=false∧oJ u s.cd)
def jS(u:Un)(s:Us)(q:Int):Prop:=if q=0 then (0<s.cd→u.up≤s.since) else s.out=false∧¬(s.cd=0∧s.since<u.down)∧oJ u q
noncomputable instance avn{u:Un}{s:Us}:Decidable (eU u s):=Classical.propDecidable _
noncomputable instance avo{u:Un}{s:Us}{q:Int}:Decidable (jS u s q):=Classical.propDecidable _
theorem OK{u:Un}(hc:gT u=0)(s:Us)(G:List aP):aX F 212 [un u,us s] G=some (.bool (decide (eU u s)),G) :=
 bM rfl rfl (by
  obtain⟨cd,since,out⟩:=s;generalize hW:decide (eU u ⟨cd,since,out⟩)=W;have e:eU u ⟨cd,since,out⟩↔(0≤since∧since≤1000)∧(cd=0∨out=false∧oJ u cd):=by simp[eU,hc]
  by_cases h1:0≤since∧since≤1000
  ·by_cases h2:cd=0
   ·simp[wrap64,abZ,dC,zU (pD hc),h1.1,h1.2,h2]
    rw[←hW,decide_eq_true (e.2 ⟨h1,.inl h2⟩)]
   ·cases out with
    |true =>
     simp[wrap64,abZ,dC,zU (pD hc),h1.1,h1.2,h2];rw[←hW,decide_eq_false (fun h=>by have:=(e.1 h).2;simp[h2]at this)]
    |false =>
     simp[wrap64,abZ,dC,zU (pD hc),h1.1,h1.2,h2];rw[←hW];simp[e,h1,h2]
  ·have h3:(decide (0≤since)&&decide (since≤1000))=false:=by simp;omega
   simp[wrap64,abZ,dC,zU (pD hc),h3];rw[←hW,decide_eq_false (fun h=>h1 (e.1 h).1)])
theorem zV(u:Un)(s:Us)(G:List aP):aX F 198 [un u,us s] G=some (.bool (decide (eU u s)),G) :=
 bM rfl rfl (by
  generalize hW:decide (eU u s)=W;by_cases hc:gT u=0
  ·simp[wrap64,Of,r9,hc,OK hc]
   exact hW
  ·simp[wrap64,Of,r9,hc]
   rw[←hW,decide_eq_false (fun h=>hc h.1)])
theorem wB(u:Un)(s:Us)(G:List aP):aX F 121 [un u,us s] G=some (.bool (decide (eU u s)),G) :=
 bM rfl rfl (by
  obtain⟨cd,since,out⟩:=s;generalize hW:decide (eU u ⟨cd,since,out⟩)=W;by_cases hc:gT u=0
  ·have e:eU u ⟨cd,since,out⟩↔(0≤since∧since≤1000)∧(cd=0∨out=false∧oJ u cd):=by simp[eU,hc]
   by_cases h1:0≤since∧since≤1000
   ·by_cases h2:cd=0
    ·simp[wrap64,Dt,mV,cT,xT,hc,h1.1,h1.2,h2]
     rw[←hW,decide_eq_true (e.2 ⟨h1,.inl h2⟩)]
    ·by_cases h3:oJ u cd
     ·simp[wrap64,Dt,mV,cT,xT,hc,h1.1,h1.2,h2,h3]
      rw[←hW];simp[e,h1,h2,h3]
     ·simp[wrap64,Dt,mV,cT,xT,hc,h1.1,h1.2,h2,h3]
      rw[←hW];simp[e,h1,h2,h3]
   ·have h3:(decide (0≤since)&&decide (since≤1000))=false:=by simp;omega
    simp[wrap64,Dt,mV,cT,xT,hc,h3];rw[←hW,decide_eq_false (fun h=>h1 (e.1 h).1)]
  ·simp[wrap64,Dt,mV,hc]
   rw[←hW,decide_eq_false (fun h=>hc h.1)])
theorem Jt{u:Un}(hc:gT u=0){q:Int}(h:oJ u q):1≤q:=by have:=(pD hc).least;have:=h.1;omega
theorem OL{u:Un}{s:Us}(hv:eU u s)(q:Int)(G:List aP):aX F 239 [un u,us s,i64 q] G=some (.bool (decide (jS u s q)),G) :=
 bM rfl rfl (by
  obtain⟨hc,h1,h2⟩:=hv;obtain⟨cd,since,out⟩:=s;simp only at h1 h2;generalize hW:decide (jS u ⟨cd,since,out⟩ q)=W;simp only[jS]at hW;by_cases h3:q=0
  ·subst h3
   by_cases h4:0<cd
   ·simp[wrap64,Bx,h4]
    rw[←hW];simp[h4]
   ·simp[wrap64,Bx,h4]
    rw[←hW];simp[h4]
  ·simp only[h3,if_false]at hW
   cases out with
   |true =>
    simp[wrap64,Bx,h3];rw[←hW];simp
   |false =>
    by_cases h5:cd=0
    ·by_cases h6:since<u.down
     ·simp[wrap64,Bx,h3,h5,h6]
      rw[←hW];simp[h5];omega
     ·simp[wrap64,Bx,h3,h5,h6,zU (pD hc)]
      rw[←hW];simp[h5];omega
    ·simp[wrap64,Bx,h3,h5,zU (pD hc)]
     rw[←hW];simp[h5])
theorem alD(u:Un)(s:Us)(q:Int)(G:List aP):aX F 248 [un u,us s,i64 q] G=some (.bool (decide (eU u s∧jS u s q)),G) :=
 bM rfl rfl (by
  generalize hW:decide (eU u s∧jS u s q)=W;by_cases hv:eU u s
  ·simp[wrap64,Oz,zV,hv,OL hv]
   rw[←hW];simp[hv]
  ·simp[wrap64,Oz,zV,hv]
   rw[←hW];simp[hv])
theorem OM(u:Un)(s:Us)(q:Int)(G:List aP):aX F 204 [un u,us s,i64 q] G=some (.bool (decide (eU u s∧jS u s q)),G) :=
 bM rfl rfl (by
  generalize hW:decide (eU u s∧jS u s q)=W;have hV:=wB u s [];by_cases hv:eU u s
  ·obtain⟨hc,h1,h2⟩:=id hv
   obtain⟨cd,since,out⟩:=s;simp only[hv,decide_true]at hV;simp only at h1 h2;simp only[jS]at hW;have hf:cd=0∨0<cd:=by
    rcases h2 with h | ⟨_,h⟩
    ·exact .inl h
    ·have:=Jt hc h;omega
   by_cases h3:q=0
   ·subst h3
    by_cases h4:0<cd
    ·simp +contextual [wrap64,zR,hV,h4]
     rw[←hW];simp[h4,hv]
    ·simp +contextual [wrap64,zR,hV,h4]
     rw[←hW];simp[h4,hv]
   ·simp only[h3,if_false]at hW
    cases out with
    |true =>
     simp +contextual [wrap64,zR,hV,h3];rw[←hW];simp
    |false =>
     by_cases h5:oJ u q
     ·have h6:=Jt hc h5
      have h8:0<q:=by omega
      rcases hf with h7|h7
      ·subst h7
       simp +contextual [wrap64,zR,hV,h3,xT,hc,h5,h8];rw[←hW];simp[hv,h5]
      ·have h9:¬cd=0:=by omega
       simp +contextual [wrap64,zR,hV,h3,xT,hc,h5,h8,h7,h9];rw[←hW];simp[hv,h5,h9]
     ·simp +contextual [wrap64,zR,hV,h3,xT,hc,h5]
      rw[←hW];simp[h5]
  ·simp +contextual [wrap64,zR,hV,hv]
   rw[←hW];simp[hv])
noncomputable def wC(u:Un)(q:Int):Int:=if gT u≠0 then gT u else if q=0∨oJ u q then 0 else 1
noncomputable def pow(u:Un)(q:Int):Int:=if gT u=0∧q≠0∧oJ u q then ik u.table q else 0
theorem Gb(u:Un)(q:Int)(G:List aP):aX F 227 [un u,i64 q] G=some (.tuple [i64 (pow u q),i64 (wC u q)],G) :=
 bM rfl rfl (by
  by_cases hc:gT u=0
  ·by_cases h1:q=0
   ·simp[wrap64,F3,r9,hc,h1]
    simp[pow,wC,hc]
   ·by_cases h2:oJ u q
    ·simp[wrap64,F3,r9,hc,h1,zU (pD hc),h2,Jq (pD hc).cv]
     simp[pow,wC,hc,h1,h2]
    ·simp[wrap64,F3,r9,hc,h1,zU (pD hc),h2]
     simp[pow,wC,hc,h1,h2]
  ·simp[wrap64,F3,r9,hc]
   simp[pow,wC,hc])
theorem ON(u:Un)(q:Int)(G:List aP):aX F 203 [un u,i64 q] G=some (.tuple [i64 (pow u q),i64 (wC u q)],G) :=
 bM rfl rfl (by
  by_cases hc:gT u=0
  ·by_cases h1:q=0
   ·simp[wrap64,FZ,mV,hc,h1]
    simp[pow,wC,hc]
   ·by_cases h2:oJ u q
    ·simp[wrap64,FZ,mV,hc,h1,xT,h2,OG,(pD hc).eH]
     simp[pow,wC,hc,h1,h2]
    ·simp[wrap64,FZ,mV,hc,h1,xT,h2]
     simp[pow,wC,hc,h1,h2]
  ·simp[wrap64,FZ,mV,hc]
   simp[pow,wC,hc])
noncomputable def sa(u:Un)(s:Us)(q:Int):Int:=if gT u≠0 then gT u else if ¬eU u s then 3 else if ¬jS u s q then 15 else 0
def sb(s:Us)(q:Int):Us:=⟨q,if decide (0<s.cd)=decide (0<q) then min 1000 (s.since+1) else 1,s.out⟩
theorem OO(u:Un)(s:Us)(q:Int)(G:List aP):aX F 172 [un u,us s,i64 q] G =
  some (.tuple (if sa u s q=0 then [us (sb s q),.bool (decide (s.cd=0)&&decide (0<q)),i64 0] else [us ⟨0,0,false⟩,.bool false,i64 (sa u s q)]),G) :=
 bM rfl rfl (by
  by_cases hc:gT u=0
  ·by_cases hv:eU u s
   ·by_cases hm:jS u s q
    ·have h1:=hv.2.1
     simp +contextual (disch:=omega) [wrap64,FX,mV,wB,OM,hc,hv,hm];have e:sa u s q=0:=by simp[sa,hc,hv,hm]
     refine fe (fun h=>?_) (fun h=>?_)
     ·simp at h
      simp[e,sb,h]
     ·simp at h
      simp[e,sb,h]
    ·simp +contextual (disch:=omega) [wrap64,FX,mV,wB,OM,hc,hv,hm]
     simp[sa,hc,hv,hm]
   ·simp +contextual (disch:=omega) [wrap64,FX,mV,wB,hc,hv]
    simp[sa,hc,hv]
  ·simp +contextual (disch:=omega) [wrap64,FX,mV,hc]
   simp[sa,hc])
noncomputable def eY(u:Un)(g:Int):List Int:=((List.range ((u.c9 / g).toNat+1)).map fun k:Nat=>(k:Int)*g).filter fun q=>decide (oJ u q)
noncomputable def below(u:Un)(g t:Int):List Int:=(eY u g).filter fun q=>decide (q<t)
theorem zW{u:Un}(hu:Uv u){g:Int}(hg:1≤g){q:Int}:q∈eY u g↔oJ u q∧∃k:Nat,q=k*g:=by
 simp only[eY,List.mem_filter,List.mem_map,List.mem_range,decide_eq_true_eq];constructor
 ·rintro⟨⟨k,_,rfl⟩,h⟩
  exact⟨h,k,rfl⟩
 ·rintro⟨h,k,rfl⟩
  refine⟨⟨k,?_,rfl⟩,h⟩;have h1:=h.2.1;have:(k:Int)≤u.c9 / g:=(Int.le_ediv_iff_mul_le (by omega)).2 h1
  omega
theorem alE{u:Un}{g:Int}(hg:1≤g):(eY u g).Pairwise (· < ·):=by
 refine List.Pairwise.filter _ ?_;rw[List.pairwise_map];refine List.Pairwise.imp ?_ (List.pairwise_lt_range);intro a b qO;exact Int.mul_lt_mul_of_pos_right (by omega) (by omega)
theorem YR{q:Int}:∀{l:List Int},l.Pairwise (· < ·)→q∈l→l.filter (fun x=>decide (x<q+1))=l.filter (fun x=>decide (x<q))++[q]
 |[],_,h=>by simp at h
 |a::l,hp,h=>by
  obtain⟨h1,h2⟩:=List.pairwise_cons.1 hp;rcases List.mem_cons.1 h with rfl|h3
  ·have e:∀t,t≤q+1→l.filter (fun x=>decide (x<t))=[]:=fun t ht=>by
    rw[List.filter_eq_nil_iff];intro b hb;have:=h1 b hb;simp;omega
   have h3:q<q+1:=by omega
   have h4:¬ q<q:=by omega
   simp[h3,e (q+1) (by omega),e q (by omega)]
  ·have:=h1 q h3
   have h4:a<q:=this;have h5:a<q+1:=by omega
   simp[h4,h5,YR h2 h3]
theorem OP{u:Un}{g q:Int}(hg:1≤g)(h:q∈eY u g):below u g (q+1)=below u g q++[q]:=YR (alE hg) h
theorem OQ{u:Un}{g t t':Int}(h:∀q∈eY u g,t≤q→q<t'→False)(hle:t≤t'):below u g t=below u g t':=by
 refine List.filter_congr fun q hq=>?_;have:=h q hq;by_cases h1:q<t
 ·have:q<t':=by omega
  simp[h1,this]
 ·have h2:¬ q<t':=fun h2=>this (by omega) h2
  simp[h1,h2]
theorem YS{u:Un}{g t:Int}(h:∀q∈eY u g,q<t):below u g t=eY u g:=by
 refine List.filter_eq_self.2 fun q hq=>?_;simp[h q hq]
theorem OR{u:Un}{g t:Int}(h:t≤u.least):below u g t=[]:=by
 refine List.filter_eq_nil_iff.2 fun q hq=>?_;simp only[eY,List.mem_filter,decide_eq_true_eq]at hq;have:=hq.2.1;simp;omega
theorem YT{u:Un}{g q:Int}(hg:1≤g)(h:q∈eY u g):(below u g q).length<(eY u g).length:=by
 have h1:=OP hg h;have h2:(below u g (q+1)).length≤(eY u g).length:=List.length_filter_le _ _;rw[h1]at h2;simp at h2;omega
def ue(q g:Int):Int:=(q+g-1).tdiv g*g
theorem Ju{q g:Int}(hq:0≤q)(hg:1≤g):q≤ue q g∧ue q g≤q+g-1∧(∃k:Nat,ue q g=k*g)∧∀k:Nat,q≤k*g→ue q g≤k*g:=by
 unfold ue;rw[Int.tdiv_eq_ediv_of_nonneg (by omega)]
 have h1:=Int.ediv_mul_le (q+g-1) (b:=g) (by omega)
 have h2:=Int.lt_ediv_add_one_mul_self (q+g-1) (b:=g) (by omega)
 have h3:0≤(q+g-1) / g:=Int.ediv_nonneg (by omega) (by omega)
 rw[Int.add_mul,Int.one_mul]at h2;refine⟨by omega,h1,⟨((q+g-1) / g).toNat,by rw[Int.toNat_of_nonneg h3]⟩,fun k hk=>?_⟩
 refine Int.mul_le_mul_of_nonneg_right ?_ (by omega)
 refine Int.not_lt.1 fun h4=>?_;have h5:((k:Int)+1)*g≤(q+g-1) / g*g:=Int.mul_le_mul_of_nonneg_right (by omega) (by omega)
 rw[Int.add_mul,Int.one_mul]at h5;omega
theorem OS{u:Un}(hu:Uv u){g q:Int}(hq:0≤q)(hg:1≤g):below u g q=below u g (ue q g):=by
 obtain⟨h1,_,_,h4⟩:=Ju hq hg;refine OQ (fun x hx a b=>?_) h1;obtain⟨_,k,rfl⟩:=(zW hu hg).1 hx;have:=h4 k a;omega
theorem YU{u:Un}(hu:Uv u){g q r:Int}(hg:1≤g)(h:∀t,q≤t→t<r→ins u t)(hle:q≤r):below u g q=below u g r :=
 OQ (fun x hx a b=>((zW hu hg).1 hx).1.2.2 (h x a b)) hle
theorem alF{u:Un}(hu:Uv u){g q:Int}(hg:1≤g)(hq:∃k:Nat,q=k*g):below u g (q+1)=below u g (q+g):=by
 refine OQ (fun x hx a b=>?_) (by omega)
 obtain⟨_,k,rfl⟩:=(zW hu hg).1 hx;obtain⟨m,rfl⟩:=hq;have h1:(m:Int)<k:=by
  refine Int.not_le.1 fun h=>?_;have:=Int.mul_le_mul_of_nonneg_right h (show 0≤g by omega)
  omega
 have h2:((m:Int)+1)*g≤k*g:=Int.mul_le_mul_of_nonneg_right (by omega) (by omega)
 rw[Int.add_mul,Int.one_mul]at h2;omega
noncomputable def gA(u:Un)(g:Int):Int:=if gT u≠0 then gT u else if g<1∨1073741824<g then 1 else if 200<(eY u g).length then 10 else 0
noncomputable def nx(u:Un)(g:Int):List Int:=if gA u g=0 then eY u g else []
abbrev own(l:List Int):V:=.slice (some 0) 1 (l.map fun n=>[i64 n])
theorem OT(u:Un)(g:Int)(G:List aP):aX F 245 [un u,i64 g] G=some (.tuple [own (nx u g),i64 (gA u g)],G) :=
 bM rfl rfl (by
  by_cases hc:gT u=0
  ·simp +contextual (disch:=omega) [wrap64,Oy,r9,hc]
   refine fe (fun h1=>?_) (fun h1=>?_)
   ·simp[-List.length_eq_zero_iff,-Int.natCast_eq_zero]at h1
    have e:gA u g=1:=by simp[gA,hc,h1]
    simp[nx,e]
   ·simp[-List.length_eq_zero_iff,-Int.natCast_eq_zero]at h1
    have hu:=pD hc;have m1:=hu.least;have m2:=hu.c9;have m3:=hu.OJ;have hg:1≤g:=h1.1;refine go_loop (fun f:Int=>alk g (.slice (some 1049) 1 ((below u g f).map fun n=>[i64 n])) f u.row (below u g f).length G) (fun f=>u.least≤f∧f≤1073741825∧(below u g f).length≤200) (fun f=>(1073741826-f).toNat) u.least rfl (by simp[OR]) (by simp[OR];omega) ?_
    rintro f ⟨Ii,vg,E4⟩;obtain⟨r1,r2,r3,r4⟩:=Ju (q:=f) (g:=g) (by omega) hg
    have r5:=OS hu (q:=f) (g:=g) (by omega) hg
    have r6:(f+g-1).tdiv g*g=ue f g:=rfl;have d1:0≤(f+g-1).tdiv g:=Int.tdiv_nonneg (by omega) (by omega)
    have d2:(f+g-1).tdiv g≤f+g-1:=by
     have:=Int.tdiv_le_self (a:=f+g-1) g (by omega)
     omega
    have g0:¬g=0:=by omega
    generalize ue f g=Z at r1 r2 r3 r4 r5 r6;simp +contextual (disch:=omega) [wrap64,Yz,g0,r6];refine bE (fun h2=>?_) (fun h2=>?_)
    ·have hb:below u g f=eY u g:=YS fun q hq=>by
      rw[zW hu hg]at hq;obtain⟨hq,k,rfl⟩:=hq;have:=hq.2.1;refine Int.not_le.1 fun h=>?_;have:=r4 k h;omega
     have e:gA u g=0:=by simp[gA,hc];rw[hb]at E4;omega
     rw[hb];simp[nx,e]
    ·obtain⟨r,s1,s2,s3,s4,s5⟩:=YP hu Z []
     simp +contextual (disch:=omega) [wrap64,s1];refine fe (fun h3=>?_) (fun h3=>?_)
     ·simp[-List.length_eq_zero_iff,-Int.natCast_eq_zero]at h3
      have hb:below u g f=below u g r:=by rw[r5,YU hu hg s4 s2]
      refine bF r (by rw[hb];simp) ⟨by omega,by omega,by rwa [←hb]⟩ (by omega)
     ·simp[-List.length_eq_zero_iff,-Int.natCast_eq_zero]at h3
      subst h3;have hm:r∈eY u g:=(zW hu hg).2 ⟨⟨by omega,by omega,s3⟩,r3⟩
      have hb:below u g (r+1)=below u g f++[r]:=by rw[r5,OP hg hm]
      refine bE (fun h4=>?_) (fun h4=>?_)
      ·have:=YT hg hm
       have e:gA u g=10:=by
        simp only[gA,hc,ne_eq,not_true,if_false];rw[if_neg (by omega),if_pos (by rw[←r5]at this;omega)]
       simp[nx,e]
      ·refine bF (r+1) (by rw[hb];simp) ⟨by omega,by omega,by rw[hb];simp;omega⟩ (by omega)
  ·have e:gA u g=gT u:=by simp[gA,hc]
   simp +contextual (disch:=omega) [wrap64,Oy,r9,hc];simp[nx,e,hc])
theorem DB(u:Un)(g:Int)(G:List aP):aX F 211 [un u,i64 g] G=some (.tuple [own (nx u g),i64 (gA u g)],G) :=
 bM rfl rfl (by
  by_cases hc:gT u=0
  ·simp +contextual (disch:=omega) [wrap64,Oj,mV,hc]
   refine fe (fun h1=>?_) (fun h1=>?_)
   ·simp[-List.length_eq_zero_iff,-Int.natCast_eq_zero]at h1
    have e:gA u g=1:=by simp[gA,hc,h1]
    simp[nx,e]
   ·simp[-List.length_eq_zero_iff,-Int.natCast_eq_zero]at h1
    have hu:=pD hc;have m1:=hu.least;have m2:=hu.c9;have m3:=hu.OJ;have hg:1≤g:=h1.1;have g0:¬g=0:=by omega
    obtain⟨r1,r2,r3,r4⟩:=Ju (q:=u.least) (g:=g) (by omega) hg
    have r5:=OS hu (q:=u.least) (g:=g) (by omega) hg
    have r6:(u.least+g-1).tdiv g*g=ue u.least g:=rfl;have d1:0≤(u.least+g-1).tdiv g:=Int.tdiv_nonneg (by omega) (by omega)
    have d2:(u.least+g-1).tdiv g≤u.least+g-1:=by
     have:=Int.tdiv_le_self (a:=u.least+g-1) g (by omega)
     omega
    rw[OR (by omega)]at r5
    generalize ue u.least g=Z at r1 r2 r3 r4 r5 r6;simp +contextual (disch:=omega) [wrap64,g0,r6];refine go_loop (fun f:Int=>akA g (.slice (some 1056) 1 ((below u g f).map fun n=>[i64 n])) f u.row (below u g f).length G) (fun f=>u.least≤f∧f≤2147483648∧(∃k:Nat,f=k*g)∧(below u g f).length≤200) (fun f=>(2147483649-f).toNat) Z rfl (by simp[←r5]) ⟨by omega,by omega,r3,by rw[←r5];simp⟩ ?_
    rintro f ⟨Ii,vg,hf4,E4⟩;simp +contextual (disch:=omega) [wrap64,XZ];refine bE (fun h2=>?_) (fun h2=>?_)
    ·rcases YQ hu f []with⟨e,s1,s2,s3,s4,s5⟩ | ⟨s1,s2⟩
     ·obtain⟨p1,p2,p3,p4⟩:=Ju (q:=e) (g:=g) (by omega) hg
      have p5:=OS hu (q:=e) (g:=g) (by omega) hg
      have p6:(e+g-1).tdiv g*g=ue e g:=rfl;have t1:0≤(e+g-1).tdiv g:=Int.tdiv_nonneg (by omega) (by omega)
      have t2:(e+g-1).tdiv g≤e+g-1:=by
       have:=Int.tdiv_le_self (a:=e+g-1) g (by omega)
       omega
      generalize ue e g=E at p1 p2 p3 p4 p5 p6;simp +contextual (disch:=omega) [wrap64,s1,g0,p6];have hb:below u g f=below u g E:=by rw[←p5];exact YU hu hg s5 (by omega)
      exact bF E (by rw[hb];simp) ⟨by omega,by omega,p3,by rwa [←hb]⟩ (by omega)
     ·have hm:f∈eY u g↔u.least≤f:=by
       rw[zW hu hg];exact⟨fun h=>h.1.1,fun h=>⟨⟨h,by omega,s2⟩,hf4⟩⟩
      have hm:=hm.2 Ii;have hb:below u g (f+g)=below u g f++[f]:=by rw[←alF hu hg hf4,OP hg hm]
      simp +contextual (disch:=omega) [wrap64,s1];refine bE (fun h4=>?_) (fun h4=>?_)
      ·have:=YT hg hm
       have e:gA u g=10:=by
        simp only[gA,hc,ne_eq,not_true,if_false];rw[if_neg (by omega),if_pos (by omega)]
       simp[nx,e]
      ·refine bF (f+g) (by rw[hb];simp) ⟨by omega,by omega,?_,by rw[hb];simp;omega⟩ (by omega)
       obtain⟨k,hk⟩:=hf4;exact⟨k+1,by rw[hk];simp[Int.add_mul]⟩
    ·have hb:below u g f=eY u g:=YS fun q hq=>by
      rw[zW hu hg]at hq;have:=hq.1.2.1;omega
     have e:gA u g=0:=by simp[gA,hc];rw[hb]at E4;omega
     rw[hb];simp[nx,e]
  ·have e:gA u g=gT u:=by simp[gA,hc]
   simp +contextual (disch:=omega) [wrap64,Oj,mV,hc];simp[nx,e,hc])
theorem iF{α:Type}[Inhabited α]{l:List α}{a:α}{i:Nat}:nth (l++[a]) i=if i<l.length then nth l i else if i=l.length then a else default:=by
 simp only[nth,List.getD,List.getElem?_append];split
 ·rfl
 ·split
  ·rename_i h;subst h;simp
  ·rename_i h1 h2
   rw[List.getElem?_eq_none (by simp;omega)]
   rfl
structure Cw(c:List Pt)(x y dx dy least:Int):Prop where
 pos:0<c.length
 jo:c.length≤5
 first:nth c 0=⟨x,y⟩
 step:∀i,0<i→i<c.length→((nth c (i-1)).x<(nth c i).x∧(nth c i).x≤(nth c (i-1)).x+dx)∧(nth c (i-1)).y+least≤(nth c i).y∧(nth c i).y≤(nth c (i-1)).y+dy
theorem Cw.up{c:List Pt}{x y dx dy least:Int}(h:Cw c x y dx dy least)(h0:0≤x∧x≤1000)(h1:0≤y∧y≤1000)(h2:0≤dx∧dx≤1000)(h3:0≤dy∧dy≤1000)(h4:0≤least) :
  ∀i:Nat,i<c.length→(0≤(nth c i).x∧(nth c i).x≤1000+1000*(i:Int))∧0≤(nth c i).y∧(nth c i).y≤1000+1000*(i:Int):=by
 intro i;induction i with
 |zero=>intro hi;have:=h.first;rw[this];simp;omega
 |succ i ih =>
  intro hi;have a:=ih (by omega)
  have b:=h.step (i+1) (by omega) hi
  simp only[Nat.add_sub_cancel]at b;omega
theorem Cw.eH{c:List Pt}{x y dx dy least:Int}(h:Cw c x y dx dy least)(h0:0≤x∧x≤1000)(h1:0≤y∧y≤1000)(h2:0≤dx∧dx≤1000)(h3:0≤dy∧dy≤1000)(h4:0≤least):gi c=0:=by
 have hp:=h.pos;have hf:=h.jo;unfold gi;rw[if_neg (by omega),if_neg (by omega)]
 refine rW fun i _ hi=>?_;have a:=h.up h0 h1 h2 h3 h4 i (by omega)
 unfold g8;rw[if_neg (by omega)]
 split
 ·rfl
 ·have b:=h.step i (by omega) (by omega)
  rw[if_neg (by omega),if_neg]
  rw[Int.tdiv_eq_ediv_of_nonneg (by omega)]
  generalize hu:(nth c i).x-(nth c (i-1)).x=u;generalize hv:(nth c i).y-(nth c (i-1)).y=v;refine Int.not_lt.2 ((Int.le_ediv_iff_mul_le (by omega)).2 ?_)
  have:v*u≤1000*1000:=Int.mul_le_mul (by omega) (by omega) (by omega) (by omega)
  omega
abbrev opts(c:List Pt):V:=.slice (some 0) 2 (c.map Pt.row)
theorem OU{l:List Int}{k:Nat}(hd:db l k){x y dx dy:Int}(strict:Bool)(h0:0≤x∧x≤1000)(h1:0≤y∧y≤1000)(h2:1≤dx∧dx≤1000)(h3:1≤dy∧dy≤1000) :
  ∃c k',aX F 190 [.bG 0 0,i64 x,i64 y,i64 dx,i64 dy,.bool strict] [dk l k]=some (opts c,[dk l k'])∧db l k'∧2≤c.length∧Cw c x y dx dy (if strict then 1 else 0):=by
 suffices h:gy (aX F) 190 [.bG 0 0,i64 x,i64 y,i64 dx,i64 dy,.bool strict] [dk l k] fun v G=>∃c k',v=opts c∧G=[dk l k']∧db l k'∧2≤c.length∧Cw c x y dx dy (if strict then 1 else 0) by
  obtain⟨_,_,h,c,k',rfl,rfl,h1⟩:=h;exact⟨c,k',h,h1⟩
 generalize hL:(if strict then 1 else 0:Int)=L
 have hL1:0≤L∧L≤1:=by rw[←hL];cases strict<;>simp
 refine gS rfl rfl ?_;obtain⟨a,k1,n1,gB,ha⟩:=fK hd 4 (by omega)
 have main:∀K:cz,(∀c k',db l k'→2≤c.length→Cw c x y dx dy L→∀z,K (.exit 0) ⟨[(0,.bG 0 0),(1,i64 (nth c (c.length-1)).x),(2,i64 (nth c (c.length-1)).y),(3,i64 dx),(4,i64 dy),(13,i64 L),(14,.slice (some 1020) 2 (c.map Pt.row)),(15,i64 0),(25,z)],[],[(1020,c.length)],[dk l k']⟩) →
   go (aX F) XE (XF (.bG 0 0) x y dx dy L (.slice (some 1020) 2 [Pt.row ⟨x,y⟩]) (1+a) 1 [dk l k1]) K:=by
  intro K hK;refine go_loop (fun s:List Pt×Int×Nat=>XF (.bG 0 0) (nth s.1 (s.1.length-1)).x (nth s.1 (s.1.length-1)).y dx dy L (.slice (some 1020) 2 (s.1.map Pt.row)) s.2.1 s.1.length [dk l s.2.2])
   (fun s=>Cw s.1 x y dx dy L∧(0<s.2.1∨2≤s.1.length)∧0≤s.2.1∧(s.1.length:Int)+s.2.1≤5∧db l s.2.2) (fun s=>s.2.1.toNat) ([⟨x,y⟩],1+a,k1) rfl (by simp[nth]) ⟨⟨by simp,by simp,rfl,fun i a b=>by simp at b;omega⟩,by simp;omega,by simp;omega,by simp;omega,gB⟩ ?_
  rintro⟨c,m,k⟩ ⟨hc,Gd,hm2,Jv,hd⟩;simp only at hc Gd hm2 Jv hd;have hp:=hc.pos;have hu:=hc.up h0 h1 ⟨by omega,h2.2⟩ ⟨by omega,h3.2⟩ hL1.1 (c.length-1) (by omega)
  obtain⟨p,k2,n2,eX,hp2⟩:=fK hd dx (by omega)
  obtain⟨q,k3,n3,lT,hq⟩:=fK eX dy (by omega)
  simp (disch:=omega) [wrap64,XD];refine bE (fun h4=>?_) (fun h4=>?_)
  ·simp (disch:=omega) [wrap64,n2,n3]
   refine bF (c++[⟨(nth c (c.length-1)).x+1+p,(nth c (c.length-1)).y+L+q⟩],m-1,k3) (by simp[iF]) ⟨⟨by simp,by simp;omega,?_,fun i hi hj=>?_⟩,by simp;omega,by simp;omega,by simp;omega,lT⟩ (by simp;omega)
   ·rw[iF,if_pos hp];exact hc.first
   ·simp at hj
    rw[iF,iF];by_cases sd:i<c.length
    ·rw[if_pos (by omega),if_pos (by omega)]
     exact hc.step i hi sd
    ·obtain rfl:i=c.length:=by omega
     rw[if_pos (by omega),if_neg (by omega),if_pos rfl]
     simp only;omega
  ·obtain rfl:m=0:=by omega
   exact hK c k hd (by omega) hc _
 cases strict with
 |true =>
  simp at hL;subst hL;simp (disch:=omega) [wrap64,Oe,n1];refine main _ fun c k' q1 q2 q3 z=>?_;simp (disch:=omega) [wrap64,wrap64];exact⟨c,rfl,k',rfl,q1,q2,q3⟩
 |false =>
  simp at hL;subst hL;simp (disch:=omega) [wrap64,Oe,n1];refine main _ fun c k' q1 q2 q3 z=>?_;simp (disch:=omega) [wrap64,wrap64];exact⟨c,rfl,k',rfl,q1,q2,q3⟩
structure Uw(u:Un):Prop where
 table:Cw u.table 0 0 10 30 0
 two:2≤u.table.length
 least:1≤u.least∧u.least≤8
 c9:u.least≤u.c9∧u.c9≤19
 jo:u.fL.length≤2
 Js:∀i,i<u.fL.length→(0≤(nth u.fL i).lo∧(nth u.fL i).hi≤20)∧(nth u.fL i).lo<(nth u.fL i).hi
 up:0≤u.up∧u.up≤2
 down:0≤u.down∧u.down≤2
theorem Uw.eH{u:Un}(h:Uw u):gT u=0:=by
 have c:=h.table.eH (by omega) (by omega) (by omega) (by omega) (by omega)
 have hp:=h.table.pos;have hf:=h.table.jo;have hu:=h.table.up (by omega) (by omega) (by omega) (by omega) (by omega) (u.table.length-1) (by omega)
 have a1:=h.least;have a2:=h.c9;have a3:=h.jo;have a4:=h.up;have a5:=h.down;have z:dB (kR u.fL) u.fL.length 0=0:=rW fun i _ hi=>by
  have:=h.Js i (by omega)
  rw[kR,if_neg (by omega),if_neg (by omega)]
 unfold gT;rw[if_neg (by omega),if_neg (by omega),if_neg (by omega),if_neg (by omega),if_neg (by omega),if_neg (by omega)]
abbrev YY(u:Un):V:=.agg [iv u.table,i64 u.least,i64 u.c9,.slice (some 0) 2 (u.fL.map Bd.row),i64 u.up,i64 u.down]
theorem alI{l:List Int}{k:Nat}(hd:db l k):∃u k',aX F 191 [.bG 0 0] [dk l k]=some (YY u,[dk l k'])∧db l k'∧Uw u:=by
 suffices h:gy (aX F) 191 [.bG 0 0] [dk l k] fun v G=>∃u k',v=YY u∧G=[dk l k']∧db l k'∧Uw u by
  obtain⟨_,_,h,u,k',rfl,rfl,h1⟩:=h;exact⟨u,k',h,h1⟩
 refine gS rfl rfl ?_;obtain⟨c,k1,n1,gB,EF,hc⟩:=OU hd (x:=0) (y:=0) (dx:=10) (dy:=30) false (by omega) (by omega) (by omega) (by omega)
 obtain⟨a1,k2,n2,eX,Jw⟩:=fK gB 8 (by omega)
 obtain⟨a2,k3,n3,lT,OV⟩:=fK eX 3 (by omega)
 obtain⟨a3,k4,n4,pE,YZ⟩:=fK lT 3 (by omega)
 obtain⟨a4,k5,n5,xU,Y0⟩:=fK pE 12 (by omega)
 obtain⟨a5,k6,n6,zY,ha5⟩:=fK xU 3 (by omega)
 simp (disch:=omega) [wrap64,XH,n1,n2,n3,n4,n5,n6];refine go_loop (fun s:List Bd×Int×Nat=>aki (.bG 0 0) s.2.1 [.bV,i64 0,i64 0,.bV,i64 0,i64 0] [iv c,i64 (1+a1),i64 (1+a1+a4),.slice (some 1040) 2 (s.1.map Bd.row),i64 a2,i64 a3] s.1.length [dk l s.2.2])
  (fun s=>(∀i,i<s.1.length→(0≤(nth s.1 i).lo∧(nth s.1 i).hi≤20)∧(nth s.1 i).lo<(nth s.1 i).hi)∧0≤s.2.1∧(s.1.length:Int)+s.2.1≤2∧db l s.2.2) (fun s=>s.2.1.toNat) ([],a5,k6) rfl (by simp) ⟨fun i h=>by simp at h,by simp;omega,by simp;omega,zY⟩ ?_
 rintro⟨z,m,k⟩ ⟨hz,Gd,hm2,hd⟩;simp only at hz Gd hm2 hd;obtain⟨b1,k7,n7,Y1,Jx⟩:=fK hd 16 (by omega)
 obtain⟨b2,k8,n8,hd8,wq⟩:=fK Y1 5 (by omega)
 simp (disch:=omega) [wrap64,XG];refine bE (fun h4=>?_) (fun h4=>?_)
 ·simp (disch:=omega) [wrap64,n7,n8]
  refine bF (z++[⟨b1,b1+1+b2⟩],m-1,k8) (by simp) ⟨fun i hi=>?_,by simp;omega,by simp;omega,hd8⟩ (by simp;omega)
  simp at hi;rw[iF];split
  ·exact hz i (by assumption)
  ·rw[if_pos (by omega)]
   simp only;omega
 ·refine⟨⟨c,1+a1,1+a1+a4,z,a2,a3⟩,⟨rfl,rfl,rfl,rfl,rfl,rfl⟩,k,rfl,hd,?_⟩
  exact⟨hc,EF,by simp only;omega,by simp only;omega,by simp only;omega,hz,by simp only;omega,by simp only;omega⟩
theorem Y2{u:Un}{g:Int}:(eY u g).length≤(u.c9 / g).toNat+1:=by
 refine Nat.le_trans (List.length_filter_le _ _) ?_;simp
theorem Uw.gA{u:Un}(h:Uw u){g:Int}(h1:1≤g)(h2:g≤1073741824):gA u g=0:=by
 have a:=Y2 (u:=u) (g:=g);have b:=h.c9;have c:=h.least;have d:u.c9 / g≤u.c9:=Int.ediv_le_self _ (by omega)
 unfold Go.Proofs.YtocclbnghhaejaaGreat.gA;rw[if_neg (by simp[h.eH]),if_neg (by omega),if_neg (by omega)]
theorem alK{l:List Int}{k:Nat}(hd:db l k){u:Un}(hu:Uw u):∃s k',aX F 192 [.bG 0 0,un u] [dk l k]=some (us s,[dk l k'])∧db l k'∧eU u s:=by
 suffices h:∀Q:V→List aP→Prop,(∀s k',db l k'→eU u s→Q (us s) [dk l k'])→gy (aX F) 192 [.bG 0 0,un u] [dk l k] Q by
  obtain⟨_,_,h,s,k',rfl,rfl,h1⟩:=h (fun v G=>∃s k',v=us s∧G=[dk l k']∧db l k'∧eU u s) fun s k' a b=>⟨s,k',rfl,rfl,a,b⟩;exact⟨s,k',h,h1⟩
 intro Q hQ;refine gS rfl rfl ?_;have hc:=hu.eH;have he:=hu.gA (g:=1) (by omega) (by omega)
 have hf:nx u 1=eY u 1:=by simp[nx,he]
 have DC:=Y2 (u:=u) (g:=1);have hm:=hu.c9;obtain⟨a1,k1,n1,gB,Jw⟩:=fK hd 5 (by omega)
 obtain⟨a2,k2,n2,eX,OV⟩:=fK gB 7 (by omega)
 obtain⟨a3,k3,n3,lT,YZ⟩:=fK eX 2 (by omega)
 obtain⟨a4,k4,n4,pE,Y0⟩:=fK lT (eY u 1).length (by omega)
 have off:∀o,eU u ⟨0,a1,o⟩:=fun o=>⟨hc,by simp only;omega,.inl rfl⟩
 by_cases h1:0<(eY u 1).length
 ·by_cases h2:a2=6
  ·simp +contextual (disch:=omega) [-getElem?_pos,wrap64,FY,n1,n2,DB,he,hf,h2]
   exact hQ ⟨0,a1,true⟩ k2 eX (off _)
  ·by_cases h3:a3=0
   ·have h4:a4.toNat<(eY u 1).length:=by omega
    simp +contextual (disch:=omega) [-getElem?_pos,wrap64,FY,n1,n2,n3,n4,DB,he,hf,h2,h3,h1,dj h4];refine hQ ⟨nth (eY u 1) a4.toNat,a1,false⟩ k4 pE ⟨hc,by simp only;omega,.inr ⟨rfl,?_⟩⟩
    exact((zW (pD hc) (by omega)).1 (List.mem_of_getElem? (dj h4))).1
   ·simp +contextual (disch:=omega) [-getElem?_pos,wrap64,FY,n1,n2,n3,DB,he,hf,h2,h3,h1]
    exact hQ ⟨0,a1,false⟩ k3 lT (off _)
 ·simp +contextual (disch:=omega) [-getElem?_pos,wrap64,FY,n1,n2,DB,he,hf,h1]
  exact hQ ⟨0,a1,decide (a2=6)⟩ k2 eX (off _)
abbrev ke(l:List Un):V:=.slice none 6 (l.map Un.row)
abbrev jT(l:List Us):V:=.slice none 3 (l.map Us.row)
abbrev OW(l:List Un):V:=.slice (some 0) 6 (l.map Un.row)
abbrev Ge(l:List Us):V:=.slice (some 0) 3 (l.map Us.row)
structure Gf(a:List Un)(b:List Us):Prop where
 len:a.length=b.length
 unit:∀i,i<a.length→Uw (nth a i)
 state:∀i,i<a.length→eU (nth a i) (nth b i)
theorem alL{l:List Int}{k:Nat}(hd:db l k){m:Nat}(hm:m≤1000):∃a b k',aX F 158 [.bG 0 0,i64 m] [dk l k]=some (.tuple [OW a,Ge b],[dk l k'])∧db l k'∧Gf a b∧a.length≤m:=by
 suffices h:∀Q:V→List aP→Prop,(∀a b k',db l k'→Gf a b→a.length≤m→Q (.tuple [OW a,Ge b]) [dk l k'])→gy (aX F) 158 [.bG 0 0,i64 m] [dk l k] Q by
  obtain⟨_,_,h,a,b,k',rfl,rfl,h1⟩:=h (fun v G=>∃a b k',v=.tuple [OW a,Ge b]∧G=[dk l k']∧db l k'∧Gf a b∧a.length≤m) fun a b k' h1 h2 h3=>⟨a,b,k',rfl,rfl,h1,h2,h3⟩;exact⟨a,b,k',h,h1⟩
 intro Q hQ;refine gS rfl rfl ?_;obtain⟨n,k1,n1,gB,hn⟩:=fK hd (m+1) (by omega)
 simp (disch:=omega) [wrap64,W3,n1];refine go_loop (fun s:List Un×List Us×Int×Nat=>ajC (.bG 0 0) (.slice (some 1023) 6 (s.1.map Un.row)) (.slice (some 1029) 3 (s.2.1.map Us.row)) s.2.2.1 s.1.length s.2.1.length [dk l s.2.2.2])
  (fun s=>Gf s.1 s.2.1∧(s.1.length:Int)+s.2.2.1≤m∧0≤s.2.2.1∧db l s.2.2.2) (fun s=>s.2.2.1.toNat) ([],[],n,k1) rfl (by simp) ⟨⟨rfl,by simp,by simp⟩,by simp;omega,by simp;omega,gB⟩ ?_
 rintro⟨a,b,n,k⟩ ⟨qO,h1,h2,hd⟩;simp only at qO h1 h2 hd;obtain⟨u,k2,n2,eX,hu⟩:=alI hd;obtain⟨s,k3,n3,lT,hs⟩:=alK eX hu;have hl:=qO.len;simp (disch:=omega) [wrap64,W2];refine bE (fun h4=>?_) (fun h4=>?_)
 ·simp (disch:=omega) [wrap64,n2,n3]
  refine bF (a++[u],b++[s],n-1,k3) (by simp) ⟨⟨by simp[hl],fun i hi=>?_,fun i hi=>?_⟩,by simp;omega,by simp;omega,lT⟩ (by simp;omega)
  ·simp at hi
   rw[iF];split
   ·exact qO.unit i (by assumption)
   ·rw[if_pos (by omega)];exact hu
  ·simp at hi
   rw[iF,iF,← hl];split
   ·exact qO.state i (by assumption)
   ·rw[if_pos (by omega),if_pos (by omega)];exact hs
 ·exact hQ a b k hd qO (by omega)
structure Rt where
 lv:Int
 c:List Pt
 deriving Inhabited
abbrev Rt.row(r:Rt):List V:=[i64 r.lv,iv r.c]
abbrev BD(l:List Rt):V:=.slice none 2 (l.map Rt.row)
structure Gt where
 r:List Rt
 c9:Int
 move:Int
 deriving Inhabited
abbrev Gt.row(g:Gt):List V:=[BD g.r,i64 g.c9,i64 g.move]
abbrev gt(g:Gt):V:=.agg g.row
def oe(l:List Rt)(i:Nat):Int :=
 if ¬(0≤(nth l i).lv∧(nth l i).lv≤16777216) then 1
 else if 0<i∧(nth l i).lv≤(nth l (i-1)).lv then 4
 else if gi (nth l i).c≠0 then gi (nth l i).c
 else if ¬((nth (nth l i).c 0).x=0∧(nth (nth l i).c 0).y=0) then 3
 else if 1073741824<(nth (nth l i).c ((nth l i).c.length-1)).y then 1 else 0
def kg(g:Gt):Int :=
 if g.r.length=0 then 3 else if 10<g.r.length then 10 else if dB (oe g.r) g.r.length 0≠0 then dB (oe g.r) g.r.length 0
 else if ¬((0≤g.c9∧g.c9≤1000)∧0≤g.move∧g.move≤1000) then 1 else 0
theorem zZ(g:Gt)(G:List aP):aX F 114 [gt g] G=some (i64 (kg g),G) :=
 bM rfl rfl (by
  obtain⟨l,c9,move⟩:=g;generalize hW:kg ⟨l,c9,move⟩=W;unfold kg at hW;simp only at hW;simp (disch:=omega) [-getElem?_pos,-Int.natCast_eq_zero,wrap64,Wr];refine bE (fun h1=>?_) (fun h1=>bE (fun h2=>?_) (fun h2=>?_))
  ·rw[if_pos (by omega)]at hW
   exact hW
  ·rw[if_neg (by omega),if_pos (by omega)]at hW
   exact hW
  ·rw[if_neg (by omega),if_neg (by omega)]at hW
   refine go_loop (fun i:Nat=>aiU (BD l) l.length i [BD l,i64 c9,i64 move] G) (fun i=>i≤l.length∧dB (oe l) (l.length-i) i=dB (oe l) l.length 0) (fun i=>l.length-i) 0 rfl (by simp) ⟨by omega,rfl⟩ ?_
   rintro i ⟨hi,hq⟩;simp (disch:=omega) [-getElem?_pos,-Int.natCast_eq_zero,wrap64,Wq];refine bE (fun h3=>?_) (fun h3=>?_)
   ·have h3:i<l.length:=by omega
    have h4:((i:Int)-1).toNat=i-1:=by omega
    rw[kB h3]at hq;have stop:oe l i≠0→W=oe l i:=fun h=>by
     rw[if_neg h]at hq;rw[←hq,if_pos h]at hW;exact hW.symm
    unfold oe at stop;by_cases a1:0≤(nth l i).lv∧(nth l i).lv≤16777216
    ·have a2:(!decide (0≤(nth l i).lv) || !decide ((nth l i).lv≤16777216))=false:=by simp;omega
     have a3:0<i→0≤(i:Int)-1:=by omega
     have a4:i-1<l.length:=by omega
     rw[if_neg (by omega)]at stop
     by_cases b1:0<i∧(nth l i).lv≤(nth l (i-1)).lv
     ·rw[if_pos b1]at stop
      have b2:0<i:=b1.1;have b3:=b1.2;have b4:0≤(i:Int)-1:=by omega
      simp (disch:=omega) [-getElem?_pos,-Int.natCast_eq_zero,wrap64,aW (l:=l),h3,dC,cT,a2,b2,b3,b4,h4,a4];exact(stop (by omega)).symm
     ·rw[if_neg b1]at stop
      by_cases c1:gi (nth l i).c=0
      ·rw[if_neg (by omega)]at stop
       have hp:=s9 c1;have hfw:=(mb c1).jo;have c2:(((nth l i).c.length:Int)-1).toNat=(nth l i).c.length-1:=by omega
       have c3:(nth l i).c.length-1<(nth l i).c.length:=by omega
       have c4:0≤((nth l i).c.length:Int)-1:=by omega
       by_cases d1:(nth (nth l i).c 0).x=0∧(nth (nth l i).c 0).y=0
       ·rw[if_neg (by omega)]at stop
        obtain⟨d2,d3⟩:=d1;by_cases e1:1073741824<(nth (nth l i).c ((nth l i).c.length-1)).y
        ·rw[if_pos e1]at stop
         rcases Nat.eq_zero_or_pos i with b6|b6
         ·subst b6
          simp (disch:=omega) [-getElem?_pos,-Int.natCast_eq_zero,wrap64,aW (l:=l),h3,dC,cT,nq,lS,a2,c1,V.iy,eu,kq,aW (l:=(nth l 0).c),hp,c2,c3,c4,d2,d3,e1];exact(stop (by omega)).symm
         ·have b7:¬ (nth l i).lv≤(nth l (i-1)).lv:=fun h=>b1 ⟨b6,h⟩
          have b4:0≤(i:Int)-1:=by omega
          simp (disch:=omega) [-getElem?_pos,-Int.natCast_eq_zero,wrap64,aW (l:=l),h3,dC,cT,nq,lS,a2,c1,b6,b7,b4,h4,a4,V.iy,eu,kq,aW (l:=(nth l i).c),hp,c2,c3,c4,d2,d3,e1];exact(stop (by omega)).symm
        ·have hz:oe l i=0:=by
          unfold oe;rw[if_neg (by omega),if_neg b1,if_neg (by omega),if_neg (by omega),if_neg e1]
         rw[if_pos hz]at hq;rcases Nat.eq_zero_or_pos i with b6|b6
         ·subst b6
          simp (disch:=omega) [-getElem?_pos,-Int.natCast_eq_zero,wrap64,aW (l:=l),h3,dC,cT,nq,lS,a2,c1,V.iy,eu,kq,aW (l:=(nth l 0).c),hp,c2,c3,c4,d2,d3,e1];exact bF (0+1) (by simp) ⟨by omega,hq⟩ (by omega)
         ·have b7:¬ (nth l i).lv≤(nth l (i-1)).lv:=fun h=>b1 ⟨b6,h⟩
          have b4:0≤(i:Int)-1:=by omega
          simp (disch:=omega) [-getElem?_pos,-Int.natCast_eq_zero,wrap64,aW (l:=l),h3,dC,cT,nq,lS,a2,c1,b6,b7,b4,h4,a4,V.iy,eu,kq,aW (l:=(nth l i).c),hp,c2,c3,c4,d2,d3,e1];exact bF (i+1) (by simp) ⟨by omega,hq⟩ (by omega)
       ·rw[if_pos d1]at stop
        have d4:(decide ((nth (nth l i).c 0).x=0)&&decide ((nth (nth l i).c 0).y=0))=false:=by simpa using d1
        have d5:((nth (nth l i).c 0).x==0&&(nth (nth l i).c 0).y==0)=false:=by simpa using d1
        rcases Nat.eq_zero_or_pos i with b6|b6
        ·subst b6
         simp (disch:=omega) [-getElem?_pos,-Int.natCast_eq_zero,wrap64,aW (l:=l),h3,dC,cT,nq,lS,a2,c1,V.iy,eu,kq,aW (l:=(nth l 0).c),hp,d4,d5];exact(stop (by omega)).symm
        ·have b7:¬ (nth l i).lv≤(nth l (i-1)).lv:=fun h=>b1 ⟨b6,h⟩
         have b4:0≤(i:Int)-1:=by omega
         simp (disch:=omega) [-getElem?_pos,-Int.natCast_eq_zero,wrap64,aW (l:=l),h3,dC,cT,nq,lS,a2,c1,b6,b7,b4,h4,a4,V.iy,eu,kq,aW (l:=(nth l i).c),hp,d4,d5];exact(stop (by omega)).symm
      ·rw[if_pos c1]at stop
       rcases Nat.eq_zero_or_pos i with b6|b6
       ·subst b6
        simp (disch:=omega) [-getElem?_pos,-Int.natCast_eq_zero,wrap64,aW (l:=l),h3,dC,cT,nq,lS,a2,c1,c1];exact(stop (by omega)).symm
       ·have b7:¬ (nth l i).lv≤(nth l (i-1)).lv:=fun h=>b1 ⟨b6,h⟩
        have b4:0≤(i:Int)-1:=by omega
        simp (disch:=omega) [-getElem?_pos,-Int.natCast_eq_zero,wrap64,aW (l:=l),h3,dC,cT,nq,lS,a2,c1,b6,b7,b4,h4,a4,c1];exact(stop (by omega)).symm
    ·rw[if_pos a1]at stop
     have a2:(!decide (0≤(nth l i).lv) || !decide ((nth l i).lv≤16777216))=true:=by simp;omega
     simp (disch:=omega) [-getElem?_pos,-Int.natCast_eq_zero,wrap64,aW (l:=l),h3,dC,cT,a2];exact(stop (by omega)).symm
   ·obtain rfl:i=l.length:=by omega
    rw[mE]at hq;rw[←hq,if_neg (by omega)]at hW
    by_cases m1:0≤c9∧c9≤1000
    ·have m2:(!decide (0≤c9) || !decide (c9≤1000))=false:=by simp;omega
     by_cases m3:0≤move∧move≤1000
     ·have m4:(!decide (0≤move) || !decide (move≤1000))=false:=by simp;omega
      rw[if_neg (by omega)]at hW
      simp (disch:=omega) [-getElem?_pos,-Int.natCast_eq_zero,wrap64,dC,cT,m2,m4];exact hW
     ·have m4:(!decide (0≤move) || !decide (move≤1000))=true:=by simp;omega
      rw[if_pos (by omega)]at hW
      simp (disch:=omega) [-getElem?_pos,-Int.natCast_eq_zero,wrap64,dC,cT,m2,m4];exact hW
    ·have m2:(!decide (0≤c9) || !decide (c9≤1000))=true:=by simp;omega
     rw[if_pos (by omega)]at hW
     simp (disch:=omega) [-getElem?_pos,-Int.natCast_eq_zero,wrap64,dC,cT,m2];exact hW)
theorem z6(g:Gt)(G:List aP):aX F 118 [gt g] G=some (i64 (kg g),G) :=
 bM rfl rfl (by
  obtain⟨l,c9,move⟩:=g;generalize hW:kg ⟨l,c9,move⟩=W;unfold kg at hW;simp only at hW;simp (disch:=omega) [-getElem?_pos,-Int.natCast_eq_zero,wrap64,Wy];refine bE (fun h1=>?_) (fun h1=>bE (fun h2=>?_) (fun h2=>?_))
  ·rw[if_pos (by omega)]at hW
   exact hW
  ·rw[if_neg (by omega),if_pos (by omega)]at hW
   exact hW
  ·rw[if_neg (by omega),if_neg (by omega)]at hW
   refine go_loop (fun i:Nat=>ai6 (BD l) l.length i [BD l,i64 c9,i64 move] G) (fun i=>i≤l.length∧dB (oe l) (l.length-i) i=dB (oe l) l.length 0) (fun i=>l.length-i) 0 rfl (by simp) ⟨by omega,rfl⟩ ?_
   rintro i ⟨hi,hq⟩;simp (disch:=omega) [-getElem?_pos,-Int.natCast_eq_zero,wrap64,Wx];refine bE (fun h3=>?_) (fun h3=>?_)
   ·have h3:i<l.length:=by omega
    have h4:((i:Int)-1).toNat=i-1:=by omega
    rw[kB h3]at hq;have stop:oe l i≠0→W=oe l i:=fun h=>by
     rw[if_neg h]at hq;rw[←hq,if_pos h]at hW;exact hW.symm
    unfold oe at stop;by_cases a1:0≤(nth l i).lv∧(nth l i).lv≤16777216
    ·have a2:(!decide (0≤(nth l i).lv) || !decide ((nth l i).lv≤16777216))=false:=by simp;omega
     have a3:0<i→0≤(i:Int)-1:=by omega
     have a4:i-1<l.length:=by omega
     rw[if_neg (by omega)]at stop
     by_cases b1:0<i∧(nth l i).lv≤(nth l (i-1)).lv
     ·rw[if_pos b1]at stop
      have b2:0<i:=b1.1;have b3:=b1.2;have b4:0≤(i:Int)-1:=by omega
      simp (disch:=omega) [-getElem?_pos,-Int.natCast_eq_zero,wrap64,aW (l:=l),h3,dC,cT,a2,b2,b3,b4,h4,a4];exact(stop (by omega)).symm
     ·rw[if_neg b1]at stop
      by_cases c1:gi (nth l i).c=0
      ·rw[if_neg (by omega)]at stop
       have hp:=s9 c1;have hfw:=(mb c1).jo;have c2:(((nth l i).c.length:Int)-1).toNat=(nth l i).c.length-1:=by omega
       have c3:(nth l i).c.length-1<(nth l i).c.length:=by omega
       have c4:0≤((nth l i).c.length:Int)-1:=by omega
       by_cases d1:(nth (nth l i).c 0).x=0∧(nth (nth l i).c 0).y=0
       ·rw[if_neg (by omega)]at stop
        obtain⟨d2,d3⟩:=d1;by_cases e1:1073741824<(nth (nth l i).c ((nth l i).c.length-1)).y
        ·rw[if_pos e1]at stop
         rcases Nat.eq_zero_or_pos i with b6|b6
         ·subst b6
          simp (disch:=omega) [-getElem?_pos,-Int.natCast_eq_zero,wrap64,aW (l:=l),h3,dC,cT,nq,lS,a2,c1,V.iy,eu,kq,aW (l:=(nth l 0).c),hp,c2,c3,c4,d2,d3,e1];exact(stop (by omega)).symm
         ·have b7:¬ (nth l i).lv≤(nth l (i-1)).lv:=fun h=>b1 ⟨b6,h⟩
          have b4:0≤(i:Int)-1:=by omega
          simp (disch:=omega) [-getElem?_pos,-Int.natCast_eq_zero,wrap64,aW (l:=l),h3,dC,cT,nq,lS,a2,c1,b6,b7,b4,h4,a4,V.iy,eu,kq,aW (l:=(nth l i).c),hp,c2,c3,c4,d2,d3,e1];exact(stop (by omega)).symm
        ·have hz:oe l i=0:=by
          unfold oe;rw[if_neg (by omega),if_neg b1,if_neg (by omega),if_neg (by omega),if_neg e1]
         rw[if_pos hz]at hq;rcases Nat.eq_zero_or_pos i with b6|b6
         ·subst b6
          simp (disch:=omega) [-getElem?_pos,-Int.natCast_eq_zero,wrap64,aW (l:=l),h3,dC,cT,nq,lS,a2,c1,V.iy,eu,kq,aW (l:=(nth l 0).c),hp,c2,c3,c4,d2,d3,e1];exact bF (0+1) (by simp) ⟨by omega,hq⟩ (by omega)
         ·have b7:¬ (nth l i).lv≤(nth l (i-1)).lv:=fun h=>b1 ⟨b6,h⟩
          have b4:0≤(i:Int)-1:=by omega
          simp (disch:=omega) [-getElem?_pos,-Int.natCast_eq_zero,wrap64,aW (l:=l),h3,dC,cT,nq,lS,a2,c1,b6,b7,b4,h4,a4,V.iy,eu,kq,aW (l:=(nth l i).c),hp,c2,c3,c4,d2,d3,e1];exact bF (i+1) (by simp) ⟨by omega,hq⟩ (by omega)
       ·rw[if_pos d1]at stop
        have d4:(decide ((nth (nth l i).c 0).x=0)&&decide ((nth (nth l i).c 0).y=0))=false:=by simpa using d1
        have d5:((nth (nth l i).c 0).x==0&&(nth (nth l i).c 0).y==0)=false:=by simpa using d1
        rcases Nat.eq_zero_or_pos i with b6|b6
        ·subst b6
         simp (disch:=omega) [-getElem?_pos,-Int.natCast_eq_zero,wrap64,aW (l:=l),h3,dC,cT,nq,lS,a2,c1,V.iy,eu,kq,aW (l:=(nth l 0).c),hp,d4,d5];exact(stop (by omega)).symm
        ·have b7:¬ (nth l i).lv≤(nth l (i-1)).lv:=fun h=>b1 ⟨b6,h⟩
         have b4:0≤(i:Int)-1:=by omega
         simp (disch:=omega) [-getElem?_pos,-Int.natCast_eq_zero,wrap64,aW (l:=l),h3,dC,cT,nq,lS,a2,c1,b6,b7,b4,h4,a4,V.iy,eu,kq,aW (l:=(nth l i).c),hp,d4,d5];exact(stop (by omega)).symm
      ·rw[if_pos c1]at stop
       rcases Nat.eq_zero_or_pos i with b6|b6
       ·subst b6
        simp (disch:=omega) [-getElem?_pos,-Int.natCast_eq_zero,wrap64,aW (l:=l),h3,dC,cT,nq,lS,a2,c1,c1];exact(stop (by omega)).symm
       ·have b7:¬ (nth l i).lv≤(nth l (i-1)).lv:=fun h=>b1 ⟨b6,h⟩
        have b4:0≤(i:Int)-1:=by omega
        simp (disch:=omega) [-getElem?_pos,-Int.natCast_eq_zero,wrap64,aW (l:=l),h3,dC,cT,nq,lS,a2,c1,b6,b7,b4,h4,a4,c1];exact(stop (by omega)).symm
    ·rw[if_pos a1]at stop
     have a2:(!decide (0≤(nth l i).lv) || !decide ((nth l i).lv≤16777216))=true:=by simp;omega
     simp (disch:=omega) [-getElem?_pos,-Int.natCast_eq_zero,wrap64,aW (l:=l),h3,dC,cT,a2];exact(stop (by omega)).symm
   ·obtain rfl:i=l.length:=by omega
    rw[mE]at hq;rw[←hq,if_neg (by omega)]at hW
    by_cases m1:0≤c9∧c9≤1000
    ·have m2:(!decide (0≤c9) || !decide (c9≤1000))=false:=by simp;omega
     by_cases m3:0≤move∧move≤1000
     ·have m4:(!decide (0≤move) || !decide (move≤1000))=false:=by simp;omega
      rw[if_neg (by omega)]at hW
      simp (disch:=omega) [-getElem?_pos,-Int.natCast_eq_zero,wrap64,dC,cT,m2,m4];exact hW
     ·have m4:(!decide (0≤move) || !decide (move≤1000))=true:=by simp;omega
      rw[if_pos (by omega)]at hW
      simp (disch:=omega) [-getElem?_pos,-Int.natCast_eq_zero,wrap64,dC,cT,m2,m4];exact hW
    ·have m2:(!decide (0≤c9) || !decide (c9≤1000))=true:=by simp;omega
     rw[if_pos (by omega)]at hW
     simp (disch:=omega) [-getElem?_pos,-Int.natCast_eq_zero,wrap64,dC,cT,m2];exact hW)
end Go.Proofs.YtocclbnghhaejaaGreat
