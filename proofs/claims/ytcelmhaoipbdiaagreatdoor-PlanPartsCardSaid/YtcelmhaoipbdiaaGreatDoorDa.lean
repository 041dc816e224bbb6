/- Parts of the proof, joined: Mk1, Cur1, Cur2, Sto1, Sto2, Sto3, Un1, Un2, Un3, Un4, Mk2, Gat1. -/
import Derived.Test.YtcelmhaoipbdiaaGreatDoorQV
namespace Go.Proofs.YtcelmhaoipbdiaaGreatDoor
set_option linter.all false
open Go.Vm
attribute [local simp] mK mL lN mJ
def DZ(n m:Int):Int:=(IntKind.i64.wrap (n.tmod m+m)).tmod m
theorem alZ{n m:Int}(hm:m≠0)(G:List aT):bd F 24 [i64 n,i64 m] G=some (i64 (DZ n m),G) :=
 bX rfl rfl (by simp[WI,hm,DZ])
abbrev ints(l:List Int):V:=.slice none 1 (l.map fun n=>[i64 n])
abbrev dk(l:List Int)(k:Nat):aT:=.cells [ints l,i64 k]
theorem al0{n:Int}{l:List Int}{k:Nat}(h:n<1∨l.length≤k):bd F 11 [.bI 0 0,i64 n] [dk l k]=some (i64 0,[dk l k]) :=
 bX rfl rfl (by
  by_cases h1:n<1
  ·simp[Kc,h1]
  ·have h2:l.length≤k:=h.resolve_left h1
   simp[Kc,h1,h2])
theorem al1{n:Int}{l:List Int}{k:Nat}{v:Int}(h1:1≤n)(h2:l[k]?=some v)(hk:k<9223372036854775807):bd F 11 [.bI 0 0,i64 n] [dk l k]=some (i64 (DZ v n),[dk l (k+1)]) :=
 bX rfl rfl (by
  have hn:¬ n<1:=by omega
  have hl:¬ l.length≤k:=by have:=(Ix.1 h2).1;omega
  simp (disch:=omega) [-getElem?_pos,wrap64,Kc,hn,hl,h2,alZ])
theorem al2{v n:Int}(h1:1≤n)(h2:n≤4611686018427387904):0≤DZ v n∧DZ v n<n:=by
 have h3:-n<v.tmod n:=by
  rcases Int.le_total 0 v with h|h
  ·have:=Iu n h;omega
  ·have h4:=It (-v) (show 0<n by omega)
   rw[Int.neg_tmod]at h4;omega
 have h4:v.tmod n<n:=It _ (by omega)
 unfold DZ;rw[wrap64 (by omega) (by omega)]
 exact⟨Iu _ (by omega),It _ (by omega)⟩
def dA(l:List Int)(k:Nat):Prop:=k≤l.length∧l.length≤9223372036854775807
theorem gB{l:List Int}{k:Nat}(hd:dA l k)(n:Int)(hn:n≤4611686018427387904) :
  ∃v k',bd F 11 [.bI 0 0,i64 n] [dk l k]=some (i64 v,[dk l k'])∧dA l k'∧0≤v∧(v<n∨v=0):=by
 by_cases h:n<1∨l.length≤k
 ·exact⟨0,k,al0 h,hd,by omega,.inr rfl⟩
 ·obtain⟨h1,h2⟩:=hd
  have h3:k<l.length:=by omega
  have h4:=al1 (n:=n) (l:=l) (k:=k) (v:=nth l k) (by omega) (dV h3) (by omega)
  have h5:=al2 (v:=nth l k) (n:=n) (by omega) hn
  exact⟨_,_,h4,⟨by omega,h2⟩,h5.1,.inl h5.2⟩
theorem Qf(l:List Int)(G:List aT):bd F 8 [ints l] G=some (.bool (decide (l.length≤500)),G) :=
 bX rfl rfl (by simp[Ws];omega)
theorem ZQ(l:List Int):bd F 9 [ints l] []=some (.bI 0 0,[dk l 0]) :=
 bX rfl rfl (by simp[Wt])
def dI(f:Nat→Int):Nat→Nat→Int
 |0,_=>0
 |m+1,i=>if f i=0 then dI f m (i+1) else f i
theorem ly{f:Nat→Int}{i n:Nat}(h:i<n):dI f (n-i) i=if f i=0 then dI f (n-(i+1)) (i+1) else f i:=by
 obtain⟨m,hm⟩:∃m,n-i=m+1:=⟨n-i-1,by omega⟩
 rw[hm,dI,show n-(i+1)=m by omega]
theorem sy{f:Nat→Int}:∀{m i:Nat},dI f m i=0→∀j,i≤j→j<i+m→f j=0
 |0,i,_,j,h1,h2=>by omega
 |m+1,i,h,j,h1,h2=>by
  unfold dI at h;split at h
  ·rename_i h0
   by_cases hj:j=i
   ·rw[hj];exact h0
   ·exact sy h j (by omega) (by omega)
  ·rename_i h0;exact absurd h h0
theorem qY{f:Nat→Int}:∀{m i:Nat},(∀j,i≤j→j<i+m→f j=0)→dI f m i=0
 |0,i,_=>rfl
 |m+1,i,h=>by
  unfold dI;rw[aP (h i (by omega) (by omega))]
  exact qY fun j h1 h2=>h j (by omega) (by omega)
theorem nc{f:Nat→Int}{n:Nat}:dI f (n-n) n=0:=by rw[qD];rfl
theorem dD(n m:Int)(G:List aT):bd F 170 [i64 n,i64 m] G=some (.bool (decide (0≤n)&&decide (n≤m)),G) :=
 bX rfl rfl (by simp +contextual [wrap64,YD])
theorem al3(n m:Int)(G:List aT):bd F 97 [i64 n,i64 m] G=some (.bool (decide (0≤n)&&decide (n≤m)),G) :=
 bX rfl rfl (by simp +contextual [wrap64,Xp])
theorem cV(n m:Int)(G:List aT):bd F 54 [i64 n,i64 m] G=some (.bool (decide (0≤n)&&decide (n≤m)),G) :=
 bX rfl rfl (by simp[wrap64,WW,al3])
structure Pt where
 x:Int
 y:Int
 deriving Inhabited,DecidableEq
abbrev Pt.row(p:Pt):List V:=[i64 p.x,i64 p.y]
abbrev iA(c:List Pt):V:=.slice none 2 (c.map Pt.row)
def g6(c:List Pt)(i:Nat):Int :=
 if ¬((0≤(nth c i).x∧(nth c i).x≤1073741824)∧0≤(nth c i).y∧(nth c i).y≤274877906944) then 1
 else if i=0 then 0
 else if (nth c i).x≤(nth c (i-1)).x∨(nth c i).y<(nth c (i-1)).y then 4
 else if (4611686018427387904:Int).tdiv ((nth c i).x-(nth c (i-1)).x)<(nth c i).y-(nth c (i-1)).y then 1 else 0
def fW(c:List Pt):Int:=if c.length=0 then 3 else if 100<c.length then 10 else dI (g6 c) c.length 0
theorem KG{c:List Pt}{i:Nat}(h:g6 c i=0):(0≤(nth c i).x∧(nth c i).x≤1073741824)∧0≤(nth c i).y∧(nth c i).y≤274877906944:=by
 unfold g6 at h;split at h
 ·cases h
 ·rename_i h1;exact gW h1
theorem Qg{c:List Pt}{i:Nat}(h:g6 c i=0)(hi:0<i):(nth c (i-1)).x<(nth c i).x∧(nth c (i-1)).y≤(nth c i).y ∧
  (nth c i).y-(nth c (i-1)).y≤(4611686018427387904:Int).tdiv ((nth c i).x-(nth c (i-1)).x):=by
 unfold g6 at h;split at h
 ·cases h
 ·rw[aA (by omega)]at h
  split at h
  ·cases h
  ·split at h
   ·cases h
   ·omega
theorem al4(a b:Int)(h:0<a)(G:List aT):bd F 210 [i64 a,i64 b] G=some (.bool (decide ((4611686018427387904:Int).tdiv a<b)),G) :=
 bX rfl rfl (by
  have h1:0≤(4611686018427387904:Int).tdiv a:=xo (by omega) (by omega)
  have h2:(4611686018427387904:Int).tdiv a≤4611686018427387904:=by
   have:=AR (a:=4611686018427387904) a (by omega)
   omega
  have h3:a≠0:=by omega
  simp (disch:=omega) [wrap64,Y9,h,h3])
theorem nK(c:List Pt)(G:List aT):bd F 186 [iA c] G=some (i64 (fW c),G) :=
 bX rfl rfl (by
  generalize hW:fW c=W;unfold fW at hW;simp +contextual (disch:=omega) [-getElem?_pos,-Int.natCast_eq_zero,wrap64,YQ];refine gT (fun h=>?_) (fun h=>bS (fun h'=>?_) (fun h'=>?_))
  ·simp[-List.length_eq_zero_iff,-Int.natCast_eq_zero]at h
   rw[aP (by omega)]at hW
   exact hW
  ·simp[-List.length_eq_zero_iff,-Int.natCast_eq_zero]at h
   rw[aA (by omega),aP (by omega)]at hW
   simpa using hW
  ·have hq:dI (g6 c) (c.length-0) 0=W:=by
    simp[-List.length_eq_zero_iff,-Int.natCast_eq_zero]at h;rw[aA (by omega),aA (by omega)]at hW
    exact hW
   refine go_loop (fun i:Nat=>akE (iA c) (iA c) c.length i G) (fun i=>i≤c.length∧dI (g6 c) (c.length-i) i=W∧∀j,j<i→g6 c j=0) (fun i=>c.length-i) 0 rfl (by simp) ⟨by omega,hq,by omega⟩ ?_
   rintro i ⟨hi,hq,hz⟩;simp +contextual (disch:=omega) [-getElem?_pos,-Int.natCast_eq_zero,wrap64,YP];refine bS (fun h1=>?_) (fun h1=>?_)
   ·have h1:i<c.length:=by omega
    rw[ly h1]at hq;have e:=bg h1;simp +contextual (disch:=omega) [-getElem?_pos,-Int.natCast_eq_zero,wrap64,bg (l:=c),dD];refine gT (fun h2=>?_) (fun h2=>?_)
    ·simp +contextual (disch:=omega) [-getElem?_pos,-Int.natCast_eq_zero,wrap64,h2,dD]
     simp[-List.length_eq_zero_iff,-Int.natCast_eq_zero]at h2;rw[show g6 c i=1 by rw[g6,aP (by omega)],aA (by decide)]at hq
     exact hq
    ·simp +contextual (disch:=omega) [-getElem?_pos,-Int.natCast_eq_zero,wrap64,h2,dD]
     simp[-List.length_eq_zero_iff,-Int.natCast_eq_zero]at h2;refine gT (fun h3=>?_) (fun h3=>bS (fun h4=>?_) (fun h4=>?_))
     ·simp[-List.length_eq_zero_iff,-Int.natCast_eq_zero]at h3
      rw[show g6 c i=1 by rw[g6,aP (by omega)],aA (by decide)]at hq
      exact hq
     ·simp[-List.length_eq_zero_iff,-Int.natCast_eq_zero]at h3
      have h0:g6 c i=0:=by rw[g6,aA (by omega),aP (by omega)]
      rw[h0,aP rfl]at hq;exact bV (i+1) (by simp) ⟨by omega,hq,fun j hj=>by rcases cF j i with h|h;exact hz j h;rwa [show j=i by omega]⟩ (by omega)
     ·simp[-List.length_eq_zero_iff,-Int.natCast_eq_zero]at h3
      have h5:((i:Int)-1).toNat=i-1:=by omega
      have h6:i-1<c.length:=by omega
      have h7:0≤(i:Int)-1:=by omega
      have h8:=KG (hz (i-1) (by omega))
      simp +contextual (disch:=omega) [-getElem?_pos,-Int.natCast_eq_zero,wrap64,bg (l:=c),h5,h7];refine gT (fun h9=>?_) (fun h9=>?_)
      ·simp[-List.length_eq_zero_iff,-Int.natCast_eq_zero]at h9
       rw[show g6 c i=4 by rw[g6,aA (by omega),aA (by omega),aP (by omega)],aA (by decide)]at hq
       exact hq
      ·simp[-List.length_eq_zero_iff,-Int.natCast_eq_zero]at h9
       simp +contextual (disch:=omega) [-getElem?_pos,-Int.natCast_eq_zero,wrap64,al4];refine bS (fun fT=>?_) (fun fT=>?_)
       ·rw[show g6 c i=1 by rw[g6,aA (by omega),aA (by omega),aA (by omega),aP (by omega)],aA (by decide)]at hq
        exact hq
       ·have h0:g6 c i=0:=by rw[g6,aA (by omega),aA (by omega),aA (by omega),aA (by omega)]
        rw[h0,aP rfl]at hq;exact bV (i+1) (by simp) ⟨by omega,hq,fun j hj=>by rcases cF j i with h|h;exact hz j h;rwa [show j=i by omega]⟩ (by omega)
   ·obtain rfl:i=c.length:=by omega
    rw[nc]at hq;simp[←hq])
theorem lP(c:List Pt)(G:List aT):bd F 137 [iA c] G=some (i64 (fW c),G) :=
 bX rfl rfl (by
  generalize hW:fW c=W;unfold fW at hW;simp +contextual (disch:=omega) [-getElem?_pos,-Int.natCast_eq_zero,wrap64,X6];refine gT (fun h=>?_) (fun h=>bS (fun h'=>?_) (fun h'=>?_))
  ·simp[-List.length_eq_zero_iff,-Int.natCast_eq_zero]at h
   rw[aP (by omega)]at hW
   exact hW
  ·simp[-List.length_eq_zero_iff,-Int.natCast_eq_zero]at h
   rw[aA (by omega),aP (by omega)]at hW
   simpa using hW
  ·have hq:dI (g6 c) (c.length-0) 0=W:=by
    simp[-List.length_eq_zero_iff,-Int.natCast_eq_zero]at h;rw[aA (by omega),aA (by omega)]at hW
    exact hW
   refine go_loop (fun i:Nat=>ajQ (iA c) (iA c) c.length i G) (fun i=>i≤c.length∧dI (g6 c) (c.length-i) i=W∧∀j,j<i→g6 c j=0) (fun i=>c.length-i) 0 rfl (by simp) ⟨by omega,hq,by omega⟩ ?_
   rintro i ⟨hi,hq,hz⟩;simp +contextual (disch:=omega) [-getElem?_pos,-Int.natCast_eq_zero,wrap64,X5];refine bS (fun h1=>?_) (fun h1=>?_)
   ·have h1:i<c.length:=by omega
    rw[ly h1]at hq;have e:=bg h1;simp +contextual (disch:=omega) [-getElem?_pos,-Int.natCast_eq_zero,wrap64,bg (l:=c),cV];refine gT (fun h2=>?_) (fun h2=>?_)
    ·simp +contextual (disch:=omega) [-getElem?_pos,-Int.natCast_eq_zero,wrap64,h2,cV]
     simp[-List.length_eq_zero_iff,-Int.natCast_eq_zero]at h2;rw[show g6 c i=1 by rw[g6,aP (by omega)],aA (by decide)]at hq
     exact hq
    ·simp +contextual (disch:=omega) [-getElem?_pos,-Int.natCast_eq_zero,wrap64,h2,cV]
     simp[-List.length_eq_zero_iff,-Int.natCast_eq_zero]at h2;refine gT (fun h3=>?_) (fun h3=>bS (fun h4=>?_) (fun h4=>?_))
     ·simp[-List.length_eq_zero_iff,-Int.natCast_eq_zero]at h3
      rw[show g6 c i=1 by rw[g6,aP (by omega)],aA (by decide)]at hq
      exact hq
     ·simp[-List.length_eq_zero_iff,-Int.natCast_eq_zero]at h3
      have h0:g6 c i=0:=by rw[g6,aA (by omega),aP (by omega)]
      rw[h0,aP rfl]at hq;exact bV (i+1) (by simp) ⟨by omega,hq,fun j hj=>by rcases cF j i with h|h;exact hz j h;rwa [show j=i by omega]⟩ (by omega)
     ·simp[-List.length_eq_zero_iff,-Int.natCast_eq_zero]at h3
      have h5:((i:Int)-1).toNat=i-1:=by omega
      have h6:i-1<c.length:=by omega
      have h7:0≤(i:Int)-1:=by omega
      have h8:=KG (hz (i-1) (by omega))
      simp +contextual (disch:=omega) [-getElem?_pos,-Int.natCast_eq_zero,wrap64,bg (l:=c),h5,h7];refine gT (fun h9=>?_) (fun h9=>?_)
      ·simp[-List.length_eq_zero_iff,-Int.natCast_eq_zero]at h9
       rw[show g6 c i=4 by rw[g6,aA (by omega),aA (by omega),aP (by omega)],aA (by decide)]at hq
       exact hq
      ·simp[-List.length_eq_zero_iff,-Int.natCast_eq_zero]at h9
       have kL:(nth c i).x-(nth c (i-1)).x≠0:=by omega
       have ti:(4611686018427387904:Int).tdiv ((nth c i).x-(nth c (i-1)).x)≤4611686018427387904:=by
        have:=AR (a:=4611686018427387904) ((nth c i).x-(nth c (i-1)).x) (by omega)
        omega
       have ZR:0≤(4611686018427387904:Int).tdiv ((nth c i).x-(nth c (i-1)).x):=xo (by omega) (by omega)
       simp +contextual (disch:=omega) [-getElem?_pos,-Int.natCast_eq_zero,wrap64,kL];refine bS (fun fT=>?_) (fun fT=>?_)
       ·rw[show g6 c i=1 by rw[g6,aA (by omega),aA (by omega),aA (by omega),aP (by omega)],aA (by decide)]at hq
        exact hq
       ·have h0:g6 c i=0:=by rw[g6,aA (by omega),aA (by omega),aA (by omega),aA (by omega)]
        rw[h0,aP rfl]at hq;exact bV (i+1) (by simp) ⟨by omega,hq,fun j hj=>by rcases cF j i with h|h;exact hz j h;rwa [show j=i by omega]⟩ (by omega)
   ·obtain rfl:i=c.length:=by omega
    rw[nc]at hq;simp[←hq])
def oZ(c:List Pt)(i:Nat)(x:Int):Int :=
 (nth c (i-1)).y+(((nth c i).y-(nth c (i-1)).y)*(x-(nth c (i-1)).x)).tdiv ((nth c i).x-(nth c (i-1)).x)
def wa(c:List Pt)(x:Int):Nat→Nat→Int
 |0,_=>(nth c (c.length-1)).y
 |m+1,i=>if x≤(nth c i).x then (if i=0 then (nth c i).y else oZ c i x) else wa c x m (i+1)
def ig(c:List Pt)(x:Int):Int:=wa c x c.length 0
structure Cv(c:List Pt):Prop where
 pos:0<c.length
 kb:c.length≤100
 x0:∀i,i<c.length→0≤(nth c i).x∧(nth c i).x≤1073741824
 y0:∀i,i<c.length→0≤(nth c i).y∧(nth c i).y≤274877906944
 up:∀i,0<i→i<c.length→(nth c (i-1)).x<(nth c i).x
 mono:∀i,0<i→i<c.length→(nth c (i-1)).y≤(nth c i).y
 prod:∀i,0<i→i<c.length→((nth c i).y-(nth c (i-1)).y)*((nth c i).x-(nth c (i-1)).x)≤4611686018427387904
theorem mf{c:List Pt}(h:fW c=0):Cv c:=by
 unfold fW at h;split at h
 ·cases h
 ·split at h
  ·cases h
  ·have hz:∀i,i<c.length→g6 c i=0:=fun i hi=>sy h i (by omega) (by omega)
   refine⟨by omega,by omega,fun i hi=>(KG (hz i hi)).1,fun i hi=>(KG (hz i hi)).2,fun i h0 hi=>(Qg (hz i hi) h0).1,fun i h0 hi=>(Qg (hz i hi) h0).2.1,fun i h0 hi=>?_⟩
   obtain⟨h1,h2,h3⟩:=Qg (hz i hi) h0;generalize KH:(nth c i).x-(nth c (i-1)).x=dx at *;generalize KI:(nth c i).y-(nth c (i-1)).y=dy at *;have h4:(4611686018427387904:Int).tdiv dx*dx≤4611686018427387904:=by
    have:=Int.mul_tdiv_add_tmod 4611686018427387904 dx;rw[Ip]at this;have:=Iu (a:=4611686018427387904) dx (by omega)
    omega
   exact y9 (AQ h3 (by omega)) h4
theorem Cv.lt{c:List Pt}(h:Cv c):∀{i j:Nat},i<j→j<c.length→(nth c i).x<(nth c j).x:=by
 intro i j Qh hj;induction j with
 |zero=>omega
 |succ j ih =>
  have:=h.up (j+1) (by omega) hj
  simp at this;rcases cF i j with h1|h1
  ·have:=ih h1 (by omega);omega
  ·obtain rfl:i=j:=by omega
   exact this
theorem Cv.le{c:List Pt}(h:Cv c):∀{i j:Nat},i≤j→j<c.length→(nth c i).y≤(nth c j).y:=by
 intro i j Qh hj;induction j with
 |zero=>obtain rfl:i=0:=by omega
        omega
 |succ j ih =>
  have:=h.mono (j+1) (by omega) hj
  simp at this;rcases cF j i with h1|h1
  ·obtain rfl:i=j+1:=by omega
   omega
  ·have:=ih h1 (by omega);omega
theorem Hl{c:List Pt}(h:Cv c){i:Nat}{x:Int}(h0:0<i)(hi:i<c.length)(h1:(nth c (i-1)).x≤x)(h2:x≤(nth c i).x) :
  0≤((nth c i).y-(nth c (i-1)).y)*(x-(nth c (i-1)).x)∧((nth c i).y-(nth c (i-1)).y)*(x-(nth c (i-1)).x)≤4611686018427387904 ∧
  0≤(((nth c i).y-(nth c (i-1)).y)*(x-(nth c (i-1)).x)).tdiv ((nth c i).x-(nth c (i-1)).x) ∧
  (((nth c i).y-(nth c (i-1)).y)*(x-(nth c (i-1)).x)).tdiv ((nth c i).x-(nth c (i-1)).x)≤(nth c i).y-(nth c (i-1)).y:=by
 have h3:=h.up i h0 hi;have h4:=h.mono i h0 hi;have h5:=h.prod i h0 hi;generalize KH:(nth c i).x-(nth c (i-1)).x=dx at *;generalize KI:(nth c i).y-(nth c (i-1)).y=dy at *;generalize ht:x-(nth c (i-1)).x=t at *;have h6:0≤dy*t:=CF (by omega) (by omega)
 have h7:dy*t≤dy*dx:=Iq (by omega) (by omega)
 refine⟨h6,by omega,xo h6 (by omega),?_⟩
 have h8:=Int.tdiv_le_tdiv (a:=dy*t) (b:=dy*dx) (c:=dx) (by omega) h7
 rwa [Ir _ (by omega)]at h8
theorem Hm{c:List Pt}{x:Int}{n:Nat}:∀{k i:Nat},i≤k→k≤n→(∀j,i≤j→j<k→(nth c j).x<x)→wa c x (n-i) i=wa c x (n-k) k:=by
 intro k;induction k with
 |zero=>intro i h1 _ _;obtain rfl:i=0:=by omega
        rfl
 |succ k ih =>
  intro i h1 h2 h3;rcases cF k i with h|h
  ·obtain rfl:i=k+1:=by omega
   rfl
  ·rw[ih h (by omega) (fun j a b=>h3 j a (by omega))]
   obtain⟨m,hm⟩:∃m,n-k=m+1:=⟨n-k-1,by omega⟩
   have:=h3 k h (by omega)
   rw[hm,wa,aA (by omega),show n-(k+1)=m by omega]
theorem Hn{c:List Pt}{x:Int}{n i:Nat}(hi:i<n)(h:x≤(nth c i).x):wa c x (n-i) i=if i=0 then (nth c i).y else oZ c i x:=by
 obtain⟨m,hm⟩:∃m,n-i=m+1:=⟨n-i-1,by omega⟩
 rw[hm,wa,aP h]
theorem BW{c:List Pt}{x:Int}(h:Cv c)(h1:x≤(nth c 0).x):ig c x=(nth c 0).y:=by
 have:=Hn (c:=c) (x:=x) (n:=c.length) h.pos h1;simpa [ig] using this
theorem w7{c:List Pt}{x:Int}{i:Nat}(h:Cv c)(h0:0<i)(hi:i<c.length)(h1:(nth c (i-1)).x≤x)(h2:x≤(nth c i).x):ig c x=oZ c i x:=by
 have up:=h.up i h0 hi;by_cases hx:(nth c (i-1)).x<x
 ·have:=Hm (c:=c) (x:=x) (n:=c.length) (i:=0) (k:=i) (by omega) (by omega) (fun j _ hj=>by
   rcases cF j (i-1) with h3|h3
   ·have:=h.lt h3 (by omega);omega
   ·obtain rfl:j=i-1:=by omega
    exact hx)
  rw[Hn hi h2,aA (by omega)]at this
  simpa [ig] using this
 ·have hx:x=(nth c (i-1)).x:=by omega
  subst hx;have:=Hm (c:=c) (x:=(nth c (i-1)).x) (n:=c.length) (i:=0) (k:=i-1) (by omega) (by omega) (fun j _ hj=>h.lt (by omega) (by omega))
  rw[Hn (n:=c.length) (i:=i-1) (by omega) (by omega)]at this
  have e:oZ c i (nth c (i-1)).x=(nth c (i-1)).y:=by simp[oZ]
  rw[e];simp only[wF]at this;rw[ig,this];split
  ·rfl
  ·rename_i h3
   have h4:=h.up (i-1) (by omega) (by omega)
   rw[oZ,Ir _ (by omega)]
   omega
theorem KJ{c:List Pt}{x:Int}(h:Cv c)(h1:(nth c (c.length-1)).x≤x):ig c x=(nth c (c.length-1)).y:=by
 have hp:=h.pos;rcases cF 1 c.length with h2|h2
 ·by_cases hx:(nth c (c.length-1)).x<x
  ·have:=Hm (c:=c) (x:=x) (n:=c.length) (i:=0) (k:=c.length) (by omega) (by omega) (fun j _ hj=>by
    rcases cF j (c.length-1) with h3|h3
    ·have:=h.lt h3 (by omega);omega
    ·obtain rfl:j=c.length-1:=by omega
     exact hx)
   simp only[wF,qD]at this;rw[ig,this,wa]
  ·obtain rfl:x=(nth c (c.length-1)).x:=by omega
   have hu:=h.up (c.length-1) (by omega) (by omega)
   rw[w7 h (i:=c.length-1) (by omega) (by omega) (by omega) (by omega),oZ,Ir _ (by omega)]
   omega
 ·by_cases hx:x≤(nth c 0).x
  ·rw[BW h hx,show c.length-1=0 by omega]
  ·have:=Hm (c:=c) (x:=x) (n:=c.length) (i:=0) (k:=c.length) (by omega) (by omega) (fun j _ hj=>by
    obtain rfl:j=0:=by omega
    omega)
   simp only[wF,qD]at this;rw[ig,this,wa]
theorem Qi{c:List Pt}(h:Cv c)(x:Int):x≤(nth c 0).x∨(∃i,0<i∧i<c.length∧(nth c (i-1)).x≤x∧x≤(nth c i).x)∨(nth c (c.length-1)).x≤x:=by
 have hp:=h.pos;by_cases h1:x≤(nth c 0).x
 ·exact .inl h1
 ·have:∀k,k<c.length→(∃i,0<i∧i≤k∧(nth c (i-1)).x≤x∧x≤(nth c i).x)∨(nth c k).x≤x:=by
   intro k;induction k with
   |zero=>intro _;right;omega
   |succ k ih =>
    intro hk;rcases ih (by omega) with⟨i,a,b,d,e⟩ | h2
    ·exact .inl ⟨i,a,by omega,d,e⟩
    ·by_cases h3:x≤(nth c (k+1)).x
     ·exact .inl ⟨k+1,by omega,by omega,h2,h3⟩
     ·right;omega
  rcases this (c.length-1) (by omega) with⟨i,a,b,d,e⟩ | h2
  ·exact .inr (.inl ⟨i,a,by omega,d,e⟩)
  ·exact .inr (.inr h2)
theorem D0{c:List Pt}(h:Cv c)(x:Int):(nth c 0).y≤ig c x∧ig c x≤(nth c (c.length-1)).y:=by
 have hp:=h.pos;have h0:=h.le (i:=0) (j:=c.length-1) (by omega) (by omega)
 rcases Qi h x with h1 | ⟨i,a,b,d,e⟩ | h1
 ·rw[BW h h1];omega
 ·rw[w7 h a b d e]
  have h2:=Hl h a b d e;have h3:=h.le (i:=0) (j:=i-1) (by omega) (by omega)
  have h4:=h.le (i:=i) (j:=c.length-1) (by omega) (by omega)
  unfold oZ;omega
 ·rw[KJ h h1];omega
theorem KK{c:List Pt}(h:Cv c)(x:Int)(G:List aT):bd F 222 [iA c,i64 x] G=some (i64 (ig c x),G) :=
 bX rfl rfl (by
  have hp:=h.pos;have hf:=h.kb;generalize hW:ig c x=W;simp +contextual (disch:=omega) [-getElem?_pos,wrap64,Ze];refine go_loop (fun i:Nat=>ak1 (iA c) x (iA c) c.length i G) (fun i=>i≤c.length∧wa c x (c.length-i) i=W∧(0<i→(nth c (i-1)).x<x)) (fun i=>c.length-i) 0 rfl (by simp) ⟨by omega,hW,by omega⟩ ?_
  rintro i ⟨hi,hq,hl⟩;simp +contextual (disch:=omega) [-getElem?_pos,wrap64,Zd];refine bS (fun h1=>?_) (fun h1=>?_)
  ·have h1:i<c.length:=by omega
   simp +contextual (disch:=omega) [-getElem?_pos,wrap64,bg (l:=c)];refine gT (fun h2=>?_) (fun h2=>bS (fun h3=>?_) (fun h3=>?_))
   ·simp[-List.length_eq_zero_iff,-Int.natCast_eq_zero]at h2
    obtain rfl:i=0:=by omega
    rw[Hn h1 h2.1,aP rfl]at hq;exact hq
   ·simp[-List.length_eq_zero_iff,-Int.natCast_eq_zero]at h2
    have h4:0<i:=by omega
    have h5:1≤(i:Int):=by omega
    have h6:i-1<c.length:=by omega
    have h9:=hl h4;have h7:=Hl h h4 h1 (by omega) h3
    have h8:=h.up i h4 h1;have fT:=h.x0 i h1;have kL:=h.x0 (i-1) h6;have ti:=h.y0 i h1;have ZR:=h.y0 (i-1) h6;have Qj:(nth c i).x-(nth c (i-1)).x≠0:=by omega
    rw[Hn h1 h3,aA (by omega),oZ]at hq
    simp +contextual (disch:=omega) [-getElem?_pos,wrap64,bg (l:=c),h5,Qj];exact hq
   ·simp[-List.length_eq_zero_iff,-Int.natCast_eq_zero]at h2
    have:=Hm (c:=c) (x:=x) (n:=c.length) (i:=i) (k:=i+1) (by omega) (by omega) (fun j a b=>by
     obtain rfl:j=i:=by omega
     omega)
    rw[this]at hq;exact bV (i+1) (by simp) ⟨by omega,hq,fun _=>by simp;omega⟩ (by omega)
  ·obtain rfl:i=c.length:=by omega
   have h2:((c.length:Int)-1).toNat=c.length-1:=by omega
   rw[qD,wa]at hq;simp +contextual (disch:=omega) [-getElem?_pos,wrap64,bg (l:=c),h2];exact hq)
theorem ZS{c:List Pt}(h:Cv c)(x:Int)(G:List aT):bd F 138 [iA c,i64 x] G=some (i64 (ig c x),G) :=
 bX rfl rfl (by
  have hp:=h.pos;have hf:=h.kb;generalize hW:ig c x=W;simp (disch:=omega) [-getElem?_pos,wrap64,X8,bg (l:=c)];refine bS (fun h1=>?_) (fun h1=>?_)
  ·rw[BW h h1]at hW
   exact hW
  ·refine go_loop (fun i:Nat=>ajS (iA c) x (i+1) G) (fun i=>i+1≤c.length∧(nth c i).x≤x) (fun i=>c.length-i) 0 rfl (by simp) ⟨by omega,by omega⟩ ?_
   rintro i ⟨hi,hl⟩;simp (disch:=omega) [-getElem?_pos,wrap64,X7];refine bS (fun h2=>?_) (fun h2=>?_)
   ·have h2:i+1<c.length:=by omega
    have h3:((i:Int)+1).toNat=i+1:=by omega
    simp (disch:=omega) [-getElem?_pos,wrap64,bg (l:=c),h3];refine bS (fun h4=>?_) (fun h4=>?_)
    ·have h7:=Hl h (i:=i+1) (x:=x) (by omega) h2 (by simpa using hl) (by omega)
     have h8:=h.up (i+1) (by omega) h2
     have fT:=h.x0 (i+1) h2;have kL:=h.x0 i (by omega)
     have ti:=h.y0 (i+1) h2;have ZR:=h.y0 i (by omega)
     rw[w7 h (i:=i+1) (by omega) h2 (by simpa using hl) (by omega),oZ]at hW
     simp only[qC]at h7 h8 hW;have Qj:(nth c (i+1)).x-(nth c i).x≠0:=by omega
     simp (disch:=omega) [-getElem?_pos,wrap64,bg (l:=c),Qj];exact hW
    ·exact bV (i+1) (by simp) ⟨by omega,by omega⟩ (by omega)
   ·obtain rfl:c.length-1=i:=by omega
    have h3:((c.length:Int)-1).toNat=c.length-1:=by omega
    rw[KJ h hl]at hW;simp (disch:=omega) [-getElem?_pos,wrap64,bg (l:=c),h3];exact hW)
theorem Qk(c:List Pt)(x:Int)(G:List aT):bd F 143 [iA c,i64 x] G=some (.tuple [i64 (if fW c=0 then ig c x else 0),i64 (fW c)],G) :=
 bX rfl rfl (by
  by_cases h:fW c=0
  ·simp[wrap64,PI,lP,h,ZS (mf h)]
  ·simp[wrap64,PI,lP,h])
structure Rs where
 c:List Pt
 d:Int
 l:Int
 f:Int
 s:Int
 t:Int
abbrev Rs.cells(r:Rs):List V:=[iA r.c,i64 r.d,i64 r.l,i64 r.f,i64 r.s,i64 r.t]
def sA(c:List Pt)(i:Nat):Int:=if (nth c i).y≤(nth c (i-1)).y then 4 else 0
def sB(r:Rs):List Int:=[(nth r.c 0).x,r.d,r.l,r.f,r.s,r.t,(nth r.c (r.c.length-1)).x]
def pR(l:List Int)(i:Nat):Int:=if nth l i<nth l (i-1) then 4 else 0
def ij(r:Rs):Int :=
 if fW r.c≠0 then fW r.c else if r.c.length<2 then 3 else if 16777216<(nth r.c (r.c.length-1)).x then 1
 else if dI (sA r.c) (r.c.length-1) 1=0 then dI (pR (sB r)) (7-1) 1 else 4
theorem ZT{c:List Pt}(h:fW c=0):c.length≤100:=by
 unfold fW at h;split at h
 ·cases h
 ·split at h
  ·cases h
  ·omega
theorem ZU(r:Rs)(G:List aT):bd F 152 [.agg r.cells] G=some (i64 (ij r),G) :=
 bX rfl rfl (by
  generalize hW:ij r=W;unfold ij at hW;simp (disch:=omega) [-getElem?_pos,wrap64,Yr,nK];refine gT (fun h=>?_) (fun h=>?_)
  ·simp[-List.length_eq_zero_iff,-Int.natCast_eq_zero]at h
   rw[aP (by omega)]at hW
   exact hW
  ·simp[-List.length_eq_zero_iff,-Int.natCast_eq_zero]at h
   rw[aA (by omega)]at hW
   refine bS (fun h2=>?_) (fun h2=>?_)
   ·rw[aP (by omega)]at hW
    simpa using hW
   ·rw[aA (by omega)]at hW
    have h3:((r.c.length:Int)-1).toNat=r.c.length-1:=by omega
    have h4:r.c.length-1<r.c.length:=by omega
    have h5:0≤(r.c.length:Int)-1:=by omega
    have hl:=ZT h;simp (disch:=omega) [-getElem?_pos,wrap64,bg (l:=r.c),h3,h4,h5];refine bS (fun h6=>?_) (fun h6=>?_)
    ·rw[aP (by omega)]at hW
     simpa using hW
    ·rw[aA (by omega)]at hW
     have hq:(if dI (sA r.c) (r.c.length-1) 1=0 then dI (pR (sB r)) (7-1) 1 else (4:Int))=W:=hW
     clear hW
     refine go_loop (fun i:Nat=>akg r.c.length i r.cells G) (fun i=>1≤i∧i≤r.c.length∧(if dI (sA r.c) (r.c.length-i) i=0 then dI (pR (sB r)) (7-1) 1 else (4:Int))=W) (fun i=>r.c.length-i) 1 rfl (by simp) ⟨by omega,by omega,hq⟩ ?_
     rintro i ⟨Ql,hi,hq⟩;simp (disch:=omega) [-getElem?_pos,wrap64,Yp];refine bS (fun h7=>?_) (fun h7=>?_)
     ·have h7:i<r.c.length:=by omega
      rw[ly h7]at hq;have h8:((i:Int)-1).toNat=i-1:=by omega
      have h9:i-1<r.c.length:=by omega
      have fT:0≤(i:Int)-1:=by omega
      simp (disch:=omega) [-getElem?_pos,wrap64,bg (l:=r.c),h8,h9,fT,h7];refine bS (fun kL=>?_) (fun kL=>?_)
      ·have e:sA r.c i=4:=by rw[sA,aP kL]
       rw[e]at hq;simpa using hq
      ·have e:sA r.c i=0:=by rw[sA,aA kL]
       rw[e,aP rfl]at hq;exact bV (i+1) (by simp) ⟨by omega,by omega,hq⟩ (by omega)
     ·have h7:i=r.c.length:=by omega
      subst h7;rw[nc]at hq;rw[aP rfl]at hq;simp (disch:=omega) [-getElem?_pos,wrap64,bg (l:=r.c),h3,h4,h5];have hL:(sB r).length=7:=rfl;have hO:[V.int IntKind.i64 (nth r.c 0).x,V.int IntKind.i64 r.d,V.int IntKind.i64 r.l,V.int IntKind.i64 r.f,V.int IntKind.i64 r.s,V.int IntKind.i64 r.t,V.int IntKind.i64 (nth r.c (r.c.length-1)).x]=(sB r).map (V.int .i64):=rfl;rw[hO];generalize sB r=L at hq hL ⊢;refine go_loop (fun i:Nat=>aki i (L.map (V.int .i64)) G) (fun i=>1≤i∧i≤7∧dI (pR L) (7-i) i=W) (fun i=>7-i) 1 rfl (by simp) ⟨by omega,by omega,hq⟩ ?_
      rintro j ⟨ox,hj,hq⟩;simp (disch:=omega) [-getElem?_pos,wrap64,Yq];refine bS (fun h7=>?_) (fun h7=>?_)
      ·have h7:j<7:=by omega
       rw[ly h7]at hq;have h8:((j:Int)-1).toNat=j-1:=by omega
       have h9:j-1<L.length:=by omega
       have fT:0≤(j:Int)-1:=by omega
       have kL:j<L.length:=by omega
       simp (disch:=omega) [-getElem?_pos,wrap64,bg (l:=L),h8,h9,fT,h7,kL,hL];refine bS (fun ti=>?_) (fun ti=>?_)
       ·have e:pR L j=4:=by rw[pR,aP ti]
        rw[e]at hq;simpa using hq
       ·have e:pR L j=0:=by rw[pR,aA ti]
        rw[e,aP rfl]at hq;exact bV (j+1) (by simp) ⟨by omega,by omega,hq⟩ (by omega)
      ·have h7:j=7:=by omega
       subst h7;simpa [dI] using hq)
theorem sC{r:Rs}(h:ij r=0):fW r.c=0:=by
 unfold ij at h;split at h
 ·rename_i h1;exact h
 ·rename_i h1;exact gW h1
theorem ZV{c:List Pt}(h:Cv c):∀{m i:Nat},i+m<c.length→(nth c i).x≤(nth c (i+m)).x
 |0,i,_=>by simp
 |m+1,i,hi=>by
  have h1:=ZV h (m:=m) (i:=i) (by omega)
  have h2:=h.up (i+m+1) (by omega) (by omega)
  have h3:i+m+1-1=i+m:=by omega
  rw[h3]at h2;have h4:i+(m+1)=i+m+1:=by omega
  rw[h4];omega
theorem Au(r:Rs)(G:List aT):bd F 90 [.agg r.cells] G=some (i64 (ij r),G) :=
 bX rfl rfl (by
  generalize hW:ij r=W;unfold ij at hW;by_cases h:fW r.c=0
  ·rw[aA (by omega)]at hW
   have hl:=ZT h;simp (disch:=omega) [-getElem?_pos,wrap64,Pl,lP,h];refine bS (fun h2=>?_) (fun h2=>?_)
   ·rw[aP (by omega)]at hW
    simpa using hW
   ·rw[aA (by omega)]at hW
    have h3:((r.c.length:Int)-1).toNat=r.c.length-1:=by omega
    have h4:r.c.length-1<r.c.length:=by omega
    have h5:0≤(r.c.length:Int)-1:=by omega
    refine go_loop (fun i:Nat=>aiJ r.c.length (iA r.c) r.c.length i r.cells G) (fun i=>i≤r.c.length∧∀j,j<i→(nth r.c j).x≤16777216) (fun i=>r.c.length-i) 0 rfl (by simp) ⟨by omega,by omega⟩ ?_
    rintro i ⟨hi,hz⟩;simp (disch:=omega) [-getElem?_pos,wrap64,Xl];refine bS (fun h6=>?_) (fun h6=>?_)
    ·have h6:i<r.c.length:=by omega
     simp (disch:=omega) [-getElem?_pos,wrap64,bg (l:=r.c),h6];refine bS (fun h7=>?_) (fun h7=>?_)
     ·have h8:=ZV (mf h) (m:=r.c.length-1-i) (i:=i) (by omega)
      rw[show i+(r.c.length-1-i)=r.c.length-1 by omega]at h8
      rw[aP (by omega)]at hW
      simpa using hW
     ·exact bV (i+1) (by simp) ⟨by omega,fun j hj=>by rcases cF j i with h|h;exact hz j h;rw[show j=i by omega];omega⟩ (by omega)
    ·have h6:i=r.c.length:=by omega
     subst h6;have h8:=hz (r.c.length-1) (by omega)
     rw[aA (by omega)]at hW
     have hq:(if dI (sA r.c) (r.c.length-1) 1=0 then dI (pR (sB r)) (7-1) 1 else (4:Int))=W:=hW
     clear hW
     refine go_loop (fun i:Nat=>aiL r.c.length i r.cells G) (fun i=>1≤i∧i≤r.c.length∧(if dI (sA r.c) (r.c.length-i) i=0 then dI (pR (sB r)) (7-1) 1 else (4:Int))=W) (fun i=>r.c.length-i) 1 rfl (by simp) ⟨by omega,by omega,hq⟩ ?_
     rintro i ⟨Ql,hi,hq⟩;simp (disch:=omega) [-getElem?_pos,wrap64,Xm];refine bS (fun h7=>?_) (fun h7=>?_)
     ·have h7:i<r.c.length:=by omega
      rw[ly h7]at hq;have h8:((i:Int)-1).toNat=i-1:=by omega
      have h9:i-1<r.c.length:=by omega
      have fT:0≤(i:Int)-1:=by omega
      simp (disch:=omega) [-getElem?_pos,wrap64,bg (l:=r.c),h8,h9,fT,h7];refine bS (fun kL=>?_) (fun kL=>?_)
      ·have e:sA r.c i=4:=by rw[sA,aP kL]
       rw[e]at hq;simpa using hq
      ·have e:sA r.c i=0:=by rw[sA,aA kL]
       rw[e,aP rfl]at hq;exact bV (i+1) (by simp) ⟨by omega,by omega,hq⟩ (by omega)
     ·have h7:i=r.c.length:=by omega
      subst h7;rw[nc]at hq;rw[aP rfl]at hq;simp (disch:=omega) [-getElem?_pos,wrap64,bg (l:=r.c),h3,h4,h5];have hL:(sB r).length=7:=rfl;have hO:[[V.int IntKind.i64 (nth r.c 0).x],[V.int IntKind.i64 r.d],[V.int IntKind.i64 r.l],[V.int IntKind.i64 r.f],[V.int IntKind.i64 r.s],[V.int IntKind.i64 r.t],[V.int IntKind.i64 (nth r.c (r.c.length-1)).x]]=(sB r).map (fun n=>[V.int .i64 n]):=rfl;rw[hO];generalize sB r=L at hq hL ⊢;refine go_loop (fun i:Nat=>aiN (.slice none 1 (L.map (fun n=>[V.int .i64 n]))) i G) (fun i=>1≤i∧i≤7∧dI (pR L) (7-i) i=W) (fun i=>7-i) 1 rfl (by simp) ⟨by omega,by omega,hq⟩ ?_
      rintro j ⟨ox,hj,hq⟩;simp (disch:=omega) [-getElem?_pos,wrap64,Xn,hL];refine bS (fun h7=>?_) (fun h7=>?_)
      ·have h7:j<7:=by omega
       rw[ly h7]at hq;have h8:((j:Int)-1).toNat=j-1:=by omega
       have h9:j-1<L.length:=by omega
       have fT:0≤(j:Int)-1:=by omega
       have kL:j<L.length:=by omega
       simp (disch:=omega) [-getElem?_pos,wrap64,bg (l:=L),h8,h9,fT,h7,kL,hL];refine bS (fun ti=>?_) (fun ti=>?_)
       ·have e:pR L j=4:=by rw[pR,aP ti]
        rw[e]at hq;simpa using hq
       ·have e:pR L j=0:=by rw[pR,aA ti]
        rw[e,aP rfl]at hq;exact bV (j+1) (by simp) ⟨by omega,by omega,hq⟩ (by omega)
      ·have h7:j=7:=by omega
       subst h7;simpa [dI] using hq
  ·rw[aP h]at hW
   simp (disch:=omega) [-getElem?_pos,wrap64,Pl,lP,h];exact hW)
def sD(r:Rs)(l:Int):Int:=if ij r≠0 then ij r else if 0≤l∧l≤16777216 then 0 else 1
theorem al5{r:Rs}{l:Int}(h:sD r l=0):ij r=0:=by
 unfold sD at h;split at h
 ·exact h
 ·rename_i h1;exact gW h1
theorem ZW(r:Rs)(l:Int)(G:List aT):bd F 142 [.agg r.cells,i64 l] G=some (i64 (sD r l),G) :=
 bX rfl rfl (by
  by_cases h:ij r=0
  ·by_cases h1:0≤l
   ·by_cases h2:l≤16777216
    ·simp[wrap64,Ha,Au,h,h1,h2,cV,sD]
    ·simp[wrap64,Ha,Au,h,h1,h2,cV,sD]
   ·simp[wrap64,Ha,Au,h,h1,cV,sD]
  ·simp[wrap64,Ha,Au,h,sD])
theorem KL(r:Rs)(l:Int)(G:List aT):bd F 102 [.agg r.cells,i64 l] G=some (.tuple [i64 (if sD r l=0 then ig r.c l else 0),i64 (sD r l)],G) :=
 bX rfl rfl (by
  by_cases h:sD r l=0
  ·simp[wrap64,Pp,ZW,h,Qk,sC (al5 h)]
  ·simp[wrap64,Pp,ZW,h])
def BY(c:List Pt)(y:Int)(i:Nat):Int :=
 (nth c i).x+((y-(nth c i).y+1)*((nth c (i+1)).x-(nth c i).x)-1).tdiv ((nth c (i+1)).y-(nth c i).y)
def rf(c:List Pt)(y:Int):Nat→Nat→Int
 |0,_=>(nth c (c.length-1)).x
 |m+1,i=>if y<(nth c (i+1)).y then BY c y i else rf c y m (i+1)
def w8(c:List Pt)(y:Int):Int:=rf c y (c.length-1) 0
theorem al6{c:List Pt}{y:Int}{i n:Nat}(h:i<n):rf c y (n-i) i=if y<(nth c (i+1)).y then BY c y i else rf c y (n-(i+1)) (i+1):=by
 obtain⟨m,hm⟩:∃m,n-i=m+1:=⟨n-i-1,by omega⟩
 rw[hm,rf,show n-(i+1)=m by omega]
theorem ZX{c:List Pt}(h:fW c=0)(y:Int)(G:List aT) :
  bd F 196 [iA c,i64 y] G=some (.tuple [i64 (if y<(nth c 0).y then 0 else w8 c y),.bool (decide ((nth c 0).y≤y)),i64 0],G) :=
 bX rfl rfl (by
  have hc:=mf h;have hp:=hc.pos;have hl:=hc.kb;simp (disch:=omega) [-getElem?_pos,wrap64,YV,nK,h,bg (l:=c),hp];refine bS (fun h1=>⟨fun h2=>absurd h1 (by omega),h1⟩) (fun h1=>?_)
  have hT:(List.take c.length (List.map Pt.row c)).tail=c.tail.map Pt.row:=by
   rw[kG (by simp),List.map_tail]
  have hTl:c.tail.length=c.length-1:=by simp
  have ZY:∀i,nth c.tail i=nth c (i+1):=fun i=>by simp[nth]
  rw[hT];generalize c.tail=T at hTl ZY ⊢;refine go_loop (fun i:Nat=>akN (iA c) y (.slice none 2 (T.map Pt.row)) ((c.length-1:Nat):Int) i G) (fun i=>i≤c.length-1∧rf c y (c.length-1-i) i=w8 c y∧(nth c i).y≤y) (fun i=>c.length-1-i) 0 rfl (by simp) ⟨by omega,rfl,by omega⟩ ?_
  rintro i ⟨hi,hq,hy⟩;simp (disch:=omega) [-getElem?_pos,wrap64,YU];refine bS (fun h2=>?_) (fun h2=>?_)
  ·have h2:i<c.length-1:=by omega
   rw[al6 h2]at hq;have h3:i<T.length:=by omega
   have h4:i<c.length:=by omega
   simp (disch:=omega) [-getElem?_pos,wrap64,bg (l:=T),bg (l:=c),h3,h4,ZY];refine bS (fun h5=>?_) (fun h5=>?_)
   ·rw[aP h5]at hq
    have y1:=hc.y0 i h4;have y2:=hc.y0 (i+1) (by omega)
    have x1:=hc.x0 i h4;have x2:=hc.x0 (i+1) (by omega)
    have u1:=hc.up (i+1) (by omega) (by omega)
    have u2:=hc.prod (i+1) (by omega) (by omega)
    simp only[qC]at u1 u2;have a1:(y-(nth c i).y+1)*((nth c (i+1)).x-(nth c i).x)≤((nth c (i+1)).y-(nth c i).y)*((nth c (i+1)).x-(nth c i).x):=AQ (by omega) (by omega)
    have a2:0<(y-(nth c i).y+1)*((nth c (i+1)).x-(nth c i).x):=Mb (by omega) (by omega)
    have b1:0≤((y-(nth c i).y+1)*((nth c (i+1)).x-(nth c i).x)-1).tdiv ((nth c (i+1)).y-(nth c i).y):=xo (by omega) (by omega)
    have b2:((y-(nth c i).y+1)*((nth c (i+1)).x-(nth c i).x)-1).tdiv ((nth c (i+1)).y-(nth c i).y)≤(y-(nth c i).y+1)*((nth c (i+1)).x-(nth c i).x)-1:=AR _ (by omega)
    have d0:¬ (nth c (i+1)).y-(nth c i).y=0:=by omega
    have e0:¬ y<(nth c 0).y:=h1;have e1:(nth c 0).y≤y:=by omega
    simp (disch:=omega) [-getElem?_pos,wrap64,wrap64,d0,e0,e1];rw[←hq];rfl
   ·rw[aA h5]at hq
    exact bV (i+1) (by simp) ⟨by omega,hq,by omega⟩ (by omega)
  ·have h2:i=c.length-1:=by omega
   subst h2;have h4:c.length-1<c.length:=by omega
   have h5:((c.length:Int)-1).toNat=c.length-1:=by omega
   have e0:¬ y<(nth c 0).y:=h1;have e1:(nth c 0).y≤y:=by omega
   rw[qD]at hq;simp (disch:=omega) [-getElem?_pos,wrap64,bg (l:=c),h4,h5,e0,e1];rw[←hq];rfl)
def jF(r:Rs)(v:Int):Int:=if v<(nth r.c 0).y then (nth r.c 0).x else w8 r.c v
theorem al9{r:Rs}(h:ij r=0)(v:Int)(G:List aT):bd F 164 [.agg r.cells,i64 v] G=some (i64 (jF r v),G) :=
 bX rfl rfl (by
  have hp:=(mf (sC h)).pos;by_cases h1:v<(nth r.c 0).y
  ·have h2:¬ (nth r.c 0).y≤v:=by omega
   simp[-getElem?_pos,wrap64,PO,ZX (sC h),h1,h2,bg (l:=r.c),hp,jF]
  ·have h2:(nth r.c 0).y≤v:=by omega
   simp[-getElem?_pos,wrap64,PO,ZX (sC h),h1,h2,bg (l:=r.c),hp,jF])
structure Bd where
 lo:Int
 hi:Int
 deriving Inhabited,DecidableEq
abbrev Bd.row(b:Bd):List V:=[i64 b.lo,i64 b.hi]
abbrev BZ(l:List Bd):V:=.slice none 2 (l.map Bd.row)
structure Un where
 table:List Pt
 least:Int
 c9:Int
 fH:List Bd
 up:Int
 down:Int
 deriving Inhabited,DecidableEq
abbrev Un.row(u:Un):List V:=[iA u.table,i64 u.least,i64 u.c9,BZ u.fH,i64 u.up,i64 u.down]
abbrev un(u:Un):V:=.agg u.row
def kQ(z:List Bd)(i:Nat):Int :=
 if ¬((0≤(nth z i).lo∧(nth z i).lo≤1073741824)∧0≤(nth z i).hi∧(nth z i).hi≤1073741824) then 1 else if (nth z i).hi≤(nth z i).lo then 4 else 0
def gV(u:Un):Int :=
 if fW u.table≠0 then fW u.table
 else if 1073741824<(nth u.table (u.table.length-1)).y then 1
 else if u.least<1∨u.c9<u.least∨1073741824<u.c9 then 1
 else if 10<u.fH.length then 10
 else if dI (kQ u.fH) u.fH.length 0≠0 then dI (kQ u.fH) u.fH.length 0
 else if ¬((0≤u.up∧u.up≤1000)∧0≤u.down∧u.down≤1000) then 1 else 0
theorem tB{c:List Pt}(h:fW c=0):0<c.length:=(mf h).pos
theorem sE(u:Un)(G:List aT):bd F 153 [un u] G=some (i64 (gV u),G) :=
 bX rfl rfl (by
  obtain⟨c,least,c9,z,up,down⟩:=u;generalize hW:gV ⟨c,least,c9,z,up,down⟩=W;unfold gV at hW;simp only at hW;by_cases hc:fW c=0
  ·have hp:=tB hc
   have hf:=(mf hc).kb;have h2:((c.length:Int)-1).toNat=c.length-1:=by omega
   rw[aA (by simpa using hc)]at hW
   simp +contextual (disch:=omega) [-getElem?_pos,wrap64,PL,nK,hc,bg (l:=c),h2];refine bS (fun h3=>?_) (fun h3=>?_)
   ·rw[aP (by omega)]at hW
    exact hW
   refine gT (fun h4=>?_) (fun h4=>?_)
   ·simp[-List.length_eq_zero_iff,-Int.natCast_eq_zero]at h4
    rw[aA (by omega),aP (by omega)]at hW
    exact hW
   simp[-List.length_eq_zero_iff,-Int.natCast_eq_zero]at h4;rw[aA (by omega),aA (by omega)]at hW
   refine bS (fun h5=>?_) (fun h5=>?_)
   ·rw[aP (by omega)]at hW
    exact hW
   rw[aA (by omega)]at hW
   refine go_loop (fun i:Nat=>akk (BZ z) z.length i [iA c,i64 least,i64 c9,BZ z,i64 up,i64 down] G) (fun i=>i≤z.length∧dI (kQ z) (z.length-i) i=dI (kQ z) z.length 0) (fun i=>z.length-i) 0 rfl (by simp) ⟨by omega,rfl⟩ ?_
   rintro i ⟨hi,hq⟩;simp +contextual (disch:=omega) [-getElem?_pos,wrap64,Ys];refine bS (fun h1=>?_) (fun h1=>?_)
   ·have h1:i<z.length:=by omega
    rw[ly h1]at hq;simp +contextual (disch:=omega) [-getElem?_pos,wrap64,bg (l:=z),dD];refine gT (fun h6=>?_) (fun h6=>?_)
    ·simp +contextual (disch:=omega) [-getElem?_pos,wrap64,h6,dD]
     simp[-List.length_eq_zero_iff,-Int.natCast_eq_zero]at h6;rw[show kQ z i=1 by rw[kQ,aP (by omega)],aA (by decide)]at hq
     rw[←hq,aP (by decide)]at hW
     exact hW
    ·simp +contextual (disch:=omega) [-getElem?_pos,wrap64,h6,dD]
     simp[-List.length_eq_zero_iff,-Int.natCast_eq_zero]at h6;refine gT (fun h7=>?_) (fun h7=>bS (fun h8=>?_) (fun h8=>?_))
     ·simp[-List.length_eq_zero_iff,-Int.natCast_eq_zero]at h7
      rw[show kQ z i=1 by rw[kQ,aP (by omega)],aA (by decide)]at hq
      rw[←hq,aP (by decide)]at hW
      exact hW
     ·simp[-List.length_eq_zero_iff,-Int.natCast_eq_zero]at h7
      rw[show kQ z i=4 by rw[kQ,aA (by omega),aP (by omega)],aA (by decide)]at hq
      rw[←hq,aP (by decide)]at hW
      exact hW
     ·simp[-List.length_eq_zero_iff,-Int.natCast_eq_zero]at h7
      rw[show kQ z i=0 by rw[kQ,aA (by omega),aA (by omega)],aP rfl]at hq
      exact bV (i+1) (by simp) ⟨by omega,hq⟩ (by omega)
   ·obtain rfl:i=z.length:=by omega
    rw[nc]at hq;rw[←hq,aA (by decide)]at hW
    simp +contextual (disch:=omega) [-getElem?_pos,wrap64,dD];refine gT (fun h6=>?_) (fun h6=>?_)
    ·simp +contextual (disch:=omega) [-getElem?_pos,wrap64,h6,dD]
     simp[-List.length_eq_zero_iff,-Int.natCast_eq_zero]at h6;rw[aP (by omega)]at hW
     exact hW
    ·simp +contextual (disch:=omega) [-getElem?_pos,wrap64,h6,dD]
     simp[-List.length_eq_zero_iff,-Int.natCast_eq_zero]at h6;refine gT (fun h7=>?_) (fun h7=>?_)
     ·simp[-List.length_eq_zero_iff,-Int.natCast_eq_zero]at h7
      rw[aP (by omega)]at hW
      exact hW
     ·simp[-List.length_eq_zero_iff,-Int.natCast_eq_zero]at h7
      rw[aA (by omega)]at hW
      exact hW
  ·rw[aP (by simpa using hc)]at hW
   simp +contextual (disch:=omega) [-getElem?_pos,wrap64,PL,nK,hc];exact hW)
theorem nd(u:Un)(G:List aT):bd F 133 [un u] G=some (i64 (gV u),G) :=
 bX rfl rfl (by
  obtain⟨c,least,c9,z,up,down⟩:=u;generalize hW:gV ⟨c,least,c9,z,up,down⟩=W;unfold gV at hW;simp only at hW;by_cases hc:fW c=0
  ·have hp:=tB hc
   have hf:=(mf hc).kb;have h2:((c.length:Int)-1).toNat=c.length-1:=by omega
   rw[aA (by simpa using hc)]at hW
   simp +contextual (disch:=omega) [-getElem?_pos,wrap64,PG,lP,hc,bg (l:=c),h2];refine gT (fun h4=>?_) (fun h4=>?_)
   ·simp[-List.length_eq_zero_iff,-Int.natCast_eq_zero]at h4
    by_cases h3:1073741824<(nth c (c.length-1)).y
    ·rw[aP h3]at hW
     exact hW
    ·rw[aA h3,aP (by omega)]at hW
     exact hW
   simp[-List.length_eq_zero_iff,-Int.natCast_eq_zero]at h4;rw[aA (by omega),aA (by omega)]at hW
   refine bS (fun h5=>?_) (fun h5=>?_)
   ·rw[aP (by omega)]at hW
    exact hW
   rw[aA (by omega)]at hW
   refine go_loop (fun i:Nat=>ajM (BZ z) z.length i [iA c,i64 least,i64 c9,BZ z,i64 up,i64 down] G) (fun i=>i≤z.length∧dI (kQ z) (z.length-i) i=dI (kQ z) z.length 0) (fun i=>z.length-i) 0 rfl (by simp) ⟨by omega,rfl⟩ ?_
   rintro i ⟨hi,hq⟩;simp +contextual (disch:=omega) [-getElem?_pos,wrap64,XZ];refine bS (fun h1=>?_) (fun h1=>?_)
   ·have h1:i<z.length:=by omega
    rw[ly h1]at hq;simp +contextual (disch:=omega) [-getElem?_pos,wrap64,bg (l:=z),cV];refine gT (fun h6=>?_) (fun h6=>?_)
    ·simp +contextual (disch:=omega) [-getElem?_pos,wrap64,h6,cV]
     simp[-List.length_eq_zero_iff,-Int.natCast_eq_zero]at h6;rw[show kQ z i=1 by rw[kQ,aP (by omega)],aA (by decide)]at hq
     rw[←hq,aP (by decide)]at hW
     exact hW
    ·simp +contextual (disch:=omega) [-getElem?_pos,wrap64,h6,cV]
     simp[-List.length_eq_zero_iff,-Int.natCast_eq_zero]at h6;refine gT (fun h7=>?_) (fun h7=>bS (fun h8=>?_) (fun h8=>?_))
     ·simp[-List.length_eq_zero_iff,-Int.natCast_eq_zero]at h7
      rw[show kQ z i=1 by rw[kQ,aP (by omega)],aA (by decide)]at hq
      rw[←hq,aP (by decide)]at hW
      exact hW
     ·simp[-List.length_eq_zero_iff,-Int.natCast_eq_zero]at h7
      rw[show kQ z i=4 by rw[kQ,aA (by omega),aP (by omega)],aA (by decide)]at hq
      rw[←hq,aP (by decide)]at hW
      exact hW
     ·simp[-List.length_eq_zero_iff,-Int.natCast_eq_zero]at h7
      rw[show kQ z i=0 by rw[kQ,aA (by omega),aA (by omega)],aP rfl]at hq
      exact bV (i+1) (by simp) ⟨by omega,hq⟩ (by omega)
   ·obtain rfl:i=z.length:=by omega
    rw[nc]at hq;rw[←hq,aA (by decide)]at hW
    simp +contextual (disch:=omega) [-getElem?_pos,wrap64,cV];refine gT (fun h6=>?_) (fun h6=>?_)
    ·simp +contextual (disch:=omega) [-getElem?_pos,wrap64,h6,cV]
     simp[-List.length_eq_zero_iff,-Int.natCast_eq_zero]at h6;rw[aP (by omega)]at hW
     exact hW
    ·simp +contextual (disch:=omega) [-getElem?_pos,wrap64,h6,cV]
     simp[-List.length_eq_zero_iff,-Int.natCast_eq_zero]at h6;refine gT (fun h7=>?_) (fun h7=>?_)
     ·simp[-List.length_eq_zero_iff,-Int.natCast_eq_zero]at h7
      rw[aP (by omega)]at hW
      exact hW
     ·simp[-List.length_eq_zero_iff,-Int.natCast_eq_zero]at h7
      rw[aA (by omega)]at hW
      exact hW
  ·rw[aP (by simpa using hc)]at hW
   simp +contextual (disch:=omega) [-getElem?_pos,wrap64,PG,lP,hc];exact hW)
structure Uv(u:Un):Prop where
 cv:Cv u.table
 top:(nth u.table (u.table.length-1)).y≤1073741824
 least:1≤u.least
 c9:u.least≤u.c9
 Qm:u.c9≤1073741824
 kb:u.fH.length≤10
 KM:∀i,i<u.fH.length→(0≤(nth u.fH i).lo∧(nth u.fH i).hi≤1073741824)∧(nth u.fH i).lo<(nth u.fH i).hi
 up:0≤u.up∧u.up≤1000
 down:0≤u.down∧u.down≤1000
 lz:fW u.table=0
theorem pS{u:Un}(h:gV u=0):Uv u:=by
 unfold gV at h;split at h
 ·contradiction
 ·split at h
  ·cases h
  ·split at h
   ·cases h
   ·split at h
    ·cases h
    ·split at h
     ·contradiction
     ·split at h
      ·cases h
      ·rename_i h1 h2 h3 h4 h5 h6
       have h1:fW u.table=0:=gW h1;have h5:dI (kQ u.fH) u.fH.length 0=0:=gW h5;refine⟨mf h1,by omega,by omega,by omega,by omega,by omega,fun i hi=>?_,by omega,by omega,h1⟩
       have h7:=sy h5 i (by omega) (by omega)
       unfold kQ at h7;split at h7
       ·cases h7
       ·split at h7
        ·cases h7
        ·omega
def ins(u:Un)(q:Int):Prop:=∃i,i<u.fH.length∧(nth u.fH i).lo<q∧q<(nth u.fH i).hi
theorem Z0{u:Un}(hu:Uv u)(q:Int)(G:List aT) :
  ∃r,bd F 237 [un u,i64 q] G=some (i64 r,G)∧q≤r∧¬ins u r∧(∀t,q≤t→t<r→ins u t)∧(r=q∨r≤1073741824):=by
 suffices h:gU (bd F) 237 [un u,i64 q] G fun v G'=>G'=G∧∃r,v=i64 r∧q≤r∧¬ins u r∧(∀t,q≤t→t<r→ins u t)∧(r=q∨r≤1073741824) by
  obtain⟨_,_,h,rfl,r,rfl,h2⟩:=h;exact⟨r,h,h2⟩
 refine ic rfl rfl ?_;have hz:=hu.KM;have hf:=hu.kb;simp +contextual (disch:=omega) [-getElem?_pos,wrap64,Zr];refine go_loop (fun r:Int=>ali r u.row G) (fun r=>q≤r∧(∀t,q≤t→t<r→ins u t)∧(r=q∨r≤1073741824)) (fun r=>(1073741824-r).toNat) q rfl (by simp) ⟨by omega,by omega,.inl rfl⟩ ?_
 rintro r ⟨h1,h2,h3⟩;simp +contextual (disch:=omega) [-getElem?_pos,wrap64,Zq];refine go_loop (fun i:Nat=>alg r (BZ u.fH) u.fH.length i u.row G) (fun i=>i≤u.fH.length∧∀j,j<i→¬((nth u.fH j).lo<r∧r<(nth u.fH j).hi)) (fun i=>u.fH.length-i) 0 rfl (by simp) ⟨by omega,by omega⟩ ?_
 rintro i ⟨hi,hn⟩;simp +contextual (disch:=omega) [-getElem?_pos,wrap64,Zp];refine bS (fun h4=>?_) (fun h4=>?_)
 ·have h4:i<u.fH.length:=by omega
  have h5:=hz i h4;simp +contextual (disch:=omega) [-getElem?_pos,wrap64,bg (l:=u.fH)];refine gT (fun h6=>?_) (fun h6=>?_)
  ·simp[-List.length_eq_zero_iff,-Int.natCast_eq_zero]at h6
   refine bV (nth u.fH i).hi (by simp) ⟨by omega,fun t ha hb=>?_,by omega⟩ (by omega)
   by_cases h7:t<r
   ·exact h2 t ha h7
   ·exact⟨i,h4,by omega,hb⟩
  ·simp[-List.length_eq_zero_iff,-Int.natCast_eq_zero]at h6
   refine bV (i+1) (by simp) ⟨by omega,fun j hj=>?_⟩ (by omega)
   rcases cF j i with h7|h7
   ·have:=hn j h7;omega
   ·obtain rfl:j=i:=by omega
    omega
 ·obtain rfl:i=u.fH.length:=by omega
  exact⟨h1,fun⟨j,hj,h5,h6⟩=>hn j hj ⟨h5,h6⟩,h2,h3⟩
theorem Z1{u:Un}(hu:Uv u)(q:Int)(G:List aT) :
  (∃e,bd F 207 [un u,i64 q] G=some (.tuple [i64 e,.bool true],G)∧ins u q∧q<e∧e≤1073741824∧∀t,q≤t→t<e→ins u t) ∨
  (bd F 207 [un u,i64 q] G=some (.tuple [i64 0,.bool false],G)∧¬ins u q):=by
 suffices h:gU (bd F) 207 [un u,i64 q] G fun v G'=>G'=G∧((∃e,v=.tuple [i64 e,.bool true]∧ins u q∧q<e∧e≤1073741824∧∀t,q≤t→t<e→ins u t)∨v=.tuple [i64 0,.bool false]∧¬ins u q) by
  obtain⟨_,_,h,rfl,⟨e,rfl,h2⟩ | ⟨rfl,h2⟩⟩:=h
  ·exact .inl ⟨e,h,h2⟩
  ·exact .inr ⟨h,h2⟩
 refine ic rfl rfl ?_;have hz:=hu.KM;have hf:=hu.kb;simp +contextual (disch:=omega) [-getElem?_pos,wrap64,Y5];refine go_loop (fun i:Nat=>akU q (BZ u.fH) u.fH.length i G) (fun i=>i≤u.fH.length∧∀j,j<i→¬((nth u.fH j).lo<q∧q<(nth u.fH j).hi)) (fun i=>u.fH.length-i) 0 rfl (by simp) ⟨by omega,by omega⟩ ?_
 rintro i ⟨hi,hn⟩;simp +contextual (disch:=omega) [-getElem?_pos,wrap64,Y4];refine bS (fun h4=>?_) (fun h4=>?_)
 ·have h4:i<u.fH.length:=by omega
  have h5:=hz i h4;simp +contextual (disch:=omega) [-getElem?_pos,wrap64,bg (l:=u.fH)];refine gT (fun h6=>?_) (fun h6=>?_)
  ·simp[-List.length_eq_zero_iff,-Int.natCast_eq_zero]at h6
   exact⟨⟨i,h4,by omega,by omega⟩,by omega,by omega,fun t ha hb=>⟨i,h4,by omega,hb⟩⟩
  ·simp[-List.length_eq_zero_iff,-Int.natCast_eq_zero]at h6
   refine bV (i+1) (by simp) ⟨by omega,fun j hj=>?_⟩ (by omega)
   rcases cF j i with h7|h7
   ·have:=hn j h7;omega
   ·obtain rfl:j=i:=by omega
    omega
 ·obtain rfl:i=u.fH.length:=by omega
  rintro⟨j,hj,h5,h6⟩;exact hn j hj ⟨h5,h6⟩
structure Us where
 cg:Int
 since:Int
 out:Bool
 deriving Inhabited,DecidableEq
abbrev Us.row(s:Us):List V:=[i64 s.cg,i64 s.since,.bool s.out]
abbrev us(s:Us):V:=.agg s.row
def o0(u:Un)(q:Int):Prop:=u.least≤q∧q≤u.c9∧¬ins u q
noncomputable instance avX{u:Un}{q:Int}:Decidable (o0 u q):=Classical.propDecidable _
noncomputable instance avY{u:Un}{q:Int}:Decidable (ins u q):=Classical.propDecidable _
theorem Aw{u:Un}(hu:Uv u)(q:Int)(G:List aT):bd F 230 [un u,i64 q] G=some (.bool (decide (o0 u q)),G) :=
 bX rfl rfl (by
  obtain⟨r,h1,h2,h3,h4,_⟩:=Z0 hu q [];have key:decide (o0 u q)=(decide (u.least≤q)&&decide (q≤u.c9)&&decide (r=q)):=by
   rw[Bool.eq_iff_iff];simp only[jA,bQ];constructor
   ·rintro⟨a,b,d⟩
    refine⟨⟨a,b⟩,Decidable.byContradiction fun cf=>d (h4 q (by omega) (by omega))⟩
   ·rintro⟨⟨a,b⟩,rfl⟩
    exact⟨a,b,h3⟩
  rw[key];simp +contextual [wrap64,Zl,h1];refine gT (fun h5=>?_) (fun h5=>?_)
  ·simp +contextual [wrap64,h5,h1]
  ·simp +contextual [wrap64,h5,h1])
theorem yD(u:Un)(q:Int)(G:List aT):bd F 178 [un u,i64 q] G=some (.bool (decide (gV u=0∧o0 u q)),G) :=
 bX rfl rfl (by
  generalize hW:decide (gV u=0∧o0 u q)=W;by_cases hc:gV u=0
  ·simp +contextual [wrap64,PS,nd,hc]
   refine gT (fun h1=>?_) (fun h1=>?_)
   ·simp[-List.length_eq_zero_iff,-Int.natCast_eq_zero]at h1
    rw[←hW,decide_eq_false (fun h=>by have:=h.2.1;have:=h.2.2.1;omega)]
   ·simp[-List.length_eq_zero_iff,-Int.natCast_eq_zero]at h1
    rcases Z1 (pS hc) q []with⟨e,h2,h3,_⟩ | ⟨h2,h3⟩
    ·simp +contextual [wrap64,h2]
     rw[←hW,decide_eq_false (fun h=>h.2.2.2 h3)]
    ·simp +contextual [wrap64,h2]
     rw[←hW,fL ⟨hc,by omega,by omega,h3⟩]
  ·simp +contextual [wrap64,PS,nd,hc]
   rw[←hW,decide_eq_false (fun h=>hc h.1)])
def e7(u:Un)(s:Us):Prop:=gV u=0∧(0≤s.since∧s.since≤1000)∧(s.cg=0∨s.out=false∧o0 u s.cg)
def jN(u:Un)(s:Us)(q:Int):Prop:=if q=0 then (0<s.cg→u.up≤s.since) else s.out=false∧¬(s.cg=0∧s.since<u.down)∧o0 u q
noncomputable instance avZ{u:Un}{s:Us}:Decidable (e7 u s):=Classical.propDecidable _
noncomputable instance av0{u:Un}{s:Us}{q:Int}:Decidable (jN u s q):=Classical.propDecidable _
theorem Qn{u:Un}(hc:gV u=0)(s:Us)(G:List aT):bd F 223 [un u,us s] G=some (.bool (decide (e7 u s)),G) :=
 bX rfl rfl (by
  obtain⟨cg,since,out⟩:=s;generalize hW:decide (e7 u ⟨cg,since,out⟩)=W;have e:e7 u ⟨cg,since,out⟩↔(0≤since∧since≤1000)∧(cg=0∨out=false∧o0 u cg):=by simp[e7,hc]
  by_cases h1:0≤since∧since≤1000
  ·by_cases h2:cg=0
   ·simp[wrap64,Hh,dD,Aw (pS hc),h1.1,h1.2,h2]
    rw[←hW,fL (e.2 ⟨h1,.inl h2⟩)]
   ·cases out with
    |true =>
     simp[wrap64,Hh,dD,Aw (pS hc),h1.1,h1.2,h2];rw[←hW,decide_eq_false (fun h=>by have:=(e.1 h).2;simp[h2]at this)]
    |false =>
     simp[wrap64,Hh,dD,Aw (pS hc),h1.1,h1.2,h2];rw[←hW];simp[e,h1,h2]
  ·have h3:(decide (0≤since)&&decide (since≤1000))=false:=by simp;omega
   simp[wrap64,Hh,dD,Aw (pS hc),h3];rw[←hW,decide_eq_false (fun h=>h1 (e.1 h).1)])
theorem Ax(u:Un)(s:Us)(G:List aT):bd F 216 [un u,us s] G=some (.bool (decide (e7 u s)),G) :=
 bX rfl rfl (by
  generalize hW:decide (e7 u s)=W;by_cases hc:gV u=0
  ·simp[wrap64,P2,sE,hc,Qn hc]
   exact hW
  ·simp[wrap64,P2,sE,hc]
   rw[←hW,decide_eq_false (fun h=>hc h.1)])
theorem w9(u:Un)(s:Us)(G:List aT):bd F 135 [un u,us s] G=some (.bool (decide (e7 u s)),G) :=
 bX rfl rfl (by
  obtain⟨cg,since,out⟩:=s;generalize hW:decide (e7 u ⟨cg,since,out⟩)=W;by_cases hc:gV u=0
  ·have e:e7 u ⟨cg,since,out⟩↔(0≤since∧since≤1000)∧(cg=0∨out=false∧o0 u cg):=by simp[e7,hc]
   by_cases h1:0≤since∧since≤1000
   ·by_cases h2:cg=0
    ·simp[wrap64,DW,nd,cV,yD,hc,h1.1,h1.2,h2]
     rw[←hW,fL (e.2 ⟨h1,.inl h2⟩)]
    ·by_cases h3:o0 u cg
     ·simp[wrap64,DW,nd,cV,yD,hc,h1.1,h1.2,h2,h3]
      rw[←hW];simp[e,h1,h2,h3]
     ·simp[wrap64,DW,nd,cV,yD,hc,h1.1,h1.2,h2,h3]
      rw[←hW];simp[e,h1,h2,h3]
   ·have h3:(decide (0≤since)&&decide (since≤1000))=false:=by simp;omega
    simp[wrap64,DW,nd,cV,yD,hc,h3];rw[←hW,decide_eq_false (fun h=>h1 (e.1 h).1)]
  ·simp[wrap64,DW,nd,hc]
   rw[←hW,decide_eq_false (fun h=>hc h.1)])
theorem KN{u:Un}(hc:gV u=0){q:Int}(h:o0 u q):1≤q:=by have:=(pS hc).least;have:=h.1;omega
theorem Qo{u:Un}{s:Us}(hv:e7 u s)(q:Int)(G:List aT):bd F 248 [un u,us s,i64 q] G=some (.bool (decide (jN u s q)),G) :=
 bX rfl rfl (by
  obtain⟨hc,h1,h2⟩:=hv;obtain⟨cg,since,out⟩:=s;simp only at h1 h2;generalize hW:decide (jN u ⟨cg,since,out⟩ q)=W;simp only[jN]at hW;by_cases h3:q=0
  ·subst h3
   by_cases h4:0<cg
   ·simp[wrap64,BV,h4]
    rw[←hW];simp[h4]
   ·simp[wrap64,BV,h4]
    rw[←hW];simp[h4]
  ·simp only[h3,if_false]at hW
   cases out with
   |true =>
    simp[wrap64,BV,h3];rw[←hW];simp
   |false =>
    by_cases h5:cg=0
    ·by_cases h6:since<u.down
     ·simp[wrap64,BV,h3,h5,h6]
      rw[←hW];simp[h5];omega
     ·simp[wrap64,BV,h3,h5,h6,Aw (pS hc)]
      rw[←hW];simp[h5];omega
    ·simp[wrap64,BV,h3,h5,Aw (pS hc)]
     rw[←hW];simp[h5])
theorem ama(u:Un)(s:Us)(q:Int)(G:List aT):bd F 259 [un u,us s,i64 q] G=some (.bool (decide (e7 u s∧jN u s q)),G) :=
 bX rfl rfl (by
  generalize hW:decide (e7 u s∧jN u s q)=W;by_cases hv:e7 u s
  ·simp[wrap64,Qc,Ax,hv,Qo hv]
   rw[←hW];simp[hv]
  ·simp[wrap64,Qc,Ax,hv]
   rw[←hW];simp[hv])
theorem Qp(u:Un)(s:Us)(q:Int)(G:List aT):bd F 183 [un u,us s,i64 q] G=some (.bool (decide (e7 u s∧jN u s q)),G) :=
 bX rfl rfl (by
  generalize hW:decide (e7 u s∧jN u s q)=W;have hV:=w9 u s [];by_cases hv:e7 u s
  ·obtain⟨hc,h1,h2⟩:=id hv
   obtain⟨cg,since,out⟩:=s;simp only[hv,decide_true]at hV;simp only at h1 h2;simp only[jN]at hW;have hf:cg=0∨0<cg:=by
    rcases h2 with h | ⟨_,h⟩
    ·exact .inl h
    ·have:=KN hc h;omega
   by_cases h3:q=0
   ·subst h3
    by_cases h4:0<cg
    ·simp +contextual [wrap64,Aq,hV,h4]
     rw[←hW];simp[h4,hv]
    ·simp +contextual [wrap64,Aq,hV,h4]
     rw[←hW];simp[h4,hv]
   ·simp only[h3,if_false]at hW
    cases out with
    |true =>
     simp +contextual [wrap64,Aq,hV,h3];rw[←hW];simp
    |false =>
     by_cases h5:o0 u q
     ·have h6:=KN hc h5
      have h8:0<q:=by omega
      rcases hf with h7|h7
      ·subst h7
       simp +contextual [wrap64,Aq,hV,h3,yD,hc,h5,h8];rw[←hW];simp[hv,h5]
      ·have h9:¬cg=0:=by omega
       simp +contextual [wrap64,Aq,hV,h3,yD,hc,h5,h8,h7,h9];rw[←hW];simp[hv,h5,h9]
     ·simp +contextual [wrap64,Aq,hV,h3,yD,hc,h5]
      rw[←hW];simp[h5]
  ·simp +contextual [wrap64,Aq,hV,hv]
   rw[←hW];simp[hv])
noncomputable def xa(u:Un)(q:Int):Int:=if gV u≠0 then gV u else if q=0∨o0 u q then 0 else 1
noncomputable def pow(u:Un)(q:Int):Int:=if gV u=0∧q≠0∧o0 u q then ig u.table q else 0
theorem Ho(u:Un)(q:Int)(G:List aT):bd F 235 [un u,i64 q] G=some (.tuple [i64 (pow u q),i64 (xa u q)],G) :=
 bX rfl rfl (by
  by_cases hc:gV u=0
  ·by_cases h1:q=0
   ·simp[wrap64,Hj,sE,hc,h1]
    simp[pow,xa,hc]
   ·by_cases h2:o0 u q
    ·simp[wrap64,Hj,sE,hc,h1,Aw (pS hc),h2,KK (pS hc).cv]
     simp[pow,xa,hc,h1,h2]
    ·simp[wrap64,Hj,sE,hc,h1,Aw (pS hc),h2]
     simp[pow,xa,hc,h1,h2]
  ·simp[wrap64,Hj,sE,hc]
   simp[pow,xa,hc])
theorem Qq(u:Un)(q:Int)(G:List aT):bd F 182 [un u,i64 q] G=some (.tuple [i64 (pow u q),i64 (xa u q)],G) :=
 bX rfl rfl (by
  by_cases hc:gV u=0
  ·by_cases h1:q=0
   ·simp[wrap64,Hf,nd,hc,h1]
    simp[pow,xa,hc]
   ·by_cases h2:o0 u q
    ·simp[wrap64,Hf,nd,hc,h1,yD,h2,Qk,(pS hc).lz]
     simp[pow,xa,hc,h1,h2]
    ·simp[wrap64,Hf,nd,hc,h1,yD,h2]
     simp[pow,xa,hc,h1,h2]
  ·simp[wrap64,Hf,nd,hc]
   simp[pow,xa,hc])
noncomputable def sG(u:Un)(s:Us)(q:Int):Int:=if gV u≠0 then gV u else if ¬e7 u s then 3 else if ¬jN u s q then 15 else 0
def sH(s:Us)(q:Int):Us:=⟨q,if decide (0<s.cg)=decide (0<q) then min 1000 (s.since+1) else 1,s.out⟩
theorem Qr(u:Un)(s:Us)(q:Int)(G:List aT):bd F 146 [un u,us s,i64 q] G =
  some (.tuple (if sG u s q=0 then [us (sH s q),.bool (decide (s.cg=0)&&decide (0<q)),i64 0] else [us ⟨0,0,false⟩,.bool false,i64 (sG u s q)]),G) :=
 bX rfl rfl (by
  by_cases hc:gV u=0
  ·by_cases hv:e7 u s
   ·by_cases hm:jN u s q
    ·have h1:=hv.2.1
     simp +contextual (disch:=omega) [wrap64,Hb,nd,w9,Qp,hc,hv,hm];have e:sG u s q=0:=by simp[sG,hc,hv,hm]
     refine gT (fun h=>?_) (fun h=>?_)
     ·simp at h
      simp[e,sH,h]
     ·simp at h
      simp[e,sH,h]
    ·simp +contextual (disch:=omega) [wrap64,Hb,nd,w9,Qp,hc,hv,hm]
     simp[sG,hc,hv,hm]
   ·simp +contextual (disch:=omega) [wrap64,Hb,nd,w9,hc,hv]
    simp[sG,hc,hv]
  ·simp +contextual (disch:=omega) [wrap64,Hb,nd,hc]
   simp[sG,hc])
noncomputable def fe(u:Un)(g:Int):List Int:=((List.range ((u.c9 / g).toNat+1)).map fun k:Nat=>(k:Int)*g).filter fun q=>decide (o0 u q)
noncomputable def below(u:Un)(g t:Int):List Int:=(fe u g).filter fun q=>decide (q<t)
theorem Ay{u:Un}(hu:Uv u){g:Int}(hg:1≤g){q:Int}:q∈fe u g↔o0 u q∧∃k:Nat,q=k*g:=by
 simp only[fe,xt,lV,AX,jA];constructor
 ·rintro⟨⟨k,_,rfl⟩,h⟩
  exact⟨h,k,rfl⟩
 ·rintro⟨h,k,rfl⟩
  refine⟨⟨k,?_,rfl⟩,h⟩;have h1:=h.2.1;have:(k:Int)≤u.c9 / g:=(L9 (by omega)).2 h1
  omega
theorem amb{u:Un}{g:Int}(hg:1≤g):(fe u g).Pairwise (· < ·):=by
 refine List.Pairwise.filter _ ?_;rw[SN];refine List.Pairwise.imp ?_ (List.pairwise_lt_range);intro a b rh;exact Int.mul_lt_mul_of_pos_right (by omega) (by omega)
theorem Z2{q:Int}:∀{l:List Int},l.Pairwise (· < ·)→q∈l→l.filter (fun x=>decide (x<q+1))=l.filter (fun x=>decide (x<q))++[q]
 |[],_,h=>by simp at h
 |a::l,hp,h=>by
  obtain⟨h1,h2⟩:=wD.1 hp;rcases ko.1 h with rfl|h3
  ·have e:∀t,t≤q+1→l.filter (fun x=>decide (x<t))=[]:=fun t ht=>by
    rw[SE];intro b hb;have:=h1 b hb;simp;omega
   have h3:q<q+1:=by omega
   have h4:¬ q<q:=by omega
   simp[h3,e (q+1) (by omega),e q (by omega)]
  ·have:=h1 q h3
   have h4:a<q:=this;have h5:a<q+1:=by omega
   simp[h4,h5,Z2 h2 h3]
theorem Qs{u:Un}{g q:Int}(hg:1≤g)(h:q∈fe u g):below u g (q+1)=below u g q++[q]:=Z2 (amb hg) h
theorem Qt{u:Un}{g t t':Int}(h:∀q∈fe u g,t≤q→q<t'→False)(hle:t≤t'):below u g t=below u g t':=by
 refine SD fun q hq=>?_;have:=h q hq;by_cases h1:q<t
 ·have:q<t':=by omega
  simp[h1,this]
 ·have h2:¬ q<t':=fun h2=>this (by omega) h2
  simp[h1,h2]
theorem Z3{u:Un}{g t:Int}(h:∀q∈fe u g,q<t):below u g t=fe u g:=by
 refine Iw.2 fun q hq=>?_;simp[h q hq]
theorem Qu{u:Un}{g t:Int}(h:t≤u.least):below u g t=[]:=by
 refine SE.2 fun q hq=>?_;simp only[fe,xt,jA]at hq;have:=hq.2.1;simp;omega
theorem Z4{u:Un}{g q:Int}(hg:1≤g)(h:q∈fe u g):(below u g q).length<(fe u g).length:=by
 have h1:=Qs hg h;have h2:(below u g (q+1)).length≤(fe u g).length:=CH _ _;rw[h1]at h2;simp at h2;omega
def uH(q g:Int):Int:=(q+g-1).tdiv g*g
theorem KO{q g:Int}(hq:0≤q)(hg:1≤g):q≤uH q g∧uH q g≤q+g-1∧(∃k:Nat,uH q g=k*g)∧∀k:Nat,q≤k*g→uH q g≤k*g:=by
 unfold uH;rw[zA (by omega)]
 have h1:=Int.ediv_mul_le (q+g-1) (b:=g) (by omega)
 have h2:=Int.lt_ediv_add_one_mul_self (q+g-1) (b:=g) (by omega)
 have h3:0≤(q+g-1) / g:=EG (by omega) (by omega)
 rw[Ik,Mc]at h2;refine⟨by omega,h1,⟨((q+g-1) / g).toNat,by rw[Sy h3]⟩,fun k hk=>?_⟩
 refine AQ ?_ (by omega)
 refine Is.1 fun h4=>?_;have h5:((k:Int)+1)*g≤(q+g-1) / g*g:=AQ (by omega) (by omega)
 rw[Ik,Mc]at h5;omega
theorem Qv{u:Un}(hu:Uv u){g q:Int}(hq:0≤q)(hg:1≤g):below u g q=below u g (uH q g):=by
 obtain⟨h1,_,_,h4⟩:=KO hq hg;refine Qt (fun x hx a b=>?_) h1;obtain⟨_,k,rfl⟩:=(Ay hu hg).1 hx;have:=h4 k a;omega
theorem Z5{u:Un}(hu:Uv u){g q r:Int}(hg:1≤g)(h:∀t,q≤t→t<r→ins u t)(hle:q≤r):below u g q=below u g r :=
 Qt (fun x hx a b=>((Ay hu hg).1 hx).1.2.2 (h x a b)) hle
theorem amc{u:Un}(hu:Uv u){g q:Int}(hg:1≤g)(hq:∃k:Nat,q=k*g):below u g (q+1)=below u g (q+g):=by
 refine Qt (fun x hx a b=>?_) (by omega)
 obtain⟨_,k,rfl⟩:=(Ay hu hg).1 hx;obtain⟨m,rfl⟩:=hq;have h1:(m:Int)<k:=by
  refine Int.not_le.1 fun h=>?_;have:=AQ h (show 0≤g by omega)
  omega
 have h2:((m:Int)+1)*g≤k*g:=AQ (by omega) (by omega)
 rw[Ik,Mc]at h2;omega
noncomputable def gC(u:Un)(g:Int):Int:=if gV u≠0 then gV u else if g<1∨1073741824<g then 1 else if 200<(fe u g).length then 10 else 0
noncomputable def nL(u:Un)(g:Int):List Int:=if gC u g=0 then fe u g else []
abbrev own(l:List Int):V:=.slice (some 0) 1 (l.map fun n=>[i64 n])
theorem Qw(u:Un)(g:Int)(G:List aT):bd F 256 [un u,i64 g] G=some (.tuple [own (nL u g),i64 (gC u g)],G) :=
 bX rfl rfl (by
  by_cases hc:gV u=0
  ·simp +contextual (disch:=omega) [wrap64,Qb,sE,hc]
   refine gT (fun h1=>?_) (fun h1=>?_)
   ·simp[-List.length_eq_zero_iff,-Int.natCast_eq_zero]at h1
    have e:gC u g=1:=by simp[gC,hc,h1]
    simp[nL,e]
   ·simp[-List.length_eq_zero_iff,-Int.natCast_eq_zero]at h1
    have hu:=pS hc;have m1:=hu.least;have m2:=hu.c9;have m3:=hu.Qm;have hg:1≤g:=h1.1;refine go_loop (fun f:Int=>alI g (.slice (some 1049) 1 ((below u g f).map fun n=>[i64 n])) f u.row (below u g f).length G) (fun f=>u.least≤f∧f≤1073741825∧(below u g f).length≤200) (fun f=>(1073741826-f).toNat) u.least rfl (by simp[Qu]) (by simp[Qu];omega) ?_
    rintro f ⟨Gd,vO,Ge⟩;obtain⟨r1,r2,r3,r4⟩:=KO (q:=f) (g:=g) (by omega) hg
    have r5:=Qv hu (q:=f) (g:=g) (by omega) hg
    have r6:(f+g-1).tdiv g*g=uH f g:=rfl;have d1:0≤(f+g-1).tdiv g:=xo (by omega) (by omega)
    have d2:(f+g-1).tdiv g≤f+g-1:=by
     have:=AR (a:=f+g-1) g (by omega)
     omega
    have g0:¬g=0:=by omega
    generalize uH f g=Z at r1 r2 r3 r4 r5 r6;simp +contextual (disch:=omega) [wrap64,ZL,g0,r6];refine bS (fun h2=>?_) (fun h2=>?_)
    ·have hb:below u g f=fe u g:=Z3 fun q hq=>by
      rw[Ay hu hg]at hq;obtain⟨hq,k,rfl⟩:=hq;have:=hq.2.1;refine Int.not_le.1 fun h=>?_;have:=r4 k h;omega
     have e:gC u g=0:=by simp[gC,hc];rw[hb]at Ge;omega
     rw[hb];simp[nL,e]
    ·obtain⟨r,s1,s2,s3,s4,s5⟩:=Z0 hu Z []
     simp +contextual (disch:=omega) [wrap64,s1];refine gT (fun h3=>?_) (fun h3=>?_)
     ·simp[-List.length_eq_zero_iff,-Int.natCast_eq_zero]at h3
      have hb:below u g f=below u g r:=by rw[r5,Z5 hu hg s4 s2]
      refine bV r (by rw[hb];simp) ⟨by omega,by omega,by rwa [←hb]⟩ (by omega)
     ·simp[-List.length_eq_zero_iff,-Int.natCast_eq_zero]at h3
      subst h3;have hm:r∈fe u g:=(Ay hu hg).2 ⟨⟨by omega,by omega,s3⟩,r3⟩
      have hb:below u g (r+1)=below u g f++[r]:=by rw[r5,Qs hg hm]
      refine bS (fun h4=>?_) (fun h4=>?_)
      ·have:=Z4 hg hm
       have e:gC u g=10:=by
        simp only[gC,hc,ne_eq,not_true,if_false];rw[aA (by omega),aP (by rw[←r5]at this;omega)]
       simp[nL,e]
      ·refine bV (r+1) (by rw[hb];simp) ⟨by omega,by omega,by rw[hb];simp;omega⟩ (by omega)
  ·have e:gC u g=gV u:=by simp[gC,hc]
   simp +contextual (disch:=omega) [wrap64,Qb,sE,hc];simp[nL,e,hc])
theorem D1(u:Un)(g:Int)(G:List aT):bd F 194 [un u,i64 g] G=some (.tuple [own (nL u g),i64 (gC u g)],G) :=
 bX rfl rfl (by
  by_cases hc:gV u=0
  ·simp +contextual (disch:=omega) [wrap64,PU,nd,hc]
   refine gT (fun h1=>?_) (fun h1=>?_)
   ·simp[-List.length_eq_zero_iff,-Int.natCast_eq_zero]at h1
    have e:gC u g=1:=by simp[gC,hc,h1]
    simp[nL,e]
   ·simp[-List.length_eq_zero_iff,-Int.natCast_eq_zero]at h1
    have hu:=pS hc;have m1:=hu.least;have m2:=hu.c9;have m3:=hu.Qm;have hg:1≤g:=h1.1;have g0:¬g=0:=by omega
    obtain⟨r1,r2,r3,r4⟩:=KO (q:=u.least) (g:=g) (by omega) hg
    have r5:=Qv hu (q:=u.least) (g:=g) (by omega) hg
    have r6:(u.least+g-1).tdiv g*g=uH u.least g:=rfl;have d1:0≤(u.least+g-1).tdiv g:=xo (by omega) (by omega)
    have d2:(u.least+g-1).tdiv g≤u.least+g-1:=by
     have:=AR (a:=u.least+g-1) g (by omega)
     omega
    rw[Qu (by omega)]at r5
    generalize uH u.least g=Z at r1 r2 r3 r4 r5 r6;simp +contextual (disch:=omega) [wrap64,g0,r6];refine go_loop (fun f:Int=>akG g (.slice (some 1056) 1 ((below u g f).map fun n=>[i64 n])) f u.row (below u g f).length G) (fun f=>u.least≤f∧f≤2147483648∧(∃k:Nat,f=k*g)∧(below u g f).length≤200) (fun f=>(2147483649-f).toNat) Z rfl (by simp[←r5]) ⟨by omega,by omega,r3,by rw[←r5];simp⟩ ?_
    rintro f ⟨Gd,vO,hf4,Ge⟩;simp +contextual (disch:=omega) [wrap64,YR];refine bS (fun h2=>?_) (fun h2=>?_)
    ·rcases Z1 hu f []with⟨e,s1,s2,s3,s4,s5⟩ | ⟨s1,s2⟩
     ·obtain⟨p1,p2,p3,p4⟩:=KO (q:=e) (g:=g) (by omega) hg
      have p5:=Qv hu (q:=e) (g:=g) (by omega) hg
      have p6:(e+g-1).tdiv g*g=uH e g:=rfl;have t1:0≤(e+g-1).tdiv g:=xo (by omega) (by omega)
      have t2:(e+g-1).tdiv g≤e+g-1:=by
       have:=AR (a:=e+g-1) g (by omega)
       omega
      generalize uH e g=E at p1 p2 p3 p4 p5 p6;simp +contextual (disch:=omega) [wrap64,s1,g0,p6];have hb:below u g f=below u g E:=by rw[←p5];exact Z5 hu hg s5 (by omega)
      exact bV E (by rw[hb];simp) ⟨by omega,by omega,p3,by rwa [←hb]⟩ (by omega)
     ·have hm:f∈fe u g↔u.least≤f:=by
       rw[Ay hu hg];exact⟨fun h=>h.1.1,fun h=>⟨⟨h,by omega,s2⟩,hf4⟩⟩
      have hm:=hm.2 Gd;have hb:below u g (f+g)=below u g f++[f]:=by rw[←amc hu hg hf4,Qs hg hm]
      simp +contextual (disch:=omega) [wrap64,s1];refine bS (fun h4=>?_) (fun h4=>?_)
      ·have:=Z4 hg hm
       have e:gC u g=10:=by
        simp only[gC,hc,ne_eq,not_true,if_false];rw[aA (by omega),aP (by omega)]
       simp[nL,e]
      ·refine bV (f+g) (by rw[hb];simp) ⟨by omega,by omega,?_,by rw[hb];simp;omega⟩ (by omega)
       obtain⟨k,hk⟩:=hf4;exact⟨k+1,by rw[hk];simp[Ik]⟩
    ·have hb:below u g f=fe u g:=Z3 fun q hq=>by
      rw[Ay hu hg]at hq;have:=hq.1.2.1;omega
     have e:gC u g=0:=by simp[gC,hc];rw[hb]at Ge;omega
     rw[hb];simp[nL,e]
  ·have e:gC u g=gV u:=by simp[gC,hc]
   simp +contextual (disch:=omega) [wrap64,PU,nd,hc];simp[nL,e,hc])
theorem iS{α:Type}[Inhabited α]{l:List α}{a:α}{i:Nat}:nth (l++[a]) i=if i<l.length then nth l i else if i=l.length then a else default:=by
 simp only[nth,List.getD,pj];split
 ·rfl
 ·split
  ·rename_i h;subst h;simp
  ·rename_i h1 h2
   rw[kF (by simp;omega)]
   rfl
structure Cw(c:List Pt)(x y dx dy least:Int):Prop where
 pos:0<c.length
 kb:c.length≤5
 first:nth c 0=⟨x,y⟩
 step:∀i,0<i→i<c.length→((nth c (i-1)).x<(nth c i).x∧(nth c i).x≤(nth c (i-1)).x+dx)∧(nth c (i-1)).y+least≤(nth c i).y∧(nth c i).y≤(nth c (i-1)).y+dy
theorem Cw.up{c:List Pt}{x y dx dy least:Int}(h:Cw c x y dx dy least)(h0:0≤x∧x≤1000)(h1:0≤y∧y≤1000)(h2:0≤dx∧dx≤1000)(h3:0≤dy∧dy≤1000)(h4:0≤least) :
  ∀i:Nat,i<c.length→(0≤(nth c i).x∧(nth c i).x≤1000+1000*(i:Int))∧0≤(nth c i).y∧(nth c i).y≤1000+1000*(i:Int):=by
 intro i;induction i with
 |zero=>intro hi;have:=h.first;rw[this];simp;omega
 |succ i ih =>
  intro hi;have a:=ih (by omega)
  have b:=h.step (i+1) (by omega) hi
  simp only[qC]at b;omega
theorem Cw.lz{c:List Pt}{x y dx dy least:Int}(h:Cw c x y dx dy least)(h0:0≤x∧x≤1000)(h1:0≤y∧y≤1000)(h2:0≤dx∧dx≤1000)(h3:0≤dy∧dy≤1000)(h4:0≤least):fW c=0:=by
 have hp:=h.pos;have hf:=h.kb;unfold fW;rw[aA (by omega),aA (by omega)]
 refine qY fun i _ hi=>?_;have a:=h.up h0 h1 h2 h3 h4 i (by omega)
 unfold g6;rw[aA (by omega)]
 split
 ·rfl
 ·have b:=h.step i (by omega) (by omega)
  rw[aA (by omega),aA]
  rw[zA (by omega)]
  generalize hu:(nth c i).x-(nth c (i-1)).x=u;generalize hv:(nth c i).y-(nth c (i-1)).y=v;refine Is.2 ((L9 (by omega)).2 ?_)
  have:v*u≤1000*1000:=EJ (by omega) (by omega) (by omega) (by omega)
  omega
abbrev opts(c:List Pt):V:=.slice (some 0) 2 (c.map Pt.row)
theorem Qx{l:List Int}{k:Nat}(hd:dA l k){x y dx dy:Int}(strict:Bool)(h0:0≤x∧x≤1000)(h1:0≤y∧y≤1000)(h2:1≤dx∧dx≤1000)(h3:1≤dy∧dy≤1000) :
  ∃c k',bd F 158 [.bI 0 0,i64 x,i64 y,i64 dx,i64 dy,.bool strict] [dk l k]=some (opts c,[dk l k'])∧dA l k'∧2≤c.length∧Cw c x y dx dy (if strict then 1 else 0):=by
 suffices h:gU (bd F) 158 [.bI 0 0,i64 x,i64 y,i64 dx,i64 dy,.bool strict] [dk l k] fun v G=>∃c k',v=opts c∧G=[dk l k']∧dA l k'∧2≤c.length∧Cw c x y dx dy (if strict then 1 else 0) by
  obtain⟨_,_,h,c,k',rfl,rfl,h1⟩:=h;exact⟨c,k',h,h1⟩
 generalize hL:(if strict then 1 else 0:Int)=L
 have hL1:0≤L∧L≤1:=by rw[←hL];cases strict<;>simp
 refine ic rfl rfl ?_;obtain⟨a,k1,n1,jq,ha⟩:=gB hd 4 (by omega)
 have main:∀K:cB,(∀c k',dA l k'→2≤c.length→Cw c x y dx dy L→∀z,K (.exit 0) ⟨[(0,.bI 0 0),(1,i64 (nth c (c.length-1)).x),(2,i64 (nth c (c.length-1)).y),(3,i64 dx),(4,i64 dy),(13,i64 L),(14,.slice (some 1020) 2 (c.map Pt.row)),(15,i64 0),(25,z)],[],[(1020,c.length)],[dk l k']⟩) →
   go (bd F) Yw (Yx (.bI 0 0) x y dx dy L (.slice (some 1020) 2 [Pt.row ⟨x,y⟩]) (1+a) 1 [dk l k1]) K:=by
  intro K hK;refine go_loop (fun s:List Pt×Int×Nat=>Yx (.bI 0 0) (nth s.1 (s.1.length-1)).x (nth s.1 (s.1.length-1)).y dx dy L (.slice (some 1020) 2 (s.1.map Pt.row)) s.2.1 s.1.length [dk l s.2.2])
   (fun s=>Cw s.1 x y dx dy L∧(0<s.2.1∨2≤s.1.length)∧0≤s.2.1∧(s.1.length:Int)+s.2.1≤5∧dA l s.2.2) (fun s=>s.2.1.toNat) ([⟨x,y⟩],1+a,k1) rfl (by simp[nth]) ⟨⟨by simp,by simp,rfl,fun i a b=>by simp at b;omega⟩,by simp;omega,by simp;omega,by simp;omega,jq⟩ ?_
  rintro⟨c,m,k⟩ ⟨hc,B0,hm2,KP,hd⟩;simp only at hc B0 hm2 KP hd;have hp:=hc.pos;have hu:=hc.up h0 h1 ⟨by omega,h2.2⟩ ⟨by omega,h3.2⟩ hL1.1 (c.length-1) (by omega)
  obtain⟨p,k2,n2,fG,hp2⟩:=gB hd dx (by omega)
  obtain⟨q,k3,n3,mM,hq⟩:=gB fG dy (by omega)
  simp (disch:=omega) [wrap64,Yv];refine bS (fun h4=>?_) (fun h4=>?_)
  ·simp (disch:=omega) [wrap64,n2,n3]
   refine bV (c++[⟨(nth c (c.length-1)).x+1+p,(nth c (c.length-1)).y+L+q⟩],m-1,k3) (by simp[iS]) ⟨⟨by simp,by simp;omega,?_,fun i hi hj=>?_⟩,by simp;omega,by simp;omega,by simp;omega,mM⟩ (by simp;omega)
   ·rw[iS,aP hp];exact hc.first
   ·simp at hj
    rw[iS,iS];by_cases sI:i<c.length
    ·rw[aP (by omega),aP (by omega)]
     exact hc.step i hi sI
    ·obtain rfl:i=c.length:=by omega
     rw[aP (by omega),aA (by omega),aP rfl]
     simp only;omega
  ·obtain rfl:m=0:=by omega
   exact hK c k hd (by omega) hc _
 cases strict with
 |true =>
  simp at hL;subst hL;simp (disch:=omega) [wrap64,PN,n1];refine main _ fun c k' q1 q2 q3 z=>?_;simp (disch:=omega) [wrap64,wrap64];exact⟨c,rfl,k',rfl,q1,q2,q3⟩
 |false =>
  simp at hL;subst hL;simp (disch:=omega) [wrap64,PN,n1];refine main _ fun c k' q1 q2 q3 z=>?_;simp (disch:=omega) [wrap64,wrap64];exact⟨c,rfl,k',rfl,q1,q2,q3⟩
structure Uw(u:Un):Prop where
 table:Cw u.table 0 0 10 30 0
 two:2≤u.table.length
 least:1≤u.least∧u.least≤8
 c9:u.least≤u.c9∧u.c9≤19
 kb:u.fH.length≤2
 KM:∀i,i<u.fH.length→(0≤(nth u.fH i).lo∧(nth u.fH i).hi≤20)∧(nth u.fH i).lo<(nth u.fH i).hi
 up:0≤u.up∧u.up≤2
 down:0≤u.down∧u.down≤2
theorem Uw.lz{u:Un}(h:Uw u):gV u=0:=by
 have c:=h.table.lz (by omega) (by omega) (by omega) (by omega) (by omega)
 have hp:=h.table.pos;have hf:=h.table.kb;have hu:=h.table.up (by omega) (by omega) (by omega) (by omega) (by omega) (u.table.length-1) (by omega)
 have a1:=h.least;have a2:=h.c9;have a3:=h.kb;have a4:=h.up;have a5:=h.down;have z:dI (kQ u.fH) u.fH.length 0=0:=qY fun i _ hi=>by
  have:=h.KM i (by omega)
  rw[kQ,aA (by omega),aA (by omega)]
 unfold gV;rw[aA (by omega),aA (by omega),aA (by omega),aA (by omega),aA (by omega),aA (by omega)]
abbrev Z9(u:Un):V:=.agg [iA u.table,i64 u.least,i64 u.c9,.slice (some 0) 2 (u.fH.map Bd.row),i64 u.up,i64 u.down]
theorem amf{l:List Int}{k:Nat}(hd:dA l k):∃u k',bd F 159 [.bI 0 0] [dk l k]=some (Z9 u,[dk l k'])∧dA l k'∧Uw u:=by
 suffices h:gU (bd F) 159 [.bI 0 0] [dk l k] fun v G=>∃u k',v=Z9 u∧G=[dk l k']∧dA l k'∧Uw u by
  obtain⟨_,_,h,u,k',rfl,rfl,h1⟩:=h;exact⟨u,k',h,h1⟩
 refine ic rfl rfl ?_;obtain⟨c,k1,n1,jq,FG,hc⟩:=Qx hd (x:=0) (y:=0) (dx:=10) (dy:=30) false (by omega) (by omega) (by omega) (by omega)
 obtain⟨a1,k2,n2,fG,Qy⟩:=gB jq 8 (by omega)
 obtain⟨a2,k3,n3,mM,Qz⟩:=gB fG 3 (by omega)
 obtain⟨a3,k4,n4,sJ,ha3⟩:=gB mM 3 (by omega)
 obtain⟨a4,k5,n5,Hp,ha4⟩:=gB sJ 12 (by omega)
 obtain⟨a5,k6,n6,Hq,ha5⟩:=gB Hp 3 (by omega)
 simp (disch:=omega) [wrap64,Yz,n1,n2,n3,n4,n5,n6];refine go_loop (fun s:List Bd×Int×Nat=>akq (.bI 0 0) s.2.1 [.b9,i64 0,i64 0,.b9,i64 0,i64 0] [iA c,i64 (1+a1),i64 (1+a1+a4),.slice (some 1040) 2 (s.1.map Bd.row),i64 a2,i64 a3] s.1.length [dk l s.2.2])
  (fun s=>(∀i,i<s.1.length→(0≤(nth s.1 i).lo∧(nth s.1 i).hi≤20)∧(nth s.1 i).lo<(nth s.1 i).hi)∧0≤s.2.1∧(s.1.length:Int)+s.2.1≤2∧dA l s.2.2) (fun s=>s.2.1.toNat) ([],a5,k6) rfl (by simp) ⟨fun i h=>by simp at h,by simp;omega,by simp;omega,Hq⟩ ?_
 rintro⟨z,m,k⟩ ⟨hz,B0,hm2,hd⟩;simp only at hz B0 hm2 hd;obtain⟨b1,k7,n7,hd7,hb1⟩:=gB hd 16 (by omega)
 obtain⟨b2,k8,n8,hd8,Am⟩:=gB hd7 5 (by omega)
 simp (disch:=omega) [wrap64,Yy];refine bS (fun h4=>?_) (fun h4=>?_)
 ·simp (disch:=omega) [wrap64,n7,n8]
  refine bV (z++[⟨b1,b1+1+b2⟩],m-1,k8) (by simp) ⟨fun i hi=>?_,by simp;omega,by simp;omega,hd8⟩ (by simp;omega)
  simp at hi;rw[iS];split
  ·exact hz i (by assumption)
  ·rw[aP (by omega)]
   simp only;omega
 ·refine⟨⟨c,1+a1,1+a1+a4,z,a2,a3⟩,⟨rfl,rfl,rfl,rfl,rfl,rfl⟩,k,rfl,hd,?_⟩
  exact⟨hc,FG,by simp only;omega,by simp only;omega,by simp only;omega,hz,by simp only;omega,by simp only;omega⟩
theorem aac{u:Un}{g:Int}:(fe u g).length≤(u.c9 / g).toNat+1:=by
 refine jT (CH _ _) ?_;simp
theorem Uw.gC{u:Un}(h:Uw u){g:Int}(h1:1≤g)(h2:g≤1073741824):gC u g=0:=by
 have a:=aac (u:=u) (g:=g);have b:=h.c9;have c:=h.least;have d:u.c9 / g≤u.c9:=Im _ (by omega)
 unfold Go.Proofs.YtcelmhaoipbdiaaGreatDoor.gC;rw[aA (by simp[h.lz]),aA (by omega),aA (by omega)]
theorem ami{l:List Int}{k:Nat}(hd:dA l k){u:Un}(hu:Uw u):∃s k',bd F 160 [.bI 0 0,un u] [dk l k]=some (us s,[dk l k'])∧dA l k'∧e7 u s:=by
 suffices h:∀Q:V→List aT→Prop,(∀s k',dA l k'→e7 u s→Q (us s) [dk l k'])→gU (bd F) 160 [.bI 0 0,un u] [dk l k] Q by
  obtain⟨_,_,h,s,k',rfl,rfl,h1⟩:=h (fun v G=>∃s k',v=us s∧G=[dk l k']∧dA l k'∧e7 u s) fun s k' a b=>⟨s,k',rfl,rfl,a,b⟩;exact⟨s,k',h,h1⟩
 intro Q hQ;refine ic rfl rfl ?_;have hc:=hu.lz;have he:=hu.gC (g:=1) (by omega) (by omega)
 have hf:nL u 1=fe u 1:=by simp[nL,he]
 have D2:=aac (u:=u) (g:=1);have hm:=hu.c9;obtain⟨a1,k1,n1,jq,Qy⟩:=gB hd 5 (by omega)
 obtain⟨a2,k2,n2,fG,Qz⟩:=gB jq 7 (by omega)
 obtain⟨a3,k3,n3,mM,ha3⟩:=gB fG 2 (by omega)
 obtain⟨a4,k4,n4,sJ,ha4⟩:=gB mM (fe u 1).length (by omega)
 have off:∀o,e7 u ⟨0,a1,o⟩:=fun o=>⟨hc,by simp only;omega,.inl rfl⟩
 by_cases h1:0<(fe u 1).length
 ·by_cases h2:a2=6
  ·simp +contextual (disch:=omega) [-getElem?_pos,wrap64,Hd,n1,n2,D1,he,hf,h2]
   exact hQ ⟨0,a1,true⟩ k2 fG (off _)
  ·by_cases h3:a3=0
   ·have h4:a4.toNat<(fe u 1).length:=by omega
    simp +contextual (disch:=omega) [-getElem?_pos,wrap64,Hd,n1,n2,n3,n4,D1,he,hf,h2,h3,h1,dV h4];refine hQ ⟨nth (fe u 1) a4.toNat,a1,false⟩ k4 sJ ⟨hc,by simp only;omega,.inr ⟨rfl,?_⟩⟩
    exact((Ay (pS hc) (by omega)).1 (gH (dV h4))).1
   ·simp +contextual (disch:=omega) [-getElem?_pos,wrap64,Hd,n1,n2,n3,D1,he,hf,h2,h3,h1]
    exact hQ ⟨0,a1,false⟩ k3 mM (off _)
 ·simp +contextual (disch:=omega) [-getElem?_pos,wrap64,Hd,n1,n2,D1,he,hf,h1]
  exact hQ ⟨0,a1,decide (a2=6)⟩ k2 fG (off _)
abbrev kc(l:List Un):V:=.slice none 6 (l.map Un.row)
abbrev jO(l:List Us):V:=.slice none 3 (l.map Us.row)
abbrev QA(l:List Un):V:=.slice (some 0) 6 (l.map Un.row)
abbrev Hr(l:List Us):V:=.slice (some 0) 3 (l.map Us.row)
structure Hs(a:List Un)(b:List Us):Prop where
 len:a.length=b.length
 unit:∀i,i<a.length→Uw (nth a i)
 state:∀i,i<a.length→e7 (nth a i) (nth b i)
theorem amj{l:List Int}{k:Nat}(hd:dA l k){m:Nat}(hm:m≤1000):∃a b k',bd F 119 [.bI 0 0,i64 m] [dk l k]=some (.tuple [QA a,Hr b],[dk l k'])∧dA l k'∧Hs a b∧a.length≤m:=by
 suffices h:∀Q:V→List aT→Prop,(∀a b k',dA l k'→Hs a b→a.length≤m→Q (.tuple [QA a,Hr b]) [dk l k'])→gU (bd F) 119 [.bI 0 0,i64 m] [dk l k] Q by
  obtain⟨_,_,h,a,b,k',rfl,rfl,h1⟩:=h (fun v G=>∃a b k',v=.tuple [QA a,Hr b]∧G=[dk l k']∧dA l k'∧Hs a b∧a.length≤m) fun a b k' h1 h2 h3=>⟨a,b,k',rfl,rfl,h1,h2,h3⟩;exact⟨a,b,k',h,h1⟩
 intro Q hQ;refine ic rfl rfl ?_;obtain⟨n,k1,n1,jq,hn⟩:=gB hd (m+1) (by omega)
 simp (disch:=omega) [wrap64,XQ,n1];refine go_loop (fun s:List Un×List Us×Int×Nat=>ajx (.bI 0 0) (.slice (some 1023) 6 (s.1.map Un.row)) (.slice (some 1029) 3 (s.2.1.map Us.row)) s.2.2.1 s.1.length s.2.1.length [dk l s.2.2.2])
  (fun s=>Hs s.1 s.2.1∧(s.1.length:Int)+s.2.2.1≤m∧0≤s.2.2.1∧dA l s.2.2.2) (fun s=>s.2.2.1.toNat) ([],[],n,k1) rfl (by simp) ⟨⟨rfl,by simp,by simp⟩,by simp;omega,by simp;omega,jq⟩ ?_
 rintro⟨a,b,n,k⟩ ⟨rh,h1,h2,hd⟩;simp only at rh h1 h2 hd;obtain⟨u,k2,n2,fG,hu⟩:=amf hd;obtain⟨s,k3,n3,mM,hs⟩:=ami fG hu;have hl:=rh.len;simp (disch:=omega) [wrap64,XP];refine bS (fun h4=>?_) (fun h4=>?_)
 ·simp (disch:=omega) [wrap64,n2,n3]
  refine bV (a++[u],b++[s],n-1,k3) (by simp) ⟨⟨by simp[hl],fun i hi=>?_,fun i hi=>?_⟩,by simp;omega,by simp;omega,mM⟩ (by simp;omega)
  ·simp at hi
   rw[iS];split
   ·exact rh.unit i (by assumption)
   ·rw[aP (by omega)];exact hu
  ·simp at hi
   rw[iS,iS,← hl];split
   ·exact rh.state i (by assumption)
   ·rw[aP (by omega),aP (by omega)];exact hs
 ·exact hQ a b k hd rh (by omega)
structure Rt where
 lv:Int
 c:List Pt
 deriving Inhabited
abbrev Rt.row(r:Rt):List V:=[i64 r.lv,iA r.c]
abbrev B1(l:List Rt):V:=.slice none 2 (l.map Rt.row)
structure Gt where
 r:List Rt
 c9:Int
 move:Int
 deriving Inhabited
abbrev Gt.row(g:Gt):List V:=[B1 g.r,i64 g.c9,i64 g.move]
abbrev gt(g:Gt):V:=.agg g.row
def oA(l:List Rt)(i:Nat):Int :=
 if ¬(0≤(nth l i).lv∧(nth l i).lv≤16777216) then 1
 else if 0<i∧(nth l i).lv≤(nth l (i-1)).lv then 4
 else if fW (nth l i).c≠0 then fW (nth l i).c
 else if ¬((nth (nth l i).c 0).x=0∧(nth (nth l i).c 0).y=0) then 3
 else if 1073741824<(nth (nth l i).c ((nth l i).c.length-1)).y then 1 else 0
def kd(g:Gt):Int :=
 if g.r.length=0 then 3 else if 10<g.r.length then 10 else if dI (oA g.r) g.r.length 0≠0 then dI (oA g.r) g.r.length 0
 else if ¬((0≤g.c9∧g.c9≤1000)∧0≤g.move∧g.move≤1000) then 1 else 0
theorem AA(g:Gt)(G:List aT):bd F 154 [gt g] G=some (i64 (kd g),G) :=
 bX rfl rfl (by
  obtain⟨l,c9,move⟩:=g;generalize hW:kd ⟨l,c9,move⟩=W;unfold kd at hW;simp only at hW;simp (disch:=omega) [-getElem?_pos,-Int.natCast_eq_zero,wrap64,Yu];refine bS (fun h1=>?_) (fun h1=>bS (fun h2=>?_) (fun h2=>?_))
  ·rw[aP (by omega)]at hW
   exact hW
  ·rw[aA (by omega),aP (by omega)]at hW
   exact hW
  ·rw[aA (by omega),aA (by omega)]at hW
   refine go_loop (fun i:Nat=>akn (B1 l) l.length i [B1 l,i64 c9,i64 move] G) (fun i=>i≤l.length∧dI (oA l) (l.length-i) i=dI (oA l) l.length 0) (fun i=>l.length-i) 0 rfl (by simp) ⟨by omega,rfl⟩ ?_
   rintro i ⟨hi,hq⟩;simp (disch:=omega) [-getElem?_pos,-Int.natCast_eq_zero,wrap64,Yt];refine bS (fun h3=>?_) (fun h3=>?_)
   ·have h3:i<l.length:=by omega
    have h4:((i:Int)-1).toNat=i-1:=by omega
    rw[ly h3]at hq;have stop:oA l i≠0→W=oA l i:=fun h=>by
     rw[aA h]at hq;rw[←hq,aP h]at hW;exact hW.symm
    unfold oA at stop;by_cases a1:0≤(nth l i).lv∧(nth l i).lv≤16777216
    ·have a2:(!decide (0≤(nth l i).lv) || !decide ((nth l i).lv≤16777216))=false:=by simp;omega
     have a3:0<i→0≤(i:Int)-1:=by omega
     have a4:i-1<l.length:=by omega
     rw[aA (by omega)]at stop
     by_cases b1:0<i∧(nth l i).lv≤(nth l (i-1)).lv
     ·rw[aP b1]at stop
      have b2:0<i:=b1.1;have b3:=b1.2;have b4:0≤(i:Int)-1:=by omega
      simp (disch:=omega) [-getElem?_pos,-Int.natCast_eq_zero,wrap64,bg (l:=l),h3,dD,cV,a2,b2,b3,b4,h4,a4];exact(stop (by omega)).symm
     ·rw[aA b1]at stop
      by_cases c1:fW (nth l i).c=0
      ·rw[aA (by omega)]at stop
       have hp:=tB c1;have hfw:=(mf c1).kb;have c2:(((nth l i).c.length:Int)-1).toNat=(nth l i).c.length-1:=by omega
       have c3:(nth l i).c.length-1<(nth l i).c.length:=by omega
       have c4:0≤((nth l i).c.length:Int)-1:=by omega
       by_cases d1:(nth (nth l i).c 0).x=0∧(nth (nth l i).c 0).y=0
       ·rw[aA (by omega)]at stop
        obtain⟨d2,d3⟩:=d1;by_cases e1:1073741824<(nth (nth l i).c ((nth l i).c.length-1)).y
        ·rw[aP e1]at stop
         rcases mw i with b6|b6
         ·subst b6
          simp (disch:=omega) [-getElem?_pos,-Int.natCast_eq_zero,wrap64,bg (l:=l),h3,dD,cV,nK,lP,a2,c1,V.iu,eA,jU,bg (l:=(nth l 0).c),hp,c2,c3,c4,d2,d3,e1];exact(stop (by omega)).symm
         ·have b7:¬ (nth l i).lv≤(nth l (i-1)).lv:=fun h=>b1 ⟨b6,h⟩
          have b4:0≤(i:Int)-1:=by omega
          simp (disch:=omega) [-getElem?_pos,-Int.natCast_eq_zero,wrap64,bg (l:=l),h3,dD,cV,nK,lP,a2,c1,b6,b7,b4,h4,a4,V.iu,eA,jU,bg (l:=(nth l i).c),hp,c2,c3,c4,d2,d3,e1];exact(stop (by omega)).symm
        ·have hz:oA l i=0:=by
          unfold oA;rw[aA (by omega),aA b1,aA (by omega),aA (by omega),aA e1]
         rw[aP hz]at hq;rcases mw i with b6|b6
         ·subst b6
          simp (disch:=omega) [-getElem?_pos,-Int.natCast_eq_zero,wrap64,bg (l:=l),h3,dD,cV,nK,lP,a2,c1,V.iu,eA,jU,bg (l:=(nth l 0).c),hp,c2,c3,c4,d2,d3,e1];exact bV (0+1) (by simp) ⟨by omega,hq⟩ (by omega)
         ·have b7:¬ (nth l i).lv≤(nth l (i-1)).lv:=fun h=>b1 ⟨b6,h⟩
          have b4:0≤(i:Int)-1:=by omega
          simp (disch:=omega) [-getElem?_pos,-Int.natCast_eq_zero,wrap64,bg (l:=l),h3,dD,cV,nK,lP,a2,c1,b6,b7,b4,h4,a4,V.iu,eA,jU,bg (l:=(nth l i).c),hp,c2,c3,c4,d2,d3,e1];exact bV (i+1) (by simp) ⟨by omega,hq⟩ (by omega)
       ·rw[aP d1]at stop
        have d4:(decide ((nth (nth l i).c 0).x=0)&&decide ((nth (nth l i).c 0).y=0))=false:=by simpa using d1
        have d5:((nth (nth l i).c 0).x==0&&(nth (nth l i).c 0).y==0)=false:=by simpa using d1
        rcases mw i with b6|b6
        ·subst b6
         simp (disch:=omega) [-getElem?_pos,-Int.natCast_eq_zero,wrap64,bg (l:=l),h3,dD,cV,nK,lP,a2,c1,V.iu,eA,jU,bg (l:=(nth l 0).c),hp,d4,d5];exact(stop (by omega)).symm
        ·have b7:¬ (nth l i).lv≤(nth l (i-1)).lv:=fun h=>b1 ⟨b6,h⟩
         have b4:0≤(i:Int)-1:=by omega
         simp (disch:=omega) [-getElem?_pos,-Int.natCast_eq_zero,wrap64,bg (l:=l),h3,dD,cV,nK,lP,a2,c1,b6,b7,b4,h4,a4,V.iu,eA,jU,bg (l:=(nth l i).c),hp,d4,d5];exact(stop (by omega)).symm
      ·rw[aP c1]at stop
       rcases mw i with b6|b6
       ·subst b6
        simp (disch:=omega) [-getElem?_pos,-Int.natCast_eq_zero,wrap64,bg (l:=l),h3,dD,cV,nK,lP,a2,c1,c1];exact(stop (by omega)).symm
       ·have b7:¬ (nth l i).lv≤(nth l (i-1)).lv:=fun h=>b1 ⟨b6,h⟩
        have b4:0≤(i:Int)-1:=by omega
        simp (disch:=omega) [-getElem?_pos,-Int.natCast_eq_zero,wrap64,bg (l:=l),h3,dD,cV,nK,lP,a2,c1,b6,b7,b4,h4,a4,c1];exact(stop (by omega)).symm
    ·rw[aP a1]at stop
     have a2:(!decide (0≤(nth l i).lv) || !decide ((nth l i).lv≤16777216))=true:=by simp;omega
     simp (disch:=omega) [-getElem?_pos,-Int.natCast_eq_zero,wrap64,bg (l:=l),h3,dD,cV,a2];exact(stop (by omega)).symm
   ·obtain rfl:i=l.length:=by omega
    rw[nc]at hq;rw[←hq,aA (by omega)]at hW
    by_cases m1:0≤c9∧c9≤1000
    ·have m2:(!decide (0≤c9) || !decide (c9≤1000))=false:=by simp;omega
     by_cases m3:0≤move∧move≤1000
     ·have m4:(!decide (0≤move) || !decide (move≤1000))=false:=by simp;omega
      rw[aA (by omega)]at hW
      simp (disch:=omega) [-getElem?_pos,-Int.natCast_eq_zero,wrap64,dD,cV,m2,m4];exact hW
     ·have m4:(!decide (0≤move) || !decide (move≤1000))=true:=by simp;omega
      rw[aP (by omega)]at hW
      simp (disch:=omega) [-getElem?_pos,-Int.natCast_eq_zero,wrap64,dD,cV,m2,m4];exact hW
    ·have m2:(!decide (0≤c9) || !decide (c9≤1000))=true:=by simp;omega
     rw[aP (by omega)]at hW
     simp (disch:=omega) [-getElem?_pos,-Int.natCast_eq_zero,wrap64,dD,cV,m2];exact hW)
theorem AB(g:Gt)(G:List aT):bd F 134 [gt g] G=some (i64 (kd g),G) :=
 bX rfl rfl (by
  obtain⟨l,c9,move⟩:=g;generalize hW:kd ⟨l,c9,move⟩=W;unfold kd at hW;simp only at hW;simp (disch:=omega) [-getElem?_pos,-Int.natCast_eq_zero,wrap64,X4];refine bS (fun h1=>?_) (fun h1=>bS (fun h2=>?_) (fun h2=>?_))
  ·rw[aP (by omega)]at hW
   exact hW
  ·rw[aA (by omega),aP (by omega)]at hW
   exact hW
  ·rw[aA (by omega),aA (by omega)]at hW
   refine go_loop (fun i:Nat=>ajO (B1 l) l.length i [B1 l,i64 c9,i64 move] G) (fun i=>i≤l.length∧dI (oA l) (l.length-i) i=dI (oA l) l.length 0) (fun i=>l.length-i) 0 rfl (by simp) ⟨by omega,rfl⟩ ?_
   rintro i ⟨hi,hq⟩;simp (disch:=omega) [-getElem?_pos,-Int.natCast_eq_zero,wrap64,X1];refine bS (fun h3=>?_) (fun h3=>?_)
   ·have h3:i<l.length:=by omega
    have h4:((i:Int)-1).toNat=i-1:=by omega
    rw[ly h3]at hq;have stop:oA l i≠0→W=oA l i:=fun h=>by
     rw[aA h]at hq;rw[←hq,aP h]at hW;exact hW.symm
    unfold oA at stop;by_cases a1:0≤(nth l i).lv∧(nth l i).lv≤16777216
    ·have a2:(!decide (0≤(nth l i).lv) || !decide ((nth l i).lv≤16777216))=false:=by simp;omega
     have a3:0<i→0≤(i:Int)-1:=by omega
     have a4:i-1<l.length:=by omega
     rw[aA (by omega)]at stop
     by_cases b1:0<i∧(nth l i).lv≤(nth l (i-1)).lv
     ·rw[aP b1]at stop
      have b2:0<i:=b1.1;have b3:=b1.2;have b4:0≤(i:Int)-1:=by omega
      simp (disch:=omega) [-getElem?_pos,-Int.natCast_eq_zero,wrap64,bg (l:=l),h3,dD,cV,a2,b2,b3,b4,h4,a4];exact(stop (by omega)).symm
     ·rw[aA b1]at stop
      by_cases c1:fW (nth l i).c=0
      ·rw[aA (by omega)]at stop
       have hp:=tB c1;have hfw:=(mf c1).kb;have c2:(((nth l i).c.length:Int)-1).toNat=(nth l i).c.length-1:=by omega
       have c3:(nth l i).c.length-1<(nth l i).c.length:=by omega
       have c4:0≤((nth l i).c.length:Int)-1:=by omega
       by_cases d1:(nth (nth l i).c 0).x=0∧(nth (nth l i).c 0).y=0
       ·rw[aA (by omega)]at stop
        obtain⟨d2,d3⟩:=d1;by_cases e1:1073741824<(nth (nth l i).c ((nth l i).c.length-1)).y
        ·rw[aP e1]at stop
         rcases mw i with b6|b6
         ·subst b6
          simp (disch:=omega) [-getElem?_pos,-Int.natCast_eq_zero,wrap64,bg (l:=l),h3,dD,cV,nK,lP,a2,c1,V.iu,eA,jU,bg (l:=(nth l 0).c),hp,c2,c3,c4,d2,d3,e1];exact(stop (by omega)).symm
         ·have b7:¬ (nth l i).lv≤(nth l (i-1)).lv:=fun h=>b1 ⟨b6,h⟩
          have b4:0≤(i:Int)-1:=by omega
          simp (disch:=omega) [-getElem?_pos,-Int.natCast_eq_zero,wrap64,bg (l:=l),h3,dD,cV,nK,lP,a2,c1,b6,b7,b4,h4,a4,V.iu,eA,jU,bg (l:=(nth l i).c),hp,c2,c3,c4,d2,d3,e1];exact(stop (by omega)).symm
        ·have hz:oA l i=0:=by
          unfold oA;rw[aA (by omega),aA b1,aA (by omega),aA (by omega),aA e1]
         rw[aP hz]at hq;rcases mw i with b6|b6
         ·subst b6
          simp (disch:=omega) [-getElem?_pos,-Int.natCast_eq_zero,wrap64,bg (l:=l),h3,dD,cV,nK,lP,a2,c1,V.iu,eA,jU,bg (l:=(nth l 0).c),hp,c2,c3,c4,d2,d3,e1];exact bV (0+1) (by simp) ⟨by omega,hq⟩ (by omega)
         ·have b7:¬ (nth l i).lv≤(nth l (i-1)).lv:=fun h=>b1 ⟨b6,h⟩
          have b4:0≤(i:Int)-1:=by omega
          simp (disch:=omega) [-getElem?_pos,-Int.natCast_eq_zero,wrap64,bg (l:=l),h3,dD,cV,nK,lP,a2,c1,b6,b7,b4,h4,a4,V.iu,eA,jU,bg (l:=(nth l i).c),hp,c2,c3,c4,d2,d3,e1];exact bV (i+1) (by simp) ⟨by omega,hq⟩ (by omega)
       ·rw[aP d1]at stop
        have d4:(decide ((nth (nth l i).c 0).x=0)&&decide ((nth (nth l i).c 0).y=0))=false:=by simpa using d1
        have d5:((nth (nth l i).c 0).x==0&&(nth (nth l i).c 0).y==0)=false:=by simpa using d1
        rcases mw i with b6|b6
        ·subst b6
         simp (disch:=omega) [-getElem?_pos,-Int.natCast_eq_zero,wrap64,bg (l:=l),h3,dD,cV,nK,lP,a2,c1,V.iu,eA,jU,bg (l:=(nth l 0).c),hp,d4,d5];exact(stop (by omega)).symm
        ·have b7:¬ (nth l i).lv≤(nth l (i-1)).lv:=fun h=>b1 ⟨b6,h⟩
         have b4:0≤(i:Int)-1:=by omega
         simp (disch:=omega) [-getElem?_pos,-Int.natCast_eq_zero,wrap64,bg (l:=l),h3,dD,cV,nK,lP,a2,c1,b6,b7,b4,h4,a4,V.iu,eA,jU,bg (l:=(nth l i).c),hp,d4,d5];exact(stop (by omega)).symm
      ·rw[aP c1]at stop
       rcases mw i with b6|b6
       ·subst b6
        simp (disch:=omega) [-getElem?_pos,-Int.natCast_eq_zero,wrap64,bg (l:=l),h3,dD,cV,nK,lP,a2,c1,c1];exact(stop (by omega)).symm
       ·have b7:¬ (nth l i).lv≤(nth l (i-1)).lv:=fun h=>b1 ⟨b6,h⟩
        have b4:0≤(i:Int)-1:=by omega
        simp (disch:=omega) [-getElem?_pos,-Int.natCast_eq_zero,wrap64,bg (l:=l),h3,dD,cV,nK,lP,a2,c1,b6,b7,b4,h4,a4,c1];exact(stop (by omega)).symm
    ·rw[aP a1]at stop
     have a2:(!decide (0≤(nth l i).lv) || !decide ((nth l i).lv≤16777216))=true:=by simp;omega
     simp (disch:=omega) [-getElem?_pos,-Int.natCast_eq_zero,wrap64,bg (l:=l),h3,dD,cV,a2];exact(stop (by omega)).symm
   ·obtain rfl:i=l.length:=by omega
    rw[nc]at hq;rw[←hq,aA (by omega)]at hW
    by_cases m1:0≤c9∧c9≤1000
    ·have m2:(!decide (0≤c9) || !decide (c9≤1000))=false:=by simp;omega
     by_cases m3:0≤move∧move≤1000
     ·have m4:(!decide (0≤move) || !decide (move≤1000))=false:=by simp;omega
      rw[aA (by omega)]at hW
      simp (disch:=omega) [-getElem?_pos,-Int.natCast_eq_zero,wrap64,dD,cV,m2,m4];exact hW
     ·have m4:(!decide (0≤move) || !decide (move≤1000))=true:=by simp;omega
      rw[aP (by omega)]at hW
      simp (disch:=omega) [-getElem?_pos,-Int.natCast_eq_zero,wrap64,dD,cV,m2,m4];exact hW
    ·have m2:(!decide (0≤c9) || !decide (c9≤1000))=true:=by simp;omega
     rw[aP (by omega)]at hW
     simp (disch:=omega) [-getElem?_pos,-Int.natCast_eq_zero,wrap64,dD,cV,m2];exact hW)
end Go.Proofs.YtcelmhaoipbdiaaGreatDoor
