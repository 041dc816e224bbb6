/- Parts of the proof, joined: Mk1, Cur1, Cur2, Sto1, Sto2, Sto3, Un1, Un2, Un3, Un4, Mk2, Gat1. -/
import Derived.Test.YtmpikpodpgnjhaaGreatQV
namespace Go.Proofs.YtmpikpodpgnjhaaGreat
set_option linter.all false
open Go.Vm
attribute [local simp] eU eV eS eT
def Bp(n m:Int):Int:=(IntKind.i64.wrap (n.tmod m+m)).tmod m
theorem agJ{n m:Int}(hm:m≠0)(G:List aW):bt F 64 [i64 n,i64 m] G=some (i64 (Bp n m),G) :=
 cg rfl rfl (by simp[KQ,hm,Bp])
abbrev ints(l:List Int):V:=.slice none 1 (l.map fun n=>[i64 n])
abbrev dk(l:List Int)(k:Nat):aW:=.cells [ints l,i64 k]
theorem agK{n:Int}{l:List Int}{k:Nat}(h:n<1∨l.length≤k):bt F 23 [.bO 0 0,i64 n] [dk l k]=some (i64 0,[dk l k]) :=
 cg rfl rfl (by
  by_cases h1:n<1
  ·simp[Dk,h1]
  ·have h2:l.length≤k:=h.resolve_left h1
   simp[Dk,h1,h2])
theorem agL{n:Int}{l:List Int}{k:Nat}{v:Int}(h1:1≤n)(h2:l[k]?=some v)(hk:k<9223372036854775807):bt F 23 [.bO 0 0,i64 n] [dk l k]=some (i64 (Bp v n),[dk l (k+1)]) :=
 cg rfl rfl (by
  have hn:¬ n<1:=by omega
  have hl:¬ l.length≤k:=by have:=(List.getElem?_eq_some_iff.1 h2).1;omega
  simp (disch:=omega) [-getElem?_pos,wrap64,Dk,hn,hl,h2,agJ])
theorem agM{v n:Int}(h1:1≤n)(h2:n≤4611686018427387904):0≤Bp v n∧Bp v n<n:=by
 have h3:-n<v.tmod n:=by
  rcases Int.le_total 0 v with h|h
  ·have:=Int.tmod_nonneg n h;omega
  ·have h4:=Int.tmod_lt_of_pos (-v) (show 0<n by omega)
   rw[Int.neg_tmod]at h4;omega
 have h4:v.tmod n<n:=Int.tmod_lt_of_pos _ (by omega)
 unfold Bp;rw[wrap64 (by omega) (by omega)]
 exact⟨Int.tmod_nonneg _ (by omega),Int.tmod_lt_of_pos _ (by omega)⟩
def eM(l:List Int)(k:Nat):Prop:=k≤l.length∧l.length≤9223372036854775807
theorem gU{l:List Int}{k:Nat}(hd:eM l k)(n:Int)(hn:n≤4611686018427387904) :
  ∃v k',bt F 23 [.bO 0 0,i64 n] [dk l k]=some (i64 v,[dk l k'])∧eM l k'∧0≤v∧(v<n∨v=0):=by
 by_cases h:n<1∨l.length≤k
 ·exact⟨0,k,agK h,hd,by omega,.inr rfl⟩
 ·obtain⟨h1,h2⟩:=hd
  have h3:k<l.length:=by omega
  have h4:=agL (n:=n) (l:=l) (k:=k) (v:=nth l k) (by omega) (eA h3) (by omega)
  have h5:=agM (v:=nth l k) (n:=n) (by omega) hn
  exact⟨_,_,h4,⟨by omega,h2⟩,h5.1,.inl h5.2⟩
theorem L8(l:List Int)(G:List aW):bt F 13 [ints l] G=some (.bool (decide (l.length≤500)),G) :=
 cg rfl rfl (by simp[KB];omega)
theorem Tl(l:List Int):bt F 14 [ints l] []=some (.bO 0 0,[dk l 0]) :=
 cg rfl rfl (by simp[KC])
def ed(f:Nat→Int):Nat→Nat→Int
 |0,_=>0
 |m+1,i=>if f i=0 then ed f m (i+1) else f i
theorem l7{f:Nat→Int}{i n:Nat}(h:i<n):ed f (n-i) i=if f i=0 then ed f (n-(i+1)) (i+1) else f i:=by
 obtain⟨m,hm⟩:∃m,n-i=m+1:=⟨n-i-1,by omega⟩
 rw[hm,ed,show n-(i+1)=m by omega]
theorem sE{f:Nat→Int}:∀{m i:Nat},ed f m i=0→∀j,i≤j→j<i+m→f j=0
 |0,i,_,j,h1,h2=>by omega
 |m+1,i,h,j,h1,h2=>by
  unfold ed at h;split at h
  ·rename_i h0
   by_cases hj:j=i
   ·rw[hj];exact h0
   ·exact sE h j (by omega) (by omega)
  ·rename_i h0;exact absurd h h0
theorem rC{f:Nat→Int}:∀{m i:Nat},(∀j,i≤j→j<i+m→f j=0)→ed f m i=0
 |0,i,_=>rfl
 |m+1,i,h=>by
  unfold ed;rw[if_pos (h i (by omega) (by omega))]
  exact rC fun j h1 h2=>h j (by omega) (by omega)
theorem mR{f:Nat→Int}{n:Nat}:ed f (n-n) n=0:=by rw[Nat.sub_self];rfl
theorem dG(n m:Int)(G:List aW):bt F 147 [i64 n,i64 m] G=some (.bool (decide (0≤n)&&decide (n≤m)),G) :=
 cg rfl rfl (by simp +contextual [wrap64,Lg])
theorem agN(n m:Int)(G:List aW):bt F 115 [i64 n,i64 m] G=some (.bool (decide (0≤n)&&decide (n≤m)),G) :=
 cg rfl rfl (by simp +contextual [wrap64,K2])
theorem c5(n m:Int)(G:List aW):bt F 57 [i64 n,i64 m] G=some (.bool (decide (0≤n)&&decide (n≤m)),G) :=
 cg rfl rfl (by simp[wrap64,KK,agN])
structure Pt where
 x:Int
 y:Int
 deriving Inhabited,DecidableEq
abbrev Pt.row(p:Pt):List V:=[i64 p.x,i64 p.y]
abbrev im(c:List Pt):V:=.slice none 2 (c.map Pt.row)
def g6(c:List Pt)(i:Nat):Int :=
 if ¬((0≤(nth c i).x∧(nth c i).x≤1073741824)∧0≤(nth c i).y∧(nth c i).y≤274877906944) then 1
 else if i=0 then 0
 else if (nth c i).x≤(nth c (i-1)).x∨(nth c i).y<(nth c (i-1)).y then 4
 else if (4611686018427387904:Int).tdiv ((nth c i).x-(nth c (i-1)).x)<(nth c i).y-(nth c (i-1)).y then 1 else 0
def gd(c:List Pt):Int:=if c.length=0 then 3 else if 100<c.length then 10 else ed (g6 c) c.length 0
theorem GY{c:List Pt}{i:Nat}(h:g6 c i=0):(0≤(nth c i).x∧(nth c i).x≤1073741824)∧0≤(nth c i).y∧(nth c i).y≤274877906944:=by
 unfold g6 at h;split at h
 ·cases h
 ·rename_i h1;exact Decidable.of_not_not h1
theorem L9{c:List Pt}{i:Nat}(h:g6 c i=0)(hi:0<i):(nth c (i-1)).x<(nth c i).x∧(nth c (i-1)).y≤(nth c i).y ∧
  (nth c i).y-(nth c (i-1)).y≤(4611686018427387904:Int).tdiv ((nth c i).x-(nth c (i-1)).x):=by
 unfold g6 at h;split at h
 ·cases h
 ·rw[if_neg (by omega)]at h
  split at h
  ·cases h
  ·split at h
   ·cases h
   ·omega
theorem agO(a b:Int)(h:0<a)(G:List aW):bt F 189 [i64 a,i64 b] G=some (.bool (decide ((4611686018427387904:Int).tdiv a<b)),G) :=
 cg rfl rfl (by
  have h1:0≤(4611686018427387904:Int).tdiv a:=Int.tdiv_nonneg (by omega) (by omega)
  have h2:(4611686018427387904:Int).tdiv a≤4611686018427387904:=by
   have:=Int.tdiv_le_self (a:=4611686018427387904) a (by omega)
   omega
  have h3:a≠0:=by omega
  simp (disch:=omega) [wrap64,LI,h,h3])
theorem mS(c:List Pt)(G:List aW):bt F 173 [im c] G=some (i64 (gd c),G) :=
 cg rfl rfl (by
  generalize hW:gd c=W;unfold gd at hW;simp +contextual (disch:=omega) [-getElem?_pos,-Int.natCast_eq_zero,wrap64,Lz];refine gT (fun h=>?_) (fun h=>b9 (fun h'=>?_) (fun h'=>?_))
  ·simp[-List.length_eq_zero_iff,-Int.natCast_eq_zero]at h
   rw[if_pos (by omega)]at hW
   exact hW
  ·simp[-List.length_eq_zero_iff,-Int.natCast_eq_zero]at h
   rw[if_neg (by omega),if_pos (by omega)]at hW
   simpa using hW
  ·have hq:ed (g6 c) (c.length-0) 0=W:=by
    simp[-List.length_eq_zero_iff,-Int.natCast_eq_zero]at h;rw[if_neg (by omega),if_neg (by omega)]at hW
    exact hW
   refine go_loop (fun i:Nat=>acM (im c) (im c) c.length i G) (fun i=>i≤c.length∧ed (g6 c) (c.length-i) i=W∧∀j,j<i→g6 c j=0) (fun i=>c.length-i) 0 rfl (by simp) ⟨by omega,hq,by omega⟩ ?_
   rintro i ⟨hi,hq,hz⟩;simp +contextual (disch:=omega) [-getElem?_pos,-Int.natCast_eq_zero,wrap64,SF];refine b9 (fun h1=>?_) (fun h1=>?_)
   ·have h1:i<c.length:=by omega
    rw[l7 h1]at hq;have e:=bo h1;simp +contextual (disch:=omega) [-getElem?_pos,-Int.natCast_eq_zero,wrap64,bo (l:=c),dG];refine gT (fun h2=>?_) (fun h2=>?_)
    ·simp +contextual (disch:=omega) [-getElem?_pos,-Int.natCast_eq_zero,wrap64,h2,dG]
     simp[-List.length_eq_zero_iff,-Int.natCast_eq_zero]at h2;rw[show g6 c i=1 by rw[g6,if_pos (by omega)],if_neg (by decide)]at hq
     exact hq
    ·simp +contextual (disch:=omega) [-getElem?_pos,-Int.natCast_eq_zero,wrap64,h2,dG]
     simp[-List.length_eq_zero_iff,-Int.natCast_eq_zero]at h2;refine gT (fun h3=>?_) (fun h3=>b9 (fun h4=>?_) (fun h4=>?_))
     ·simp[-List.length_eq_zero_iff,-Int.natCast_eq_zero]at h3
      rw[show g6 c i=1 by rw[g6,if_pos (by omega)],if_neg (by decide)]at hq
      exact hq
     ·simp[-List.length_eq_zero_iff,-Int.natCast_eq_zero]at h3
      have h0:g6 c i=0:=by rw[g6,if_neg (by omega),if_pos (by omega)]
      rw[h0,if_pos rfl]at hq;exact cc (i+1) (by simp) ⟨by omega,hq,fun j hj=>by rcases Nat.lt_or_ge j i with h|h;exact hz j h;rwa [show j=i by omega]⟩ (by omega)
     ·simp[-List.length_eq_zero_iff,-Int.natCast_eq_zero]at h3
      have h5:((i:Int)-1).toNat=i-1:=by omega
      have h6:i-1<c.length:=by omega
      have h7:0≤(i:Int)-1:=by omega
      have h8:=GY (hz (i-1) (by omega))
      simp +contextual (disch:=omega) [-getElem?_pos,-Int.natCast_eq_zero,wrap64,bo (l:=c),h5,h7];refine gT (fun h9=>?_) (fun h9=>?_)
      ·simp[-List.length_eq_zero_iff,-Int.natCast_eq_zero]at h9
       rw[show g6 c i=4 by rw[g6,if_neg (by omega),if_neg (by omega),if_pos (by omega)],if_neg (by decide)]at hq
       exact hq
      ·simp[-List.length_eq_zero_iff,-Int.natCast_eq_zero]at h9
       simp +contextual (disch:=omega) [-getElem?_pos,-Int.natCast_eq_zero,wrap64,agO];refine b9 (fun fW=>?_) (fun fW=>?_)
       ·rw[show g6 c i=1 by rw[g6,if_neg (by omega),if_neg (by omega),if_neg (by omega),if_pos (by omega)],if_neg (by decide)]at hq
        exact hq
       ·have h0:g6 c i=0:=by rw[g6,if_neg (by omega),if_neg (by omega),if_neg (by omega),if_neg (by omega)]
        rw[h0,if_pos rfl]at hq;exact cc (i+1) (by simp) ⟨by omega,hq,fun j hj=>by rcases Nat.lt_or_ge j i with h|h;exact hz j h;rwa [show j=i by omega]⟩ (by omega)
   ·obtain rfl:i=c.length:=by omega
    rw[mR]at hq;simp[←hq])
theorem lq(c:List Pt)(G:List aW):bt F 164 [im c] G=some (i64 (gd c),G) :=
 cg rfl rfl (by
  generalize hW:gd c=W;unfold gd at hW;simp +contextual (disch:=omega) [-getElem?_pos,-Int.natCast_eq_zero,wrap64,Lu];refine gT (fun h=>?_) (fun h=>b9 (fun h'=>?_) (fun h'=>?_))
  ·simp[-List.length_eq_zero_iff,-Int.natCast_eq_zero]at h
   rw[if_pos (by omega)]at hW
   exact hW
  ·simp[-List.length_eq_zero_iff,-Int.natCast_eq_zero]at h
   rw[if_neg (by omega),if_pos (by omega)]at hW
   simpa using hW
  ·have hq:ed (g6 c) (c.length-0) 0=W:=by
    simp[-List.length_eq_zero_iff,-Int.natCast_eq_zero]at h;rw[if_neg (by omega),if_neg (by omega)]at hW
    exact hW
   refine go_loop (fun i:Nat=>acC (im c) (im c) c.length i G) (fun i=>i≤c.length∧ed (g6 c) (c.length-i) i=W∧∀j,j<i→g6 c j=0) (fun i=>c.length-i) 0 rfl (by simp) ⟨by omega,hq,by omega⟩ ?_
   rintro i ⟨hi,hq,hz⟩;simp +contextual (disch:=omega) [-getElem?_pos,-Int.natCast_eq_zero,wrap64,SA];refine b9 (fun h1=>?_) (fun h1=>?_)
   ·have h1:i<c.length:=by omega
    rw[l7 h1]at hq;have e:=bo h1;simp +contextual (disch:=omega) [-getElem?_pos,-Int.natCast_eq_zero,wrap64,bo (l:=c),c5];refine gT (fun h2=>?_) (fun h2=>?_)
    ·simp +contextual (disch:=omega) [-getElem?_pos,-Int.natCast_eq_zero,wrap64,h2,c5]
     simp[-List.length_eq_zero_iff,-Int.natCast_eq_zero]at h2;rw[show g6 c i=1 by rw[g6,if_pos (by omega)],if_neg (by decide)]at hq
     exact hq
    ·simp +contextual (disch:=omega) [-getElem?_pos,-Int.natCast_eq_zero,wrap64,h2,c5]
     simp[-List.length_eq_zero_iff,-Int.natCast_eq_zero]at h2;refine gT (fun h3=>?_) (fun h3=>b9 (fun h4=>?_) (fun h4=>?_))
     ·simp[-List.length_eq_zero_iff,-Int.natCast_eq_zero]at h3
      rw[show g6 c i=1 by rw[g6,if_pos (by omega)],if_neg (by decide)]at hq
      exact hq
     ·simp[-List.length_eq_zero_iff,-Int.natCast_eq_zero]at h3
      have h0:g6 c i=0:=by rw[g6,if_neg (by omega),if_pos (by omega)]
      rw[h0,if_pos rfl]at hq;exact cc (i+1) (by simp) ⟨by omega,hq,fun j hj=>by rcases Nat.lt_or_ge j i with h|h;exact hz j h;rwa [show j=i by omega]⟩ (by omega)
     ·simp[-List.length_eq_zero_iff,-Int.natCast_eq_zero]at h3
      have h5:((i:Int)-1).toNat=i-1:=by omega
      have h6:i-1<c.length:=by omega
      have h7:0≤(i:Int)-1:=by omega
      have h8:=GY (hz (i-1) (by omega))
      simp +contextual (disch:=omega) [-getElem?_pos,-Int.natCast_eq_zero,wrap64,bo (l:=c),h5,h7];refine gT (fun h9=>?_) (fun h9=>?_)
      ·simp[-List.length_eq_zero_iff,-Int.natCast_eq_zero]at h9
       rw[show g6 c i=4 by rw[g6,if_neg (by omega),if_neg (by omega),if_pos (by omega)],if_neg (by decide)]at hq
       exact hq
      ·simp[-List.length_eq_zero_iff,-Int.natCast_eq_zero]at h9
       have ma:(nth c i).x-(nth c (i-1)).x≠0:=by omega
       have rm:(4611686018427387904:Int).tdiv ((nth c i).x-(nth c (i-1)).x)≤4611686018427387904:=by
        have:=Int.tdiv_le_self (a:=4611686018427387904) ((nth c i).x-(nth c (i-1)).x) (by omega)
        omega
       have Tm:0≤(4611686018427387904:Int).tdiv ((nth c i).x-(nth c (i-1)).x):=Int.tdiv_nonneg (by omega) (by omega)
       simp +contextual (disch:=omega) [-getElem?_pos,-Int.natCast_eq_zero,wrap64,ma];refine b9 (fun fW=>?_) (fun fW=>?_)
       ·rw[show g6 c i=1 by rw[g6,if_neg (by omega),if_neg (by omega),if_neg (by omega),if_pos (by omega)],if_neg (by decide)]at hq
        exact hq
       ·have h0:g6 c i=0:=by rw[g6,if_neg (by omega),if_neg (by omega),if_neg (by omega),if_neg (by omega)]
        rw[h0,if_pos rfl]at hq;exact cc (i+1) (by simp) ⟨by omega,hq,fun j hj=>by rcases Nat.lt_or_ge j i with h|h;exact hz j h;rwa [show j=i by omega]⟩ (by omega)
   ·obtain rfl:i=c.length:=by omega
    rw[mR]at hq;simp[←hq])
def od(c:List Pt)(i:Nat)(x:Int):Int :=
 (nth c (i-1)).y+(((nth c i).y-(nth c (i-1)).y)*(x-(nth c (i-1)).x)).tdiv ((nth c i).x-(nth c (i-1)).x)
def tN(c:List Pt)(x:Int):Nat→Nat→Int
 |0,_=>(nth c (c.length-1)).y
 |m+1,i=>if x≤(nth c i).x then (if i=0 then (nth c i).y else od c i x) else tN c x m (i+1)
def ia(c:List Pt)(x:Int):Int:=tN c x c.length 0
structure Cv(c:List Pt):Prop where
 pos:0<c.length
 kc:c.length≤100
 x0:∀i,i<c.length→0≤(nth c i).x∧(nth c i).x≤1073741824
 y0:∀i,i<c.length→0≤(nth c i).y∧(nth c i).y≤274877906944
 up:∀i,0<i→i<c.length→(nth c (i-1)).x<(nth c i).x
 mono:∀i,0<i→i<c.length→(nth c (i-1)).y≤(nth c i).y
 prod:∀i,0<i→i<c.length→((nth c i).y-(nth c (i-1)).y)*((nth c i).x-(nth c (i-1)).x)≤4611686018427387904
theorem lJ{c:List Pt}(h:gd c=0):Cv c:=by
 unfold gd at h;split at h
 ·cases h
 ·split at h
  ·cases h
  ·have hz:∀i,i<c.length→g6 c i=0:=fun i hi=>sE h i (by omega) (by omega)
   refine⟨by omega,by omega,fun i hi=>(GY (hz i hi)).1,fun i hi=>(GY (hz i hi)).2,fun i h0 hi=>(L9 (hz i hi) h0).1,fun i h0 hi=>(L9 (hz i hi) h0).2.1,fun i h0 hi=>?_⟩
   obtain⟨h1,h2,h3⟩:=L9 (hz i hi) h0;generalize GZ:(nth c i).x-(nth c (i-1)).x=dx at *;generalize G4:(nth c i).y-(nth c (i-1)).y=dy at *;have h4:(4611686018427387904:Int).tdiv dx*dx≤4611686018427387904:=by
    have:=Int.mul_tdiv_add_tmod 4611686018427387904 dx;rw[Int.mul_comm]at this;have:=Int.tmod_nonneg (a:=4611686018427387904) dx (by omega)
    omega
   exact Int.le_trans (Int.mul_le_mul_of_nonneg_right h3 (by omega)) h4
theorem Cv.lt{c:List Pt}(h:Cv c):∀{i j:Nat},i<j→j<c.length→(nth c i).x<(nth c j).x:=by
 intro i j Ma hj;induction j with
 |zero=>omega
 |succ j ih =>
  have:=h.up (j+1) (by omega) hj
  simp at this;rcases Nat.lt_or_ge i j with h1|h1
  ·have:=ih h1 (by omega);omega
  ·obtain rfl:i=j:=by omega
   exact this
theorem Cv.le{c:List Pt}(h:Cv c):∀{i j:Nat},i≤j→j<c.length→(nth c i).y≤(nth c j).y:=by
 intro i j Ma hj;induction j with
 |zero=>obtain rfl:i=0:=by omega
        omega
 |succ j ih =>
  have:=h.mono (j+1) (by omega) hj
  simp at this;rcases Nat.lt_or_ge j i with h1|h1
  ·obtain rfl:i=j+1:=by omega
   omega
  ·have:=ih h1 (by omega);omega
theorem DX{c:List Pt}(h:Cv c){i:Nat}{x:Int}(h0:0<i)(hi:i<c.length)(h1:(nth c (i-1)).x≤x)(h2:x≤(nth c i).x) :
  0≤((nth c i).y-(nth c (i-1)).y)*(x-(nth c (i-1)).x)∧((nth c i).y-(nth c (i-1)).y)*(x-(nth c (i-1)).x)≤4611686018427387904 ∧
  0≤(((nth c i).y-(nth c (i-1)).y)*(x-(nth c (i-1)).x)).tdiv ((nth c i).x-(nth c (i-1)).x) ∧
  (((nth c i).y-(nth c (i-1)).y)*(x-(nth c (i-1)).x)).tdiv ((nth c i).x-(nth c (i-1)).x)≤(nth c i).y-(nth c (i-1)).y:=by
 have h3:=h.up i h0 hi;have h4:=h.mono i h0 hi;have h5:=h.prod i h0 hi;generalize GZ:(nth c i).x-(nth c (i-1)).x=dx at *;generalize G4:(nth c i).y-(nth c (i-1)).y=dy at *;generalize ht:x-(nth c (i-1)).x=t at *;have h6:0≤dy*t:=Int.mul_nonneg (by omega) (by omega)
 have h7:dy*t≤dy*dx:=Int.mul_le_mul_of_nonneg_left (by omega) (by omega)
 refine⟨h6,by omega,Int.tdiv_nonneg h6 (by omega),?_⟩
 have h8:=Int.tdiv_le_tdiv (a:=dy*t) (b:=dy*dx) (c:=dx) (by omega) h7
 rwa [Int.mul_tdiv_cancel _ (by omega)]at h8
theorem DY{c:List Pt}{x:Int}{n:Nat}:∀{k i:Nat},i≤k→k≤n→(∀j,i≤j→j<k→(nth c j).x<x)→tN c x (n-i) i=tN c x (n-k) k:=by
 intro k;induction k with
 |zero=>intro i h1 _ _;obtain rfl:i=0:=by omega
        rfl
 |succ k ih =>
  intro i h1 h2 h3;rcases Nat.lt_or_ge k i with h|h
  ·obtain rfl:i=k+1:=by omega
   rfl
  ·rw[ih h (by omega) (fun j a b=>h3 j a (by omega))]
   obtain⟨m,hm⟩:∃m,n-k=m+1:=⟨n-k-1,by omega⟩
   have:=h3 k h (by omega)
   rw[hm,tN,if_neg (by omega),show n-(k+1)=m by omega]
theorem DZ{c:List Pt}{x:Int}{n i:Nat}(hi:i<n)(h:x≤(nth c i).x):tN c x (n-i) i=if i=0 then (nth c i).y else od c i x:=by
 obtain⟨m,hm⟩:∃m,n-i=m+1:=⟨n-i-1,by omega⟩
 rw[hm,tN,if_pos h]
theorem y3{c:List Pt}{x:Int}(h:Cv c)(h1:x≤(nth c 0).x):ia c x=(nth c 0).y:=by
 have:=DZ (c:=c) (x:=x) (n:=c.length) h.pos h1;simpa [ia] using this
theorem uK{c:List Pt}{x:Int}{i:Nat}(h:Cv c)(h0:0<i)(hi:i<c.length)(h1:(nth c (i-1)).x≤x)(h2:x≤(nth c i).x):ia c x=od c i x:=by
 have up:=h.up i h0 hi;by_cases hx:(nth c (i-1)).x<x
 ·have:=DY (c:=c) (x:=x) (n:=c.length) (i:=0) (k:=i) (by omega) (by omega) (fun j _ hj=>by
   rcases Nat.lt_or_ge j (i-1) with h3|h3
   ·have:=h.lt h3 (by omega);omega
   ·obtain rfl:j=i-1:=by omega
    exact hx)
  rw[DZ hi h2,if_neg (by omega)]at this
  simpa [ia] using this
 ·have hx:x=(nth c (i-1)).x:=by omega
  subst hx;have:=DY (c:=c) (x:=(nth c (i-1)).x) (n:=c.length) (i:=0) (k:=i-1) (by omega) (by omega) (fun j _ hj=>h.lt (by omega) (by omega))
  rw[DZ (n:=c.length) (i:=i-1) (by omega) (by omega)]at this
  have e:od c i (nth c (i-1)).x=(nth c (i-1)).y:=by simp[od]
  rw[e];simp only[Nat.sub_zero]at this;rw[ia,this];split
  ·rfl
  ·rename_i h3
   have h4:=h.up (i-1) (by omega) (by omega)
   rw[od,Int.mul_tdiv_cancel _ (by omega)]
   omega
theorem ajG{c:List Pt}{x:Int}(h:Cv c)(h1:(nth c (c.length-1)).x≤x):ia c x=(nth c (c.length-1)).y:=by
 have hp:=h.pos;rcases Nat.lt_or_ge 1 c.length with h2|h2
 ·by_cases hx:(nth c (c.length-1)).x<x
  ·have:=DY (c:=c) (x:=x) (n:=c.length) (i:=0) (k:=c.length) (by omega) (by omega) (fun j _ hj=>by
    rcases Nat.lt_or_ge j (c.length-1) with h3|h3
    ·have:=h.lt h3 (by omega);omega
    ·obtain rfl:j=c.length-1:=by omega
     exact hx)
   simp only[Nat.sub_zero,Nat.sub_self]at this;rw[ia,this,tN]
  ·obtain rfl:x=(nth c (c.length-1)).x:=by omega
   have hu:=h.up (c.length-1) (by omega) (by omega)
   rw[uK h (i:=c.length-1) (by omega) (by omega) (by omega) (by omega),od,Int.mul_tdiv_cancel _ (by omega)]
   omega
 ·by_cases hx:x≤(nth c 0).x
  ·rw[y3 h hx,show c.length-1=0 by omega]
  ·have:=DY (c:=c) (x:=x) (n:=c.length) (i:=0) (k:=c.length) (by omega) (by omega) (fun j _ hj=>by
    obtain rfl:j=0:=by omega
    omega)
   simp only[Nat.sub_zero,Nat.sub_self]at this;rw[ia,this,tN]
theorem Mb{c:List Pt}(h:Cv c)(x:Int):x≤(nth c 0).x∨(∃i,0<i∧i<c.length∧(nth c (i-1)).x≤x∧x≤(nth c i).x)∨(nth c (c.length-1)).x≤x:=by
 have hp:=h.pos;by_cases h1:x≤(nth c 0).x
 ·exact .inl h1
 ·have:∀k,k<c.length→(∃i,0<i∧i≤k∧(nth c (i-1)).x≤x∧x≤(nth c i).x)∨(nth c k).x≤x:=by
   intro k;induction k with
   |zero=>intro _;right;omega
   |succ k ih =>
    intro hk;rcases ih (by omega) with⟨i,a,b,d,e⟩ | h2
    ·exact .inl ⟨i,a,by omega,d,e⟩
    ·by_cases h3:x≤(nth c (k+1)).x
     ·exact .inl ⟨k+1,by omega,by omega,h2,h3⟩
     ·right;omega
  rcases this (c.length-1) (by omega) with⟨i,a,b,d,e⟩ | h2
  ·exact .inr (.inl ⟨i,a,by omega,d,e⟩)
  ·exact .inr (.inr h2)
theorem Bq{c:List Pt}(h:Cv c)(x:Int):(nth c 0).y≤ia c x∧ia c x≤(nth c (c.length-1)).y:=by
 have hp:=h.pos;have h0:=h.le (i:=0) (j:=c.length-1) (by omega) (by omega)
 rcases Mb h x with h1 | ⟨i,a,b,d,e⟩ | h1
 ·rw[y3 h h1];omega
 ·rw[uK h a b d e]
  have h2:=DX h a b d e;have h3:=h.le (i:=0) (j:=i-1) (by omega) (by omega)
  have h4:=h.le (i:=i) (j:=c.length-1) (by omega) (by omega)
  unfold od;omega
 ·rw[ajG h h1];omega
theorem ajJ{c:List Pt}(h:Cv c)(x:Int)(G:List aW):bt F 201 [im c,i64 x] G=some (i64 (ia c x),G) :=
 cg rfl rfl (by
  have hp:=h.pos;have hf:=h.kc;generalize hW:ia c x=W;simp +contextual (disch:=omega) [-getElem?_pos,wrap64,LR];refine go_loop (fun i:Nat=>adl (im c) x (im c) c.length i G) (fun i=>i≤c.length∧tN c x (c.length-i) i=W∧(0<i→(nth c (i-1)).x<x)) (fun i=>c.length-i) 0 rfl (by simp) ⟨by omega,hW,by omega⟩ ?_
  rintro i ⟨hi,hq,hl⟩;simp +contextual (disch:=omega) [-getElem?_pos,wrap64,SW];refine b9 (fun h1=>?_) (fun h1=>?_)
  ·have h1:i<c.length:=by omega
   simp +contextual (disch:=omega) [-getElem?_pos,wrap64,bo (l:=c)];refine gT (fun h2=>?_) (fun h2=>b9 (fun h3=>?_) (fun h3=>?_))
   ·simp[-List.length_eq_zero_iff,-Int.natCast_eq_zero]at h2
    obtain rfl:i=0:=by omega
    rw[DZ h1 h2.1,if_pos rfl]at hq;exact hq
   ·simp[-List.length_eq_zero_iff,-Int.natCast_eq_zero]at h2
    have h4:0<i:=by omega
    have h5:1≤(i:Int):=by omega
    have h6:i-1<c.length:=by omega
    have h9:=hl h4;have h7:=DX h h4 h1 (by omega) h3
    have h8:=h.up i h4 h1;have fW:=h.x0 i h1;have ma:=h.x0 (i-1) h6;have rm:=h.y0 i h1;have Tm:=h.y0 (i-1) h6;have Mc:(nth c i).x-(nth c (i-1)).x≠0:=by omega
    rw[DZ h1 h3,if_neg (by omega),od]at hq
    simp +contextual (disch:=omega) [-getElem?_pos,wrap64,bo (l:=c),h5,Mc];exact hq
   ·simp[-List.length_eq_zero_iff,-Int.natCast_eq_zero]at h2
    have:=DY (c:=c) (x:=x) (n:=c.length) (i:=i) (k:=i+1) (by omega) (by omega) (fun j a b=>by
     obtain rfl:j=i:=by omega
     omega)
    rw[this]at hq;exact cc (i+1) (by simp) ⟨by omega,hq,fun _=>by simp;omega⟩ (by omega)
  ·obtain rfl:i=c.length:=by omega
   have h2:((c.length:Int)-1).toNat=c.length-1:=by omega
   rw[Nat.sub_self,tN]at hq;simp +contextual (disch:=omega) [-getElem?_pos,wrap64,bo (l:=c),h2];exact hq)
theorem Tn{c:List Pt}(h:Cv c)(x:Int)(G:List aW):bt F 165 [im c,i64 x] G=some (i64 (ia c x),G) :=
 cg rfl rfl (by
  have hp:=h.pos;have hf:=h.kc;generalize hW:ia c x=W;simp (disch:=omega) [-getElem?_pos,wrap64,aku,bo (l:=c)];refine b9 (fun h1=>?_) (fun h1=>?_)
  ·rw[y3 h h1]at hW
   exact hW
  ·refine go_loop (fun i:Nat=>acE (im c) x (i+1) G) (fun i=>i+1≤c.length∧(nth c i).x≤x) (fun i=>c.length-i) 0 rfl (by simp) ⟨by omega,by omega⟩ ?_
   rintro i ⟨hi,hl⟩;simp (disch:=omega) [-getElem?_pos,wrap64,SB];refine b9 (fun h2=>?_) (fun h2=>?_)
   ·have h2:i+1<c.length:=by omega
    have h3:((i:Int)+1).toNat=i+1:=by omega
    simp (disch:=omega) [-getElem?_pos,wrap64,bo (l:=c),h3];refine b9 (fun h4=>?_) (fun h4=>?_)
    ·have h7:=DX h (i:=i+1) (x:=x) (by omega) h2 (by simpa using hl) (by omega)
     have h8:=h.up (i+1) (by omega) h2
     have fW:=h.x0 (i+1) h2;have ma:=h.x0 i (by omega)
     have rm:=h.y0 (i+1) h2;have Tm:=h.y0 i (by omega)
     rw[uK h (i:=i+1) (by omega) h2 (by simpa using hl) (by omega),od]at hW
     simp only[Nat.add_sub_cancel]at h7 h8 hW;have Mc:(nth c (i+1)).x-(nth c i).x≠0:=by omega
     simp (disch:=omega) [-getElem?_pos,wrap64,bo (l:=c),Mc];exact hW
    ·exact cc (i+1) (by simp) ⟨by omega,by omega⟩ (by omega)
   ·obtain rfl:c.length-1=i:=by omega
    have h3:((c.length:Int)-1).toNat=c.length-1:=by omega
    rw[ajG h hl]at hW;simp (disch:=omega) [-getElem?_pos,wrap64,bo (l:=c),h3];exact hW)
theorem Md(c:List Pt)(x:Int)(G:List aW):bt F 119 [im c,i64 x] G=some (.tuple [i64 (if gd c=0 then ia c x else 0),i64 (gd c)],G) :=
 cg rfl rfl (by
  by_cases h:gd c=0
  ·simp[wrap64,Gk,lq,h,Tn (lJ h)]
  ·simp[wrap64,Gk,lq,h])
structure Rs where
 c:List Pt
 d:Int
 l:Int
 f:Int
 s:Int
 t:Int
abbrev Rs.cells(r:Rs):List V:=[im r.c,i64 r.d,i64 r.l,i64 r.f,i64 r.s,i64 r.t]
def qN(c:List Pt)(i:Nat):Int:=if (nth c i).y≤(nth c (i-1)).y then 4 else 0
def qO(r:Rs):List Int:=[(nth r.c 0).x,r.d,r.l,r.f,r.s,r.t,(nth r.c (r.c.length-1)).x]
def oV(l:List Int)(i:Nat):Int:=if nth l i<nth l (i-1) then 4 else 0
def ib(r:Rs):Int :=
 if gd r.c≠0 then gd r.c else if r.c.length<2 then 3 else if 16777216<(nth r.c (r.c.length-1)).x then 1
 else if ed (qN r.c) (r.c.length-1) 1=0 then ed (oV (qO r)) (7-1) 1 else 4
theorem TX{c:List Pt}(h:gd c=0):c.length≤100:=by
 unfold gd at h;split at h
 ·cases h
 ·split at h
  ·cases h
  ·omega
theorem TY(r:Rs)(G:List aW):bt F 128 [.agg r.cells] G=some (i64 (ib r),G) :=
 cg rfl rfl (by
  generalize hW:ib r=W;unfold ib at hW;simp (disch:=omega) [-getElem?_pos,wrap64,K8,mS];refine gT (fun h=>?_) (fun h=>?_)
  ·simp[-List.length_eq_zero_iff,-Int.natCast_eq_zero]at h
   rw[if_pos (by omega)]at hW
   exact hW
  ·simp[-List.length_eq_zero_iff,-Int.natCast_eq_zero]at h
   rw[if_neg (by omega)]at hW
   refine b9 (fun h2=>?_) (fun h2=>?_)
   ·rw[if_pos (by omega)]at hW
    simpa using hW
   ·rw[if_neg (by omega)]at hW
    have h3:((r.c.length:Int)-1).toNat=r.c.length-1:=by omega
    have h4:r.c.length-1<r.c.length:=by omega
    have h5:0≤(r.c.length:Int)-1:=by omega
    have hl:=TX h;simp (disch:=omega) [-getElem?_pos,wrap64,bo (l:=r.c),h3,h4,h5];refine b9 (fun h6=>?_) (fun h6=>?_)
    ·rw[if_pos (by omega)]at hW
     simpa using hW
    ·rw[if_neg (by omega)]at hW
     have hq:(if ed (qN r.c) (r.c.length-1) 1=0 then ed (oV (qO r)) (7-1) 1 else (4:Int))=W:=hW
     clear hW
     refine go_loop (fun i:Nat=>abU r.c.length i r.cells G) (fun i=>1≤i∧i≤r.c.length∧(if ed (qN r.c) (r.c.length-i) i=0 then ed (oV (qO r)) (7-1) 1 else (4:Int))=W) (fun i=>r.c.length-i) 1 rfl (by simp) ⟨by omega,by omega,hq⟩ ?_
     rintro i ⟨ME,hi,hq⟩;simp (disch:=omega) [-getElem?_pos,wrap64,Sa];refine b9 (fun h7=>?_) (fun h7=>?_)
     ·have h7:i<r.c.length:=by omega
      rw[l7 h7]at hq;have h8:((i:Int)-1).toNat=i-1:=by omega
      have h9:i-1<r.c.length:=by omega
      have fW:0≤(i:Int)-1:=by omega
      simp (disch:=omega) [-getElem?_pos,wrap64,bo (l:=r.c),h8,h9,fW,h7];refine b9 (fun ma=>?_) (fun ma=>?_)
      ·have e:qN r.c i=4:=by rw[qN,if_pos ma]
       rw[e]at hq;simpa using hq
      ·have e:qN r.c i=0:=by rw[qN,if_neg ma]
       rw[e,if_pos rfl]at hq;exact cc (i+1) (by simp) ⟨by omega,by omega,hq⟩ (by omega)
     ·have h7:i=r.c.length:=by omega
      subst h7;rw[mR]at hq;rw[if_pos rfl]at hq;simp (disch:=omega) [-getElem?_pos,wrap64,bo (l:=r.c),h3,h4,h5];have hL:(qO r).length=7:=rfl;have hO:[V.int IntKind.i64 (nth r.c 0).x,V.int IntKind.i64 r.d,V.int IntKind.i64 r.l,V.int IntKind.i64 r.f,V.int IntKind.i64 r.s,V.int IntKind.i64 r.t,V.int IntKind.i64 (nth r.c (r.c.length-1)).x]=(qO r).map (V.int .i64):=rfl;rw[hO];generalize qO r=L at hq hL ⊢;refine go_loop (fun i:Nat=>abW i (L.map (V.int .i64)) G) (fun i=>1≤i∧i≤7∧ed (oV L) (7-i) i=W) (fun i=>7-i) 1 rfl (by simp) ⟨by omega,by omega,hq⟩ ?_
      rintro j ⟨nD,hj,hq⟩;simp (disch:=omega) [-getElem?_pos,wrap64,Sb];refine b9 (fun h7=>?_) (fun h7=>?_)
      ·have h7:j<7:=by omega
       rw[l7 h7]at hq;have h8:((j:Int)-1).toNat=j-1:=by omega
       have h9:j-1<L.length:=by omega
       have fW:0≤(j:Int)-1:=by omega
       have ma:j<L.length:=by omega
       simp (disch:=omega) [-getElem?_pos,wrap64,bo (l:=L),h8,h9,fW,h7,ma,hL];refine b9 (fun rm=>?_) (fun rm=>?_)
       ·have e:oV L j=4:=by rw[oV,if_pos rm]
        rw[e]at hq;simpa using hq
       ·have e:oV L j=0:=by rw[oV,if_neg rm]
        rw[e,if_pos rfl]at hq;exact cc (j+1) (by simp) ⟨by omega,by omega,hq⟩ (by omega)
      ·have h7:j=7:=by omega
       subst h7;simpa [ed] using hq)
theorem qP{r:Rs}(h:ib r=0):gd r.c=0:=by
 unfold ib at h;split at h
 ·rename_i h1;exact h
 ·rename_i h1;exact Decidable.of_not_not h1
theorem TZ{c:List Pt}(h:Cv c):∀{m i:Nat},i+m<c.length→(nth c i).x≤(nth c (i+m)).x
 |0,i,_=>by simp
 |m+1,i,hi=>by
  have h1:=TZ h (m:=m) (i:=i) (by omega)
  have h2:=h.up (i+m+1) (by omega) (by omega)
  have h3:i+m+1-1=i+m:=by omega
  rw[h3]at h2;have h4:i+(m+1)=i+m+1:=by omega
  rw[h4];omega
theorem xl(r:Rs)(G:List aW):bt F 131 [.agg r.cells] G=some (i64 (ib r),G) :=
 cg rfl rfl (by
  generalize hW:ib r=W;unfold ib at hW;by_cases h:gd r.c=0
  ·rw[if_neg (by omega)]at hW
   have hl:=TX h;simp (disch:=omega) [-getElem?_pos,wrap64,Gn,lq,h];refine b9 (fun h2=>?_) (fun h2=>?_)
   ·rw[if_pos (by omega)]at hW
    simpa using hW
   ·rw[if_neg (by omega)]at hW
    have h3:((r.c.length:Int)-1).toNat=r.c.length-1:=by omega
    have h4:r.c.length-1<r.c.length:=by omega
    have h5:0≤(r.c.length:Int)-1:=by omega
    refine go_loop (fun i:Nat=>ab3 r.c.length (im r.c) r.c.length i r.cells G) (fun i=>i≤r.c.length∧∀j,j<i→(nth r.c j).x≤16777216) (fun i=>r.c.length-i) 0 rfl (by simp) ⟨by omega,by omega⟩ ?_
    rintro i ⟨hi,hz⟩;simp (disch:=omega) [-getElem?_pos,wrap64,Se];refine b9 (fun h6=>?_) (fun h6=>?_)
    ·have h6:i<r.c.length:=by omega
     simp (disch:=omega) [-getElem?_pos,wrap64,bo (l:=r.c),h6];refine b9 (fun h7=>?_) (fun h7=>?_)
     ·have h8:=TZ (lJ h) (m:=r.c.length-1-i) (i:=i) (by omega)
      rw[show i+(r.c.length-1-i)=r.c.length-1 by omega]at h8
      rw[if_pos (by omega)]at hW
      simpa using hW
     ·exact cc (i+1) (by simp) ⟨by omega,fun j hj=>by rcases Nat.lt_or_ge j i with h|h;exact hz j h;rw[show j=i by omega];omega⟩ (by omega)
    ·have h6:i=r.c.length:=by omega
     subst h6;have h8:=hz (r.c.length-1) (by omega)
     rw[if_neg (by omega)]at hW
     have hq:(if ed (qN r.c) (r.c.length-1) 1=0 then ed (oV (qO r)) (7-1) 1 else (4:Int))=W:=hW
     clear hW
     refine go_loop (fun i:Nat=>ab5 r.c.length i r.cells G) (fun i=>1≤i∧i≤r.c.length∧(if ed (qN r.c) (r.c.length-i) i=0 then ed (oV (qO r)) (7-1) 1 else (4:Int))=W) (fun i=>r.c.length-i) 1 rfl (by simp) ⟨by omega,by omega,hq⟩ ?_
     rintro i ⟨ME,hi,hq⟩;simp (disch:=omega) [-getElem?_pos,wrap64,Sf];refine b9 (fun h7=>?_) (fun h7=>?_)
     ·have h7:i<r.c.length:=by omega
      rw[l7 h7]at hq;have h8:((i:Int)-1).toNat=i-1:=by omega
      have h9:i-1<r.c.length:=by omega
      have fW:0≤(i:Int)-1:=by omega
      simp (disch:=omega) [-getElem?_pos,wrap64,bo (l:=r.c),h8,h9,fW,h7];refine b9 (fun ma=>?_) (fun ma=>?_)
      ·have e:qN r.c i=4:=by rw[qN,if_pos ma]
       rw[e]at hq;simpa using hq
      ·have e:qN r.c i=0:=by rw[qN,if_neg ma]
       rw[e,if_pos rfl]at hq;exact cc (i+1) (by simp) ⟨by omega,by omega,hq⟩ (by omega)
     ·have h7:i=r.c.length:=by omega
      subst h7;rw[mR]at hq;rw[if_pos rfl]at hq;simp (disch:=omega) [-getElem?_pos,wrap64,bo (l:=r.c),h3,h4,h5];have hL:(qO r).length=7:=rfl;have hO:[[V.int IntKind.i64 (nth r.c 0).x],[V.int IntKind.i64 r.d],[V.int IntKind.i64 r.l],[V.int IntKind.i64 r.f],[V.int IntKind.i64 r.s],[V.int IntKind.i64 r.t],[V.int IntKind.i64 (nth r.c (r.c.length-1)).x]]=(qO r).map (fun n=>[V.int .i64 n]):=rfl;rw[hO];generalize qO r=L at hq hL ⊢
      refine go_loop (fun i:Nat=>ab7 (.slice none 1 (L.map (fun n=>[V.int .i64 n]))) i G) (fun i=>1≤i∧i≤7∧ed (oV L) (7-i) i=W) (fun i=>7-i) 1 rfl (by simp) ⟨by omega,by omega,hq⟩ ?_
      rintro j ⟨nD,hj,hq⟩;simp (disch:=omega) [-getElem?_pos,wrap64,Sg,hL];refine b9 (fun h7=>?_) (fun h7=>?_)
      ·have h7:j<7:=by omega
       rw[l7 h7]at hq;have h8:((j:Int)-1).toNat=j-1:=by omega
       have h9:j-1<L.length:=by omega
       have fW:0≤(j:Int)-1:=by omega
       have ma:j<L.length:=by omega
       simp (disch:=omega) [-getElem?_pos,wrap64,bo (l:=L),h8,h9,fW,h7,ma,hL];refine b9 (fun rm=>?_) (fun rm=>?_)
       ·have e:oV L j=4:=by rw[oV,if_pos rm]
        rw[e]at hq;simpa using hq
       ·have e:oV L j=0:=by rw[oV,if_neg rm]
        rw[e,if_pos rfl]at hq;exact cc (j+1) (by simp) ⟨by omega,by omega,hq⟩ (by omega)
      ·have h7:j=7:=by omega
       subst h7;simpa [ed] using hq
  ·rw[if_pos h]at hW
   simp (disch:=omega) [-getElem?_pos,wrap64,Gn,lq,h];exact hW)
def qQ(r:Rs)(l:Int):Int:=if ib r≠0 then ib r else if 0≤l∧l≤16777216 then 0 else 1
theorem ahj{r:Rs}{l:Int}(h:qQ r l=0):ib r=0:=by
 unfold qQ at h;split at h
 ·exact h
 ·rename_i h1;exact Decidable.of_not_not h1
theorem T3(r:Rs)(l:Int)(G:List aW):bt F 118 [.agg r.cells,i64 l] G=some (i64 (qQ r l),G) :=
 cg rfl rfl (by
  by_cases h:ib r=0
  ·by_cases h1:0≤l
   ·by_cases h2:l≤16777216
    ·simp[wrap64,Bf,xl,h,h1,h2,c5,qQ]
    ·simp[wrap64,Bf,xl,h,h1,h2,c5,qQ]
   ·simp[wrap64,Bf,xl,h,h1,c5,qQ]
  ·simp[wrap64,Bf,xl,h,qQ])
theorem Ea(r:Rs)(l:Int)(G:List aW):bt F 59 [.agg r.cells,i64 l] G=some (.tuple [i64 (if qQ r l=0 then ia r.c l else 0),i64 (qQ r l)],G) :=
 cg rfl rfl (by
  by_cases h:qQ r l=0
  ·simp[wrap64,F8,T3,h,Md,qP (ahj h)]
  ·simp[wrap64,F8,T3,h])
def zC(c:List Pt)(y:Int)(i:Nat):Int :=
 (nth c i).x+((y-(nth c i).y+1)*((nth c (i+1)).x-(nth c i).x)-1).tdiv ((nth c (i+1)).y-(nth c i).y)
def qe(c:List Pt)(y:Int):Nat→Nat→Int
 |0,_=>(nth c (c.length-1)).x
 |m+1,i=>if y<(nth c (i+1)).y then zC c y i else qe c y m (i+1)
def uP(c:List Pt)(y:Int):Int:=qe c y (c.length-1) 0
theorem ahk{c:List Pt}{y:Int}{i n:Nat}(h:i<n):qe c y (n-i) i=if y<(nth c (i+1)).y then zC c y i else qe c y (n-(i+1)) (i+1):=by
 obtain⟨m,hm⟩:∃m,n-i=m+1:=⟨n-i-1,by omega⟩
 rw[hm,qe,show n-(i+1)=m by omega]
theorem T4{c:List Pt}(h:gd c=0)(y:Int)(G:List aW) :
  bt F 203 [im c,i64 y] G=some (.tuple [i64 (if y<(nth c 0).y then 0 else uP c y),.bool (decide ((nth c 0).y≤y)),i64 0],G) :=
 cg rfl rfl (by
  have hc:=lJ h;have hp:=hc.pos;have hl:=hc.kc;simp (disch:=omega) [-getElem?_pos,wrap64,LS,mS,h,bo (l:=c),hp];refine b9 (fun h1=>⟨fun h2=>absurd h1 (by omega),h1⟩) (fun h1=>?_)
  have hT:(List.take c.length (List.map Pt.row c)).tail=c.tail.map Pt.row:=by
   rw[List.take_of_length_le (by simp),List.map_tail]
  have hTl:c.tail.length=c.length-1:=by simp
  have T5:∀i,nth c.tail i=nth c (i+1):=fun i=>by simp[nth]
  rw[hT];generalize c.tail=T at hTl T5 ⊢;refine go_loop (fun i:Nat=>adn (im c) y (.slice none 2 (T.map Pt.row)) ((c.length-1:Nat):Int) i G) (fun i=>i≤c.length-1∧qe c y (c.length-1-i) i=uP c y∧(nth c i).y≤y) (fun i=>c.length-1-i) 0 rfl (by simp) ⟨by omega,rfl,by omega⟩ ?_
  rintro i ⟨hi,hq,hy⟩;simp (disch:=omega) [-getElem?_pos,wrap64,SX];refine b9 (fun h2=>?_) (fun h2=>?_)
  ·have h2:i<c.length-1:=by omega
   rw[ahk h2]at hq;have h3:i<T.length:=by omega
   have h4:i<c.length:=by omega
   simp (disch:=omega) [-getElem?_pos,wrap64,bo (l:=T),bo (l:=c),h3,h4,T5];refine b9 (fun h5=>?_) (fun h5=>?_)
   ·rw[if_pos h5]at hq
    have y1:=hc.y0 i h4;have y2:=hc.y0 (i+1) (by omega)
    have x1:=hc.x0 i h4;have x2:=hc.x0 (i+1) (by omega)
    have u1:=hc.up (i+1) (by omega) (by omega)
    have u2:=hc.prod (i+1) (by omega) (by omega)
    simp only[Nat.add_sub_cancel]at u1 u2;have a1:(y-(nth c i).y+1)*((nth c (i+1)).x-(nth c i).x)≤((nth c (i+1)).y-(nth c i).y)*((nth c (i+1)).x-(nth c i).x):=Int.mul_le_mul_of_nonneg_right (by omega) (by omega)
    have a2:0<(y-(nth c i).y+1)*((nth c (i+1)).x-(nth c i).x):=Int.mul_pos (by omega) (by omega)
    have b1:0≤((y-(nth c i).y+1)*((nth c (i+1)).x-(nth c i).x)-1).tdiv ((nth c (i+1)).y-(nth c i).y):=Int.tdiv_nonneg (by omega) (by omega)
    have b2:((y-(nth c i).y+1)*((nth c (i+1)).x-(nth c i).x)-1).tdiv ((nth c (i+1)).y-(nth c i).y)≤(y-(nth c i).y+1)*((nth c (i+1)).x-(nth c i).x)-1:=Int.tdiv_le_self _ (by omega)
    have d0:¬ (nth c (i+1)).y-(nth c i).y=0:=by omega
    have e0:¬ y<(nth c 0).y:=h1;have e1:(nth c 0).y≤y:=by omega
    simp (disch:=omega) [-getElem?_pos,wrap64,wrap64,d0,e0,e1];rw[←hq];rfl
   ·rw[if_neg h5]at hq
    exact cc (i+1) (by simp) ⟨by omega,hq,by omega⟩ (by omega)
  ·have h2:i=c.length-1:=by omega
   subst h2;have h4:c.length-1<c.length:=by omega
   have h5:((c.length:Int)-1).toNat=c.length-1:=by omega
   have e0:¬ y<(nth c 0).y:=h1;have e1:(nth c 0).y≤y:=by omega
   rw[Nat.sub_self]at hq;simp (disch:=omega) [-getElem?_pos,wrap64,bo (l:=c),h4,h5,e0,e1];rw[←hq];rfl)
def jt(r:Rs)(v:Int):Int:=if v<(nth r.c 0).y then (nth r.c 0).x else uP r.c v
theorem ahm{r:Rs}(h:ib r=0)(v:Int)(G:List aW):bt F 196 [.agg r.cells,i64 v] G=some (i64 (jt r v),G) :=
 cg rfl rfl (by
  have hp:=(lJ (qP h)).pos;by_cases h1:v<(nth r.c 0).y
  ·have h2:¬ (nth r.c 0).y≤v:=by omega
   simp[-getElem?_pos,wrap64,GM,T4 (qP h),h1,h2,bo (l:=r.c),hp,jt]
  ·have h2:(nth r.c 0).y≤v:=by omega
   simp[-getElem?_pos,wrap64,GM,T4 (qP h),h1,h2,bo (l:=r.c),hp,jt])
structure Bd where
 lo:Int
 hi:Int
 deriving Inhabited,DecidableEq
abbrev Bd.row(b:Bd):List V:=[i64 b.lo,i64 b.hi]
abbrev y4(l:List Bd):V:=.slice none 2 (l.map Bd.row)
structure Un where
 table:List Pt
 least:Int
 dI:Int
 fM:List Bd
 up:Int
 down:Int
 deriving Inhabited,DecidableEq
abbrev Un.row(u:Un):List V:=[im u.table,i64 u.least,i64 u.dI,y4 u.fM,i64 u.up,i64 u.down]
abbrev un(u:Un):V:=.agg u.row
def ky(z:List Bd)(i:Nat):Int :=
 if ¬((0≤(nth z i).lo∧(nth z i).lo≤1073741824)∧0≤(nth z i).hi∧(nth z i).hi≤1073741824) then 1 else if (nth z i).hi≤(nth z i).lo then 4 else 0
def gV(u:Un):Int :=
 if gd u.table≠0 then gd u.table
 else if 1073741824<(nth u.table (u.table.length-1)).y then 1
 else if u.least<1∨u.dI<u.least∨1073741824<u.dI then 1
 else if 10<u.fM.length then 10
 else if ed (ky u.fM) u.fM.length 0≠0 then ed (ky u.fM) u.fM.length 0
 else if ¬((0≤u.up∧u.up≤1000)∧0≤u.down∧u.down≤1000) then 1 else 0
theorem rD{c:List Pt}(h:gd c=0):0<c.length:=(lJ h).pos
theorem qH(u:Un)(G:List aW):bt F 129 [un u] G=some (i64 (gV u),G) :=
 cg rfl rfl (by
  obtain⟨c,least,dI,z,up,down⟩:=u;generalize hW:gV ⟨c,least,dI,z,up,down⟩=W;unfold gV at hW;simp only at hW;by_cases hc:gd c=0
  ·have hp:=rD hc
   have hf:=(lJ hc).kc;have h2:((c.length:Int)-1).toNat=c.length-1:=by omega
   rw[if_neg (by simpa using hc)]at hW
   simp +contextual (disch:=omega) [-getElem?_pos,wrap64,Gm,mS,hc,bo (l:=c),h2];refine b9 (fun h3=>?_) (fun h3=>?_)
   ·rw[if_pos (by omega)]at hW
    exact hW
   refine gT (fun h4=>?_) (fun h4=>?_)
   ·simp[-List.length_eq_zero_iff,-Int.natCast_eq_zero]at h4
    rw[if_neg (by omega),if_pos (by omega)]at hW
    exact hW
   simp[-List.length_eq_zero_iff,-Int.natCast_eq_zero]at h4;rw[if_neg (by omega),if_neg (by omega)]at hW
   refine b9 (fun h5=>?_) (fun h5=>?_)
   ·rw[if_pos (by omega)]at hW
    exact hW
   rw[if_neg (by omega)]at hW
   refine go_loop (fun i:Nat=>abY (y4 z) z.length i [im c,i64 least,i64 dI,y4 z,i64 up,i64 down] G) (fun i=>i≤z.length∧ed (ky z) (z.length-i) i=ed (ky z) z.length 0) (fun i=>z.length-i) 0 rfl (by simp) ⟨by omega,rfl⟩ ?_
   rintro i ⟨hi,hq⟩;simp +contextual (disch:=omega) [-getElem?_pos,wrap64,Sc];refine b9 (fun h1=>?_) (fun h1=>?_)
   ·have h1:i<z.length:=by omega
    rw[l7 h1]at hq;simp +contextual (disch:=omega) [-getElem?_pos,wrap64,bo (l:=z),dG];refine gT (fun h6=>?_) (fun h6=>?_)
    ·simp +contextual (disch:=omega) [-getElem?_pos,wrap64,h6,dG]
     simp[-List.length_eq_zero_iff,-Int.natCast_eq_zero]at h6;rw[show ky z i=1 by rw[ky,if_pos (by omega)],if_neg (by decide)]at hq
     rw[←hq,if_pos (by decide)]at hW
     exact hW
    ·simp +contextual (disch:=omega) [-getElem?_pos,wrap64,h6,dG]
     simp[-List.length_eq_zero_iff,-Int.natCast_eq_zero]at h6;refine gT (fun h7=>?_) (fun h7=>b9 (fun h8=>?_) (fun h8=>?_))
     ·simp[-List.length_eq_zero_iff,-Int.natCast_eq_zero]at h7
      rw[show ky z i=1 by rw[ky,if_pos (by omega)],if_neg (by decide)]at hq
      rw[←hq,if_pos (by decide)]at hW
      exact hW
     ·simp[-List.length_eq_zero_iff,-Int.natCast_eq_zero]at h7
      rw[show ky z i=4 by rw[ky,if_neg (by omega),if_pos (by omega)],if_neg (by decide)]at hq
      rw[←hq,if_pos (by decide)]at hW
      exact hW
     ·simp[-List.length_eq_zero_iff,-Int.natCast_eq_zero]at h7
      rw[show ky z i=0 by rw[ky,if_neg (by omega),if_neg (by omega)],if_pos rfl]at hq
      exact cc (i+1) (by simp) ⟨by omega,hq⟩ (by omega)
   ·obtain rfl:i=z.length:=by omega
    rw[mR]at hq;rw[←hq,if_neg (by decide)]at hW
    simp +contextual (disch:=omega) [-getElem?_pos,wrap64,dG];refine gT (fun h6=>?_) (fun h6=>?_)
    ·simp +contextual (disch:=omega) [-getElem?_pos,wrap64,h6,dG]
     simp[-List.length_eq_zero_iff,-Int.natCast_eq_zero]at h6;rw[if_pos (by omega)]at hW
     exact hW
    ·simp +contextual (disch:=omega) [-getElem?_pos,wrap64,h6,dG]
     simp[-List.length_eq_zero_iff,-Int.natCast_eq_zero]at h6;refine gT (fun h7=>?_) (fun h7=>?_)
     ·simp[-List.length_eq_zero_iff,-Int.natCast_eq_zero]at h7
      rw[if_pos (by omega)]at hW
      exact hW
     ·simp[-List.length_eq_zero_iff,-Int.natCast_eq_zero]at h7
      rw[if_neg (by omega)]at hW
      exact hW
  ·rw[if_pos (by simpa using hc)]at hW
   simp +contextual (disch:=omega) [-getElem?_pos,wrap64,Gm,mS,hc];exact hW)
theorem mA(u:Un)(G:List aW):bt F 132 [un u] G=some (i64 (gV u),G) :=
 cg rfl rfl (by
  obtain⟨c,least,dI,z,up,down⟩:=u;generalize hW:gV ⟨c,least,dI,z,up,down⟩=W;unfold gV at hW;simp only at hW;by_cases hc:gd c=0
  ·have hp:=rD hc
   have hf:=(lJ hc).kc;have h2:((c.length:Int)-1).toNat=c.length-1:=by omega
   rw[if_neg (by simpa using hc)]at hW
   simp +contextual (disch:=omega) [-getElem?_pos,wrap64,Gp,lq,hc,bo (l:=c),h2];refine gT (fun h4=>?_) (fun h4=>?_)
   ·simp[-List.length_eq_zero_iff,-Int.natCast_eq_zero]at h4
    by_cases h3:1073741824<(nth c (c.length-1)).y
    ·rw[if_pos h3]at hW
     exact hW
    ·rw[if_neg h3,if_pos (by omega)]at hW
     exact hW
   simp[-List.length_eq_zero_iff,-Int.natCast_eq_zero]at h4;rw[if_neg (by omega),if_neg (by omega)]at hW
   refine b9 (fun h5=>?_) (fun h5=>?_)
   ·rw[if_pos (by omega)]at hW
    exact hW
   rw[if_neg (by omega)]at hW
   refine go_loop (fun i:Nat=>ab9 (y4 z) z.length i [im c,i64 least,i64 dI,y4 z,i64 up,i64 down] G) (fun i=>i≤z.length∧ed (ky z) (z.length-i) i=ed (ky z) z.length 0) (fun i=>z.length-i) 0 rfl (by simp) ⟨by omega,rfl⟩ ?_
   rintro i ⟨hi,hq⟩;simp +contextual (disch:=omega) [-getElem?_pos,wrap64,Sj];refine b9 (fun h1=>?_) (fun h1=>?_)
   ·have h1:i<z.length:=by omega
    rw[l7 h1]at hq;simp +contextual (disch:=omega) [-getElem?_pos,wrap64,bo (l:=z),c5];refine gT (fun h6=>?_) (fun h6=>?_)
    ·simp +contextual (disch:=omega) [-getElem?_pos,wrap64,h6,c5]
     simp[-List.length_eq_zero_iff,-Int.natCast_eq_zero]at h6;rw[show ky z i=1 by rw[ky,if_pos (by omega)],if_neg (by decide)]at hq
     rw[←hq,if_pos (by decide)]at hW
     exact hW
    ·simp +contextual (disch:=omega) [-getElem?_pos,wrap64,h6,c5]
     simp[-List.length_eq_zero_iff,-Int.natCast_eq_zero]at h6;refine gT (fun h7=>?_) (fun h7=>b9 (fun h8=>?_) (fun h8=>?_))
     ·simp[-List.length_eq_zero_iff,-Int.natCast_eq_zero]at h7
      rw[show ky z i=1 by rw[ky,if_pos (by omega)],if_neg (by decide)]at hq
      rw[←hq,if_pos (by decide)]at hW
      exact hW
     ·simp[-List.length_eq_zero_iff,-Int.natCast_eq_zero]at h7
      rw[show ky z i=4 by rw[ky,if_neg (by omega),if_pos (by omega)],if_neg (by decide)]at hq
      rw[←hq,if_pos (by decide)]at hW
      exact hW
     ·simp[-List.length_eq_zero_iff,-Int.natCast_eq_zero]at h7
      rw[show ky z i=0 by rw[ky,if_neg (by omega),if_neg (by omega)],if_pos rfl]at hq
      exact cc (i+1) (by simp) ⟨by omega,hq⟩ (by omega)
   ·obtain rfl:i=z.length:=by omega
    rw[mR]at hq;rw[←hq,if_neg (by decide)]at hW
    simp +contextual (disch:=omega) [-getElem?_pos,wrap64,c5];refine gT (fun h6=>?_) (fun h6=>?_)
    ·simp +contextual (disch:=omega) [-getElem?_pos,wrap64,h6,c5]
     simp[-List.length_eq_zero_iff,-Int.natCast_eq_zero]at h6;rw[if_pos (by omega)]at hW
     exact hW
    ·simp +contextual (disch:=omega) [-getElem?_pos,wrap64,h6,c5]
     simp[-List.length_eq_zero_iff,-Int.natCast_eq_zero]at h6;refine gT (fun h7=>?_) (fun h7=>?_)
     ·simp[-List.length_eq_zero_iff,-Int.natCast_eq_zero]at h7
      rw[if_pos (by omega)]at hW
      exact hW
     ·simp[-List.length_eq_zero_iff,-Int.natCast_eq_zero]at h7
      rw[if_neg (by omega)]at hW
      exact hW
  ·rw[if_pos (by simpa using hc)]at hW
   simp +contextual (disch:=omega) [-getElem?_pos,wrap64,Gp,lq,hc];exact hW)
structure Uv(u:Un):Prop where
 cv:Cv u.table
 top:(nth u.table (u.table.length-1)).y≤1073741824
 least:1≤u.least
 dI:u.least≤u.dI
 Me:u.dI≤1073741824
 kc:u.fM.length≤10
 G7:∀i,i<u.fM.length→(0≤(nth u.fM i).lo∧(nth u.fM i).hi≤1073741824)∧(nth u.fM i).lo<(nth u.fM i).hi
 up:0≤u.up∧u.up≤1000
 down:0≤u.down∧u.down≤1000
 mT:gd u.table=0
theorem oS{u:Un}(h:gV u=0):Uv u:=by
 unfold gV at h;split at h
 ·contradiction
 ·split at h
  ·cases h
  ·split at h
   ·cases h
   ·split at h
    ·cases h
    ·split at h
     ·contradiction
     ·split at h
      ·cases h
      ·rename_i h1 h2 h3 h4 h5 h6
       have h1:gd u.table=0:=Decidable.of_not_not h1;have h5:ed (ky u.fM) u.fM.length 0=0:=Decidable.of_not_not h5;refine⟨lJ h1,by omega,by omega,by omega,by omega,by omega,fun i hi=>?_,by omega,by omega,h1⟩
       have h7:=sE h5 i (by omega) (by omega)
       unfold ky at h7;split at h7
       ·cases h7
       ·split at h7
        ·cases h7
        ·omega
def ins(u:Un)(q:Int):Prop:=∃i,i<u.fM.length∧(nth u.fM i).lo<q∧q<(nth u.fM i).hi
theorem To{u:Un}(hu:Uv u)(q:Int)(G:List aW) :
  ∃r,bt F 221 [un u,i64 q] G=some (i64 r,G)∧q≤r∧¬ins u r∧(∀t,q≤t→t<r→ins u t)∧(r=q∨r≤1073741824):=by
 suffices h:jq (bt F) 221 [un u,i64 q] G fun v G'=>G'=G∧∃r,v=i64 r∧q≤r∧¬ins u r∧(∀t,q≤t→t<r→ins u t)∧(r=q∨r≤1073741824) by
  obtain⟨_,_,h,rfl,r,rfl,h2⟩:=h;exact⟨r,h,h2⟩
 refine jV rfl rfl ?_;have hz:=hu.G7;have hf:=hu.kc;simp +contextual (disch:=omega) [-getElem?_pos,wrap64,L1];refine go_loop (fun r:Int=>adJ r u.row G) (fun r=>q≤r∧(∀t,q≤t→t<r→ins u t)∧(r=q∨r≤1073741824)) (fun r=>(1073741824-r).toNat) q rfl (by simp) ⟨by omega,by omega,.inl rfl⟩ ?_
 rintro r ⟨h1,h2,h3⟩;simp +contextual (disch:=omega) [-getElem?_pos,wrap64,Ta];refine go_loop (fun i:Nat=>adH r (y4 u.fM) u.fM.length i u.row G) (fun i=>i≤u.fM.length∧∀j,j<i→¬((nth u.fM j).lo<r∧r<(nth u.fM j).hi)) (fun i=>u.fM.length-i) 0 rfl (by simp) ⟨by omega,by omega⟩ ?_
 rintro i ⟨hi,hn⟩;simp +contextual (disch:=omega) [-getElem?_pos,wrap64,S9];refine b9 (fun h4=>?_) (fun h4=>?_)
 ·have h4:i<u.fM.length:=by omega
  have h5:=hz i h4;simp +contextual (disch:=omega) [-getElem?_pos,wrap64,bo (l:=u.fM)];refine gT (fun h6=>?_) (fun h6=>?_)
  ·simp[-List.length_eq_zero_iff,-Int.natCast_eq_zero]at h6
   refine cc (nth u.fM i).hi (by simp) ⟨by omega,fun t ha hb=>?_,by omega⟩ (by omega)
   by_cases h7:t<r
   ·exact h2 t ha h7
   ·exact⟨i,h4,by omega,hb⟩
  ·simp[-List.length_eq_zero_iff,-Int.natCast_eq_zero]at h6
   refine cc (i+1) (by simp) ⟨by omega,fun j hj=>?_⟩ (by omega)
   rcases Nat.lt_or_ge j i with h7|h7
   ·have:=hn j h7;omega
   ·obtain rfl:j=i:=by omega
    omega
 ·obtain rfl:i=u.fM.length:=by omega
  exact⟨h1,fun⟨j,hj,h5,h6⟩=>hn j hj ⟨h5,h6⟩,h2,h3⟩
theorem Tp{u:Un}(hu:Uv u)(q:Int)(G:List aW) :
  (∃e,bt F 190 [un u,i64 q] G=some (.tuple [i64 e,.bool true],G)∧ins u q∧q<e∧e≤1073741824∧∀t,q≤t→t<e→ins u t) ∨
  (bt F 190 [un u,i64 q] G=some (.tuple [i64 0,.bool false],G)∧¬ins u q):=by
 suffices h:jq (bt F) 190 [un u,i64 q] G fun v G'=>G'=G∧((∃e,v=.tuple [i64 e,.bool true]∧ins u q∧q<e∧e≤1073741824∧∀t,q≤t→t<e→ins u t)∨v=.tuple [i64 0,.bool false]∧¬ins u q) by
  obtain⟨_,_,h,rfl,⟨e,rfl,h2⟩ | ⟨rfl,h2⟩⟩:=h
  ·exact .inl ⟨e,h,h2⟩
  ·exact .inr ⟨h,h2⟩
 refine jV rfl rfl ?_;have hz:=hu.G7;have hf:=hu.kc;simp +contextual (disch:=omega) [-getElem?_pos,wrap64,LJ];refine go_loop (fun i:Nat=>ac5 q (y4 u.fM) u.fM.length i G) (fun i=>i≤u.fM.length∧∀j,j<i→¬((nth u.fM j).lo<q∧q<(nth u.fM j).hi)) (fun i=>u.fM.length-i) 0 rfl (by simp) ⟨by omega,by omega⟩ ?_
 rintro i ⟨hi,hn⟩;simp +contextual (disch:=omega) [-getElem?_pos,wrap64,SQ];refine b9 (fun h4=>?_) (fun h4=>?_)
 ·have h4:i<u.fM.length:=by omega
  have h5:=hz i h4;simp +contextual (disch:=omega) [-getElem?_pos,wrap64,bo (l:=u.fM)];refine gT (fun h6=>?_) (fun h6=>?_)
  ·simp[-List.length_eq_zero_iff,-Int.natCast_eq_zero]at h6
   exact⟨⟨i,h4,by omega,by omega⟩,by omega,by omega,fun t ha hb=>⟨i,h4,by omega,hb⟩⟩
  ·simp[-List.length_eq_zero_iff,-Int.natCast_eq_zero]at h6
   refine cc (i+1) (by simp) ⟨by omega,fun j hj=>?_⟩ (by omega)
   rcases Nat.lt_or_ge j i with h7|h7
   ·have:=hn j h7;omega
   ·obtain rfl:j=i:=by omega
    omega
 ·obtain rfl:i=u.fM.length:=by omega
  rintro⟨j,hj,h5,h6⟩;exact hn j hj ⟨h5,h6⟩
structure Us where
 cq:Int
 since:Int
 out:Bool
 deriving Inhabited,DecidableEq
abbrev Us.row(s:Us):List V:=[i64 s.cq,i64 s.since,.bool s.out]
abbrev us(s:Us):V:=.agg s.row
def oe(u:Un)(q:Int):Prop:=u.least≤q∧q≤u.dI∧¬ins u q
noncomputable instance aoW{u:Un}{q:Int}:Decidable (oe u q):=Classical.propDecidable _
noncomputable instance aoX{u:Un}{q:Int}:Decidable (ins u q):=Classical.propDecidable _
theorem xg{u:Un}(hu:Uv u)(q:Int)(G:List aW):bt F 209 [un u,i64 q] G=some (.bool (decide (oe u q)),G) :=
 cg rfl rfl (by
  obtain⟨r,h1,h2,h3,h4,_⟩:=To hu q [];have key:decide (oe u q)=(decide (u.least≤q)&&decide (q≤u.dI)&&decide (r=q)):=by
   rw[Bool.eq_iff_iff];simp only[decide_eq_true_eq,Bool.and_eq_true];constructor
   ·rintro⟨a,b,d⟩
    refine⟨⟨a,b⟩,Decidable.byContradiction fun cF=>d (h4 q (by omega) (by omega))⟩
   ·rintro⟨⟨a,b⟩,rfl⟩
    exact⟨a,b,h3⟩
  rw[key];simp +contextual [wrap64,LV,h1];refine gT (fun h5=>?_) (fun h5=>?_)
  ·simp +contextual [wrap64,h5,h1]
  ·simp +contextual [wrap64,h5,h1])
theorem vP(u:Un)(q:Int)(G:List aW):bt F 175 [un u,i64 q] G=some (.bool (decide (gV u=0∧oe u q)),G) :=
 cg rfl rfl (by
  generalize hW:decide (gV u=0∧oe u q)=W;by_cases hc:gV u=0
  ·simp +contextual [wrap64,GC,mA,hc]
   refine gT (fun h1=>?_) (fun h1=>?_)
   ·simp[-List.length_eq_zero_iff,-Int.natCast_eq_zero]at h1
    rw[←hW,decide_eq_false (fun h=>by have:=h.2.1;have:=h.2.2.1;omega)]
   ·simp[-List.length_eq_zero_iff,-Int.natCast_eq_zero]at h1
    rcases Tp (oS hc) q []with⟨e,h2,h3,_⟩ | ⟨h2,h3⟩
    ·simp +contextual [wrap64,h2]
     rw[←hW,decide_eq_false (fun h=>h.2.2.2 h3)]
    ·simp +contextual [wrap64,h2]
     rw[←hW,decide_eq_true ⟨hc,by omega,by omega,h3⟩]
  ·simp +contextual [wrap64,GC,mA,hc]
   rw[←hW,decide_eq_false (fun h=>hc h.1)])
def fe(u:Un)(s:Us):Prop:=gV u=0∧(0≤s.since∧s.since≤1000)∧(s.cq=0∨s.out=false∧oe u s.cq)
def jC(u:Un)(s:Us)(q:Int):Prop:=if q=0 then (0<s.cq→u.up≤s.since) else s.out=false∧¬(s.cq=0∧s.since<u.down)∧oe u q
noncomputable instance aoY{u:Un}{s:Us}:Decidable (fe u s):=Classical.propDecidable _
noncomputable instance aoZ{u:Un}{s:Us}{q:Int}:Decidable (jC u s q):=Classical.propDecidable _
theorem Mf{u:Un}(hc:gV u=0)(s:Us)(G:List aW):bt F 202 [un u,us s] G=some (.bool (decide (fe u s)),G) :=
 cg rfl rfl (by
  obtain⟨cq,since,out⟩:=s;generalize hW:decide (fe u ⟨cq,since,out⟩)=W;have e:fe u ⟨cq,since,out⟩↔(0≤since∧since≤1000)∧(cq=0∨out=false∧oe u cq):=by simp[fe,hc]
  by_cases h1:0≤since∧since≤1000
  ·by_cases h2:cq=0
   ·simp[wrap64,Bl,dG,xg (oS hc),h1.1,h1.2,h2]
    rw[←hW,decide_eq_true (e.2 ⟨h1,.inl h2⟩)]
   ·cases out with
    |true =>
     simp[wrap64,Bl,dG,xg (oS hc),h1.1,h1.2,h2];rw[←hW,decide_eq_false (fun h=>by have:=(e.1 h).2;simp[h2]at this)]
    |false =>
     simp[wrap64,Bl,dG,xg (oS hc),h1.1,h1.2,h2];rw[←hW];simp[e,h1,h2]
  ·have h3:(decide (0≤since)&&decide (since≤1000))=false:=by simp;omega
   simp[wrap64,Bl,dG,xg (oS hc),h3];rw[←hW,decide_eq_false (fun h=>h1 (e.1 h).1)])
theorem xh(u:Un)(s:Us)(G:List aW):bt F 192 [un u,us s] G=some (.bool (decide (fe u s)),G) :=
 cg rfl rfl (by
  generalize hW:decide (fe u s)=W;by_cases hc:gV u=0
  ·simp[wrap64,GK,qH,hc,Mf hc]
   exact hW
  ·simp[wrap64,GK,qH,hc]
   rw[←hW,decide_eq_false (fun h=>hc h.1)])
theorem uL(u:Un)(s:Us)(G:List aW):bt F 135 [un u,us s] G=some (.bool (decide (fe u s)),G) :=
 cg rfl rfl (by
  obtain⟨cq,since,out⟩:=s;generalize hW:decide (fe u ⟨cq,since,out⟩)=W;by_cases hc:gV u=0
  ·have e:fe u ⟨cq,since,out⟩↔(0≤since∧since≤1000)∧(cq=0∨out=false∧oe u cq):=by simp[fe,hc]
   by_cases h1:0≤since∧since≤1000
   ·by_cases h2:cq=0
    ·simp[wrap64,yY,mA,c5,vP,hc,h1.1,h1.2,h2]
     rw[←hW,decide_eq_true (e.2 ⟨h1,.inl h2⟩)]
    ·by_cases h3:oe u cq
     ·simp[wrap64,yY,mA,c5,vP,hc,h1.1,h1.2,h2,h3]
      rw[←hW];simp[e,h1,h2,h3]
     ·simp[wrap64,yY,mA,c5,vP,hc,h1.1,h1.2,h2,h3]
      rw[←hW];simp[e,h1,h2,h3]
   ·have h3:(decide (0≤since)&&decide (since≤1000))=false:=by simp;omega
    simp[wrap64,yY,mA,c5,vP,hc,h3];rw[←hW,decide_eq_false (fun h=>h1 (e.1 h).1)]
  ·simp[wrap64,yY,mA,hc]
   rw[←hW,decide_eq_false (fun h=>hc h.1)])
theorem G8{u:Un}(hc:gV u=0){q:Int}(h:oe u q):1≤q:=by have:=(oS hc).least;have:=h.1;omega
theorem Mg{u:Un}{s:Us}(hv:fe u s)(q:Int)(G:List aW):bt F 220 [un u,us s,i64 q] G=some (.bool (decide (jC u s q)),G) :=
 cg rfl rfl (by
  obtain⟨hc,h1,h2⟩:=hv;obtain⟨cq,since,out⟩:=s;simp only at h1 h2;generalize hW:decide (jC u ⟨cq,since,out⟩ q)=W;simp only[jC]at hW;by_cases h3:q=0
  ·subst h3
   by_cases h4:0<cq
   ·simp[wrap64,xe,h4]
    rw[←hW];simp[h4]
   ·simp[wrap64,xe,h4]
    rw[←hW];simp[h4]
  ·simp only[h3,if_false]at hW
   cases out with
   |true =>
    simp[wrap64,xe,h3];rw[←hW];simp
   |false =>
    by_cases h5:cq=0
    ·by_cases h6:since<u.down
     ·simp[wrap64,xe,h3,h5,h6]
      rw[←hW];simp[h5];omega
     ·simp[wrap64,xe,h3,h5,h6,xg (oS hc)]
      rw[←hW];simp[h5];omega
    ·simp[wrap64,xe,h3,h5,xg (oS hc)]
     rw[←hW];simp[h5])
theorem agP(u:Un)(s:Us)(q:Int)(G:List aW):bt F 231 [un u,us s,i64 q] G=some (.bool (decide (fe u s∧jC u s q)),G) :=
 cg rfl rfl (by
  generalize hW:decide (fe u s∧jC u s q)=W;by_cases hv:fe u s
  ·simp[wrap64,GX,xh,hv,Mg hv]
   rw[←hW];simp[hv]
  ·simp[wrap64,GX,xh,hv]
   rw[←hW];simp[hv])
theorem Mh(u:Un)(s:Us)(q:Int)(G:List aW):bt F 170 [un u,us s,i64 q] G=some (.bool (decide (fe u s∧jC u s q)),G) :=
 cg rfl rfl (by
  generalize hW:decide (fe u s∧jC u s q)=W;have hV:=uL u s [];by_cases hv:fe u s
  ·obtain⟨hc,h1,h2⟩:=id hv
   obtain⟨cq,since,out⟩:=s;simp only[hv,decide_true]at hV;simp only at h1 h2;simp only[jC]at hW;have hf:cq=0∨0<cq:=by
    rcases h2 with h | ⟨_,h⟩
    ·exact .inl h
    ·have:=G8 hc h;omega
   by_cases h3:q=0
   ·subst h3
    by_cases h4:0<cq
    ·simp +contextual [wrap64,vO,hV,h4]
     rw[←hW];simp[h4,hv]
    ·simp +contextual [wrap64,vO,hV,h4]
     rw[←hW];simp[h4,hv]
   ·simp only[h3,if_false]at hW
    cases out with
    |true =>
     simp +contextual [wrap64,vO,hV,h3];rw[←hW];simp
    |false =>
     by_cases h5:oe u q
     ·have h6:=G8 hc h5
      have h8:0<q:=by omega
      rcases hf with h7|h7
      ·subst h7
       simp +contextual [wrap64,vO,hV,h3,vP,hc,h5,h8];rw[←hW];simp[hv,h5]
      ·have h9:¬cq=0:=by omega
       simp +contextual [wrap64,vO,hV,h3,vP,hc,h5,h8,h7,h9];rw[←hW];simp[hv,h5,h9]
     ·simp +contextual [wrap64,vO,hV,h3,vP,hc,h5]
      rw[←hW];simp[h5]
  ·simp +contextual [wrap64,vO,hV,hv]
   rw[←hW];simp[hv])
noncomputable def uM(u:Un)(q:Int):Int:=if gV u≠0 then gV u else if q=0∨oe u q then 0 else 1
noncomputable def pow(u:Un)(q:Int):Int:=if gV u=0∧q≠0∧oe u q then ia u.table q else 0
theorem D0(u:Un)(q:Int)(G:List aW):bt F 208 [un u,i64 q] G=some (.tuple [i64 (pow u q),i64 (uM u q)],G) :=
 cg rfl rfl (by
  by_cases hc:gV u=0
  ·by_cases h1:q=0
   ·simp[wrap64,UF,qH,hc,h1]
    simp[pow,uM,hc]
   ·by_cases h2:oe u q
    ·simp[wrap64,UF,qH,hc,h1,xg (oS hc),h2,ajJ (oS hc).cv]
     simp[pow,uM,hc,h1,h2]
    ·simp[wrap64,UF,qH,hc,h1,xg (oS hc),h2]
     simp[pow,uM,hc,h1,h2]
  ·simp[wrap64,UF,qH,hc]
   simp[pow,uM,hc])
theorem Mi(u:Un)(q:Int)(G:List aW):bt F 169 [un u,i64 q] G=some (.tuple [i64 (pow u q),i64 (uM u q)],G) :=
 cg rfl rfl (by
  by_cases hc:gV u=0
  ·by_cases h1:q=0
   ·simp[wrap64,Bi,mA,hc,h1]
    simp[pow,uM,hc]
   ·by_cases h2:oe u q
    ·simp[wrap64,Bi,mA,hc,h1,vP,h2,Md,(oS hc).mT]
     simp[pow,uM,hc,h1,h2]
    ·simp[wrap64,Bi,mA,hc,h1,vP,h2]
     simp[pow,uM,hc,h1,h2]
  ·simp[wrap64,Bi,mA,hc]
   simp[pow,uM,hc])
noncomputable def qI(u:Un)(s:Us)(q:Int):Int:=if gV u≠0 then gV u else if ¬fe u s then 3 else if ¬jC u s q then 15 else 0
def qJ(s:Us)(q:Int):Us:=⟨q,if decide (0<s.cq)=decide (0<q) then min 1000 (s.since+1) else 1,s.out⟩
theorem Mj(u:Un)(s:Us)(q:Int)(G:List aW):bt F 122 [un u,us s,i64 q] G =
  some (.tuple (if qI u s q=0 then [us (qJ s q),.bool (decide (s.cq=0)&&decide (0<q)),i64 0] else [us ⟨0,0,false⟩,.bool false,i64 (qI u s q)]),G) :=
 cg rfl rfl (by
  by_cases hc:gV u=0
  ·by_cases hv:fe u s
   ·by_cases hm:jC u s q
    ·have h1:=hv.2.1
     simp +contextual (disch:=omega) [wrap64,Bg,mA,uL,Mh,hc,hv,hm];have e:qI u s q=0:=by simp[qI,hc,hv,hm]
     refine gT (fun h=>?_) (fun h=>?_)
     ·simp at h
      simp[e,qJ,h]
     ·simp at h
      simp[e,qJ,h]
    ·simp +contextual (disch:=omega) [wrap64,Bg,mA,uL,Mh,hc,hv,hm]
     simp[qI,hc,hv,hm]
   ·simp +contextual (disch:=omega) [wrap64,Bg,mA,uL,hc,hv]
    simp[qI,hc,hv]
  ·simp +contextual (disch:=omega) [wrap64,Bg,mA,hc]
   simp[qI,hc])
noncomputable def fj(u:Un)(g:Int):List Int:=((List.range ((u.dI / g).toNat+1)).map fun k:Nat=>(k:Int)*g).filter fun q=>decide (oe u q)
noncomputable def below(u:Un)(g t:Int):List Int:=(fj u g).filter fun q=>decide (q<t)
theorem xi{u:Un}(hu:Uv u){g:Int}(hg:1≤g){q:Int}:q∈fj u g↔oe u q∧∃k:Nat,q=k*g:=by
 simp only[fj,List.mem_filter,List.mem_map,List.mem_range,decide_eq_true_eq];constructor
 ·rintro⟨⟨k,_,rfl⟩,h⟩
  exact⟨h,k,rfl⟩
 ·rintro⟨h,k,rfl⟩
  refine⟨⟨k,?_,rfl⟩,h⟩;have h1:=h.2.1;have:(k:Int)≤u.dI / g:=(Int.le_ediv_iff_mul_le (by omega)).2 h1
  omega
theorem agQ{u:Un}{g:Int}(hg:1≤g):(fj u g).Pairwise (· < ·):=by
 refine List.Pairwise.filter _ ?_;rw[List.pairwise_map];refine List.Pairwise.imp ?_ (List.pairwise_lt_range);intro a b qf;exact Int.mul_lt_mul_of_pos_right (by omega) (by omega)
theorem Tq{q:Int}:∀{l:List Int},l.Pairwise (· < ·)→q∈l→l.filter (fun x=>decide (x<q+1))=l.filter (fun x=>decide (x<q))++[q]
 |[],_,h=>by simp at h
 |a::l,hp,h=>by
  obtain⟨h1,h2⟩:=List.pairwise_cons.1 hp;rcases List.mem_cons.1 h with rfl|h3
  ·have e:∀t,t≤q+1→l.filter (fun x=>decide (x<t))=[]:=fun t ht=>by
    rw[List.filter_eq_nil_iff];intro b hb;have:=h1 b hb;simp;omega
   have h3:q<q+1:=by omega
   have h4:¬ q<q:=by omega
   simp[h3,e (q+1) (by omega),e q (by omega)]
  ·have:=h1 q h3
   have h4:a<q:=this;have h5:a<q+1:=by omega
   simp[h4,h5,Tq h2 h3]
theorem Mk{u:Un}{g q:Int}(hg:1≤g)(h:q∈fj u g):below u g (q+1)=below u g q++[q]:=Tq (agQ hg) h
theorem Ml{u:Un}{g t t':Int}(h:∀q∈fj u g,t≤q→q<t'→False)(hle:t≤t'):below u g t=below u g t':=by
 refine List.filter_congr fun q hq=>?_;have:=h q hq;by_cases h1:q<t
 ·have:q<t':=by omega
  simp[h1,this]
 ·have h2:¬ q<t':=fun h2=>this (by omega) h2
  simp[h1,h2]
theorem Ts{u:Un}{g t:Int}(h:∀q∈fj u g,q<t):below u g t=fj u g:=by
 refine List.filter_eq_self.2 fun q hq=>?_;simp[h q hq]
theorem Mm{u:Un}{g t:Int}(h:t≤u.least):below u g t=[]:=by
 refine List.filter_eq_nil_iff.2 fun q hq=>?_;simp only[fj,List.mem_filter,decide_eq_true_eq]at hq;have:=hq.2.1;simp;omega
theorem Tt{u:Un}{g q:Int}(hg:1≤g)(h:q∈fj u g):(below u g q).length<(fj u g).length:=by
 have h1:=Mk hg h;have h2:(below u g (q+1)).length≤(fj u g).length:=List.length_filter_le _ _;rw[h1]at h2;simp at h2;omega
def sG(q g:Int):Int:=(q+g-1).tdiv g*g
theorem G9{q g:Int}(hq:0≤q)(hg:1≤g):q≤sG q g∧sG q g≤q+g-1∧(∃k:Nat,sG q g=k*g)∧∀k:Nat,q≤k*g→sG q g≤k*g:=by
 unfold sG;rw[Int.tdiv_eq_ediv_of_nonneg (by omega)]
 have h1:=Int.ediv_mul_le (q+g-1) (b:=g) (by omega)
 have h2:=Int.lt_ediv_add_one_mul_self (q+g-1) (b:=g) (by omega)
 have h3:0≤(q+g-1) / g:=Int.ediv_nonneg (by omega) (by omega)
 rw[Int.add_mul,Int.one_mul]at h2;refine⟨by omega,h1,⟨((q+g-1) / g).toNat,by rw[Int.toNat_of_nonneg h3]⟩,fun k hk=>?_⟩
 refine Int.mul_le_mul_of_nonneg_right ?_ (by omega)
 refine Int.not_lt.1 fun h4=>?_;have h5:((k:Int)+1)*g≤(q+g-1) / g*g:=Int.mul_le_mul_of_nonneg_right (by omega) (by omega)
 rw[Int.add_mul,Int.one_mul]at h5;omega
theorem Mn{u:Un}(hu:Uv u){g q:Int}(hq:0≤q)(hg:1≤g):below u g q=below u g (sG q g):=by
 obtain⟨h1,_,_,h4⟩:=G9 hq hg;refine Ml (fun x hx a b=>?_) h1;obtain⟨_,k,rfl⟩:=(xi hu hg).1 hx;have:=h4 k a;omega
theorem Tu{u:Un}(hu:Uv u){g q r:Int}(hg:1≤g)(h:∀t,q≤t→t<r→ins u t)(hle:q≤r):below u g q=below u g r :=
 Ml (fun x hx a b=>((xi hu hg).1 hx).1.2.2 (h x a b)) hle
theorem agR{u:Un}(hu:Uv u){g q:Int}(hg:1≤g)(hq:∃k:Nat,q=k*g):below u g (q+1)=below u g (q+g):=by
 refine Ml (fun x hx a b=>?_) (by omega)
 obtain⟨_,k,rfl⟩:=(xi hu hg).1 hx;obtain⟨m,rfl⟩:=hq;have h1:(m:Int)<k:=by
  refine Int.not_le.1 fun h=>?_;have:=Int.mul_le_mul_of_nonneg_right h (show 0≤g by omega)
  omega
 have h2:((m:Int)+1)*g≤k*g:=Int.mul_le_mul_of_nonneg_right (by omega) (by omega)
 rw[Int.add_mul,Int.one_mul]at h2;omega
noncomputable def gA(u:Un)(g:Int):Int:=if gV u≠0 then gV u else if g<1∨1073741824<g then 1 else if 200<(fj u g).length then 10 else 0
noncomputable def mU(u:Un)(g:Int):List Int:=if gA u g=0 then fj u g else []
abbrev own(l:List Int):V:=.slice (some 0) 1 (l.map fun n=>[i64 n])
theorem Mo(u:Un)(g:Int)(G:List aW):bt F 228 [un u,i64 g] G=some (.tuple [own (mU u g),i64 (gA u g)],G) :=
 cg rfl rfl (by
  by_cases hc:gV u=0
  ·simp +contextual (disch:=omega) [wrap64,GW,qH,hc]
   refine gT (fun h1=>?_) (fun h1=>?_)
   ·simp[-List.length_eq_zero_iff,-Int.natCast_eq_zero]at h1
    have e:gA u g=1:=by simp[gA,hc,h1]
    simp[mU,e]
   ·simp[-List.length_eq_zero_iff,-Int.natCast_eq_zero]at h1
    have hu:=oS hc;have m1:=hu.least;have m2:=hu.dI;have m3:=hu.Me;have hg:1≤g:=h1.1;refine go_loop (fun f:Int=>adW g (.slice (some 1049) 1 ((below u g f).map fun n=>[i64 n])) f u.row (below u g f).length G) (fun f=>u.least≤f∧f≤1073741825∧(below u g f).length≤200) (fun f=>(1073741826-f).toNat) u.least rfl (by simp[Mm]) (by simp[Mm];omega) ?_
    rintro f ⟨FF,AN,CU⟩;obtain⟨r1,r2,r3,r4⟩:=G9 (q:=f) (g:=g) (by omega) hg
    have r5:=Mn hu (q:=f) (g:=g) (by omega) hg
    have r6:(f+g-1).tdiv g*g=sG f g:=rfl;have d1:0≤(f+g-1).tdiv g:=Int.tdiv_nonneg (by omega) (by omega)
    have d2:(f+g-1).tdiv g≤f+g-1:=by
     have:=Int.tdiv_le_self (a:=f+g-1) g (by omega)
     omega
    have g0:¬g=0:=by omega
    generalize sG f g=Z at r1 r2 r3 r4 r5 r6;simp +contextual (disch:=omega) [wrap64,Ti,g0,r6];refine b9 (fun h2=>?_) (fun h2=>?_)
    ·have hb:below u g f=fj u g:=Ts fun q hq=>by
      rw[xi hu hg]at hq;obtain⟨hq,k,rfl⟩:=hq;have:=hq.2.1;refine Int.not_le.1 fun h=>?_;have:=r4 k h;omega
     have e:gA u g=0:=by simp[gA,hc];rw[hb]at CU;omega
     rw[hb];simp[mU,e]
    ·obtain⟨r,s1,s2,s3,s4,s5⟩:=To hu Z []
     simp +contextual (disch:=omega) [wrap64,s1];refine gT (fun h3=>?_) (fun h3=>?_)
     ·simp[-List.length_eq_zero_iff,-Int.natCast_eq_zero]at h3
      have hb:below u g f=below u g r:=by rw[r5,Tu hu hg s4 s2]
      refine cc r (by rw[hb];simp) ⟨by omega,by omega,by rwa [←hb]⟩ (by omega)
     ·simp[-List.length_eq_zero_iff,-Int.natCast_eq_zero]at h3
      subst h3;have hm:r∈fj u g:=(xi hu hg).2 ⟨⟨by omega,by omega,s3⟩,r3⟩
      have hb:below u g (r+1)=below u g f++[r]:=by rw[r5,Mk hg hm]
      refine b9 (fun h4=>?_) (fun h4=>?_)
      ·have:=Tt hg hm
       have e:gA u g=10:=by
        simp only[gA,hc,ne_eq,not_true,if_false];rw[if_neg (by omega),if_pos (by rw[←r5]at this;omega)]
       simp[mU,e]
      ·refine cc (r+1) (by rw[hb];simp) ⟨by omega,by omega,by rw[hb];simp;omega⟩ (by omega)
  ·have e:gA u g=gV u:=by simp[gA,hc]
   simp +contextual (disch:=omega) [wrap64,GW,qH,hc];simp[mU,e,hc])
theorem Br(u:Un)(g:Int)(G:List aW):bt F 194 [un u,i64 g] G=some (.tuple [own (mU u g),i64 (gA u g)],G) :=
 cg rfl rfl (by
  by_cases hc:gV u=0
  ·simp +contextual (disch:=omega) [wrap64,GL,mA,hc]
   refine gT (fun h1=>?_) (fun h1=>?_)
   ·simp[-List.length_eq_zero_iff,-Int.natCast_eq_zero]at h1
    have e:gA u g=1:=by simp[gA,hc,h1]
    simp[mU,e]
   ·simp[-List.length_eq_zero_iff,-Int.natCast_eq_zero]at h1
    have hu:=oS hc;have m1:=hu.least;have m2:=hu.dI;have m3:=hu.Me;have hg:1≤g:=h1.1;have g0:¬g=0:=by omega
    obtain⟨r1,r2,r3,r4⟩:=G9 (q:=u.least) (g:=g) (by omega) hg
    have r5:=Mn hu (q:=u.least) (g:=g) (by omega) hg
    have r6:(u.least+g-1).tdiv g*g=sG u.least g:=rfl;have d1:0≤(u.least+g-1).tdiv g:=Int.tdiv_nonneg (by omega) (by omega)
    have d2:(u.least+g-1).tdiv g≤u.least+g-1:=by
     have:=Int.tdiv_le_self (a:=u.least+g-1) g (by omega)
     omega
    rw[Mm (by omega)]at r5
    generalize sG u.least g=Z at r1 r2 r3 r4 r5 r6;simp +contextual (disch:=omega) [wrap64,g0,r6];refine go_loop (fun f:Int=>ac7 g (.slice (some 1056) 1 ((below u g f).map fun n=>[i64 n])) f u.row (below u g f).length G) (fun f=>u.least≤f∧f≤2147483648∧(∃k:Nat,f=k*g)∧(below u g f).length≤200) (fun f=>(2147483649-f).toNat) Z rfl (by simp[←r5]) ⟨by omega,by omega,r3,by rw[←r5];simp⟩ ?_
    rintro f ⟨FF,AN,hf4,CU⟩;simp +contextual (disch:=omega) [wrap64,SR];refine b9 (fun h2=>?_) (fun h2=>?_)
    ·rcases Tp hu f []with⟨e,s1,s2,s3,s4,s5⟩ | ⟨s1,s2⟩
     ·obtain⟨p1,p2,p3,p4⟩:=G9 (q:=e) (g:=g) (by omega) hg
      have p5:=Mn hu (q:=e) (g:=g) (by omega) hg
      have p6:(e+g-1).tdiv g*g=sG e g:=rfl;have t1:0≤(e+g-1).tdiv g:=Int.tdiv_nonneg (by omega) (by omega)
      have t2:(e+g-1).tdiv g≤e+g-1:=by
       have:=Int.tdiv_le_self (a:=e+g-1) g (by omega)
       omega
      generalize sG e g=E at p1 p2 p3 p4 p5 p6;simp +contextual (disch:=omega) [wrap64,s1,g0,p6];have hb:below u g f=below u g E:=by rw[←p5];exact Tu hu hg s5 (by omega)
      exact cc E (by rw[hb];simp) ⟨by omega,by omega,p3,by rwa [←hb]⟩ (by omega)
     ·have hm:f∈fj u g↔u.least≤f:=by
       rw[xi hu hg];exact⟨fun h=>h.1.1,fun h=>⟨⟨h,by omega,s2⟩,hf4⟩⟩
      have hm:=hm.2 FF;have hb:below u g (f+g)=below u g f++[f]:=by rw[←agR hu hg hf4,Mk hg hm]
      simp +contextual (disch:=omega) [wrap64,s1];refine b9 (fun h4=>?_) (fun h4=>?_)
      ·have:=Tt hg hm
       have e:gA u g=10:=by
        simp only[gA,hc,ne_eq,not_true,if_false];rw[if_neg (by omega),if_pos (by omega)]
       simp[mU,e]
      ·refine cc (f+g) (by rw[hb];simp) ⟨by omega,by omega,?_,by rw[hb];simp;omega⟩ (by omega)
       obtain⟨k,hk⟩:=hf4;exact⟨k+1,by rw[hk];simp[Int.add_mul]⟩
    ·have hb:below u g f=fj u g:=Ts fun q hq=>by
      rw[xi hu hg]at hq;have:=hq.1.2.1;omega
     have e:gA u g=0:=by simp[gA,hc];rw[hb]at CU;omega
     rw[hb];simp[mU,e]
  ·have e:gA u g=gV u:=by simp[gA,hc]
   simp +contextual (disch:=omega) [wrap64,GL,mA,hc];simp[mU,e,hc])
theorem iS{α:Type}[Inhabited α]{l:List α}{a:α}{i:Nat}:nth (l++[a]) i=if i<l.length then nth l i else if i=l.length then a else default:=by
 simp only[nth,List.getD,List.getElem?_append];split
 ·rfl
 ·split
  ·rename_i h;subst h;simp
  ·rename_i h1 h2
   rw[List.getElem?_eq_none (by simp;omega)]
   rfl
structure Cw(c:List Pt)(x y dx dy least:Int):Prop where
 pos:0<c.length
 kc:c.length≤5
 first:nth c 0=⟨x,y⟩
 step:∀i,0<i→i<c.length→((nth c (i-1)).x<(nth c i).x∧(nth c i).x≤(nth c (i-1)).x+dx)∧(nth c (i-1)).y+least≤(nth c i).y∧(nth c i).y≤(nth c (i-1)).y+dy
theorem Cw.up{c:List Pt}{x y dx dy least:Int}(h:Cw c x y dx dy least)(h0:0≤x∧x≤1000)(h1:0≤y∧y≤1000)(h2:0≤dx∧dx≤1000)(h3:0≤dy∧dy≤1000)(h4:0≤least) :
  ∀i:Nat,i<c.length→(0≤(nth c i).x∧(nth c i).x≤1000+1000*(i:Int))∧0≤(nth c i).y∧(nth c i).y≤1000+1000*(i:Int):=by
 intro i;induction i with
 |zero=>intro hi;have:=h.first;rw[this];simp;omega
 |succ i ih =>
  intro hi;have a:=ih (by omega)
  have b:=h.step (i+1) (by omega) hi
  simp only[Nat.add_sub_cancel]at b;omega
theorem Cw.mT{c:List Pt}{x y dx dy least:Int}(h:Cw c x y dx dy least)(h0:0≤x∧x≤1000)(h1:0≤y∧y≤1000)(h2:0≤dx∧dx≤1000)(h3:0≤dy∧dy≤1000)(h4:0≤least):gd c=0:=by
 have hp:=h.pos;have hf:=h.kc;unfold gd;rw[if_neg (by omega),if_neg (by omega)]
 refine rC fun i _ hi=>?_;have a:=h.up h0 h1 h2 h3 h4 i (by omega)
 unfold g6;rw[if_neg (by omega)]
 split
 ·rfl
 ·have b:=h.step i (by omega) (by omega)
  rw[if_neg (by omega),if_neg]
  rw[Int.tdiv_eq_ediv_of_nonneg (by omega)]
  generalize hu:(nth c i).x-(nth c (i-1)).x=u;generalize hv:(nth c i).y-(nth c (i-1)).y=v;refine Int.not_lt.2 ((Int.le_ediv_iff_mul_le (by omega)).2 ?_)
  have:v*u≤1000*1000:=Int.mul_le_mul (by omega) (by omega) (by omega) (by omega)
  omega
abbrev opts(c:List Pt):V:=.slice (some 0) 2 (c.map Pt.row)
theorem Mp{l:List Int}{k:Nat}(hd:eM l k){x y dx dy:Int}(strict:Bool)(h0:0≤x∧x≤1000)(h1:0≤y∧y≤1000)(h2:1≤dx∧dx≤1000)(h3:1≤dy∧dy≤1000) :
  ∃c k',bt F 179 [.bO 0 0,i64 x,i64 y,i64 dx,i64 dy,.bool strict] [dk l k]=some (opts c,[dk l k'])∧eM l k'∧2≤c.length∧Cw c x y dx dy (if strict then 1 else 0):=by
 suffices h:jq (bt F) 179 [.bO 0 0,i64 x,i64 y,i64 dx,i64 dy,.bool strict] [dk l k] fun v G=>∃c k',v=opts c∧G=[dk l k']∧eM l k'∧2≤c.length∧Cw c x y dx dy (if strict then 1 else 0) by
  obtain⟨_,_,h,c,k',rfl,rfl,h1⟩:=h;exact⟨c,k',h,h1⟩
 generalize hL:(if strict then 1 else 0:Int)=L
 have hL1:0≤L∧L≤1:=by rw[←hL];cases strict<;>simp
 refine jV rfl rfl ?_;obtain⟨a,k1,n1,kd,ha⟩:=gU hd 4 (by omega)
 have main:∀K:cH,(∀c k',eM l k'→2≤c.length→Cw c x y dx dy L→∀z,K (.exit 0) ⟨[(0,.bO 0 0),(1,i64 (nth c (c.length-1)).x),(2,i64 (nth c (c.length-1)).y),(3,i64 dx),(4,i64 dy),(13,i64 L),(14,.slice (some 1020) 2 (c.map Pt.row)),(15,i64 0),(25,z)],[],[(1020,c.length)],[dk l k']⟩) →
   go (bt F) SK (SL (.bO 0 0) x y dx dy L (.slice (some 1020) 2 [Pt.row ⟨x,y⟩]) (1+a) 1 [dk l k1]) K:=by
  intro K hK;refine go_loop (fun s:List Pt×Int×Nat=>SL (.bO 0 0) (nth s.1 (s.1.length-1)).x (nth s.1 (s.1.length-1)).y dx dy L (.slice (some 1020) 2 (s.1.map Pt.row)) s.2.1 s.1.length [dk l s.2.2])
   (fun s=>Cw s.1 x y dx dy L∧(0<s.2.1∨2≤s.1.length)∧0≤s.2.1∧(s.1.length:Int)+s.2.1≤5∧eM l s.2.2) (fun s=>s.2.1.toNat) ([⟨x,y⟩],1+a,k1) rfl (by simp[nth]) ⟨⟨by simp,by simp,rfl,fun i a b=>by simp at b;omega⟩,by simp;omega,by simp;omega,by simp;omega,kd⟩ ?_
  rintro⟨c,m,k⟩ ⟨hc,D1,hm2,Ha,hd⟩;simp only at hc D1 hm2 Ha hd;have hp:=hc.pos;have hu:=hc.up h0 h1 ⟨by omega,h2.2⟩ ⟨by omega,h3.2⟩ hL1.1 (c.length-1) (by omega)
  obtain⟨p,k2,n2,ik,hp2⟩:=gU hd dx (by omega)
  obtain⟨q,k3,n3,mV,hq⟩:=gU ik dy (by omega)
  simp (disch:=omega) [wrap64,SJ];refine b9 (fun h4=>?_) (fun h4=>?_)
  ·simp (disch:=omega) [wrap64,n2,n3]
   refine cc (c++[⟨(nth c (c.length-1)).x+1+p,(nth c (c.length-1)).y+L+q⟩],m-1,k3) (by simp[iS]) ⟨⟨by simp,by simp;omega,?_,fun i hi hj=>?_⟩,by simp;omega,by simp;omega,by simp;omega,mV⟩ (by simp;omega)
   ·rw[iS,if_pos hp];exact hc.first
   ·simp at hj
    rw[iS,iS];by_cases qK:i<c.length
    ·rw[if_pos (by omega),if_pos (by omega)]
     exact hc.step i hi qK
    ·obtain rfl:i=c.length:=by omega
     rw[if_pos (by omega),if_neg (by omega),if_pos rfl]
     simp only;omega
  ·obtain rfl:m=0:=by omega
   exact hK c k hd (by omega) hc _
 cases strict with
 |true =>
  simp at hL;subst hL;simp (disch:=omega) [wrap64,GD,n1];refine main _ fun c k' q1 q2 q3 z=>?_;simp (disch:=omega) [wrap64,wrap64];exact⟨c,rfl,k',rfl,q1,q2,q3⟩
 |false =>
  simp at hL;subst hL;simp (disch:=omega) [wrap64,GD,n1];refine main _ fun c k' q1 q2 q3 z=>?_;simp (disch:=omega) [wrap64,wrap64];exact⟨c,rfl,k',rfl,q1,q2,q3⟩
structure Uw(u:Un):Prop where
 table:Cw u.table 0 0 10 30 0
 two:2≤u.table.length
 least:1≤u.least∧u.least≤8
 dI:u.least≤u.dI∧u.dI≤19
 kc:u.fM.length≤2
 G7:∀i,i<u.fM.length→(0≤(nth u.fM i).lo∧(nth u.fM i).hi≤20)∧(nth u.fM i).lo<(nth u.fM i).hi
 up:0≤u.up∧u.up≤2
 down:0≤u.down∧u.down≤2
theorem Uw.mT{u:Un}(h:Uw u):gV u=0:=by
 have c:=h.table.mT (by omega) (by omega) (by omega) (by omega) (by omega)
 have hp:=h.table.pos;have hf:=h.table.kc;have hu:=h.table.up (by omega) (by omega) (by omega) (by omega) (by omega) (u.table.length-1) (by omega)
 have a1:=h.least;have a2:=h.dI;have a3:=h.kc;have a4:=h.up;have a5:=h.down;have z:ed (ky u.fM) u.fM.length 0=0:=rC fun i _ hi=>by
  have:=h.G7 i (by omega)
  rw[ky,if_neg (by omega),if_neg (by omega)]
 unfold gV;rw[if_neg (by omega),if_neg (by omega),if_neg (by omega),if_neg (by omega),if_neg (by omega),if_neg (by omega)]
abbrev Ty(u:Un):V:=.agg [im u.table,i64 u.least,i64 u.dI,.slice (some 0) 2 (u.fM.map Bd.row),i64 u.up,i64 u.down]
theorem agU{l:List Int}{k:Nat}(hd:eM l k):∃u k',bt F 180 [.bO 0 0] [dk l k]=some (Ty u,[dk l k'])∧eM l k'∧Uw u:=by
 suffices h:jq (bt F) 180 [.bO 0 0] [dk l k] fun v G=>∃u k',v=Ty u∧G=[dk l k']∧eM l k'∧Uw u by
  obtain⟨_,_,h,u,k',rfl,rfl,h1⟩:=h;exact⟨u,k',h,h1⟩
 refine jV rfl rfl ?_;obtain⟨c,k1,n1,kd,Ct,hc⟩:=Mp hd (x:=0) (y:=0) (dx:=10) (dy:=30) false (by omega) (by omega) (by omega) (by omega)
 obtain⟨a1,k2,n2,ik,Mq⟩:=gU kd 8 (by omega)
 obtain⟨a2,k3,n3,mV,Mr⟩:=gU ik 3 (by omega)
 obtain⟨a3,k4,n4,rE,Tz⟩:=gU mV 3 (by omega)
 obtain⟨a4,k5,n5,D2,TA⟩:=gU rE 12 (by omega)
 obtain⟨a5,k6,n6,D3,ha5⟩:=gU D2 3 (by omega)
 simp (disch:=omega) [wrap64,LC,n1,n2,n3,n4,n5,n6];refine go_loop (fun s:List Bd×Int×Nat=>acU (.bO 0 0) s.2.1 [.aK,i64 0,i64 0,.aK,i64 0,i64 0] [im c,i64 (1+a1),i64 (1+a1+a4),.slice (some 1040) 2 (s.1.map Bd.row),i64 a2,i64 a3] s.1.length [dk l s.2.2])
  (fun s=>(∀i,i<s.1.length→(0≤(nth s.1 i).lo∧(nth s.1 i).hi≤20)∧(nth s.1 i).lo<(nth s.1 i).hi)∧0≤s.2.1∧(s.1.length:Int)+s.2.1≤2∧eM l s.2.2) (fun s=>s.2.1.toNat) ([],a5,k6) rfl (by simp) ⟨fun i h=>by simp at h,by simp;omega,by simp;omega,D3⟩ ?_
 rintro⟨z,m,k⟩ ⟨hz,D1,hm2,hd⟩;simp only at hz D1 hm2 hd;obtain⟨b1,k7,n7,hd7,hb1⟩:=gU hd 16 (by omega)
 obtain⟨b2,k8,n8,hd8,Dc⟩:=gU hd7 5 (by omega)
 simp (disch:=omega) [wrap64,SM];refine b9 (fun h4=>?_) (fun h4=>?_)
 ·simp (disch:=omega) [wrap64,n7,n8]
  refine cc (z++[⟨b1,b1+1+b2⟩],m-1,k8) (by simp) ⟨fun i hi=>?_,by simp;omega,by simp;omega,hd8⟩ (by simp;omega)
  simp at hi;rw[iS];split
  ·exact hz i (by assumption)
  ·rw[if_pos (by omega)]
   simp only;omega
 ·refine⟨⟨c,1+a1,1+a1+a4,z,a2,a3⟩,⟨rfl,rfl,rfl,rfl,rfl,rfl⟩,k,rfl,hd,?_⟩
  exact⟨hc,Ct,by simp only;omega,by simp only;omega,by simp only;omega,hz,by simp only;omega,by simp only;omega⟩
theorem TB{u:Un}{g:Int}:(fj u g).length≤(u.dI / g).toNat+1:=by
 refine Nat.le_trans (List.length_filter_le _ _) ?_;simp
theorem Uw.gA{u:Un}(h:Uw u){g:Int}(h1:1≤g)(h2:g≤1073741824):gA u g=0:=by
 have a:=TB (u:=u) (g:=g);have b:=h.dI;have c:=h.least;have d:u.dI / g≤u.dI:=Int.ediv_le_self _ (by omega)
 unfold Go.Proofs.YtmpikpodpgnjhaaGreat.gA;rw[if_neg (by simp[h.mT]),if_neg (by omega),if_neg (by omega)]
theorem agX{l:List Int}{k:Nat}(hd:eM l k){u:Un}(hu:Uw u):∃s k',bt F 181 [.bO 0 0,un u] [dk l k]=some (us s,[dk l k'])∧eM l k'∧fe u s:=by
 suffices h:∀Q:V→List aW→Prop,(∀s k',eM l k'→fe u s→Q (us s) [dk l k'])→jq (bt F) 181 [.bO 0 0,un u] [dk l k] Q by
  obtain⟨_,_,h,s,k',rfl,rfl,h1⟩:=h (fun v G=>∃s k',v=us s∧G=[dk l k']∧eM l k'∧fe u s) fun s k' a b=>⟨s,k',rfl,rfl,a,b⟩;exact⟨s,k',h,h1⟩
 intro Q hQ;refine jV rfl rfl ?_;have hc:=hu.mT;have he:=hu.gA (g:=1) (by omega) (by omega)
 have hf:mU u 1=fj u 1:=by simp[mU,he]
 have Bs:=TB (u:=u) (g:=1);have hm:=hu.dI;obtain⟨a1,k1,n1,kd,Mq⟩:=gU hd 5 (by omega)
 obtain⟨a2,k2,n2,ik,Mr⟩:=gU kd 7 (by omega)
 obtain⟨a3,k3,n3,mV,Tz⟩:=gU ik 2 (by omega)
 obtain⟨a4,k4,n4,rE,TA⟩:=gU mV (fj u 1).length (by omega)
 have off:∀o,fe u ⟨0,a1,o⟩:=fun o=>⟨hc,by simp only;omega,.inl rfl⟩
 by_cases h1:0<(fj u 1).length
 ·by_cases h2:a2=6
  ·simp +contextual (disch:=omega) [-getElem?_pos,wrap64,Bk,n1,n2,Br,he,hf,h2]
   exact hQ ⟨0,a1,true⟩ k2 ik (off _)
  ·by_cases h3:a3=0
   ·have h4:a4.toNat<(fj u 1).length:=by omega
    simp +contextual (disch:=omega) [-getElem?_pos,wrap64,Bk,n1,n2,n3,n4,Br,he,hf,h2,h3,h1,eA h4];refine hQ ⟨nth (fj u 1) a4.toNat,a1,false⟩ k4 rE ⟨hc,by simp only;omega,.inr ⟨rfl,?_⟩⟩
    exact((xi (oS hc) (by omega)).1 (List.mem_of_getElem? (eA h4))).1
   ·simp +contextual (disch:=omega) [-getElem?_pos,wrap64,Bk,n1,n2,n3,Br,he,hf,h2,h3,h1]
    exact hQ ⟨0,a1,false⟩ k3 mV (off _)
 ·simp +contextual (disch:=omega) [-getElem?_pos,wrap64,Bk,n1,n2,Br,he,hf,h1]
  exact hQ ⟨0,a1,decide (a2=6)⟩ k2 ik (off _)
abbrev jX(l:List Un):V:=.slice none 6 (l.map Un.row)
abbrev jD(l:List Us):V:=.slice none 3 (l.map Us.row)
abbrev Ms(l:List Un):V:=.slice (some 0) 6 (l.map Un.row)
abbrev D4(l:List Us):V:=.slice (some 0) 3 (l.map Us.row)
structure D5(a:List Un)(b:List Us):Prop where
 len:a.length=b.length
 unit:∀i,i<a.length→Uw (nth a i)
 state:∀i,i<a.length→fe (nth a i) (nth b i)
theorem agY{l:List Int}{k:Nat}(hd:eM l k){m:Nat}(hm:m≤1000):∃a b k',bt F 155 [.bO 0 0,i64 m] [dk l k]=some (.tuple [Ms a,D4 b],[dk l k'])∧eM l k'∧D5 a b∧a.length≤m:=by
 suffices h:∀Q:V→List aW→Prop,(∀a b k',eM l k'→D5 a b→a.length≤m→Q (.tuple [Ms a,D4 b]) [dk l k'])→jq (bt F) 155 [.bO 0 0,i64 m] [dk l k] Q by
  obtain⟨_,_,h,a,b,k',rfl,rfl,h1⟩:=h (fun v G=>∃a b k',v=.tuple [Ms a,D4 b]∧G=[dk l k']∧eM l k'∧D5 a b∧a.length≤m) fun a b k' h1 h2 h3=>⟨a,b,k',rfl,rfl,h1,h2,h3⟩;exact⟨a,b,k',h,h1⟩
 intro Q hQ;refine jV rfl rfl ?_;obtain⟨n,k1,n1,kd,hn⟩:=gU hd (m+1) (by omega)
 simp (disch:=omega) [wrap64,Ln,n1];refine go_loop (fun s:List Un×List Us×Int×Nat=>acq (.bO 0 0) (.slice (some 1023) 6 (s.1.map Un.row)) (.slice (some 1029) 3 (s.2.1.map Us.row)) s.2.2.1 s.1.length s.2.1.length [dk l s.2.2.2])
  (fun s=>D5 s.1 s.2.1∧(s.1.length:Int)+s.2.2.1≤m∧0≤s.2.2.1∧eM l s.2.2.2) (fun s=>s.2.2.1.toNat) ([],[],n,k1) rfl (by simp) ⟨⟨rfl,by simp,by simp⟩,by simp;omega,by simp;omega,kd⟩ ?_
 rintro⟨a,b,n,k⟩ ⟨qf,h1,h2,hd⟩;simp only at qf h1 h2 hd;obtain⟨u,k2,n2,ik,hu⟩:=agU hd;obtain⟨s,k3,n3,mV,hs⟩:=agX ik hu;have hl:=qf.len;simp (disch:=omega) [wrap64,Su];refine b9 (fun h4=>?_) (fun h4=>?_)
 ·simp (disch:=omega) [wrap64,n2,n3]
  refine cc (a++[u],b++[s],n-1,k3) (by simp) ⟨⟨by simp[hl],fun i hi=>?_,fun i hi=>?_⟩,by simp;omega,by simp;omega,mV⟩ (by simp;omega)
  ·simp at hi
   rw[iS];split
   ·exact qf.unit i (by assumption)
   ·rw[if_pos (by omega)];exact hu
  ·simp at hi
   rw[iS,iS,← hl];split
   ·exact qf.state i (by assumption)
   ·rw[if_pos (by omega),if_pos (by omega)];exact hs
 ·exact hQ a b k hd qf (by omega)
structure Rt where
 lv:Int
 c:List Pt
 deriving Inhabited
abbrev Rt.row(r:Rt):List V:=[i64 r.lv,im r.c]
abbrev zF(l:List Rt):V:=.slice none 2 (l.map Rt.row)
structure Gt where
 r:List Rt
 dI:Int
 move:Int
 deriving Inhabited
abbrev Gt.row(g:Gt):List V:=[zF g.r,i64 g.dI,i64 g.move]
abbrev gt(g:Gt):V:=.agg g.row
def nG(l:List Rt)(i:Nat):Int :=
 if ¬(0≤(nth l i).lv∧(nth l i).lv≤16777216) then 1
 else if 0<i∧(nth l i).lv≤(nth l (i-1)).lv then 4
 else if gd (nth l i).c≠0 then gd (nth l i).c
 else if ¬((nth (nth l i).c 0).x=0∧(nth (nth l i).c 0).y=0) then 3
 else if 1073741824<(nth (nth l i).c ((nth l i).c.length-1)).y then 1 else 0
def j0(g:Gt):Int :=
 if g.r.length=0 then 3 else if 10<g.r.length then 10 else if ed (nG g.r) g.r.length 0≠0 then ed (nG g.r) g.r.length 0
 else if ¬((0≤g.dI∧g.dI≤1000)∧0≤g.move∧g.move≤1000) then 1 else 0
theorem xo(g:Gt)(G:List aW):bt F 130 [gt g] G=some (i64 (j0 g),G) :=
 cg rfl rfl (by
  obtain⟨l,dI,move⟩:=g;generalize hW:j0 ⟨l,dI,move⟩=W;unfold j0 at hW;simp only at hW;simp (disch:=omega) [-getElem?_pos,-Int.natCast_eq_zero,wrap64,Lc];refine b9 (fun h1=>?_) (fun h1=>b9 (fun h2=>?_) (fun h2=>?_))
  ·rw[if_pos (by omega)]at hW
   exact hW
  ·rw[if_neg (by omega),if_pos (by omega)]at hW
   exact hW
  ·rw[if_neg (by omega),if_neg (by omega)]at hW
   refine go_loop (fun i:Nat=>ab1 (zF l) l.length i [zF l,i64 dI,i64 move] G) (fun i=>i≤l.length∧ed (nG l) (l.length-i) i=ed (nG l) l.length 0) (fun i=>l.length-i) 0 rfl (by simp) ⟨by omega,rfl⟩ ?_
   rintro i ⟨hi,hq⟩;simp (disch:=omega) [-getElem?_pos,-Int.natCast_eq_zero,wrap64,Sd];refine b9 (fun h3=>?_) (fun h3=>?_)
   ·have h3:i<l.length:=by omega
    have h4:((i:Int)-1).toNat=i-1:=by omega
    rw[l7 h3]at hq;have stop:nG l i≠0→W=nG l i:=fun h=>by
     rw[if_neg h]at hq;rw[←hq,if_pos h]at hW;exact hW.symm
    unfold nG at stop;by_cases a1:0≤(nth l i).lv∧(nth l i).lv≤16777216
    ·have a2:(!decide (0≤(nth l i).lv) || !decide ((nth l i).lv≤16777216))=false:=by simp;omega
     have a3:0<i→0≤(i:Int)-1:=by omega
     have a4:i-1<l.length:=by omega
     rw[if_neg (by omega)]at stop
     by_cases b1:0<i∧(nth l i).lv≤(nth l (i-1)).lv
     ·rw[if_pos b1]at stop
      have b2:0<i:=b1.1;have b3:=b1.2;have b4:0≤(i:Int)-1:=by omega
      simp (disch:=omega) [-getElem?_pos,-Int.natCast_eq_zero,wrap64,bo (l:=l),h3,dG,c5,a2,b2,b3,b4,h4,a4];exact(stop (by omega)).symm
     ·rw[if_neg b1]at stop
      by_cases c1:gd (nth l i).c=0
      ·rw[if_neg (by omega)]at stop
       have hp:=rD c1;have BQ:=(lJ c1).kc;have c2:(((nth l i).c.length:Int)-1).toNat=(nth l i).c.length-1:=by omega
       have c3:(nth l i).c.length-1<(nth l i).c.length:=by omega
       have c4:0≤((nth l i).c.length:Int)-1:=by omega
       by_cases d1:(nth (nth l i).c 0).x=0∧(nth (nth l i).c 0).y=0
       ·rw[if_neg (by omega)]at stop
        obtain⟨d2,d3⟩:=d1;by_cases e1:1073741824<(nth (nth l i).c ((nth l i).c.length-1)).y
        ·rw[if_pos e1]at stop
         rcases Nat.eq_zero_or_pos i with b6|b6
         ·subst b6
          simp (disch:=omega) [-getElem?_pos,-Int.natCast_eq_zero,wrap64,bo (l:=l),h3,dG,c5,mS,lq,a2,c1,V.gW,eJ,jM,bo (l:=(nth l 0).c),hp,c2,c3,c4,d2,d3,e1];exact(stop (by omega)).symm
         ·have b7:¬ (nth l i).lv≤(nth l (i-1)).lv:=fun h=>b1 ⟨b6,h⟩
          have b4:0≤(i:Int)-1:=by omega
          simp (disch:=omega) [-getElem?_pos,-Int.natCast_eq_zero,wrap64,bo (l:=l),h3,dG,c5,mS,lq,a2,c1,b6,b7,b4,h4,a4,V.gW,eJ,jM,bo (l:=(nth l i).c),hp,c2,c3,c4,d2,d3,e1];exact(stop (by omega)).symm
        ·have hz:nG l i=0:=by
          unfold nG;rw[if_neg (by omega),if_neg b1,if_neg (by omega),if_neg (by omega),if_neg e1]
         rw[if_pos hz]at hq;rcases Nat.eq_zero_or_pos i with b6|b6
         ·subst b6
          simp (disch:=omega) [-getElem?_pos,-Int.natCast_eq_zero,wrap64,bo (l:=l),h3,dG,c5,mS,lq,a2,c1,V.gW,eJ,jM,bo (l:=(nth l 0).c),hp,c2,c3,c4,d2,d3,e1];exact cc (0+1) (by simp) ⟨by omega,hq⟩ (by omega)
         ·have b7:¬ (nth l i).lv≤(nth l (i-1)).lv:=fun h=>b1 ⟨b6,h⟩
          have b4:0≤(i:Int)-1:=by omega
          simp (disch:=omega) [-getElem?_pos,-Int.natCast_eq_zero,wrap64,bo (l:=l),h3,dG,c5,mS,lq,a2,c1,b6,b7,b4,h4,a4,V.gW,eJ,jM,bo (l:=(nth l i).c),hp,c2,c3,c4,d2,d3,e1];exact cc (i+1) (by simp) ⟨by omega,hq⟩ (by omega)
       ·rw[if_pos d1]at stop
        have d4:(decide ((nth (nth l i).c 0).x=0)&&decide ((nth (nth l i).c 0).y=0))=false:=by simpa using d1
        have d5:((nth (nth l i).c 0).x==0&&(nth (nth l i).c 0).y==0)=false:=by simpa using d1
        rcases Nat.eq_zero_or_pos i with b6|b6
        ·subst b6
         simp (disch:=omega) [-getElem?_pos,-Int.natCast_eq_zero,wrap64,bo (l:=l),h3,dG,c5,mS,lq,a2,c1,V.gW,eJ,jM,bo (l:=(nth l 0).c),hp,d4,d5];exact(stop (by omega)).symm
        ·have b7:¬ (nth l i).lv≤(nth l (i-1)).lv:=fun h=>b1 ⟨b6,h⟩
         have b4:0≤(i:Int)-1:=by omega
         simp (disch:=omega) [-getElem?_pos,-Int.natCast_eq_zero,wrap64,bo (l:=l),h3,dG,c5,mS,lq,a2,c1,b6,b7,b4,h4,a4,V.gW,eJ,jM,bo (l:=(nth l i).c),hp,d4,d5];exact(stop (by omega)).symm
      ·rw[if_pos c1]at stop
       rcases Nat.eq_zero_or_pos i with b6|b6
       ·subst b6
        simp (disch:=omega) [-getElem?_pos,-Int.natCast_eq_zero,wrap64,bo (l:=l),h3,dG,c5,mS,lq,a2,c1,c1];exact(stop (by omega)).symm
       ·have b7:¬ (nth l i).lv≤(nth l (i-1)).lv:=fun h=>b1 ⟨b6,h⟩
        have b4:0≤(i:Int)-1:=by omega
        simp (disch:=omega) [-getElem?_pos,-Int.natCast_eq_zero,wrap64,bo (l:=l),h3,dG,c5,mS,lq,a2,c1,b6,b7,b4,h4,a4,c1];exact(stop (by omega)).symm
    ·rw[if_pos a1]at stop
     have a2:(!decide (0≤(nth l i).lv) || !decide ((nth l i).lv≤16777216))=true:=by simp;omega
     simp (disch:=omega) [-getElem?_pos,-Int.natCast_eq_zero,wrap64,bo (l:=l),h3,dG,c5,a2];exact(stop (by omega)).symm
   ·obtain rfl:i=l.length:=by omega
    rw[mR]at hq;rw[←hq,if_neg (by omega)]at hW
    by_cases m1:0≤dI∧dI≤1000
    ·have m2:(!decide (0≤dI) || !decide (dI≤1000))=false:=by simp;omega
     by_cases m3:0≤move∧move≤1000
     ·have m4:(!decide (0≤move) || !decide (move≤1000))=false:=by simp;omega
      rw[if_neg (by omega)]at hW
      simp (disch:=omega) [-getElem?_pos,-Int.natCast_eq_zero,wrap64,dG,c5,m2,m4];exact hW
     ·have m4:(!decide (0≤move) || !decide (move≤1000))=true:=by simp;omega
      rw[if_pos (by omega)]at hW
      simp (disch:=omega) [-getElem?_pos,-Int.natCast_eq_zero,wrap64,dG,c5,m2,m4];exact hW
    ·have m2:(!decide (0≤dI) || !decide (dI≤1000))=true:=by simp;omega
     rw[if_pos (by omega)]at hW
     simp (disch:=omega) [-getElem?_pos,-Int.natCast_eq_zero,wrap64,dG,c5,m2];exact hW)
theorem xp(g:Gt)(G:List aW):bt F 133 [gt g] G=some (i64 (j0 g),G) :=
 cg rfl rfl (by
  obtain⟨l,dI,move⟩:=g;generalize hW:j0 ⟨l,dI,move⟩=W;unfold j0 at hW;simp only at hW;simp (disch:=omega) [-getElem?_pos,-Int.natCast_eq_zero,wrap64,Ld];refine b9 (fun h1=>?_) (fun h1=>b9 (fun h2=>?_) (fun h2=>?_))
  ·rw[if_pos (by omega)]at hW
   exact hW
  ·rw[if_neg (by omega),if_pos (by omega)]at hW
   exact hW
  ·rw[if_neg (by omega),if_neg (by omega)]at hW
   refine go_loop (fun i:Nat=>acb (zF l) l.length i [zF l,i64 dI,i64 move] G) (fun i=>i≤l.length∧ed (nG l) (l.length-i) i=ed (nG l) l.length 0) (fun i=>l.length-i) 0 rfl (by simp) ⟨by omega,rfl⟩ ?_
   rintro i ⟨hi,hq⟩;simp (disch:=omega) [-getElem?_pos,-Int.natCast_eq_zero,wrap64,Sk];refine b9 (fun h3=>?_) (fun h3=>?_)
   ·have h3:i<l.length:=by omega
    have h4:((i:Int)-1).toNat=i-1:=by omega
    rw[l7 h3]at hq;have stop:nG l i≠0→W=nG l i:=fun h=>by
     rw[if_neg h]at hq;rw[←hq,if_pos h]at hW;exact hW.symm
    unfold nG at stop;by_cases a1:0≤(nth l i).lv∧(nth l i).lv≤16777216
    ·have a2:(!decide (0≤(nth l i).lv) || !decide ((nth l i).lv≤16777216))=false:=by simp;omega
     have a3:0<i→0≤(i:Int)-1:=by omega
     have a4:i-1<l.length:=by omega
     rw[if_neg (by omega)]at stop
     by_cases b1:0<i∧(nth l i).lv≤(nth l (i-1)).lv
     ·rw[if_pos b1]at stop
      have b2:0<i:=b1.1;have b3:=b1.2;have b4:0≤(i:Int)-1:=by omega
      simp (disch:=omega) [-getElem?_pos,-Int.natCast_eq_zero,wrap64,bo (l:=l),h3,dG,c5,a2,b2,b3,b4,h4,a4];exact(stop (by omega)).symm
     ·rw[if_neg b1]at stop
      by_cases c1:gd (nth l i).c=0
      ·rw[if_neg (by omega)]at stop
       have hp:=rD c1;have BQ:=(lJ c1).kc;have c2:(((nth l i).c.length:Int)-1).toNat=(nth l i).c.length-1:=by omega
       have c3:(nth l i).c.length-1<(nth l i).c.length:=by omega
       have c4:0≤((nth l i).c.length:Int)-1:=by omega
       by_cases d1:(nth (nth l i).c 0).x=0∧(nth (nth l i).c 0).y=0
       ·rw[if_neg (by omega)]at stop
        obtain⟨d2,d3⟩:=d1;by_cases e1:1073741824<(nth (nth l i).c ((nth l i).c.length-1)).y
        ·rw[if_pos e1]at stop
         rcases Nat.eq_zero_or_pos i with b6|b6
         ·subst b6
          simp (disch:=omega) [-getElem?_pos,-Int.natCast_eq_zero,wrap64,bo (l:=l),h3,dG,c5,mS,lq,a2,c1,V.gW,eJ,jM,bo (l:=(nth l 0).c),hp,c2,c3,c4,d2,d3,e1];exact(stop (by omega)).symm
         ·have b7:¬ (nth l i).lv≤(nth l (i-1)).lv:=fun h=>b1 ⟨b6,h⟩
          have b4:0≤(i:Int)-1:=by omega
          simp (disch:=omega) [-getElem?_pos,-Int.natCast_eq_zero,wrap64,bo (l:=l),h3,dG,c5,mS,lq,a2,c1,b6,b7,b4,h4,a4,V.gW,eJ,jM,bo (l:=(nth l i).c),hp,c2,c3,c4,d2,d3,e1];exact(stop (by omega)).symm
        ·have hz:nG l i=0:=by
          unfold nG;rw[if_neg (by omega),if_neg b1,if_neg (by omega),if_neg (by omega),if_neg e1]
         rw[if_pos hz]at hq;rcases Nat.eq_zero_or_pos i with b6|b6
         ·subst b6
          simp (disch:=omega) [-getElem?_pos,-Int.natCast_eq_zero,wrap64,bo (l:=l),h3,dG,c5,mS,lq,a2,c1,V.gW,eJ,jM,bo (l:=(nth l 0).c),hp,c2,c3,c4,d2,d3,e1];exact cc (0+1) (by simp) ⟨by omega,hq⟩ (by omega)
         ·have b7:¬ (nth l i).lv≤(nth l (i-1)).lv:=fun h=>b1 ⟨b6,h⟩
          have b4:0≤(i:Int)-1:=by omega
          simp (disch:=omega) [-getElem?_pos,-Int.natCast_eq_zero,wrap64,bo (l:=l),h3,dG,c5,mS,lq,a2,c1,b6,b7,b4,h4,a4,V.gW,eJ,jM,bo (l:=(nth l i).c),hp,c2,c3,c4,d2,d3,e1];exact cc (i+1) (by simp) ⟨by omega,hq⟩ (by omega)
       ·rw[if_pos d1]at stop
        have d4:(decide ((nth (nth l i).c 0).x=0)&&decide ((nth (nth l i).c 0).y=0))=false:=by simpa using d1
        have d5:((nth (nth l i).c 0).x==0&&(nth (nth l i).c 0).y==0)=false:=by simpa using d1
        rcases Nat.eq_zero_or_pos i with b6|b6
        ·subst b6
         simp (disch:=omega) [-getElem?_pos,-Int.natCast_eq_zero,wrap64,bo (l:=l),h3,dG,c5,mS,lq,a2,c1,V.gW,eJ,jM,bo (l:=(nth l 0).c),hp,d4,d5];exact(stop (by omega)).symm
        ·have b7:¬ (nth l i).lv≤(nth l (i-1)).lv:=fun h=>b1 ⟨b6,h⟩
         have b4:0≤(i:Int)-1:=by omega
         simp (disch:=omega) [-getElem?_pos,-Int.natCast_eq_zero,wrap64,bo (l:=l),h3,dG,c5,mS,lq,a2,c1,b6,b7,b4,h4,a4,V.gW,eJ,jM,bo (l:=(nth l i).c),hp,d4,d5];exact(stop (by omega)).symm
      ·rw[if_pos c1]at stop
       rcases Nat.eq_zero_or_pos i with b6|b6
       ·subst b6
        simp (disch:=omega) [-getElem?_pos,-Int.natCast_eq_zero,wrap64,bo (l:=l),h3,dG,c5,mS,lq,a2,c1,c1];exact(stop (by omega)).symm
       ·have b7:¬ (nth l i).lv≤(nth l (i-1)).lv:=fun h=>b1 ⟨b6,h⟩
        have b4:0≤(i:Int)-1:=by omega
        simp (disch:=omega) [-getElem?_pos,-Int.natCast_eq_zero,wrap64,bo (l:=l),h3,dG,c5,mS,lq,a2,c1,b6,b7,b4,h4,a4,c1];exact(stop (by omega)).symm
    ·rw[if_pos a1]at stop
     have a2:(!decide (0≤(nth l i).lv) || !decide ((nth l i).lv≤16777216))=true:=by simp;omega
     simp (disch:=omega) [-getElem?_pos,-Int.natCast_eq_zero,wrap64,bo (l:=l),h3,dG,c5,a2];exact(stop (by omega)).symm
   ·obtain rfl:i=l.length:=by omega
    rw[mR]at hq;rw[←hq,if_neg (by omega)]at hW
    by_cases m1:0≤dI∧dI≤1000
    ·have m2:(!decide (0≤dI) || !decide (dI≤1000))=false:=by simp;omega
     by_cases m3:0≤move∧move≤1000
     ·have m4:(!decide (0≤move) || !decide (move≤1000))=false:=by simp;omega
      rw[if_neg (by omega)]at hW
      simp (disch:=omega) [-getElem?_pos,-Int.natCast_eq_zero,wrap64,dG,c5,m2,m4];exact hW
     ·have m4:(!decide (0≤move) || !decide (move≤1000))=true:=by simp;omega
      rw[if_pos (by omega)]at hW
      simp (disch:=omega) [-getElem?_pos,-Int.natCast_eq_zero,wrap64,dG,c5,m2,m4];exact hW
    ·have m2:(!decide (0≤dI) || !decide (dI≤1000))=true:=by simp;omega
     rw[if_pos (by omega)]at hW
     simp (disch:=omega) [-getElem?_pos,-Int.natCast_eq_zero,wrap64,dG,c5,m2];exact hW)
end Go.Proofs.YtmpikpodpgnjhaaGreat
