/- Parts of the proof, joined: Mk1, Cur1, Cur2, Un1, Un2, Un3, Un4, Mk2. -/
import Derived.Test.YtmpikpodpgnjhaaGreatQV
namespace Go.Proofs.YtmpikpodpgnjhaaGreat
set_option linter.all false
open Go.Vm
attribute [local simp] eS eT eQ eR
def Bn(n m:Int):Int:=(IntKind.i64.wrap (n.tmod m+m)).tmod m
theorem agH{n m:Int}(hm:m≠0)(G:List aV):bo F 64 [i64 n,i64 m] G=some (i64 (Bn n m),G) :=
 cg rfl rfl (by simp[KR,hm,Bn])
abbrev ints(l:List Int):V:=.slice none 1 (l.map fun n=>[i64 n])
abbrev dk(l:List Int)(k:Nat):aV:=.cells [ints l,i64 k]
theorem agI{n:Int}{l:List Int}{k:Nat}(h:n<1∨l.length≤k):bo F 23 [.bN 0 0,i64 n] [dk l k]=some (i64 0,[dk l k]) :=
 cg rfl rfl (by
  by_cases h1:n<1
  ·simp[Dh,h1]
  ·have h2:l.length≤k:=h.resolve_left h1
   simp[Dh,h1,h2])
theorem agJ{n:Int}{l:List Int}{k:Nat}{v:Int}(h1:1≤n)(h2:l[k]?=some v)(hk:k<9223372036854775807):bo F 23 [.bN 0 0,i64 n] [dk l k]=some (i64 (Bn v n),[dk l (k+1)]) :=
 cg rfl rfl (by
  have hn:¬ n<1:=by omega
  have hl:¬ l.length≤k:=by have:=(List.getElem?_eq_some_iff.1 h2).1;omega
  simp (disch:=omega) [-getElem?_pos,wrap64,Dh,hn,hl,h2,agH])
theorem agK{v n:Int}(h1:1≤n)(h2:n≤4611686018427387904):0≤Bn v n∧Bn v n<n:=by
 have h3:-n<v.tmod n:=by
  rcases Int.le_total 0 v with h|h
  ·have:=Int.tmod_nonneg n h;omega
  ·have h4:=Int.tmod_lt_of_pos (-v) (show 0<n by omega)
   rw[Int.neg_tmod]at h4;omega
 have h4:v.tmod n<n:=Int.tmod_lt_of_pos _ (by omega)
 unfold Bn;rw[wrap64 (by omega) (by omega)]
 exact⟨Int.tmod_nonneg _ (by omega),Int.tmod_lt_of_pos _ (by omega)⟩
def ed(l:List Int)(k:Nat):Prop:=k≤l.length∧l.length≤9223372036854775807
theorem gL{l:List Int}{k:Nat}(hd:ed l k)(n:Int)(hn:n≤4611686018427387904) :
  ∃v k',bo F 23 [.bN 0 0,i64 n] [dk l k]=some (i64 v,[dk l k'])∧ed l k'∧0≤v∧(v<n∨v=0):=by
 by_cases h:n<1∨l.length≤k
 ·exact⟨0,k,agI h,hd,by omega,.inr rfl⟩
 ·obtain⟨h1,h2⟩:=hd
  have h3:k<l.length:=by omega
  have h4:=agJ (n:=n) (l:=l) (k:=k) (v:=nth l k) (by omega) (eB h3) (by omega)
  have h5:=agK (v:=nth l k) (n:=n) (by omega) hn
  exact⟨_,_,h4,⟨by omega,h2⟩,h5.1,.inl h5.2⟩
theorem L9(l:List Int)(G:List aV):bo F 13 [ints l] G=some (.bool (decide (l.length≤500)),G) :=
 cg rfl rfl (by simp[KA];omega)
theorem Tk(l:List Int):bo F 14 [ints l] []=some (.bN 0 0,[dk l 0]) :=
 cg rfl rfl (by simp[KB])
end Go.Proofs.YtmpikpodpgnjhaaGreat
namespace Go.Proofs.YtmpikpodpgnjhaaGreat
set_option linter.all false
open Go.Vm
attribute [local simp] eS eT eQ eR
def ef(f:Nat→Int):Nat→Nat→Int
 |0,_=>0
 |m+1,i=>if f i=0 then ef f m (i+1) else f i
theorem ma{f:Nat→Int}{i n:Nat}(h:i<n):ef f (n-i) i=if f i=0 then ef f (n-(i+1)) (i+1) else f i:=by
 obtain⟨m,hm⟩:∃m,n-i=m+1:=⟨n-i-1,by omega⟩
 rw[hm,ef,show n-(i+1)=m by omega]
theorem sH{f:Nat→Int}:∀{m i:Nat},ef f m i=0→∀j,i≤j→j<i+m→f j=0
 |0,i,_,j,h1,h2=>by omega
 |m+1,i,h,j,h1,h2=>by
  unfold ef at h;split at h
  ·rename_i h0
   by_cases hj:j=i
   ·rw[hj];exact h0
   ·exact sH h j (by omega) (by omega)
  ·rename_i h0;exact absurd h h0
theorem rD{f:Nat→Int}:∀{m i:Nat},(∀j,i≤j→j<i+m→f j=0)→ef f m i=0
 |0,i,_=>rfl
 |m+1,i,h=>by
  unfold ef;rw[if_pos (h i (by omega) (by omega))]
  exact rD fun j h1 h2=>h j (by omega) (by omega)
theorem mU{f:Nat→Int}{n:Nat}:ef f (n-n) n=0:=by rw[Nat.sub_self];rfl
theorem dG(n m:Int)(G:List aV):bo F 147 [i64 n,i64 m] G=some (.bool (decide (0≤n)&&decide (n≤m)),G) :=
 cg rfl rfl (by simp +contextual [wrap64,Lh])
theorem agL(n m:Int)(G:List aV):bo F 115 [i64 n,i64 m] G=some (.bool (decide (0≤n)&&decide (n≤m)),G) :=
 cg rfl rfl (by simp +contextual [wrap64,K3])
theorem c5(n m:Int)(G:List aV):bo F 57 [i64 n,i64 m] G=some (.bool (decide (0≤n)&&decide (n≤m)),G) :=
 cg rfl rfl (by simp[wrap64,KL,agL])
structure Pt where
 x:Int
 y:Int
 deriving Inhabited,DecidableEq
abbrev Pt.row(p:Pt):List V:=[i64 p.x,i64 p.y]
abbrev iu(c:List Pt):V:=.slice none 2 (c.map Pt.row)
def g7(c:List Pt)(i:Nat):Int :=
 if ¬((0≤(nth c i).x∧(nth c i).x≤1073741824)∧0≤(nth c i).y∧(nth c i).y≤274877906944) then 1
 else if i=0 then 0
 else if (nth c i).x≤(nth c (i-1)).x∨(nth c i).y<(nth c (i-1)).y then 4
 else if (4611686018427387904:Int).tdiv ((nth c i).x-(nth c (i-1)).x)<(nth c i).y-(nth c (i-1)).y then 1 else 0
def gd(c:List Pt):Int:=if c.length=0 then 3 else if 100<c.length then 10 else ef (g7 c) c.length 0
theorem GW{c:List Pt}{i:Nat}(h:g7 c i=0):(0≤(nth c i).x∧(nth c i).x≤1073741824)∧0≤(nth c i).y∧(nth c i).y≤274877906944:=by
 unfold g7 at h;split at h
 ·cases h
 ·rename_i h1;exact Decidable.of_not_not h1
theorem Ma{c:List Pt}{i:Nat}(h:g7 c i=0)(hi:0<i):(nth c (i-1)).x<(nth c i).x∧(nth c (i-1)).y≤(nth c i).y ∧
  (nth c i).y-(nth c (i-1)).y≤(4611686018427387904:Int).tdiv ((nth c i).x-(nth c (i-1)).x):=by
 unfold g7 at h;split at h
 ·cases h
 ·rw[if_neg (by omega)]at h
  split at h
  ·cases h
  ·split at h
   ·cases h
   ·omega
theorem agM(a b:Int)(h:0<a)(G:List aV):bo F 189 [i64 a,i64 b] G=some (.bool (decide ((4611686018427387904:Int).tdiv a<b)),G) :=
 cg rfl rfl (by
  have h1:0≤(4611686018427387904:Int).tdiv a:=Int.tdiv_nonneg (by omega) (by omega)
  have h2:(4611686018427387904:Int).tdiv a≤4611686018427387904:=by
   have:=Int.tdiv_le_self (a:=4611686018427387904) a (by omega)
   omega
  have h3:a≠0:=by omega
  simp (disch:=omega) [wrap64,LJ,h,h3])
theorem mV(c:List Pt)(G:List aV):bo F 173 [iu c] G=some (i64 (gd c),G) :=
 cg rfl rfl (by
  generalize hW:gd c=W;unfold gd at hW;simp +contextual (disch:=omega) [-getElem?_pos,-Int.natCast_eq_zero,wrap64,LA];refine gV (fun h=>?_) (fun h=>b9 (fun h'=>?_) (fun h'=>?_))
  ·simp[-List.length_eq_zero_iff,-Int.natCast_eq_zero]at h
   rw[if_pos (by omega)]at hW
   exact hW
  ·simp[-List.length_eq_zero_iff,-Int.natCast_eq_zero]at h
   rw[if_neg (by omega),if_pos (by omega)]at hW
   simpa using hW
  ·have hq:ef (g7 c) (c.length-0) 0=W:=by
    simp[-List.length_eq_zero_iff,-Int.natCast_eq_zero]at h;rw[if_neg (by omega),if_neg (by omega)]at hW
    exact hW
   refine go_loop (fun i:Nat=>acK (iu c) (iu c) c.length i G) (fun i=>i≤c.length∧ef (g7 c) (c.length-i) i=W∧∀j,j<i→g7 c j=0) (fun i=>c.length-i) 0 rfl (by simp) ⟨by omega,hq,by omega⟩ ?_
   rintro i ⟨hi,hq,hz⟩;simp +contextual (disch:=omega) [-getElem?_pos,-Int.natCast_eq_zero,wrap64,SE];refine b9 (fun h1=>?_) (fun h1=>?_)
   ·have h1:i<c.length:=by omega
    rw[ma h1]at hq;have e:=bp h1;simp +contextual (disch:=omega) [-getElem?_pos,-Int.natCast_eq_zero,wrap64,bp (l:=c),dG];refine gV (fun h2=>?_) (fun h2=>?_)
    ·simp +contextual (disch:=omega) [-getElem?_pos,-Int.natCast_eq_zero,wrap64,h2,dG]
     simp[-List.length_eq_zero_iff,-Int.natCast_eq_zero]at h2;rw[show g7 c i=1 by rw[g7,if_pos (by omega)],if_neg (by decide)]at hq
     exact hq
    ·simp +contextual (disch:=omega) [-getElem?_pos,-Int.natCast_eq_zero,wrap64,h2,dG]
     simp[-List.length_eq_zero_iff,-Int.natCast_eq_zero]at h2;refine gV (fun h3=>?_) (fun h3=>b9 (fun h4=>?_) (fun h4=>?_))
     ·simp[-List.length_eq_zero_iff,-Int.natCast_eq_zero]at h3
      rw[show g7 c i=1 by rw[g7,if_pos (by omega)],if_neg (by decide)]at hq
      exact hq
     ·simp[-List.length_eq_zero_iff,-Int.natCast_eq_zero]at h3
      have h0:g7 c i=0:=by rw[g7,if_neg (by omega),if_pos (by omega)]
      rw[h0,if_pos rfl]at hq;exact cc (i+1) (by simp) ⟨by omega,hq,fun j hj=>by rcases Nat.lt_or_ge j i with h|h;exact hz j h;rwa [show j=i by omega]⟩ (by omega)
     ·simp[-List.length_eq_zero_iff,-Int.natCast_eq_zero]at h3
      have h5:((i:Int)-1).toNat=i-1:=by omega
      have h6:i-1<c.length:=by omega
      have h7:0≤(i:Int)-1:=by omega
      have h8:=GW (hz (i-1) (by omega))
      simp +contextual (disch:=omega) [-getElem?_pos,-Int.natCast_eq_zero,wrap64,bp (l:=c),h5,h7];refine gV (fun h9=>?_) (fun h9=>?_)
      ·simp[-List.length_eq_zero_iff,-Int.natCast_eq_zero]at h9
       rw[show g7 c i=4 by rw[g7,if_neg (by omega),if_neg (by omega),if_pos (by omega)],if_neg (by decide)]at hq
       exact hq
      ·simp[-List.length_eq_zero_iff,-Int.natCast_eq_zero]at h9
       simp +contextual (disch:=omega) [-getElem?_pos,-Int.natCast_eq_zero,wrap64,agM];refine b9 (fun fW=>?_) (fun fW=>?_)
       ·rw[show g7 c i=1 by rw[g7,if_neg (by omega),if_neg (by omega),if_neg (by omega),if_pos (by omega)],if_neg (by decide)]at hq
        exact hq
       ·have h0:g7 c i=0:=by rw[g7,if_neg (by omega),if_neg (by omega),if_neg (by omega),if_neg (by omega)]
        rw[h0,if_pos rfl]at hq;exact cc (i+1) (by simp) ⟨by omega,hq,fun j hj=>by rcases Nat.lt_or_ge j i with h|h;exact hz j h;rwa [show j=i by omega]⟩ (by omega)
   ·obtain rfl:i=c.length:=by omega
    rw[mU]at hq;simp[←hq])
theorem lq(c:List Pt)(G:List aV):bo F 164 [iu c] G=some (i64 (gd c),G) :=
 cg rfl rfl (by
  generalize hW:gd c=W;unfold gd at hW;simp +contextual (disch:=omega) [-getElem?_pos,-Int.natCast_eq_zero,wrap64,Lv];refine gV (fun h=>?_) (fun h=>b9 (fun h'=>?_) (fun h'=>?_))
  ·simp[-List.length_eq_zero_iff,-Int.natCast_eq_zero]at h
   rw[if_pos (by omega)]at hW
   exact hW
  ·simp[-List.length_eq_zero_iff,-Int.natCast_eq_zero]at h
   rw[if_neg (by omega),if_pos (by omega)]at hW
   simpa using hW
  ·have hq:ef (g7 c) (c.length-0) 0=W:=by
    simp[-List.length_eq_zero_iff,-Int.natCast_eq_zero]at h;rw[if_neg (by omega),if_neg (by omega)]at hW
    exact hW
   refine go_loop (fun i:Nat=>acA (iu c) (iu c) c.length i G) (fun i=>i≤c.length∧ef (g7 c) (c.length-i) i=W∧∀j,j<i→g7 c j=0) (fun i=>c.length-i) 0 rfl (by simp) ⟨by omega,hq,by omega⟩ ?_
   rintro i ⟨hi,hq,hz⟩;simp +contextual (disch:=omega) [-getElem?_pos,-Int.natCast_eq_zero,wrap64,Sz];refine b9 (fun h1=>?_) (fun h1=>?_)
   ·have h1:i<c.length:=by omega
    rw[ma h1]at hq;have e:=bp h1;simp +contextual (disch:=omega) [-getElem?_pos,-Int.natCast_eq_zero,wrap64,bp (l:=c),c5];refine gV (fun h2=>?_) (fun h2=>?_)
    ·simp +contextual (disch:=omega) [-getElem?_pos,-Int.natCast_eq_zero,wrap64,h2,c5]
     simp[-List.length_eq_zero_iff,-Int.natCast_eq_zero]at h2;rw[show g7 c i=1 by rw[g7,if_pos (by omega)],if_neg (by decide)]at hq
     exact hq
    ·simp +contextual (disch:=omega) [-getElem?_pos,-Int.natCast_eq_zero,wrap64,h2,c5]
     simp[-List.length_eq_zero_iff,-Int.natCast_eq_zero]at h2;refine gV (fun h3=>?_) (fun h3=>b9 (fun h4=>?_) (fun h4=>?_))
     ·simp[-List.length_eq_zero_iff,-Int.natCast_eq_zero]at h3
      rw[show g7 c i=1 by rw[g7,if_pos (by omega)],if_neg (by decide)]at hq
      exact hq
     ·simp[-List.length_eq_zero_iff,-Int.natCast_eq_zero]at h3
      have h0:g7 c i=0:=by rw[g7,if_neg (by omega),if_pos (by omega)]
      rw[h0,if_pos rfl]at hq;exact cc (i+1) (by simp) ⟨by omega,hq,fun j hj=>by rcases Nat.lt_or_ge j i with h|h;exact hz j h;rwa [show j=i by omega]⟩ (by omega)
     ·simp[-List.length_eq_zero_iff,-Int.natCast_eq_zero]at h3
      have h5:((i:Int)-1).toNat=i-1:=by omega
      have h6:i-1<c.length:=by omega
      have h7:0≤(i:Int)-1:=by omega
      have h8:=GW (hz (i-1) (by omega))
      simp +contextual (disch:=omega) [-getElem?_pos,-Int.natCast_eq_zero,wrap64,bp (l:=c),h5,h7];refine gV (fun h9=>?_) (fun h9=>?_)
      ·simp[-List.length_eq_zero_iff,-Int.natCast_eq_zero]at h9
       rw[show g7 c i=4 by rw[g7,if_neg (by omega),if_neg (by omega),if_pos (by omega)],if_neg (by decide)]at hq
       exact hq
      ·simp[-List.length_eq_zero_iff,-Int.natCast_eq_zero]at h9
       have ko:(nth c i).x-(nth c (i-1)).x≠0:=by omega
       have rn:(4611686018427387904:Int).tdiv ((nth c i).x-(nth c (i-1)).x)≤4611686018427387904:=by
        have:=Int.tdiv_le_self (a:=4611686018427387904) ((nth c i).x-(nth c (i-1)).x) (by omega)
        omega
       have Tl:0≤(4611686018427387904:Int).tdiv ((nth c i).x-(nth c (i-1)).x):=Int.tdiv_nonneg (by omega) (by omega)
       simp +contextual (disch:=omega) [-getElem?_pos,-Int.natCast_eq_zero,wrap64,ko];refine b9 (fun fW=>?_) (fun fW=>?_)
       ·rw[show g7 c i=1 by rw[g7,if_neg (by omega),if_neg (by omega),if_neg (by omega),if_pos (by omega)],if_neg (by decide)]at hq
        exact hq
       ·have h0:g7 c i=0:=by rw[g7,if_neg (by omega),if_neg (by omega),if_neg (by omega),if_neg (by omega)]
        rw[h0,if_pos rfl]at hq;exact cc (i+1) (by simp) ⟨by omega,hq,fun j hj=>by rcases Nat.lt_or_ge j i with h|h;exact hz j h;rwa [show j=i by omega]⟩ (by omega)
   ·obtain rfl:i=c.length:=by omega
    rw[mU]at hq;simp[←hq])
end Go.Proofs.YtmpikpodpgnjhaaGreat
namespace Go.Proofs.YtmpikpodpgnjhaaGreat
set_option linter.all false
open Go.Vm
attribute [local simp] eS eT eQ eR
def od(c:List Pt)(i:Nat)(x:Int):Int :=
 (nth c (i-1)).y+(((nth c i).y-(nth c (i-1)).y)*(x-(nth c (i-1)).x)).tdiv ((nth c i).x-(nth c (i-1)).x)
def tP(c:List Pt)(x:Int):Nat→Nat→Int
 |0,_=>(nth c (c.length-1)).y
 |m+1,i=>if x≤(nth c i).x then (if i=0 then (nth c i).y else od c i x) else tP c x m (i+1)
def ic(c:List Pt)(x:Int):Int:=tP c x c.length 0
structure Cv(c:List Pt):Prop where
 pos:0<c.length
 kd:c.length≤100
 x0:∀i,i<c.length→0≤(nth c i).x∧(nth c i).x≤1073741824
 y0:∀i,i<c.length→0≤(nth c i).y∧(nth c i).y≤274877906944
 up:∀i,0<i→i<c.length→(nth c (i-1)).x<(nth c i).x
 mono:∀i,0<i→i<c.length→(nth c (i-1)).y≤(nth c i).y
 prod:∀i,0<i→i<c.length→((nth c i).y-(nth c (i-1)).y)*((nth c i).x-(nth c (i-1)).x)≤4611686018427387904
theorem lL{c:List Pt}(h:gd c=0):Cv c:=by
 unfold gd at h;split at h
 ·cases h
 ·split at h
  ·cases h
  ·have hz:∀i,i<c.length→g7 c i=0:=fun i hi=>sH h i (by omega) (by omega)
   refine⟨by omega,by omega,fun i hi=>(GW (hz i hi)).1,fun i hi=>(GW (hz i hi)).2,fun i h0 hi=>(Ma (hz i hi) h0).1,fun i h0 hi=>(Ma (hz i hi) h0).2.1,fun i h0 hi=>?_⟩
   obtain⟨h1,h2,h3⟩:=Ma (hz i hi) h0;generalize GX:(nth c i).x-(nth c (i-1)).x=dx at *;generalize GY:(nth c i).y-(nth c (i-1)).y=dy at *;have h4:(4611686018427387904:Int).tdiv dx*dx≤4611686018427387904:=by
    have:=Int.mul_tdiv_add_tmod 4611686018427387904 dx;rw[Int.mul_comm]at this;have:=Int.tmod_nonneg (a:=4611686018427387904) dx (by omega)
    omega
   exact Int.le_trans (Int.mul_le_mul_of_nonneg_right h3 (by omega)) h4
theorem Cv.lt{c:List Pt}(h:Cv c):∀{i j:Nat},i<j→j<c.length→(nth c i).x<(nth c j).x:=by
 intro i j Mb hj;induction j with
 |zero=>omega
 |succ j ih =>
  have:=h.up (j+1) (by omega) hj
  simp at this;rcases Nat.lt_or_ge i j with h1|h1
  ·have:=ih h1 (by omega);omega
  ·obtain rfl:i=j:=by omega
   exact this
theorem Cv.le{c:List Pt}(h:Cv c):∀{i j:Nat},i≤j→j<c.length→(nth c i).y≤(nth c j).y:=by
 intro i j Mb hj;induction j with
 |zero=>obtain rfl:i=0:=by omega
        omega
 |succ j ih =>
  have:=h.mono (j+1) (by omega) hj
  simp at this;rcases Nat.lt_or_ge j i with h1|h1
  ·obtain rfl:i=j+1:=by omega
   omega
  ·have:=ih h1 (by omega);omega
theorem DU{c:List Pt}(h:Cv c){i:Nat}{x:Int}(h0:0<i)(hi:i<c.length)(h1:(nth c (i-1)).x≤x)(h2:x≤(nth c i).x) :
  0≤((nth c i).y-(nth c (i-1)).y)*(x-(nth c (i-1)).x)∧((nth c i).y-(nth c (i-1)).y)*(x-(nth c (i-1)).x)≤4611686018427387904 ∧
  0≤(((nth c i).y-(nth c (i-1)).y)*(x-(nth c (i-1)).x)).tdiv ((nth c i).x-(nth c (i-1)).x) ∧
  (((nth c i).y-(nth c (i-1)).y)*(x-(nth c (i-1)).x)).tdiv ((nth c i).x-(nth c (i-1)).x)≤(nth c i).y-(nth c (i-1)).y:=by
 have h3:=h.up i h0 hi;have h4:=h.mono i h0 hi;have h5:=h.prod i h0 hi;generalize GX:(nth c i).x-(nth c (i-1)).x=dx at *;generalize GY:(nth c i).y-(nth c (i-1)).y=dy at *;generalize ht:x-(nth c (i-1)).x=t at *;have h6:0≤dy*t:=Int.mul_nonneg (by omega) (by omega)
 have h7:dy*t≤dy*dx:=Int.mul_le_mul_of_nonneg_left (by omega) (by omega)
 refine⟨h6,by omega,Int.tdiv_nonneg h6 (by omega),?_⟩
 have h8:=Int.tdiv_le_tdiv (a:=dy*t) (b:=dy*dx) (c:=dx) (by omega) h7
 rwa [Int.mul_tdiv_cancel _ (by omega)]at h8
theorem DV{c:List Pt}{x:Int}{n:Nat}:∀{k i:Nat},i≤k→k≤n→(∀j,i≤j→j<k→(nth c j).x<x)→tP c x (n-i) i=tP c x (n-k) k:=by
 intro k;induction k with
 |zero=>intro i h1 _ _;obtain rfl:i=0:=by omega
        rfl
 |succ k ih =>
  intro i h1 h2 h3;rcases Nat.lt_or_ge k i with h|h
  ·obtain rfl:i=k+1:=by omega
   rfl
  ·rw[ih h (by omega) (fun j a b=>h3 j a (by omega))]
   obtain⟨m,hm⟩:∃m,n-k=m+1:=⟨n-k-1,by omega⟩
   have:=h3 k h (by omega)
   rw[hm,tP,if_neg (by omega),show n-(k+1)=m by omega]
theorem DW{c:List Pt}{x:Int}{n i:Nat}(hi:i<n)(h:x≤(nth c i).x):tP c x (n-i) i=if i=0 then (nth c i).y else od c i x:=by
 obtain⟨m,hm⟩:∃m,n-i=m+1:=⟨n-i-1,by omega⟩
 rw[hm,tP,if_pos h]
theorem y4{c:List Pt}{x:Int}(h:Cv c)(h1:x≤(nth c 0).x):ic c x=(nth c 0).y:=by
 have:=DW (c:=c) (x:=x) (n:=c.length) h.pos h1;simpa [ic] using this
theorem uK{c:List Pt}{x:Int}{i:Nat}(h:Cv c)(h0:0<i)(hi:i<c.length)(h1:(nth c (i-1)).x≤x)(h2:x≤(nth c i).x):ic c x=od c i x:=by
 have up:=h.up i h0 hi;by_cases hx:(nth c (i-1)).x<x
 ·have:=DV (c:=c) (x:=x) (n:=c.length) (i:=0) (k:=i) (by omega) (by omega) (fun j _ hj=>by
   rcases Nat.lt_or_ge j (i-1) with h3|h3
   ·have:=h.lt h3 (by omega);omega
   ·obtain rfl:j=i-1:=by omega
    exact hx)
  rw[DW hi h2,if_neg (by omega)]at this
  simpa [ic] using this
 ·have hx:x=(nth c (i-1)).x:=by omega
  subst hx;have:=DV (c:=c) (x:=(nth c (i-1)).x) (n:=c.length) (i:=0) (k:=i-1) (by omega) (by omega) (fun j _ hj=>h.lt (by omega) (by omega))
  rw[DW (n:=c.length) (i:=i-1) (by omega) (by omega)]at this
  have e:od c i (nth c (i-1)).x=(nth c (i-1)).y:=by simp[od]
  rw[e];simp only[Nat.sub_zero]at this;rw[ic,this];split
  ·rfl
  ·rename_i h3
   have h4:=h.up (i-1) (by omega) (by omega)
   rw[od,Int.mul_tdiv_cancel _ (by omega)]
   omega
theorem GZ{c:List Pt}{x:Int}(h:Cv c)(h1:(nth c (c.length-1)).x≤x):ic c x=(nth c (c.length-1)).y:=by
 have hp:=h.pos;rcases Nat.lt_or_ge 1 c.length with h2|h2
 ·by_cases hx:(nth c (c.length-1)).x<x
  ·have:=DV (c:=c) (x:=x) (n:=c.length) (i:=0) (k:=c.length) (by omega) (by omega) (fun j _ hj=>by
    rcases Nat.lt_or_ge j (c.length-1) with h3|h3
    ·have:=h.lt h3 (by omega);omega
    ·obtain rfl:j=c.length-1:=by omega
     exact hx)
   simp only[Nat.sub_zero,Nat.sub_self]at this;rw[ic,this,tP]
  ·obtain rfl:x=(nth c (c.length-1)).x:=by omega
   have hu:=h.up (c.length-1) (by omega) (by omega)
   rw[uK h (i:=c.length-1) (by omega) (by omega) (by omega) (by omega),od,Int.mul_tdiv_cancel _ (by omega)]
   omega
 ·by_cases hx:x≤(nth c 0).x
  ·rw[y4 h hx,show c.length-1=0 by omega]
  ·have:=DV (c:=c) (x:=x) (n:=c.length) (i:=0) (k:=c.length) (by omega) (by omega) (fun j _ hj=>by
    obtain rfl:j=0:=by omega
    omega)
   simp only[Nat.sub_zero,Nat.sub_self]at this;rw[ic,this,tP]
theorem Mc{c:List Pt}(h:Cv c)(x:Int):x≤(nth c 0).x∨(∃i,0<i∧i<c.length∧(nth c (i-1)).x≤x∧x≤(nth c i).x)∨(nth c (c.length-1)).x≤x:=by
 have hp:=h.pos;by_cases h1:x≤(nth c 0).x
 ·exact .inl h1
 ·have:∀k,k<c.length→(∃i,0<i∧i≤k∧(nth c (i-1)).x≤x∧x≤(nth c i).x)∨(nth c k).x≤x:=by
   intro k;induction k with
   |zero=>intro _;right;omega
   |succ k ih =>
    intro hk;rcases ih (by omega) with⟨i,a,b,d,e⟩ | h2
    ·exact .inl ⟨i,a,by omega,d,e⟩
    ·by_cases h3:x≤(nth c (k+1)).x
     ·exact .inl ⟨k+1,by omega,by omega,h2,h3⟩
     ·right;omega
  rcases this (c.length-1) (by omega) with⟨i,a,b,d,e⟩ | h2
  ·exact .inr (.inl ⟨i,a,by omega,d,e⟩)
  ·exact .inr (.inr h2)
theorem Bo{c:List Pt}(h:Cv c)(x:Int):(nth c 0).y≤ic c x∧ic c x≤(nth c (c.length-1)).y:=by
 have hp:=h.pos;have h0:=h.le (i:=0) (j:=c.length-1) (by omega) (by omega)
 rcases Mc h x with h1 | ⟨i,a,b,d,e⟩ | h1
 ·rw[y4 h h1];omega
 ·rw[uK h a b d e]
  have h2:=DU h a b d e;have h3:=h.le (i:=0) (j:=i-1) (by omega) (by omega)
  have h4:=h.le (i:=i) (j:=c.length-1) (by omega) (by omega)
  unfold od;omega
 ·rw[GZ h h1];omega
theorem G4{c:List Pt}(h:Cv c)(x:Int)(G:List aV):bo F 201 [iu c,i64 x] G=some (i64 (ic c x),G) :=
 cg rfl rfl (by
  have hp:=h.pos;have hf:=h.kd;generalize hW:ic c x=W;simp +contextual (disch:=omega) [-getElem?_pos,wrap64,LS];refine go_loop (fun i:Nat=>adj (iu c) x (iu c) c.length i G) (fun i=>i≤c.length∧tP c x (c.length-i) i=W∧(0<i→(nth c (i-1)).x<x)) (fun i=>c.length-i) 0 rfl (by simp) ⟨by omega,hW,by omega⟩ ?_
  rintro i ⟨hi,hq,hl⟩;simp +contextual (disch:=omega) [-getElem?_pos,wrap64,SV];refine b9 (fun h1=>?_) (fun h1=>?_)
  ·have h1:i<c.length:=by omega
   simp +contextual (disch:=omega) [-getElem?_pos,wrap64,bp (l:=c)];refine gV (fun h2=>?_) (fun h2=>b9 (fun h3=>?_) (fun h3=>?_))
   ·simp[-List.length_eq_zero_iff,-Int.natCast_eq_zero]at h2
    obtain rfl:i=0:=by omega
    rw[DW h1 h2.1,if_pos rfl]at hq;exact hq
   ·simp[-List.length_eq_zero_iff,-Int.natCast_eq_zero]at h2
    have h4:0<i:=by omega
    have h5:1≤(i:Int):=by omega
    have h6:i-1<c.length:=by omega
    have h9:=hl h4;have h7:=DU h h4 h1 (by omega) h3
    have h8:=h.up i h4 h1;have fW:=h.x0 i h1;have ko:=h.x0 (i-1) h6;have rn:=h.y0 i h1;have Tl:=h.y0 (i-1) h6;have Md:(nth c i).x-(nth c (i-1)).x≠0:=by omega
    rw[DW h1 h3,if_neg (by omega),od]at hq
    simp +contextual (disch:=omega) [-getElem?_pos,wrap64,bp (l:=c),h5,Md];exact hq
   ·simp[-List.length_eq_zero_iff,-Int.natCast_eq_zero]at h2
    have:=DV (c:=c) (x:=x) (n:=c.length) (i:=i) (k:=i+1) (by omega) (by omega) (fun j a b=>by
     obtain rfl:j=i:=by omega
     omega)
    rw[this]at hq;exact cc (i+1) (by simp) ⟨by omega,hq,fun _=>by simp;omega⟩ (by omega)
  ·obtain rfl:i=c.length:=by omega
   have h2:((c.length:Int)-1).toNat=c.length-1:=by omega
   rw[Nat.sub_self,tP]at hq;simp +contextual (disch:=omega) [-getElem?_pos,wrap64,bp (l:=c),h2];exact hq)
theorem Tm{c:List Pt}(h:Cv c)(x:Int)(G:List aV):bo F 165 [iu c,i64 x] G=some (i64 (ic c x),G) :=
 cg rfl rfl (by
  have hp:=h.pos;have hf:=h.kd;generalize hW:ic c x=W;simp (disch:=omega) [-getElem?_pos,wrap64,Lw,bp (l:=c)];refine b9 (fun h1=>?_) (fun h1=>?_)
  ·rw[y4 h h1]at hW
   exact hW
  ·refine go_loop (fun i:Nat=>acC (iu c) x (i+1) G) (fun i=>i+1≤c.length∧(nth c i).x≤x) (fun i=>c.length-i) 0 rfl (by simp) ⟨by omega,by omega⟩ ?_
   rintro i ⟨hi,hl⟩;simp (disch:=omega) [-getElem?_pos,wrap64,SA];refine b9 (fun h2=>?_) (fun h2=>?_)
   ·have h2:i+1<c.length:=by omega
    have h3:((i:Int)+1).toNat=i+1:=by omega
    simp (disch:=omega) [-getElem?_pos,wrap64,bp (l:=c),h3];refine b9 (fun h4=>?_) (fun h4=>?_)
    ·have h7:=DU h (i:=i+1) (x:=x) (by omega) h2 (by simpa using hl) (by omega)
     have h8:=h.up (i+1) (by omega) h2
     have fW:=h.x0 (i+1) h2;have ko:=h.x0 i (by omega)
     have rn:=h.y0 (i+1) h2;have Tl:=h.y0 i (by omega)
     rw[uK h (i:=i+1) (by omega) h2 (by simpa using hl) (by omega),od]at hW
     simp only[Nat.add_sub_cancel]at h7 h8 hW;have Md:(nth c (i+1)).x-(nth c i).x≠0:=by omega
     simp (disch:=omega) [-getElem?_pos,wrap64,bp (l:=c),Md];exact hW
    ·exact cc (i+1) (by simp) ⟨by omega,by omega⟩ (by omega)
   ·obtain rfl:c.length-1=i:=by omega
    have h3:((c.length:Int)-1).toNat=c.length-1:=by omega
    rw[GZ h hl]at hW;simp (disch:=omega) [-getElem?_pos,wrap64,bp (l:=c),h3];exact hW)
theorem Me(c:List Pt)(x:Int)(G:List aV):bo F 119 [iu c,i64 x] G=some (.tuple [i64 (if gd c=0 then ic c x else 0),i64 (gd c)],G) :=
 cg rfl rfl (by
  by_cases h:gd c=0
  ·simp[wrap64,Gi,lq,h,Tm (lL h)]
  ·simp[wrap64,Gi,lq,h])
end Go.Proofs.YtmpikpodpgnjhaaGreat
namespace Go.Proofs.YtmpikpodpgnjhaaGreat
set_option linter.all false
open Go.Vm
attribute [local simp] eS eT eQ eR
structure Bd where
 lo:Int
 hi:Int
 deriving Inhabited,DecidableEq
abbrev Bd.row(b:Bd):List V:=[i64 b.lo,i64 b.hi]
abbrev y5(l:List Bd):V:=.slice none 2 (l.map Bd.row)
structure Un where
 table:List Pt
 least:Int
 dw:Int
 fM:List Bd
 up:Int
 down:Int
 deriving Inhabited,DecidableEq
abbrev Un.row(u:Un):List V:=[iu u.table,i64 u.least,i64 u.dw,y5 u.fM,i64 u.up,i64 u.down]
abbrev un(u:Un):V:=.agg u.row
def kA(z:List Bd)(i:Nat):Int :=
 if ¬((0≤(nth z i).lo∧(nth z i).lo≤1073741824)∧0≤(nth z i).hi∧(nth z i).hi≤1073741824) then 1 else if (nth z i).hi≤(nth z i).lo then 4 else 0
def gW(u:Un):Int :=
 if gd u.table≠0 then gd u.table
 else if 1073741824<(nth u.table (u.table.length-1)).y then 1
 else if u.least<1∨u.dw<u.least∨1073741824<u.dw then 1
 else if 10<u.fM.length then 10
 else if ef (kA u.fM) u.fM.length 0≠0 then ef (kA u.fM) u.fM.length 0
 else if ¬((0≤u.up∧u.up≤1000)∧0≤u.down∧u.down≤1000) then 1 else 0
theorem rE{c:List Pt}(h:gd c=0):0<c.length:=(lL h).pos
theorem qH(u:Un)(G:List aV):bo F 129 [un u] G=some (i64 (gW u),G) :=
 cg rfl rfl (by
  obtain⟨c,least,dw,z,up,down⟩:=u;generalize hW:gW ⟨c,least,dw,z,up,down⟩=W;unfold gW at hW;simp only at hW;by_cases hc:gd c=0
  ·have hp:=rE hc
   have hf:=(lL hc).kd;have h2:((c.length:Int)-1).toNat=c.length-1:=by omega
   rw[if_neg (by simpa using hc)]at hW
   simp +contextual (disch:=omega) [-getElem?_pos,wrap64,Gk,mV,hc,bp (l:=c),h2];refine b9 (fun h3=>?_) (fun h3=>?_)
   ·rw[if_pos (by omega)]at hW
    exact hW
   refine gV (fun h4=>?_) (fun h4=>?_)
   ·simp[-List.length_eq_zero_iff,-Int.natCast_eq_zero]at h4
    rw[if_neg (by omega),if_pos (by omega)]at hW
    exact hW
   simp[-List.length_eq_zero_iff,-Int.natCast_eq_zero]at h4;rw[if_neg (by omega),if_neg (by omega)]at hW
   refine b9 (fun h5=>?_) (fun h5=>?_)
   ·rw[if_pos (by omega)]at hW
    exact hW
   rw[if_neg (by omega)]at hW
   refine go_loop (fun i:Nat=>abW (y5 z) z.length i [iu c,i64 least,i64 dw,y5 z,i64 up,i64 down] G) (fun i=>i≤z.length∧ef (kA z) (z.length-i) i=ef (kA z) z.length 0) (fun i=>z.length-i) 0 rfl (by simp) ⟨by omega,rfl⟩ ?_
   rintro i ⟨hi,hq⟩;simp +contextual (disch:=omega) [-getElem?_pos,wrap64,Sb];refine b9 (fun h1=>?_) (fun h1=>?_)
   ·have h1:i<z.length:=by omega
    rw[ma h1]at hq;simp +contextual (disch:=omega) [-getElem?_pos,wrap64,bp (l:=z),dG];refine gV (fun h6=>?_) (fun h6=>?_)
    ·simp +contextual (disch:=omega) [-getElem?_pos,wrap64,h6,dG]
     simp[-List.length_eq_zero_iff,-Int.natCast_eq_zero]at h6;rw[show kA z i=1 by rw[kA,if_pos (by omega)],if_neg (by decide)]at hq
     rw[←hq,if_pos (by decide)]at hW
     exact hW
    ·simp +contextual (disch:=omega) [-getElem?_pos,wrap64,h6,dG]
     simp[-List.length_eq_zero_iff,-Int.natCast_eq_zero]at h6;refine gV (fun h7=>?_) (fun h7=>b9 (fun h8=>?_) (fun h8=>?_))
     ·simp[-List.length_eq_zero_iff,-Int.natCast_eq_zero]at h7
      rw[show kA z i=1 by rw[kA,if_pos (by omega)],if_neg (by decide)]at hq
      rw[←hq,if_pos (by decide)]at hW
      exact hW
     ·simp[-List.length_eq_zero_iff,-Int.natCast_eq_zero]at h7
      rw[show kA z i=4 by rw[kA,if_neg (by omega),if_pos (by omega)],if_neg (by decide)]at hq
      rw[←hq,if_pos (by decide)]at hW
      exact hW
     ·simp[-List.length_eq_zero_iff,-Int.natCast_eq_zero]at h7
      rw[show kA z i=0 by rw[kA,if_neg (by omega),if_neg (by omega)],if_pos rfl]at hq
      exact cc (i+1) (by simp) ⟨by omega,hq⟩ (by omega)
   ·obtain rfl:i=z.length:=by omega
    rw[mU]at hq;rw[←hq,if_neg (by decide)]at hW
    simp +contextual (disch:=omega) [-getElem?_pos,wrap64,dG];refine gV (fun h6=>?_) (fun h6=>?_)
    ·simp +contextual (disch:=omega) [-getElem?_pos,wrap64,h6,dG]
     simp[-List.length_eq_zero_iff,-Int.natCast_eq_zero]at h6;rw[if_pos (by omega)]at hW
     exact hW
    ·simp +contextual (disch:=omega) [-getElem?_pos,wrap64,h6,dG]
     simp[-List.length_eq_zero_iff,-Int.natCast_eq_zero]at h6;refine gV (fun h7=>?_) (fun h7=>?_)
     ·simp[-List.length_eq_zero_iff,-Int.natCast_eq_zero]at h7
      rw[if_pos (by omega)]at hW
      exact hW
     ·simp[-List.length_eq_zero_iff,-Int.natCast_eq_zero]at h7
      rw[if_neg (by omega)]at hW
      exact hW
  ·rw[if_pos (by simpa using hc)]at hW
   simp +contextual (disch:=omega) [-getElem?_pos,wrap64,Gk,mV,hc];exact hW)
theorem mC(u:Un)(G:List aV):bo F 132 [un u] G=some (i64 (gW u),G) :=
 cg rfl rfl (by
  obtain⟨c,least,dw,z,up,down⟩:=u;generalize hW:gW ⟨c,least,dw,z,up,down⟩=W;unfold gW at hW;simp only at hW;by_cases hc:gd c=0
  ·have hp:=rE hc
   have hf:=(lL hc).kd;have h2:((c.length:Int)-1).toNat=c.length-1:=by omega
   rw[if_neg (by simpa using hc)]at hW
   simp +contextual (disch:=omega) [-getElem?_pos,wrap64,Gm,lq,hc,bp (l:=c),h2];refine gV (fun h4=>?_) (fun h4=>?_)
   ·simp[-List.length_eq_zero_iff,-Int.natCast_eq_zero]at h4
    by_cases h3:1073741824<(nth c (c.length-1)).y
    ·rw[if_pos h3]at hW
     exact hW
    ·rw[if_neg h3,if_pos (by omega)]at hW
     exact hW
   simp[-List.length_eq_zero_iff,-Int.natCast_eq_zero]at h4;rw[if_neg (by omega),if_neg (by omega)]at hW
   refine b9 (fun h5=>?_) (fun h5=>?_)
   ·rw[if_pos (by omega)]at hW
    exact hW
   rw[if_neg (by omega)]at hW
   refine go_loop (fun i:Nat=>ab7 (y5 z) z.length i [iu c,i64 least,i64 dw,y5 z,i64 up,i64 down] G) (fun i=>i≤z.length∧ef (kA z) (z.length-i) i=ef (kA z) z.length 0) (fun i=>z.length-i) 0 rfl (by simp) ⟨by omega,rfl⟩ ?_
   rintro i ⟨hi,hq⟩;simp +contextual (disch:=omega) [-getElem?_pos,wrap64,Sg];refine b9 (fun h1=>?_) (fun h1=>?_)
   ·have h1:i<z.length:=by omega
    rw[ma h1]at hq;simp +contextual (disch:=omega) [-getElem?_pos,wrap64,bp (l:=z),c5];refine gV (fun h6=>?_) (fun h6=>?_)
    ·simp +contextual (disch:=omega) [-getElem?_pos,wrap64,h6,c5]
     simp[-List.length_eq_zero_iff,-Int.natCast_eq_zero]at h6;rw[show kA z i=1 by rw[kA,if_pos (by omega)],if_neg (by decide)]at hq
     rw[←hq,if_pos (by decide)]at hW
     exact hW
    ·simp +contextual (disch:=omega) [-getElem?_pos,wrap64,h6,c5]
     simp[-List.length_eq_zero_iff,-Int.natCast_eq_zero]at h6;refine gV (fun h7=>?_) (fun h7=>b9 (fun h8=>?_) (fun h8=>?_))
     ·simp[-List.length_eq_zero_iff,-Int.natCast_eq_zero]at h7
      rw[show kA z i=1 by rw[kA,if_pos (by omega)],if_neg (by decide)]at hq
      rw[←hq,if_pos (by decide)]at hW
      exact hW
     ·simp[-List.length_eq_zero_iff,-Int.natCast_eq_zero]at h7
      rw[show kA z i=4 by rw[kA,if_neg (by omega),if_pos (by omega)],if_neg (by decide)]at hq
      rw[←hq,if_pos (by decide)]at hW
      exact hW
     ·simp[-List.length_eq_zero_iff,-Int.natCast_eq_zero]at h7
      rw[show kA z i=0 by rw[kA,if_neg (by omega),if_neg (by omega)],if_pos rfl]at hq
      exact cc (i+1) (by simp) ⟨by omega,hq⟩ (by omega)
   ·obtain rfl:i=z.length:=by omega
    rw[mU]at hq;rw[←hq,if_neg (by decide)]at hW
    simp +contextual (disch:=omega) [-getElem?_pos,wrap64,c5];refine gV (fun h6=>?_) (fun h6=>?_)
    ·simp +contextual (disch:=omega) [-getElem?_pos,wrap64,h6,c5]
     simp[-List.length_eq_zero_iff,-Int.natCast_eq_zero]at h6;rw[if_pos (by omega)]at hW
     exact hW
    ·simp +contextual (disch:=omega) [-getElem?_pos,wrap64,h6,c5]
     simp[-List.length_eq_zero_iff,-Int.natCast_eq_zero]at h6;refine gV (fun h7=>?_) (fun h7=>?_)
     ·simp[-List.length_eq_zero_iff,-Int.natCast_eq_zero]at h7
      rw[if_pos (by omega)]at hW
      exact hW
     ·simp[-List.length_eq_zero_iff,-Int.natCast_eq_zero]at h7
      rw[if_neg (by omega)]at hW
      exact hW
  ·rw[if_pos (by simpa using hc)]at hW
   simp +contextual (disch:=omega) [-getElem?_pos,wrap64,Gm,lq,hc];exact hW)
end Go.Proofs.YtmpikpodpgnjhaaGreat
namespace Go.Proofs.YtmpikpodpgnjhaaGreat
set_option linter.all false
open Go.Vm
attribute [local simp] eS eT eQ eR
structure Uv(u:Un):Prop where
 cv:Cv u.table
 top:(nth u.table (u.table.length-1)).y≤1073741824
 least:1≤u.least
 dw:u.least≤u.dw
 Mf:u.dw≤1073741824
 kd:u.fM.length≤10
 G5:∀i,i<u.fM.length→(0≤(nth u.fM i).lo∧(nth u.fM i).hi≤1073741824)∧(nth u.fM i).lo<(nth u.fM i).hi
 up:0≤u.up∧u.up≤1000
 down:0≤u.down∧u.down≤1000
 lr:gd u.table=0
theorem oW{u:Un}(h:gW u=0):Uv u:=by
 unfold gW at h;split at h
 ·contradiction
 ·split at h
  ·cases h
  ·split at h
   ·cases h
   ·split at h
    ·cases h
    ·split at h
     ·contradiction
     ·split at h
      ·cases h
      ·rename_i h1 h2 h3 h4 h5 h6
       have h1:gd u.table=0:=Decidable.of_not_not h1;have h5:ef (kA u.fM) u.fM.length 0=0:=Decidable.of_not_not h5;refine⟨lL h1,by omega,by omega,by omega,by omega,by omega,fun i hi=>?_,by omega,by omega,h1⟩
       have h7:=sH h5 i (by omega) (by omega)
       unfold kA at h7;split at h7
       ·cases h7
       ·split at h7
        ·cases h7
        ·omega
def ins(u:Un)(q:Int):Prop:=∃i,i<u.fM.length∧(nth u.fM i).lo<q∧q<(nth u.fM i).hi
theorem Tn{u:Un}(hu:Uv u)(q:Int)(G:List aV) :
  ∃r,bo F 221 [un u,i64 q] G=some (i64 r,G)∧q≤r∧¬ins u r∧(∀t,q≤t→t<r→ins u t)∧(r=q∨r≤1073741824):=by
 suffices h:iV (bo F) 221 [un u,i64 q] G fun v G'=>G'=G∧∃r,v=i64 r∧q≤r∧¬ins u r∧(∀t,q≤t→t<r→ins u t)∧(r=q∨r≤1073741824) by
  obtain⟨_,_,h,rfl,r,rfl,h2⟩:=h;exact⟨r,h,h2⟩
 refine ju rfl rfl ?_;have hz:=hu.G5;have hf:=hu.kd;simp +contextual (disch:=omega) [-getElem?_pos,wrap64,L2];refine go_loop (fun r:Int=>adH r u.row G) (fun r=>q≤r∧(∀t,q≤t→t<r→ins u t)∧(r=q∨r≤1073741824)) (fun r=>(1073741824-r).toNat) q rfl (by simp) ⟨by omega,by omega,.inl rfl⟩ ?_
 rintro r ⟨h1,h2,h3⟩;simp +contextual (disch:=omega) [-getElem?_pos,wrap64,S9];refine go_loop (fun i:Nat=>adF r (y5 u.fM) u.fM.length i u.row G) (fun i=>i≤u.fM.length∧∀j,j<i→¬((nth u.fM j).lo<r∧r<(nth u.fM j).hi)) (fun i=>u.fM.length-i) 0 rfl (by simp) ⟨by omega,by omega⟩ ?_
 rintro i ⟨hi,hn⟩;simp +contextual (disch:=omega) [-getElem?_pos,wrap64,S8];refine b9 (fun h4=>?_) (fun h4=>?_)
 ·have h4:i<u.fM.length:=by omega
  have h5:=hz i h4;simp +contextual (disch:=omega) [-getElem?_pos,wrap64,bp (l:=u.fM)];refine gV (fun h6=>?_) (fun h6=>?_)
  ·simp[-List.length_eq_zero_iff,-Int.natCast_eq_zero]at h6
   refine cc (nth u.fM i).hi (by simp) ⟨by omega,fun t ha hb=>?_,by omega⟩ (by omega)
   by_cases h7:t<r
   ·exact h2 t ha h7
   ·exact⟨i,h4,by omega,hb⟩
  ·simp[-List.length_eq_zero_iff,-Int.natCast_eq_zero]at h6
   refine cc (i+1) (by simp) ⟨by omega,fun j hj=>?_⟩ (by omega)
   rcases Nat.lt_or_ge j i with h7|h7
   ·have:=hn j h7;omega
   ·obtain rfl:j=i:=by omega
    omega
 ·obtain rfl:i=u.fM.length:=by omega
  exact⟨h1,fun⟨j,hj,h5,h6⟩=>hn j hj ⟨h5,h6⟩,h2,h3⟩
theorem To{u:Un}(hu:Uv u)(q:Int)(G:List aV) :
  (∃e,bo F 190 [un u,i64 q] G=some (.tuple [i64 e,.bool true],G)∧ins u q∧q<e∧e≤1073741824∧∀t,q≤t→t<e→ins u t) ∨
  (bo F 190 [un u,i64 q] G=some (.tuple [i64 0,.bool false],G)∧¬ins u q):=by
 suffices h:iV (bo F) 190 [un u,i64 q] G fun v G'=>G'=G∧((∃e,v=.tuple [i64 e,.bool true]∧ins u q∧q<e∧e≤1073741824∧∀t,q≤t→t<e→ins u t)∨v=.tuple [i64 0,.bool false]∧¬ins u q) by
  obtain⟨_,_,h,rfl,⟨e,rfl,h2⟩ | ⟨rfl,h2⟩⟩:=h
  ·exact .inl ⟨e,h,h2⟩
  ·exact .inr ⟨h,h2⟩
 refine ju rfl rfl ?_;have hz:=hu.G5;have hf:=hu.kd;simp +contextual (disch:=omega) [-getElem?_pos,wrap64,LK];refine go_loop (fun i:Nat=>ac3 q (y5 u.fM) u.fM.length i G) (fun i=>i≤u.fM.length∧∀j,j<i→¬((nth u.fM j).lo<q∧q<(nth u.fM j).hi)) (fun i=>u.fM.length-i) 0 rfl (by simp) ⟨by omega,by omega⟩ ?_
 rintro i ⟨hi,hn⟩;simp +contextual (disch:=omega) [-getElem?_pos,wrap64,SP];refine b9 (fun h4=>?_) (fun h4=>?_)
 ·have h4:i<u.fM.length:=by omega
  have h5:=hz i h4;simp +contextual (disch:=omega) [-getElem?_pos,wrap64,bp (l:=u.fM)];refine gV (fun h6=>?_) (fun h6=>?_)
  ·simp[-List.length_eq_zero_iff,-Int.natCast_eq_zero]at h6
   exact⟨⟨i,h4,by omega,by omega⟩,by omega,by omega,fun t ha hb=>⟨i,h4,by omega,hb⟩⟩
  ·simp[-List.length_eq_zero_iff,-Int.natCast_eq_zero]at h6
   refine cc (i+1) (by simp) ⟨by omega,fun j hj=>?_⟩ (by omega)
   rcases Nat.lt_or_ge j i with h7|h7
   ·have:=hn j h7;omega
   ·obtain rfl:j=i:=by omega
    omega
 ·obtain rfl:i=u.fM.length:=by omega
  rintro⟨j,hj,h5,h6⟩;exact hn j hj ⟨h5,h6⟩
end Go.Proofs.YtmpikpodpgnjhaaGreat
namespace Go.Proofs.YtmpikpodpgnjhaaGreat
set_option linter.all false
open Go.Vm
attribute [local simp] eS eT eQ eR
structure Us where
 cq:Int
 since:Int
 out:Bool
 deriving Inhabited,DecidableEq
abbrev Us.row(s:Us):List V:=[i64 s.cq,i64 s.since,.bool s.out]
abbrev us(s:Us):V:=.agg s.row
def oe(u:Un)(q:Int):Prop:=u.least≤q∧q≤u.dw∧¬ins u q
noncomputable instance aoQ{u:Un}{q:Int}:Decidable (oe u q):=Classical.propDecidable _
noncomputable instance aoR{u:Un}{q:Int}:Decidable (ins u q):=Classical.propDecidable _
theorem xh{u:Un}(hu:Uv u)(q:Int)(G:List aV):bo F 209 [un u,i64 q] G=some (.bool (decide (oe u q)),G) :=
 cg rfl rfl (by
  obtain⟨r,h1,h2,h3,h4,_⟩:=Tn hu q [];have key:decide (oe u q)=(decide (u.least≤q)&&decide (q≤u.dw)&&decide (r=q)):=by
   rw[Bool.eq_iff_iff];simp only[decide_eq_true_eq,Bool.and_eq_true];constructor
   ·rintro⟨a,b,d⟩
    refine⟨⟨a,b⟩,Decidable.byContradiction fun cF=>d (h4 q (by omega) (by omega))⟩
   ·rintro⟨⟨a,b⟩,rfl⟩
    exact⟨a,b,h3⟩
  rw[key];simp +contextual [wrap64,LW,h1];refine gV (fun h5=>?_) (fun h5=>?_)
  ·simp +contextual [wrap64,h5,h1]
  ·simp +contextual [wrap64,h5,h1])
theorem vT(u:Un)(q:Int)(G:List aV):bo F 175 [un u,i64 q] G=some (.bool (decide (gW u=0∧oe u q)),G) :=
 cg rfl rfl (by
  generalize hW:decide (gW u=0∧oe u q)=W;by_cases hc:gW u=0
  ·simp +contextual [wrap64,GA,mC,hc]
   refine gV (fun h1=>?_) (fun h1=>?_)
   ·simp[-List.length_eq_zero_iff,-Int.natCast_eq_zero]at h1
    rw[←hW,decide_eq_false (fun h=>by have:=h.2.1;have:=h.2.2.1;omega)]
   ·simp[-List.length_eq_zero_iff,-Int.natCast_eq_zero]at h1
    rcases To (oW hc) q []with⟨e,h2,h3,_⟩ | ⟨h2,h3⟩
    ·simp +contextual [wrap64,h2]
     rw[←hW,decide_eq_false (fun h=>h.2.2.2 h3)]
    ·simp +contextual [wrap64,h2]
     rw[←hW,decide_eq_true ⟨hc,by omega,by omega,h3⟩]
  ·simp +contextual [wrap64,GA,mC,hc]
   rw[←hW,decide_eq_false (fun h=>hc h.1)])
def fg(u:Un)(s:Us):Prop:=gW u=0∧(0≤s.since∧s.since≤1000)∧(s.cq=0∨s.out=false∧oe u s.cq)
def jG(u:Un)(s:Us)(q:Int):Prop:=if q=0 then (0<s.cq→u.up≤s.since) else s.out=false∧¬(s.cq=0∧s.since<u.down)∧oe u q
noncomputable instance aoS{u:Un}{s:Us}:Decidable (fg u s):=Classical.propDecidable _
noncomputable instance aoT{u:Un}{s:Us}{q:Int}:Decidable (jG u s q):=Classical.propDecidable _
theorem Mg{u:Un}(hc:gW u=0)(s:Us)(G:List aV):bo F 202 [un u,us s] G=some (.bool (decide (fg u s)),G) :=
 cg rfl rfl (by
  obtain⟨cq,since,out⟩:=s;generalize hW:decide (fg u ⟨cq,since,out⟩)=W;have e:fg u ⟨cq,since,out⟩↔(0≤since∧since≤1000)∧(cq=0∨out=false∧oe u cq):=by simp[fg,hc]
  by_cases h1:0≤since∧since≤1000
  ·by_cases h2:cq=0
   ·simp[wrap64,Bj,dG,xh (oW hc),h1.1,h1.2,h2]
    rw[←hW,decide_eq_true (e.2 ⟨h1,.inl h2⟩)]
   ·cases out with
    |true =>
     simp[wrap64,Bj,dG,xh (oW hc),h1.1,h1.2,h2];rw[←hW,decide_eq_false (fun h=>by have:=(e.1 h).2;simp[h2]at this)]
    |false =>
     simp[wrap64,Bj,dG,xh (oW hc),h1.1,h1.2,h2];rw[←hW];simp[e,h1,h2]
  ·have h3:(decide (0≤since)&&decide (since≤1000))=false:=by simp;omega
   simp[wrap64,Bj,dG,xh (oW hc),h3];rw[←hW,decide_eq_false (fun h=>h1 (e.1 h).1)])
theorem xi(u:Un)(s:Us)(G:List aV):bo F 192 [un u,us s] G=some (.bool (decide (fg u s)),G) :=
 cg rfl rfl (by
  generalize hW:decide (fg u s)=W;by_cases hc:gW u=0
  ·simp[wrap64,GI,qH,hc,Mg hc]
   exact hW
  ·simp[wrap64,GI,qH,hc]
   rw[←hW,decide_eq_false (fun h=>hc h.1)])
theorem uL(u:Un)(s:Us)(G:List aV):bo F 135 [un u,us s] G=some (.bool (decide (fg u s)),G) :=
 cg rfl rfl (by
  obtain⟨cq,since,out⟩:=s;generalize hW:decide (fg u ⟨cq,since,out⟩)=W;by_cases hc:gW u=0
  ·have e:fg u ⟨cq,since,out⟩↔(0≤since∧since≤1000)∧(cq=0∨out=false∧oe u cq):=by simp[fg,hc]
   by_cases h1:0≤since∧since≤1000
   ·by_cases h2:cq=0
    ·simp[wrap64,yZ,mC,c5,vT,hc,h1.1,h1.2,h2]
     rw[←hW,decide_eq_true (e.2 ⟨h1,.inl h2⟩)]
    ·by_cases h3:oe u cq
     ·simp[wrap64,yZ,mC,c5,vT,hc,h1.1,h1.2,h2,h3]
      rw[←hW];simp[e,h1,h2,h3]
     ·simp[wrap64,yZ,mC,c5,vT,hc,h1.1,h1.2,h2,h3]
      rw[←hW];simp[e,h1,h2,h3]
   ·have h3:(decide (0≤since)&&decide (since≤1000))=false:=by simp;omega
    simp[wrap64,yZ,mC,c5,vT,hc,h3];rw[←hW,decide_eq_false (fun h=>h1 (e.1 h).1)]
  ·simp[wrap64,yZ,mC,hc]
   rw[←hW,decide_eq_false (fun h=>hc h.1)])
theorem G6{u:Un}(hc:gW u=0){q:Int}(h:oe u q):1≤q:=by have:=(oW hc).least;have:=h.1;omega
theorem Mh{u:Un}{s:Us}(hv:fg u s)(q:Int)(G:List aV):bo F 220 [un u,us s,i64 q] G=some (.bool (decide (jG u s q)),G) :=
 cg rfl rfl (by
  obtain⟨hc,h1,h2⟩:=hv;obtain⟨cq,since,out⟩:=s;simp only at h1 h2;generalize hW:decide (jG u ⟨cq,since,out⟩ q)=W;simp only[jG]at hW;by_cases h3:q=0
  ·subst h3
   by_cases h4:0<cq
   ·simp[wrap64,xf,h4]
    rw[←hW];simp[h4]
   ·simp[wrap64,xf,h4]
    rw[←hW];simp[h4]
  ·simp only[h3,if_false]at hW
   cases out with
   |true =>
    simp[wrap64,xf,h3];rw[←hW];simp
   |false =>
    by_cases h5:cq=0
    ·by_cases h6:since<u.down
     ·simp[wrap64,xf,h3,h5,h6]
      rw[←hW];simp[h5];omega
     ·simp[wrap64,xf,h3,h5,h6,xh (oW hc)]
      rw[←hW];simp[h5];omega
    ·simp[wrap64,xf,h3,h5,xh (oW hc)]
     rw[←hW];simp[h5])
theorem agN(u:Un)(s:Us)(q:Int)(G:List aV):bo F 231 [un u,us s,i64 q] G=some (.bool (decide (fg u s∧jG u s q)),G) :=
 cg rfl rfl (by
  generalize hW:decide (fg u s∧jG u s q)=W;by_cases hv:fg u s
  ·simp[wrap64,GV,xi,hv,Mh hv]
   rw[←hW];simp[hv]
  ·simp[wrap64,GV,xi,hv]
   rw[←hW];simp[hv])
theorem Mi(u:Un)(s:Us)(q:Int)(G:List aV):bo F 170 [un u,us s,i64 q] G=some (.bool (decide (fg u s∧jG u s q)),G) :=
 cg rfl rfl (by
  generalize hW:decide (fg u s∧jG u s q)=W;have hV:=uL u s [];by_cases hv:fg u s
  ·obtain⟨hc,h1,h2⟩:=id hv
   obtain⟨cq,since,out⟩:=s;simp only[hv,decide_true]at hV;simp only at h1 h2;simp only[jG]at hW;have hf:cq=0∨0<cq:=by
    rcases h2 with h | ⟨_,h⟩
    ·exact .inl h
    ·have:=G6 hc h;omega
   by_cases h3:q=0
   ·subst h3
    by_cases h4:0<cq
    ·simp +contextual [wrap64,vQ,hV,h4]
     rw[←hW];simp[h4,hv]
    ·simp +contextual [wrap64,vQ,hV,h4]
     rw[←hW];simp[h4,hv]
   ·simp only[h3,if_false]at hW
    cases out with
    |true =>
     simp +contextual [wrap64,vQ,hV,h3];rw[←hW];simp
    |false =>
     by_cases h5:oe u q
     ·have h6:=G6 hc h5
      have h8:0<q:=by omega
      rcases hf with h7|h7
      ·subst h7
       simp +contextual [wrap64,vQ,hV,h3,vT,hc,h5,h8];rw[←hW];simp[hv,h5]
      ·have h9:¬cq=0:=by omega
       simp +contextual [wrap64,vQ,hV,h3,vT,hc,h5,h8,h7,h9];rw[←hW];simp[hv,h5,h9]
     ·simp +contextual [wrap64,vQ,hV,h3,vT,hc,h5]
      rw[←hW];simp[h5]
  ·simp +contextual [wrap64,vQ,hV,hv]
   rw[←hW];simp[hv])
noncomputable def uM(u:Un)(q:Int):Int:=if gW u≠0 then gW u else if q=0∨oe u q then 0 else 1
noncomputable def pow(u:Un)(q:Int):Int:=if gW u=0∧q≠0∧oe u q then ic u.table q else 0
theorem DX(u:Un)(q:Int)(G:List aV):bo F 208 [un u,i64 q] G=some (.tuple [i64 (pow u q),i64 (uM u q)],G) :=
 cg rfl rfl (by
  by_cases hc:gW u=0
  ·by_cases h1:q=0
   ·simp[wrap64,Bk,qH,hc,h1]
    simp[pow,uM,hc]
   ·by_cases h2:oe u q
    ·simp[wrap64,Bk,qH,hc,h1,xh (oW hc),h2,G4 (oW hc).cv]
     simp[pow,uM,hc,h1,h2]
    ·simp[wrap64,Bk,qH,hc,h1,xh (oW hc),h2]
     simp[pow,uM,hc,h1,h2]
  ·simp[wrap64,Bk,qH,hc]
   simp[pow,uM,hc])
theorem Mj(u:Un)(q:Int)(G:List aV):bo F 169 [un u,i64 q] G=some (.tuple [i64 (pow u q),i64 (uM u q)],G) :=
 cg rfl rfl (by
  by_cases hc:gW u=0
  ·by_cases h1:q=0
   ·simp[wrap64,Bg,mC,hc,h1]
    simp[pow,uM,hc]
   ·by_cases h2:oe u q
    ·simp[wrap64,Bg,mC,hc,h1,vT,h2,Me,(oW hc).lr]
     simp[pow,uM,hc,h1,h2]
    ·simp[wrap64,Bg,mC,hc,h1,vT,h2]
     simp[pow,uM,hc,h1,h2]
  ·simp[wrap64,Bg,mC,hc]
   simp[pow,uM,hc])
noncomputable def qI(u:Un)(s:Us)(q:Int):Int:=if gW u≠0 then gW u else if ¬fg u s then 3 else if ¬jG u s q then 15 else 0
def qJ(s:Us)(q:Int):Us:=⟨q,if decide (0<s.cq)=decide (0<q) then min 1000 (s.since+1) else 1,s.out⟩
theorem Mk(u:Un)(s:Us)(q:Int)(G:List aV):bo F 122 [un u,us s,i64 q] G =
  some (.tuple (if qI u s q=0 then [us (qJ s q),.bool (decide (s.cq=0)&&decide (0<q)),i64 0] else [us ⟨0,0,false⟩,.bool false,i64 (qI u s q)]),G) :=
 cg rfl rfl (by
  by_cases hc:gW u=0
  ·by_cases hv:fg u s
   ·by_cases hm:jG u s q
    ·have h1:=hv.2.1
     simp +contextual (disch:=omega) [wrap64,Be,mC,uL,Mi,hc,hv,hm];have e:qI u s q=0:=by simp[qI,hc,hv,hm]
     refine gV (fun h=>?_) (fun h=>?_)
     ·simp at h
      simp[e,qJ,h]
     ·simp at h
      simp[e,qJ,h]
    ·simp +contextual (disch:=omega) [wrap64,Be,mC,uL,Mi,hc,hv,hm]
     simp[qI,hc,hv,hm]
   ·simp +contextual (disch:=omega) [wrap64,Be,mC,uL,hc,hv]
    simp[qI,hc,hv]
  ·simp +contextual (disch:=omega) [wrap64,Be,mC,hc]
   simp[qI,hc])
end Go.Proofs.YtmpikpodpgnjhaaGreat
namespace Go.Proofs.YtmpikpodpgnjhaaGreat
set_option linter.all false
open Go.Vm
attribute [local simp] eS eT eQ eR
noncomputable def fk(u:Un)(g:Int):List Int:=((List.range ((u.dw / g).toNat+1)).map fun k:Nat=>(k:Int)*g).filter fun q=>decide (oe u q)
noncomputable def below(u:Un)(g t:Int):List Int:=(fk u g).filter fun q=>decide (q<t)
theorem xj{u:Un}(hu:Uv u){g:Int}(hg:1≤g){q:Int}:q∈fk u g↔oe u q∧∃k:Nat,q=k*g:=by
 simp only[fk,List.mem_filter,List.mem_map,List.mem_range,decide_eq_true_eq];constructor
 ·rintro⟨⟨k,_,rfl⟩,h⟩
  exact⟨h,k,rfl⟩
 ·rintro⟨h,k,rfl⟩
  refine⟨⟨k,?_,rfl⟩,h⟩;have h1:=h.2.1;have:(k:Int)≤u.dw / g:=(Int.le_ediv_iff_mul_le (by omega)).2 h1
  omega
theorem agO{u:Un}{g:Int}(hg:1≤g):(fk u g).Pairwise (· < ·):=by
 refine List.Pairwise.filter _ ?_;rw[List.pairwise_map];refine List.Pairwise.imp ?_ (List.pairwise_lt_range);intro a b qa;exact Int.mul_lt_mul_of_pos_right (by omega) (by omega)
theorem Tp{q:Int}:∀{l:List Int},l.Pairwise (· < ·)→q∈l→l.filter (fun x=>decide (x<q+1))=l.filter (fun x=>decide (x<q))++[q]
 |[],_,h=>by simp at h
 |a::l,hp,h=>by
  obtain⟨h1,h2⟩:=List.pairwise_cons.1 hp;rcases List.mem_cons.1 h with rfl|h3
  ·have e:∀t,t≤q+1→l.filter (fun x=>decide (x<t))=[]:=fun t ht=>by
    rw[List.filter_eq_nil_iff];intro b hb;have:=h1 b hb;simp;omega
   have h3:q<q+1:=by omega
   have h4:¬ q<q:=by omega
   simp[h3,e (q+1) (by omega),e q (by omega)]
  ·have:=h1 q h3
   have h4:a<q:=this;have h5:a<q+1:=by omega
   simp[h4,h5,Tp h2 h3]
theorem Ml{u:Un}{g q:Int}(hg:1≤g)(h:q∈fk u g):below u g (q+1)=below u g q++[q]:=Tp (agO hg) h
theorem Mm{u:Un}{g t t':Int}(h:∀q∈fk u g,t≤q→q<t'→False)(hle:t≤t'):below u g t=below u g t':=by
 refine List.filter_congr fun q hq=>?_;have:=h q hq;by_cases h1:q<t
 ·have:q<t':=by omega
  simp[h1,this]
 ·have h2:¬ q<t':=fun h2=>this (by omega) h2
  simp[h1,h2]
theorem Tq{u:Un}{g t:Int}(h:∀q∈fk u g,q<t):below u g t=fk u g:=by
 refine List.filter_eq_self.2 fun q hq=>?_;simp[h q hq]
theorem Mn{u:Un}{g t:Int}(h:t≤u.least):below u g t=[]:=by
 refine List.filter_eq_nil_iff.2 fun q hq=>?_;simp only[fk,List.mem_filter,decide_eq_true_eq]at hq;have:=hq.2.1;simp;omega
theorem Ts{u:Un}{g q:Int}(hg:1≤g)(h:q∈fk u g):(below u g q).length<(fk u g).length:=by
 have h1:=Ml hg h;have h2:(below u g (q+1)).length≤(fk u g).length:=List.length_filter_le _ _;rw[h1]at h2;simp at h2;omega
def sI(q g:Int):Int:=(q+g-1).tdiv g*g
theorem G7{q g:Int}(hq:0≤q)(hg:1≤g):q≤sI q g∧sI q g≤q+g-1∧(∃k:Nat,sI q g=k*g)∧∀k:Nat,q≤k*g→sI q g≤k*g:=by
 unfold sI;rw[Int.tdiv_eq_ediv_of_nonneg (by omega)]
 have h1:=Int.ediv_mul_le (q+g-1) (b:=g) (by omega)
 have h2:=Int.lt_ediv_add_one_mul_self (q+g-1) (b:=g) (by omega)
 have h3:0≤(q+g-1) / g:=Int.ediv_nonneg (by omega) (by omega)
 rw[Int.add_mul,Int.one_mul]at h2;refine⟨by omega,h1,⟨((q+g-1) / g).toNat,by rw[Int.toNat_of_nonneg h3]⟩,fun k hk=>?_⟩
 refine Int.mul_le_mul_of_nonneg_right ?_ (by omega)
 refine Int.not_lt.1 fun h4=>?_;have h5:((k:Int)+1)*g≤(q+g-1) / g*g:=Int.mul_le_mul_of_nonneg_right (by omega) (by omega)
 rw[Int.add_mul,Int.one_mul]at h5;omega
theorem Mo{u:Un}(hu:Uv u){g q:Int}(hq:0≤q)(hg:1≤g):below u g q=below u g (sI q g):=by
 obtain⟨h1,_,_,h4⟩:=G7 hq hg;refine Mm (fun x hx a b=>?_) h1;obtain⟨_,k,rfl⟩:=(xj hu hg).1 hx;have:=h4 k a;omega
theorem Tt{u:Un}(hu:Uv u){g q r:Int}(hg:1≤g)(h:∀t,q≤t→t<r→ins u t)(hle:q≤r):below u g q=below u g r :=
 Mm (fun x hx a b=>((xj hu hg).1 hx).1.2.2 (h x a b)) hle
theorem agP{u:Un}(hu:Uv u){g q:Int}(hg:1≤g)(hq:∃k:Nat,q=k*g):below u g (q+1)=below u g (q+g):=by
 refine Mm (fun x hx a b=>?_) (by omega)
 obtain⟨_,k,rfl⟩:=(xj hu hg).1 hx;obtain⟨m,rfl⟩:=hq;have h1:(m:Int)<k:=by
  refine Int.not_le.1 fun h=>?_;have:=Int.mul_le_mul_of_nonneg_right h (show 0≤g by omega)
  omega
 have h2:((m:Int)+1)*g≤k*g:=Int.mul_le_mul_of_nonneg_right (by omega) (by omega)
 rw[Int.add_mul,Int.one_mul]at h2;omega
noncomputable def gC(u:Un)(g:Int):Int:=if gW u≠0 then gW u else if g<1∨1073741824<g then 1 else if 200<(fk u g).length then 10 else 0
noncomputable def mW(u:Un)(g:Int):List Int:=if gC u g=0 then fk u g else []
abbrev own(l:List Int):V:=.slice (some 0) 1 (l.map fun n=>[i64 n])
theorem Mp(u:Un)(g:Int)(G:List aV):bo F 228 [un u,i64 g] G=some (.tuple [own (mW u g),i64 (gC u g)],G) :=
 cg rfl rfl (by
  by_cases hc:gW u=0
  ·simp +contextual (disch:=omega) [wrap64,GU,qH,hc]
   refine gV (fun h1=>?_) (fun h1=>?_)
   ·simp[-List.length_eq_zero_iff,-Int.natCast_eq_zero]at h1
    have e:gC u g=1:=by simp[gC,hc,h1]
    simp[mW,e]
   ·simp[-List.length_eq_zero_iff,-Int.natCast_eq_zero]at h1
    have hu:=oW hc;have m1:=hu.least;have m2:=hu.dw;have m3:=hu.Mf;have hg:1≤g:=h1.1;refine go_loop (fun f:Int=>adU g (.slice (some 1049) 1 ((below u g f).map fun n=>[i64 n])) f u.row (below u g f).length G) (fun f=>u.least≤f∧f≤1073741825∧(below u g f).length≤200) (fun f=>(1073741826-f).toNat) u.least rfl (by simp[Mn]) (by simp[Mn];omega) ?_
    rintro f ⟨FD,vy,CQ⟩;obtain⟨r1,r2,r3,r4⟩:=G7 (q:=f) (g:=g) (by omega) hg
    have r5:=Mo hu (q:=f) (g:=g) (by omega) hg
    have r6:(f+g-1).tdiv g*g=sI f g:=rfl;have d1:0≤(f+g-1).tdiv g:=Int.tdiv_nonneg (by omega) (by omega)
    have d2:(f+g-1).tdiv g≤f+g-1:=by
     have:=Int.tdiv_le_self (a:=f+g-1) g (by omega)
     omega
    have g0:¬g=0:=by omega
    generalize sI f g=Z at r1 r2 r3 r4 r5 r6;simp +contextual (disch:=omega) [wrap64,Th,g0,r6];refine b9 (fun h2=>?_) (fun h2=>?_)
    ·have hb:below u g f=fk u g:=Tq fun q hq=>by
      rw[xj hu hg]at hq;obtain⟨hq,k,rfl⟩:=hq;have:=hq.2.1;refine Int.not_le.1 fun h=>?_;have:=r4 k h;omega
     have e:gC u g=0:=by simp[gC,hc];rw[hb]at CQ;omega
     rw[hb];simp[mW,e]
    ·obtain⟨r,s1,s2,s3,s4,s5⟩:=Tn hu Z []
     simp +contextual (disch:=omega) [wrap64,s1];refine gV (fun h3=>?_) (fun h3=>?_)
     ·simp[-List.length_eq_zero_iff,-Int.natCast_eq_zero]at h3
      have hb:below u g f=below u g r:=by rw[r5,Tt hu hg s4 s2]
      refine cc r (by rw[hb];simp) ⟨by omega,by omega,by rwa [←hb]⟩ (by omega)
     ·simp[-List.length_eq_zero_iff,-Int.natCast_eq_zero]at h3
      subst h3;have hm:r∈fk u g:=(xj hu hg).2 ⟨⟨by omega,by omega,s3⟩,r3⟩
      have hb:below u g (r+1)=below u g f++[r]:=by rw[r5,Ml hg hm]
      refine b9 (fun h4=>?_) (fun h4=>?_)
      ·have:=Ts hg hm
       have e:gC u g=10:=by
        simp only[gC,hc,ne_eq,not_true,if_false];rw[if_neg (by omega),if_pos (by rw[←r5]at this;omega)]
       simp[mW,e]
      ·refine cc (r+1) (by rw[hb];simp) ⟨by omega,by omega,by rw[hb];simp;omega⟩ (by omega)
  ·have e:gC u g=gW u:=by simp[gC,hc]
   simp +contextual (disch:=omega) [wrap64,GU,qH,hc];simp[mW,e,hc])
theorem Bp(u:Un)(g:Int)(G:List aV):bo F 194 [un u,i64 g] G=some (.tuple [own (mW u g),i64 (gC u g)],G) :=
 cg rfl rfl (by
  by_cases hc:gW u=0
  ·simp +contextual (disch:=omega) [wrap64,GJ,mC,hc]
   refine gV (fun h1=>?_) (fun h1=>?_)
   ·simp[-List.length_eq_zero_iff,-Int.natCast_eq_zero]at h1
    have e:gC u g=1:=by simp[gC,hc,h1]
    simp[mW,e]
   ·simp[-List.length_eq_zero_iff,-Int.natCast_eq_zero]at h1
    have hu:=oW hc;have m1:=hu.least;have m2:=hu.dw;have m3:=hu.Mf;have hg:1≤g:=h1.1;have g0:¬g=0:=by omega
    obtain⟨r1,r2,r3,r4⟩:=G7 (q:=u.least) (g:=g) (by omega) hg
    have r5:=Mo hu (q:=u.least) (g:=g) (by omega) hg
    have r6:(u.least+g-1).tdiv g*g=sI u.least g:=rfl;have d1:0≤(u.least+g-1).tdiv g:=Int.tdiv_nonneg (by omega) (by omega)
    have d2:(u.least+g-1).tdiv g≤u.least+g-1:=by
     have:=Int.tdiv_le_self (a:=u.least+g-1) g (by omega)
     omega
    rw[Mn (by omega)]at r5
    generalize sI u.least g=Z at r1 r2 r3 r4 r5 r6;simp +contextual (disch:=omega) [wrap64,g0,r6];refine go_loop (fun f:Int=>ac5 g (.slice (some 1056) 1 ((below u g f).map fun n=>[i64 n])) f u.row (below u g f).length G) (fun f=>u.least≤f∧f≤2147483648∧(∃k:Nat,f=k*g)∧(below u g f).length≤200) (fun f=>(2147483649-f).toNat) Z rfl (by simp[←r5]) ⟨by omega,by omega,r3,by rw[←r5];simp⟩ ?_
    rintro f ⟨FD,vy,hf4,CQ⟩;simp +contextual (disch:=omega) [wrap64,SQ];refine b9 (fun h2=>?_) (fun h2=>?_)
    ·rcases To hu f []with⟨e,s1,s2,s3,s4,s5⟩ | ⟨s1,s2⟩
     ·obtain⟨p1,p2,p3,p4⟩:=G7 (q:=e) (g:=g) (by omega) hg
      have p5:=Mo hu (q:=e) (g:=g) (by omega) hg
      have p6:(e+g-1).tdiv g*g=sI e g:=rfl;have t1:0≤(e+g-1).tdiv g:=Int.tdiv_nonneg (by omega) (by omega)
      have t2:(e+g-1).tdiv g≤e+g-1:=by
       have:=Int.tdiv_le_self (a:=e+g-1) g (by omega)
       omega
      generalize sI e g=E at p1 p2 p3 p4 p5 p6;simp +contextual (disch:=omega) [wrap64,s1,g0,p6];have hb:below u g f=below u g E:=by rw[←p5];exact Tt hu hg s5 (by omega)
      exact cc E (by rw[hb];simp) ⟨by omega,by omega,p3,by rwa [←hb]⟩ (by omega)
     ·have hm:f∈fk u g↔u.least≤f:=by
       rw[xj hu hg];exact⟨fun h=>h.1.1,fun h=>⟨⟨h,by omega,s2⟩,hf4⟩⟩
      have hm:=hm.2 FD;have hb:below u g (f+g)=below u g f++[f]:=by rw[←agP hu hg hf4,Ml hg hm]
      simp +contextual (disch:=omega) [wrap64,s1];refine b9 (fun h4=>?_) (fun h4=>?_)
      ·have:=Ts hg hm
       have e:gC u g=10:=by
        simp only[gC,hc,ne_eq,not_true,if_false];rw[if_neg (by omega),if_pos (by omega)]
       simp[mW,e]
      ·refine cc (f+g) (by rw[hb];simp) ⟨by omega,by omega,?_,by rw[hb];simp;omega⟩ (by omega)
       obtain⟨k,hk⟩:=hf4;exact⟨k+1,by rw[hk];simp[Int.add_mul]⟩
    ·have hb:below u g f=fk u g:=Tq fun q hq=>by
      rw[xj hu hg]at hq;have:=hq.1.2.1;omega
     have e:gC u g=0:=by simp[gC,hc];rw[hb]at CQ;omega
     rw[hb];simp[mW,e]
  ·have e:gC u g=gW u:=by simp[gC,hc]
   simp +contextual (disch:=omega) [wrap64,GJ,mC,hc];simp[mW,e,hc])
end Go.Proofs.YtmpikpodpgnjhaaGreat
namespace Go.Proofs.YtmpikpodpgnjhaaGreat
set_option linter.all false
open Go.Vm
attribute [local simp] eS eT eQ eR
theorem iW{α:Type}[Inhabited α]{l:List α}{a:α}{i:Nat}:nth (l++[a]) i=if i<l.length then nth l i else if i=l.length then a else default:=by
 simp only[nth,List.getD,List.getElem?_append];split
 ·rfl
 ·split
  ·rename_i h;subst h;simp
  ·rename_i h1 h2
   rw[List.getElem?_eq_none (by simp;omega)]
   rfl
structure Cw(c:List Pt)(x y dx dy least:Int):Prop where
 pos:0<c.length
 kd:c.length≤5
 first:nth c 0=⟨x,y⟩
 step:∀i,0<i→i<c.length→((nth c (i-1)).x<(nth c i).x∧(nth c i).x≤(nth c (i-1)).x+dx)∧(nth c (i-1)).y+least≤(nth c i).y∧(nth c i).y≤(nth c (i-1)).y+dy
theorem Cw.up{c:List Pt}{x y dx dy least:Int}(h:Cw c x y dx dy least)(h0:0≤x∧x≤1000)(h1:0≤y∧y≤1000)(h2:0≤dx∧dx≤1000)(h3:0≤dy∧dy≤1000)(h4:0≤least) :
  ∀i:Nat,i<c.length→(0≤(nth c i).x∧(nth c i).x≤1000+1000*(i:Int))∧0≤(nth c i).y∧(nth c i).y≤1000+1000*(i:Int):=by
 intro i;induction i with
 |zero=>intro hi;have:=h.first;rw[this];simp;omega
 |succ i ih =>
  intro hi;have a:=ih (by omega)
  have b:=h.step (i+1) (by omega) hi
  simp only[Nat.add_sub_cancel]at b;omega
theorem Cw.lr{c:List Pt}{x y dx dy least:Int}(h:Cw c x y dx dy least)(h0:0≤x∧x≤1000)(h1:0≤y∧y≤1000)(h2:0≤dx∧dx≤1000)(h3:0≤dy∧dy≤1000)(h4:0≤least):gd c=0:=by
 have hp:=h.pos;have hf:=h.kd;unfold gd;rw[if_neg (by omega),if_neg (by omega)]
 refine rD fun i _ hi=>?_;have a:=h.up h0 h1 h2 h3 h4 i (by omega)
 unfold g7;rw[if_neg (by omega)]
 split
 ·rfl
 ·have b:=h.step i (by omega) (by omega)
  rw[if_neg (by omega),if_neg]
  rw[Int.tdiv_eq_ediv_of_nonneg (by omega)]
  generalize hu:(nth c i).x-(nth c (i-1)).x=u;generalize hv:(nth c i).y-(nth c (i-1)).y=v;refine Int.not_lt.2 ((Int.le_ediv_iff_mul_le (by omega)).2 ?_)
  have:v*u≤1000*1000:=Int.mul_le_mul (by omega) (by omega) (by omega) (by omega)
  omega
abbrev opts(c:List Pt):V:=.slice (some 0) 2 (c.map Pt.row)
theorem Mq{l:List Int}{k:Nat}(hd:ed l k){x y dx dy:Int}(strict:Bool)(h0:0≤x∧x≤1000)(h1:0≤y∧y≤1000)(h2:1≤dx∧dx≤1000)(h3:1≤dy∧dy≤1000) :
  ∃c k',bo F 179 [.bN 0 0,i64 x,i64 y,i64 dx,i64 dy,.bool strict] [dk l k]=some (opts c,[dk l k'])∧ed l k'∧2≤c.length∧Cw c x y dx dy (if strict then 1 else 0):=by
 suffices h:iV (bo F) 179 [.bN 0 0,i64 x,i64 y,i64 dx,i64 dy,.bool strict] [dk l k] fun v G=>∃c k',v=opts c∧G=[dk l k']∧ed l k'∧2≤c.length∧Cw c x y dx dy (if strict then 1 else 0) by
  obtain⟨_,_,h,c,k',rfl,rfl,h1⟩:=h;exact⟨c,k',h,h1⟩
 generalize hL:(if strict then 1 else 0:Int)=L
 have hL1:0≤L∧L≤1:=by rw[←hL];cases strict<;>simp
 refine ju rfl rfl ?_;obtain⟨a,k1,n1,ji,ha⟩:=gL hd 4 (by omega)
 have main:∀K:cH,(∀c k',ed l k'→2≤c.length→Cw c x y dx dy L→∀z,K (.exit 0) ⟨[(0,.bN 0 0),(1,i64 (nth c (c.length-1)).x),(2,i64 (nth c (c.length-1)).y),(3,i64 dx),(4,i64 dy),(13,i64 L),(14,.slice (some 1020) 2 (c.map Pt.row)),(15,i64 0),(25,z)],[],[(1020,c.length)],[dk l k']⟩) →
   go (bo F) SJ (SK (.bN 0 0) x y dx dy L (.slice (some 1020) 2 [Pt.row ⟨x,y⟩]) (1+a) 1 [dk l k1]) K:=by
  intro K hK;refine go_loop (fun s:List Pt×Int×Nat=>SK (.bN 0 0) (nth s.1 (s.1.length-1)).x (nth s.1 (s.1.length-1)).y dx dy L (.slice (some 1020) 2 (s.1.map Pt.row)) s.2.1 s.1.length [dk l s.2.2])
   (fun s=>Cw s.1 x y dx dy L∧(0<s.2.1∨2≤s.1.length)∧0≤s.2.1∧(s.1.length:Int)+s.2.1≤5∧ed l s.2.2) (fun s=>s.2.1.toNat) ([⟨x,y⟩],1+a,k1) rfl (by simp[nth]) ⟨⟨by simp,by simp,rfl,fun i a b=>by simp at b;omega⟩,by simp;omega,by simp;omega,by simp;omega,ji⟩ ?_
  rintro⟨c,m,k⟩ ⟨hc,DY,hm2,G8,hd⟩;simp only at hc DY hm2 G8 hd;have hp:=hc.pos;have hu:=hc.up h0 h1 ⟨by omega,h2.2⟩ ⟨by omega,h3.2⟩ hL1.1 (c.length-1) (by omega)
  obtain⟨p,k2,n2,gz,hp2⟩:=gL hd dx (by omega)
  obtain⟨q,k3,n3,mX,hq⟩:=gL gz dy (by omega)
  simp (disch:=omega) [wrap64,SI];refine b9 (fun h4=>?_) (fun h4=>?_)
  ·simp (disch:=omega) [wrap64,n2,n3]
   refine cc (c++[⟨(nth c (c.length-1)).x+1+p,(nth c (c.length-1)).y+L+q⟩],m-1,k3) (by simp[iW]) ⟨⟨by simp,by simp;omega,?_,fun i hi hj=>?_⟩,by simp;omega,by simp;omega,by simp;omega,mX⟩ (by simp;omega)
   ·rw[iW,if_pos hp];exact hc.first
   ·simp at hj
    rw[iW,iW];by_cases qK:i<c.length
    ·rw[if_pos (by omega),if_pos (by omega)]
     exact hc.step i hi qK
    ·obtain rfl:i=c.length:=by omega
     rw[if_pos (by omega),if_neg (by omega),if_pos rfl]
     simp only;omega
  ·obtain rfl:m=0:=by omega
   exact hK c k hd (by omega) hc _
 cases strict with
 |true =>
  simp at hL;subst hL;simp (disch:=omega) [wrap64,GB,n1];refine main _ fun c k' q1 q2 q3 z=>?_;simp (disch:=omega) [wrap64,wrap64];exact⟨c,rfl,k',rfl,q1,q2,q3⟩
 |false =>
  simp at hL;subst hL;simp (disch:=omega) [wrap64,GB,n1];refine main _ fun c k' q1 q2 q3 z=>?_;simp (disch:=omega) [wrap64,wrap64];exact⟨c,rfl,k',rfl,q1,q2,q3⟩
structure Uw(u:Un):Prop where
 table:Cw u.table 0 0 10 30 0
 two:2≤u.table.length
 least:1≤u.least∧u.least≤8
 dw:u.least≤u.dw∧u.dw≤19
 kd:u.fM.length≤2
 G5:∀i,i<u.fM.length→(0≤(nth u.fM i).lo∧(nth u.fM i).hi≤20)∧(nth u.fM i).lo<(nth u.fM i).hi
 up:0≤u.up∧u.up≤2
 down:0≤u.down∧u.down≤2
theorem Uw.lr{u:Un}(h:Uw u):gW u=0:=by
 have c:=h.table.lr (by omega) (by omega) (by omega) (by omega) (by omega)
 have hp:=h.table.pos;have hf:=h.table.kd;have hu:=h.table.up (by omega) (by omega) (by omega) (by omega) (by omega) (u.table.length-1) (by omega)
 have a1:=h.least;have a2:=h.dw;have a3:=h.kd;have a4:=h.up;have a5:=h.down;have z:ef (kA u.fM) u.fM.length 0=0:=rD fun i _ hi=>by
  have:=h.G5 i (by omega)
  rw[kA,if_neg (by omega),if_neg (by omega)]
 unfold gW;rw[if_neg (by omega),if_neg (by omega),if_neg (by omega),if_neg (by omega),if_neg (by omega),if_neg (by omega)]
abbrev Tx(u:Un):V:=.agg [iu u.table,i64 u.least,i64 u.dw,.slice (some 0) 2 (u.fM.map Bd.row),i64 u.up,i64 u.down]
theorem agS{l:List Int}{k:Nat}(hd:ed l k):∃u k',bo F 180 [.bN 0 0] [dk l k]=some (Tx u,[dk l k'])∧ed l k'∧Uw u:=by
 suffices h:iV (bo F) 180 [.bN 0 0] [dk l k] fun v G=>∃u k',v=Tx u∧G=[dk l k']∧ed l k'∧Uw u by
  obtain⟨_,_,h,u,k',rfl,rfl,h1⟩:=h;exact⟨u,k',h,h1⟩
 refine ju rfl rfl ?_;obtain⟨c,k1,n1,ji,Cp,hc⟩:=Mq hd (x:=0) (y:=0) (dx:=10) (dy:=30) false (by omega) (by omega) (by omega) (by omega)
 obtain⟨a1,k2,n2,gz,Mr⟩:=gL ji 8 (by omega)
 obtain⟨a2,k3,n3,mX,Ms⟩:=gL gz 3 (by omega)
 obtain⟨a3,k4,n4,rF,Ty⟩:=gL mX 3 (by omega)
 obtain⟨a4,k5,n5,DZ,Tz⟩:=gL rF 12 (by omega)
 obtain⟨a5,k6,n6,D0,ha5⟩:=gL DZ 3 (by omega)
 simp (disch:=omega) [wrap64,LD,n1,n2,n3,n4,n5,n6];refine go_loop (fun s:List Bd×Int×Nat=>acS (.bN 0 0) s.2.1 [.aK,i64 0,i64 0,.aK,i64 0,i64 0] [iu c,i64 (1+a1),i64 (1+a1+a4),.slice (some 1040) 2 (s.1.map Bd.row),i64 a2,i64 a3] s.1.length [dk l s.2.2])
  (fun s=>(∀i,i<s.1.length→(0≤(nth s.1 i).lo∧(nth s.1 i).hi≤20)∧(nth s.1 i).lo<(nth s.1 i).hi)∧0≤s.2.1∧(s.1.length:Int)+s.2.1≤2∧ed l s.2.2) (fun s=>s.2.1.toNat) ([],a5,k6) rfl (by simp) ⟨fun i h=>by simp at h,by simp;omega,by simp;omega,D0⟩ ?_
 rintro⟨z,m,k⟩ ⟨hz,DY,hm2,hd⟩;simp only at hz DY hm2 hd;obtain⟨b1,k7,n7,hd7,hb1⟩:=gL hd 16 (by omega)
 obtain⟨b2,k8,n8,hd8,C8⟩:=gL hd7 5 (by omega)
 simp (disch:=omega) [wrap64,SL];refine b9 (fun h4=>?_) (fun h4=>?_)
 ·simp (disch:=omega) [wrap64,n7,n8]
  refine cc (z++[⟨b1,b1+1+b2⟩],m-1,k8) (by simp) ⟨fun i hi=>?_,by simp;omega,by simp;omega,hd8⟩ (by simp;omega)
  simp at hi;rw[iW];split
  ·exact hz i (by assumption)
  ·rw[if_pos (by omega)]
   simp only;omega
 ·refine⟨⟨c,1+a1,1+a1+a4,z,a2,a3⟩,⟨rfl,rfl,rfl,rfl,rfl,rfl⟩,k,rfl,hd,?_⟩
  exact⟨hc,Cp,by simp only;omega,by simp only;omega,by simp only;omega,hz,by simp only;omega,by simp only;omega⟩
theorem TA{u:Un}{g:Int}:(fk u g).length≤(u.dw / g).toNat+1:=by
 refine Nat.le_trans (List.length_filter_le _ _) ?_;simp
theorem Uw.gC{u:Un}(h:Uw u){g:Int}(h1:1≤g)(h2:g≤1073741824):gC u g=0:=by
 have a:=TA (u:=u) (g:=g);have b:=h.dw;have c:=h.least;have d:u.dw / g≤u.dw:=Int.ediv_le_self _ (by omega)
 unfold Go.Proofs.YtmpikpodpgnjhaaGreat.gC;rw[if_neg (by simp[h.lr]),if_neg (by omega),if_neg (by omega)]
theorem agV{l:List Int}{k:Nat}(hd:ed l k){u:Un}(hu:Uw u):∃s k',bo F 181 [.bN 0 0,un u] [dk l k]=some (us s,[dk l k'])∧ed l k'∧fg u s:=by
 suffices h:∀Q:V→List aV→Prop,(∀s k',ed l k'→fg u s→Q (us s) [dk l k'])→iV (bo F) 181 [.bN 0 0,un u] [dk l k] Q by
  obtain⟨_,_,h,s,k',rfl,rfl,h1⟩:=h (fun v G=>∃s k',v=us s∧G=[dk l k']∧ed l k'∧fg u s) fun s k' a b=>⟨s,k',rfl,rfl,a,b⟩;exact⟨s,k',h,h1⟩
 intro Q hQ;refine ju rfl rfl ?_;have hc:=hu.lr;have he:=hu.gC (g:=1) (by omega) (by omega)
 have hf:mW u 1=fk u 1:=by simp[mW,he]
 have Bq:=TA (u:=u) (g:=1);have hm:=hu.dw;obtain⟨a1,k1,n1,ji,Mr⟩:=gL hd 5 (by omega)
 obtain⟨a2,k2,n2,gz,Ms⟩:=gL ji 7 (by omega)
 obtain⟨a3,k3,n3,mX,Ty⟩:=gL gz 2 (by omega)
 obtain⟨a4,k4,n4,rF,Tz⟩:=gL mX (fk u 1).length (by omega)
 have off:∀o,fg u ⟨0,a1,o⟩:=fun o=>⟨hc,by simp only;omega,.inl rfl⟩
 by_cases h1:0<(fk u 1).length
 ·by_cases h2:a2=6
  ·simp +contextual (disch:=omega) [-getElem?_pos,wrap64,Bi,n1,n2,Bp,he,hf,h2]
   exact hQ ⟨0,a1,true⟩ k2 gz (off _)
  ·by_cases h3:a3=0
   ·have h4:a4.toNat<(fk u 1).length:=by omega
    simp +contextual (disch:=omega) [-getElem?_pos,wrap64,Bi,n1,n2,n3,n4,Bp,he,hf,h2,h3,h1,eB h4];refine hQ ⟨nth (fk u 1) a4.toNat,a1,false⟩ k4 rF ⟨hc,by simp only;omega,.inr ⟨rfl,?_⟩⟩
    exact((xj (oW hc) (by omega)).1 (List.mem_of_getElem? (eB h4))).1
   ·simp +contextual (disch:=omega) [-getElem?_pos,wrap64,Bi,n1,n2,n3,Bp,he,hf,h2,h3,h1]
    exact hQ ⟨0,a1,false⟩ k3 mX (off _)
 ·simp +contextual (disch:=omega) [-getElem?_pos,wrap64,Bi,n1,n2,Bp,he,hf,h1]
  exact hQ ⟨0,a1,decide (a2=6)⟩ k2 gz (off _)
abbrev jZ(l:List Un):V:=.slice none 6 (l.map Un.row)
abbrev jH(l:List Us):V:=.slice none 3 (l.map Us.row)
abbrev Mt(l:List Un):V:=.slice (some 0) 6 (l.map Un.row)
abbrev D1(l:List Us):V:=.slice (some 0) 3 (l.map Us.row)
structure D2(a:List Un)(b:List Us):Prop where
 len:a.length=b.length
 unit:∀i,i<a.length→Uw (nth a i)
 state:∀i,i<a.length→fg (nth a i) (nth b i)
theorem agW{l:List Int}{k:Nat}(hd:ed l k){m:Nat}(hm:m≤1000):∃a b k',bo F 155 [.bN 0 0,i64 m] [dk l k]=some (.tuple [Mt a,D1 b],[dk l k'])∧ed l k'∧D2 a b∧a.length≤m:=by
 suffices h:∀Q:V→List aV→Prop,(∀a b k',ed l k'→D2 a b→a.length≤m→Q (.tuple [Mt a,D1 b]) [dk l k'])→iV (bo F) 155 [.bN 0 0,i64 m] [dk l k] Q by
  obtain⟨_,_,h,a,b,k',rfl,rfl,h1⟩:=h (fun v G=>∃a b k',v=.tuple [Mt a,D1 b]∧G=[dk l k']∧ed l k'∧D2 a b∧a.length≤m) fun a b k' h1 h2 h3=>⟨a,b,k',rfl,rfl,h1,h2,h3⟩;exact⟨a,b,k',h,h1⟩
 intro Q hQ;refine ju rfl rfl ?_;obtain⟨n,k1,n1,ji,hn⟩:=gL hd (m+1) (by omega)
 simp (disch:=omega) [wrap64,Lo,n1];refine go_loop (fun s:List Un×List Us×Int×Nat=>aco (.bN 0 0) (.slice (some 1023) 6 (s.1.map Un.row)) (.slice (some 1029) 3 (s.2.1.map Us.row)) s.2.2.1 s.1.length s.2.1.length [dk l s.2.2.2])
  (fun s=>D2 s.1 s.2.1∧(s.1.length:Int)+s.2.2.1≤m∧0≤s.2.2.1∧ed l s.2.2.2) (fun s=>s.2.2.1.toNat) ([],[],n,k1) rfl (by simp) ⟨⟨rfl,by simp,by simp⟩,by simp;omega,by simp;omega,ji⟩ ?_
 rintro⟨a,b,n,k⟩ ⟨qa,h1,h2,hd⟩;simp only at qa h1 h2 hd;obtain⟨u,k2,n2,gz,hu⟩:=agS hd;obtain⟨s,k3,n3,mX,hs⟩:=agV gz hu;have hl:=qa.len;simp (disch:=omega) [wrap64,Ss];refine b9 (fun h4=>?_) (fun h4=>?_)
 ·simp (disch:=omega) [wrap64,n2,n3]
  refine cc (a++[u],b++[s],n-1,k3) (by simp) ⟨⟨by simp[hl],fun i hi=>?_,fun i hi=>?_⟩,by simp;omega,by simp;omega,mX⟩ (by simp;omega)
  ·simp at hi
   rw[iW];split
   ·exact qa.unit i (by assumption)
   ·rw[if_pos (by omega)];exact hu
  ·simp at hi
   rw[iW,iW,← hl];split
   ·exact qa.state i (by assumption)
   ·rw[if_pos (by omega),if_pos (by omega)];exact hs
 ·exact hQ a b k hd qa (by omega)
end Go.Proofs.YtmpikpodpgnjhaaGreat
