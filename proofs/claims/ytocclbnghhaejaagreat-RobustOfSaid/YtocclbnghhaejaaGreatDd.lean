/- Parts of the proof, joined: Dam2, Dam3, Dam4, Gat8, Dam5, Dam6, Mk3, Mk4, Dam7, Ref4, Ref5, Dmo1, Dob1. -/
import Derived.Test.YtocclbnghhaejaaGreatDc
namespace Go.Proofs.YtocclbnghhaejaaGreat
set_option linter.all false
open Go.Vm
attribute [local simp] lQ lR kP lP
structure Sv(r:Rs):Prop where
 c:gi r.c=0
 two:2≤r.c.length
 top:(nth r.c (r.c.length-1)).x≤16777216
 up:∀i,1≤i→i<r.c.length→(nth r.c (i-1)).y<(nth r.c i).y
 d:(nth r.c 0).x≤r.d
 l:r.d≤r.l
 f:r.l≤r.f
 s:r.f≤r.s
 t:r.s≤r.t
 last:r.t≤(nth r.c (r.c.length-1)).x
theorem JS{r:Rs}(h:il r=0):Sv r:=by
 have hc:=r7 h;unfold il at h;rw[if_neg (by omega)]at h
 split at h
 ·cases h
 split at h
 ·cases h
 split at h
 ·rename_i h1 h2 h3
  have hp:=s9 hc;have up:∀i,1≤i→i<r.c.length→(nth r.c (i-1)).y<(nth r.c i).y:=fun i a b=>by
   have:=rU h3 i a (by omega)
   unfold rY at this;split at this
   ·cases this
   ·omega
  have lv:∀i,1≤i→i<7→nth (r0 r) (i-1)≤nth (r0 r) i:=fun i a b=>by
   have:=rU h i a (by omega)
   unfold pC at this;split at this
   ·cases this
   ·omega
  have l1:=lv 1 (by omega) (by omega)
  have l2:=lv 2 (by omega) (by omega)
  have l3:=lv 3 (by omega) (by omega)
  have l4:=lv 4 (by omega) (by omega)
  have l5:=lv 5 (by omega) (by omega)
  have l6:=lv 6 (by omega) (by omega)
  exact⟨hc,by omega,by omega,up,l1,l2,l3,l4,l5,l6⟩
 ·cases h
theorem ZV{r:Rs}(h:il r=0){l:Int}(h1:(nth r.c 0).x≤l)(h2:l≤(nth r.c (r.c.length-1)).x):r8 r l=0:=by
 have v:=JS h;have hp:=s9 v.c;have:=(mb v.c).x0 0 hp;have:=v.top;unfold r8;rw[if_neg (by omega),if_pos (by omega)]
def kD(d:Dm):Int:=ik d.r.c d.r.t
def DR(d:Dm):Int:=ik d.r.c d.r.d
theorem Pw{r:Rs}(h:il r=0):r8 r r.t=0:=by
 have v:=JS h;have:=v.d;have:=v.l;have:=v.f;have:=v.s;have:=v.t;exact ZV h (by omega) v.last
theorem amY{r:Rs}(h:il r=0):r8 r r.d=0:=by
 have v:=JS h;have:=v.last;have:=v.l;have:=v.f;have:=v.s;have:=v.t;exact ZV h v.d (by omega)
def iS(d:Dm)(s:Ds):Prop:=(0≤s.v∧s.v≤kD d)∧(0≤s.rel∧s.rel≤1073741824)∧s.u.length=d.u.length∧s.g.length=d.g.length∧BF d.u s.u∧yh d.g s.g
noncomputable instance {d:Dm} {s:Ds}:Decidable (iS d s):=Classical.propDecidable _
noncomputable def dE(d:Dm)(s:Ds):Int:=if fq d≠0 then fq d else if iS d s then 0 else 3
structure Dv(d:Dm):Prop where
 r:il d.r=0
 u:d.u.length≤6
 g:d.g.length≤8
 uv:∀i,i<d.u.length→gT (nth d.u i)=0
 gv:∀i,i<d.g.length→kg (nth d.g i)=0
 gr:1≤d.gr∧d.gr≤1073741824
theorem yn{d:Dm}(h:fq d=0):Dv d:=by
 unfold fq at h;split at h
 ·rename_i h1;exact absurd h h1
 split at h
 ·cases h
 split at h
 ·rename_i h1;exact absurd h h1
 split at h
 ·rename_i h1;exact absurd h h1
 split at h
 ·cases h
 rename_i h1 h2 h3 h4 h5;have h3:uE d.u=0:=Decidable.of_not_not h3;have h4:gE d.g=0:=Decidable.of_not_not h4;exact⟨Decidable.of_not_not h1,by omega,by omega,fun i hi=>rU h3 i (by omega) (by omega),fun i hi=>rU h4 i (by omega) (by omega),by omega⟩
theorem ZW{d:Dm}(h:il d.r=0)(G:List aP):aX F 197 [dm d] G=some (i64 (kD d),G) :=
 bM rfl rfl (by
  simp[wrap64,XP,Jq (mb (r7 h)),kD])
theorem Px{d:Dm}(h:Dv d)(s:Ds)(G:List aP):aX F 166 [dm d,dst s] G=some (.bool (decide (iS d s)),G) :=
 bM rfl rfl (by
  obtain⟨v,rel,su,sg⟩:=s;generalize hW:decide (iS d ⟨v,rel,su,sg⟩)=W;have no:¬ iS d ⟨v,rel,su,sg⟩→W=false:=fun hn=>by rw[←hW];simp[hn]
  unfold iS at no;simp only at no;have Py:=h.u;have hg8:=h.g;have hc:=ZW h.r;by_cases h1:0≤v∧v≤kD d
  ·have a1:(decide (0≤v)&&decide (v≤kD d))=true:=by simp;omega
   have a2:(!decide (0≤v) || !decide (v≤kD d))=false:=by simp;omega
   by_cases h2:0≤rel∧rel≤1073741824
   ·have b1:(decide (0≤rel)&&decide (rel≤1073741824))=true:=by simp;omega
    have b2:(!decide (0≤rel) || !decide (rel≤1073741824))=false:=by simp;omega
    by_cases h3:su.length=d.u.length
    ·have c1:(su.length:Int)=d.u.length:=by omega
     by_cases h4:sg.length=d.g.length
     ·have d1:(sg.length:Int)=d.g.length:=by omega
      simp (disch:=omega) [-getElem?_pos,wrap64,s7,hc,dC,a1,a2,b1,b2,c1,d1];refine go_loop (fun i:Nat=>ajM (ke d.u) d.u.length i d.row [i64 v,i64 rel,jT su,jJ sg] G) (fun i=>i≤d.u.length∧∀j,j<i→eU (nth d.u j) (nth su j)) (fun i=>d.u.length-i) 0 rfl (by simp) ⟨by omega,by omega⟩ ?_
      rintro i ⟨hi,hv⟩;simp (disch:=omega) [-getElem?_pos,wrap64,Xb];refine bE (fun h5=>?_) (fun h5=>?_)
      ·have h5:i<d.u.length:=by omega
       have yo:i<su.length:=by omega
       by_cases h6:eU (nth d.u i) (nth su i)
       ·simp (disch:=omega) [-getElem?_pos,wrap64,aW (l:=d.u),aW (l:=su),zV,wB,h6]
        refine bF (i+1) (by simp) ⟨by omega,fun j hj=>?_⟩ (by omega)
        rcases Nat.lt_or_ge j i with h7|h7
        ·exact hv j h7
        ·rwa [show j=i by omega]
       ·simp (disch:=omega) [-getElem?_pos,wrap64,aW (l:=d.u),aW (l:=su),zV,wB,h6]
        exact no (fun h=>h6 (h.2.2.2.2.1 i h5))
      ·obtain rfl:i=d.u.length:=by omega
       refine go_loop (fun i:Nat=>ajO (jV d.g) d.g.length i [i64 v,i64 rel,jT su,jJ sg] G) (fun i=>i≤d.g.length∧∀j,j<i→mY (nth d.g j) (nth sg j)) (fun i=>d.g.length-i) 0 rfl (by simp) ⟨by omega,by omega⟩ ?_
       rintro i ⟨hi,hg⟩;simp (disch:=omega) [-getElem?_pos,wrap64,Xc];refine bE (fun h5=>?_) (fun h5=>?_)
       ·have h5:i<d.g.length:=by omega
        have yo:i<sg.length:=by omega
        by_cases h6:mY (nth d.g i) (nth sg i)
        ·have gV:(!decide (0≤(nth sg i).o) || !decide ((nth sg i).o≤(nth d.g i).c9))=false:=by simp;exact h6
         simp (disch:=omega) [-getElem?_pos,wrap64,aW (l:=d.g),aW (l:=sg),dC,Ae,h6,gV];refine bF (i+1) (by simp) ⟨by omega,fun j hj=>?_⟩ (by omega)
         rcases Nat.lt_or_ge j i with h7|h7
         ·exact hg j h7
         ·rwa [show j=i by omega]
        ·have gV:(!decide (0≤(nth sg i).o) || !decide ((nth sg i).o≤(nth d.g i).c9))=true:=by
          have:¬ (0≤(nth sg i).o∧(nth sg i).o≤(nth d.g i).c9):=h6;simp;omega
         simp (disch:=omega) [-getElem?_pos,wrap64,aW (l:=d.g),aW (l:=sg),dC,Ae,h6,gV];exact no (fun h=>h6 (h.2.2.2.2.2 i h5))
       ·obtain rfl:i=d.g.length:=by omega
        rw[←hW];have:iS d ⟨v,rel,su,sg⟩:=⟨h1,h2,h3,h4,hv,hg⟩;simp[this]
     ·have d1:¬ (sg.length:Int)=d.g.length:=by omega
      simp (disch:=omega) [-getElem?_pos,wrap64,s7,hc,dC,a1,a2,b1,b2,c1,d1];exact no (fun h=>h4 h.2.2.2.1)
    ·have c1:¬ (su.length:Int)=d.u.length:=by omega
     simp (disch:=omega) [-getElem?_pos,wrap64,s7,hc,dC,a1,a2,b1,b2,c1];exact no (fun h=>h3 h.2.2.1)
   ·have b1:(decide (0≤rel)&&decide (rel≤1073741824))=false:=by simp;omega
    have b2:(!decide (0≤rel) || !decide (rel≤1073741824))=true:=by simp;omega
    by_cases c1:(su.length:Int)=d.u.length
    ·by_cases d1:(sg.length:Int)=d.g.length
     ·simp (disch:=omega) [-getElem?_pos,wrap64,s7,hc,dC,a1,a2,b1,b2,c1,d1]
      exact no (fun h=>h2 h.2.1)
     ·simp (disch:=omega) [-getElem?_pos,wrap64,s7,hc,dC,a1,a2,b1,b2,c1,d1]
      exact no (fun h=>h2 h.2.1)
    ·simp (disch:=omega) [-getElem?_pos,wrap64,s7,hc,dC,a1,a2,b1,b2,c1]
     exact no (fun h=>h2 h.2.1)
  ·have a1:(decide (0≤v)&&decide (v≤kD d))=false:=by simp;omega
   have a2:(!decide (0≤v) || !decide (v≤kD d))=true:=by simp;omega
   by_cases h2:0≤rel∧rel≤1073741824
   ·have b1:(decide (0≤rel)&&decide (rel≤1073741824))=true:=by simp;omega
    have b2:(!decide (0≤rel) || !decide (rel≤1073741824))=false:=by simp;omega
    by_cases c1:(su.length:Int)=d.u.length
    ·by_cases d1:(sg.length:Int)=d.g.length
     ·simp (disch:=omega) [-getElem?_pos,wrap64,s7,hc,dC,a1,a2,b1,b2,c1,d1]
      exact no (fun h=>h1 h.1)
     ·simp (disch:=omega) [-getElem?_pos,wrap64,s7,hc,dC,a1,a2,b1,b2,c1,d1]
      exact no (fun h=>h1 h.1)
    ·simp (disch:=omega) [-getElem?_pos,wrap64,s7,hc,dC,a1,a2,b1,b2,c1]
     exact no (fun h=>h1 h.1)
   ·have b1:(decide (0≤rel)&&decide (rel≤1073741824))=false:=by simp;omega
    have b2:(!decide (0≤rel) || !decide (rel≤1073741824))=true:=by simp;omega
    by_cases c1:(su.length:Int)=d.u.length
    ·by_cases d1:(sg.length:Int)=d.g.length
     ·simp (disch:=omega) [-getElem?_pos,wrap64,s7,hc,dC,a1,a2,b1,b2,c1,d1]
      exact no (fun h=>h1 h.1)
     ·simp (disch:=omega) [-getElem?_pos,wrap64,s7,hc,dC,a1,a2,b1,b2,c1,d1]
      exact no (fun h=>h1 h.1)
    ·simp (disch:=omega) [-getElem?_pos,wrap64,s7,hc,dC,a1,a2,b1,b2,c1]
     exact no (fun h=>h1 h.1))
theorem am1{d:Dm}(hd:fq d=0)(s:Ds)(G:List aP):aX F 66 [dm d,dst s] G=some (.bool (decide (iS d s)),G):=by
  have h:=yn hd;exact bM rfl rfl (by
   obtain⟨v,rel,su,sg⟩:=s;generalize hW:decide (iS d ⟨v,rel,su,sg⟩)=W;have no:¬ iS d ⟨v,rel,su,sg⟩→W=false:=fun hn=>by rw[←hW];simp[hn]
   unfold iS at no;simp only at no;have Py:=h.u;have hg8:=h.g;have hc:=fun G=>BQ d G;have hV:=fun G=>Jr d.r d.r.t G;have sk:=Pw h.r;have uq:ik d.r.c d.r.t=kD d:=rfl;by_cases h1:0≤v∧v≤kD d
   ·have a1:(decide (0≤v)&&decide (v≤kD d))=true:=by simp;omega
    have a2:(!decide (0≤v) || !decide (v≤kD d))=false:=by simp;omega
    by_cases h2:0≤rel∧rel≤1073741824
    ·have b1:(decide (0≤rel)&&decide (rel≤1073741824))=true:=by simp;omega
     have b2:(!decide (0≤rel) || !decide (rel≤1073741824))=false:=by simp;omega
     by_cases h3:su.length=d.u.length
     ·have c1:(su.length:Int)=d.u.length:=by omega
      by_cases h4:sg.length=d.g.length
      ·have d1:(sg.length:Int)=d.g.length:=by omega
       simp (disch:=omega) [-getElem?_pos,wrap64,rT,hc,hd,hV,sk,uq,cT,a1,a2,b1,b2,c1,d1];refine go_loop (fun i:Nat=>ahE (ke d.u) d.u.length i d.row [i64 v,i64 rel,jT su,jJ sg] G) (fun i=>i≤d.u.length∧∀j,j<i→eU (nth d.u j) (nth su j)) (fun i=>d.u.length-i) 0 rfl (by simp) ⟨by omega,by omega⟩ ?_
       rintro i ⟨hi,hv⟩;simp (disch:=omega) [-getElem?_pos,wrap64,Vz];refine bE (fun h5=>?_) (fun h5=>?_)
       ·have h5:i<d.u.length:=by omega
        have yo:i<su.length:=by omega
        by_cases h6:eU (nth d.u i) (nth su i)
        ·simp (disch:=omega) [-getElem?_pos,wrap64,aW (l:=d.u),aW (l:=su),zV,wB,h6]
         refine bF (i+1) (by simp) ⟨by omega,fun j hj=>?_⟩ (by omega)
         rcases Nat.lt_or_ge j i with h7|h7
         ·exact hv j h7
         ·rwa [show j=i by omega]
        ·simp (disch:=omega) [-getElem?_pos,wrap64,aW (l:=d.u),aW (l:=su),zV,wB,h6]
         exact no (fun h=>h6 (h.2.2.2.2.1 i h5))
       ·obtain rfl:i=d.u.length:=by omega
        refine go_loop (fun i:Nat=>ahG (jV d.g) d.g.length i [i64 v,i64 rel,jT su,jJ sg] G) (fun i=>i≤d.g.length∧∀j,j<i→mY (nth d.g j) (nth sg j)) (fun i=>d.g.length-i) 0 rfl (by simp) ⟨by omega,by omega⟩ ?_
        rintro i ⟨hi,hg⟩;simp (disch:=omega) [-getElem?_pos,wrap64,VA];refine bE (fun h5=>?_) (fun h5=>?_)
        ·have h5:i<d.g.length:=by omega
         have yo:i<sg.length:=by omega
         by_cases h6:mY (nth d.g i) (nth sg i)
         ·have gV:(!decide (0≤(nth sg i).o) || !decide ((nth sg i).o≤(nth d.g i).c9))=false:=by simp;exact h6
          simp (disch:=omega) [-getElem?_pos,wrap64,aW (l:=d.g),aW (l:=sg),dC,Ae,h6,gV];refine bF (i+1) (by simp) ⟨by omega,fun j hj=>?_⟩ (by omega)
          rcases Nat.lt_or_ge j i with h7|h7
          ·exact hg j h7
          ·rwa [show j=i by omega]
         ·have gV:(!decide (0≤(nth sg i).o) || !decide ((nth sg i).o≤(nth d.g i).c9))=true:=by
           have:¬ (0≤(nth sg i).o∧(nth sg i).o≤(nth d.g i).c9):=h6;simp;omega
          simp (disch:=omega) [-getElem?_pos,wrap64,aW (l:=d.g),aW (l:=sg),dC,Ae,h6,gV];exact no (fun h=>h6 (h.2.2.2.2.2 i h5))
        ·obtain rfl:i=d.g.length:=by omega
         rw[←hW];have:iS d ⟨v,rel,su,sg⟩:=⟨h1,h2,h3,h4,hv,hg⟩;simp[this]
      ·have d1:¬ (sg.length:Int)=d.g.length:=by omega
       simp (disch:=omega) [-getElem?_pos,wrap64,rT,hc,hd,hV,sk,uq,cT,a1,a2,b1,b2,c1,d1];exact no (fun h=>h4 h.2.2.2.1)
     ·have c1:¬ (su.length:Int)=d.u.length:=by omega
      simp (disch:=omega) [-getElem?_pos,wrap64,rT,hc,hd,hV,sk,uq,cT,a1,a2,b1,b2,c1];exact no (fun h=>h3 h.2.2.1)
    ·have b1:(decide (0≤rel)&&decide (rel≤1073741824))=false:=by simp;omega
     have b2:(!decide (0≤rel) || !decide (rel≤1073741824))=true:=by simp;omega
     by_cases c1:(su.length:Int)=d.u.length
     ·by_cases d1:(sg.length:Int)=d.g.length
      ·simp (disch:=omega) [-getElem?_pos,wrap64,rT,hc,hd,hV,sk,uq,cT,a1,a2,b1,b2,c1,d1]
       exact no (fun h=>h2 h.2.1)
      ·simp (disch:=omega) [-getElem?_pos,wrap64,rT,hc,hd,hV,sk,uq,cT,a1,a2,b1,b2,c1,d1]
       exact no (fun h=>h2 h.2.1)
     ·simp (disch:=omega) [-getElem?_pos,wrap64,rT,hc,hd,hV,sk,uq,cT,a1,a2,b1,b2,c1]
      exact no (fun h=>h2 h.2.1)
   ·have a1:(decide (0≤v)&&decide (v≤kD d))=false:=by simp;omega
    have a2:(!decide (0≤v) || !decide (v≤kD d))=true:=by simp;omega
    by_cases h2:0≤rel∧rel≤1073741824
    ·have b1:(decide (0≤rel)&&decide (rel≤1073741824))=true:=by simp;omega
     have b2:(!decide (0≤rel) || !decide (rel≤1073741824))=false:=by simp;omega
     by_cases c1:(su.length:Int)=d.u.length
     ·by_cases d1:(sg.length:Int)=d.g.length
      ·simp (disch:=omega) [-getElem?_pos,wrap64,rT,hc,hd,hV,sk,uq,cT,a1,a2,b1,b2,c1,d1]
       exact no (fun h=>h1 h.1)
      ·simp (disch:=omega) [-getElem?_pos,wrap64,rT,hc,hd,hV,sk,uq,cT,a1,a2,b1,b2,c1,d1]
       exact no (fun h=>h1 h.1)
     ·simp (disch:=omega) [-getElem?_pos,wrap64,rT,hc,hd,hV,sk,uq,cT,a1,a2,b1,b2,c1]
      exact no (fun h=>h1 h.1)
    ·have b1:(decide (0≤rel)&&decide (rel≤1073741824))=false:=by simp;omega
     have b2:(!decide (0≤rel) || !decide (rel≤1073741824))=true:=by simp;omega
     by_cases c1:(su.length:Int)=d.u.length
     ·by_cases d1:(sg.length:Int)=d.g.length
      ·simp (disch:=omega) [-getElem?_pos,wrap64,rT,hc,hd,hV,sk,uq,cT,a1,a2,b1,b2,c1,d1]
       exact no (fun h=>h1 h.1)
      ·simp (disch:=omega) [-getElem?_pos,wrap64,rT,hc,hd,hV,sk,uq,cT,a1,a2,b1,b2,c1,d1]
       exact no (fun h=>h1 h.1)
     ·simp (disch:=omega) [-getElem?_pos,wrap64,rT,hc,hd,hV,sk,uq,cT,a1,a2,b1,b2,c1]
      exact no (fun h=>h1 h.1))
theorem anD(d:Dm)(s:Ds)(G:List aP):aX F 66 [dm d,dst s] G=some (.bool (decide (fq d=0∧iS d s)),G):=by
 by_cases hd:fq d=0
 ·rw[show decide (fq d=0∧iS d s)=decide (iS d s) by simp[hd]]
  exact am1 hd s G
 ·rw[show decide (fq d=0∧iS d s)=false by simp[hd]]
  have hC:=fun G=>BQ d G;generalize fq d=x at hd hC;obtain⟨v,rel,su,sg⟩:=s;exact bM rfl rfl (by
   simp[wrap64,rT,hC,hd])
theorem ZX(d:Dm)(s:Ds)(G:List aP):aX F 123 [dm d,dst s] G=some (.bool (decide (fq d=0∧iS d s)),G) :=
 bM rfl rfl (by
  by_cases hd:fq d=0
  ·simp[wrap64,NU,BP,hd,Px (yn hd)]
  ·simp[wrap64,NU,BP,hd])
theorem ZY(d:Dm)(s:Ds)(G:List aP):aX F 215 [dm d,dst s] G=some (i64 (dE d s),G) :=
 bM rfl rfl (by
  by_cases hd:fq d=0
  ·by_cases hf:iS d s
   ·simp[wrap64,Jg,BP,hd,Px (yn hd),hf,dE]
   ·simp[wrap64,Jg,BP,hd,Px (yn hd),hf,dE]
  ·simp[wrap64,Jg,BP,hd,dE])
theorem ZZ(d:Dm)(s:Ds)(G:List aP):aX F 168 [dm d,dst s] G=some (i64 (dE d s),G) :=
 bM rfl rfl (by
  by_cases hd:fq d=0
  ·by_cases hf:iS d s
   ·simp[wrap64,Ja,BQ,hd,anD,hf,dE]
   ·simp[wrap64,Ja,BQ,hd,anD,hf,dE]
  ·simp[wrap64,Ja,BQ,hd,dE])
theorem GI{d:Dm}{s:Ds}(h:dE d s=0):Dv d∧iS d s:=by
 unfold dE at h;split at h
 ·rename_i h1;exact absurd h h1
 split at h
 ·rename_i h1 h2;exact⟨yn (Decidable.of_not_not h1),h2⟩
 ·cases h
noncomputable def lvl(d:Dm)(s:Ds):Int:=if dE d s=0 then jG d.r s.v else 0
theorem PA(d:Dm)(s:Ds)(G:List aP):aX F 207 [dm d,dst s] G=some (.tuple [i64 (lvl d s),i64 (dE d s)],G) :=
 bM rfl rfl (by
  by_cases hd:dE d s=0
  ·simp[wrap64,Oi,ZY,hd,alC (GI hd).1.r,lvl]
  ·simp[wrap64,Oi,ZY,hd,lvl])
theorem am2{u:Un}{s:Us}(hv:eU u s)(q:Int):sa u s q=if jS u s q then 0 else 15:=by
 unfold sa;rw[if_neg (fun h=>h hv.1),if_neg (fun h=>h hv)];by_cases h:jS u s q
 ·rw[if_pos h,if_neg (fun g=>g h)]
 ·rw[if_neg h,if_pos h]
theorem Z0{u:Un}{s:Us}(hv:eU u s)(q:Int)(G:List aP):aX F 226 [un u,us s,i64 q] G =
  some (.tuple (if jS u s q then [us (sb s q),.bool (decide (s.cd=0)&&decide (0<q)),i64 0] else [us ⟨0,0,false⟩,.bool false,i64 15]),G) :=
 bM rfl rfl (by
  have hc:=hv.1;have h1:=hv.2.1;have hf:0≤s.cd:=by
   rcases hv.2.2 with h | ⟨_,h⟩
   ·omega
   ·have:=Jt hc h;omega
  have Gd:min (s.since+1) 1000=min 1000 (s.since+1):=by omega
  by_cases hm:jS u s q
  ·simp +contextual (disch:=omega) [wrap64,Oo,r9,OK hc,OL hv,hc,hv,hm]
   refine fe (fun h=>?_) (fun h=>?_)
   ·have h':¬ (decide (0<s.cd)=decide (0<q)):=fun e=>by rw[e]at h;simp at h
    unfold sb;rw[if_neg h'];exact⟨⟨rfl,rfl,rfl⟩,Bool.and_comm _ _⟩
   ·have h':decide (0<s.cd)=decide (0<q):=by
     cases h1:decide (0<s.cd)<;>cases h2:decide (0<q)<;>rw[h1,h2]at h<;>first|rfl|cases h
    unfold sb;rw[if_pos h'];exact⟨⟨rfl,Gd,rfl⟩,Bool.and_comm _ _⟩
  ·simp +contextual (disch:=omega) [wrap64,Oo,r9,OK hc,OL hv,hc,hv,hm])
structure Dr where
 inf:Int
 los:Int
 tur:Int
 spi:Int
 ovr:Int
 pow:Int
 jW:Int
 deriving Inhabited
abbrev Dr.row(r:Dr):List V:=[i64 r.inf,i64 r.los,i64 r.tur,i64 r.spi,i64 r.ovr,i64 r.pow,i64 r.jW]
abbrev dr(r:Dr):V:=.agg r.row
abbrev wk(d:Dm)(s:Ds)(nv nr:Int)(nu:List Us)(ng:V)(r:Dr)(rel left lv:Int):aP:=.cells
 [iv d.r.c,i64 d.r.d,i64 d.r.l,i64 d.r.f,i64 d.r.s,i64 d.r.t,ke d.u,jV d.g,i64 d.gr,i64 s.v,i64 s.rel,jT s.u,jJ s.g,
  i64 nv,i64 nr,.fm 3 (nu.map Us.row),ng,i64 r.inf,i64 r.los,i64 r.tur,i64 r.spi,i64 r.ovr,i64 r.pow,i64 r.jW,i64 rel,i64 left,i64 lv]
def jX(d:Dm)(left:Int):Int:=max (left-DR d) 0
theorem PB{r:Rs}(h:il r=0)(l:Int):0≤ik r.c l∧ik r.c l≤1099511627776:=by
 have hc:=mb (r7 h);have h1:=DA hc l;have hp:=s9 (r7 h);have h2:=hc.y0 0 hp;have h3:=hc.y0 (r.c.length-1) (by omega)
 omega
theorem JT{d:Dm}(h:il d.r=0):0≤DR d∧DR d≤1099511627776:=PB h _
theorem JU{d:Dm}(h:il d.r=0):0≤kD d∧kD d≤1099511627776:=PB h _
theorem PC{d:Dm}(h:il d.r=0){s:Ds}{nv nr:Int}{nu:List Us}{ng:V}{r:Dr}{rel left lv:Int}(hl:0≤left∧left≤4611686018427387904) :
  aX F 224 [.bG 0 0] [wk d s nv nr nu ng r rel left lv]=some (i64 (jX d left),[wk d s nv nr nu ng r rel left lv]) :=
 bM rfl rfl (by
  generalize hW:jX d left=W;have hD:ik d.r.c d.r.d=DR d:=rfl;have h0:=JT h;simp (disch:=omega) [wrap64,Yd,Jq (mb (r7 h)),hD];exact hW)
theorem JV{g:Int}:∀{us:List Un} {ss:List Us} {F:List Int},mf g us ss F→∀i,i<us.length→nth F i∈p7 (nth us i) (nth ss i) g
 |[],[],[],_=>fun i hi=>by simp at hi
 |u::us,s::ss,q::F,h=>fun i hi=>by
  cases i with
  |zero=>exact h.1
  |succ i=>exact JV h.2 i (by simpa using hi)
 |[],_::_,_,h=>h.elim
 |[],[],_::_,h=>h.elim
 |_::_,[],_,h=>h.elim
 |_::_,_::_,[],h=>h.elim
theorem GK{us:List Un}{ss:List Us}{g release:Int}(h:kh us ss g release=0):mf g us ss (hH us ss g release)∧(hH us ss g release).sum≤release:=by
 unfold kh at h;split at h
 ·rename_i h1;exact absurd h h1
 split at h
 ·cases h
 rename_i h1 h2;have h1:=Decidable.of_not_not h1;obtain⟨h3,h4,_⟩:=O5 h1;have hb:=Zk h3 h4.1;unfold hH;rw[if_neg (fun g=>g h1)];cases hr:mF (jb us ss g) release with
 |none=>exact absurd hr h2
 |some E =>
  rw[hr]at hb;exact⟨hb.mf,hb.sum⟩
noncomputable def gK(d:Dm)(s:Ds)(m:Int)(i:Nat):Int:=if kh d.u s.u d.gr m=0 then nth (hH d.u s.u d.gr m) i else 0
theorem am3{d:Dm}{s:Ds}{m:Int}{i:Nat}(hi:i<d.u.length):gK d s m i=0∨jH (nth d.u i) (nth s.u i) (gK d s m i):=by
 unfold gK;split
 ·rename_i h
  exact .inr (DH.1 (JV (GK h).1 i hi)).2
 ·exact .inl rfl
theorem PD{d:Dm}{s:Ds}{m:Int}{i:Nat}(hi:i<d.u.length):0≤gK d s m i∧gK d s m i≤1073741824:=by
 rcases am3 (s:=s) (m:=m) hi with h|h
 ·omega
 ·exact Jz h
noncomputable def qS(u:Un)(s:Us)(q:Int):Us:=if jS u s q then sb s q else ⟨0,1,s.out⟩
def dN(f:Nat→Int):Nat→Int
 |0=>0
 |i+1=>dN f i+f i
theorem JW{f:Nat→Int}{n:Nat}(h:∀i,i<n→0≤f i∧f i≤1073741824):∀i,i≤n→0≤dN f i∧dN f i≤1073741824*i:=by
 intro i;induction i with
 |zero=>intro _;simp[dN]
 |succ i ih=>intro hi;have:=ih (by omega);have:=h i (by omega);simp only[dN];omega
noncomputable def qb(d:Dm)(s:Ds)(m:Int)(i:Nat):Int:=pow (nth d.u i) (gK d s m i)
noncomputable def jW(d:Dm)(s:Ds)(m:Int)(i:Nat):Int:=iw (nth s.u i) (gK d s m i)
noncomputable def oo(d:Dm)(s:Ds)(m:Int)(n:Nat):List Us:=(List.range n).map fun i=>qS (nth d.u i) (nth s.u i) (gK d s m i)
theorem JX{d:Dm}{s:Ds}{m:Int}{n:Nat}:(oo d s m n).length=n:=by simp[oo]
theorem BR{d:Dm}{s:Ds}{m:Int}{n:Nat}:oo d s m (n+1)=oo d s m n++[qS (nth d.u n) (nth s.u n) (gK d s m n)]:=by simp[oo,List.range_succ]
def kT(d:Dm)(rel left:Int):Int:=min (min rel (jX d left)) (200*d.gr)
set_option maxHeartbeats 1000000 in
theorem am4{d:Dm}(h:Dv d){s:Ds}(hs:iS d s){nv nr inf los spi ovr rel left lv:Int}{ng:V}(hl:0≤left∧left≤4611686018427387904)(hr:0≤rel∧rel≤1073741824) :
  aX F 219 [.bG 0 0] [wk d s nv nr [] ng ⟨inf,los,0,spi,ovr,0,0⟩ rel left lv] =
   some (.tuple [],[wk d s nv nr (oo d s (kT d rel left) d.u.length) ng ⟨inf,los,dN (gK d s (kT d rel left)) d.u.length,spi,ovr,dN (qb d s (kT d rel left)) d.u.length,dN (jW d s (kT d rel left)) d.u.length⟩ rel left lv]) :=
 bM rfl rfl (by
  obtain⟨G',hb⟩:=alW d.u s.u d.gr (kT d rel left);have hgr:=h.gr;have Jv:min (min rel (jX d left)) (200*d.gr)=kT d rel left:=rfl;have Py:=h.u;have xi:=hs.2.2.1;have DS:kh d.u s.u d.gr (kT d rel left)=0→(hH d.u s.u d.gr (kT d rel left)).length=d.u.length:=fun he=>(BI (GK he).1).1;generalize hM:kT d rel left=M at hb Jv DS;simp (disch:=omega) [wrap64,X6,PC h.r,Jv,hb];refine go_loop (fun i:Nat=>akI (.bG 0 0) (.slice none 1 ((hH d.u s.u d.gr M).map fun n=>[i64 n])) (kh d.u s.u d.gr M) (ke d.u) d.u.length i
   [wk d s nv nr (oo d s M i) ng ⟨inf,los,dN (gK d s M) i,spi,ovr,dN (qb d s M) i,dN (jW d s M) i⟩ rel left lv])
   (fun i=>i≤d.u.length) (fun i=>d.u.length-i) 0 rfl (by simp[oo,dN]) (by omega) ?_
  intro i hi;have rQ:=JX (d:=d) (s:=s) (m:=M) (n:=i);have s1:=JW (f:=gK d s M) (n:=d.u.length) (fun i hi=>PD hi) i hi;have s2:=JW (f:=qb d s M) (n:=d.u.length) (fun i hi=>JA) i hi;have s3:=JW (f:=jW d s M) (n:=d.u.length) (fun i hi=>by have:=OZ (s:=nth s.u i) (q:=gK d s M i);unfold jW;omega) i hi
  simp (disch:=omega) [wrap64,X5];refine bE (fun h5=>?_) (fun h5=>?_)
  ·have h5:i<d.u.length:=by omega
   have yo:i<s.u.length:=by omega
   have hv:eU (nth d.u i) (nth s.u i):=hs.2.2.2.2.1 i h5;have uW:=JA (u:=nth d.u i) (q:=gK d s M i);have rC:=PD (s:=s) (m:=M) h5;by_cases he:kh d.u s.u d.gr M=0
   ·have DS:=DS he
    have iP:nth (hH d.u s.u d.gr M) i=gK d s M i:=by simp[gK,he]
    have hm:jS (nth d.u i) (nth s.u i) (gK d s M i):=by
     have:=DH.1 (JV (GK he).1 i h5);rw[iP]at this;exact this.2.2
    have hN:=Z0 hv (gK d s M i) [];rw[if_pos hm]at hN;have hP:=Gb (nth d.u i) (gK d s M i) [];generalize hq:gK d s M i=q at *;generalize hp:pow (nth d.u i) q=p at *;simp (config:={ maxSteps:=2000000 }) +contextual (disch:=omega) [-getElem?_pos,-List.length_eq_zero_iff,-Int.natCast_eq_zero,wrap64,aW (l:=d.u),aW (l:=s.u),dj (l:=hH d.u s.u d.gr M),he,iP,hN,hP,rQ];have hx:qS (nth d.u i) (nth s.u i) q=sb (nth s.u i) q:=by simp[qS,hm]
    refine fe (fun h6=>?_) (fun h6=>?_)
    ·have gV:jW d s M i=1:=by
      simp at h6;simp[jW,iw,hq,h6]
     refine bF (i+1) (by simp[BR,dN,qb,hq,hp,gV,hx]) (by omega) (by omega)
    ·have gV:jW d s M i=0:=by
      have h7:¬ (0<q∧(nth s.u i).cd=0):=fun h=>by rw[decide_eq_true h.1,decide_eq_true h.2]at h6;cases h6
      simp only[jW,iw,hq,if_neg h7]
     refine bF (i+1) (by simp[BR,dN,qb,hq,hp,gV,hx]) (by omega) (by omega)
   ·have hq:gK d s M i=0:=by simp[gK,he]
    have hp:pow (nth d.u i) 0=0:=by simp[pow]
    have gV:jW d s M i=0:=by simp[jW,iw,hq]
    have hN:=Z0 hv 0 [];have hP:=Gb (nth d.u i) 0 [];rw[hp]at hP;by_cases hm:jS (nth d.u i) (nth s.u i) 0
    ·rw[if_pos hm]at hN
     have hx:qS (nth d.u i) (nth s.u i) 0=sb (nth s.u i) 0:=by simp[qS,hm]
     simp only[Int.lt_irrefl,decide_false,Bool.and_false]at hN;simp (config:={ maxSteps:=2000000 }) +contextual (disch:=omega) [-getElem?_pos,-List.length_eq_zero_iff,-Int.natCast_eq_zero,wrap64,aW (l:=d.u),aW (l:=s.u),he,hN,hP,rQ];refine bF (i+1) (by simp[BR,dN,qb,hq,hp,gV,hx]) (by omega) (by omega)
    ·rw[if_neg hm]at hN
     have hx:qS (nth d.u i) (nth s.u i) 0=⟨0,1,(nth s.u i).out⟩:=by simp[qS,hm]
     simp (config:={ maxSteps:=2000000 }) +contextual (disch:=omega) [-getElem?_pos,-List.length_eq_zero_iff,-Int.natCast_eq_zero,wrap64,aW (l:=d.u),aW (l:=s.u),he,hN,hP,rQ];refine bF (i+1) (by simp[BR,dN,qb,hq,hp,gV,hx]) (by omega) (by omega)
  ·obtain rfl:i=d.u.length:=by omega
   simp)
theorem JY(g:List Gt)(s:List Gs)(lv w:Int):0≤nA g s lv w∧nA g s lv w≤17179869184:=by
 unfold nA;split
 ·rename_i h
  unfold kS at h;split at h
  ·rename_i h1;exact absurd h h1
  ·rename_i h1
   obtain⟨h1,h2,h3,h4,h5⟩:=Gu (Decidable.of_not_not h1);have:=ZJ (lv:=lv) (w:=w) h2 h1 h3 h4 (i:=g.length) (Nat.le_refl _);omega
 ·omega
def mZ(d:Dm)(rel left t:Int):Int:=min rel (jX d left)-t
noncomputable def GL(d:Dm)(s:Ds)(rel left lv t:Int):Int:=min (nA d.g s.g lv (mZ d rel left t)) (jX d left-t)
theorem am6{d:Dm}(h:Dv d){s:Ds}{nv nr inf los tur spi ovr pw st rel left lv:Int}{nu:List Us}{ng:V}(hl:0≤left∧left≤4611686018427387904)(hr:0≤rel∧rel≤1073741824)(ht:0≤tur∧tur≤1099511627776) :
  aX F 218 [.bG 0 0] [wk d s nv nr nu ng ⟨inf,los,tur,spi,ovr,pw,st⟩ rel left lv] =
   some (.tuple [],[wk d s nv nr nu (.slice none 2 ((oi d.g s.g lv (mZ d rel left tur)).map Gs.row)) ⟨inf,los,tur,GL d s rel left lv tur,ovr,pw,st⟩ rel left lv]) :=
 bM rfl rfl (by
  obtain⟨G',hb⟩:=amN d.g s.g lv (mZ d rel left tur);have hF:=JY d.g s.g lv (mZ d rel left tur);have hf:0≤jX d left∧jX d left≤4611686018427387904:=by
   have:=JT h.r;unfold jX;omega
  have hW:min rel (jX d left)-tur=mZ d rel left tur:=rfl;have hS:min (nA d.g s.g lv (mZ d rel left tur)) (jX d left-tur)=GL d s rel left lv tur:=rfl;have vg:=PC h.r (s:=s) (nv:=nv) (nr:=nr) (nu:=nu) (ng:=.slice none 2 ((oi d.g s.g lv (mZ d rel left tur)).map Gs.row)) (r:=⟨inf,los,tur,spi,ovr,pw,st⟩) (rel:=rel) (left:=left) (lv:=lv) hl;generalize GL d s rel left lv tur=S at hS;generalize mZ d rel left tur=W at hS hF hb hW vg;simp (disch:=omega) [wrap64,X4,PC h.r,hW,hb,hS,vg])
theorem am7{d:Dm}(h:Dv d){s:Ds}{nv nr inf los tur spi ovr pw st rel left lv:Int}{nu:List Us}{ng:V}(hl:0≤left∧left≤4611686018427387904)(ht:0≤tur∧tur≤1099511627776)(iO:-1099511627776≤spi∧spi≤1099511627776) :
  aX F 217 [.bG 0 0] [wk d s nv nr nu ng ⟨inf,los,tur,spi,ovr,pw,st⟩ rel left lv] =
   some (.tuple [],[wk d s (left-(tur+spi)-max (left-(tur+spi)-kD d) 0) (min (tur+spi) 1073741824) nu ng ⟨inf,los,tur,spi,max (left-(tur+spi)-kD d) 0,pw,st⟩ rel (left-(tur+spi)) lv]) :=
 bM rfl rfl (by
  have hC:=JU h.r;simp (disch:=omega) [wrap64,X3,ZW h.r])
noncomputable def eh(s:Ds)(inf los:Int):Int:=s.v+inf-min los (s.v+inf)
noncomputable def fW(d:Dm)(s:Ds)(inf los rel:Int):Int:=dN (gK d s (kT d rel (eh s inf los))) d.u.length
noncomputable def lC(d:Dm)(s:Ds)(inf los rel:Int):Int:=GL d s rel (eh s inf los) (jG d.r s.v) (fW d s inf los rel)
noncomputable def sn(d:Dm)(s:Ds)(inf los rel:Int):Int:=max (eh s inf los-(fW d s inf los rel+lC d s inf los rel)-kD d) 0
noncomputable def lD(d:Dm)(s:Ds)(inf los rel:Int):Dr:=⟨inf,min los (s.v+inf),fW d s inf los rel,lC d s inf los rel,sn d s inf los rel,dN (qb d s (kT d rel (eh s inf los))) d.u.length,dN (jW d s (kT d rel (eh s inf los))) d.u.length⟩
noncomputable def lU(d:Dm)(s:Ds)(inf los rel:Int):Ds:=⟨eh s inf los-(fW d s inf los rel+lC d s inf los rel)-sn d s inf los rel,min (fW d s inf los rel+lC d s inf los rel) 1073741824,
 oo d s (kT d rel (eh s inf los)) d.u.length,oi d.g s.g (jG d.r s.v) (mZ d rel (eh s inf los) (fW d s inf los rel))⟩
theorem Z1{d:Dm}(h:Dv d){s:Ds}{inf los rel:Int}:0≤fW d s inf los rel∧fW d s inf los rel≤6442450944:=by
 have h1:=JW (f:=gK d s (kT d rel (eh s inf los))) (n:=d.u.length) (fun i hi=>PD hi) d.u.length (Nat.le_refl _);have h2:=h.u;unfold fW;omega
theorem PE{C:bw}{args:List V}{f:FuncId}{fs:List FuncId}{G G':List aP}{r:V}{o:Option (List aP)}(h1:C f args G=some (r,G'))(h2:oU C args fs G'=o):oU C args (f::fs) G=o:=by
 simp only[oU,h1,h2]
abbrev Z2(d:Dm)(s:Ds)(inf los rel lv:Int):aP:=.cells
 [iv d.r.c,i64 d.r.d,i64 d.r.l,i64 d.r.f,i64 d.r.s,i64 d.r.t,ke d.u,jV d.g,i64 d.gr,i64 s.v,i64 s.rel,jT s.u,jJ s.g,
  i64 0,i64 0,.fm 3 [],.fm 2 [],i64 inf,i64 los,i64 0,i64 0,i64 0,i64 0,i64 0,i64 rel,i64 0,i64 lv]
theorem am8{d:Dm}(h:Dv d){s:Ds}(hs:iS d s){inf los rel:Int}(hi:0≤inf∧inf≤1073741824)(hl:0≤los∧los≤1073741824)(hr:0≤rel∧rel≤1073741824) :
  ∃lf,aX F 209 [.bG 0 0] [Z2 d s inf los rel (jG d.r s.v)] =
   some (.tuple [],[wk d s (lU d s inf los rel).v (lU d s inf los rel).rel (lU d s inf los rel).u (.slice none 2 ((lU d s inf los rel).g.map Gs.row)) (lD d s inf los rel) rel lf (jG d.r s.v)]):=by
 suffices hh:∀Q:V→List aP→Prop,(∀lf,Q (.tuple []) [wk d s (lU d s inf los rel).v (lU d s inf los rel).rel (lU d s inf los rel).u (.slice none 2 ((lU d s inf los rel).g.map Gs.row)) (lD d s inf los rel) rel lf (jG d.r s.v)])→gy (aX F) 209 [.bG 0 0] [Z2 d s inf los rel (jG d.r s.v)] Q by
  obtain⟨_,G',h,lf,rfl,rfl⟩:=hh (fun v G'=>∃lf,v=.tuple []∧G'=[wk d s (lU d s inf los rel).v (lU d s inf los rel).rel (lU d s inf los rel).u (.slice none 2 ((lU d s inf los rel).g.map Gs.row)) (lD d s inf los rel) rel lf (jG d.r s.v)]) fun lf=>⟨lf,rfl,rfl⟩;exact⟨lf,h⟩
 intro Q hQ;refine ae0 rfl rfl ?_;have hv:=hs.1;have hC:=JU h.r;simp (disch:=omega) [wrap64,XY];have hL:0≤eh s inf los∧eh s inf los≤4611686018427387904:=by unfold eh;omega
 have hT:=Z1 h (s:=s) (inf:=inf) (los:=los) (rel:=rel);have hP:-1099511627776≤lC d s inf los rel∧lC d s inf los rel≤1099511627776:=by
  have h1:=JY d.g s.g (jG d.r s.v) (mZ d rel (eh s inf los) (fW d s inf los rel));have h2:0≤jX d (eh s inf los):=by unfold jX;omega
  unfold lC GL;omega
 have h1:=am4 h hs (nv:=0) (nr:=0) (inf:=inf) (los:=min los (s.v+inf)) (spi:=0) (ovr:=0) (rel:=rel) (left:=eh s inf los) (lv:=jG d.r s.v) (ng:=.fm 2 []) hL hr;have h2:=am6 h (s:=s) (nv:=0) (nr:=0) (nu:=oo d s (kT d rel (eh s inf los)) d.u.length) (ng:=.fm 2 []) (inf:=inf) (los:=min los (s.v+inf)) (tur:=fW d s inf los rel) (spi:=0) (ovr:=0)
  (pw:=dN (qb d s (kT d rel (eh s inf los))) d.u.length) (st:=dN (jW d s (kT d rel (eh s inf los))) d.u.length) (rel:=rel) (left:=eh s inf los) (lv:=jG d.r s.v) hL hr (by omega)
 have h3:=am7 h (s:=s) (nv:=0) (nr:=0) (nu:=oo d s (kT d rel (eh s inf los)) d.u.length) (ng:=.slice none 2 ((oi d.g s.g (jG d.r s.v) (mZ d rel (eh s inf los) (fW d s inf los rel))).map Gs.row)) (inf:=inf) (los:=min los (s.v+inf)) (tur:=fW d s inf los rel) (spi:=lC d s inf los rel) (ovr:=0)
  (pw:=dN (qb d s (kT d rel (eh s inf los))) d.u.length) (st:=dN (jW d s (kT d rel (eh s inf los))) d.u.length) (rel:=rel) (left:=eh s inf los) (lv:=jG d.r s.v) hL (by omega) hP
 exact⟨_,PE h1 (PE h2 (PE h3 rfl)),hQ _⟩
theorem am9(n:Int)(G:List aP):aX F 208 [i64 n] G=some (.bool (!decide (0≤n∧n≤1073741824)),G) :=
 bM rfl rfl (by
  simp[wrap64,XX,dC])
theorem ana(l:List Int)(hl:l.length≤1000)(p:Int→Bool)(f:FuncId)(G:List aP)(h:∀n,aX F f [i64 n] G=some (.bool (p n),G)) :
  ∃k:Int,(decide (0≤k)=l.any p)∧aX F 176 [ints l,.fn f []] G=some (i64 k,G):=by
 suffices hh:∀Q:V→List aP→Prop,(∀k:Int,decide (0≤k)=l.any p→Q (i64 k) G)→gy (aX F) 176 [ints l,.fn f []] G Q by
  obtain⟨_,G',h,k,h1,rfl,rfl⟩:=hh (fun v G'=>∃k:Int,decide (0≤k)=l.any p∧v=i64 k∧G'=G) fun k hk=>⟨k,hk,rfl,rfl⟩;exact⟨k,h1,h⟩
 intro Q hQ;refine gS rfl rfl ?_;simp (disch:=omega) [-getElem?_pos,wrap64,Xs];refine go_loop (fun i:Nat=>aj9 (ints l) (.fn f []) l.length i G) (fun i=>i≤l.length∧∀x∈l.take i,p x=false) (fun i=>l.length-i) 0 rfl (by simp) ⟨by omega,by simp⟩ ?_
 rintro i ⟨hi,hp⟩;simp (disch:=omega) [-getElem?_pos,wrap64,Xr];refine bE (fun h5=>?_) (fun h5=>?_)
 ·have h5:i<l.length:=by omega
  simp (disch:=omega) [-getElem?_pos,wrap64,dj (l:=l),h];refine fe (fun h6=>?_) (fun h6=>?_)
  ·refine hQ _ ?_
   rw[decide_eq_true (by omega)]
   exact(List.any_eq_true.2 ⟨_,oK h5,h6⟩).symm
  ·refine bF (i+1) (by simp) ⟨by omega,?_⟩ (by omega)
   intro x hx;rw[jI h5]at hx;rcases List.mem_append.1 hx with hx|hx
   ·exact hp x hx
   ·rw[List.mem_singleton.1 hx];exact h6
 ·obtain rfl:i=l.length:=by omega
  refine hQ _ ?_;rw[List.take_length]at hp;rw[show l.any p=false from List.any_eq_false.2 fun x hx=>by rw[hp x hx];simp]
  rfl
theorem PF(l:List Int)(hl:l.length≤1000)(p:Int→Bool)(f:FuncId)(G:List aP)(h:∀n,aX F f [i64 n] G=some (.bool (p n),G)) :
  aX F 138 [ints l,.fn f []] G=some (.bool (l.any p),G) :=
 bM rfl rfl (by
  obtain⟨k,h1,h2⟩:=ana l hl p f G h;simp[wrap64,WM,h2];exact h1)
def wH(n:Int):Bool:=!decide (0≤n∧n≤1073741824)
noncomputable def nB(d:Dm)(s:Ds)(inf los rel:Int):Int:=if dE d s≠0 then dE d s else if [inf,los,rel].any wH then 1 else 0
noncomputable def so(d:Dm)(s:Ds)(inf los rel:Int):V:=.tuple (if nB d s inf los rel=0 then [dst (lU d s inf los rel),dr (lD d s inf los rel),i64 0] else [.agg [i64 0,i64 0,.slice (some 0) 3 [],.slice (some 0) 2 []],dr ⟨0,0,0,0,0,0,0⟩,i64 (nB d s inf los rel)])
theorem anb(d:Dm)(s:Ds)(inf los rel:Int):∃G',aX F 185 [dm d,dst s,i64 inf,i64 los,i64 rel] []=some (so d s inf los rel,G'):=by
 suffices h:∀Q:V→List aP→Prop,(∀G',Q (so d s inf los rel) G')→gy (aX F) 185 [dm d,dst s,i64 inf,i64 los,i64 rel] [] Q by
  obtain⟨_,G',h,rfl⟩:=h (fun v G'=>v=so d s inf los rel) fun _=>rfl;exact⟨G',h⟩
 intro Q hQ;refine gS rfl rfl ?_;have hc:aX F 138 [.slice none 1 [[i64 inf],[i64 los],[i64 rel]],.fn 208 []] []=some (.bool ([inf,los,rel].any wH),[]) :=
  PF [inf,los,rel] (by simp) wH 208 [] (fun n=>am9 n [])
 unfold so nB at hQ;generalize hx:[inf,los,rel].any wH=x at hc hQ;by_cases hd:dE d s=0
 ·obtain⟨qc,CY⟩:=GI hd
  have vQ:lvl d s=jG d.r s.v:=by simp[lvl,hd]
  simp only[hd,ne_eq,not_true_eq_false,if_false]at hQ;cases x with
  |true =>
   simp only[if_true,if_neg (show ¬ (1:Int)=0 by omega)]at hQ
   simp[wrap64,Jc,PA,hd,vQ,hc];exact hQ _
  |false =>
   simp only[wH,List.any_cons,List.any_nil,Bool.or_false,Bool.or_eq_false_iff,Bool.not_eq_false',decide_eq_true_eq]at hx;obtain⟨lf,hr⟩:=am8 qc CY hx.1 hx.2.1 hx.2.2;simp[wrap64,Jc,PA,hd,vQ,hc,hr];exact hQ _
 ·simp only[hd,ne_eq,not_false_eq_true,if_true,if_false]at hQ
  simp[wrap64,Jc,PA,hd];exact hQ _
end Go.Proofs.YtocclbnghhaejaaGreat
namespace Go.Proofs.YtocclbnghhaejaaGreat
set_option linter.all false
open Go.Vm
end Go.Proofs.YtocclbnghhaejaaGreat
namespace Go.Proofs.YtocclbnghhaejaaGreat
set_option linter.all false
open Go.Vm
theorem GM{c:List Pt}(h:Cv c):∀{i j:Nat},i≤j→j<c.length→(nth c i).x≤(nth c j).x:=by
 intro i j;induction j with
 |zero=>intro h1 _;obtain rfl:i=0:=by omega
        omega
 |succ j ih =>
  intro h1 h2;rcases Nat.lt_or_ge i (j+1) with h3|h3
  ·have:=ih (by omega) (by omega)
   have:=h.up (j+1) (by omega) h2
   simp only[Nat.add_sub_cancel]at this;omega
  ·obtain rfl:i=j+1:=by omega
   omega
theorem Z3{c:List Pt}(h:Cv c){y:Int}{i:Nat}(hi:i+1<c.length)(h1:(nth c i).y≤y)(h2:y<(nth c (i+1)).y):(nth c i).x≤BB c y i∧BB c y i≤(nth c (i+1)).x:=by
 have u1:=h.up (i+1) (by omega) hi
 simp only[Nat.add_sub_cancel]at u1;have a1:(y-(nth c i).y+1)*((nth c (i+1)).x-(nth c i).x)≤((nth c (i+1)).y-(nth c i).y)*((nth c (i+1)).x-(nth c i).x):=Int.mul_le_mul_of_nonneg_right (by omega) (by omega)
 have a2:0<(y-(nth c i).y+1)*((nth c (i+1)).x-(nth c i).x):=Int.mul_pos (by omega) (by omega)
 unfold BB;rw[Int.tdiv_eq_ediv_of_nonneg (by omega)]
 have b1:0≤((y-(nth c i).y+1)*((nth c (i+1)).x-(nth c i).x)-1) / ((nth c (i+1)).y-(nth c i).y):=Int.ediv_nonneg (by omega) (by omega)
 have b2:((y-(nth c i).y+1)*((nth c (i+1)).x-(nth c i).x)-1) / ((nth c (i+1)).y-(nth c i).y)≤(nth c (i+1)).x-(nth c i).x:=by
  refine Int.le_trans (Int.ediv_le_ediv (by omega) (show _≤((nth c (i+1)).x-(nth c i).x)*((nth c (i+1)).y-(nth c i).y) by rw[Int.mul_comm ((nth c (i+1)).x-(nth c i).x)];omega)) ?_
  rw[Int.mul_ediv_cancel _ (by omega)]
  exact Int.le_refl _
 omega
theorem PG{c:List Pt}(h:Cv c){y:Int}:∀(m i:Nat),i+m=c.length-1→(nth c i).y≤y→(nth c 0).x≤qN c y m i∧qN c y m i≤(nth c (c.length-1)).x
 |0,i,hi,_=>by
  have hp:=h.pos;have:=GM h (i:=0) (j:=c.length-1) (by omega) (by omega)
  unfold qN;omega
 |m+1,i,hi,hy=>by
  have hp:=h.pos;unfold qN;split
  ·rename_i h2
   have h3:=Z3 h (i:=i) (by omega) hy h2
   have:=GM h (i:=0) (j:=i) (by omega) (by omega)
   have:=GM h (i:=i+1) (j:=c.length-1) (by omega) (by omega)
   omega
  ·exact PG h m (i+1) (by omega) (by omega)
theorem anc{r:Rs}(h:il r=0)(v:Int):0≤jG r v∧jG r v≤16777216:=by
 have hs:=JS h;have hc:=mb hs.c;have hp:=hc.pos;have:=hs.top;have h0:=hc.x0 0 hp;have h1:=GM hc (i:=0) (j:=r.c.length-1) (by omega) (by omega)
 unfold jG;split
 ·omega
 ·have:=PG hc (y:=v) (r.c.length-1) 0 (by omega) (by omega)
  unfold wA;omega
theorem ane{d:Dm}{s:Ds}(h:Dv d)(hf:iS d s):aE d.g s.g (jG d.r s.v)=0:=by
 have hr:=anc h.r s.v;have hg:=h.g;have hl:=hf.2.2.2.1;unfold aE;rw[if_neg (by omega),if_neg (by omega),if_neg (fun g=>g hf.2.2.2.2.2),if_neg (fun g=>g (rW fun i _ hi=>h.gv i (by omega))),if_neg (by omega)]
theorem PH(l:List Int):∀i,i≤l.length→dN (fun j=>nth l j) i=(l.take i).sum
 |0,_=>by simp[dN]
 |i+1,h=>by
  rw[jI (by omega),List.sum_append,← PH l i (by omega)]
  simp[dN]
theorem PI:∀i,dN (fun _=>0) i=0
 |0=>rfl
 |i+1=>by simp[dN,PI i]
theorem anf{d:Dm}(s:Ds){m:Int}(hm:0≤m):dN (gK d s m) d.u.length≤m:=by
 by_cases he:kh d.u s.u d.gr m=0
 ·obtain⟨h1,h2⟩:=GK he
  have hl:=(BI h1).1;have:gK d s m=fun j=>nth (hH d.u s.u d.gr m) j:=by funext j;simp[gK,he]
  rw[this,PH _ _ (by omega),List.take_of_length_le (by omega)]
  exact h2
 ·have:gK d s m=fun _=>0:=by funext j;simp[gK,he]
  rw[this,PI];exact hm
structure Stp(d:Dm)(s:Ds)(inf los rel:Int):Prop where
 L:eh s inf los=max 0 (s.v+inf-los)
 T0:0≤fW d s inf los rel
 Tr:fW d s inf los rel≤rel
 Tf:fW d s inf los rel≤jX d (eh s inf los)
 P0:0≤lC d s inf los rel
 sum:fW d s inf los rel+lC d s inf los rel≤jX d (eh s inf los)
 P1:lC d s inf los rel≤17179869184
 w0:0≤mZ d rel (eh s inf los) (fW d s inf los rel)∧mZ d rel (eh s inf los) (fW d s inf los rel)≤1073741824
theorem PJ{d:Dm}(h:Dv d){s:Ds}(hf:iS d s){inf los rel:Int}(hi:0≤inf∧inf≤1073741824)(hl:0≤los∧los≤1073741824)(hr:0≤rel∧rel≤1073741824):Stp d s inf los rel:=by
 have hv:=hf.1;have hg:=h.gr;have rC:0≤jX d (eh s inf los):=by unfold jX;omega
 have hm:0≤kT d rel (eh s inf los):=by unfold kT;omega
 have h1:=anf (d:=d) s hm;have h2:=Z1 h (s:=s) (inf:=inf) (los:=los) (rel:=rel);have h3:fW d s inf los rel≤kT d rel (eh s inf los):=h1;have h4:=JY d.g s.g (jG d.r s.v) (mZ d rel (eh s inf los) (fW d s inf los rel));have h5:lC d s inf los rel=min (nA d.g s.g (jG d.r s.v) (mZ d rel (eh s inf los) (fW d s inf los rel))) (jX d (eh s inf los)-fW d s inf los rel):=rfl;unfold kT at h3;refine⟨by unfold eh;omega,h2.1,by omega,by omega,by omega,by omega,by omega,?_⟩
 unfold mZ;omega
end Go.Proofs.YtocclbnghhaejaaGreat
namespace Go.Proofs.YtocclbnghhaejaaGreat
set_option linter.all false
open Go.Vm
attribute [local simp] lQ lR kP lP
theorem anh(r:Dr)(ht:0≤r.tur∧r.tur≤1099511627776)(hs:0≤r.spi∧r.spi≤1099511627776)(ho:0≤r.ovr∧r.ovr≤1099511627776)(G:List aP):aX F 186 [dr r] G=some (i64 (r.tur+r.spi+r.ovr),G) :=
 bM rfl rfl (by
  simp (disch:=omega) [wrap64,Xz])
theorem ani{l:List Int}(h:l.length=5):∃a b c d e,l=[a,b,c,d,e]:=by
 match l,h with
 |[a,b,c,d,e],_=>exact⟨a,b,c,d,e,rfl⟩
theorem GN{l:List Int}{i j:Nat}{v:Int}(h:i<l.length):nth (l.set i v) j=if i=j then v else nth l j:=by
 simp only[nth,List.getD,List.getElem?_set];by_cases e:i=j
 ·subst e;simp[h]
 ·simp[e]
theorem anj{c:List Pt}{x y dx dy:Int}(h:Cw c x y dx dy 1)(h2:2≤c.length)(hx:0≤x∧x≤1000)(hy:0≤y∧y≤1000)(Jm:0≤dx∧dx≤1000)(Jo:0≤dy∧dy≤1000)
  {a1 a2 a3 a4 a5:Int} (l1:x≤a1) (l2:a1≤a2) (l3:a2≤a3) (l4:a3≤a4) (l5:a4≤a5) (l6:a5≤(nth c (c.length-1)).x):il ⟨c,a1,a2,a3,a4,a5⟩=0:=by
 have hc:=h.eH hx hy Jm Jo (by omega)
 have hf:=h.jo;have hu:=h.up hx hy Jm Jo (by omega) (c.length-1) (by omega)
 have h0:(nth c 0).x=x:=by rw[h.first]
 unfold il;simp only;rw[if_neg (fun g=>g hc),if_neg (by omega),if_neg (by omega),if_pos,rW]
 ·intro i OH sd
  have:i=1∨i=2∨i=3∨i=4∨i=5∨i=6:=by omega
  rcases this with rfl|rfl|rfl|rfl|rfl|rfl<;>simp only[pC,r0,nth,List.getD,List.getElem?_cons_succ,List.getElem?_cons_zero,Option.getD_some]<;>refine if_neg ?_
  ·have:(nth c 0).x≤a1:=by omega
   simp only[nth,List.getD]at this;simp;omega
  ·simp;omega
  ·simp;omega
  ·simp;omega
  ·simp;omega
  ·simp only[nth,List.getD]at l6;simp;omega
 ·refine rW fun i OH sd=>?_
  have:=h.step i (by omega) (by omega)
  exact if_neg (by omega)
theorem ank{l:List Int}{k:Nat}(hd:db l k):∃r k',aX F 157 [.bG 0 0] [dk l k]=some (.agg r.cells,[dk l k'])∧db l k'∧il r=0∧(nth r.c (r.c.length-1)).y≤10000:=by
 suffices h:∀Q:V→List aP→Prop,(∀r k',db l k'→il r=0→(nth r.c (r.c.length-1)).y≤10000→Q (.agg r.cells) [dk l k'])→gy (aX F) 157 [.bG 0 0] [dk l k] Q by
  obtain⟨_,_,h,r,k',rfl,rfl,h1⟩:=h (fun v G=>∃r k',v=.agg r.cells∧G=[dk l k']∧db l k'∧il r=0∧(nth r.c (r.c.length-1)).y≤10000) fun r k' a b c=>⟨r,k',rfl,rfl,a,b,c⟩;exact⟨r,k',h,h1⟩
 intro Q hQ;refine gS rfl rfl ?_;obtain⟨a1,k1,n1,gB,Jw⟩:=fK hd 10 (by omega)
 obtain⟨a2,k2,n2,eX,OV⟩:=fK gB 20 (by omega)
 obtain⟨c,k3,n3,lT,EF,hc⟩:=OU eX (x:=100+a1) (y:=a2) (dx:=40) (dy:=200) true (by omega) (by omega) (by omega) (by omega)
 simp only[if_true]at hc;have hu:=hc.up (by omega) (by omega) (by omega) (by omega) (by omega)
 have hf:=hc.jo;have h0:(nth c 0).x=100+a1:=by rw[hc.first]
 have hu1:=hu (c.length-1) (by omega)
 have Z4:(nth c 0).x≤(nth c (c.length-1)).x:=by
  have:∀i,i<c.length→(nth c 0).x≤(nth c i).x:=by
   intro i;induction i with
   |zero=>intro _;omega
   |succ i ih=>intro hi;have:=ih (by omega);have:=hc.step (i+1) (by omega) hi;simp only[Nat.add_sub_cancel]at this;omega
  exact this _ (by omega)
 have h3:((c.length:Int)-1).toNat=c.length-1:=by omega
 have h5:0≤(c.length:Int)-1:=by omega
 simp (disch:=omega) [-getElem?_pos,wrap64,W1,n1,n2,n3,aW (l:=c),h3,h5];refine go_loop (fun s:Nat×Int×List Int×Nat=>ajA (.bG 0 0) s.2.1 (nth c (c.length-1)).x s.1 [.bV,i64 0,i64 0,i64 0,i64 0,i64 0] [iv c,i64 0,i64 0,i64 0,i64 0,i64 0] (dM s.2.2.1) [dk l s.2.2.2])
  (fun s=>s.1≤5∧s.2.2.1.length=5∧(100+a1≤s.2.1∧s.2.1≤(nth c (c.length-1)).x)∧(∀j,j<s.1→100+a1≤nth s.2.2.1 j)∧(∀i j,i≤j→j<s.1→nth s.2.2.1 i≤nth s.2.2.1 j)∧(∀j,j<s.1→nth s.2.2.1 j≤s.2.1)∧db l s.2.2.2)
  (fun s=>5-s.1) (0,100+a1,[0,0,0,0,0],k3) rfl (by simp[dM,h0]) ⟨by simp,by simp,⟨by simp,by simp only;omega⟩,by simp,by simp,by simp,lT⟩ ?_
 rintro⟨i,at',ls,k⟩ ⟨hi,BS,⟨b1,b2⟩,h6,h7,h8,hd⟩;simp only at hi BS b1 b2 h6 h7 h8 hd;simp (disch:=omega) [-getElem?_pos,wrap64,W0];refine bE (fun h9=>?_) (fun h9=>?_)
 ·have h9:i<5:=by omega
  have cg:¬ (5:Int)-i=0:=by omega
  have hq0:0≤((nth c (c.length-1)).x-at').tdiv (5-i):=Int.tdiv_nonneg (by omega) (by omega)
  have MT:((nth c (c.length-1)).x-at').tdiv (5-i)≤(nth c (c.length-1)).x-at':=Int.tdiv_le_self _ (by omega)
  obtain⟨p,k4,n4,pE,hp⟩:=fK hd (((nth c (c.length-1)).x-at').tdiv (5-i)+1) (by omega)
  simp (disch:=omega) [-getElem?_pos,wrap64,n4,cg];refine bF (i+1,at'+p,ls.set i (at'+p),k4) (by simp) ⟨by simp only;omega,by simp[BS],⟨by simp only;omega,by simp only;omega⟩,?_,?_,?_,pE⟩ (by simp only;omega)
  ·intro j hj
   simp only at hj ⊢;rw[GN (by omega)]
   split
   ·omega
   ·exact h6 j (by omega)
  ·intro i' j OD hj
   simp only at hj ⊢;rw[GN (by omega),GN (by omega)]
   by_cases e1:i=j
   ·rw[if_pos e1]
    split
    ·omega
    ·have:=h8 i' (by omega);omega
   ·rw[if_neg e1,if_neg (by omega)]
    exact h7 i' j OD (by omega)
  ·intro j hj
   simp only at hj ⊢;rw[GN (by omega)]
   split
   ·omega
   ·have:=h8 j (by omega);omega
 ·obtain rfl:i=5:=by omega
  obtain⟨e1,e2,e3,e4,e5,rfl⟩:=ani BS;simp (disch:=omega) [-getElem?_pos,wrap64,dM];have q1:=h6 0 (by omega)
  have q2:=h7 0 1 (by omega) (by omega)
  have q3:=h7 1 2 (by omega) (by omega)
  have q4:=h7 2 3 (by omega) (by omega)
  have q5:=h7 3 4 (by omega) (by omega)
  have q6:=h8 4 (by omega)
  exact hQ ⟨c,e1,e2,e3,e4,e5⟩ k hd (anj hc EF (by omega) (by omega) (by omega) (by omega) q1 q2 q3 q4 q5 (Int.le_trans q6 b2)) (by simp only;omega)
structure Gw(l:List Rt):Prop where
 cw:∀i,i<l.length→Cw (nth l i).c 0 0 6 20 0
 lv:∀i,i<l.length→0≤(nth l i).lv∧(nth l i).lv≤1000
 up:∀i,0<i→i<l.length→(nth l (i-1)).lv<(nth l i).lv
theorem Gw.eH{l:List Rt}(h:Gw l)(h1:1≤l.length)(h2:l.length≤3){m v:Int}(hm:0≤m∧m≤1000)(hv:0≤v∧v≤1000):kg ⟨l,m,v⟩=0:=by
 unfold kg;simp only;rw[if_neg (by omega),if_neg (by omega),if_neg,if_neg (by omega)]
 refine fun hn=>hn (rW fun i _ hi=>?_);have hi:i<l.length:=by omega
 have hc:=h.cw i hi;have hl:=h.lv i hi;have hp:=hc.pos;have hf:=hc.jo;have hu:=hc.up (by omega) (by omega) (by omega) (by omega) (by omega) ((nth l i).c.length-1) (by omega)
 have h0:(nth (nth l i).c 0).x=0∧(nth (nth l i).c 0).y=0:=by rw[hc.first];exact⟨rfl,rfl⟩
 unfold oe;rw[if_neg (by omega),if_neg,if_neg (fun g=>g (hc.eH (by omega) (by omega) (by omega) (by omega) (by omega))),if_neg (fun g=>g h0),if_neg (by omega)]
 rintro⟨h3,h4⟩;have:=h.up i h3 hi;omega
theorem Gw.snoc{l:List Rt}(h:Gw l){r:Rt}(hc:Cw r.c 0 0 6 20 0)(hl:0≤r.lv∧r.lv≤1000)(hu:0<l.length→(nth l (l.length-1)).lv<r.lv):Gw (l++[r]):=by
 refine⟨fun i hi=>?_,fun i hi=>?_,fun i h0 hi=>?_⟩
 ·simp at hi
  rw[iF];split
  ·exact h.cw i (by assumption)
  ·rw[if_pos (by omega)];exact hc
 ·simp at hi
  rw[iF];split
  ·exact h.lv i (by assumption)
  ·rw[if_pos (by omega)];exact hl
 ·simp at hi
  rw[iF,iF,if_pos (by omega)]
  split
  ·exact h.up i h0 (by assumption)
  ·obtain rfl:i=l.length:=by omega
   rw[if_pos rfl];exact hu h0
abbrev PK(g:Gt):V:=.agg [.slice (some 0) 2 (g.r.map Rt.row),i64 g.c9,i64 g.move]
theorem anl{l:List Int}{k:Nat}(hd:db l k):∃g k',aX F 193 [.bG 0 0] [dk l k]=some (PK g,[dk l k'])∧db l k'∧kg g=0:=by
 suffices h:∀Q:V→List aP→Prop,(∀g k',db l k'→kg g=0→Q (PK g) [dk l k'])→gy (aX F) 193 [.bG 0 0] [dk l k] Q by
  obtain⟨_,_,h,r,k',rfl,rfl,h1⟩:=h (fun v G=>∃r k',v=PK r∧G=[dk l k']∧db l k'∧kg r=0) fun r k' a b=>⟨r,k',rfl,rfl,a,b⟩;exact⟨r,k',h,h1⟩
 intro Q hQ;refine gS rfl rfl ?_;obtain⟨a1,k1,n1,gB,Jw⟩:=fK hd 12 (by omega)
 obtain⟨a2,k2,n2,eX,OV⟩:=fK gB 6 (by omega)
 obtain⟨a3,k3,n3,lT,YZ⟩:=fK eX 40 (by omega)
 obtain⟨a4,k4,n4,pE,Y0⟩:=fK lT 3 (by omega)
 simp (disch:=omega) [wrap64,XJ,n1,n2,n3,n4];refine go_loop (fun s:List Rt×Int×Int×Nat=>akl (.bG 0 0) s.2.1 s.2.2.1 [.bV,i64 0,i64 0] [.slice (some 1027) 2 (s.1.map Rt.row),i64 a1,i64 a2] s.1.length [dk l s.2.2.2])
  (fun s=>Gw s.1∧(s.1.length:Int)+s.2.2.1≤2 ∧ -1≤s.2.2.1∧(1≤s.1.length∨0≤s.2.2.1)∧(0≤s.2.1∧s.2.1≤130+50*s.1.length)∧(0<s.1.length→(nth s.1 (s.1.length-1)).lv<s.2.1)∧db l s.2.2.2) (fun s=>(s.2.2.1+1).toNat)
  ([],90+a3,a4,k4) rfl (by simp) ⟨⟨by simp,by simp,by simp⟩,by simp;omega,by simp only;omega,by simp only;omega,by simp;omega,by simp,pE⟩ ?_
 rintro⟨r,lv,m,k⟩ ⟨hr,h1,h2,h3,h4,h5,hd⟩;simp only at h1 h2 h3 h4 h5 hd hr;obtain⟨c,k5,n5,xU,EF,hc⟩:=OU hd (x:=0) (y:=0) (dx:=6) (dy:=20) false (by omega) (by omega) (by omega) (by omega)
 obtain⟨a6,k6,n6,zY,ha6⟩:=fK xU 40 (by omega)
 simp (disch:=omega) [wrap64,XI];refine bE (fun h6=>?_) (fun h6=>?_)
 ·simp (disch:=omega) [wrap64,n5,n6]
  refine bF (r++[⟨lv,c⟩],lv+(1+a6),m-1,k6) (by simp) ⟨hr.snoc hc (by simp only;omega) h5,by simp;omega,by simp only;omega,by simp,by simp;omega,by simp[iF];omega,zY⟩ (by simp only;omega)
 ·exact hQ ⟨r,a1,a2⟩ k hd (hr.eH (by omega) (by omega) (by omega) (by omega))
abbrev PL(l:List Gt):V:=.slice (some 0) 3 (l.map Gt.row)
abbrev JZ(l:List Gs):V:=.slice (some 0) 2 (l.map Gs.row)
structure J1(a:List Gt)(b:List Gs):Prop where
 len:a.length=b.length
 gate:∀i,i<a.length→kg (nth a i)=0
 state:∀i,i<a.length→mY (nth a i) (nth b i)
theorem anm{l:List Int}{k:Nat}(hd:db l k){m:Nat}(hm:m≤1000):∃a b k',aX F 159 [.bG 0 0,i64 m] [dk l k]=some (.tuple [PL a,JZ b],[dk l k'])∧db l k'∧J1 a b∧a.length≤m:=by
 suffices h:∀Q:V→List aP→Prop,(∀a b k',db l k'→J1 a b→a.length≤m→Q (.tuple [PL a,JZ b]) [dk l k'])→gy (aX F) 159 [.bG 0 0,i64 m] [dk l k] Q by
  obtain⟨_,_,h,a,b,k',rfl,rfl,h1⟩:=h (fun v G=>∃a b k',v=.tuple [PL a,JZ b]∧G=[dk l k']∧db l k'∧J1 a b∧a.length≤m) fun a b k' h1 h2 h3=>⟨a,b,k',rfl,rfl,h1,h2,h3⟩;exact⟨a,b,k',h,h1⟩
 intro Q hQ;refine gS rfl rfl ?_;obtain⟨n,k1,n1,gB,hn⟩:=fK hd (m+1) (by omega)
 simp (disch:=omega) [wrap64,W5,n1];refine go_loop (fun s:List Gt×List Gs×Int×Nat=>ajF (.bG 0 0) (.slice (some 1023) 3 (s.1.map Gt.row)) (.slice (some 1035) 2 (s.2.1.map Gs.row)) s.2.2.1 s.1.length s.2.1.length [dk l s.2.2.2])
  (fun s=>J1 s.1 s.2.1∧(s.1.length:Int)+s.2.2.1≤m∧0≤s.2.2.1∧db l s.2.2.2) (fun s=>s.2.2.1.toNat) ([],[],n,k1) rfl (by simp) ⟨⟨rfl,by simp,by simp⟩,by simp;omega,by simp;omega,gB⟩ ?_
 rintro⟨a,b,n,k⟩ ⟨qO,h1,h2,hd⟩;simp only at qO h1 h2 hd;obtain⟨g,k2,n2,eX,hg⟩:=anl hd;have hgv:=(ZC hg).c9;obtain⟨p,k3,n3,lT,hp⟩:=fK eX (g.c9+1) (by omega)
 obtain⟨q,k4,n4,pE,hq⟩:=fK lT 7 (by omega)
 have hl:=qO.len;simp (disch:=omega) [wrap64,W4];refine bE (fun h4=>?_) (fun h4=>?_)
 ·simp (disch:=omega) [wrap64,n2,n3,n4]
  refine bF (a++[g],b++[⟨p,decide (q=6)⟩],n-1,k4) (by simp) ⟨⟨by simp[hl],fun i hi=>?_,fun i hi=>?_⟩,by simp;omega,by simp;omega,pE⟩ (by simp;omega)
  ·simp at hi
   rw[iF];split
   ·exact qO.gate i (by assumption)
   ·rw[if_pos (by omega)];exact hg
  ·simp at hi
   rw[iF,iF,← hl];split
   ·exact qO.state i (by assumption)
   ·rw[if_pos (by omega),if_pos (by omega)]
    show 0≤p∧p≤g.c9;omega
 ·exact hQ a b k hd qO (by omega)
structure Dw(d:Dm)(s:Ds):Prop where
 eH:fq d=0
 fit:iS d s
 avQ:Gf d.u s.u
 u2:d.u.length≤2
 g2:d.g.length≤2
 gr:1≤d.gr∧d.gr≤4
 rel:0≤s.rel∧s.rel≤29
 top:kD d≤10000
theorem ann{l:List Int}{k:Nat}(hd:db l k):∃d s k',aX F 109 [.bG 0 0] [dk l k]=some (.tuple [dm d,dst s],[dk l k'])∧db l k'∧Dw d s:=by
 suffices h:∀Q:V→List aP→Prop,(∀d s k',db l k'→Dw d s→Q (.tuple [dm d,dst s]) [dk l k'])→gy (aX F) 109 [.bG 0 0] [dk l k] Q by
  obtain⟨_,_,h,d,s,k',rfl,rfl,h1⟩:=h (fun v G=>∃d s k',v=.tuple [dm d,dst s]∧G=[dk l k']∧db l k'∧Dw d s) fun d s k' a b=>⟨d,s,k',rfl,rfl,a,b⟩;exact⟨d,s,k',h,h1⟩
 intro Q hQ;refine gS rfl rfl ?_;obtain⟨r,k1,n1,gB,hr,hry⟩:=ank hd;obtain⟨a,k2,n2,eX,ha⟩:=fK gB 4 (by omega)
 obtain⟨us,ss,k3,n3,lT,nI,IL⟩:=alL (m:=2) eX (by omega)
 obtain⟨gs,ts,k4,n4,pE,pe,EO⟩:=anm (m:=2) lT (by omega)
 rw[show((2:Nat):Int)=2 from rfl]at n3 n4;have hv:=PB hr r.t;have sk:=Pw hr;obtain⟨v,k5,n5,xU,hv5⟩:=fK pE (ik r.c r.t+1) (by omega)
 obtain⟨e,k6,n6,zY,he6⟩:=fK xU 30 (by omega)
 have hV:=Jr r r.t [];simp (disch:=omega) [wrap64,Wh,n1,n2,n3,n4,hV,sk,hr,n5,n6];refine hQ ⟨r,us,gs,1+a⟩ ⟨v,e,ss,ts⟩ k6 zY ?_;have hc:fq ⟨r,us,gs,1+a⟩=0:=by
  unfold fq;simp only;rw[if_neg (fun g=>g hr),if_neg (by omega),if_neg (fun g=>g (rW fun i _ hi=>(nI.unit i (by omega)).eH)),if_neg (fun g=>g (rW fun i _ hi=>pe.gate i (by omega))),if_neg (by omega)]
 refine⟨hc,⟨⟨hv5.1,?_⟩,?_,nI.len.symm,pe.len.symm,nI.state,pe.state⟩,nI,IL,EO,?_,?_,?_⟩
 ·show v≤ik r.c r.t
  omega
 ·simp only;omega
 ·simp only;omega
 ·simp only;omega
 ·have:=(DA (mb (r7 hr)) r.t).2
  show ik r.c r.t≤10000;omega
end Go.Proofs.YtocclbnghhaejaaGreat
namespace Go.Proofs.YtocclbnghhaejaaGreat
set_option linter.all false
open Go.Vm
theorem anp{u:Un}{s:Us}(hv:eU u s)(q:Int):eU u (qS u s q):=by
 have h1:=hv.2.1;unfold qS;split
 ·rename_i hm
  refine⟨hv.1,?_,?_⟩
  ·unfold sb;simp only;split<;>omega
  ·unfold sb;simp only
   unfold jS at hm;by_cases hq:q=0
   ·exact .inl hq
   ·rw[if_neg hq]at hm;exact .inr ⟨hm.1,hm.2.2⟩
 ·exact⟨hv.1,by simp,.inl rfl⟩
theorem anq{lv w:Int}{g:List Gt}{s:List Gs}(hl:g.length=s.length)(hs:yh g s)(hv:∀i,i<g.length→Gv (nth g i)):∀i,i≤g.length →
  ∀j,j<g.length→0≤nth (bs lv w g s i).1 j∧nth (bs lv w g s i).1 j≤(nth g j).c9:=by
 intro i;induction i with
 |zero =>
  intro _ j hj;have hr:=BN (hv j hj) (hs j hj);simp only[bs];rw[Gy hj (by omega)]
  omega
 |succ i ih =>
  intro hi j hj;simp only[bs];rw[GN (by rw[oj hl];omega)]
  split
  ·rename_i e
   subst e;have hr:=BN (hv i hj) (hs i hj);have ho:=amK (lv:=lv) (w:=w) (hv i hj) (hs i hj) (bs lv w g s i).2;omega
  ·exact ih (by omega) j hj
theorem anr{g:List Gt}{s:List Gs}{lv w:Int}(h:aE g s lv=0)(hw:0≤w∧w≤1073741824):(oi g s lv w).length=g.length∧yh g (oi g s lv w):=by
 obtain⟨h1,h2,h3,h4,h5⟩:=Gu h;have hE:kS g s lv w=0:=by simp[kS,h,hw]
 have hS:oi g s lv w=mH (bs lv w g s g.length).1 s:=by unfold oi;rw[if_pos hE]
 have hb:=oj (lv:=lv) (w:=w) h2 g.length;rw[hS];refine⟨by simp[mH];omega,fun i hi=>?_⟩
 unfold mH;rw[DG (by omega) (by omega)]
 exact anq h2 h3 h4 g.length (Nat.le_refl _) i hi
theorem ant{d:Dm}{s:Ds}{m:Int}{n i:Nat}(hi:i<n):nth (oo d s m n) i=qS (nth d.u i) (nth s.u i) (gK d s m i):=by
 unfold oo;simp[nth,hi]
theorem anu{d:Dm}(h:Dv d){s:Ds}(hf:iS d s){inf los rel:Int}(hi:0≤inf∧inf≤1073741824)(hl:0≤los∧los≤1073741824)(hr:0≤rel∧rel≤1073741824):iS d (lU d s inf los rel):=by
 have p:=PJ h hf hi hl hr;have hv:=hf.1;have hC:=JU h.r;have hD:=JT h.r;have hT:=p.T0;have hP:=p.P0;have hs:=p.sum;have hL:=p.L;have rC:jX d (eh s inf los)≤eh s inf los:=by unfold jX;omega
 have hO:sn d s inf los rel=max (eh s inf los-(fW d s inf los rel+lC d s inf los rel)-kD d) 0:=rfl;have hg:=anr (ane h hf) p.w0;refine⟨?_,?_,JX,hg.1,fun i hi=>?_,hg.2⟩
 ·show 0≤eh s inf los-(fW d s inf los rel+lC d s inf los rel)-sn d s inf los rel∧eh s inf los-(fW d s inf los rel+lC d s inf los rel)-sn d s inf los rel≤kD d
  omega
 ·show 0≤min (fW d s inf los rel+lC d s inf los rel) 1073741824∧min (fW d s inf los rel+lC d s inf los rel) 1073741824≤1073741824
  omega
 ·show eU (nth d.u i) (nth (oo d s _ d.u.length) i)
  rw[ant hi];exact anp (hf.2.2.2.2.1 i hi) _
def anv(a b:Ds)(r:Dr):List Int:=[a.v,b.v,r.inf,r.los,r.tur,r.spi,r.ovr]
def Z5(n:Int):Prop:=0≤n∧n≤274877906944
instance {n:Int}:Decidable (Z5 n):=inferInstanceAs (Decidable (_∧_))
def Z6(a b:Ds)(r:Dr):Prop:=(∀i,i<7→Z5 (nth (anv a b r) i))∧b.v=a.v+r.inf-r.los-r.tur-r.spi-r.ovr
noncomputable instance {a b:Ds} {r:Dr}:Decidable (Z6 a b r):=Classical.propDecidable _
end Go.Proofs.YtocclbnghhaejaaGreat
namespace Go.Proofs.YtocclbnghhaejaaGreat
set_option linter.all false
open Go.Vm
attribute [local simp] lQ lR kP lP
theorem Z7{c:List Pt}(h:Cv c){y x:Int}{i:Nat}(hi:i+1<c.length)(h1:(nth c i).y≤y)(h2:y<(nth c (i+1)).y)(hx:(nth c i).x≤x):oI c (i+1) x≤y↔x≤BB c y i:=by
 have u1:=h.up (i+1) (by omega) hi
 simp only[Nat.add_sub_cancel]at u1;have a2:0<(y-(nth c i).y+1)*((nth c (i+1)).x-(nth c i).x):=Int.mul_pos (by omega) (by omega)
 have a3:0≤((nth c (i+1)).y-(nth c i).y)*(x-(nth c i).x):=Int.mul_nonneg (by omega) (by omega)
 unfold oI BB;simp only[Nat.add_sub_cancel];rw[Int.tdiv_eq_ediv_of_nonneg a3,Int.tdiv_eq_ediv_of_nonneg (by omega)]
 have e1:((nth c (i+1)).y-(nth c i).y)*(x-(nth c i).x) / ((nth c (i+1)).x-(nth c i).x)<y-(nth c i).y+1↔((nth c (i+1)).y-(nth c i).y)*(x-(nth c i).x)<(y-(nth c i).y+1)*((nth c (i+1)).x-(nth c i).x) :=
  Int.ediv_lt_iff_lt_mul (by omega)
 have e2:x-(nth c i).x≤((y-(nth c i).y+1)*((nth c (i+1)).x-(nth c i).x)-1) / ((nth c (i+1)).y-(nth c i).y)↔(x-(nth c i).x)*((nth c (i+1)).y-(nth c i).y)≤(y-(nth c i).y+1)*((nth c (i+1)).x-(nth c i).x)-1 :=
  Int.le_ediv_iff_mul_le (by omega)
 rw[Int.mul_comm (x-(nth c i).x)]at e2;constructor
 ·intro g
  have:=e2.2 (by have:=e1.1 (by omega);omega)
  omega
 ·intro g
  have:=e1.2 (by have:=e2.1 (by omega);omega)
  omega
theorem PN{c:List Pt}(h:Cv c){i:Nat}(hi:i<c.length):ik c (nth c i).x=(nth c i).y:=by
 rcases Nat.eq_zero_or_pos i with rfl|h0
 ·exact Bz h (Int.le_refl _)
 ·have u:=h.up i h0 hi
  rw[CM h h0 hi (by omega) (Int.le_refl _),oI,Int.mul_tdiv_cancel _ (by omega)]
  omega
theorem Z8{c:List Pt}(h:Cv c){y:Int}:∀(m i:Nat),i+m=c.length-1→(nth c i).y≤y→ik c (qN c y m i)≤y∧∀x,qN c y m i<x→x≤(nth c (c.length-1)).x→y<ik c x
 |0,i,hi,hy=>by
  have hp:=h.pos;unfold qN;rw[PN h (by omega)]
  obtain rfl:i=c.length-1:=by omega
  exact⟨hy,fun x a b=>by omega⟩
 |m+1,i,hi,hy=>by
  have hp:=h.pos;unfold qN;split
  ·rename_i h2
   have hr:=Z3 h (i:=i) (by omega) hy h2
   refine⟨?_,fun x a b=>?_⟩
   ·rw[CM h (i:=i+1) (by omega) (by omega) (by simpa using hr.1) hr.2]
    exact(Z7 h (by omega) hy h2 hr.1).2 (Int.le_refl _)
   ·rcases Int.lt_or_le (nth c (i+1)).x x with h3|h3
    ·have:=Pk h (show(nth c (i+1)).x≤x by omega)
     rw[PN h (by omega)]at this
     omega
    ·rw[CM h (i:=i+1) (by omega) (by omega) (by simp only[Nat.add_sub_cancel];omega) h3]
     have:=not_congr (Z7 h (x:=x) (by omega) hy h2 (by omega))
     omega
  ·exact Z8 h m (i+1) (by omega) (by omega)
theorem Z9{c:List Pt}(h:gi c=0)(y:Int)(G:List aP) :
  aX F 199 [iv c,i64 y] G=some (.tuple [i64 (if y<(nth c 0).y then 0 else wA c y),.bool (decide ((nth c 0).y≤y)),i64 0],G) :=
 bM rfl rfl (by
  have hc:=mb h;have hp:=hc.pos;have hl:=hc.jo;have h3:((c.length:Int)-1).toNat=c.length-1:=by omega
  have h4:0≤(c.length:Int)-1:=by omega
  have h5:c.length-1<c.length:=by omega
  have x0:=hc.x0 0 hp;have x1:=hc.x0 (c.length-1) h5;have Cj:=GM hc (i:=0) (j:=c.length-1) (by omega) h5
  have hA:=fun x=>YH hc x [];have DU:=hA (nth c 0).x;rw[PN hc hp]at DU;by_cases h1:y<(nth c 0).y
  ·have h2:¬ (nth c 0).y≤y:=by omega
   simp (disch:=omega) [-getElem?_pos,wrap64,Og,lS,h,aW (l:=c),hp,h3,h4,h5,DU,h1,h2]
  ·have h2:(nth c 0).y≤y:=by omega
   have PO:=Z8 hc (y:=y) (c.length-1) 0 (by omega) h2
   have PQ:=PG hc (y:=y) (c.length-1) 0 (by omega) h2
   have dw:qN c y (c.length-1) 0=wA c y:=rfl;rw[dw]at PO PQ;simp (disch:=omega) [-getElem?_pos,wrap64,Og,lS,h,aW (l:=c),hp,h3,h4,h5,DU,h1,h2];refine go_loop (fun s:Int×Int=>aks (iv c) y s.1 s.2 G) (fun s=>(nth c 0).x≤s.1∧s.1≤wA c y∧wA c y≤s.2∧s.2≤(nth c (c.length-1)).x) (fun s=>(s.2-s.1).toNat) ((nth c 0).x,(nth c (c.length-1)).x) rfl (by simp) ⟨by simp,PQ.1,PQ.2,by simp⟩ ?_
   rintro⟨lo,hi⟩ ⟨b1,b2,b3,b4⟩;simp only at b1 b2 b3 b4;have d1:0≤(hi-lo).tdiv 2:=Int.tdiv_nonneg (by omega) (by omega)
   have d2:(hi-lo).tdiv 2=(hi-lo) / 2:=Int.tdiv_eq_ediv_of_nonneg (by omega)
   have hAm:=hA (hi-(hi-lo).tdiv 2);simp (disch:=omega) [-getElem?_pos,wrap64,XQ,hAm];refine bE (fun h6=>?_) (fun h6=>?_)
   ·refine bE (fun h7=>?_) (fun h7=>?_)
    ·refine bF (hi-(hi-lo).tdiv 2,hi) (by simp) ⟨by simp only;omega,?_,b3,b4⟩ (by simp only;omega)
     simp only;refine Int.not_lt.1 fun h8=>?_;have:=PO.2 _ h8 (by omega)
     omega
    ·refine bF (lo,hi-(hi-lo).tdiv 2-1) (by simp) ⟨b1,b2,?_,by simp only;omega⟩ (by simp only;omega)
     simp only;refine Int.not_lt.1 fun h8=>?_;have:=Pk hc (show hi-(hi-lo).tdiv 2≤wA c y by omega)
     have:=PO.1;omega
   ·have:lo=wA c y:=by omega
    subst this;simp (disch:=omega) [-getElem?_pos,wrap64,h1,h2])
theorem anx{r:Rs}(h:il r=0){v:Int}(hv:0≤v∧v≤274877906944)(G:List aP):aX F 169 [.agg r.cells,i64 v] G=some (.tuple [i64 (jG r v),i64 0],G) :=
 bM rfl rfl (by
  have hp:=(mb (r7 h)).pos;have nN:(decide (0≤v)&&decide (v≤274877906944))=true:=by simp;omega
  by_cases h1:v<(nth r.c 0).y
  ·have h2:¬ (nth r.c 0).y≤v:=by omega
   simp[-getElem?_pos,wrap64,Oa,zS,h,cT,nN,Z9 (r7 h),h1,h2,aW (l:=r.c),hp,jG]
  ·have h2:(nth r.c 0).y≤v:=by omega
   simp[-getElem?_pos,wrap64,Oa,zS,h,cT,nN,Z9 (r7 h),h1,h2,aW (l:=r.c),hp,jG])
theorem aaa{d:Dm}(h:il d.r=0):kD d≤274877906944:=by
 have hc:=mb (r7 h);have h1:=DA hc d.r.t;have hp:=hc.pos;have h3:=hc.y0 (d.r.c.length-1) (by omega)
 have:kD d=ik d.r.c d.r.t:=rfl;omega
theorem GO(d:Dm)(s:Ds)(G:List aP):aX F 133 [dm d,dst s] G=some (.tuple [i64 (lvl d s),i64 (dE d s)],G) :=
 bM rfl rfl (by
  by_cases hd:dE d s=0
  ·obtain⟨qc,hf⟩:=GI hd
   have hv:=hf.1;have hC:=aaa qc.r;simp (disch:=omega) [wrap64,NY,ZZ,hd,anx qc.r,hv,lvl]
  ·simp (disch:=omega) [wrap64,NY,ZZ,hd,lvl])
theorem aab:∀{a:List Un} {E:List Int} {u:Un} {q:Int},a.length=E.length→iG (a++[u]) (E++[q])=iG a E+pow u q
 |[],[],_,_,_=>by simp[iG]
 |u::a,q::E,w,z,h=>by
  have:=aab (a:=a) (E:=E) (u:=w) (q:=z) (by simpa using h)
  simp only[List.cons_append,iG,this];omega
 |[],_::_,_,_,h=>by simp at h
 |_::_,[],_,_,h=>by simp at h
theorem aac:∀{a:List Us} {E:List Int} {u:Us} {q:Int},a.length=E.length→iH (a++[u]) (E++[q])=iH a E+iw u q
 |[],[],_,_,_=>by simp[iH]
 |u::a,q::E,w,z,h=>by
  have:=aac (a:=a) (E:=E) (u:=w) (q:=z) (by simpa using h)
  simp only[List.cons_append,iH,this];omega
 |[],_::_,_,_,h=>by simp at h
 |_::_,[],_,_,h=>by simp at h
theorem aad{us:List Un}{F:List Int}(h:F.length=us.length):∀i,i≤us.length→dN (fun j=>pow (nth us j) (nth F j)) i=iG (us.take i) (F.take i)
 |0,_=>by simp[dN,iG]
 |i+1,hi=>by
  rw[jI (l:=us) (by omega),jI (l:=F) (by omega),aab (by simp;omega),← aad h i (by omega)]
  rfl
theorem aae{ss:List Us}{F:List Int}(h:F.length=ss.length):∀i,i≤ss.length→dN (fun j=>iw (nth ss j) (nth F j)) i=iH (ss.take i) (F.take i)
 |0,_=>by simp[dN,iH]
 |i+1,hi=>by
  rw[jI (l:=ss) (by omega),jI (l:=F) (by omega),aac (by simp;omega),← aae h i (by omega)]
  rfl
theorem anz{u:Un}{s:Us}(hv:eU u s):qS u s 0=⟨0,if 0<s.cd then 1 else min 1000 (s.since+1),s.out⟩:=by
 have hc:=hv.1;have hf:0≤s.cd:=by
  rcases hv.2.2 with h | ⟨_,h⟩
  ·omega
  ·have:=Jt hc h;omega
 unfold qS;by_cases h1:0<s.cd
 ·rw[if_pos h1]
  split
  ·unfold sb
   rw[if_neg (by simp[h1])]
  ·rfl
 ·rw[if_neg h1,if_pos]
  ·unfold sb
   rw[if_pos (by simp[h1])]
  ·unfold jS
   rw[if_pos rfl];exact fun h=>absurd h h1
theorem anA{d:Dm}(qc:Dv d){s:Ds}(hf:iS d s){q:Int}(hq:0≤q∧q≤1073741824)(G:List aP) :
  aX F 134 [dm d,dst s,i64 q] G=some (.tuple [Ge (oo d s (min q (200*d.gr)) d.u.length),i64 (dN (gK d s (min q (200*d.gr))) d.u.length),i64 (dN (qb d s (min q (200*d.gr))) d.u.length),i64 (dN (jW d s (min q (200*d.gr))) d.u.length)],G) :=
 bM rfl rfl (by
  obtain⟨t,hb⟩:=amq d.u s.u d.gr (min q (200*d.gr)) [];have hgr:=qc.gr;have Py:=qc.u;have xi:=hf.2.2.1;generalize hM:min q (200*d.gr)=M at *;by_cases he:kh d.u s.u d.gr M=0
  ·obtain⟨h1,h2⟩:=GK he
   have hl:=BI h1;have hV:=Y4 d.u s.u (hH d.u s.u d.gr M) (by omega) []
   rw[Zn h1]at hV;simp only[DD]at hV;have f1:gK d s M=fun j=>nth (hH d.u s.u d.gr M) j:=by funext j;simp[gK,he]
   have f2:qb d s M=fun j=>pow (nth d.u j) (nth (hH d.u s.u d.gr M) j):=by funext j;simp only[qb,f1]
   have f3:jW d s M=fun j=>iw (nth s.u j) (nth (hH d.u s.u d.gr M) j):=by funext j;simp only[jW,f1]
   have e1:dN (gK d s M) d.u.length=(hH d.u s.u d.gr M).sum:=by rw[f1,PH _ _ (by omega),List.take_of_length_le (by omega)]
   have e2:dN (qb d s M) d.u.length=iG d.u (hH d.u s.u d.gr M):=by rw[f2,aad hl.1 _ (Nat.le_refl _),List.take_of_length_le (by omega),List.take_of_length_le (by omega)]
   have e3:dN (jW d s M) d.u.length=iH s.u (hH d.u s.u d.gr M):=by rw[f3,aae hl.2 _ (by omega),List.take_of_length_le (by omega),List.take_of_length_le (by omega)]
   rw[e1,e2,e3];generalize hE:hH d.u s.u d.gr M=E at *;generalize iG d.u E=PW at *;generalize iH s.u E=ST at *;generalize E.sum=SU at *;simp (disch:=omega) [-getElem?_pos,wrap64,N3,hM,hb,he,hV];refine go_loop (fun i:Nat=>ajk (.slice none 1 (E.map fun n=>[i64 n])) (.slice (some 1063) 3 ((oo d s M i).map Us.row)) SU PW ST (ke d.u) d.u.length i s.row i G) (fun i=>i≤d.u.length) (fun i=>d.u.length-i) 0 rfl (by simp[oo]) (by omega) ?_
   intro i hi;have rQ:=JX (d:=d) (s:=s) (m:=M) (n:=i);simp (disch:=omega) [-getElem?_pos,wrap64,WH];refine bE (fun h5=>?_) (fun h5=>?_)
   ·have h5:i<d.u.length:=by omega
    have h6:i<s.u.length:=by omega
    have h7:i<E.length:=by omega
    have hv:eU (nth d.u i) (nth s.u i):=hf.2.2.2.2.1 i h5;have iP:gK d s M i=nth E i:=by rw[f1]
    have hm:jS (nth d.u i) (nth s.u i) (nth E i):=(DH.1 (JV h1 i h5)).2.2;have hN:=OO (nth d.u i) (nth s.u i) (nth E i) [];have hnE:sa (nth d.u i) (nth s.u i) (nth E i)=0:=by rw[am2 hv,if_pos hm]
    rw[if_pos hnE]at hN;have hx:qS (nth d.u i) (nth s.u i) (nth E i)=sb (nth s.u i) (nth E i):=by simp[qS,hm]
    simp (disch:=omega) [-getElem?_pos,wrap64,aW (l:=d.u),aW (l:=s.u),dj (l:=E),hN,rQ];refine bF (i+1) (by simp[BR,iP,hx]) (by omega) (by omega)
   ·obtain rfl:i=d.u.length:=by omega
    simp (disch:=omega) [-getElem?_pos,wrap64,rQ]
  ·have f1:gK d s M=fun _=>0:=by funext j;simp[gK,he]
   have f2:qb d s M=fun _=>0:=by funext j;simp[qb,f1,pow]
   have f3:jW d s M=fun _=>0:=by funext j;simp[jW,f1,iw]
   rw[f1,f2,f3,PI];simp (disch:=omega) [-getElem?_pos,wrap64,N3,hM,hb,he];refine go_loop (fun i:Nat=>ajh (.slice (some 1063) 3 ((oo d s M i).map Us.row)) (jT s.u) s.u.length i i G) (fun i=>i≤s.u.length) (fun i=>s.u.length-i) 0 rfl (by simp[oo]) (by omega) ?_
   intro i hi;have rQ:=JX (d:=d) (s:=s) (m:=M) (n:=i);simp (disch:=omega) [-getElem?_pos,wrap64,WG];refine bE (fun h5=>?_) (fun h5=>?_)
   ·have h5:i<d.u.length:=by omega
    have h6:i<s.u.length:=by omega
    have hv:eU (nth d.u i) (nth s.u i):=hf.2.2.2.2.1 i h5;have qT:=hv.2.1;have iP:gK d s M i=0:=by rw[f1]
    have hx:=anz hv;by_cases h7:0<(nth s.u i).cd
    ·rw[if_pos h7]at hx
     simp (disch:=omega) [-getElem?_pos,wrap64,aW (l:=s.u),h7,rQ];refine bF (i+1) (by simp[BR,iP,hx]) (by omega) (by omega)
    ·rw[if_neg h7]at hx
     simp (disch:=omega) [-getElem?_pos,wrap64,aW (l:=s.u),h7,rQ];refine bF (i+1) (by simp[BR,iP,hx]) (by omega) (by omega)
   ·obtain rfl:i=s.u.length:=by omega
    rw[xi]at rQ ⊢;simp (disch:=omega) [-getElem?_pos,wrap64,rQ])
end Go.Proofs.YtocclbnghhaejaaGreat
namespace Go.Proofs.YtocclbnghhaejaaGreat
set_option linter.all false
open Go.Vm
theorem avT(lv w:Int):nA [] [] lv w=0:=by
 unfold nA;split
 ·simp[bs,Gx]
 ·rfl
end Go.Proofs.YtocclbnghhaejaaGreat
namespace Go.Proofs.YtocclbnghhaejaaGreat
set_option linter.all false
open Go.Vm
end Go.Proofs.YtocclbnghhaejaaGreat
