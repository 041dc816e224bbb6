/- Parts of the proof, joined: Dam2, Dam3, Dam4, Gat8, Dam5, Dam6, Mk3, Mk4, Dam7, Ref4, Ref5, Dmo1, Dob1. -/
import Derived.Test.YtmpikpodpgnjhaaGreatDc
namespace Go.Proofs.YtmpikpodpgnjhaaGreat
set_option linter.all false
open Go.Vm
attribute [local simp] mc me ma mb
structure Sv(r:Rs):Prop where
 c:fD r.c=0
 two:2≤r.c.length
 top:(nth r.c (r.c.length-1)).x≤16777216
 up:∀i,1≤i→i<r.c.length→(nth r.c (i-1)).y<(nth r.c i).y
 d:(nth r.c 0).x≤r.d
 l:r.d≤r.l
 f:r.l≤r.f
 s:r.f≤r.s
 t:r.s≤r.t
 last:r.t≤(nth r.c (r.c.length-1)).x
theorem Hk{r:Rs}(h:gL r=0):Sv r:=by
 have hc:=qv h;unfold gL at h;rw[if_neg (by omega)]at h
 split at h
 ·cases h
 split at h
 ·cases h
 split at h
 ·rename_i h1 h2 h3
  have hp:=rn hc;have up:∀i,1≤i→i<r.c.length→(nth r.c (i-1)).y<(nth r.c i).y:=fun i a b=>by
   have:=rm h3 i a (by omega)
   unfold qt at this;split at this
   ·cases this
   ·omega
  have lv:∀i,1≤i→i<7→nth (qu r) (i-1)≤nth (qu r) i:=fun i a b=>by
   have:=rm h i a (by omega)
   unfold oy at this;split at this
   ·cases this
   ·omega
  have l1:=lv 1 (by omega) (by omega)
  have l2:=lv 2 (by omega) (by omega)
  have l3:=lv 3 (by omega) (by omega)
  have l4:=lv 4 (by omega) (by omega)
  have l5:=lv 5 (by omega) (by omega)
  have l6:=lv 6 (by omega) (by omega)
  exact⟨hc,by omega,by omega,up,l1,l2,l3,l4,l5,l6⟩
 ·cases h
theorem Wa{r:Rs}(h:gL r=0){l:Int}(h1:(nth r.c 0).x≤l)(h2:l≤(nth r.c (r.c.length-1)).x):qw r l=0:=by
 have v:=Hk h;have hp:=rn v.c;have:=(lh v.c).x0 0 hp;have:=v.top;unfold qw;rw[if_neg (by omega),if_pos (by omega)]
def jL(d:Dm):Int:=gK d.r.c d.r.t
def By(d:Dm):Int:=gK d.r.c d.r.d
theorem My{r:Rs}(h:gL r=0):qw r r.t=0:=by
 have v:=Hk h;have:=v.d;have:=v.l;have:=v.f;have:=v.s;have:=v.t;exact Wa h (by omega) v.last
theorem ahC{r:Rs}(h:gL r=0):qw r r.d=0:=by
 have v:=Hk h;have:=v.last;have:=v.l;have:=v.f;have:=v.s;have:=v.t;exact Wa h v.d (by omega)
def gC(d:Dm)(s:Ds):Prop:=(0≤s.v∧s.v≤jL d)∧(0≤s.rel∧s.rel≤1073741824)∧s.u.length=d.u.length∧s.g.length=d.g.length∧zu d.u s.u∧wD d.g s.g
noncomputable instance {d:Dm} {s:Ds}:Decidable (gC d s):=Classical.propDecidable _
noncomputable def dE(d:Dm)(s:Ds):Int:=if eZ d≠0 then eZ d else if gC d s then 0 else 3
structure Dv(d:Dm):Prop where
 r:gL d.r=0
 u:d.u.length≤6
 g:d.g.length≤8
 uv:∀i,i<d.u.length→gp (nth d.u i)=0
 gv:∀i,i<d.g.length→jz (nth d.g i)=0
 gr:1≤d.gr∧d.gr≤1073741824
theorem vj{d:Dm}(h:eZ d=0):Dv d:=by
 unfold eZ at h;split at h
 ·rename_i h1;exact absurd h h1
 split at h
 ·cases h
 split at h
 ·rename_i h1;exact absurd h h1
 split at h
 ·rename_i h1;exact absurd h h1
 split at h
 ·cases h
 rename_i h1 h2 h3 h4 h5;have h3:uE d.u=0:=Decidable.of_not_not h3;have h4:gE d.g=0:=Decidable.of_not_not h4;exact⟨Decidable.of_not_not h1,by omega,by omega,fun i hi=>rm h3 i (by omega) (by omega),fun i hi=>rm h4 i (by omega) (by omega),by omega⟩
theorem Wb{d:Dm}(h:gL d.r=0)(G:List aP):a8 F 191 [dm d] G=some (i64 (jL d),G) :=
 bV rfl rfl (by
  simp[wrap64,TY,GO (lh (qv h)),jL])
theorem Mz{d:Dm}(h:Dv d)(s:Ds)(G:List aP):a8 F 176 [dm d,dst s] G=some (.bool (decide (gC d s)),G) :=
 bV rfl rfl (by
  obtain⟨v,rel,su,sg⟩:=s;generalize hW:decide (gC d ⟨v,rel,su,sg⟩)=W;have no:¬ gC d ⟨v,rel,su,sg⟩→W=false:=fun hn=>by rw[←hW];simp[hn]
  unfold gC at no;simp only at no;have MA:=h.u;have hg8:=h.g;have hc:=Wb h.r;by_cases h1:0≤v∧v≤jL d
  ·have a1:(decide (0≤v)&&decide (v≤jL d))=true:=by simp;omega
   have a2:(!decide (0≤v) || !decide (v≤jL d))=false:=by simp;omega
   by_cases h2:0≤rel∧rel≤1073741824
   ·have b1:(decide (0≤rel)&&decide (rel≤1073741824))=true:=by simp;omega
    have b2:(!decide (0≤rel) || !decide (rel≤1073741824))=false:=by simp;omega
    by_cases h3:su.length=d.u.length
    ·have c1:(su.length:Int)=d.u.length:=by omega
     by_cases h4:sg.length=d.g.length
     ·have d1:(sg.length:Int)=d.g.length:=by omega
      simp (disch:=omega) [-getElem?_pos,wrap64,rj,hc,dj,a1,a2,b1,b2,c1,d1];refine go_loop (fun i:Nat=>aeR (jy d.u) d.u.length i d.row [i64 v,i64 rel,jg su,j8 sg] G) (fun i=>i≤d.u.length∧∀j,j<i→eJ (nth d.u j) (nth su j)) (fun i=>d.u.length-i) 0 rfl (by simp) ⟨by omega,by omega⟩ ?_
      rintro i ⟨hi,hv⟩;simp (disch:=omega) [-getElem?_pos,wrap64,TH];refine bK (fun h5=>?_) (fun h5=>?_)
      ·have h5:i<d.u.length:=by omega
       have wF:i<su.length:=by omega
       by_cases h6:eJ (nth d.u i) (nth su i)
       ·simp (disch:=omega) [-getElem?_pos,wrap64,bb (l:=d.u),bb (l:=su),xI,vb,h6]
        refine bL (i+1) (by simp) ⟨by omega,fun j hj=>?_⟩ (by omega)
        rcases Nat.lt_or_ge j i with h7|h7
        ·exact hv j h7
        ·rwa [show j=i by omega]
       ·simp (disch:=omega) [-getElem?_pos,wrap64,bb (l:=d.u),bb (l:=su),xI,vb,h6]
        exact no (fun h=>h6 (h.2.2.2.2.1 i h5))
      ·obtain rfl:i=d.u.length:=by omega
       refine go_loop (fun i:Nat=>aeT (jk d.g) d.g.length i [i64 v,i64 rel,jg su,j8 sg] G) (fun i=>i≤d.g.length∧∀j,j<i→ml (nth d.g j) (nth sg j)) (fun i=>d.g.length-i) 0 rfl (by simp) ⟨by omega,by omega⟩ ?_
       rintro i ⟨hi,hg⟩;simp (disch:=omega) [-getElem?_pos,wrap64,TI];refine bK (fun h5=>?_) (fun h5=>?_)
       ·have h5:i<d.g.length:=by omega
        have wF:i<sg.length:=by omega
        by_cases h6:ml (nth d.g i) (nth sg i)
        ·have hH:(!decide (0≤(nth sg i).o) || !decide ((nth sg i).o≤(nth d.g i).c5))=false:=by simp;exact h6
         simp (disch:=omega) [-getElem?_pos,wrap64,bb (l:=d.g),bb (l:=sg),dj,xS,h6,hH];refine bL (i+1) (by simp) ⟨by omega,fun j hj=>?_⟩ (by omega)
         rcases Nat.lt_or_ge j i with h7|h7
         ·exact hg j h7
         ·rwa [show j=i by omega]
        ·have hH:(!decide (0≤(nth sg i).o) || !decide ((nth sg i).o≤(nth d.g i).c5))=true:=by
          have:¬ (0≤(nth sg i).o∧(nth sg i).o≤(nth d.g i).c5):=h6;simp;omega
         simp (disch:=omega) [-getElem?_pos,wrap64,bb (l:=d.g),bb (l:=sg),dj,xS,h6,hH];exact no (fun h=>h6 (h.2.2.2.2.2 i h5))
       ·obtain rfl:i=d.g.length:=by omega
        rw[←hW];have:gC d ⟨v,rel,su,sg⟩:=⟨h1,h2,h3,h4,hv,hg⟩;simp[this]
     ·have d1:¬ (sg.length:Int)=d.g.length:=by omega
      simp (disch:=omega) [-getElem?_pos,wrap64,rj,hc,dj,a1,a2,b1,b2,c1,d1];exact no (fun h=>h4 h.2.2.2.1)
    ·have c1:¬ (su.length:Int)=d.u.length:=by omega
     simp (disch:=omega) [-getElem?_pos,wrap64,rj,hc,dj,a1,a2,b1,b2,c1];exact no (fun h=>h3 h.2.2.1)
   ·have b1:(decide (0≤rel)&&decide (rel≤1073741824))=false:=by simp;omega
    have b2:(!decide (0≤rel) || !decide (rel≤1073741824))=true:=by simp;omega
    by_cases c1:(su.length:Int)=d.u.length
    ·by_cases d1:(sg.length:Int)=d.g.length
     ·simp (disch:=omega) [-getElem?_pos,wrap64,rj,hc,dj,a1,a2,b1,b2,c1,d1]
      exact no (fun h=>h2 h.2.1)
     ·simp (disch:=omega) [-getElem?_pos,wrap64,rj,hc,dj,a1,a2,b1,b2,c1,d1]
      exact no (fun h=>h2 h.2.1)
    ·simp (disch:=omega) [-getElem?_pos,wrap64,rj,hc,dj,a1,a2,b1,b2,c1]
     exact no (fun h=>h2 h.2.1)
  ·have a1:(decide (0≤v)&&decide (v≤jL d))=false:=by simp;omega
   have a2:(!decide (0≤v) || !decide (v≤jL d))=true:=by simp;omega
   by_cases h2:0≤rel∧rel≤1073741824
   ·have b1:(decide (0≤rel)&&decide (rel≤1073741824))=true:=by simp;omega
    have b2:(!decide (0≤rel) || !decide (rel≤1073741824))=false:=by simp;omega
    by_cases c1:(su.length:Int)=d.u.length
    ·by_cases d1:(sg.length:Int)=d.g.length
     ·simp (disch:=omega) [-getElem?_pos,wrap64,rj,hc,dj,a1,a2,b1,b2,c1,d1]
      exact no (fun h=>h1 h.1)
     ·simp (disch:=omega) [-getElem?_pos,wrap64,rj,hc,dj,a1,a2,b1,b2,c1,d1]
      exact no (fun h=>h1 h.1)
    ·simp (disch:=omega) [-getElem?_pos,wrap64,rj,hc,dj,a1,a2,b1,b2,c1]
     exact no (fun h=>h1 h.1)
   ·have b1:(decide (0≤rel)&&decide (rel≤1073741824))=false:=by simp;omega
    have b2:(!decide (0≤rel) || !decide (rel≤1073741824))=true:=by simp;omega
    by_cases c1:(su.length:Int)=d.u.length
    ·by_cases d1:(sg.length:Int)=d.g.length
     ·simp (disch:=omega) [-getElem?_pos,wrap64,rj,hc,dj,a1,a2,b1,b2,c1,d1]
      exact no (fun h=>h1 h.1)
     ·simp (disch:=omega) [-getElem?_pos,wrap64,rj,hc,dj,a1,a2,b1,b2,c1,d1]
      exact no (fun h=>h1 h.1)
    ·simp (disch:=omega) [-getElem?_pos,wrap64,rj,hc,dj,a1,a2,b1,b2,c1]
     exact no (fun h=>h1 h.1))
theorem ahF{d:Dm}(hd:eZ d=0)(s:Ds)(G:List aP):a8 F 72 [dm d,dst s] G=some (.bool (decide (gC d s)),G):=by
  have h:=vj hd;exact bV rfl rfl (by
   obtain⟨v,rel,su,sg⟩:=s;generalize hW:decide (gC d ⟨v,rel,su,sg⟩)=W;have no:¬ gC d ⟨v,rel,su,sg⟩→W=false:=fun hn=>by rw[←hW];simp[hn]
   unfold gC at no;simp only at no;have MA:=h.u;have hg8:=h.g;have hc:=fun G=>zG d G;have hV:=fun G=>GP d.r d.r.t G;have qE:=My h.r;have te:gK d.r.c d.r.t=jL d:=rfl;by_cases h1:0≤v∧v≤jL d
   ·have a1:(decide (0≤v)&&decide (v≤jL d))=true:=by simp;omega
    have a2:(!decide (0≤v) || !decide (v≤jL d))=false:=by simp;omega
    by_cases h2:0≤rel∧rel≤1073741824
    ·have b1:(decide (0≤rel)&&decide (rel≤1073741824))=true:=by simp;omega
     have b2:(!decide (0≤rel) || !decide (rel≤1073741824))=false:=by simp;omega
     by_cases h3:su.length=d.u.length
     ·have c1:(su.length:Int)=d.u.length:=by omega
      by_cases h4:sg.length=d.g.length
      ·have d1:(sg.length:Int)=d.g.length:=by omega
       simp (disch:=omega) [-getElem?_pos,wrap64,qp,hc,hd,hV,qE,te,cN,a1,a2,b1,b2,c1,d1];refine go_loop (fun i:Nat=>adg (jy d.u) d.u.length i d.row [i64 v,i64 rel,jg su,j8 sg] G) (fun i=>i≤d.u.length∧∀j,j<i→eJ (nth d.u j) (nth su j)) (fun i=>d.u.length-i) 0 rfl (by simp) ⟨by omega,by omega⟩ ?_
       rintro i ⟨hi,hv⟩;simp (disch:=omega) [-getElem?_pos,wrap64,R7];refine bK (fun h5=>?_) (fun h5=>?_)
       ·have h5:i<d.u.length:=by omega
        have wF:i<su.length:=by omega
        by_cases h6:eJ (nth d.u i) (nth su i)
        ·simp (disch:=omega) [-getElem?_pos,wrap64,bb (l:=d.u),bb (l:=su),xI,vb,h6]
         refine bL (i+1) (by simp) ⟨by omega,fun j hj=>?_⟩ (by omega)
         rcases Nat.lt_or_ge j i with h7|h7
         ·exact hv j h7
         ·rwa [show j=i by omega]
        ·simp (disch:=omega) [-getElem?_pos,wrap64,bb (l:=d.u),bb (l:=su),xI,vb,h6]
         exact no (fun h=>h6 (h.2.2.2.2.1 i h5))
       ·obtain rfl:i=d.u.length:=by omega
        refine go_loop (fun i:Nat=>adl (jk d.g) d.g.length i [i64 v,i64 rel,jg su,j8 sg] G) (fun i=>i≤d.g.length∧∀j,j<i→ml (nth d.g j) (nth sg j)) (fun i=>d.g.length-i) 0 rfl (by simp) ⟨by omega,by omega⟩ ?_
        rintro i ⟨hi,hg⟩;simp (disch:=omega) [-getElem?_pos,wrap64,R8];refine bK (fun h5=>?_) (fun h5=>?_)
        ·have h5:i<d.g.length:=by omega
         have wF:i<sg.length:=by omega
         by_cases h6:ml (nth d.g i) (nth sg i)
         ·have hH:(!decide (0≤(nth sg i).o) || !decide ((nth sg i).o≤(nth d.g i).c5))=false:=by simp;exact h6
          simp (disch:=omega) [-getElem?_pos,wrap64,bb (l:=d.g),bb (l:=sg),dj,xS,h6,hH];refine bL (i+1) (by simp) ⟨by omega,fun j hj=>?_⟩ (by omega)
          rcases Nat.lt_or_ge j i with h7|h7
          ·exact hg j h7
          ·rwa [show j=i by omega]
         ·have hH:(!decide (0≤(nth sg i).o) || !decide ((nth sg i).o≤(nth d.g i).c5))=true:=by
           have:¬ (0≤(nth sg i).o∧(nth sg i).o≤(nth d.g i).c5):=h6;simp;omega
          simp (disch:=omega) [-getElem?_pos,wrap64,bb (l:=d.g),bb (l:=sg),dj,xS,h6,hH];exact no (fun h=>h6 (h.2.2.2.2.2 i h5))
        ·obtain rfl:i=d.g.length:=by omega
         rw[←hW];have:gC d ⟨v,rel,su,sg⟩:=⟨h1,h2,h3,h4,hv,hg⟩;simp[this]
      ·have d1:¬ (sg.length:Int)=d.g.length:=by omega
       simp (disch:=omega) [-getElem?_pos,wrap64,qp,hc,hd,hV,qE,te,cN,a1,a2,b1,b2,c1,d1];exact no (fun h=>h4 h.2.2.2.1)
     ·have c1:¬ (su.length:Int)=d.u.length:=by omega
      simp (disch:=omega) [-getElem?_pos,wrap64,qp,hc,hd,hV,qE,te,cN,a1,a2,b1,b2,c1];exact no (fun h=>h3 h.2.2.1)
    ·have b1:(decide (0≤rel)&&decide (rel≤1073741824))=false:=by simp;omega
     have b2:(!decide (0≤rel) || !decide (rel≤1073741824))=true:=by simp;omega
     by_cases c1:(su.length:Int)=d.u.length
     ·by_cases d1:(sg.length:Int)=d.g.length
      ·simp (disch:=omega) [-getElem?_pos,wrap64,qp,hc,hd,hV,qE,te,cN,a1,a2,b1,b2,c1,d1]
       exact no (fun h=>h2 h.2.1)
      ·simp (disch:=omega) [-getElem?_pos,wrap64,qp,hc,hd,hV,qE,te,cN,a1,a2,b1,b2,c1,d1]
       exact no (fun h=>h2 h.2.1)
     ·simp (disch:=omega) [-getElem?_pos,wrap64,qp,hc,hd,hV,qE,te,cN,a1,a2,b1,b2,c1]
      exact no (fun h=>h2 h.2.1)
   ·have a1:(decide (0≤v)&&decide (v≤jL d))=false:=by simp;omega
    have a2:(!decide (0≤v) || !decide (v≤jL d))=true:=by simp;omega
    by_cases h2:0≤rel∧rel≤1073741824
    ·have b1:(decide (0≤rel)&&decide (rel≤1073741824))=true:=by simp;omega
     have b2:(!decide (0≤rel) || !decide (rel≤1073741824))=false:=by simp;omega
     by_cases c1:(su.length:Int)=d.u.length
     ·by_cases d1:(sg.length:Int)=d.g.length
      ·simp (disch:=omega) [-getElem?_pos,wrap64,qp,hc,hd,hV,qE,te,cN,a1,a2,b1,b2,c1,d1]
       exact no (fun h=>h1 h.1)
      ·simp (disch:=omega) [-getElem?_pos,wrap64,qp,hc,hd,hV,qE,te,cN,a1,a2,b1,b2,c1,d1]
       exact no (fun h=>h1 h.1)
     ·simp (disch:=omega) [-getElem?_pos,wrap64,qp,hc,hd,hV,qE,te,cN,a1,a2,b1,b2,c1]
      exact no (fun h=>h1 h.1)
    ·have b1:(decide (0≤rel)&&decide (rel≤1073741824))=false:=by simp;omega
     have b2:(!decide (0≤rel) || !decide (rel≤1073741824))=true:=by simp;omega
     by_cases c1:(su.length:Int)=d.u.length
     ·by_cases d1:(sg.length:Int)=d.g.length
      ·simp (disch:=omega) [-getElem?_pos,wrap64,qp,hc,hd,hV,qE,te,cN,a1,a2,b1,b2,c1,d1]
       exact no (fun h=>h1 h.1)
      ·simp (disch:=omega) [-getElem?_pos,wrap64,qp,hc,hd,hV,qE,te,cN,a1,a2,b1,b2,c1,d1]
       exact no (fun h=>h1 h.1)
     ·simp (disch:=omega) [-getElem?_pos,wrap64,qp,hc,hd,hV,qE,te,cN,a1,a2,b1,b2,c1]
      exact no (fun h=>h1 h.1))
theorem MB(d:Dm)(s:Ds)(G:List aP):a8 F 72 [dm d,dst s] G=some (.bool (decide (eZ d=0∧gC d s)),G):=by
 by_cases hd:eZ d=0
 ·rw[show decide (eZ d=0∧gC d s)=decide (gC d s) by simp[hd]]
  exact ahF hd s G
 ·rw[show decide (eZ d=0∧gC d s)=false by simp[hd]]
  have hC:=fun G=>zG d G;generalize eZ d=x at hd hC;obtain⟨v,rel,su,sg⟩:=s;exact bV rfl rfl (by
   simp[wrap64,qp,hC,hd])
theorem Wc(d:Dm)(s:Ds)(G:List aP):a8 F 137 [dm d,dst s] G=some (.bool (decide (eZ d=0∧gC d s)),G) :=
 bV rfl rfl (by
  by_cases hd:eZ d=0
  ·simp[wrap64,K5,zF,hd,Mz (vj hd)]
  ·simp[wrap64,K5,zF,hd])
theorem Wd(d:Dm)(s:Ds)(G:List aP):a8 F 195 [dm d,dst s] G=some (i64 (dE d s),G) :=
 bV rfl rfl (by
  by_cases hd:eZ d=0
  ·by_cases hf:gC d s
   ·simp[wrap64,GB,zF,hd,Mz (vj hd),hf,dE]
   ·simp[wrap64,GB,zF,hd,Mz (vj hd),hf,dE]
  ·simp[wrap64,GB,zF,hd,dE])
theorem We(d:Dm)(s:Ds)(G:List aP):a8 F 116 [dm d,dst s] G=some (i64 (dE d s),G) :=
 bV rfl rfl (by
  by_cases hd:eZ d=0
  ·by_cases hf:gC d s
   ·simp[wrap64,Gm,zG,hd,MB,hf,dE]
   ·simp[wrap64,Gm,zG,hd,MB,hf,dE]
  ·simp[wrap64,Gm,zG,hd,dE])
theorem D7{d:Dm}{s:Ds}(h:dE d s=0):Dv d∧gC d s:=by
 unfold dE at h;split at h
 ·rename_i h1;exact absurd h h1
 split at h
 ·rename_i h1 h2;exact⟨vj (Decidable.of_not_not h1),h2⟩
 ·cases h
noncomputable def lvl(d:Dm)(s:Ds):Int:=if dE d s=0 then g5 d.r s.v else 0
theorem MC(d:Dm)(s:Ds)(G:List aP):a8 F 183 [dm d,dst s] G=some (.tuple [i64 (lvl d s),i64 (dE d s)],G) :=
 bV rfl rfl (by
  by_cases hd:dE d s=0
  ·simp[wrap64,Ll,Wd,hd,age (D7 hd).1.r,lvl]
  ·simp[wrap64,Ll,Wd,hd,lvl])
theorem ahG{u:Un}{s:Us}(hv:eJ u s)(q:Int):qy u s q=if jf u s q then 0 else 15:=by
 unfold qy;rw[if_neg (fun h=>h hv.1),if_neg (fun h=>h hv)];by_cases h:jf u s q
 ·rw[if_pos h,if_neg (fun g=>g h)]
 ·rw[if_neg h,if_pos h]
theorem Wf{u:Un}{s:Us}(hv:eJ u s)(q:Int)(G:List aP):a8 F 207 [un u,us s,i64 q] G =
  some (.tuple (if jf u s q then [us (qz s q),.bool (decide (s.bZ=0)&&decide (0<q)),i64 0] else [us ⟨0,0,false⟩,.bool false,i64 15]),G) :=
 bV rfl rfl (by
  have hc:=hv.1;have h1:=hv.2.1;have hf:0≤s.bZ:=by
   rcases hv.2.2 with h | ⟨_,h⟩
   ·omega
   ·have:=GR hc h;omega
  have zp:min (s.since+1) 1000=min 1000 (s.since+1):=by omega
  by_cases hm:jf u s q
  ·simp +contextual (disch:=omega) [wrap64,Ls,qx,LN hc,LO hv,hc,hv,hm]
   refine gm (fun h=>?_) (fun h=>?_)
   ·have h':¬ (decide (0<s.bZ)=decide (0<q)):=fun e=>by rw[e]at h;simp at h
    unfold qz;rw[if_neg h'];exact⟨⟨rfl,rfl,rfl⟩,Bool.and_comm _ _⟩
   ·have h':decide (0<s.bZ)=decide (0<q):=by
     cases h1:decide (0<s.bZ)<;>cases h2:decide (0<q)<;>rw[h1,h2]at h<;>first|rfl|cases h
    unfold qz;rw[if_pos h'];exact⟨⟨rfl,zp,rfl⟩,Bool.and_comm _ _⟩
  ·simp +contextual (disch:=omega) [wrap64,Ls,qx,LN hc,LO hv,hc,hv,hm])
structure Dr where
 inf:Int
 los:Int
 tur:Int
 spi:Int
 ovr:Int
 pow:Int
 lr:Int
 deriving Inhabited
abbrev Dr.row(r:Dr):List V:=[i64 r.inf,i64 r.los,i64 r.tur,i64 r.spi,i64 r.ovr,i64 r.pow,i64 r.lr]
abbrev dr(r:Dr):V:=.agg r.row
abbrev wk(d:Dm)(s:Ds)(nv nr:Int)(nu:List Us)(ng:V)(r:Dr)(rel left lv:Int):aP:=.cells
 [gQ d.r.c,i64 d.r.d,i64 d.r.l,i64 d.r.f,i64 d.r.s,i64 d.r.t,jy d.u,jk d.g,i64 d.gr,i64 s.v,i64 s.rel,jg s.u,j8 s.g,
  i64 nv,i64 nr,.eY 3 (nu.map Us.row),ng,i64 r.inf,i64 r.los,i64 r.tur,i64 r.spi,i64 r.ovr,i64 r.pow,i64 r.lr,i64 rel,i64 left,i64 lv]
def jl(d:Dm)(left:Int):Int:=max (left-By d) 0
theorem MD{r:Rs}(h:gL r=0)(l:Int):0≤gK r.c l∧gK r.c l≤1099511627776:=by
 have hc:=lh (qv h);have h1:=Bf hc l;have hp:=rn (qv h);have h2:=hc.y0 0 hp;have h3:=hc.y0 (r.c.length-1) (by omega)
 omega
theorem Hl{d:Dm}(h:gL d.r=0):0≤By d∧By d≤1099511627776:=MD h _
theorem Hm{d:Dm}(h:gL d.r=0):0≤jL d∧jL d≤1099511627776:=MD h _
theorem ME{d:Dm}(h:gL d.r=0){s:Ds}{nv nr:Int}{nu:List Us}{ng:V}{r:Dr}{rel left lv:Int}(hl:0≤left∧left≤4611686018427387904) :
  a8 F 205 [.bB 0 0] [wk d s nv nr nu ng r rel left lv]=some (i64 (jl d left),[wk d s nv nr nu ng r rel left lv]) :=
 bV rfl rfl (by
  generalize hW:jl d left=W;have hD:gK d.r.c d.r.d=By d:=rfl;have h0:=Hl h;simp (disch:=omega) [wrap64,Ue,GO (lh (qv h)),hD];exact hW)
theorem Hn{g:Int}:∀{us:List Un} {ss:List Us} {F:List Int},lp g us ss F→∀i,i<us.length→nth F i∈oU (nth us i) (nth ss i) g
 |[],[],[],_=>fun i hi=>by simp at hi
 |u::us,s::ss,q::F,h=>fun i hi=>by
  cases i with
  |zero=>exact h.1
  |succ i=>exact Hn h.2 i (by simpa using hi)
 |[],_::_,_,h=>h.elim
 |[],[],_::_,h=>h.elim
 |_::_,[],_,h=>h.elim
 |_::_,_::_,[],h=>h.elim
theorem D9{us:List Un}{ss:List Us}{g release:Int}(h:jA us ss g release=0):lp g us ss (gB us ss g release)∧(gB us ss g release).sum≤release:=by
 unfold jA at h;split at h
 ·rename_i h1;exact absurd h h1
 split at h
 ·cases h
 rename_i h1 h2;have h1:=Decidable.of_not_not h1;obtain⟨h3,h4,_⟩:=Ma h1;have hb:=Vx h3 h4.1;unfold gB;rw[if_neg (fun g=>g h1)];cases hr:lN (iw us ss g) release with
 |none=>exact absurd hr h2
 |some E =>
  rw[hr]at hb;exact⟨hb.lp,hb.sum⟩
noncomputable def fY(d:Dm)(s:Ds)(m:Int)(i:Nat):Int:=if jA d.u s.u d.gr m=0 then nth (gB d.u s.u d.gr m) i else 0
theorem ahH{d:Dm}{s:Ds}{m:Int}{i:Nat}(hi:i<d.u.length):fY d s m i=0∨iY (nth d.u i) (nth s.u i) (fY d s m i):=by
 unfold fY;split
 ·rename_i h
  exact .inr (Bo.1 (Hn (D9 h).1 i hi)).2
 ·exact .inl rfl
theorem MF{d:Dm}{s:Ds}{m:Int}{i:Nat}(hi:i<d.u.length):0≤fY d s m i∧fY d s m i≤1073741824:=by
 rcases ahH (s:=s) (m:=m) hi with h|h
 ·omega
 ·exact GW h
noncomputable def pT(u:Un)(s:Us)(q:Int):Us:=if jf u s q then qz s q else ⟨0,1,s.out⟩
def bU(f:Nat→Int):Nat→Int
 |0=>0
 |i+1=>bU f i+f i
theorem Ho{f:Nat→Int}{n:Nat}(h:∀i,i<n→0≤f i∧f i≤1073741824):∀i,i≤n→0≤bU f i∧bU f i≤1073741824*i:=by
 intro i;induction i with
 |zero=>intro _;simp[bU]
 |succ i ih=>intro hi;have:=ih (by omega);have:=h i (by omega);simp only[bU];omega
noncomputable def oX(d:Dm)(s:Ds)(m:Int)(i:Nat):Int:=pow (nth d.u i) (fY d s m i)
noncomputable def lr(d:Dm)(s:Ds)(m:Int)(i:Nat):Int:=gS (nth s.u i) (fY d s m i)
noncomputable def nx(d:Dm)(s:Ds)(m:Int)(n:Nat):List Us:=(List.range n).map fun i=>pT (nth d.u i) (nth s.u i) (fY d s m i)
theorem Hp{d:Dm}{s:Ds}{m:Int}{n:Nat}:(nx d s m n).length=n:=by simp[nx]
theorem zH{d:Dm}{s:Ds}{m:Int}{n:Nat}:nx d s m (n+1)=nx d s m n++[pT (nth d.u n) (nth s.u n) (fY d s m n)]:=by simp[nx,List.range_succ]
def ka(d:Dm)(rel left:Int):Int:=min (min rel (jl d left)) (200*d.gr)
set_option maxHeartbeats 1000000 in
theorem ahI{d:Dm}(h:Dv d){s:Ds}(hs:gC d s){nv nr inf los spi ovr rel left lv:Int}{ng:V}(hl:0≤left∧left≤4611686018427387904)(hr:0≤rel∧rel≤1073741824) :
  a8 F 199 [.bB 0 0] [wk d s nv nr [] ng ⟨inf,los,0,spi,ovr,0,0⟩ rel left lv] =
   some (.tuple [],[wk d s nv nr (nx d s (ka d rel left) d.u.length) ng ⟨inf,los,bU (fY d s (ka d rel left)) d.u.length,spi,ovr,bU (oX d s (ka d rel left)) d.u.length,bU (lr d s (ka d rel left)) d.u.length⟩ rel left lv]) :=
 bV rfl rfl (by
  obtain⟨G',hb⟩:=agA d.u s.u d.gr (ka d rel left);have hgr:=h.gr;have GU:min (min rel (jl d left)) (200*d.gr)=ka d rel left:=rfl;have MA:=h.u;have xi:=hs.2.2.1;have um:jA d.u s.u d.gr (ka d rel left)=0→(gB d.u s.u d.gr (ka d rel left)).length=d.u.length:=fun he=>(zy (D9 he).1).1;generalize hM:ka d rel left=M at hb GU um;simp (disch:=omega) [wrap64,T6,ME h.r,GU,hb];refine go_loop (fun i:Nat=>afc (.bB 0 0) (.slice none 1 ((gB d.u s.u d.gr M).map fun n=>[i64 n])) (jA d.u s.u d.gr M) (jy d.u) d.u.length i
   [wk d s nv nr (nx d s M i) ng ⟨inf,los,bU (fY d s M) i,spi,ovr,bU (oX d s M) i,bU (lr d s M) i⟩ rel left lv])
   (fun i=>i≤d.u.length) (fun i=>d.u.length-i) 0 rfl (by simp[nx,bU]) (by omega) ?_
  intro i hi;have qo:=Hp (d:=d) (s:=s) (m:=M) (n:=i);have s1:=Ho (f:=fY d s M) (n:=d.u.length) (fun i hi=>MF hi) i hi;have s2:=Ho (f:=oX d s M) (n:=d.u.length) (fun i hi=>GX) i hi;have s3:=Ho (f:=lr d s M) (n:=d.u.length) (fun i hi=>by have:=L4 (s:=nth s.u i) (q:=fY d s M i);unfold lr;omega) i hi
  simp (disch:=omega) [wrap64,T5];refine bK (fun h5=>?_) (fun h5=>?_)
  ·have h5:i<d.u.length:=by omega
   have wF:i<s.u.length:=by omega
   have hv:eJ (nth d.u i) (nth s.u i):=hs.2.2.2.2.1 i h5;have Cb:=GX (u:=nth d.u i) (q:=fY d s M i);have qj:=MF (s:=s) (m:=M) h5;by_cases he:jA d.u s.u d.gr M=0
   ·have um:=um he
    have jd:nth (gB d.u s.u d.gr M) i=fY d s M i:=by simp[fY,he]
    have hm:jf (nth d.u i) (nth s.u i) (fY d s M i):=by
     have:=Bo.1 (Hn (D9 he).1 i h5);rw[jd]at this;exact this.2.2
    have hN:=Wf hv (fY d s M i) [];rw[if_pos hm]at hN;have hP:=DI (nth d.u i) (fY d s M i) [];generalize hq:fY d s M i=q at *;generalize hp:pow (nth d.u i) q=p at *;simp (config:={ maxSteps:=2000000 }) +contextual (disch:=omega) [-getElem?_pos,-List.length_eq_zero_iff,-Int.natCast_eq_zero,wrap64,bb (l:=d.u),bb (l:=s.u),dD (l:=gB d.u s.u d.gr M),he,jd,hN,hP,qo];have hx:pT (nth d.u i) (nth s.u i) q=qz (nth s.u i) q:=by simp[pT,hm]
    refine gm (fun h6=>?_) (fun h6=>?_)
    ·have hH:lr d s M i=1:=by
      simp at h6;simp[lr,gS,hq,h6]
     refine bL (i+1) (by simp[zH,bU,oX,hq,hp,hH,hx]) (by omega) (by omega)
    ·have hH:lr d s M i=0:=by
      have h7:¬ (0<q∧(nth s.u i).bZ=0):=fun h=>by rw[decide_eq_true h.1,decide_eq_true h.2]at h6;cases h6
      simp only[lr,gS,hq,if_neg h7]
     refine bL (i+1) (by simp[zH,bU,oX,hq,hp,hH,hx]) (by omega) (by omega)
   ·have hq:fY d s M i=0:=by simp[fY,he]
    have hp:pow (nth d.u i) 0=0:=by simp[pow]
    have hH:lr d s M i=0:=by simp[lr,gS,hq]
    have hN:=Wf hv 0 [];have hP:=DI (nth d.u i) 0 [];rw[hp]at hP;by_cases hm:jf (nth d.u i) (nth s.u i) 0
    ·rw[if_pos hm]at hN
     have hx:pT (nth d.u i) (nth s.u i) 0=qz (nth s.u i) 0:=by simp[pT,hm]
     simp only[Int.lt_irrefl,decide_false,Bool.and_false]at hN;simp (config:={ maxSteps:=2000000 }) +contextual (disch:=omega) [-getElem?_pos,-List.length_eq_zero_iff,-Int.natCast_eq_zero,wrap64,bb (l:=d.u),bb (l:=s.u),he,hN,hP,qo];refine bL (i+1) (by simp[zH,bU,oX,hq,hp,hH,hx]) (by omega) (by omega)
    ·rw[if_neg hm]at hN
     have hx:pT (nth d.u i) (nth s.u i) 0=⟨0,1,(nth s.u i).out⟩:=by simp[pT,hm]
     simp (config:={ maxSteps:=2000000 }) +contextual (disch:=omega) [-getElem?_pos,-List.length_eq_zero_iff,-Int.natCast_eq_zero,wrap64,bb (l:=d.u),bb (l:=s.u),he,hN,hP,qo];refine bL (i+1) (by simp[zH,bU,oX,hq,hp,hH,hx]) (by omega) (by omega)
  ·obtain rfl:i=d.u.length:=by omega
   simp)
theorem Hq(g:List Gt)(s:List Gs)(lv w:Int):0≤mM g s lv w∧mM g s lv w≤17179869184:=by
 unfold mM;split
 ·rename_i h
  unfold j9 at h;split at h
  ·rename_i h1;exact absurd h h1
  ·rename_i h1
   obtain⟨h1,h2,h3,h4,h5⟩:=DX (Decidable.of_not_not h1);have:=VX (lv:=lv) (w:=w) h2 h1 h3 h4 (i:=g.length) (Nat.le_refl _);omega
 ·omega
def mo(d:Dm)(rel left t:Int):Int:=min rel (jl d left)-t
noncomputable def Ea(d:Dm)(s:Ds)(rel left lv t:Int):Int:=min (mM d.g s.g lv (mo d rel left t)) (jl d left-t)
theorem ahK{d:Dm}(h:Dv d){s:Ds}{nv nr inf los tur spi ovr pw st rel left lv:Int}{nu:List Us}{ng:V}(hl:0≤left∧left≤4611686018427387904)(hr:0≤rel∧rel≤1073741824)(ht:0≤tur∧tur≤1099511627776) :
  a8 F 198 [.bB 0 0] [wk d s nv nr nu ng ⟨inf,los,tur,spi,ovr,pw,st⟩ rel left lv] =
   some (.tuple [],[wk d s nv nr nu (.slice none 2 ((np d.g s.g lv (mo d rel left tur)).map Gs.row)) ⟨inf,los,tur,Ea d s rel left lv tur,ovr,pw,st⟩ rel left lv]) :=
 bV rfl rfl (by
  obtain⟨G',hb⟩:=ahr d.g s.g lv (mo d rel left tur);have hF:=Hq d.g s.g lv (mo d rel left tur);have hf:0≤jl d left∧jl d left≤4611686018427387904:=by
   have:=Hl h.r;unfold jl;omega
  have hW:min rel (jl d left)-tur=mo d rel left tur:=rfl;have hS:min (mM d.g s.g lv (mo d rel left tur)) (jl d left-tur)=Ea d s rel left lv tur:=rfl;have vZ:=ME h.r (s:=s) (nv:=nv) (nr:=nr) (nu:=nu) (ng:=.slice none 2 ((np d.g s.g lv (mo d rel left tur)).map Gs.row)) (r:=⟨inf,los,tur,spi,ovr,pw,st⟩) (rel:=rel) (left:=left) (lv:=lv) hl;generalize Ea d s rel left lv tur=S at hS;generalize mo d rel left tur=W at hS hF hb hW vZ;simp (disch:=omega) [wrap64,T4,ME h.r,hW,hb,hS,vZ])
theorem ahL{d:Dm}(h:Dv d){s:Ds}{nv nr inf los tur spi ovr pw st rel left lv:Int}{nu:List Us}{ng:V}(hl:0≤left∧left≤4611686018427387904)(ht:0≤tur∧tur≤1099511627776)(gx:-1099511627776≤spi∧spi≤1099511627776) :
  a8 F 197 [.bB 0 0] [wk d s nv nr nu ng ⟨inf,los,tur,spi,ovr,pw,st⟩ rel left lv] =
   some (.tuple [],[wk d s (left-(tur+spi)-max (left-(tur+spi)-jL d) 0) (min (tur+spi) 1073741824) nu ng ⟨inf,los,tur,spi,max (left-(tur+spi)-jL d) 0,pw,st⟩ rel (left-(tur+spi)) lv]) :=
 bV rfl rfl (by
  have hC:=Hm h.r;simp (disch:=omega) [wrap64,T3,Wb h.r])
noncomputable def ea(s:Ds)(inf los:Int):Int:=s.v+inf-min los (s.v+inf)
noncomputable def fq(d:Dm)(s:Ds)(inf los rel:Int):Int:=bU (fY d s (ka d rel (ea s inf los))) d.u.length
noncomputable def kJ(d:Dm)(s:Ds)(inf los rel:Int):Int:=Ea d s rel (ea s inf los) (g5 d.r s.v) (fq d s inf los rel)
noncomputable def qF(d:Dm)(s:Ds)(inf los rel:Int):Int:=max (ea s inf los-(fq d s inf los rel+kJ d s inf los rel)-jL d) 0
noncomputable def gU(d:Dm)(s:Ds)(inf los rel:Int):Dr:=⟨inf,min los (s.v+inf),fq d s inf los rel,kJ d s inf los rel,qF d s inf los rel,bU (oX d s (ka d rel (ea s inf los))) d.u.length,bU (lr d s (ka d rel (ea s inf los))) d.u.length⟩
noncomputable def jM(d:Dm)(s:Ds)(inf los rel:Int):Ds:=⟨ea s inf los-(fq d s inf los rel+kJ d s inf los rel)-qF d s inf los rel,min (fq d s inf los rel+kJ d s inf los rel) 1073741824,
 nx d s (ka d rel (ea s inf los)) d.u.length,np d.g s.g (g5 d.r s.v) (mo d rel (ea s inf los) (fq d s inf los rel))⟩
theorem Wg{d:Dm}(h:Dv d){s:Ds}{inf los rel:Int}:0≤fq d s inf los rel∧fq d s inf los rel≤6442450944:=by
 have h1:=Ho (f:=fY d s (ka d rel (ea s inf los))) (n:=d.u.length) (fun i hi=>MF hi) d.u.length (Nat.le_refl _);have h2:=h.u;unfold fq;omega
theorem MG{C:bm}{args:List V}{f:FuncId}{fs:List FuncId}{G G':List aP}{r:V}{o:Option (List aP)}(h1:C f args G=some (r,G'))(h2:nY C args fs G'=o):nY C args (f::fs) G=o:=by
 simp only[nY,h1,h2]
abbrev Wh(d:Dm)(s:Ds)(inf los rel lv:Int):aP:=.cells
 [gQ d.r.c,i64 d.r.d,i64 d.r.l,i64 d.r.f,i64 d.r.s,i64 d.r.t,jy d.u,jk d.g,i64 d.gr,i64 s.v,i64 s.rel,jg s.u,j8 s.g,
  i64 0,i64 0,.eY 3 [],.eY 2 [],i64 inf,i64 los,i64 0,i64 0,i64 0,i64 0,i64 0,i64 rel,i64 0,i64 lv]
theorem ahM{d:Dm}(h:Dv d){s:Ds}(hs:gC d s){inf los rel:Int}(hi:0≤inf∧inf≤1073741824)(hl:0≤los∧los≤1073741824)(hr:0≤rel∧rel≤1073741824) :
  ∃lf,a8 F 185 [.bB 0 0] [Wh d s inf los rel (g5 d.r s.v)] =
   some (.tuple [],[wk d s (jM d s inf los rel).v (jM d s inf los rel).rel (jM d s inf los rel).u (.slice none 2 ((jM d s inf los rel).g.map Gs.row)) (gU d s inf los rel) rel lf (g5 d.r s.v)]):=by
 suffices hh:∀Q:V→List aP→Prop,(∀lf,Q (.tuple []) [wk d s (jM d s inf los rel).v (jM d s inf los rel).rel (jM d s inf los rel).u (.slice none 2 ((jM d s inf los rel).g.map Gs.row)) (gU d s inf los rel) rel lf (g5 d.r s.v)])→gY (a8 F) 185 [.bB 0 0] [Wh d s inf los rel (g5 d.r s.v)] Q by
  obtain⟨_,G',h,lf,rfl,rfl⟩:=hh (fun v G'=>∃lf,v=.tuple []∧G'=[wk d s (jM d s inf los rel).v (jM d s inf los rel).rel (jM d s inf los rel).u (.slice none 2 ((jM d s inf los rel).g.map Gs.row)) (gU d s inf los rel) rel lf (g5 d.r s.v)]) fun lf=>⟨lf,rfl,rfl⟩;exact⟨lf,h⟩
 intro Q hQ;refine aaN rfl rfl ?_;have hv:=hs.1;have hC:=Hm h.r;simp (disch:=omega) [wrap64,TR];have hL:0≤ea s inf los∧ea s inf los≤4611686018427387904:=by unfold ea;omega
 have hT:=Wg h (s:=s) (inf:=inf) (los:=los) (rel:=rel);have hP:-1099511627776≤kJ d s inf los rel∧kJ d s inf los rel≤1099511627776:=by
  have h1:=Hq d.g s.g (g5 d.r s.v) (mo d rel (ea s inf los) (fq d s inf los rel));have h2:0≤jl d (ea s inf los):=by unfold jl;omega
  unfold kJ Ea;omega
 have h1:=ahI h hs (nv:=0) (nr:=0) (inf:=inf) (los:=min los (s.v+inf)) (spi:=0) (ovr:=0) (rel:=rel) (left:=ea s inf los) (lv:=g5 d.r s.v) (ng:=.eY 2 []) hL hr;have h2:=ahK h (s:=s) (nv:=0) (nr:=0) (nu:=nx d s (ka d rel (ea s inf los)) d.u.length) (ng:=.eY 2 []) (inf:=inf) (los:=min los (s.v+inf)) (tur:=fq d s inf los rel) (spi:=0) (ovr:=0)
  (pw:=bU (oX d s (ka d rel (ea s inf los))) d.u.length) (st:=bU (lr d s (ka d rel (ea s inf los))) d.u.length) (rel:=rel) (left:=ea s inf los) (lv:=g5 d.r s.v) hL hr (by omega)
 have h3:=ahL h (s:=s) (nv:=0) (nr:=0) (nu:=nx d s (ka d rel (ea s inf los)) d.u.length) (ng:=.slice none 2 ((np d.g s.g (g5 d.r s.v) (mo d rel (ea s inf los) (fq d s inf los rel))).map Gs.row)) (inf:=inf) (los:=min los (s.v+inf)) (tur:=fq d s inf los rel) (spi:=kJ d s inf los rel) (ovr:=0)
  (pw:=bU (oX d s (ka d rel (ea s inf los))) d.u.length) (st:=bU (lr d s (ka d rel (ea s inf los))) d.u.length) (rel:=rel) (left:=ea s inf los) (lv:=g5 d.r s.v) hL (by omega) hP
 exact⟨_,MG h1 (MG h2 (MG h3 rfl)),hQ _⟩
theorem ahN(n:Int)(G:List aP):a8 F 184 [i64 n] G=some (.bool (!decide (0≤n∧n≤1073741824)),G) :=
 bV rfl rfl (by
  simp[wrap64,TQ,dj])
theorem ahO(l:List Int)(hl:l.length≤1000)(p:Int→Bool)(f:FuncId)(G:List aP)(h:∀n,a8 F f [i64 n] G=some (.bool (p n),G)) :
  ∃k:Int,(decide (0≤k)=l.any p)∧a8 F 145 [ints l,.fn f []] G=some (i64 k,G):=by
 suffices hh:∀Q:V→List aP→Prop,(∀k:Int,decide (0≤k)=l.any p→Q (i64 k) G)→gY (a8 F) 145 [ints l,.fn f []] G Q by
  obtain⟨_,G',h,k,h1,rfl,rfl⟩:=hh (fun v G'=>∃k:Int,decide (0≤k)=l.any p∧v=i64 k∧G'=G) fun k hk=>⟨k,hk,rfl,rfl⟩;exact⟨k,h1,h⟩
 intro Q hQ;refine iu rfl rfl ?_;simp (disch:=omega) [-getElem?_pos,wrap64,Tb];refine go_loop (fun i:Nat=>ael (ints l) (.fn f []) l.length i G) (fun i=>i≤l.length∧∀x∈l.take i,p x=false) (fun i=>l.length-i) 0 rfl (by simp) ⟨by omega,by simp⟩ ?_
 rintro i ⟨hi,hp⟩;simp (disch:=omega) [-getElem?_pos,wrap64,Ta];refine bK (fun h5=>?_) (fun h5=>?_)
 ·have h5:i<l.length:=by omega
  simp (disch:=omega) [-getElem?_pos,wrap64,dD (l:=l),h];refine gm (fun h6=>?_) (fun h6=>?_)
  ·refine hQ _ ?_
   rw[decide_eq_true (by omega)]
   exact(List.any_eq_true.2 ⟨_,pR h5,h6⟩).symm
  ·refine bL (i+1) (by simp) ⟨by omega,?_⟩ (by omega)
   intro x hx;rw[ji h5]at hx;rcases List.mem_append.1 hx with hx|hx
   ·exact hp x hx
   ·rw[List.mem_singleton.1 hx];exact h6
 ·obtain rfl:i=l.length:=by omega
  refine hQ _ ?_;rw[List.take_length]at hp;rw[show l.any p=false from List.any_eq_false.2 fun x hx=>by rw[hp x hx];simp]
  rfl
theorem Wi(l:List Int)(hl:l.length≤1000)(p:Int→Bool)(f:FuncId)(G:List aP)(h:∀n,a8 F f [i64 n] G=some (.bool (p n),G)) :
  a8 F 88 [ints l,.fn f []] G=some (.bool (l.any p),G) :=
 bV rfl rfl (by
  obtain⟨k,h1,h2⟩:=ahO l hl p f G h;simp[wrap64,Sf,h2];exact h1)
def vk(n:Int):Bool:=!decide (0≤n∧n≤1073741824)
noncomputable def mq(d:Dm)(s:Ds)(inf los rel:Int):Int:=if dE d s≠0 then dE d s else if [inf,los,rel].any vk then 1 else 0
noncomputable def qG(d:Dm)(s:Ds)(inf los rel:Int):V:=.tuple (if mq d s inf los rel=0 then [dst (jM d s inf los rel),dr (gU d s inf los rel),i64 0] else [.agg [i64 0,i64 0,.slice (some 0) 3 [],.slice (some 0) 2 []],dr ⟨0,0,0,0,0,0,0⟩,i64 (mq d s inf los rel)])
theorem ahP(d:Dm)(s:Ds)(inf los rel:Int):∃G',a8 F 159 [dm d,dst s,i64 inf,i64 los,i64 rel] []=some (qG d s inf los rel,G'):=by
 suffices h:∀Q:V→List aP→Prop,(∀G',Q (qG d s inf los rel) G')→gY (a8 F) 159 [dm d,dst s,i64 inf,i64 los,i64 rel] [] Q by
  obtain⟨_,G',h,rfl⟩:=h (fun v G'=>v=qG d s inf los rel) fun _=>rfl;exact⟨G',h⟩
 intro Q hQ;refine iu rfl rfl ?_;have hc:a8 F 88 [.slice none 1 [[i64 inf],[i64 los],[i64 rel]],.fn 184 []] []=some (.bool ([inf,los,rel].any vk),[]) :=
  Wi [inf,los,rel] (by simp) vk 184 [] (fun n=>ahN n [])
 unfold qG mq at hQ;generalize hx:[inf,los,rel].any vk=x at hc hQ;by_cases hd:dE d s=0
 ·obtain⟨oY,AP⟩:=D7 hd
  have uJ:lvl d s=g5 d.r s.v:=by simp[lvl,hd]
  simp only[hd,ne_eq,not_true_eq_false,if_false]at hQ;cases x with
  |true =>
   simp only[if_true,if_neg (show ¬ (1:Int)=0 by omega)]at hQ
   simp[wrap64,Gx,MC,hd,uJ,hc];exact hQ _
  |false =>
   simp only[vk,List.any_cons,List.any_nil,Bool.or_false,Bool.or_eq_false_iff,Bool.not_eq_false',decide_eq_true_eq]at hx;obtain⟨lf,hr⟩:=ahM oY AP hx.1 hx.2.1 hx.2.2;simp[wrap64,Gx,MC,hd,uJ,hc,hr];exact hQ _
 ·simp only[hd,ne_eq,not_false_eq_true,if_true,if_false]at hQ
  simp[wrap64,Gx,MC,hd];exact hQ _
end Go.Proofs.YtmpikpodpgnjhaaGreat
namespace Go.Proofs.YtmpikpodpgnjhaaGreat
set_option linter.all false
open Go.Vm
end Go.Proofs.YtmpikpodpgnjhaaGreat
namespace Go.Proofs.YtmpikpodpgnjhaaGreat
set_option linter.all false
open Go.Vm
theorem Eb{c:List Pt}(h:Cv c):∀{i j:Nat},i≤j→j<c.length→(nth c i).x≤(nth c j).x:=by
 intro i j;induction j with
 |zero=>intro h1 _;obtain rfl:i=0:=by omega
        omega
 |succ j ih =>
  intro h1 h2;rcases Nat.lt_or_ge i (j+1) with h3|h3
  ·have:=ih (by omega) (by omega)
   have:=h.up (j+1) (by omega) h2
   simp only[Nat.add_sub_cancel]at this;omega
  ·obtain rfl:i=j+1:=by omega
   omega
theorem Wj{c:List Pt}(h:Cv c){y:Int}{i:Nat}(hi:i+1<c.length)(h1:(nth c i).y≤y)(h2:y<(nth c (i+1)).y):(nth c i).x≤zn c y i∧zn c y i≤(nth c (i+1)).x:=by
 have u1:=h.up (i+1) (by omega) hi
 simp only[Nat.add_sub_cancel]at u1;have a1:(y-(nth c i).y+1)*((nth c (i+1)).x-(nth c i).x)≤((nth c (i+1)).y-(nth c i).y)*((nth c (i+1)).x-(nth c i).x):=Int.mul_le_mul_of_nonneg_right (by omega) (by omega)
 have a2:0<(y-(nth c i).y+1)*((nth c (i+1)).x-(nth c i).x):=Int.mul_pos (by omega) (by omega)
 unfold zn;rw[Int.tdiv_eq_ediv_of_nonneg (by omega)]
 have b1:0≤((y-(nth c i).y+1)*((nth c (i+1)).x-(nth c i).x)-1) / ((nth c (i+1)).y-(nth c i).y):=Int.ediv_nonneg (by omega) (by omega)
 have b2:((y-(nth c i).y+1)*((nth c (i+1)).x-(nth c i).x)-1) / ((nth c (i+1)).y-(nth c i).y)≤(nth c (i+1)).x-(nth c i).x:=by
  refine Int.le_trans (Int.ediv_le_ediv (by omega) (show _≤((nth c (i+1)).x-(nth c i).x)*((nth c (i+1)).y-(nth c i).y) by rw[Int.mul_comm ((nth c (i+1)).x-(nth c i).x)];omega)) ?_
  rw[Int.mul_ediv_cancel _ (by omega)]
  exact Int.le_refl _
 omega
theorem MH{c:List Pt}(h:Cv c){y:Int}:∀(m i:Nat),i+m=c.length-1→(nth c i).y≤y→(nth c 0).x≤pM c y m i∧pM c y m i≤(nth c (c.length-1)).x
 |0,i,hi,_=>by
  have hp:=h.pos;have:=Eb h (i:=0) (j:=c.length-1) (by omega) (by omega)
  unfold pM;omega
 |m+1,i,hi,hy=>by
  have hp:=h.pos;unfold pM;split
  ·rename_i h2
   have h3:=Wj h (i:=i) (by omega) hy h2
   have:=Eb h (i:=0) (j:=i) (by omega) (by omega)
   have:=Eb h (i:=i+1) (j:=c.length-1) (by omega) (by omega)
   omega
  ·exact MH h m (i+1) (by omega) (by omega)
theorem ahQ{r:Rs}(h:gL r=0)(v:Int):0≤g5 r v∧g5 r v≤16777216:=by
 have hs:=Hk h;have hc:=lh hs.c;have hp:=hc.pos;have:=hs.top;have h0:=hc.x0 0 hp;have h1:=Eb hc (i:=0) (j:=r.c.length-1) (by omega) (by omega)
 unfold g5;split
 ·omega
 ·have:=MH hc (y:=v) (r.c.length-1) 0 (by omega) (by omega)
  unfold u9;omega
theorem ahR{d:Dm}{s:Ds}(h:Dv d)(hf:gC d s):aE d.g s.g (g5 d.r s.v)=0:=by
 have hr:=ahQ h.r s.v;have hg:=h.g;have hl:=hf.2.2.2.1;unfold aE;rw[if_neg (by omega),if_neg (by omega),if_neg (fun g=>g hf.2.2.2.2.2),if_neg (fun g=>g (qq fun i _ hi=>h.gv i (by omega))),if_neg (by omega)]
theorem MI(l:List Int):∀i,i≤l.length→bU (fun j=>nth l j) i=(l.take i).sum
 |0,_=>by simp[bU]
 |i+1,h=>by
  rw[ji (by omega),List.sum_append,← MI l i (by omega)]
  simp[bU]
theorem MJ:∀i,bU (fun _=>0) i=0
 |0=>rfl
 |i+1=>by simp[bU,MJ i]
theorem ahS{d:Dm}(s:Ds){m:Int}(hm:0≤m):bU (fY d s m) d.u.length≤m:=by
 by_cases he:jA d.u s.u d.gr m=0
 ·obtain⟨h1,h2⟩:=D9 he
  have hl:=(zy h1).1;have:fY d s m=fun j=>nth (gB d.u s.u d.gr m) j:=by funext j;simp[fY,he]
  rw[this,MI _ _ (by omega),List.take_of_length_le (by omega)]
  exact h2
 ·have:fY d s m=fun _=>0:=by funext j;simp[fY,he]
  rw[this,MJ];exact hm
structure Stp(d:Dm)(s:Ds)(inf los rel:Int):Prop where
 L:ea s inf los=max 0 (s.v+inf-los)
 T0:0≤fq d s inf los rel
 Tr:fq d s inf los rel≤rel
 Tf:fq d s inf los rel≤jl d (ea s inf los)
 P0:0≤kJ d s inf los rel
 sum:fq d s inf los rel+kJ d s inf los rel≤jl d (ea s inf los)
 P1:kJ d s inf los rel≤17179869184
 w0:0≤mo d rel (ea s inf los) (fq d s inf los rel)∧mo d rel (ea s inf los) (fq d s inf los rel)≤1073741824
theorem MK{d:Dm}(h:Dv d){s:Ds}(hf:gC d s){inf los rel:Int}(hi:0≤inf∧inf≤1073741824)(hl:0≤los∧los≤1073741824)(hr:0≤rel∧rel≤1073741824):Stp d s inf los rel:=by
 have hv:=hf.1;have hg:=h.gr;have qj:0≤jl d (ea s inf los):=by unfold jl;omega
 have hm:0≤ka d rel (ea s inf los):=by unfold ka;omega
 have h1:=ahS (d:=d) s hm;have h2:=Wg h (s:=s) (inf:=inf) (los:=los) (rel:=rel);have h3:fq d s inf los rel≤ka d rel (ea s inf los):=h1;have h4:=Hq d.g s.g (g5 d.r s.v) (mo d rel (ea s inf los) (fq d s inf los rel));have h5:kJ d s inf los rel=min (mM d.g s.g (g5 d.r s.v) (mo d rel (ea s inf los) (fq d s inf los rel))) (jl d (ea s inf los)-fq d s inf los rel):=rfl;unfold ka at h3;refine⟨by unfold ea;omega,h2.1,by omega,by omega,by omega,by omega,by omega,?_⟩
 unfold mo;omega
end Go.Proofs.YtmpikpodpgnjhaaGreat
namespace Go.Proofs.YtmpikpodpgnjhaaGreat
set_option linter.all false
open Go.Vm
attribute [local simp] mc me ma mb
theorem ahU(r:Dr)(ht:0≤r.tur∧r.tur≤1099511627776)(hs:0≤r.spi∧r.spi≤1099511627776)(ho:0≤r.ovr∧r.ovr≤1099511627776)(G:List aP):a8 F 93 [dr r] G=some (i64 (r.tur+r.spi+r.ovr),G) :=
 bV rfl rfl (by
  simp (disch:=omega) [wrap64,Sr])
theorem ahV{l:List Int}(h:l.length=5):∃a b c d e,l=[a,b,c,d,e]:=by
 match l,h with
 |[a,b,c,d,e],_=>exact⟨a,b,c,d,e,rfl⟩
theorem Ec{l:List Int}{i j:Nat}{v:Int}(h:i<l.length):nth (l.set i v) j=if i=j then v else nth l j:=by
 simp only[nth,List.getD,List.getElem?_set];by_cases e:i=j
 ·subst e;simp[h]
 ·simp[e]
theorem ahW{c:List Pt}{x y dx dy:Int}(h:Cw c x y dx dy 1)(h2:2≤c.length)(hx:0≤x∧x≤1000)(hy:0≤y∧y≤1000)(GL:0≤dx∧dx≤1000)(GM:0≤dy∧dy≤1000)
  {a1 a2 a3 a4 a5:Int} (l1:x≤a1) (l2:a1≤a2) (l3:a2≤a3) (l4:a3≤a4) (l5:a4≤a5) (l6:a5≤(nth c (c.length-1)).x):gL ⟨c,a1,a2,a3,a4,a5⟩=0:=by
 have hc:=h.kS hx hy GL GM (by omega)
 have hf:=h.jJ;have hu:=h.up hx hy GL GM (by omega) (c.length-1) (by omega)
 have h0:(nth c 0).x=x:=by rw[h.first]
 unfold gL;simp only;rw[if_neg (fun g=>g hc),if_neg (by omega),if_neg (by omega),if_pos,qq]
 ·intro i LK qA
  have:i=1∨i=2∨i=3∨i=4∨i=5∨i=6:=by omega
  rcases this with rfl|rfl|rfl|rfl|rfl|rfl<;>simp only[oy,qu,nth,List.getD,List.getElem?_cons_succ,List.getElem?_cons_zero,Option.getD_some]<;>refine if_neg ?_
  ·have:(nth c 0).x≤a1:=by omega
   simp only[nth,List.getD]at this;simp;omega
  ·simp;omega
  ·simp;omega
  ·simp;omega
  ·simp;omega
  ·simp only[nth,List.getD]at l6;simp;omega
 ·refine qq fun i LK qA=>?_
  have:=h.step i (by omega) (by omega)
  exact if_neg (by omega)
theorem ahX{l:List Int}{k:Nat}(hd:dG l k):∃r k',a8 F 154 [.bB 0 0] [dk l k]=some (.agg r.cells,[dk l k'])∧dG l k'∧gL r=0∧(nth r.c (r.c.length-1)).y≤10000:=by
 suffices h:∀Q:V→List aP→Prop,(∀r k',dG l k'→gL r=0→(nth r.c (r.c.length-1)).y≤10000→Q (.agg r.cells) [dk l k'])→gY (a8 F) 154 [.bB 0 0] [dk l k] Q by
  obtain⟨_,_,h,r,k',rfl,rfl,h1⟩:=h (fun v G=>∃r k',v=.agg r.cells∧G=[dk l k']∧dG l k'∧gL r=0∧(nth r.c (r.c.length-1)).y≤10000) fun r k' a b c=>⟨r,k',rfl,rfl,a,b,c⟩;exact⟨r,k',h,h1⟩
 intro Q hQ;refine iu rfl rfl ?_;obtain⟨a1,k1,n1,iK,LZ⟩:=fQ hd 10 (by omega)
 obtain⟨a2,k2,n2,fm,L0⟩:=fQ iK 20 (by omega)
 obtain⟨c,k3,n3,mh,Ce,hc⟩:=LY fm (x:=100+a1) (y:=a2) (dx:=40) (dy:=200) true (by omega) (by omega) (by omega) (by omega)
 simp only[if_true]at hc;have hu:=hc.up (by omega) (by omega) (by omega) (by omega) (by omega)
 have hf:=hc.jJ;have h0:(nth c 0).x=100+a1:=by rw[hc.first]
 have hu1:=hu (c.length-1) (by omega)
 have Wk:(nth c 0).x≤(nth c (c.length-1)).x:=by
  have:∀i,i<c.length→(nth c 0).x≤(nth c i).x:=by
   intro i;induction i with
   |zero=>intro _;omega
   |succ i ih=>intro hi;have:=ih (by omega);have:=hc.step (i+1) (by omega) hi;simp only[Nat.add_sub_cancel]at this;omega
  exact this _ (by omega)
 have h3:((c.length:Int)-1).toNat=c.length-1:=by omega
 have h5:0≤(c.length:Int)-1:=by omega
 simp (disch:=omega) [-getElem?_pos,wrap64,Th,n1,n2,n3,bb (l:=c),h3,h5];refine go_loop (fun s:Nat×Int×List Int×Nat=>aer (.bB 0 0) s.2.1 (nth c (c.length-1)).x s.1 [.bW,i64 0,i64 0,i64 0,i64 0,i64 0] [gQ c,i64 0,i64 0,i64 0,i64 0,i64 0] (dv s.2.2.1) [dk l s.2.2.2])
  (fun s=>s.1≤5∧s.2.2.1.length=5∧(100+a1≤s.2.1∧s.2.1≤(nth c (c.length-1)).x)∧(∀j,j<s.1→100+a1≤nth s.2.2.1 j)∧(∀i j,i≤j→j<s.1→nth s.2.2.1 i≤nth s.2.2.1 j)∧(∀j,j<s.1→nth s.2.2.1 j≤s.2.1)∧dG l s.2.2.2)
  (fun s=>5-s.1) (0,100+a1,[0,0,0,0,0],k3) rfl (by simp[dv,h0]) ⟨by simp,by simp,⟨by simp,by simp only;omega⟩,by simp,by simp,by simp,mh⟩ ?_
 rintro⟨i,at',ls,k⟩ ⟨hi,Ed,⟨b1,b2⟩,h6,h7,h8,hd⟩;simp only at hi Ed b1 b2 h6 h7 h8 hd;simp (disch:=omega) [-getElem?_pos,wrap64,Tg];refine bK (fun h9=>?_) (fun h9=>?_)
 ·have h9:i<5:=by omega
  have ch:¬ (5:Int)-i=0:=by omega
  have hq0:0≤((nth c (c.length-1)).x-at').tdiv (5-i):=Int.tdiv_nonneg (by omega) (by omega)
  have Kb:((nth c (c.length-1)).x-at').tdiv (5-i)≤(nth c (c.length-1)).x-at':=Int.tdiv_le_self _ (by omega)
  obtain⟨p,k4,n4,rp,hp⟩:=fQ hd (((nth c (c.length-1)).x-at').tdiv (5-i)+1) (by omega)
  simp (disch:=omega) [-getElem?_pos,wrap64,n4,ch];refine bL (i+1,at'+p,ls.set i (at'+p),k4) (by simp) ⟨by simp only;omega,by simp[Ed],⟨by simp only;omega,by simp only;omega⟩,?_,?_,?_,rp⟩ (by simp only;omega)
  ·intro j hj
   simp only at hj ⊢;rw[Ec (by omega)]
   split
   ·omega
   ·exact h6 j (by omega)
  ·intro i' j LG hj
   simp only at hj ⊢;rw[Ec (by omega),Ec (by omega)]
   by_cases e1:i=j
   ·rw[if_pos e1]
    split
    ·omega
    ·have:=h8 i' (by omega);omega
   ·rw[if_neg e1,if_neg (by omega)]
    exact h7 i' j LG (by omega)
  ·intro j hj
   simp only at hj ⊢;rw[Ec (by omega)]
   split
   ·omega
   ·have:=h8 j (by omega);omega
 ·obtain rfl:i=5:=by omega
  obtain⟨e1,e2,e3,e4,e5,rfl⟩:=ahV Ed;simp (disch:=omega) [-getElem?_pos,wrap64,dv];have q1:=h6 0 (by omega)
  have q2:=h7 0 1 (by omega) (by omega)
  have q3:=h7 1 2 (by omega) (by omega)
  have q4:=h7 2 3 (by omega) (by omega)
  have q5:=h7 3 4 (by omega) (by omega)
  have q6:=h8 4 (by omega)
  exact hQ ⟨c,e1,e2,e3,e4,e5⟩ k hd (ahW hc Ce (by omega) (by omega) (by omega) (by omega) q1 q2 q3 q4 q5 (Int.le_trans q6 b2)) (by simp only;omega)
structure Gw(l:List Rt):Prop where
 cw:∀i,i<l.length→Cw (nth l i).c 0 0 6 20 0
 lv:∀i,i<l.length→0≤(nth l i).lv∧(nth l i).lv≤1000
 up:∀i,0<i→i<l.length→(nth l (i-1)).lv<(nth l i).lv
theorem Gw.kS{l:List Rt}(h:Gw l)(h1:1≤l.length)(h2:l.length≤3){m v:Int}(hm:0≤m∧m≤1000)(hv:0≤v∧v≤1000):jz ⟨l,m,v⟩=0:=by
 unfold jz;simp only;rw[if_neg (by omega),if_neg (by omega),if_neg,if_neg (by omega)]
 refine fun hn=>hn (qq fun i _ hi=>?_);have hi:i<l.length:=by omega
 have hc:=h.cw i hi;have hl:=h.lv i hi;have hp:=hc.pos;have hf:=hc.jJ;have hu:=hc.up (by omega) (by omega) (by omega) (by omega) (by omega) ((nth l i).c.length-1) (by omega)
 have h0:(nth (nth l i).c 0).x=0∧(nth (nth l i).c 0).y=0:=by rw[hc.first];exact⟨rfl,rfl⟩
 unfold nk;rw[if_neg (by omega),if_neg,if_neg (fun g=>g (hc.kS (by omega) (by omega) (by omega) (by omega) (by omega))),if_neg (fun g=>g h0),if_neg (by omega)]
 rintro⟨h3,h4⟩;have:=h.up i h3 hi;omega
theorem Gw.snoc{l:List Rt}(h:Gw l){r:Rt}(hc:Cw r.c 0 0 6 20 0)(hl:0≤r.lv∧r.lv≤1000)(hu:0<l.length→(nth l (l.length-1)).lv<r.lv):Gw (l++[r]):=by
 refine⟨fun i hi=>?_,fun i hi=>?_,fun i h0 hi=>?_⟩
 ·simp at hi
  rw[ic];split
  ·exact h.cw i (by assumption)
  ·rw[if_pos (by omega)];exact hc
 ·simp at hi
  rw[ic];split
  ·exact h.lv i (by assumption)
  ·rw[if_pos (by omega)];exact hl
 ·simp at hi
  rw[ic,ic,if_pos (by omega)]
  split
  ·exact h.up i h0 (by assumption)
  ·obtain rfl:i=l.length:=by omega
   rw[if_pos rfl];exact hu h0
abbrev ML(g:Gt):V:=.agg [.slice (some 0) 2 (g.r.map Rt.row),i64 g.c5,i64 g.move]
theorem ahY{l:List Int}{k:Nat}(hd:dG l k):∃g k',a8 F 182 [.bB 0 0] [dk l k]=some (ML g,[dk l k'])∧dG l k'∧jz g=0:=by
 suffices h:∀Q:V→List aP→Prop,(∀g k',dG l k'→jz g=0→Q (ML g) [dk l k'])→gY (a8 F) 182 [.bB 0 0] [dk l k] Q by
  obtain⟨_,_,h,r,k',rfl,rfl,h1⟩:=h (fun v G=>∃r k',v=ML r∧G=[dk l k']∧dG l k'∧jz r=0) fun r k' a b=>⟨r,k',rfl,rfl,a,b⟩;exact⟨r,k',h,h1⟩
 intro Q hQ;refine iu rfl rfl ?_;obtain⟨a1,k1,n1,iK,LZ⟩:=fQ hd 12 (by omega)
 obtain⟨a2,k2,n2,fm,L0⟩:=fQ iK 6 (by omega)
 obtain⟨a3,k3,n3,mh,U8⟩:=fQ fm 40 (by omega)
 obtain⟨a4,k4,n4,rp,U9⟩:=fQ mh 3 (by omega)
 simp (disch:=omega) [wrap64,TP,n1,n2,n3,n4];refine go_loop (fun s:List Rt×Int×Int×Nat=>aeZ (.bB 0 0) s.2.1 s.2.2.1 [.bW,i64 0,i64 0] [.slice (some 1027) 2 (s.1.map Rt.row),i64 a1,i64 a2] s.1.length [dk l s.2.2.2])
  (fun s=>Gw s.1∧(s.1.length:Int)+s.2.2.1≤2 ∧ -1≤s.2.2.1∧(1≤s.1.length∨0≤s.2.2.1)∧(0≤s.2.1∧s.2.1≤130+50*s.1.length)∧(0<s.1.length→(nth s.1 (s.1.length-1)).lv<s.2.1)∧dG l s.2.2.2) (fun s=>(s.2.2.1+1).toNat)
  ([],90+a3,a4,k4) rfl (by simp) ⟨⟨by simp,by simp,by simp⟩,by simp;omega,by simp only;omega,by simp only;omega,by simp;omega,by simp,rp⟩ ?_
 rintro⟨r,lv,m,k⟩ ⟨hr,h1,h2,h3,h4,h5,hd⟩;simp only at h1 h2 h3 h4 h5 hd hr;obtain⟨c,k5,n5,DJ,Ce,hc⟩:=LY hd (x:=0) (y:=0) (dx:=6) (dy:=20) false (by omega) (by omega) (by omega) (by omega)
 obtain⟨a6,k6,n6,DK,ha6⟩:=fQ DJ 40 (by omega)
 simp (disch:=omega) [wrap64,TO];refine bK (fun h6=>?_) (fun h6=>?_)
 ·simp (disch:=omega) [wrap64,n5,n6]
  refine bL (r++[⟨lv,c⟩],lv+(1+a6),m-1,k6) (by simp) ⟨hr.snoc hc (by simp only;omega) h5,by simp;omega,by simp only;omega,by simp,by simp;omega,by simp[ic];omega,DK⟩ (by simp only;omega)
 ·exact hQ ⟨r,a1,a2⟩ k hd (hr.kS (by omega) (by omega) (by omega) (by omega))
abbrev MM(l:List Gt):V:=.slice (some 0) 3 (l.map Gt.row)
abbrev Hr(l:List Gs):V:=.slice (some 0) 2 (l.map Gs.row)
structure Hs(a:List Gt)(b:List Gs):Prop where
 len:a.length=b.length
 gate:∀i,i<a.length→jz (nth a i)=0
 state:∀i,i<a.length→ml (nth a i) (nth b i)
theorem ahZ{l:List Int}{k:Nat}(hd:dG l k){m:Nat}(hm:m≤1000):∃a b k',a8 F 156 [.bB 0 0,i64 m] [dk l k]=some (.tuple [MM a,Hr b],[dk l k'])∧dG l k'∧Hs a b∧a.length≤m:=by
 suffices h:∀Q:V→List aP→Prop,(∀a b k',dG l k'→Hs a b→a.length≤m→Q (.tuple [MM a,Hr b]) [dk l k'])→gY (a8 F) 156 [.bB 0 0,i64 m] [dk l k] Q by
  obtain⟨_,_,h,a,b,k',rfl,rfl,h1⟩:=h (fun v G=>∃a b k',v=.tuple [MM a,Hr b]∧G=[dk l k']∧dG l k'∧Hs a b∧a.length≤m) fun a b k' h1 h2 h3=>⟨a,b,k',rfl,rfl,h1,h2,h3⟩;exact⟨a,b,k',h,h1⟩
 intro Q hQ;refine iu rfl rfl ?_;obtain⟨n,k1,n1,iK,hn⟩:=fQ hd (m+1) (by omega)
 simp (disch:=omega) [wrap64,Tl,n1];refine go_loop (fun s:List Gt×List Gs×Int×Nat=>aew (.bB 0 0) (.slice (some 1023) 3 (s.1.map Gt.row)) (.slice (some 1035) 2 (s.2.1.map Gs.row)) s.2.2.1 s.1.length s.2.1.length [dk l s.2.2.2])
  (fun s=>Hs s.1 s.2.1∧(s.1.length:Int)+s.2.2.1≤m∧0≤s.2.2.1∧dG l s.2.2.2) (fun s=>s.2.2.1.toNat) ([],[],n,k1) rfl (by simp) ⟨⟨rfl,by simp,by simp⟩,by simp;omega,by simp;omega,iK⟩ ?_
 rintro⟨a,b,n,k⟩ ⟨pN,h1,h2,hd⟩;simp only at pN h1 h2 hd;obtain⟨g,k2,n2,fm,hg⟩:=ahY hd;have hgv:=(VQ hg).c5;obtain⟨p,k3,n3,mh,hp⟩:=fQ fm (g.c5+1) (by omega)
 obtain⟨q,k4,n4,rp,hq⟩:=fQ mh 7 (by omega)
 have hl:=pN.len;simp (disch:=omega) [wrap64,Tk];refine bK (fun h4=>?_) (fun h4=>?_)
 ·simp (disch:=omega) [wrap64,n2,n3,n4]
  refine bL (a++[g],b++[⟨p,decide (q=6)⟩],n-1,k4) (by simp) ⟨⟨by simp[hl],fun i hi=>?_,fun i hi=>?_⟩,by simp;omega,by simp;omega,rp⟩ (by simp;omega)
  ·simp at hi
   rw[ic];split
   ·exact pN.gate i (by assumption)
   ·rw[if_pos (by omega)];exact hg
  ·simp at hi
   rw[ic,ic,← hl];split
   ·exact pN.state i (by assumption)
   ·rw[if_pos (by omega),if_pos (by omega)]
    show 0≤p∧p≤g.c5;omega
 ·exact hQ a b k hd pN (by omega)
structure Dw(d:Dm)(s:Ds):Prop where
 kS:eZ d=0
 fit:gC d s
 ao7:DM d.u s.u
 u2:d.u.length≤2
 g2:d.g.length≤2
 gr:1≤d.gr∧d.gr≤4
 rel:0≤s.rel∧s.rel≤29
 top:jL d≤10000
theorem ah0{l:List Int}{k:Nat}(hd:dG l k):∃d s k',a8 F 111 [.bB 0 0] [dk l k]=some (.tuple [dm d,dst s],[dk l k'])∧dG l k'∧Dw d s:=by
 suffices h:∀Q:V→List aP→Prop,(∀d s k',dG l k'→Dw d s→Q (.tuple [dm d,dst s]) [dk l k'])→gY (a8 F) 111 [.bB 0 0] [dk l k] Q by
  obtain⟨_,_,h,d,s,k',rfl,rfl,h1⟩:=h (fun v G=>∃d s k',v=.tuple [dm d,dst s]∧G=[dk l k']∧dG l k'∧Dw d s) fun d s k' a b=>⟨d,s,k',rfl,rfl,a,b⟩;exact⟨d,s,k',h,h1⟩
 intro Q hQ;refine iu rfl rfl ?_;obtain⟨r,k1,n1,iK,hr,hry⟩:=ahX hd;obtain⟨a,k2,n2,fm,ha⟩:=fQ iK 4 (by omega)
 obtain⟨us,ss,k3,n3,mh,mT,F3⟩:=agp (m:=2) fm (by omega)
 obtain⟨gs,ts,k4,n4,rp,od,Cp⟩:=ahZ (m:=2) mh (by omega)
 rw[show((2:Nat):Int)=2 from rfl]at n3 n4;have hv:=MD hr r.t;have qE:=My hr;obtain⟨v,k5,n5,DJ,hv5⟩:=fQ rp (gK r.c r.t+1) (by omega)
 obtain⟨e,k6,n6,DK,he6⟩:=fQ DJ 30 (by omega)
 have hV:=GP r r.t [];simp (disch:=omega) [wrap64,Sz,n1,n2,n3,n4,hV,qE,hr,n5,n6];refine hQ ⟨r,us,gs,1+a⟩ ⟨v,e,ss,ts⟩ k6 DK ?_;have hc:eZ ⟨r,us,gs,1+a⟩=0:=by
  unfold eZ;simp only;rw[if_neg (fun g=>g hr),if_neg (by omega),if_neg (fun g=>g (qq fun i _ hi=>(mT.unit i (by omega)).kS)),if_neg (fun g=>g (qq fun i _ hi=>od.gate i (by omega))),if_neg (by omega)]
 refine⟨hc,⟨⟨hv5.1,?_⟩,?_,mT.len.symm,od.len.symm,mT.state,od.state⟩,mT,F3,Cp,?_,?_,?_⟩
 ·show v≤gK r.c r.t
  omega
 ·simp only;omega
 ·simp only;omega
 ·simp only;omega
 ·have:=(Bf (lh (qv hr)) r.t).2
  show gK r.c r.t≤10000;omega
end Go.Proofs.YtmpikpodpgnjhaaGreat
namespace Go.Proofs.YtmpikpodpgnjhaaGreat
set_option linter.all false
open Go.Vm
theorem ah2{u:Un}{s:Us}(hv:eJ u s)(q:Int):eJ u (pT u s q):=by
 have h1:=hv.2.1;unfold pT;split
 ·rename_i hm
  refine⟨hv.1,?_,?_⟩
  ·unfold qz;simp only;split<;>omega
  ·unfold qz;simp only
   unfold jf at hm;by_cases hq:q=0
   ·exact .inl hq
   ·rw[if_neg hq]at hm;exact .inr ⟨hm.1,hm.2.2⟩
 ·exact⟨hv.1,by simp,.inl rfl⟩
theorem ah3{lv w:Int}{g:List Gt}{s:List Gs}(hl:g.length=s.length)(hs:wD g s)(hv:∀i,i<g.length→Gv (nth g i)):∀i,i≤g.length →
  ∀j,j<g.length→0≤nth (bs lv w g s i).1 j∧nth (bs lv w g s i).1 j≤(nth g j).c5:=by
 intro i;induction i with
 |zero =>
  intro _ j hj;have hr:=zE (hv j hj) (hs j hj);simp only[bs];rw[DZ hj (by omega)]
  omega
 |succ i ih =>
  intro hi j hj;simp only[bs];rw[Ec (by rw[nq hl];omega)]
  split
  ·rename_i e
   subst e;have hr:=zE (hv i hj) (hs i hj);have ho:=aho (lv:=lv) (w:=w) (hv i hj) (hs i hj) (bs lv w g s i).2;omega
  ·exact ih (by omega) j hj
theorem ah4{g:List Gt}{s:List Gs}{lv w:Int}(h:aE g s lv=0)(hw:0≤w∧w≤1073741824):(np g s lv w).length=g.length∧wD g (np g s lv w):=by
 obtain⟨h1,h2,h3,h4,h5⟩:=DX h;have hE:j9 g s lv w=0:=by simp[j9,h,hw]
 have hS:np g s lv w=lP (bs lv w g s g.length).1 s:=by unfold np;rw[if_pos hE]
 have hb:=nq (lv:=lv) (w:=w) h2 g.length;rw[hS];refine⟨by simp[lP];omega,fun i hi=>?_⟩
 unfold lP;rw[Bl (by omega) (by omega)]
 exact ah3 h2 h3 h4 g.length (Nat.le_refl _) i hi
theorem ah5{d:Dm}{s:Ds}{m:Int}{n i:Nat}(hi:i<n):nth (nx d s m n) i=pT (nth d.u i) (nth s.u i) (fY d s m i):=by
 unfold nx;simp[nth,hi]
theorem Wl{d:Dm}(h:Dv d){s:Ds}(hf:gC d s){inf los rel:Int}(hi:0≤inf∧inf≤1073741824)(hl:0≤los∧los≤1073741824)(hr:0≤rel∧rel≤1073741824):gC d (jM d s inf los rel):=by
 have p:=MK h hf hi hl hr;have hv:=hf.1;have hC:=Hm h.r;have hD:=Hl h.r;have hT:=p.T0;have hP:=p.P0;have hs:=p.sum;have hL:=p.L;have qj:jl d (ea s inf los)≤ea s inf los:=by unfold jl;omega
 have hO:qF d s inf los rel=max (ea s inf los-(fq d s inf los rel+kJ d s inf los rel)-jL d) 0:=rfl;have hg:=ah4 (ahR h hf) p.w0;refine⟨?_,?_,Hp,hg.1,fun i hi=>?_,hg.2⟩
 ·show 0≤ea s inf los-(fq d s inf los rel+kJ d s inf los rel)-qF d s inf los rel∧ea s inf los-(fq d s inf los rel+kJ d s inf los rel)-qF d s inf los rel≤jL d
  omega
 ·show 0≤min (fq d s inf los rel+kJ d s inf los rel) 1073741824∧min (fq d s inf los rel+kJ d s inf los rel) 1073741824≤1073741824
  omega
 ·show eJ (nth d.u i) (nth (nx d s _ d.u.length) i)
  rw[ah5 hi];exact ah2 (hf.2.2.2.2.1 i hi) _
def ah6(a b:Ds)(r:Dr):List Int:=[a.v,b.v,r.inf,r.los,r.tur,r.spi,r.ovr]
def Wm(n:Int):Prop:=0≤n∧n≤274877906944
instance {n:Int}:Decidable (Wm n):=inferInstanceAs (Decidable (_∧_))
def MO(a b:Ds)(r:Dr):Prop:=(∀i,i<7→Wm (nth (ah6 a b r) i))∧b.v=a.v+r.inf-r.los-r.tur-r.spi-r.ovr
noncomputable instance {a b:Ds} {r:Dr}:Decidable (MO a b r):=Classical.propDecidable _
end Go.Proofs.YtmpikpodpgnjhaaGreat
namespace Go.Proofs.YtmpikpodpgnjhaaGreat
set_option linter.all false
open Go.Vm
attribute [local simp] mc me ma mb
theorem Wo{c:List Pt}(h:Cv c){y x:Int}{i:Nat}(hi:i+1<c.length)(h1:(nth c i).y≤y)(h2:y<(nth c (i+1)).y)(hx:(nth c i).x≤x):nM c (i+1) x≤y↔x≤zn c y i:=by
 have u1:=h.up (i+1) (by omega) hi
 simp only[Nat.add_sub_cancel]at u1;have a2:0<(y-(nth c i).y+1)*((nth c (i+1)).x-(nth c i).x):=Int.mul_pos (by omega) (by omega)
 have a3:0≤((nth c (i+1)).y-(nth c i).y)*(x-(nth c i).x):=Int.mul_nonneg (by omega) (by omega)
 unfold nM zn;simp only[Nat.add_sub_cancel];rw[Int.tdiv_eq_ediv_of_nonneg a3,Int.tdiv_eq_ediv_of_nonneg (by omega)]
 have e1:((nth c (i+1)).y-(nth c i).y)*(x-(nth c i).x) / ((nth c (i+1)).x-(nth c i).x)<y-(nth c i).y+1↔((nth c (i+1)).y-(nth c i).y)*(x-(nth c i).x)<(y-(nth c i).y+1)*((nth c (i+1)).x-(nth c i).x) :=
  Int.ediv_lt_iff_lt_mul (by omega)
 have e2:x-(nth c i).x≤((y-(nth c i).y+1)*((nth c (i+1)).x-(nth c i).x)-1) / ((nth c (i+1)).y-(nth c i).y)↔(x-(nth c i).x)*((nth c (i+1)).y-(nth c i).y)≤(y-(nth c i).y+1)*((nth c (i+1)).x-(nth c i).x)-1 :=
  Int.le_ediv_iff_mul_le (by omega)
 rw[Int.mul_comm (x-(nth c i).x)]at e2;constructor
 ·intro g
  have:=e2.2 (by have:=e1.1 (by omega);omega)
  omega
 ·intro g
  have:=e1.2 (by have:=e2.1 (by omega);omega)
  omega
theorem MP{c:List Pt}(h:Cv c){i:Nat}(hi:i<c.length):gK c (nth c i).x=(nth c i).y:=by
 rcases Nat.eq_zero_or_pos i with rfl|h0
 ·exact zm h (Int.le_refl _)
 ·have u:=h.up i h0 hi
  rw[u7 h h0 hi (by omega) (Int.le_refl _),nM,Int.mul_tdiv_cancel _ (by omega)]
  omega
theorem Wp{c:List Pt}(h:Cv c){y:Int}:∀(m i:Nat),i+m=c.length-1→(nth c i).y≤y→gK c (pM c y m i)≤y∧∀x,pM c y m i<x→x≤(nth c (c.length-1)).x→y<gK c x
 |0,i,hi,hy=>by
  have hp:=h.pos;unfold pM;rw[MP h (by omega)]
  obtain rfl:i=c.length-1:=by omega
  exact⟨hy,fun x a b=>by omega⟩
 |m+1,i,hi,hy=>by
  have hp:=h.pos;unfold pM;split
  ·rename_i h2
   have hr:=Wj h (i:=i) (by omega) hy h2
   refine⟨?_,fun x a b=>?_⟩
   ·rw[u7 h (i:=i+1) (by omega) (by omega) (by simpa using hr.1) hr.2]
    exact(Wo h (by omega) hy h2 hr.1).2 (Int.le_refl _)
   ·rcases Int.lt_or_le (nth c (i+1)).x x with h3|h3
    ·have:=Mn h (show(nth c (i+1)).x≤x by omega)
     rw[MP h (by omega)]at this
     omega
    ·rw[u7 h (i:=i+1) (by omega) (by omega) (by simp only[Nat.add_sub_cancel];omega) h3]
     have:=not_congr (Wo h (x:=x) (by omega) hy h2 (by omega))
     omega
  ·exact Wp h m (i+1) (by omega) (by omega)
theorem Wq{c:List Pt}(h:fD c=0)(y:Int)(G:List aP) :
  a8 F 163 [gQ c,i64 y] G=some (.tuple [i64 (if y<(nth c 0).y then 0 else u9 c y),.bool (decide ((nth c 0).y≤y)),i64 0],G) :=
 bV rfl rfl (by
  have hc:=lh h;have hp:=hc.pos;have hl:=hc.jJ;have h3:((c.length:Int)-1).toNat=c.length-1:=by omega
  have h4:0≤(c.length:Int)-1:=by omega
  have h5:c.length-1<c.length:=by omega
  have x0:=hc.x0 0 hp;have x1:=hc.x0 (c.length-1) h5;have EV:=Eb hc (i:=0) (j:=c.length-1) (by omega) h5
  have hA:=fun x=>UO hc x [];have MQ:=hA (nth c 0).x;rw[MP hc hp]at MQ;by_cases h1:y<(nth c 0).y
  ·have h2:¬ (nth c 0).y≤y:=by omega
   simp (disch:=omega) [-getElem?_pos,wrap64,Lc,kR,h,bb (l:=c),hp,h3,h4,h5,MQ,h1,h2]
  ·have h2:(nth c 0).y≤y:=by omega
   have MR:=Wp hc (y:=y) (c.length-1) 0 (by omega) h2
   have MS:=MH hc (y:=y) (c.length-1) 0 (by omega) h2
   have c9:pM c y (c.length-1) 0=u9 c y:=rfl;rw[c9]at MR MS;simp (disch:=omega) [-getElem?_pos,wrap64,Lc,kR,h,bb (l:=c),hp,h3,h4,h5,MQ,h1,h2];refine go_loop (fun s:Int×Int=>aeC (gQ c) y s.1 s.2 G) (fun s=>(nth c 0).x≤s.1∧s.1≤u9 c y∧u9 c y≤s.2∧s.2≤(nth c (c.length-1)).x) (fun s=>(s.2-s.1).toNat) ((nth c 0).x,(nth c (c.length-1)).x) rfl (by simp) ⟨by simp,MS.1,MS.2,by simp⟩ ?_
   rintro⟨lo,hi⟩ ⟨b1,b2,b3,b4⟩;simp only at b1 b2 b3 b4;have d1:0≤(hi-lo).tdiv 2:=Int.tdiv_nonneg (by omega) (by omega)
   have d2:(hi-lo).tdiv 2=(hi-lo) / 2:=Int.tdiv_eq_ediv_of_nonneg (by omega)
   have hAm:=hA (hi-(hi-lo).tdiv 2);simp (disch:=omega) [-getElem?_pos,wrap64,Tt,hAm];refine bK (fun h6=>?_) (fun h6=>?_)
   ·refine bK (fun h7=>?_) (fun h7=>?_)
    ·refine bL (hi-(hi-lo).tdiv 2,hi) (by simp) ⟨by simp only;omega,?_,b3,b4⟩ (by simp only;omega)
     simp only;refine Int.not_lt.1 fun h8=>?_;have:=MR.2 _ h8 (by omega)
     omega
    ·refine bL (lo,hi-(hi-lo).tdiv 2-1) (by simp) ⟨b1,b2,?_,by simp only;omega⟩ (by simp only;omega)
     simp only;refine Int.not_lt.1 fun h8=>?_;have:=Mn hc (show hi-(hi-lo).tdiv 2≤u9 c y by omega)
     have:=MR.1;omega
   ·have:lo=u9 c y:=by omega
    subst this;simp (disch:=omega) [-getElem?_pos,wrap64,h1,h2])
theorem ah8{r:Rs}(h:gL r=0){v:Int}(hv:0≤v∧v≤274877906944)(G:List aP):a8 F 117 [.agg r.cells,i64 v] G=some (.tuple [i64 (g5 r v),i64 0],G) :=
 bV rfl rfl (by
  have hp:=(lh (qv h)).pos;have mW:(decide (0≤v)&&decide (v≤274877906944))=true:=by simp;omega
  by_cases h1:v<(nth r.c 0).y
  ·have h2:¬ (nth r.c 0).y≤v:=by omega
   simp[-getElem?_pos,wrap64,KU,xF,h,cN,mW,Wq (qv h),h1,h2,bb (l:=r.c),hp,g5]
  ·have h2:(nth r.c 0).y≤v:=by omega
   simp[-getElem?_pos,wrap64,KU,xF,h,cN,mW,Wq (qv h),h1,h2,bb (l:=r.c),hp,g5])
theorem MT{d:Dm}(h:gL d.r=0):jL d≤274877906944:=by
 have hc:=lh (qv h);have h1:=Bf hc d.r.t;have hp:=hc.pos;have h3:=hc.y0 (d.r.c.length-1) (by omega)
 have:jL d=gK d.r.c d.r.t:=rfl;omega
theorem Ee(d:Dm)(s:Ds)(G:List aP):a8 F 58 [dm d,dst s] G=some (.tuple [i64 (lvl d s),i64 (dE d s)],G) :=
 bV rfl rfl (by
  by_cases hd:dE d s=0
  ·obtain⟨oY,hf⟩:=D7 hd
   have hv:=hf.1;have hC:=MT oY.r;simp (disch:=omega) [wrap64,KK,We,hd,ah8 oY.r,hv,lvl]
  ·simp (disch:=omega) [wrap64,KK,We,hd,lvl])
theorem Wr:∀{a:List Un} {E:List Int} {u:Un} {q:Int},a.length=E.length→g6 (a++[u]) (E++[q])=g6 a E+pow u q
 |[],[],_,_,_=>by simp[g6]
 |u::a,q::E,w,z,h=>by
  have:=Wr (a:=a) (E:=E) (u:=w) (q:=z) (by simpa using h)
  simp only[List.cons_append,g6,this];omega
 |[],_::_,_,_,h=>by simp at h
 |_::_,[],_,_,h=>by simp at h
theorem Ws:∀{a:List Us} {E:List Int} {u:Us} {q:Int},a.length=E.length→g7 (a++[u]) (E++[q])=g7 a E+gS u q
 |[],[],_,_,_=>by simp[g7]
 |u::a,q::E,w,z,h=>by
  have:=Ws (a:=a) (E:=E) (u:=w) (q:=z) (by simpa using h)
  simp only[List.cons_append,g7,this];omega
 |[],_::_,_,_,h=>by simp at h
 |_::_,[],_,_,h=>by simp at h
theorem Wt{us:List Un}{F:List Int}(h:F.length=us.length):∀i,i≤us.length→bU (fun j=>pow (nth us j) (nth F j)) i=g6 (us.take i) (F.take i)
 |0,_=>by simp[bU,g6]
 |i+1,hi=>by
  rw[ji (l:=us) (by omega),ji (l:=F) (by omega),Wr (by simp;omega),← Wt h i (by omega)]
  rfl
theorem Wu{ss:List Us}{F:List Int}(h:F.length=ss.length):∀i,i≤ss.length→bU (fun j=>gS (nth ss j) (nth F j)) i=g7 (ss.take i) (F.take i)
 |0,_=>by simp[bU,g7]
 |i+1,hi=>by
  rw[ji (l:=ss) (by omega),ji (l:=F) (by omega),Ws (by simp;omega),← Wu h i (by omega)]
  rfl
theorem ah9{u:Un}{s:Us}(hv:eJ u s):pT u s 0=⟨0,if 0<s.bZ then 1 else min 1000 (s.since+1),s.out⟩:=by
 have hc:=hv.1;have hf:0≤s.bZ:=by
  rcases hv.2.2 with h | ⟨_,h⟩
  ·omega
  ·have:=GR hc h;omega
 unfold pT;by_cases h1:0<s.bZ
 ·rw[if_pos h1]
  split
  ·unfold qz
   rw[if_neg (by simp[h1])]
  ·rfl
 ·rw[if_neg h1,if_pos]
  ·unfold qz
   rw[if_pos (by simp[h1])]
  ·unfold jf
   rw[if_pos rfl];exact fun h=>absurd h h1
theorem aia{d:Dm}(oY:Dv d){s:Ds}(hf:gC d s){q:Int}(hq:0≤q∧q≤1073741824)(G:List aP) :
  a8 F 60 [dm d,dst s,i64 q] G=some (.tuple [DL (nx d s (min q (200*d.gr)) d.u.length),i64 (bU (fY d s (min q (200*d.gr))) d.u.length),i64 (bU (oX d s (min q (200*d.gr))) d.u.length),i64 (bU (lr d s (min q (200*d.gr))) d.u.length)],G) :=
 bV rfl rfl (by
  obtain⟨t,hb⟩:=ag4 d.u s.u d.gr (min q (200*d.gr)) [];have hgr:=oY.gr;have MA:=oY.u;have xi:=hf.2.2.1;generalize hM:min q (200*d.gr)=M at *;by_cases he:jA d.u s.u d.gr M=0
  ·obtain⟨h1,h2⟩:=D9 he
   have hl:=zy h1;have hV:=Ve d.u s.u (gB d.u s.u d.gr M) (by omega) []
   rw[VA h1]at hV;simp only[Bi]at hV;have f1:fY d s M=fun j=>nth (gB d.u s.u d.gr M) j:=by funext j;simp[fY,he]
   have f2:oX d s M=fun j=>pow (nth d.u j) (nth (gB d.u s.u d.gr M) j):=by funext j;simp only[oX,f1]
   have f3:lr d s M=fun j=>gS (nth s.u j) (nth (gB d.u s.u d.gr M) j):=by funext j;simp only[lr,f1]
   have e1:bU (fY d s M) d.u.length=(gB d.u s.u d.gr M).sum:=by rw[f1,MI _ _ (by omega),List.take_of_length_le (by omega)]
   have e2:bU (oX d s M) d.u.length=g6 d.u (gB d.u s.u d.gr M):=by rw[f2,Wt hl.1 _ (Nat.le_refl _),List.take_of_length_le (by omega),List.take_of_length_le (by omega)]
   have e3:bU (lr d s M) d.u.length=g7 s.u (gB d.u s.u d.gr M):=by rw[f3,Wu hl.2 _ (by omega),List.take_of_length_le (by omega),List.take_of_length_le (by omega)]
   rw[e1,e2,e3];generalize hE:gB d.u s.u d.gr M=E at *;generalize g6 d.u E=PW at *;generalize g7 s.u E=ST at *;generalize E.sum=SU at *;simp (disch:=omega) [-getElem?_pos,wrap64,KO,hM,hb,he,hV];refine go_loop (fun i:Nat=>acQ (.slice none 1 (E.map fun n=>[i64 n])) (.slice (some 1063) 3 ((nx d s M i).map Us.row)) SU PW ST (jy d.u) d.u.length i s.row i G) (fun i=>i≤d.u.length) (fun i=>d.u.length-i) 0 rfl (by simp[nx]) (by omega) ?_
   intro i hi;have qo:=Hp (d:=d) (s:=s) (m:=M) (n:=i);simp (disch:=omega) [-getElem?_pos,wrap64,RR];refine bK (fun h5=>?_) (fun h5=>?_)
   ·have h5:i<d.u.length:=by omega
    have h6:i<s.u.length:=by omega
    have h7:i<E.length:=by omega
    have hv:eJ (nth d.u i) (nth s.u i):=hf.2.2.2.2.1 i h5;have jd:fY d s M i=nth E i:=by rw[f1]
    have hm:jf (nth d.u i) (nth s.u i) (nth E i):=(Bo.1 (Hn h1 i h5)).2.2;have hN:=LR (nth d.u i) (nth s.u i) (nth E i) [];have hnE:qy (nth d.u i) (nth s.u i) (nth E i)=0:=by rw[ahG hv,if_pos hm]
    rw[if_pos hnE]at hN;have hx:pT (nth d.u i) (nth s.u i) (nth E i)=qz (nth s.u i) (nth E i):=by simp[pT,hm]
    simp (disch:=omega) [-getElem?_pos,wrap64,bb (l:=d.u),bb (l:=s.u),dD (l:=E),hN,qo];refine bL (i+1) (by simp[zH,jd,hx]) (by omega) (by omega)
   ·obtain rfl:i=d.u.length:=by omega
    simp (disch:=omega) [-getElem?_pos,wrap64,qo]
  ·have f1:fY d s M=fun _=>0:=by funext j;simp[fY,he]
   have f2:oX d s M=fun _=>0:=by funext j;simp[oX,f1,pow]
   have f3:lr d s M=fun _=>0:=by funext j;simp[lr,f1,gS]
   rw[f1,f2,f3,MJ];simp (disch:=omega) [-getElem?_pos,wrap64,KO,hM,hb,he];refine go_loop (fun i:Nat=>acN (.slice (some 1063) 3 ((nx d s M i).map Us.row)) (jg s.u) s.u.length i i G) (fun i=>i≤s.u.length) (fun i=>s.u.length-i) 0 rfl (by simp[nx]) (by omega) ?_
   intro i hi;have qo:=Hp (d:=d) (s:=s) (m:=M) (n:=i);simp (disch:=omega) [-getElem?_pos,wrap64,RQ];refine bK (fun h5=>?_) (fun h5=>?_)
   ·have h5:i<d.u.length:=by omega
    have h6:i<s.u.length:=by omega
    have hv:eJ (nth d.u i) (nth s.u i):=hf.2.2.2.2.1 i h5;have lu:=hv.2.1;have jd:fY d s M i=0:=by rw[f1]
    have hx:=ah9 hv;by_cases h7:0<(nth s.u i).bZ
    ·rw[if_pos h7]at hx
     simp (disch:=omega) [-getElem?_pos,wrap64,bb (l:=s.u),h7,qo];refine bL (i+1) (by simp[zH,jd,hx]) (by omega) (by omega)
    ·rw[if_neg h7]at hx
     simp (disch:=omega) [-getElem?_pos,wrap64,bb (l:=s.u),h7,qo];refine bL (i+1) (by simp[zH,jd,hx]) (by omega) (by omega)
   ·obtain rfl:i=s.u.length:=by omega
    rw[xi]at qo ⊢;simp (disch:=omega) [-getElem?_pos,wrap64,qo])
end Go.Proofs.YtmpikpodpgnjhaaGreat
namespace Go.Proofs.YtmpikpodpgnjhaaGreat
set_option linter.all false
open Go.Vm
theorem apa(lv w:Int):mM [] [] lv w=0:=by
 unfold mM;split
 ·simp[bs,DY]
 ·rfl
end Go.Proofs.YtmpikpodpgnjhaaGreat
namespace Go.Proofs.YtmpikpodpgnjhaaGreat
set_option linter.all false
open Go.Vm
end Go.Proofs.YtmpikpodpgnjhaaGreat
