/- Parts of the proof, joined: Dam2, Dam3, Dam4, Gat8, Dam5, Dam6, Mk3, Mk4, Dam7, Ref4, Ref5, Dmo1, Dob1. -/
import Derived.Test.YtmpikpodpgnjhaaGreatDc
namespace Go.Proofs.YtmpikpodpgnjhaaGreat
set_option linter.all false
open Go.Vm
attribute [local simp] eU eV eS eT
structure Sv(r:Rs):Prop where
 c:gd r.c=0
 two:2≤r.c.length
 top:(nth r.c (r.c.length-1)).x≤16777216
 up:∀i,1≤i→i<r.c.length→(nth r.c (i-1)).y<(nth r.c i).y
 d:(nth r.c 0).x≤r.d
 l:r.d≤r.l
 f:r.l≤r.f
 s:r.f≤r.s
 t:r.s≤r.t
 last:r.t≤(nth r.c (r.c.length-1)).x
theorem Hw{r:Rs}(h:ib r=0):Sv r:=by
 have hc:=qP h;unfold ib at h;rw[if_neg (by omega)]at h
 split at h
 ·cases h
 split at h
 ·cases h
 split at h
 ·rename_i h1 h2 h3
  have hp:=rD hc;have up:∀i,1≤i→i<r.c.length→(nth r.c (i-1)).y<(nth r.c i).y:=fun i a b=>by
   have:=sE h3 i a (by omega)
   unfold qN at this;split at this
   ·cases this
   ·omega
  have lv:∀i,1≤i→i<7→nth (qO r) (i-1)≤nth (qO r) i:=fun i a b=>by
   have:=sE h i a (by omega)
   unfold oV at this;split at this
   ·cases this
   ·omega
  have l1:=lv 1 (by omega) (by omega)
  have l2:=lv 2 (by omega) (by omega)
  have l3:=lv 3 (by omega) (by omega)
  have l4:=lv 4 (by omega) (by omega)
  have l5:=lv 5 (by omega) (by omega)
  have l6:=lv 6 (by omega) (by omega)
  exact⟨hc,by omega,by omega,up,l1,l2,l3,l4,l5,l6⟩
 ·cases h
theorem UG{r:Rs}(h:ib r=0){l:Int}(h1:(nth r.c 0).x≤l)(h2:l≤(nth r.c (r.c.length-1)).x):qQ r l=0:=by
 have v:=Hw h;have hp:=rD v.c;have:=(lJ v.c).x0 0 hp;have:=v.top;unfold qQ;rw[if_neg (by omega),if_pos (by omega)]
def jH(d:Dm):Int:=ia d.r.c d.r.t
def BI(d:Dm):Int:=ia d.r.c d.r.d
theorem Hx{r:Rs}(h:ib r=0):qQ r r.t=0:=by
 have v:=Hw h;have:=v.d;have:=v.l;have:=v.f;have:=v.s;have:=v.t;exact UG h (by omega) v.last
theorem aif{r:Rs}(h:ib r=0):qQ r r.d=0:=by
 have v:=Hw h;have:=v.last;have:=v.l;have:=v.f;have:=v.s;have:=v.t;exact UG h v.d (by omega)
def g8(d:Dm)(s:Ds):Prop:=(0≤s.v∧s.v≤jH d)∧(0≤s.rel∧s.rel≤1073741824)∧s.u.length=d.u.length∧s.g.length=d.g.length∧y6 d.u s.u∧vY d.g s.g
noncomputable instance {d:Dm} {s:Ds}:Decidable (g8 d s):=Classical.propDecidable _
noncomputable def dE(d:Dm)(s:Ds):Int:=if fB d≠0 then fB d else if g8 d s then 0 else 3
structure Dv(d:Dm):Prop where
 r:ib d.r=0
 u:d.u.length≤6
 g:d.g.length≤8
 uv:∀i,i<d.u.length→gV (nth d.u i)=0
 gv:∀i,i<d.g.length→j0 (nth d.g i)=0
 gr:1≤d.gr∧d.gr≤1073741824
theorem tW{d:Dm}(h:fB d=0):Dv d:=by
 unfold fB at h;split at h
 ·rename_i h1;exact absurd h h1
 split at h
 ·cases h
 split at h
 ·rename_i h1;exact absurd h h1
 split at h
 ·rename_i h1;exact absurd h h1
 split at h
 ·cases h
 rename_i h1 h2 h3 h4 h5;have h3:uE d.u=0:=Decidable.of_not_not h3;have h4:gE d.g=0:=Decidable.of_not_not h4;exact⟨Decidable.of_not_not h1,by omega,by omega,fun i hi=>sE h3 i (by omega) (by omega),fun i hi=>sE h4 i (by omega) (by omega),by omega⟩
theorem UH{d:Dm}(h:ib d.r=0)(G:List aW):bt F 191 [dm d] G=some (i64 (jH d),G) :=
 cg rfl rfl (by
  simp[wrap64,LK,ajJ (lJ (qP h)),jH])
theorem MX{d:Dm}(h:Dv d)(s:Ds)(G:List aW):bt F 176 [dm d,dst s] G=some (.bool (decide (g8 d s)),G) :=
 cg rfl rfl (by
  obtain⟨v,rel,su,sg⟩:=s;generalize hW:decide (g8 d ⟨v,rel,su,sg⟩)=W;have no:¬ g8 d ⟨v,rel,su,sg⟩→W=false:=fun hn=>by rw[←hW];simp[hn]
  unfold g8 at no;simp only at no;have Hy:=h.u;have UI:=h.g;have hc:=UH h.r;by_cases h1:0≤v∧v≤jH d
  ·have a1:(decide (0≤v)&&decide (v≤jH d))=true:=by simp;omega
   have a2:(!decide (0≤v) || !decide (v≤jH d))=false:=by simp;omega
   by_cases h2:0≤rel∧rel≤1073741824
   ·have b1:(decide (0≤rel)&&decide (rel≤1073741824))=true:=by simp;omega
    have b2:(!decide (0≤rel) || !decide (rel≤1073741824))=false:=by simp;omega
    by_cases h3:su.length=d.u.length
    ·have c1:(su.length:Int)=d.u.length:=by omega
     by_cases h4:sg.length=d.g.length
     ·have d1:(sg.length:Int)=d.g.length:=by omega
      simp (disch:=omega) [-getElem?_pos,wrap64,qG,hc,dG,a1,a2,b1,b2,c1,d1];refine go_loop (fun i:Nat=>acP (jX d.u) d.u.length i d.row [i64 v,i64 rel,jD su,ju sg] G) (fun i=>i≤d.u.length∧∀j,j<i→fe (nth d.u j) (nth su j)) (fun i=>d.u.length-i) 0 rfl (by simp) ⟨by omega,by omega⟩ ?_
      rintro i ⟨hi,hv⟩;simp (disch:=omega) [-getElem?_pos,wrap64,SH];refine b9 (fun h5=>?_) (fun h5=>?_)
      ·have h5:i<d.u.length:=by omega
       have v7:i<su.length:=by omega
       by_cases h6:fe (nth d.u i) (nth su i)
       ·simp (disch:=omega) [-getElem?_pos,wrap64,bo (l:=d.u),bo (l:=su),xh,uL,h6]
        refine cc (i+1) (by simp) ⟨by omega,fun j hj=>?_⟩ (by omega)
        rcases Nat.lt_or_ge j i with h7|h7
        ·exact hv j h7
        ·rwa [show j=i by omega]
       ·simp (disch:=omega) [-getElem?_pos,wrap64,bo (l:=d.u),bo (l:=su),xh,uL,h6]
        exact no (fun h=>h6 (h.2.2.2.2.1 i h5))
      ·obtain rfl:i=d.u.length:=by omega
       refine go_loop (fun i:Nat=>acR (jG d.g) d.g.length i [i64 v,i64 rel,jD su,ju sg] G) (fun i=>i≤d.g.length∧∀j,j<i→mD (nth d.g j) (nth sg j)) (fun i=>d.g.length-i) 0 rfl (by simp) ⟨by omega,by omega⟩ ?_
       rintro i ⟨hi,hg⟩;simp (disch:=omega) [-getElem?_pos,wrap64,SI];refine b9 (fun h5=>?_) (fun h5=>?_)
       ·have h5:i<d.g.length:=by omega
        have v7:i<sg.length:=by omega
        by_cases h6:mD (nth d.g i) (nth sg i)
        ·have iE:(!decide (0≤(nth sg i).o) || !decide ((nth sg i).o≤(nth d.g i).dI))=false:=by simp;exact h6
         simp (disch:=omega) [-getElem?_pos,wrap64,bo (l:=d.g),bo (l:=sg),dG,xr,h6,iE];refine cc (i+1) (by simp) ⟨by omega,fun j hj=>?_⟩ (by omega)
         rcases Nat.lt_or_ge j i with h7|h7
         ·exact hg j h7
         ·rwa [show j=i by omega]
        ·have iE:(!decide (0≤(nth sg i).o) || !decide ((nth sg i).o≤(nth d.g i).dI))=true:=by
          have:¬ (0≤(nth sg i).o∧(nth sg i).o≤(nth d.g i).dI):=h6;simp;omega
         simp (disch:=omega) [-getElem?_pos,wrap64,bo (l:=d.g),bo (l:=sg),dG,xr,h6,iE];exact no (fun h=>h6 (h.2.2.2.2.2 i h5))
       ·obtain rfl:i=d.g.length:=by omega
        rw[←hW];have:g8 d ⟨v,rel,su,sg⟩:=⟨h1,h2,h3,h4,hv,hg⟩;simp[this]
     ·have d1:¬ (sg.length:Int)=d.g.length:=by omega
      simp (disch:=omega) [-getElem?_pos,wrap64,qG,hc,dG,a1,a2,b1,b2,c1,d1];exact no (fun h=>h4 h.2.2.2.1)
    ·have c1:¬ (su.length:Int)=d.u.length:=by omega
     simp (disch:=omega) [-getElem?_pos,wrap64,qG,hc,dG,a1,a2,b1,b2,c1];exact no (fun h=>h3 h.2.2.1)
   ·have b1:(decide (0≤rel)&&decide (rel≤1073741824))=false:=by simp;omega
    have b2:(!decide (0≤rel) || !decide (rel≤1073741824))=true:=by simp;omega
    by_cases c1:(su.length:Int)=d.u.length
    ·by_cases d1:(sg.length:Int)=d.g.length
     ·simp (disch:=omega) [-getElem?_pos,wrap64,qG,hc,dG,a1,a2,b1,b2,c1,d1]
      exact no (fun h=>h2 h.2.1)
     ·simp (disch:=omega) [-getElem?_pos,wrap64,qG,hc,dG,a1,a2,b1,b2,c1,d1]
      exact no (fun h=>h2 h.2.1)
    ·simp (disch:=omega) [-getElem?_pos,wrap64,qG,hc,dG,a1,a2,b1,b2,c1]
     exact no (fun h=>h2 h.2.1)
  ·have a1:(decide (0≤v)&&decide (v≤jH d))=false:=by simp;omega
   have a2:(!decide (0≤v) || !decide (v≤jH d))=true:=by simp;omega
   by_cases h2:0≤rel∧rel≤1073741824
   ·have b1:(decide (0≤rel)&&decide (rel≤1073741824))=true:=by simp;omega
    have b2:(!decide (0≤rel) || !decide (rel≤1073741824))=false:=by simp;omega
    by_cases c1:(su.length:Int)=d.u.length
    ·by_cases d1:(sg.length:Int)=d.g.length
     ·simp (disch:=omega) [-getElem?_pos,wrap64,qG,hc,dG,a1,a2,b1,b2,c1,d1]
      exact no (fun h=>h1 h.1)
     ·simp (disch:=omega) [-getElem?_pos,wrap64,qG,hc,dG,a1,a2,b1,b2,c1,d1]
      exact no (fun h=>h1 h.1)
    ·simp (disch:=omega) [-getElem?_pos,wrap64,qG,hc,dG,a1,a2,b1,b2,c1]
     exact no (fun h=>h1 h.1)
   ·have b1:(decide (0≤rel)&&decide (rel≤1073741824))=false:=by simp;omega
    have b2:(!decide (0≤rel) || !decide (rel≤1073741824))=true:=by simp;omega
    by_cases c1:(su.length:Int)=d.u.length
    ·by_cases d1:(sg.length:Int)=d.g.length
     ·simp (disch:=omega) [-getElem?_pos,wrap64,qG,hc,dG,a1,a2,b1,b2,c1,d1]
      exact no (fun h=>h1 h.1)
     ·simp (disch:=omega) [-getElem?_pos,wrap64,qG,hc,dG,a1,a2,b1,b2,c1,d1]
      exact no (fun h=>h1 h.1)
    ·simp (disch:=omega) [-getElem?_pos,wrap64,qG,hc,dG,a1,a2,b1,b2,c1]
     exact no (fun h=>h1 h.1))
theorem aii{d:Dm}(hd:fB d=0)(s:Ds)(G:List aW):bt F 72 [dm d,dst s] G=some (.bool (decide (g8 d s)),G):=by
  have h:=tW hd;exact cg rfl rfl (by
   obtain⟨v,rel,su,sg⟩:=s;generalize hW:decide (g8 d ⟨v,rel,su,sg⟩)=W;have no:¬ g8 d ⟨v,rel,su,sg⟩→W=false:=fun hn=>by rw[←hW];simp[hn]
   unfold g8 at no;simp only at no;have Hy:=h.u;have UI:=h.g;have hc:=fun G=>zL d G;have hV:=fun G=>Ea d.r d.r.t G;have qS:=Hx h.r;have sR:ia d.r.c d.r.t=jH d:=rfl;by_cases h1:0≤v∧v≤jH d
   ·have a1:(decide (0≤v)&&decide (v≤jH d))=true:=by simp;omega
    have a2:(!decide (0≤v) || !decide (v≤jH d))=false:=by simp;omega
    by_cases h2:0≤rel∧rel≤1073741824
    ·have b1:(decide (0≤rel)&&decide (rel≤1073741824))=true:=by simp;omega
     have b2:(!decide (0≤rel) || !decide (rel≤1073741824))=false:=by simp;omega
     by_cases h3:su.length=d.u.length
     ·have c1:(su.length:Int)=d.u.length:=by omega
      by_cases h4:sg.length=d.g.length
      ·have d1:(sg.length:Int)=d.g.length:=by omega
       simp (disch:=omega) [-getElem?_pos,wrap64,p9,hc,hd,hV,qS,sR,c5,a1,a2,b1,b2,c1,d1];refine go_loop (fun i:Nat=>abd (jX d.u) d.u.length i d.row [i64 v,i64 rel,jD su,ju sg] G) (fun i=>i≤d.u.length∧∀j,j<i→fe (nth d.u j) (nth su j)) (fun i=>d.u.length-i) 0 rfl (by simp) ⟨by omega,by omega⟩ ?_
       rintro i ⟨hi,hv⟩;simp (disch:=omega) [-getElem?_pos,wrap64,RL];refine b9 (fun h5=>?_) (fun h5=>?_)
       ·have h5:i<d.u.length:=by omega
        have v7:i<su.length:=by omega
        by_cases h6:fe (nth d.u i) (nth su i)
        ·simp (disch:=omega) [-getElem?_pos,wrap64,bo (l:=d.u),bo (l:=su),xh,uL,h6]
         refine cc (i+1) (by simp) ⟨by omega,fun j hj=>?_⟩ (by omega)
         rcases Nat.lt_or_ge j i with h7|h7
         ·exact hv j h7
         ·rwa [show j=i by omega]
        ·simp (disch:=omega) [-getElem?_pos,wrap64,bo (l:=d.u),bo (l:=su),xh,uL,h6]
         exact no (fun h=>h6 (h.2.2.2.2.1 i h5))
       ·obtain rfl:i=d.u.length:=by omega
        refine go_loop (fun i:Nat=>abi (jG d.g) d.g.length i [i64 v,i64 rel,jD su,ju sg] G) (fun i=>i≤d.g.length∧∀j,j<i→mD (nth d.g j) (nth sg j)) (fun i=>d.g.length-i) 0 rfl (by simp) ⟨by omega,by omega⟩ ?_
        rintro i ⟨hi,hg⟩;simp (disch:=omega) [-getElem?_pos,wrap64,RM];refine b9 (fun h5=>?_) (fun h5=>?_)
        ·have h5:i<d.g.length:=by omega
         have v7:i<sg.length:=by omega
         by_cases h6:mD (nth d.g i) (nth sg i)
         ·have iE:(!decide (0≤(nth sg i).o) || !decide ((nth sg i).o≤(nth d.g i).dI))=false:=by simp;exact h6
          simp (disch:=omega) [-getElem?_pos,wrap64,bo (l:=d.g),bo (l:=sg),dG,xr,h6,iE];refine cc (i+1) (by simp) ⟨by omega,fun j hj=>?_⟩ (by omega)
          rcases Nat.lt_or_ge j i with h7|h7
          ·exact hg j h7
          ·rwa [show j=i by omega]
         ·have iE:(!decide (0≤(nth sg i).o) || !decide ((nth sg i).o≤(nth d.g i).dI))=true:=by
           have:¬ (0≤(nth sg i).o∧(nth sg i).o≤(nth d.g i).dI):=h6;simp;omega
          simp (disch:=omega) [-getElem?_pos,wrap64,bo (l:=d.g),bo (l:=sg),dG,xr,h6,iE];exact no (fun h=>h6 (h.2.2.2.2.2 i h5))
        ·obtain rfl:i=d.g.length:=by omega
         rw[←hW];have:g8 d ⟨v,rel,su,sg⟩:=⟨h1,h2,h3,h4,hv,hg⟩;simp[this]
      ·have d1:¬ (sg.length:Int)=d.g.length:=by omega
       simp (disch:=omega) [-getElem?_pos,wrap64,p9,hc,hd,hV,qS,sR,c5,a1,a2,b1,b2,c1,d1];exact no (fun h=>h4 h.2.2.2.1)
     ·have c1:¬ (su.length:Int)=d.u.length:=by omega
      simp (disch:=omega) [-getElem?_pos,wrap64,p9,hc,hd,hV,qS,sR,c5,a1,a2,b1,b2,c1];exact no (fun h=>h3 h.2.2.1)
    ·have b1:(decide (0≤rel)&&decide (rel≤1073741824))=false:=by simp;omega
     have b2:(!decide (0≤rel) || !decide (rel≤1073741824))=true:=by simp;omega
     by_cases c1:(su.length:Int)=d.u.length
     ·by_cases d1:(sg.length:Int)=d.g.length
      ·simp (disch:=omega) [-getElem?_pos,wrap64,p9,hc,hd,hV,qS,sR,c5,a1,a2,b1,b2,c1,d1]
       exact no (fun h=>h2 h.2.1)
      ·simp (disch:=omega) [-getElem?_pos,wrap64,p9,hc,hd,hV,qS,sR,c5,a1,a2,b1,b2,c1,d1]
       exact no (fun h=>h2 h.2.1)
     ·simp (disch:=omega) [-getElem?_pos,wrap64,p9,hc,hd,hV,qS,sR,c5,a1,a2,b1,b2,c1]
      exact no (fun h=>h2 h.2.1)
   ·have a1:(decide (0≤v)&&decide (v≤jH d))=false:=by simp;omega
    have a2:(!decide (0≤v) || !decide (v≤jH d))=true:=by simp;omega
    by_cases h2:0≤rel∧rel≤1073741824
    ·have b1:(decide (0≤rel)&&decide (rel≤1073741824))=true:=by simp;omega
     have b2:(!decide (0≤rel) || !decide (rel≤1073741824))=false:=by simp;omega
     by_cases c1:(su.length:Int)=d.u.length
     ·by_cases d1:(sg.length:Int)=d.g.length
      ·simp (disch:=omega) [-getElem?_pos,wrap64,p9,hc,hd,hV,qS,sR,c5,a1,a2,b1,b2,c1,d1]
       exact no (fun h=>h1 h.1)
      ·simp (disch:=omega) [-getElem?_pos,wrap64,p9,hc,hd,hV,qS,sR,c5,a1,a2,b1,b2,c1,d1]
       exact no (fun h=>h1 h.1)
     ·simp (disch:=omega) [-getElem?_pos,wrap64,p9,hc,hd,hV,qS,sR,c5,a1,a2,b1,b2,c1]
      exact no (fun h=>h1 h.1)
    ·have b1:(decide (0≤rel)&&decide (rel≤1073741824))=false:=by simp;omega
     have b2:(!decide (0≤rel) || !decide (rel≤1073741824))=true:=by simp;omega
     by_cases c1:(su.length:Int)=d.u.length
     ·by_cases d1:(sg.length:Int)=d.g.length
      ·simp (disch:=omega) [-getElem?_pos,wrap64,p9,hc,hd,hV,qS,sR,c5,a1,a2,b1,b2,c1,d1]
       exact no (fun h=>h1 h.1)
      ·simp (disch:=omega) [-getElem?_pos,wrap64,p9,hc,hd,hV,qS,sR,c5,a1,a2,b1,b2,c1,d1]
       exact no (fun h=>h1 h.1)
     ·simp (disch:=omega) [-getElem?_pos,wrap64,p9,hc,hd,hV,qS,sR,c5,a1,a2,b1,b2,c1]
      exact no (fun h=>h1 h.1))
theorem MY(d:Dm)(s:Ds)(G:List aW):bt F 72 [dm d,dst s] G=some (.bool (decide (fB d=0∧g8 d s)),G):=by
 by_cases hd:fB d=0
 ·rw[show decide (fB d=0∧g8 d s)=decide (g8 d s) by simp[hd]]
  exact aii hd s G
 ·rw[show decide (fB d=0∧g8 d s)=false by simp[hd]]
  have hC:=fun G=>zL d G;generalize fB d=x at hd hC;obtain⟨v,rel,su,sg⟩:=s;exact cg rfl rfl (by
   simp[wrap64,p9,hC,hd])
theorem UJ(d:Dm)(s:Ds)(G:List aW):bt F 137 [dm d,dst s] G=some (.bool (decide (fB d=0∧g8 d s)),G) :=
 cg rfl rfl (by
  by_cases hd:fB d=0
  ·simp[wrap64,Gu,zK,hd,MX (tW hd)]
  ·simp[wrap64,Gu,zK,hd])
theorem UK(d:Dm)(s:Ds)(G:List aW):bt F 195 [dm d,dst s] G=some (i64 (dE d s),G) :=
 cg rfl rfl (by
  by_cases hd:fB d=0
  ·by_cases hf:g8 d s
   ·simp[wrap64,DS,zK,hd,MX (tW hd),hf,dE]
   ·simp[wrap64,DS,zK,hd,MX (tW hd),hf,dE]
  ·simp[wrap64,DS,zK,hd,dE])
theorem UL(d:Dm)(s:Ds)(G:List aW):bt F 116 [dm d,dst s] G=some (i64 (dE d s),G) :=
 cg rfl rfl (by
  by_cases hd:fB d=0
  ·by_cases hf:g8 d s
   ·simp[wrap64,DK,zL,hd,MY,hf,dE]
   ·simp[wrap64,DK,zL,hd,MY,hf,dE]
  ·simp[wrap64,DK,zL,hd,dE])
theorem Es{d:Dm}{s:Ds}(h:dE d s=0):Dv d∧g8 d s:=by
 unfold dE at h;split at h
 ·rename_i h1;exact absurd h h1
 split at h
 ·rename_i h1 h2;exact⟨tW (Decidable.of_not_not h1),h2⟩
 ·cases h
noncomputable def lvl(d:Dm)(s:Ds):Int:=if dE d s=0 then jt d.r s.v else 0
theorem MZ(d:Dm)(s:Ds)(G:List aW):bt F 183 [dm d,dst s] G=some (.tuple [i64 (lvl d s),i64 (dE d s)],G) :=
 cg rfl rfl (by
  by_cases hd:dE d s=0
  ·simp[wrap64,GG,UK,hd,ahm (Es hd).1.r,lvl]
  ·simp[wrap64,GG,UK,hd,lvl])
theorem aij{u:Un}{s:Us}(hv:fe u s)(q:Int):qI u s q=if jC u s q then 0 else 15:=by
 unfold qI;rw[if_neg (fun h=>h hv.1),if_neg (fun h=>h hv)];by_cases h:jC u s q
 ·rw[if_pos h,if_neg (fun g=>g h)]
 ·rw[if_neg h,if_pos h]
theorem UM{u:Un}{s:Us}(hv:fe u s)(q:Int)(G:List aW):bt F 207 [un u,us s,i64 q] G =
  some (.tuple (if jC u s q then [us (qJ s q),.bool (decide (s.cq=0)&&decide (0<q)),i64 0] else [us ⟨0,0,false⟩,.bool false,i64 15]),G) :=
 cg rfl rfl (by
  have hc:=hv.1;have h1:=hv.2.1;have hf:0≤s.cq:=by
   rcases hv.2.2 with h | ⟨_,h⟩
   ·omega
   ·have:=G8 hc h;omega
  have D1:min (s.since+1) 1000=min 1000 (s.since+1):=by omega
  by_cases hm:jC u s q
  ·simp +contextual (disch:=omega) [wrap64,GP,qH,Mf hc,Mg hv,hc,hv,hm]
   refine gT (fun h=>?_) (fun h=>?_)
   ·have h':¬ (decide (0<s.cq)=decide (0<q)):=fun e=>by rw[e]at h;simp at h
    unfold qJ;rw[if_neg h'];exact⟨⟨rfl,rfl,rfl⟩,Bool.and_comm _ _⟩
   ·have h':decide (0<s.cq)=decide (0<q):=by
     cases h1:decide (0<s.cq)<;>cases h2:decide (0<q)<;>rw[h1,h2]at h<;>first|rfl|cases h
    unfold qJ;rw[if_pos h'];exact⟨⟨rfl,D1,rfl⟩,Bool.and_comm _ _⟩
  ·simp +contextual (disch:=omega) [wrap64,GP,qH,Mf hc,Mg hv,hc,hv,hm])
structure Dr where
 inf:Int
 los:Int
 tur:Int
 spi:Int
 ovr:Int
 pow:Int
 lN:Int
 deriving Inhabited
abbrev Dr.row(r:Dr):List V:=[i64 r.inf,i64 r.los,i64 r.tur,i64 r.spi,i64 r.ovr,i64 r.pow,i64 r.lN]
abbrev dr(r:Dr):V:=.agg r.row
abbrev wk(d:Dm)(s:Ds)(nv nr:Int)(nu:List Us)(ng:V)(r:Dr)(rel left lv:Int):aW:=.cells
 [im d.r.c,i64 d.r.d,i64 d.r.l,i64 d.r.f,i64 d.r.s,i64 d.r.t,jX d.u,jG d.g,i64 d.gr,i64 s.v,i64 s.rel,jD s.u,ju s.g,
  i64 nv,i64 nr,.fC 3 (nu.map Us.row),ng,i64 r.inf,i64 r.los,i64 r.tur,i64 r.spi,i64 r.ovr,i64 r.pow,i64 r.lN,i64 rel,i64 left,i64 lv]
def jI(d:Dm)(left:Int):Int:=max (left-BI d) 0
theorem M0{r:Rs}(h:ib r=0)(l:Int):0≤ia r.c l∧ia r.c l≤1099511627776:=by
 have hc:=lJ (qP h);have h1:=Bq hc l;have hp:=rD (qP h);have h2:=hc.y0 0 hp;have h3:=hc.y0 (r.c.length-1) (by omega)
 omega
theorem HA{d:Dm}(h:ib d.r=0):0≤BI d∧BI d≤1099511627776:=M0 h _
theorem HB{d:Dm}(h:ib d.r=0):0≤jH d∧jH d≤1099511627776:=M0 h _
theorem M1{d:Dm}(h:ib d.r=0){s:Ds}{nv nr:Int}{nu:List Us}{ng:V}{r:Dr}{rel left lv:Int}(hl:0≤left∧left≤4611686018427387904) :
  bt F 205 [.bO 0 0] [wk d s nv nr nu ng r rel left lv]=some (i64 (jI d left),[wk d s nv nr nu ng r rel left lv]) :=
 cg rfl rfl (by
  generalize hW:jI d left=W;have hD:ia d.r.c d.r.d=BI d:=rfl;have h0:=HA h;simp (disch:=omega) [wrap64,LU,ajJ (lJ (qP h)),hD];exact hW)
theorem HC{g:Int}:∀{us:List Un} {ss:List Us} {F:List Int},lL g us ss F→∀i,i<us.length→nth F i∈pt (nth us i) (nth ss i) g
 |[],[],[],_=>fun i hi=>by simp at hi
 |u::us,s::ss,q::F,h=>fun i hi=>by
  cases i with
  |zero=>exact h.1
  |succ i=>exact HC h.2 i (by simpa using hi)
 |[],_::_,_,h=>h.elim
 |[],[],_::_,h=>h.elim
 |_::_,[],_,h=>h.elim
 |_::_,_::_,[],h=>h.elim
theorem Et{us:List Un}{ss:List Us}{g release:Int}(h:jY us ss g release=0):lL g us ss (g7 us ss g release)∧(g7 us ss g release).sum≤release:=by
 unfold jY at h;split at h
 ·rename_i h1;exact absurd h h1
 split at h
 ·cases h
 rename_i h1 h2;have h1:=Decidable.of_not_not h1;obtain⟨h3,h4,_⟩:=MB h1;have hb:=TT h3 h4.1;unfold g7;rw[if_neg (fun g=>g h1)];cases hr:l8 (iW us ss g) release with
 |none=>exact absurd hr h2
 |some E =>
  rw[hr]at hb;exact⟨hb.lL,hb.sum⟩
noncomputable def gL(d:Dm)(s:Ds)(m:Int)(i:Nat):Int:=if jY d.u s.u d.gr m=0 then nth (g7 d.u s.u d.gr m) i else 0
theorem aik{d:Dm}{s:Ds}{m:Int}{i:Nat}(hi:i<d.u.length):gL d s m i=0∨js (nth d.u i) (nth s.u i) (gL d s m i):=by
 unfold gL;split
 ·rename_i h
  exact .inr (Bx.1 (HC (Et h).1 i hi)).2
 ·exact .inl rfl
theorem M3{d:Dm}{s:Ds}{m:Int}{i:Nat}(hi:i<d.u.length):0≤gL d s m i∧gL d s m i≤1073741824:=by
 rcases aik (s:=s) (m:=m) hi with h|h
 ·omega
 ·exact Hc h
noncomputable def qh(u:Un)(s:Us)(q:Int):Us:=if jC u s q then qJ s q else ⟨0,1,s.out⟩
def gB(f:Nat→Int):Nat→Int
 |0=>0
 |i+1=>gB f i+f i
theorem HD{f:Nat→Int}{n:Nat}(h:∀i,i<n→0≤f i∧f i≤1073741824):∀i,i≤n→0≤gB f i∧gB f i≤1073741824*i:=by
 intro i;induction i with
 |zero=>intro _;simp[gB]
 |succ i ih=>intro hi;have:=ih (by omega);have:=h i (by omega);simp only[gB];omega
noncomputable def pz(d:Dm)(s:Ds)(m:Int)(i:Nat):Int:=pow (nth d.u i) (gL d s m i)
noncomputable def lN(d:Dm)(s:Ds)(m:Int)(i:Nat):Int:=iu (nth s.u i) (gL d s m i)
noncomputable def nK(d:Dm)(s:Ds)(m:Int)(n:Nat):List Us:=(List.range n).map fun i=>qh (nth d.u i) (nth s.u i) (gL d s m i)
theorem HE{d:Dm}{s:Ds}{m:Int}{n:Nat}:(nK d s m n).length=n:=by simp[nK]
theorem zM{d:Dm}{s:Ds}{m:Int}{n:Nat}:nK d s m (n+1)=nK d s m n++[qh (nth d.u n) (nth s.u n) (gL d s m n)]:=by simp[nK,List.range_succ]
def kA(d:Dm)(rel left:Int):Int:=min (min rel (jI d left)) (200*d.gr)
set_option maxHeartbeats 1000000 in
theorem ail{d:Dm}(h:Dv d){s:Ds}(hs:g8 d s){nv nr inf los spi ovr rel left lv:Int}{ng:V}(hl:0≤left∧left≤4611686018427387904)(hr:0≤rel∧rel≤1073741824) :
  bt F 199 [.bO 0 0] [wk d s nv nr [] ng ⟨inf,los,0,spi,ovr,0,0⟩ rel left lv] =
   some (.tuple [],[wk d s nv nr (nK d s (kA d rel left) d.u.length) ng ⟨inf,los,gB (gL d s (kA d rel left)) d.u.length,spi,ovr,gB (pz d s (kA d rel left)) d.u.length,gB (lN d s (kA d rel left)) d.u.length⟩ rel left lv]) :=
 cg rfl rfl (by
  obtain⟨G',hb⟩:=ag8 d.u s.u d.gr (kA d rel left);have hgr:=h.gr;have Ha:min (min rel (jI d left)) (200*d.gr)=kA d rel left:=rfl;have Hy:=h.u;have wW:=hs.2.2.1;have HF:jY d.u s.u d.gr (kA d rel left)=0→(g7 d.u s.u d.gr (kA d rel left)).length=d.u.length:=fun he=>(y9 (Et he).1).1;generalize hM:kA d rel left=M at hb Ha HF;simp (disch:=omega) [wrap64,LO,M1 h.r,Ha,hb];refine go_loop (fun i:Nat=>ada (.bO 0 0) (.slice none 1 ((g7 d.u s.u d.gr M).map fun n=>[i64 n])) (jY d.u s.u d.gr M) (jX d.u) d.u.length i
   [wk d s nv nr (nK d s M i) ng ⟨inf,los,gB (gL d s M) i,spi,ovr,gB (pz d s M) i,gB (lN d s M) i⟩ rel left lv])
   (fun i=>i≤d.u.length) (fun i=>d.u.length-i) 0 rfl (by simp[nK,gB]) (by omega) ?_
  intro i hi;have qF:=HE (d:=d) (s:=s) (m:=M) (n:=i);have s1:=HD (f:=gL d s M) (n:=d.u.length) (fun i hi=>M3 hi) i hi;have s2:=HD (f:=pz d s M) (n:=d.u.length) (fun i hi=>Hd) i hi;have s3:=HD (f:=lN d s M) (n:=d.u.length) (fun i hi=>by have:=Mv (s:=nth s.u i) (q:=gL d s M i);unfold lN;omega) i hi
  simp (disch:=omega) [wrap64,SS];refine b9 (fun h5=>?_) (fun h5=>?_)
  ·have h5:i<d.u.length:=by omega
   have v7:i<s.u.length:=by omega
   have hv:fe (nth d.u i) (nth s.u i):=hs.2.2.2.2.1 i h5;have Cp:=Hd (u:=nth d.u i) (q:=gL d s M i);have qz:=M3 (s:=s) (m:=M) h5;by_cases he:jY d.u s.u d.gr M=0
   ·have HF:=HF he
    have kN:nth (g7 d.u s.u d.gr M) i=gL d s M i:=by simp[gL,he]
    have hm:jC (nth d.u i) (nth s.u i) (gL d s M i):=by
     have:=Bx.1 (HC (Et he).1 i h5);rw[kN]at this;exact this.2.2
    have hN:=UM hv (gL d s M i) [];rw[if_pos hm]at hN;have hP:=D0 (nth d.u i) (gL d s M i) [];generalize hq:gL d s M i=q at *;generalize hp:pow (nth d.u i) q=p at *;simp (config:={ maxSteps:=2000000 }) +contextual (disch:=omega) [-getElem?_pos,-List.length_eq_zero_iff,-Int.natCast_eq_zero,wrap64,bo (l:=d.u),bo (l:=s.u),eA (l:=g7 d.u s.u d.gr M),he,kN,hN,hP,qF];have hx:qh (nth d.u i) (nth s.u i) q=qJ (nth s.u i) q:=by simp[qh,hm]
    refine gT (fun h6=>?_) (fun h6=>?_)
    ·have iE:lN d s M i=1:=by
      simp at h6;simp[lN,iu,hq,h6]
     refine cc (i+1) (by simp[zM,gB,pz,hq,hp,iE,hx]) (by omega) (by omega)
    ·have iE:lN d s M i=0:=by
      have h7:¬ (0<q∧(nth s.u i).cq=0):=fun h=>by rw[decide_eq_true h.1,decide_eq_true h.2]at h6;cases h6
      simp only[lN,iu,hq,if_neg h7]
     refine cc (i+1) (by simp[zM,gB,pz,hq,hp,iE,hx]) (by omega) (by omega)
   ·have hq:gL d s M i=0:=by simp[gL,he]
    have hp:pow (nth d.u i) 0=0:=by simp[pow]
    have iE:lN d s M i=0:=by simp[lN,iu,hq]
    have hN:=UM hv 0 [];have hP:=D0 (nth d.u i) 0 [];rw[hp]at hP;by_cases hm:jC (nth d.u i) (nth s.u i) 0
    ·rw[if_pos hm]at hN
     have hx:qh (nth d.u i) (nth s.u i) 0=qJ (nth s.u i) 0:=by simp[qh,hm]
     simp only[Int.lt_irrefl,decide_false,Bool.and_false]at hN;simp (config:={ maxSteps:=2000000 }) +contextual (disch:=omega) [-getElem?_pos,-List.length_eq_zero_iff,-Int.natCast_eq_zero,wrap64,bo (l:=d.u),bo (l:=s.u),he,hN,hP,qF];refine cc (i+1) (by simp[zM,gB,pz,hq,hp,iE,hx]) (by omega) (by omega)
    ·rw[if_neg hm]at hN
     have hx:qh (nth d.u i) (nth s.u i) 0=⟨0,1,(nth s.u i).out⟩:=by simp[qh,hm]
     simp (config:={ maxSteps:=2000000 }) +contextual (disch:=omega) [-getElem?_pos,-List.length_eq_zero_iff,-Int.natCast_eq_zero,wrap64,bo (l:=d.u),bo (l:=s.u),he,hN,hP,qF];refine cc (i+1) (by simp[zM,gB,pz,hq,hp,iE,hx]) (by omega) (by omega)
  ·obtain rfl:i=d.u.length:=by omega
   simp)
theorem HG(g:List Gt)(s:List Gs)(lv w:Int):0≤mX g s lv w∧mX g s lv w≤17179869184:=by
 unfold mX;split
 ·rename_i h
  unfold kz at h;split at h
  ·rename_i h1;exact absurd h h1
  ·rename_i h1
   obtain⟨h1,h2,h3,h4,h5⟩:=Eh (Decidable.of_not_not h1);have:=Ur (lv:=lv) (w:=w) h2 h1 h3 h4 (i:=g.length) (Nat.le_refl _);omega
 ·omega
def mE(d:Dm)(rel left t:Int):Int:=min rel (jI d left)-t
noncomputable def Eu(d:Dm)(s:Ds)(rel left lv t:Int):Int:=min (mX d.g s.g lv (mE d rel left t)) (jI d left-t)
theorem ain{d:Dm}(h:Dv d){s:Ds}{nv nr inf los tur spi ovr pw st rel left lv:Int}{nu:List Us}{ng:V}(hl:0≤left∧left≤4611686018427387904)(hr:0≤rel∧rel≤1073741824)(ht:0≤tur∧tur≤1099511627776) :
  bt F 198 [.bO 0 0] [wk d s nv nr nu ng ⟨inf,los,tur,spi,ovr,pw,st⟩ rel left lv] =
   some (.tuple [],[wk d s nv nr nu (.slice none 2 ((nI d.g s.g lv (mE d rel left tur)).map Gs.row)) ⟨inf,los,tur,Eu d s rel left lv tur,ovr,pw,st⟩ rel left lv]) :=
 cg rfl rfl (by
  obtain⟨G',hb⟩:=ah4 d.g s.g lv (mE d rel left tur);have hF:=HG d.g s.g lv (mE d rel left tur);have hf:0≤jI d left∧jI d left≤4611686018427387904:=by
   have:=HA h.r;unfold jI;omega
  have hW:min rel (jI d left)-tur=mE d rel left tur:=rfl;have hS:min (mX d.g s.g lv (mE d rel left tur)) (jI d left-tur)=Eu d s rel left lv tur:=rfl;have AN:=M1 h.r (s:=s) (nv:=nv) (nr:=nr) (nu:=nu) (ng:=.slice none 2 ((nI d.g s.g lv (mE d rel left tur)).map Gs.row)) (r:=⟨inf,los,tur,spi,ovr,pw,st⟩) (rel:=rel) (left:=left) (lv:=lv) hl;generalize Eu d s rel left lv tur=S at hS;generalize mE d rel left tur=W at hS hF hb hW AN;simp (disch:=omega) [wrap64,LN,M1 h.r,hW,hb,hS,AN])
theorem aio{d:Dm}(h:Dv d){s:Ds}{nv nr inf los tur spi ovr pw st rel left lv:Int}{nu:List Us}{ng:V}(hl:0≤left∧left≤4611686018427387904)(ht:0≤tur∧tur≤1099511627776)(g5:-1099511627776≤spi∧spi≤1099511627776) :
  bt F 197 [.bO 0 0] [wk d s nv nr nu ng ⟨inf,los,tur,spi,ovr,pw,st⟩ rel left lv] =
   some (.tuple [],[wk d s (left-(tur+spi)-max (left-(tur+spi)-jH d) 0) (min (tur+spi) 1073741824) nu ng ⟨inf,los,tur,spi,max (left-(tur+spi)-jH d) 0,pw,st⟩ rel (left-(tur+spi)) lv]) :=
 cg rfl rfl (by
  have hC:=HB h.r;simp (disch:=omega) [wrap64,LM,UH h.r])
noncomputable def eB(s:Ds)(inf los:Int):Int:=s.v+inf-min los (s.v+inf)
noncomputable def fT(d:Dm)(s:Ds)(inf los rel:Int):Int:=gB (gL d s (kA d rel (eB s inf los))) d.u.length
noncomputable def kZ(d:Dm)(s:Ds)(inf los rel:Int):Int:=Eu d s rel (eB s inf los) (jt d.r s.v) (fT d s inf los rel)
noncomputable def qT(d:Dm)(s:Ds)(inf los rel:Int):Int:=max (eB s inf los-(fT d s inf los rel+kZ d s inf los rel)-jH d) 0
noncomputable def la(d:Dm)(s:Ds)(inf los rel:Int):Dr:=⟨inf,min los (s.v+inf),fT d s inf los rel,kZ d s inf los rel,qT d s inf los rel,gB (pz d s (kA d rel (eB s inf los))) d.u.length,gB (lN d s (kA d rel (eB s inf los))) d.u.length⟩
noncomputable def lr(d:Dm)(s:Ds)(inf los rel:Int):Ds:=⟨eB s inf los-(fT d s inf los rel+kZ d s inf los rel)-qT d s inf los rel,min (fT d s inf los rel+kZ d s inf los rel) 1073741824,
 nK d s (kA d rel (eB s inf los)) d.u.length,nI d.g s.g (jt d.r s.v) (mE d rel (eB s inf los) (fT d s inf los rel))⟩
theorem UN{d:Dm}(h:Dv d){s:Ds}{inf los rel:Int}:0≤fT d s inf los rel∧fT d s inf los rel≤6442450944:=by
 have h1:=HD (f:=gL d s (kA d rel (eB s inf los))) (n:=d.u.length) (fun i hi=>M3 hi) d.u.length (Nat.le_refl _);have h2:=h.u;unfold fT;omega
theorem M4{C:bC}{args:List V}{f:FuncId}{fs:List FuncId}{G G':List aW}{r:V}{o:Option (List aW)}(h1:C f args G=some (r,G'))(h2:oB C args fs G'=o):oB C args (f::fs) G=o:=by
 simp only[oB,h1,h2]
abbrev UO(d:Dm)(s:Ds)(inf los rel lv:Int):aW:=.cells
 [im d.r.c,i64 d.r.d,i64 d.r.l,i64 d.r.f,i64 d.r.s,i64 d.r.t,jX d.u,jG d.g,i64 d.gr,i64 s.v,i64 s.rel,jD s.u,ju s.g,
  i64 0,i64 0,.fC 3 [],.fC 2 [],i64 inf,i64 los,i64 0,i64 0,i64 0,i64 0,i64 0,i64 rel,i64 0,i64 lv]
theorem aip{d:Dm}(h:Dv d){s:Ds}(hs:g8 d s){inf los rel:Int}(hi:0≤inf∧inf≤1073741824)(hl:0≤los∧los≤1073741824)(hr:0≤rel∧rel≤1073741824) :
  ∃lf,bt F 185 [.bO 0 0] [UO d s inf los rel (jt d.r s.v)] =
   some (.tuple [],[wk d s (lr d s inf los rel).v (lr d s inf los rel).rel (lr d s inf los rel).u (.slice none 2 ((lr d s inf los rel).g.map Gs.row)) (la d s inf los rel) rel lf (jt d.r s.v)]):=by
 suffices hh:∀Q:V→List aW→Prop,(∀lf,Q (.tuple []) [wk d s (lr d s inf los rel).v (lr d s inf los rel).rel (lr d s inf los rel).u (.slice none 2 ((lr d s inf los rel).g.map Gs.row)) (la d s inf los rel) rel lf (jt d.r s.v)])→jq (bt F) 185 [.bO 0 0] [UO d s inf los rel (jt d.r s.v)] Q by
  obtain⟨_,G',h,lf,rfl,rfl⟩:=hh (fun v G'=>∃lf,v=.tuple []∧G'=[wk d s (lr d s inf los rel).v (lr d s inf los rel).rel (lr d s inf los rel).u (.slice none 2 ((lr d s inf los rel).g.map Gs.row)) (la d s inf los rel) rel lf (jt d.r s.v)]) fun lf=>⟨lf,rfl,rfl⟩;exact⟨lf,h⟩
 intro Q hQ;refine Y7 rfl rfl ?_;have hv:=hs.1;have hC:=HB h.r;simp (disch:=omega) [wrap64,LG];have hL:0≤eB s inf los∧eB s inf los≤4611686018427387904:=by unfold eB;omega
 have hT:=UN h (s:=s) (inf:=inf) (los:=los) (rel:=rel);have hP:-1099511627776≤kZ d s inf los rel∧kZ d s inf los rel≤1099511627776:=by
  have h1:=HG d.g s.g (jt d.r s.v) (mE d rel (eB s inf los) (fT d s inf los rel));have h2:0≤jI d (eB s inf los):=by unfold jI;omega
  unfold kZ Eu;omega
 have h1:=ail h hs (nv:=0) (nr:=0) (inf:=inf) (los:=min los (s.v+inf)) (spi:=0) (ovr:=0) (rel:=rel) (left:=eB s inf los) (lv:=jt d.r s.v) (ng:=.fC 2 []) hL hr;have h2:=ain h (s:=s) (nv:=0) (nr:=0) (nu:=nK d s (kA d rel (eB s inf los)) d.u.length) (ng:=.fC 2 []) (inf:=inf) (los:=min los (s.v+inf)) (tur:=fT d s inf los rel) (spi:=0) (ovr:=0)
  (pw:=gB (pz d s (kA d rel (eB s inf los))) d.u.length) (st:=gB (lN d s (kA d rel (eB s inf los))) d.u.length) (rel:=rel) (left:=eB s inf los) (lv:=jt d.r s.v) hL hr (by omega)
 have h3:=aio h (s:=s) (nv:=0) (nr:=0) (nu:=nK d s (kA d rel (eB s inf los)) d.u.length) (ng:=.slice none 2 ((nI d.g s.g (jt d.r s.v) (mE d rel (eB s inf los) (fT d s inf los rel))).map Gs.row)) (inf:=inf) (los:=min los (s.v+inf)) (tur:=fT d s inf los rel) (spi:=kZ d s inf los rel) (ovr:=0)
  (pw:=gB (pz d s (kA d rel (eB s inf los))) d.u.length) (st:=gB (lN d s (kA d rel (eB s inf los))) d.u.length) (rel:=rel) (left:=eB s inf los) (lv:=jt d.r s.v) hL (by omega) hP
 exact⟨_,M4 h1 (M4 h2 (M4 h3 rfl)),hQ _⟩
theorem aiq(n:Int)(G:List aW):bt F 184 [i64 n] G=some (.bool (!decide (0≤n∧n≤1073741824)),G) :=
 cg rfl rfl (by
  simp[wrap64,LF,dG])
theorem air(l:List Int)(hl:l.length≤1000)(p:Int→Bool)(f:FuncId)(G:List aW)(h:∀n,bt F f [i64 n] G=some (.bool (p n),G)) :
  ∃k:Int,(decide (0≤k)=l.any p)∧bt F 145 [ints l,.fn f []] G=some (i64 k,G):=by
 suffices hh:∀Q:V→List aW→Prop,(∀k:Int,decide (0≤k)=l.any p→Q (i64 k) G)→jq (bt F) 145 [ints l,.fn f []] G Q by
  obtain⟨_,G',h,k,h1,rfl,rfl⟩:=hh (fun v G'=>∃k:Int,decide (0≤k)=l.any p∧v=i64 k∧G'=G) fun k hk=>⟨k,hk,rfl,rfl⟩;exact⟨k,h1,h⟩
 intro Q hQ;refine jV rfl rfl ?_;simp (disch:=omega) [-getElem?_pos,wrap64,Lf];refine go_loop (fun i:Nat=>aci (ints l) (.fn f []) l.length i G) (fun i=>i≤l.length∧∀x∈l.take i,p x=false) (fun i=>l.length-i) 0 rfl (by simp) ⟨by omega,by simp⟩ ?_
 rintro i ⟨hi,hp⟩;simp (disch:=omega) [-getElem?_pos,wrap64,Sq];refine b9 (fun h5=>?_) (fun h5=>?_)
 ·have h5:i<l.length:=by omega
  simp (disch:=omega) [-getElem?_pos,wrap64,eA (l:=l),h];refine gT (fun h6=>?_) (fun h6=>?_)
  ·refine hQ _ ?_
   rw[decide_eq_true (by omega)]
   exact(List.any_eq_true.2 ⟨_,rZ h5,h6⟩).symm
  ·refine cc (i+1) (by simp) ⟨by omega,?_⟩ (by omega)
   intro x hx;rw[jF h5]at hx;rcases List.mem_append.1 hx with hx|hx
   ·exact hp x hx
   ·rw[List.mem_singleton.1 hx];exact h6
 ·obtain rfl:i=l.length:=by omega
  refine hQ _ ?_;rw[List.take_length]at hp;rw[show l.any p=false from List.any_eq_false.2 fun x hx=>by rw[hp x hx];simp]
  rfl
theorem UP(l:List Int)(hl:l.length≤1000)(p:Int→Bool)(f:FuncId)(G:List aW)(h:∀n,bt F f [i64 n] G=some (.bool (p n),G)) :
  bt F 88 [ints l,.fn f []] G=some (.bool (l.any p),G) :=
 cg rfl rfl (by
  obtain⟨k,h1,h2⟩:=air l hl p f G h;simp[wrap64,KV,h2];exact h1)
def uS(n:Int):Bool:=!decide (0≤n∧n≤1073741824)
noncomputable def mZ(d:Dm)(s:Ds)(inf los rel:Int):Int:=if dE d s≠0 then dE d s else if [inf,los,rel].any uS then 1 else 0
noncomputable def qi(d:Dm)(s:Ds)(inf los rel:Int):V:=.tuple (if mZ d s inf los rel=0 then [dst (lr d s inf los rel),dr (la d s inf los rel),i64 0] else [.agg [i64 0,i64 0,.slice (some 0) 3 [],.slice (some 0) 2 []],dr ⟨0,0,0,0,0,0,0⟩,i64 (mZ d s inf los rel)])
theorem ais(d:Dm)(s:Ds)(inf los rel:Int):∃G',bt F 159 [dm d,dst s,i64 inf,i64 los,i64 rel] []=some (qi d s inf los rel,G'):=by
 suffices h:∀Q:V→List aW→Prop,(∀G',Q (qi d s inf los rel) G')→jq (bt F) 159 [dm d,dst s,i64 inf,i64 los,i64 rel] [] Q by
  obtain⟨_,G',h,rfl⟩:=h (fun v G'=>v=qi d s inf los rel) fun _=>rfl;exact⟨G',h⟩
 intro Q hQ;refine jV rfl rfl ?_;have hc:bt F 88 [.slice none 1 [[i64 inf],[i64 los],[i64 rel]],.fn 184 []] []=some (.bool ([inf,los,rel].any uS),[]) :=
  UP [inf,los,rel] (by simp) uS 184 [] (fun n=>aiq n [])
 unfold qi mZ at hQ;generalize hx:[inf,los,rel].any uS=x at hc hQ;by_cases hd:dE d s=0
 ·obtain⟨pA,AO⟩:=Es hd
  have uj:lvl d s=jt d.r s.v:=by simp[lvl,hd]
  simp only[hd,ne_eq,not_true_eq_false,if_false]at hQ;cases x with
  |true =>
   simp only[if_true,if_neg (show ¬ (1:Int)=0 by omega)]at hQ
   simp[wrap64,DQ,MZ,hd,uj,hc];exact hQ _
  |false =>
   simp only[uS,List.any_cons,List.any_nil,Bool.or_false,Bool.or_eq_false_iff,Bool.not_eq_false',decide_eq_true_eq]at hx;obtain⟨lf,hr⟩:=aip pA AO hx.1 hx.2.1 hx.2.2;simp[wrap64,DQ,MZ,hd,uj,hc,hr];exact hQ _
 ·simp only[hd,ne_eq,not_false_eq_true,if_true,if_false]at hQ
  simp[wrap64,DQ,MZ,hd];exact hQ _
end Go.Proofs.YtmpikpodpgnjhaaGreat
namespace Go.Proofs.YtmpikpodpgnjhaaGreat
set_option linter.all false
open Go.Vm
end Go.Proofs.YtmpikpodpgnjhaaGreat
namespace Go.Proofs.YtmpikpodpgnjhaaGreat
set_option linter.all false
open Go.Vm
theorem Ev{c:List Pt}(h:Cv c):∀{i j:Nat},i≤j→j<c.length→(nth c i).x≤(nth c j).x:=by
 intro i j;induction j with
 |zero=>intro h1 _;obtain rfl:i=0:=by omega
        omega
 |succ j ih =>
  intro h1 h2;rcases Nat.lt_or_ge i (j+1) with h3|h3
  ·have:=ih (by omega) (by omega)
   have:=h.up (j+1) (by omega) h2
   simp only[Nat.add_sub_cancel]at this;omega
  ·obtain rfl:i=j+1:=by omega
   omega
theorem UQ{c:List Pt}(h:Cv c){y:Int}{i:Nat}(hi:i+1<c.length)(h1:(nth c i).y≤y)(h2:y<(nth c (i+1)).y):(nth c i).x≤zC c y i∧zC c y i≤(nth c (i+1)).x:=by
 have u1:=h.up (i+1) (by omega) hi
 simp only[Nat.add_sub_cancel]at u1;have a1:(y-(nth c i).y+1)*((nth c (i+1)).x-(nth c i).x)≤((nth c (i+1)).y-(nth c i).y)*((nth c (i+1)).x-(nth c i).x):=Int.mul_le_mul_of_nonneg_right (by omega) (by omega)
 have a2:0<(y-(nth c i).y+1)*((nth c (i+1)).x-(nth c i).x):=Int.mul_pos (by omega) (by omega)
 unfold zC;rw[Int.tdiv_eq_ediv_of_nonneg (by omega)]
 have b1:0≤((y-(nth c i).y+1)*((nth c (i+1)).x-(nth c i).x)-1) / ((nth c (i+1)).y-(nth c i).y):=Int.ediv_nonneg (by omega) (by omega)
 have b2:((y-(nth c i).y+1)*((nth c (i+1)).x-(nth c i).x)-1) / ((nth c (i+1)).y-(nth c i).y)≤(nth c (i+1)).x-(nth c i).x:=by
  refine Int.le_trans (Int.ediv_le_ediv (by omega) (show _≤((nth c (i+1)).x-(nth c i).x)*((nth c (i+1)).y-(nth c i).y) by rw[Int.mul_comm ((nth c (i+1)).x-(nth c i).x)];omega)) ?_
  rw[Int.mul_ediv_cancel _ (by omega)]
  exact Int.le_refl _
 omega
theorem M5{c:List Pt}(h:Cv c){y:Int}:∀(m i:Nat),i+m=c.length-1→(nth c i).y≤y→(nth c 0).x≤qe c y m i∧qe c y m i≤(nth c (c.length-1)).x
 |0,i,hi,_=>by
  have hp:=h.pos;have:=Ev h (i:=0) (j:=c.length-1) (by omega) (by omega)
  unfold qe;omega
 |m+1,i,hi,hy=>by
  have hp:=h.pos;unfold qe;split
  ·rename_i h2
   have h3:=UQ h (i:=i) (by omega) hy h2
   have:=Ev h (i:=0) (j:=i) (by omega) (by omega)
   have:=Ev h (i:=i+1) (j:=c.length-1) (by omega) (by omega)
   omega
  ·exact M5 h m (i+1) (by omega) (by omega)
theorem ait{r:Rs}(h:ib r=0)(v:Int):0≤jt r v∧jt r v≤16777216:=by
 have hs:=Hw h;have hc:=lJ hs.c;have hp:=hc.pos;have:=hs.top;have h0:=hc.x0 0 hp;have h1:=Ev hc (i:=0) (j:=r.c.length-1) (by omega) (by omega)
 unfold jt;split
 ·omega
 ·have:=M5 hc (y:=v) (r.c.length-1) 0 (by omega) (by omega)
  unfold uP;omega
theorem aiu{d:Dm}{s:Ds}(h:Dv d)(hf:g8 d s):aE d.g s.g (jt d.r s.v)=0:=by
 have hr:=ait h.r s.v;have hg:=h.g;have hl:=hf.2.2.2.1;unfold aE;rw[if_neg (by omega),if_neg (by omega),if_neg (fun g=>g hf.2.2.2.2.2),if_neg (fun g=>g (rC fun i _ hi=>h.gv i (by omega))),if_neg (by omega)]
theorem M6(l:List Int):∀i,i≤l.length→gB (fun j=>nth l j) i=(l.take i).sum
 |0,_=>by simp[gB]
 |i+1,h=>by
  rw[jF (by omega),List.sum_append,← M6 l i (by omega)]
  simp[gB]
theorem M7:∀i,gB (fun _=>0) i=0
 |0=>rfl
 |i+1=>by simp[gB,M7 i]
theorem aiv{d:Dm}(s:Ds){m:Int}(hm:0≤m):gB (gL d s m) d.u.length≤m:=by
 by_cases he:jY d.u s.u d.gr m=0
 ·obtain⟨h1,h2⟩:=Et he
  have hl:=(y9 h1).1;have:gL d s m=fun j=>nth (g7 d.u s.u d.gr m) j:=by funext j;simp[gL,he]
  rw[this,M6 _ _ (by omega),List.take_of_length_le (by omega)]
  exact h2
 ·have:gL d s m=fun _=>0:=by funext j;simp[gL,he]
  rw[this,M7];exact hm
structure Stp(d:Dm)(s:Ds)(inf los rel:Int):Prop where
 L:eB s inf los=max 0 (s.v+inf-los)
 T0:0≤fT d s inf los rel
 Tr:fT d s inf los rel≤rel
 Tf:fT d s inf los rel≤jI d (eB s inf los)
 P0:0≤kZ d s inf los rel
 sum:fT d s inf los rel+kZ d s inf los rel≤jI d (eB s inf los)
 P1:kZ d s inf los rel≤17179869184
 w0:0≤mE d rel (eB s inf los) (fT d s inf los rel)∧mE d rel (eB s inf los) (fT d s inf los rel)≤1073741824
theorem M8{d:Dm}(h:Dv d){s:Ds}(hf:g8 d s){inf los rel:Int}(hi:0≤inf∧inf≤1073741824)(hl:0≤los∧los≤1073741824)(hr:0≤rel∧rel≤1073741824):Stp d s inf los rel:=by
 have hv:=hf.1;have hg:=h.gr;have qz:0≤jI d (eB s inf los):=by unfold jI;omega
 have hm:0≤kA d rel (eB s inf los):=by unfold kA;omega
 have h1:=aiv (d:=d) s hm;have h2:=UN h (s:=s) (inf:=inf) (los:=los) (rel:=rel);have h3:fT d s inf los rel≤kA d rel (eB s inf los):=h1;have h4:=HG d.g s.g (jt d.r s.v) (mE d rel (eB s inf los) (fT d s inf los rel));have h5:kZ d s inf los rel=min (mX d.g s.g (jt d.r s.v) (mE d rel (eB s inf los) (fT d s inf los rel))) (jI d (eB s inf los)-fT d s inf los rel):=rfl;unfold kA at h3;refine⟨by unfold eB;omega,h2.1,by omega,by omega,by omega,by omega,by omega,?_⟩
 unfold mE;omega
end Go.Proofs.YtmpikpodpgnjhaaGreat
namespace Go.Proofs.YtmpikpodpgnjhaaGreat
set_option linter.all false
open Go.Vm
attribute [local simp] eU eV eS eT
theorem aix(r:Dr)(ht:0≤r.tur∧r.tur≤1099511627776)(hs:0≤r.spi∧r.spi≤1099511627776)(ho:0≤r.ovr∧r.ovr≤1099511627776)(G:List aW):bt F 93 [dr r] G=some (i64 (r.tur+r.spi+r.ovr),G) :=
 cg rfl rfl (by
  simp (disch:=omega) [wrap64,KX])
theorem aiy{l:List Int}(h:l.length=5):∃a b c d e,l=[a,b,c,d,e]:=by
 match l,h with
 |[a,b,c,d,e],_=>exact⟨a,b,c,d,e,rfl⟩
theorem Ew{l:List Int}{i j:Nat}{v:Int}(h:i<l.length):nth (l.set i v) j=if i=j then v else nth l j:=by
 simp only[nth,List.getD,List.getElem?_set];by_cases e:i=j
 ·subst e;simp[h]
 ·simp[e]
theorem aiz{c:List Pt}{x y dx dy:Int}(h:Cw c x y dx dy 1)(h2:2≤c.length)(hx:0≤x∧x≤1000)(hy:0≤y∧y≤1000)(GZ:0≤dx∧dx≤1000)(G4:0≤dy∧dy≤1000)
  {a1 a2 a3 a4 a5:Int} (l1:x≤a1) (l2:a1≤a2) (l3:a2≤a3) (l4:a3≤a4) (l5:a4≤a5) (l6:a5≤(nth c (c.length-1)).x):ib ⟨c,a1,a2,a3,a4,a5⟩=0:=by
 have hc:=h.mT hx hy GZ G4 (by omega)
 have hf:=h.kc;have hu:=h.up hx hy GZ G4 (by omega) (c.length-1) (by omega)
 have h0:(nth c 0).x=x:=by rw[h.first]
 unfold ib;simp only;rw[if_neg (fun g=>g hc),if_neg (by omega),if_neg (by omega),if_pos,rC]
 ·intro i ME qK
  have:i=1∨i=2∨i=3∨i=4∨i=5∨i=6:=by omega
  rcases this with rfl|rfl|rfl|rfl|rfl|rfl<;>simp only[oV,qO,nth,List.getD,List.getElem?_cons_succ,List.getElem?_cons_zero,Option.getD_some]<;>refine if_neg ?_
  ·have:(nth c 0).x≤a1:=by omega
   simp only[nth,List.getD]at this;simp;omega
  ·simp;omega
  ·simp;omega
  ·simp;omega
  ·simp;omega
  ·simp only[nth,List.getD]at l6;simp;omega
 ·refine rC fun i ME qK=>?_
  have:=h.step i (by omega) (by omega)
  exact if_neg (by omega)
theorem aiA{l:List Int}{k:Nat}(hd:eM l k):∃r k',bt F 154 [.bO 0 0] [dk l k]=some (.agg r.cells,[dk l k'])∧eM l k'∧ib r=0∧(nth r.c (r.c.length-1)).y≤10000:=by
 suffices h:∀Q:V→List aW→Prop,(∀r k',eM l k'→ib r=0→(nth r.c (r.c.length-1)).y≤10000→Q (.agg r.cells) [dk l k'])→jq (bt F) 154 [.bO 0 0] [dk l k] Q by
  obtain⟨_,_,h,r,k',rfl,rfl,h1⟩:=h (fun v G=>∃r k',v=.agg r.cells∧G=[dk l k']∧eM l k'∧ib r=0∧(nth r.c (r.c.length-1)).y≤10000) fun r k' a b c=>⟨r,k',rfl,rfl,a,b,c⟩;exact⟨r,k',h,h1⟩
 intro Q hQ;refine jV rfl rfl ?_;obtain⟨a1,k1,n1,kd,Mq⟩:=gU hd 10 (by omega)
 obtain⟨a2,k2,n2,ik,Mr⟩:=gU kd 20 (by omega)
 obtain⟨c,k3,n3,mV,Ct,hc⟩:=Mp ik (x:=100+a1) (y:=a2) (dx:=40) (dy:=200) true (by omega) (by omega) (by omega) (by omega)
 simp only[if_true]at hc;have hu:=hc.up (by omega) (by omega) (by omega) (by omega) (by omega)
 have hf:=hc.kc;have h0:(nth c 0).x=100+a1:=by rw[hc.first]
 have hu1:=hu (c.length-1) (by omega)
 have UR:(nth c 0).x≤(nth c (c.length-1)).x:=by
  have:∀i,i<c.length→(nth c 0).x≤(nth c i).x:=by
   intro i;induction i with
   |zero=>intro _;omega
   |succ i ih=>intro hi;have:=ih (by omega);have:=hc.step (i+1) (by omega) hi;simp only[Nat.add_sub_cancel]at this;omega
  exact this _ (by omega)
 have h3:((c.length:Int)-1).toNat=c.length-1:=by omega
 have h5:0≤(c.length:Int)-1:=by omega
 simp (disch:=omega) [-getElem?_pos,wrap64,Ll,n1,n2,n3,bo (l:=c),h3,h5];refine go_loop (fun s:Nat×Int×List Int×Nat=>aco (.bO 0 0) s.2.1 (nth c (c.length-1)).x s.1 [.aK,i64 0,i64 0,i64 0,i64 0,i64 0] [im c,i64 0,i64 0,i64 0,i64 0,i64 0] (dS s.2.2.1) [dk l s.2.2.2])
  (fun s=>s.1≤5∧s.2.2.1.length=5∧(100+a1≤s.2.1∧s.2.1≤(nth c (c.length-1)).x)∧(∀j,j<s.1→100+a1≤nth s.2.2.1 j)∧(∀i j,i≤j→j<s.1→nth s.2.2.1 i≤nth s.2.2.1 j)∧(∀j,j<s.1→nth s.2.2.1 j≤s.2.1)∧eM l s.2.2.2)
  (fun s=>5-s.1) (0,100+a1,[0,0,0,0,0],k3) rfl (by simp[dS,h0]) ⟨by simp,by simp,⟨by simp,by simp only;omega⟩,by simp,by simp,by simp,mV⟩ ?_
 rintro⟨i,at',ls,k⟩ ⟨hi,Ex,⟨b1,b2⟩,h6,h7,h8,hd⟩;simp only at hi Ex b1 b2 h6 h7 h8 hd;simp (disch:=omega) [-getElem?_pos,wrap64,Ss];refine b9 (fun h9=>?_) (fun h9=>?_)
 ·have h9:i<5:=by omega
  have cF:¬ (5:Int)-i=0:=by omega
  have hq0:0≤((nth c (c.length-1)).x-at').tdiv (5-i):=Int.tdiv_nonneg (by omega) (by omega)
  have Kk:((nth c (c.length-1)).x-at').tdiv (5-i)≤(nth c (c.length-1)).x-at':=Int.tdiv_le_self _ (by omega)
  obtain⟨p,k4,n4,rE,hp⟩:=gU hd (((nth c (c.length-1)).x-at').tdiv (5-i)+1) (by omega)
  simp (disch:=omega) [-getElem?_pos,wrap64,n4,cF];refine cc (i+1,at'+p,ls.set i (at'+p),k4) (by simp) ⟨by simp only;omega,by simp[Ex],⟨by simp only;omega,by simp only;omega⟩,?_,?_,?_,rE⟩ (by simp only;omega)
  ·intro j hj
   simp only at hj ⊢;rw[Ew (by omega)]
   split
   ·omega
   ·exact h6 j (by omega)
  ·intro i' j Ma hj
   simp only at hj ⊢;rw[Ew (by omega),Ew (by omega)]
   by_cases e1:i=j
   ·rw[if_pos e1]
    split
    ·omega
    ·have:=h8 i' (by omega);omega
   ·rw[if_neg e1,if_neg (by omega)]
    exact h7 i' j Ma (by omega)
  ·intro j hj
   simp only at hj ⊢;rw[Ew (by omega)]
   split
   ·omega
   ·have:=h8 j (by omega);omega
 ·obtain rfl:i=5:=by omega
  obtain⟨e1,e2,e3,e4,e5,rfl⟩:=aiy Ex;simp (disch:=omega) [-getElem?_pos,wrap64,dS];have q1:=h6 0 (by omega)
  have q2:=h7 0 1 (by omega) (by omega)
  have q3:=h7 1 2 (by omega) (by omega)
  have q4:=h7 2 3 (by omega) (by omega)
  have q5:=h7 3 4 (by omega) (by omega)
  have q6:=h8 4 (by omega)
  exact hQ ⟨c,e1,e2,e3,e4,e5⟩ k hd (aiz hc Ct (by omega) (by omega) (by omega) (by omega) q1 q2 q3 q4 q5 (Int.le_trans q6 b2)) (by simp only;omega)
structure Gw(l:List Rt):Prop where
 cw:∀i,i<l.length→Cw (nth l i).c 0 0 6 20 0
 lv:∀i,i<l.length→0≤(nth l i).lv∧(nth l i).lv≤1000
 up:∀i,0<i→i<l.length→(nth l (i-1)).lv<(nth l i).lv
theorem Gw.mT{l:List Rt}(h:Gw l)(h1:1≤l.length)(h2:l.length≤3){m v:Int}(hm:0≤m∧m≤1000)(hv:0≤v∧v≤1000):j0 ⟨l,m,v⟩=0:=by
 unfold j0;simp only;rw[if_neg (by omega),if_neg (by omega),if_neg,if_neg (by omega)]
 refine fun hn=>hn (rC fun i _ hi=>?_);have hi:i<l.length:=by omega
 have hc:=h.cw i hi;have hl:=h.lv i hi;have hp:=hc.pos;have hf:=hc.kc;have hu:=hc.up (by omega) (by omega) (by omega) (by omega) (by omega) ((nth l i).c.length-1) (by omega)
 have h0:(nth (nth l i).c 0).x=0∧(nth (nth l i).c 0).y=0:=by rw[hc.first];exact⟨rfl,rfl⟩
 unfold nG;rw[if_neg (by omega),if_neg,if_neg (fun g=>g (hc.mT (by omega) (by omega) (by omega) (by omega) (by omega))),if_neg (fun g=>g h0),if_neg (by omega)]
 rintro⟨h3,h4⟩;have:=h.up i h3 hi;omega
theorem Gw.snoc{l:List Rt}(h:Gw l){r:Rt}(hc:Cw r.c 0 0 6 20 0)(hl:0≤r.lv∧r.lv≤1000)(hu:0<l.length→(nth l (l.length-1)).lv<r.lv):Gw (l++[r]):=by
 refine⟨fun i hi=>?_,fun i hi=>?_,fun i h0 hi=>?_⟩
 ·simp at hi
  rw[iS];split
  ·exact h.cw i (by assumption)
  ·rw[if_pos (by omega)];exact hc
 ·simp at hi
  rw[iS];split
  ·exact h.lv i (by assumption)
  ·rw[if_pos (by omega)];exact hl
 ·simp at hi
  rw[iS,iS,if_pos (by omega)]
  split
  ·exact h.up i h0 (by assumption)
  ·obtain rfl:i=l.length:=by omega
   rw[if_pos rfl];exact hu h0
abbrev M9(g:Gt):V:=.agg [.slice (some 0) 2 (g.r.map Rt.row),i64 g.dI,i64 g.move]
theorem aiB{l:List Int}{k:Nat}(hd:eM l k):∃g k',bt F 182 [.bO 0 0] [dk l k]=some (M9 g,[dk l k'])∧eM l k'∧j0 g=0:=by
 suffices h:∀Q:V→List aW→Prop,(∀g k',eM l k'→j0 g=0→Q (M9 g) [dk l k'])→jq (bt F) 182 [.bO 0 0] [dk l k] Q by
  obtain⟨_,_,h,r,k',rfl,rfl,h1⟩:=h (fun v G=>∃r k',v=M9 r∧G=[dk l k']∧eM l k'∧j0 r=0) fun r k' a b=>⟨r,k',rfl,rfl,a,b⟩;exact⟨r,k',h,h1⟩
 intro Q hQ;refine jV rfl rfl ?_;obtain⟨a1,k1,n1,kd,Mq⟩:=gU hd 12 (by omega)
 obtain⟨a2,k2,n2,ik,Mr⟩:=gU kd 6 (by omega)
 obtain⟨a3,k3,n3,mV,Tz⟩:=gU ik 40 (by omega)
 obtain⟨a4,k4,n4,rE,TA⟩:=gU mV 3 (by omega)
 simp (disch:=omega) [wrap64,LD,n1,n2,n3,n4];refine go_loop (fun s:List Rt×Int×Int×Nat=>acX (.bO 0 0) s.2.1 s.2.2.1 [.aK,i64 0,i64 0] [.slice (some 1027) 2 (s.1.map Rt.row),i64 a1,i64 a2] s.1.length [dk l s.2.2.2])
  (fun s=>Gw s.1∧(s.1.length:Int)+s.2.2.1≤2 ∧ -1≤s.2.2.1∧(1≤s.1.length∨0≤s.2.2.1)∧(0≤s.2.1∧s.2.1≤130+50*s.1.length)∧(0<s.1.length→(nth s.1 (s.1.length-1)).lv<s.2.1)∧eM l s.2.2.2) (fun s=>(s.2.2.1+1).toNat)
  ([],90+a3,a4,k4) rfl (by simp) ⟨⟨by simp,by simp,by simp⟩,by simp;omega,by simp only;omega,by simp only;omega,by simp;omega,by simp,rE⟩ ?_
 rintro⟨r,lv,m,k⟩ ⟨hr,h1,h2,h3,h4,h5,hd⟩;simp only at h1 h2 h3 h4 h5 hd hr;obtain⟨c,k5,n5,D2,Ct,hc⟩:=Mp hd (x:=0) (y:=0) (dx:=6) (dy:=20) false (by omega) (by omega) (by omega) (by omega)
 obtain⟨a6,k6,n6,D3,ha6⟩:=gU D2 40 (by omega)
 simp (disch:=omega) [wrap64,SN];refine b9 (fun h6=>?_) (fun h6=>?_)
 ·simp (disch:=omega) [wrap64,n5,n6]
  refine cc (r++[⟨lv,c⟩],lv+(1+a6),m-1,k6) (by simp) ⟨hr.snoc hc (by simp only;omega) h5,by simp;omega,by simp only;omega,by simp,by simp;omega,by simp[iS];omega,D3⟩ (by simp only;omega)
 ·exact hQ ⟨r,a1,a2⟩ k hd (hr.mT (by omega) (by omega) (by omega) (by omega))
abbrev Na(l:List Gt):V:=.slice (some 0) 3 (l.map Gt.row)
abbrev HH(l:List Gs):V:=.slice (some 0) 2 (l.map Gs.row)
structure HI(a:List Gt)(b:List Gs):Prop where
 len:a.length=b.length
 gate:∀i,i<a.length→j0 (nth a i)=0
 state:∀i,i<a.length→mD (nth a i) (nth b i)
theorem aiC{l:List Int}{k:Nat}(hd:eM l k){m:Nat}(hm:m≤1000):∃a b k',bt F 156 [.bO 0 0,i64 m] [dk l k]=some (.tuple [Na a,HH b],[dk l k'])∧eM l k'∧HI a b∧a.length≤m:=by
 suffices h:∀Q:V→List aW→Prop,(∀a b k',eM l k'→HI a b→a.length≤m→Q (.tuple [Na a,HH b]) [dk l k'])→jq (bt F) 156 [.bO 0 0,i64 m] [dk l k] Q by
  obtain⟨_,_,h,a,b,k',rfl,rfl,h1⟩:=h (fun v G=>∃a b k',v=.tuple [Na a,HH b]∧G=[dk l k']∧eM l k'∧HI a b∧a.length≤m) fun a b k' h1 h2 h3=>⟨a,b,k',rfl,rfl,h1,h2,h3⟩;exact⟨a,b,k',h,h1⟩
 intro Q hQ;refine jV rfl rfl ?_;obtain⟨n,k1,n1,kd,hn⟩:=gU hd (m+1) (by omega)
 simp (disch:=omega) [wrap64,Lp,n1];refine go_loop (fun s:List Gt×List Gs×Int×Nat=>acu (.bO 0 0) (.slice (some 1023) 3 (s.1.map Gt.row)) (.slice (some 1035) 2 (s.2.1.map Gs.row)) s.2.2.1 s.1.length s.2.1.length [dk l s.2.2.2])
  (fun s=>HI s.1 s.2.1∧(s.1.length:Int)+s.2.2.1≤m∧0≤s.2.2.1∧eM l s.2.2.2) (fun s=>s.2.2.1.toNat) ([],[],n,k1) rfl (by simp) ⟨⟨rfl,by simp,by simp⟩,by simp;omega,by simp;omega,kd⟩ ?_
 rintro⟨a,b,n,k⟩ ⟨qf,h1,h2,hd⟩;simp only at qf h1 h2 hd;obtain⟨g,k2,n2,ik,hg⟩:=aiB hd;have hgv:=(Uj hg).dI;obtain⟨p,k3,n3,mV,hp⟩:=gU ik (g.dI+1) (by omega)
 obtain⟨q,k4,n4,rE,hq⟩:=gU mV 7 (by omega)
 have hl:=qf.len;simp (disch:=omega) [wrap64,ars];refine b9 (fun h4=>?_) (fun h4=>?_)
 ·simp (disch:=omega) [wrap64,n2,n3,n4]
  refine cc (a++[g],b++[⟨p,decide (q=6)⟩],n-1,k4) (by simp) ⟨⟨by simp[hl],fun i hi=>?_,fun i hi=>?_⟩,by simp;omega,by simp;omega,rE⟩ (by simp;omega)
  ·simp at hi
   rw[iS];split
   ·exact qf.gate i (by assumption)
   ·rw[if_pos (by omega)];exact hg
  ·simp at hi
   rw[iS,iS,← hl];split
   ·exact qf.state i (by assumption)
   ·rw[if_pos (by omega),if_pos (by omega)]
    show 0≤p∧p≤g.dI;omega
 ·exact hQ a b k hd qf (by omega)
structure Dw(d:Dm)(s:Ds):Prop where
 mT:fB d=0
 fit:g8 d s
 apw:D5 d.u s.u
 u2:d.u.length≤2
 g2:d.g.length≤2
 gr:1≤d.gr∧d.gr≤4
 rel:0≤s.rel∧s.rel≤29
 top:jH d≤10000
theorem aiD{l:List Int}{k:Nat}(hd:eM l k):∃d s k',bt F 111 [.bO 0 0] [dk l k]=some (.tuple [dm d,dst s],[dk l k'])∧eM l k'∧Dw d s:=by
 suffices h:∀Q:V→List aW→Prop,(∀d s k',eM l k'→Dw d s→Q (.tuple [dm d,dst s]) [dk l k'])→jq (bt F) 111 [.bO 0 0] [dk l k] Q by
  obtain⟨_,_,h,d,s,k',rfl,rfl,h1⟩:=h (fun v G=>∃d s k',v=.tuple [dm d,dst s]∧G=[dk l k']∧eM l k'∧Dw d s) fun d s k' a b=>⟨d,s,k',rfl,rfl,a,b⟩;exact⟨d,s,k',h,h1⟩
 intro Q hQ;refine jV rfl rfl ?_;obtain⟨r,k1,n1,kd,hr,hry⟩:=aiA hd;obtain⟨a,k2,n2,ik,ha⟩:=gU kd 4 (by omega)
 obtain⟨us,ss,k3,n3,mV,nc,F5⟩:=agY (m:=2) ik (by omega)
 obtain⟨gs,ts,k4,n4,rE,oI,CG⟩:=aiC (m:=2) mV (by omega)
 rw[show((2:Nat):Int)=2 from rfl]at n3 n4;have hv:=M0 hr r.t;have qS:=Hx hr;obtain⟨v,k5,n5,D2,hv5⟩:=gU rE (ia r.c r.t+1) (by omega)
 obtain⟨e,k6,n6,D3,he6⟩:=gU D2 30 (by omega)
 have hV:=Ea r r.t [];simp (disch:=omega) [wrap64,K1,n1,n2,n3,n4,hV,qS,hr,n5,n6];refine hQ ⟨r,us,gs,1+a⟩ ⟨v,e,ss,ts⟩ k6 D3 ?_;have hc:fB ⟨r,us,gs,1+a⟩=0:=by
  unfold fB;simp only;rw[if_neg (fun g=>g hr),if_neg (by omega),if_neg (fun g=>g (rC fun i _ hi=>(nc.unit i (by omega)).mT)),if_neg (fun g=>g (rC fun i _ hi=>oI.gate i (by omega))),if_neg (by omega)]
 refine⟨hc,⟨⟨hv5.1,?_⟩,?_,nc.len.symm,oI.len.symm,nc.state,oI.state⟩,nc,F5,CG,?_,?_,?_⟩
 ·show v≤ia r.c r.t
  omega
 ·simp only;omega
 ·simp only;omega
 ·simp only;omega
 ·have:=(Bq (lJ (qP hr)) r.t).2
  show ia r.c r.t≤10000;omega
theorem aiN{u:Un}{s:Us}(hv:fe u s)(q:Int):fe u (qh u s q):=by
 have h1:=hv.2.1;unfold qh;split
 ·rename_i hm
  refine⟨hv.1,?_,?_⟩
  ·unfold qJ;simp only;split<;>omega
  ·unfold qJ;simp only
   unfold jC at hm;by_cases hq:q=0
   ·exact .inl hq
   ·rw[if_neg hq]at hm;exact .inr ⟨hm.1,hm.2.2⟩
 ·exact⟨hv.1,by simp,.inl rfl⟩
theorem aiO{lv w:Int}{g:List Gt}{s:List Gs}(hl:g.length=s.length)(hs:vY g s)(hv:∀i,i<g.length→Gv (nth g i)):∀i,i≤g.length →
  ∀j,j<g.length→0≤nth (bs lv w g s i).1 j∧nth (bs lv w g s i).1 j≤(nth g j).dI:=by
 intro i;induction i with
 |zero =>
  intro _ j hj;have hr:=zI (hv j hj) (hs j hj);simp only[bs];rw[Ej hj (by omega)]
  omega
 |succ i ih =>
  intro hi j hj;simp only[bs];rw[Ew (by rw[nJ hl];omega)]
  split
  ·rename_i e
   subst e;have hr:=zI (hv i hj) (hs i hj);have ho:=ah1 (lv:=lv) (w:=w) (hv i hj) (hs i hj) (bs lv w g s i).2;omega
  ·exact ih (by omega) j hj
theorem aiP{g:List Gt}{s:List Gs}{lv w:Int}(h:aE g s lv=0)(hw:0≤w∧w≤1073741824):(nI g s lv w).length=g.length∧vY g (nI g s lv w):=by
 obtain⟨h1,h2,h3,h4,h5⟩:=Eh h;have hE:kz g s lv w=0:=by simp[kz,h,hw]
 have hS:nI g s lv w=mb (bs lv w g s g.length).1 s:=by unfold nI;rw[if_pos hE]
 have hb:=nJ (lv:=lv) (w:=w) h2 g.length;rw[hS];refine⟨by simp[mb];omega,fun i hi=>?_⟩
 unfold mb;rw[Bw (by omega) (by omega)]
 exact aiO h2 h3 h4 g.length (Nat.le_refl _) i hi
theorem aiQ{d:Dm}{s:Ds}{m:Int}{n i:Nat}(hi:i<n):nth (nK d s m n) i=qh (nth d.u i) (nth s.u i) (gL d s m i):=by
 unfold nK;simp[nth,hi]
theorem aiR{d:Dm}(h:Dv d){s:Ds}(hf:g8 d s){inf los rel:Int}(hi:0≤inf∧inf≤1073741824)(hl:0≤los∧los≤1073741824)(hr:0≤rel∧rel≤1073741824):g8 d (lr d s inf los rel):=by
 have p:=M8 h hf hi hl hr;have hv:=hf.1;have hC:=HB h.r;have hD:=HA h.r;have hT:=p.T0;have hP:=p.P0;have hs:=p.sum;have hL:=p.L;have qz:jI d (eB s inf los)≤eB s inf los:=by unfold jI;omega
 have hO:qT d s inf los rel=max (eB s inf los-(fT d s inf los rel+kZ d s inf los rel)-jH d) 0:=rfl;have hg:=aiP (aiu h hf) p.w0;refine⟨?_,?_,HE,hg.1,fun i hi=>?_,hg.2⟩
 ·show 0≤eB s inf los-(fT d s inf los rel+kZ d s inf los rel)-qT d s inf los rel∧eB s inf los-(fT d s inf los rel+kZ d s inf los rel)-qT d s inf los rel≤jH d
  omega
 ·show 0≤min (fT d s inf los rel+kZ d s inf los rel) 1073741824∧min (fT d s inf los rel+kZ d s inf los rel) 1073741824≤1073741824
  omega
 ·show fe (nth d.u i) (nth (nK d s _ d.u.length) i)
  rw[aiQ hi];exact aiN (hf.2.2.2.2.1 i hi) _
def aiS(a b:Ds)(r:Dr):List Int:=[a.v,b.v,r.inf,r.los,r.tur,r.spi,r.ovr]
def UW(n:Int):Prop:=0≤n∧n≤274877906944
instance {n:Int}:Decidable (UW n):=inferInstanceAs (Decidable (_∧_))
def aiT(a b:Ds)(r:Dr):Prop:=(∀i,i<7→UW (nth (aiS a b r) i))∧b.v=a.v+r.inf-r.los-r.tur-r.spi-r.ovr
noncomputable instance {a b:Ds} {r:Dr}:Decidable (aiT a b r):=Classical.propDecidable _
theorem arL(a b:Ds)(r:Dr)(G:List aW):bt F 92 [dst a,dst b,dr r] G=some (.bool (decide (aiT a b r)),G) :=
 cg rfl rfl (by
  generalize hW:decide (aiT a b r)=W;simp (disch:=omega) [wrap64,akn];have ML:dS (aiS a b r)=[i64 a.v,i64 b.v,i64 r.inf,i64 r.los,i64 r.tur,i64 r.spi,i64 r.ovr]:=rfl;refine go_loop (fun i:Nat=>aqW (.agg (dS (aiS a b r))) i a.row b.row r.row G) (fun i=>i≤7∧∀j,j<i→UW (nth (aiS a b r) j)) (fun i=>7-i) 0 rfl (by simp[ML]) ⟨by omega,by omega⟩ ?_
  rintro i ⟨hi,hj⟩;have hlen:(aiS a b r).length=7:=rfl;simp (disch:=omega) [wrap64,ao3];refine b9 (fun h1=>?_) (fun h1=>?_)
  ·have h1:i<7:=by omega
   by_cases h2:UW (nth (aiS a b r) i)
   ·have h3:(decide (0≤nth (aiS a b r) i)&&decide (nth (aiS a b r) i≤274877906944))=true:=by simp;exact h2
    simp (disch:=omega) [wrap64,kT,hlen,h1,dG,h3];refine cc (i+1) (by simp) ⟨by omega,fun j EZ=>?_⟩ (by omega)
    rcases Nat.lt_or_ge j i with h4|h4
    ·exact hj j h4
    ·rwa [show j=i by omega]
   ·have h3:(decide (0≤nth (aiS a b r) i)&&decide (nth (aiS a b r) i≤274877906944))=false:=by
     have h2:¬ (0≤nth (aiS a b r) i∧nth (aiS a b r) i≤274877906944):=h2;simp;omega
    simp (disch:=omega) [wrap64,kT,hlen,h1,dG,h3];rw[←hW,decide_eq_false (fun h:aiT a b r=>h2 (h.1 i h1))]
  ·have hj:∀j,j<7→UW (nth (aiS a b r) j):=fun j h=>hj j (by omega)
   have b0:0≤a.v∧a.v≤274877906944:=hj 0 (by omega)
   have b1:0≤b.v∧b.v≤274877906944:=hj 1 (by omega)
   have b2:0≤r.inf∧r.inf≤274877906944:=hj 2 (by omega)
   have b3:0≤r.los∧r.los≤274877906944:=hj 3 (by omega)
   have b4:0≤r.tur∧r.tur≤274877906944:=hj 4 (by omega)
   have b5:0≤r.spi∧r.spi≤274877906944:=hj 5 (by omega)
   have b6:0≤r.ovr∧r.ovr≤274877906944:=hj 6 (by omega)
   simp (disch:=omega) only[wrap64];rw[←hW];refine decide_eq_decide.2 ⟨fun h=>⟨hj,h⟩,fun h=>h.2⟩)
theorem UX{c:List Pt}(h:Cv c){y x:Int}{i:Nat}(hi:i+1<c.length)(h1:(nth c i).y≤y)(h2:y<(nth c (i+1)).y)(hx:(nth c i).x≤x):od c (i+1) x≤y↔x≤zC c y i:=by
 have u1:=h.up (i+1) (by omega) hi
 simp only[Nat.add_sub_cancel]at u1;have a2:0<(y-(nth c i).y+1)*((nth c (i+1)).x-(nth c i).x):=Int.mul_pos (by omega) (by omega)
 have a3:0≤((nth c (i+1)).y-(nth c i).y)*(x-(nth c i).x):=Int.mul_nonneg (by omega) (by omega)
 unfold od zC;simp only[Nat.add_sub_cancel];rw[Int.tdiv_eq_ediv_of_nonneg a3,Int.tdiv_eq_ediv_of_nonneg (by omega)]
 have e1:((nth c (i+1)).y-(nth c i).y)*(x-(nth c i).x) / ((nth c (i+1)).x-(nth c i).x)<y-(nth c i).y+1↔((nth c (i+1)).y-(nth c i).y)*(x-(nth c i).x)<(y-(nth c i).y+1)*((nth c (i+1)).x-(nth c i).x) :=
  Int.ediv_lt_iff_lt_mul (by omega)
 have e2:x-(nth c i).x≤((y-(nth c i).y+1)*((nth c (i+1)).x-(nth c i).x)-1) / ((nth c (i+1)).y-(nth c i).y)↔(x-(nth c i).x)*((nth c (i+1)).y-(nth c i).y)≤(y-(nth c i).y+1)*((nth c (i+1)).x-(nth c i).x)-1 :=
  Int.le_ediv_iff_mul_le (by omega)
 rw[Int.mul_comm (x-(nth c i).x)]at e2;constructor
 ·intro g
  have:=e2.2 (by have:=e1.1 (by omega);omega)
  omega
 ·intro g
  have:=e1.2 (by have:=e2.1 (by omega);omega)
  omega
theorem Nf{c:List Pt}(h:Cv c){i:Nat}(hi:i<c.length):ia c (nth c i).x=(nth c i).y:=by
 rcases Nat.eq_zero_or_pos i with rfl|h0
 ·exact y3 h (Int.le_refl _)
 ·have u:=h.up i h0 hi
  rw[uK h h0 hi (by omega) (Int.le_refl _),od,Int.mul_tdiv_cancel _ (by omega)]
  omega
theorem UY{c:List Pt}(h:Cv c){y:Int}:∀(m i:Nat),i+m=c.length-1→(nth c i).y≤y→ia c (qe c y m i)≤y∧∀x,qe c y m i<x→x≤(nth c (c.length-1)).x→y<ia c x
 |0,i,hi,hy=>by
  have hp:=h.pos;unfold qe;rw[Nf h (by omega)]
  obtain rfl:i=c.length-1:=by omega
  exact⟨hy,fun x a b=>by omega⟩
 |m+1,i,hi,hy=>by
  have hp:=h.pos;unfold qe;split
  ·rename_i h2
   have hr:=UQ h (i:=i) (by omega) hy h2
   refine⟨?_,fun x a b=>?_⟩
   ·rw[uK h (i:=i+1) (by omega) (by omega) (by simpa using hr.1) hr.2]
    exact(UX h (by omega) hy h2 hr.1).2 (Int.le_refl _)
   ·rcases Int.lt_or_le (nth c (i+1)).x x with h3|h3
    ·have:=MP h (show(nth c (i+1)).x≤x by omega)
     rw[Nf h (by omega)]at this
     omega
    ·rw[uK h (i:=i+1) (by omega) (by omega) (by simp only[Nat.add_sub_cancel];omega) h3]
     have:=not_congr (UX h (x:=x) (by omega) hy h2 (by omega))
     omega
  ·exact UY h m (i+1) (by omega) (by omega)
theorem UZ{c:List Pt}(h:gd c=0)(y:Int)(G:List aW) :
  bt F 163 [im c,i64 y] G=some (.tuple [i64 (if y<(nth c 0).y then 0 else uP c y),.bool (decide ((nth c 0).y≤y)),i64 0],G) :=
 cg rfl rfl (by
  have hc:=lJ h;have hp:=hc.pos;have hl:=hc.kc;have h3:((c.length:Int)-1).toNat=c.length-1:=by omega
  have h4:0≤(c.length:Int)-1:=by omega
  have h5:c.length-1<c.length:=by omega
  have x0:=hc.x0 0 hp;have x1:=hc.x0 (c.length-1) h5;have EX:=Ev hc (i:=0) (j:=c.length-1) (by omega) h5
  have hA:=fun x=>Tn hc x [];have Ng:=hA (nth c 0).x;rw[Nf hc hp]at Ng;by_cases h1:y<(nth c 0).y
  ·have h2:¬ (nth c 0).y≤y:=by omega
   simp (disch:=omega) [-getElem?_pos,wrap64,GA,lq,h,bo (l:=c),hp,h3,h4,h5,Ng,h1,h2]
  ·have h2:(nth c 0).y≤y:=by omega
   have Nh:=UY hc (y:=y) (c.length-1) 0 (by omega) h2
   have Ni:=M5 hc (y:=y) (c.length-1) 0 (by omega) h2
   have dD:qe c y (c.length-1) 0=uP c y:=rfl;rw[dD]at Nh Ni;simp (disch:=omega) [-getElem?_pos,wrap64,GA,lq,h,bo (l:=c),hp,h3,h4,h5,Ng,h1,h2];refine go_loop (fun s:Int×Int=>acA (im c) y s.1 s.2 G) (fun s=>(nth c 0).x≤s.1∧s.1≤uP c y∧uP c y≤s.2∧s.2≤(nth c (c.length-1)).x) (fun s=>(s.2-s.1).toNat) ((nth c 0).x,(nth c (c.length-1)).x) rfl (by simp) ⟨by simp,Ni.1,Ni.2,by simp⟩ ?_
   rintro⟨lo,hi⟩ ⟨b1,b2,b3,b4⟩;simp only at b1 b2 b3 b4;have d1:0≤(hi-lo).tdiv 2:=Int.tdiv_nonneg (by omega) (by omega)
   have d2:(hi-lo).tdiv 2=(hi-lo) / 2:=Int.tdiv_eq_ediv_of_nonneg (by omega)
   have hAm:=hA (hi-(hi-lo).tdiv 2);simp (disch:=omega) [-getElem?_pos,wrap64,Sz,hAm];refine b9 (fun h6=>?_) (fun h6=>?_)
   ·refine b9 (fun h7=>?_) (fun h7=>?_)
    ·refine cc (hi-(hi-lo).tdiv 2,hi) (by simp) ⟨by simp only;omega,?_,b3,b4⟩ (by simp only;omega)
     simp only;refine Int.not_lt.1 fun h8=>?_;have:=Nh.2 _ h8 (by omega)
     omega
    ·refine cc (lo,hi-(hi-lo).tdiv 2-1) (by simp) ⟨b1,b2,?_,by simp only;omega⟩ (by simp only;omega)
     simp only;refine Int.not_lt.1 fun h8=>?_;have:=MP hc (show hi-(hi-lo).tdiv 2≤uP c y by omega)
     have:=Nh.1;omega
   ·have:lo=uP c y:=by omega
    subst this;simp (disch:=omega) [-getElem?_pos,wrap64,h1,h2])
theorem aiV{r:Rs}(h:ib r=0){v:Int}(hv:0≤v∧v≤274877906944)(G:List aW):bt F 117 [.agg r.cells,i64 v] G=some (.tuple [i64 (jt r v),i64 0],G) :=
 cg rfl rfl (by
  have hp:=(lJ (qP h)).pos;have lW:(decide (0≤v)&&decide (v≤274877906944))=true:=by simp;omega
  by_cases h1:v<(nth r.c 0).y
  ·have h2:¬ (nth r.c 0).y≤v:=by omega
   simp[-getElem?_pos,wrap64,Gj,xl,h,c5,lW,UZ (qP h),h1,h2,bo (l:=r.c),hp,jt]
  ·have h2:(nth r.c 0).y≤v:=by omega
   simp[-getElem?_pos,wrap64,Gj,xl,h,c5,lW,UZ (qP h),h1,h2,bo (l:=r.c),hp,jt])
theorem aiW{d:Dm}(h:ib d.r=0):jH d≤274877906944:=by
 have hc:=lJ (qP h);have h1:=Bq hc d.r.t;have hp:=hc.pos;have h3:=hc.y0 (d.r.c.length-1) (by omega)
 have:jH d=ia d.r.c d.r.t:=rfl;omega
theorem Ey(d:Dm)(s:Ds)(G:List aW):bt F 58 [dm d,dst s] G=some (.tuple [i64 (lvl d s),i64 (dE d s)],G) :=
 cg rfl rfl (by
  by_cases hd:dE d s=0
  ·obtain⟨pA,hf⟩:=Es hd
   have hv:=hf.1;have hC:=aiW pA.r;simp (disch:=omega) [wrap64,F7,UL,hd,aiV pA.r,hv,lvl]
  ·simp (disch:=omega) [wrap64,F7,UL,hd,lvl])
theorem U0:∀{a:List Un} {E:List Int} {u:Un} {q:Int},a.length=E.length→iA (a++[u]) (E++[q])=iA a E+pow u q
 |[],[],_,_,_=>by simp[iA]
 |u::a,q::E,w,z,h=>by
  have:=U0 (a:=a) (E:=E) (u:=w) (q:=z) (by simpa using h)
  simp only[List.cons_append,iA,this];omega
 |[],_::_,_,_,h=>by simp at h
 |_::_,[],_,_,h=>by simp at h
theorem U3:∀{a:List Us} {E:List Int} {u:Us} {q:Int},a.length=E.length→iB (a++[u]) (E++[q])=iB a E+iu u q
 |[],[],_,_,_=>by simp[iB]
 |u::a,q::E,w,z,h=>by
  have:=U3 (a:=a) (E:=E) (u:=w) (q:=z) (by simpa using h)
  simp only[List.cons_append,iB,this];omega
 |[],_::_,_,_,h=>by simp at h
 |_::_,[],_,_,h=>by simp at h
theorem U4{us:List Un}{F:List Int}(h:F.length=us.length):∀i,i≤us.length→gB (fun j=>pow (nth us j) (nth F j)) i=iA (us.take i) (F.take i)
 |0,_=>by simp[gB,iA]
 |i+1,hi=>by
  rw[jF (l:=us) (by omega),jF (l:=F) (by omega),U0 (by simp;omega),← U4 h i (by omega)]
  rfl
theorem U5{ss:List Us}{F:List Int}(h:F.length=ss.length):∀i,i≤ss.length→gB (fun j=>iu (nth ss j) (nth F j)) i=iB (ss.take i) (F.take i)
 |0,_=>by simp[gB,iB]
 |i+1,hi=>by
  rw[jF (l:=ss) (by omega),jF (l:=F) (by omega),U3 (by simp;omega),← U5 h i (by omega)]
  rfl
theorem aiX{u:Un}{s:Us}(hv:fe u s):qh u s 0=⟨0,if 0<s.cq then 1 else min 1000 (s.since+1),s.out⟩:=by
 have hc:=hv.1;have hf:0≤s.cq:=by
  rcases hv.2.2 with h | ⟨_,h⟩
  ·omega
  ·have:=G8 hc h;omega
 unfold qh;by_cases h1:0<s.cq
 ·rw[if_pos h1]
  split
  ·unfold qJ
   rw[if_neg (by simp[h1])]
  ·rfl
 ·rw[if_neg h1,if_pos]
  ·unfold qJ
   rw[if_pos (by simp[h1])]
  ·unfold jC
   rw[if_pos rfl];exact fun h=>absurd h h1
theorem aiY{d:Dm}(pA:Dv d){s:Ds}(hf:g8 d s){q:Int}(hq:0≤q∧q≤1073741824)(G:List aW) :
  bt F 60 [dm d,dst s,i64 q] G=some (.tuple [D4 (nK d s (min q (200*d.gr)) d.u.length),i64 (gB (gL d s (min q (200*d.gr))) d.u.length),i64 (gB (pz d s (min q (200*d.gr))) d.u.length),i64 (gB (lN d s (min q (200*d.gr))) d.u.length)],G) :=
 cg rfl rfl (by
  obtain⟨t,hb⟩:=ahG d.u s.u d.gr (min q (200*d.gr)) [];have hgr:=pA.gr;have Hy:=pA.u;have wW:=hf.2.2.1;generalize hM:min q (200*d.gr)=M at *;by_cases he:jY d.u s.u d.gr M=0
  ·obtain⟨h1,h2⟩:=Et he
   have hl:=y9 h1;have hV:=TD d.u s.u (g7 d.u s.u d.gr M) (by omega) []
   rw[TW h1]at hV;simp only[Bt]at hV;have f1:gL d s M=fun j=>nth (g7 d.u s.u d.gr M) j:=by funext j;simp[gL,he]
   have f2:pz d s M=fun j=>pow (nth d.u j) (nth (g7 d.u s.u d.gr M) j):=by funext j;simp only[pz,f1]
   have f3:lN d s M=fun j=>iu (nth s.u j) (nth (g7 d.u s.u d.gr M) j):=by funext j;simp only[lN,f1]
   have e1:gB (gL d s M) d.u.length=(g7 d.u s.u d.gr M).sum:=by rw[f1,M6 _ _ (by omega),List.take_of_length_le (by omega)]
   have e2:gB (pz d s M) d.u.length=iA d.u (g7 d.u s.u d.gr M):=by rw[f2,U4 hl.1 _ (Nat.le_refl _),List.take_of_length_le (by omega),List.take_of_length_le (by omega)]
   have e3:gB (lN d s M) d.u.length=iB s.u (g7 d.u s.u d.gr M):=by rw[f3,U5 hl.2 _ (by omega),List.take_of_length_le (by omega),List.take_of_length_le (by omega)]
   rw[e1,e2,e3];generalize hE:g7 d.u s.u d.gr M=E at *;generalize iA d.u E=PW at *;generalize iB s.u E=ST at *;generalize E.sum=SU at *;simp (disch:=omega) [-getElem?_pos,wrap64,F9,hM,hb,he,hV];refine go_loop (fun i:Nat=>aaN (.slice none 1 (E.map fun n=>[i64 n])) (.slice (some 1063) 3 ((nK d s M i).map Us.row)) SU PW ST (jX d.u) d.u.length i s.row i G) (fun i=>i≤d.u.length) (fun i=>d.u.length-i) 0 rfl (by simp[nK]) (by omega) ?_
   intro i hi;have qF:=HE (d:=d) (s:=s) (m:=M) (n:=i);simp (disch:=omega) [-getElem?_pos,wrap64,Rz];refine b9 (fun h5=>?_) (fun h5=>?_)
   ·have h5:i<d.u.length:=by omega
    have h6:i<s.u.length:=by omega
    have h7:i<E.length:=by omega
    have hv:fe (nth d.u i) (nth s.u i):=hf.2.2.2.2.1 i h5;have kN:gL d s M i=nth E i:=by rw[f1]
    have hm:jC (nth d.u i) (nth s.u i) (nth E i):=(Bx.1 (HC h1 i h5)).2.2;have hN:=Mj (nth d.u i) (nth s.u i) (nth E i) [];have hnE:qI (nth d.u i) (nth s.u i) (nth E i)=0:=by rw[aij hv,if_pos hm]
    rw[if_pos hnE]at hN;have hx:qh (nth d.u i) (nth s.u i) (nth E i)=qJ (nth s.u i) (nth E i):=by simp[qh,hm]
    simp (disch:=omega) [-getElem?_pos,wrap64,bo (l:=d.u),bo (l:=s.u),eA (l:=E),hN,qF];refine cc (i+1) (by simp[zM,kN,hx]) (by omega) (by omega)
   ·obtain rfl:i=d.u.length:=by omega
    simp (disch:=omega) [-getElem?_pos,wrap64,qF]
  ·have f1:gL d s M=fun _=>0:=by funext j;simp[gL,he]
   have f2:pz d s M=fun _=>0:=by funext j;simp[pz,f1,pow]
   have f3:lN d s M=fun _=>0:=by funext j;simp[lN,f1,iu]
   rw[f1,f2,f3,M7];simp (disch:=omega) [-getElem?_pos,wrap64,F9,hM,hb,he];refine go_loop (fun i:Nat=>aaK (.slice (some 1063) 3 ((nK d s M i).map Us.row)) (jD s.u) s.u.length i i G) (fun i=>i≤s.u.length) (fun i=>s.u.length-i) 0 rfl (by simp[nK]) (by omega) ?_
   intro i hi;have qF:=HE (d:=d) (s:=s) (m:=M) (n:=i);simp (disch:=omega) [-getElem?_pos,wrap64,Ry];refine b9 (fun h5=>?_) (fun h5=>?_)
   ·have h5:i<d.u.length:=by omega
    have h6:i<s.u.length:=by omega
    have hv:fe (nth d.u i) (nth s.u i):=hf.2.2.2.2.1 i h5;have qj:=hv.2.1;have kN:gL d s M i=0:=by rw[f1]
    have hx:=aiX hv;by_cases h7:0<(nth s.u i).cq
    ·rw[if_pos h7]at hx
     simp (disch:=omega) [-getElem?_pos,wrap64,bo (l:=s.u),h7,qF];refine cc (i+1) (by simp[zM,kN,hx]) (by omega) (by omega)
    ·rw[if_neg h7]at hx
     simp (disch:=omega) [-getElem?_pos,wrap64,bo (l:=s.u),h7,qF];refine cc (i+1) (by simp[zM,kN,hx]) (by omega) (by omega)
   ·obtain rfl:i=s.u.length:=by omega
    rw[wW]at qF ⊢;simp (disch:=omega) [-getElem?_pos,wrap64,qF])
end Go.Proofs.YtmpikpodpgnjhaaGreat
namespace Go.Proofs.YtmpikpodpgnjhaaGreat
set_option linter.all false
open Go.Vm
theorem apz(lv w:Int):mX [] [] lv w=0:=by
 unfold mX;split
 ·simp[bs,Ei]
 ·rfl
end Go.Proofs.YtmpikpodpgnjhaaGreat
namespace Go.Proofs.YtmpikpodpgnjhaaGreat
set_option linter.all false
open Go.Vm
end Go.Proofs.YtmpikpodpgnjhaaGreat
