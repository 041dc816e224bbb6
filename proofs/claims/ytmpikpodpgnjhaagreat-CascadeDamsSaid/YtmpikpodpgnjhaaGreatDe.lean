/- Parts of the proof, joined: Dam1, Dam2, Dam3, Dam4, Dam5, Dam6, Mk3, Mk4, Dmo1. -/
import Derived.Test.YtmpikpodpgnjhaaGreatDd
namespace Go.Proofs.YtmpikpodpgnjhaaGreat
set_option linter.all false
open Go.Vm
attribute [local simp] eQ eR eO eP
structure Dm where
 r:Rs
 u:List Un
 g:List Gt
 gr:Int
abbrev Dm.row(d:Dm):List V:=[ig d.r.c,i64 d.r.d,i64 d.r.l,i64 d.r.f,i64 d.r.s,i64 d.r.t,jQ d.u,jB d.g,i64 d.gr]
abbrev dm(d:Dm):V:=.agg d.row
structure Ds where
 v:Int
 rel:Int
 u:List Us
 g:List Gs
 deriving Inhabited
abbrev Ds.row(s:Ds):List V:=[i64 s.v,i64 s.rel,jy s.u,jo s.g]
abbrev dst(s:Ds):V:=.agg s.row
def uE(u:List Un):Int:=ec (fun i=>gP (nth u i)) u.length 0
def gE(g:List Gt):Int:=ec (fun i=>jT (nth g i)) g.length 0
def fy(d:Dm):Int :=
 if hY d.r≠0 then hY d.r else if 6<d.u.length∨8<d.g.length then 10 else if uE d.u≠0 then uE d.u else if gE d.g≠0 then gE d.g
 else if d.gr<1∨1073741824<d.gr then 1 else 0
theorem zJ(d:Dm)(G:List aV):bo F 68 [dm d] G=some (i64 (fy d),G) :=
 cg rfl rfl (by
  obtain⟨r,u,g,gr⟩:=d;generalize hW:fy ⟨r,u,g,gr⟩=W;unfold fy at hW;simp only at hW;have hS:=fun G=>TU r G;have v8:=fun G=>xl r G;by_cases h1:hY r=0
  ·rw[if_neg (by omega)]at hW
   by_cases h2:6<u.length
   ·rw[if_pos (.inl h2)]at hW
    have lI:(6:Int)<u.length:=by omega
    simp (disch:=omega) [-getElem?_pos,wrap64,A6,hS,v8,h1,lI];exact hW
   by_cases h3:8<g.length
   ·rw[if_pos (.inr h3)]at hW
    have lI:¬ (6:Int)<u.length:=by omega
    have jq:(8:Int)<g.length:=by omega
    simp (disch:=omega) [-getElem?_pos,wrap64,A6,hS,v8,h1,lI,jq];exact hW
   rw[if_neg (by omega)]at hW
   have lI:¬ (6:Int)<u.length:=by omega
   have jq:¬ (8:Int)<g.length:=by omega
   simp (disch:=omega) [-getElem?_pos,wrap64,A6,hS,v8,h1,lI,jq];refine go_loop (fun i:Nat=>aaY (jQ u) u.length i (Dm.row ⟨r,u,g,gr⟩) G) (fun i=>i≤u.length∧ec (fun i=>gP (nth u i)) (u.length-i) i=uE u) (fun i=>u.length-i) 0 rfl (by simp) ⟨by omega,rfl⟩ ?_
   rintro i ⟨hi,hq⟩;simp (disch:=omega) [-getElem?_pos,wrap64,RC];refine b9 (fun h4=>?_) (fun h4=>?_)
   ·have h4:i<u.length:=by omega
    rw[lZ h4]at hq;by_cases h5:gP (nth u i)=0
    ·rw[if_pos h5]at hq
     simp (disch:=omega) [-getElem?_pos,wrap64,bp (l:=u),qG,mw,h5];exact cc (i+1) (by simp) ⟨by omega,hq⟩ (by omega)
    ·rw[if_neg h5]at hq
     rw[←hq,if_pos h5]at hW;simp (disch:=omega) [-getElem?_pos,wrap64,bp (l:=u),qG,mw,h5];exact hW
   ·obtain rfl:i=u.length:=by omega
    rw[mP]at hq;rw[←hq,if_neg (by omega)]at hW
    refine go_loop (fun i:Nat=>aa0 (jB g) g.length i (Dm.row ⟨r,u,g,gr⟩) G) (fun i=>i≤g.length∧ec (fun i=>jT (nth g i)) (g.length-i) i=gE g) (fun i=>g.length-i) 0 rfl (by simp) ⟨by omega,rfl⟩ ?_
    rintro i ⟨hi,hq⟩;simp (disch:=omega) [-getElem?_pos,wrap64,RD];refine b9 (fun h4=>?_) (fun h4=>?_)
    ·have h4:i<g.length:=by omega
     rw[lZ h4]at hq;by_cases h5:jT (nth g i)=0
     ·rw[if_pos h5]at hq
      simp (disch:=omega) [-getElem?_pos,wrap64,bp (l:=g),xo,xp,h5];exact cc (i+1) (by simp) ⟨by omega,hq⟩ (by omega)
     ·rw[if_neg h5]at hq
      rw[←hq,if_pos h5]at hW;simp (disch:=omega) [-getElem?_pos,wrap64,bp (l:=g),xo,xp,h5];exact hW
    ·obtain rfl:i=g.length:=by omega
     rw[mP]at hq;rw[←hq,if_neg (by omega)]at hW
     by_cases h6:gr<1
     ·rw[if_pos (.inl h6)]at hW
      simp (disch:=omega) [-getElem?_pos,wrap64,h6];exact hW
     ·by_cases h7:1073741824<gr
      ·rw[if_pos (.inr h7)]at hW
       simp (disch:=omega) [-getElem?_pos,wrap64,h6,h7];exact hW
      ·rw[if_neg (by omega)]at hW
       simp (disch:=omega) [-getElem?_pos,wrap64,h6,h7];exact hW
  ·rw[if_pos h1]at hW
   simp (disch:=omega) [-getElem?_pos,wrap64,A6,hS,v8,h1];exact hW)
theorem zK(d:Dm)(G:List aV):bo F 69 [dm d] G=some (i64 (fy d),G) :=
 cg rfl rfl (by
  obtain⟨r,u,g,gr⟩:=d;generalize hW:fy ⟨r,u,g,gr⟩=W;unfold fy at hW;simp only at hW;have hS:=fun G=>TU r G;have v8:=fun G=>xl r G;by_cases h1:hY r=0
  ·rw[if_neg (by omega)]at hW
   by_cases h2:6<u.length
   ·rw[if_pos (.inl h2)]at hW
    have lI:(6:Int)<u.length:=by omega
    simp (disch:=omega) [-getElem?_pos,wrap64,A7,hS,v8,h1,lI];exact hW
   by_cases h3:8<g.length
   ·rw[if_pos (.inr h3)]at hW
    have lI:¬ (6:Int)<u.length:=by omega
    have jq:(8:Int)<g.length:=by omega
    simp (disch:=omega) [-getElem?_pos,wrap64,A7,hS,v8,h1,lI,jq];exact hW
   rw[if_neg (by omega)]at hW
   have lI:¬ (6:Int)<u.length:=by omega
   have jq:¬ (8:Int)<g.length:=by omega
   simp (disch:=omega) [-getElem?_pos,wrap64,A7,hS,v8,h1,lI,jq];refine go_loop (fun i:Nat=>aa2 (jQ u) u.length i (Dm.row ⟨r,u,g,gr⟩) G) (fun i=>i≤u.length∧ec (fun i=>gP (nth u i)) (u.length-i) i=uE u) (fun i=>u.length-i) 0 rfl (by simp) ⟨by omega,rfl⟩ ?_
   rintro i ⟨hi,hq⟩;simp (disch:=omega) [-getElem?_pos,wrap64,RE];refine b9 (fun h4=>?_) (fun h4=>?_)
   ·have h4:i<u.length:=by omega
    rw[lZ h4]at hq;by_cases h5:gP (nth u i)=0
    ·rw[if_pos h5]at hq
     simp (disch:=omega) [-getElem?_pos,wrap64,bp (l:=u),qG,mw,h5];exact cc (i+1) (by simp) ⟨by omega,hq⟩ (by omega)
    ·rw[if_neg h5]at hq
     rw[←hq,if_pos h5]at hW;simp (disch:=omega) [-getElem?_pos,wrap64,bp (l:=u),qG,mw,h5];exact hW
   ·obtain rfl:i=u.length:=by omega
    rw[mP]at hq;rw[←hq,if_neg (by omega)]at hW
    refine go_loop (fun i:Nat=>aa4 (jB g) g.length i (Dm.row ⟨r,u,g,gr⟩) G) (fun i=>i≤g.length∧ec (fun i=>jT (nth g i)) (g.length-i) i=gE g) (fun i=>g.length-i) 0 rfl (by simp) ⟨by omega,rfl⟩ ?_
    rintro i ⟨hi,hq⟩;simp (disch:=omega) [-getElem?_pos,wrap64,RF];refine b9 (fun h4=>?_) (fun h4=>?_)
    ·have h4:i<g.length:=by omega
     rw[lZ h4]at hq;by_cases h5:jT (nth g i)=0
     ·rw[if_pos h5]at hq
      simp (disch:=omega) [-getElem?_pos,wrap64,bp (l:=g),xo,xp,h5];exact cc (i+1) (by simp) ⟨by omega,hq⟩ (by omega)
     ·rw[if_neg h5]at hq
      rw[←hq,if_pos h5]at hW;simp (disch:=omega) [-getElem?_pos,wrap64,bp (l:=g),xo,xp,h5];exact hW
    ·obtain rfl:i=g.length:=by omega
     rw[mP]at hq;rw[←hq,if_neg (by omega)]at hW
     by_cases h6:gr<1
     ·rw[if_pos (.inl h6)]at hW
      simp (disch:=omega) [-getElem?_pos,wrap64,h6];exact hW
     ·by_cases h7:1073741824<gr
      ·rw[if_pos (.inr h7)]at hW
       simp (disch:=omega) [-getElem?_pos,wrap64,h6,h7];exact hW
      ·rw[if_neg (by omega)]at hW
       simp (disch:=omega) [-getElem?_pos,wrap64,h6,h7];exact hW
  ·rw[if_pos h1]at hW
   simp (disch:=omega) [-getElem?_pos,wrap64,A7,hS,v8,h1];exact hW)
end Go.Proofs.YtmpikpodpgnjhaaGreat
namespace Go.Proofs.YtmpikpodpgnjhaaGreat
set_option linter.all false
open Go.Vm
attribute [local simp] eQ eR eO eP
structure Sv(r:Rs):Prop where
 c:fU r.c=0
 two:2≤r.c.length
 top:(nth r.c (r.c.length-1)).x≤16777216
 up:∀i,1≤i→i<r.c.length→(nth r.c (i-1)).y<(nth r.c i).y
 d:(nth r.c 0).x≤r.d
 l:r.d≤r.l
 f:r.l≤r.f
 s:r.f≤r.s
 t:r.s≤r.t
 last:r.t≤(nth r.c (r.c.length-1)).x
theorem Ht{r:Rs}(h:hY r=0):Sv r:=by
 have hc:=qO h;unfold hY at h;rw[if_neg (by omega)]at h
 split at h
 ·cases h
 split at h
 ·cases h
 split at h
 ·rename_i h1 h2 h3
  have hp:=rD hc;have up:∀i,1≤i→i<r.c.length→(nth r.c (i-1)).y<(nth r.c i).y:=fun i a b=>by
   have:=sD h3 i a (by omega)
   unfold qM at this;split at this
   ·cases this
   ·omega
  have lv:∀i,1≤i→i<7→nth (qN r) (i-1)≤nth (qN r) i:=fun i a b=>by
   have:=sD h i a (by omega)
   unfold oW at this;split at this
   ·cases this
   ·omega
  have l1:=lv 1 (by omega) (by omega)
  have l2:=lv 2 (by omega) (by omega)
  have l3:=lv 3 (by omega) (by omega)
  have l4:=lv 4 (by omega) (by omega)
  have l5:=lv 5 (by omega) (by omega)
  have l6:=lv 6 (by omega) (by omega)
  exact⟨hc,by omega,by omega,up,l1,l2,l3,l4,l5,l6⟩
 ·cases h
theorem UC{r:Rs}(h:hY r=0){l:Int}(h1:(nth r.c 0).x≤l)(h2:l≤(nth r.c (r.c.length-1)).x):qP r l=0:=by
 have v:=Ht h;have hp:=rD v.c;have:=(lF v.c).x0 0 hp;have:=v.top;unfold qP;rw[if_neg (by omega),if_pos (by omega)]
def jC(d:Dm):Int:=g9 d.r.c d.r.t
def BF(d:Dm):Int:=g9 d.r.c d.r.d
theorem Hu{r:Rs}(h:hY r=0):qP r r.t=0:=by
 have v:=Ht h;have:=v.d;have:=v.l;have:=v.f;have:=v.s;have:=v.t;exact UC h (by omega) v.last
theorem aia{r:Rs}(h:hY r=0):qP r r.d=0:=by
 have v:=Ht h;have:=v.last;have:=v.l;have:=v.f;have:=v.s;have:=v.t;exact UC h v.d (by omega)
def gY(d:Dm)(s:Ds):Prop:=(0≤s.v∧s.v≤jC d)∧(0≤s.rel∧s.rel≤1073741824)∧s.u.length=d.u.length∧s.g.length=d.g.length∧y5 d.u s.u∧v7 d.g s.g
noncomputable instance {d:Dm} {s:Ds}:Decidable (gY d s):=Classical.propDecidable _
noncomputable def dE(d:Dm)(s:Ds):Int:=if fy d≠0 then fy d else if gY d s then 0 else 3
structure Dv(d:Dm):Prop where
 r:hY d.r=0
 u:d.u.length≤6
 g:d.g.length≤8
 uv:∀i,i<d.u.length→gP (nth d.u i)=0
 gv:∀i,i<d.g.length→jT (nth d.g i)=0
 gr:1≤d.gr∧d.gr≤1073741824
theorem tX{d:Dm}(h:fy d=0):Dv d:=by
 unfold fy at h;split at h
 ·rename_i h1;exact absurd h h1
 split at h
 ·cases h
 split at h
 ·rename_i h1;exact absurd h h1
 split at h
 ·rename_i h1;exact absurd h h1
 split at h
 ·cases h
 rename_i h1 h2 h3 h4 h5;have h3:uE d.u=0:=Decidable.of_not_not h3;have h4:gE d.g=0:=Decidable.of_not_not h4;exact⟨Decidable.of_not_not h1,by omega,by omega,fun i hi=>sD h3 i (by omega) (by omega),fun i hi=>sD h4 i (by omega) (by omega),by omega⟩
theorem UD{d:Dm}(h:hY d.r=0)(G:List aV):bo F 191 [dm d] G=some (i64 (jC d),G) :=
 cg rfl rfl (by
  simp[wrap64,LJ,GY (lF (qO h)),jC])
theorem MW{d:Dm}(h:Dv d)(s:Ds)(G:List aV):bo F 176 [dm d,dst s] G=some (.bool (decide (gY d s)),G) :=
 cg rfl rfl (by
  obtain⟨v,rel,su,sg⟩:=s;generalize hW:decide (gY d ⟨v,rel,su,sg⟩)=W;have no:¬ gY d ⟨v,rel,su,sg⟩→W=false:=fun hn=>by rw[←hW];simp[hn]
  unfold gY at no;simp only at no;have Hv:=h.u;have UE:=h.g;have hc:=UD h.r;by_cases h1:0≤v∧v≤jC d
  ·have a1:(decide (0≤v)&&decide (v≤jC d))=true:=by simp;omega
   have a2:(!decide (0≤v) || !decide (v≤jC d))=false:=by simp;omega
   by_cases h2:0≤rel∧rel≤1073741824
   ·have b1:(decide (0≤rel)&&decide (rel≤1073741824))=true:=by simp;omega
    have b2:(!decide (0≤rel) || !decide (rel≤1073741824))=false:=by simp;omega
    by_cases h3:su.length=d.u.length
    ·have c1:(su.length:Int)=d.u.length:=by omega
     by_cases h4:sg.length=d.g.length
     ·have d1:(sg.length:Int)=d.g.length:=by omega
      simp (disch:=omega) [-getElem?_pos,wrap64,qF,hc,dF,a1,a2,b1,b2,c1,d1];refine go_loop (fun i:Nat=>acK (jQ d.u) d.u.length i d.row [i64 v,i64 rel,jy su,jo sg] G) (fun i=>i≤d.u.length∧∀j,j<i→fc (nth d.u j) (nth su j)) (fun i=>d.u.length-i) 0 rfl (by simp) ⟨by omega,by omega⟩ ?_
      rintro i ⟨hi,hv⟩;simp (disch:=omega) [-getElem?_pos,wrap64,SD];refine b9 (fun h5=>?_) (fun h5=>?_)
      ·have h5:i<d.u.length:=by omega
       have wa:i<su.length:=by omega
       by_cases h6:fc (nth d.u i) (nth su i)
       ·simp (disch:=omega) [-getElem?_pos,wrap64,bp (l:=d.u),bp (l:=su),xh,uL,h6]
        refine cc (i+1) (by simp) ⟨by omega,fun j hj=>?_⟩ (by omega)
        rcases Nat.lt_or_ge j i with h7|h7
        ·exact hv j h7
        ·rwa [show j=i by omega]
       ·simp (disch:=omega) [-getElem?_pos,wrap64,bp (l:=d.u),bp (l:=su),xh,uL,h6]
        exact no (fun h=>h6 (h.2.2.2.2.1 i h5))
      ·obtain rfl:i=d.u.length:=by omega
       refine go_loop (fun i:Nat=>acM (jB d.g) d.g.length i [i64 v,i64 rel,jy su,jo sg] G) (fun i=>i≤d.g.length∧∀j,j<i→mA (nth d.g j) (nth sg j)) (fun i=>d.g.length-i) 0 rfl (by simp) ⟨by omega,by omega⟩ ?_
       rintro i ⟨hi,hg⟩;simp (disch:=omega) [-getElem?_pos,wrap64,SE];refine b9 (fun h5=>?_) (fun h5=>?_)
       ·have h5:i<d.g.length:=by omega
        have wa:i<sg.length:=by omega
        by_cases h6:mA (nth d.g i) (nth sg i)
        ·have iB:(!decide (0≤(nth sg i).o) || !decide ((nth sg i).o≤(nth d.g i).dv))=false:=by simp;exact h6
         simp (disch:=omega) [-getElem?_pos,wrap64,bp (l:=d.g),bp (l:=sg),dF,xr,h6,iB];refine cc (i+1) (by simp) ⟨by omega,fun j hj=>?_⟩ (by omega)
         rcases Nat.lt_or_ge j i with h7|h7
         ·exact hg j h7
         ·rwa [show j=i by omega]
        ·have iB:(!decide (0≤(nth sg i).o) || !decide ((nth sg i).o≤(nth d.g i).dv))=true:=by
          have:¬ (0≤(nth sg i).o∧(nth sg i).o≤(nth d.g i).dv):=h6;simp;omega
         simp (disch:=omega) [-getElem?_pos,wrap64,bp (l:=d.g),bp (l:=sg),dF,xr,h6,iB];exact no (fun h=>h6 (h.2.2.2.2.2 i h5))
       ·obtain rfl:i=d.g.length:=by omega
        rw[←hW];have:gY d ⟨v,rel,su,sg⟩:=⟨h1,h2,h3,h4,hv,hg⟩;simp[this]
     ·have d1:¬ (sg.length:Int)=d.g.length:=by omega
      simp (disch:=omega) [-getElem?_pos,wrap64,qF,hc,dF,a1,a2,b1,b2,c1,d1];exact no (fun h=>h4 h.2.2.2.1)
    ·have c1:¬ (su.length:Int)=d.u.length:=by omega
     simp (disch:=omega) [-getElem?_pos,wrap64,qF,hc,dF,a1,a2,b1,b2,c1];exact no (fun h=>h3 h.2.2.1)
   ·have b1:(decide (0≤rel)&&decide (rel≤1073741824))=false:=by simp;omega
    have b2:(!decide (0≤rel) || !decide (rel≤1073741824))=true:=by simp;omega
    by_cases c1:(su.length:Int)=d.u.length
    ·by_cases d1:(sg.length:Int)=d.g.length
     ·simp (disch:=omega) [-getElem?_pos,wrap64,qF,hc,dF,a1,a2,b1,b2,c1,d1]
      exact no (fun h=>h2 h.2.1)
     ·simp (disch:=omega) [-getElem?_pos,wrap64,qF,hc,dF,a1,a2,b1,b2,c1,d1]
      exact no (fun h=>h2 h.2.1)
    ·simp (disch:=omega) [-getElem?_pos,wrap64,qF,hc,dF,a1,a2,b1,b2,c1]
     exact no (fun h=>h2 h.2.1)
  ·have a1:(decide (0≤v)&&decide (v≤jC d))=false:=by simp;omega
   have a2:(!decide (0≤v) || !decide (v≤jC d))=true:=by simp;omega
   by_cases h2:0≤rel∧rel≤1073741824
   ·have b1:(decide (0≤rel)&&decide (rel≤1073741824))=true:=by simp;omega
    have b2:(!decide (0≤rel) || !decide (rel≤1073741824))=false:=by simp;omega
    by_cases c1:(su.length:Int)=d.u.length
    ·by_cases d1:(sg.length:Int)=d.g.length
     ·simp (disch:=omega) [-getElem?_pos,wrap64,qF,hc,dF,a1,a2,b1,b2,c1,d1]
      exact no (fun h=>h1 h.1)
     ·simp (disch:=omega) [-getElem?_pos,wrap64,qF,hc,dF,a1,a2,b1,b2,c1,d1]
      exact no (fun h=>h1 h.1)
    ·simp (disch:=omega) [-getElem?_pos,wrap64,qF,hc,dF,a1,a2,b1,b2,c1]
     exact no (fun h=>h1 h.1)
   ·have b1:(decide (0≤rel)&&decide (rel≤1073741824))=false:=by simp;omega
    have b2:(!decide (0≤rel) || !decide (rel≤1073741824))=true:=by simp;omega
    by_cases c1:(su.length:Int)=d.u.length
    ·by_cases d1:(sg.length:Int)=d.g.length
     ·simp (disch:=omega) [-getElem?_pos,wrap64,qF,hc,dF,a1,a2,b1,b2,c1,d1]
      exact no (fun h=>h1 h.1)
     ·simp (disch:=omega) [-getElem?_pos,wrap64,qF,hc,dF,a1,a2,b1,b2,c1,d1]
      exact no (fun h=>h1 h.1)
    ·simp (disch:=omega) [-getElem?_pos,wrap64,qF,hc,dF,a1,a2,b1,b2,c1]
     exact no (fun h=>h1 h.1))
theorem aic{d:Dm}(hd:fy d=0)(s:Ds)(G:List aV):bo F 72 [dm d,dst s] G=some (.bool (decide (gY d s)),G):=by
  have h:=tX hd;exact cg rfl rfl (by
   obtain⟨v,rel,su,sg⟩:=s;generalize hW:decide (gY d ⟨v,rel,su,sg⟩)=W;have no:¬ gY d ⟨v,rel,su,sg⟩→W=false:=fun hn=>by rw[←hW];simp[hn]
   unfold gY at no;simp only at no;have Hv:=h.u;have UE:=h.g;have hc:=fun G=>zK d G;have hV:=fun G=>D6 d.r d.r.t G;have qR:=Hu h.r;have sQ:g9 d.r.c d.r.t=jC d:=rfl;by_cases h1:0≤v∧v≤jC d
   ·have a1:(decide (0≤v)&&decide (v≤jC d))=true:=by simp;omega
    have a2:(!decide (0≤v) || !decide (v≤jC d))=false:=by simp;omega
    by_cases h2:0≤rel∧rel≤1073741824
    ·have b1:(decide (0≤rel)&&decide (rel≤1073741824))=true:=by simp;omega
     have b2:(!decide (0≤rel) || !decide (rel≤1073741824))=false:=by simp;omega
     by_cases h3:su.length=d.u.length
     ·have c1:(su.length:Int)=d.u.length:=by omega
      by_cases h4:sg.length=d.g.length
      ·have d1:(sg.length:Int)=d.g.length:=by omega
       simp (disch:=omega) [-getElem?_pos,wrap64,p8,hc,hd,hV,qR,sQ,cY,a1,a2,b1,b2,c1,d1];refine go_loop (fun i:Nat=>aa8 (jQ d.u) d.u.length i d.row [i64 v,i64 rel,jy su,jo sg] G) (fun i=>i≤d.u.length∧∀j,j<i→fc (nth d.u j) (nth su j)) (fun i=>d.u.length-i) 0 rfl (by simp) ⟨by omega,by omega⟩ ?_
       rintro i ⟨hi,hv⟩;simp (disch:=omega) [-getElem?_pos,wrap64,RH];refine b9 (fun h5=>?_) (fun h5=>?_)
       ·have h5:i<d.u.length:=by omega
        have wa:i<su.length:=by omega
        by_cases h6:fc (nth d.u i) (nth su i)
        ·simp (disch:=omega) [-getElem?_pos,wrap64,bp (l:=d.u),bp (l:=su),xh,uL,h6]
         refine cc (i+1) (by simp) ⟨by omega,fun j hj=>?_⟩ (by omega)
         rcases Nat.lt_or_ge j i with h7|h7
         ·exact hv j h7
         ·rwa [show j=i by omega]
        ·simp (disch:=omega) [-getElem?_pos,wrap64,bp (l:=d.u),bp (l:=su),xh,uL,h6]
         exact no (fun h=>h6 (h.2.2.2.2.1 i h5))
       ·obtain rfl:i=d.u.length:=by omega
        refine go_loop (fun i:Nat=>abd (jB d.g) d.g.length i [i64 v,i64 rel,jy su,jo sg] G) (fun i=>i≤d.g.length∧∀j,j<i→mA (nth d.g j) (nth sg j)) (fun i=>d.g.length-i) 0 rfl (by simp) ⟨by omega,by omega⟩ ?_
        rintro i ⟨hi,hg⟩;simp (disch:=omega) [-getElem?_pos,wrap64,RI];refine b9 (fun h5=>?_) (fun h5=>?_)
        ·have h5:i<d.g.length:=by omega
         have wa:i<sg.length:=by omega
         by_cases h6:mA (nth d.g i) (nth sg i)
         ·have iB:(!decide (0≤(nth sg i).o) || !decide ((nth sg i).o≤(nth d.g i).dv))=false:=by simp;exact h6
          simp (disch:=omega) [-getElem?_pos,wrap64,bp (l:=d.g),bp (l:=sg),dF,xr,h6,iB];refine cc (i+1) (by simp) ⟨by omega,fun j hj=>?_⟩ (by omega)
          rcases Nat.lt_or_ge j i with h7|h7
          ·exact hg j h7
          ·rwa [show j=i by omega]
         ·have iB:(!decide (0≤(nth sg i).o) || !decide ((nth sg i).o≤(nth d.g i).dv))=true:=by
           have:¬ (0≤(nth sg i).o∧(nth sg i).o≤(nth d.g i).dv):=h6;simp;omega
          simp (disch:=omega) [-getElem?_pos,wrap64,bp (l:=d.g),bp (l:=sg),dF,xr,h6,iB];exact no (fun h=>h6 (h.2.2.2.2.2 i h5))
        ·obtain rfl:i=d.g.length:=by omega
         rw[←hW];have:gY d ⟨v,rel,su,sg⟩:=⟨h1,h2,h3,h4,hv,hg⟩;simp[this]
      ·have d1:¬ (sg.length:Int)=d.g.length:=by omega
       simp (disch:=omega) [-getElem?_pos,wrap64,p8,hc,hd,hV,qR,sQ,cY,a1,a2,b1,b2,c1,d1];exact no (fun h=>h4 h.2.2.2.1)
     ·have c1:¬ (su.length:Int)=d.u.length:=by omega
      simp (disch:=omega) [-getElem?_pos,wrap64,p8,hc,hd,hV,qR,sQ,cY,a1,a2,b1,b2,c1];exact no (fun h=>h3 h.2.2.1)
    ·have b1:(decide (0≤rel)&&decide (rel≤1073741824))=false:=by simp;omega
     have b2:(!decide (0≤rel) || !decide (rel≤1073741824))=true:=by simp;omega
     by_cases c1:(su.length:Int)=d.u.length
     ·by_cases d1:(sg.length:Int)=d.g.length
      ·simp (disch:=omega) [-getElem?_pos,wrap64,p8,hc,hd,hV,qR,sQ,cY,a1,a2,b1,b2,c1,d1]
       exact no (fun h=>h2 h.2.1)
      ·simp (disch:=omega) [-getElem?_pos,wrap64,p8,hc,hd,hV,qR,sQ,cY,a1,a2,b1,b2,c1,d1]
       exact no (fun h=>h2 h.2.1)
     ·simp (disch:=omega) [-getElem?_pos,wrap64,p8,hc,hd,hV,qR,sQ,cY,a1,a2,b1,b2,c1]
      exact no (fun h=>h2 h.2.1)
   ·have a1:(decide (0≤v)&&decide (v≤jC d))=false:=by simp;omega
    have a2:(!decide (0≤v) || !decide (v≤jC d))=true:=by simp;omega
    by_cases h2:0≤rel∧rel≤1073741824
    ·have b1:(decide (0≤rel)&&decide (rel≤1073741824))=true:=by simp;omega
     have b2:(!decide (0≤rel) || !decide (rel≤1073741824))=false:=by simp;omega
     by_cases c1:(su.length:Int)=d.u.length
     ·by_cases d1:(sg.length:Int)=d.g.length
      ·simp (disch:=omega) [-getElem?_pos,wrap64,p8,hc,hd,hV,qR,sQ,cY,a1,a2,b1,b2,c1,d1]
       exact no (fun h=>h1 h.1)
      ·simp (disch:=omega) [-getElem?_pos,wrap64,p8,hc,hd,hV,qR,sQ,cY,a1,a2,b1,b2,c1,d1]
       exact no (fun h=>h1 h.1)
     ·simp (disch:=omega) [-getElem?_pos,wrap64,p8,hc,hd,hV,qR,sQ,cY,a1,a2,b1,b2,c1]
      exact no (fun h=>h1 h.1)
    ·have b1:(decide (0≤rel)&&decide (rel≤1073741824))=false:=by simp;omega
     have b2:(!decide (0≤rel) || !decide (rel≤1073741824))=true:=by simp;omega
     by_cases c1:(su.length:Int)=d.u.length
     ·by_cases d1:(sg.length:Int)=d.g.length
      ·simp (disch:=omega) [-getElem?_pos,wrap64,p8,hc,hd,hV,qR,sQ,cY,a1,a2,b1,b2,c1,d1]
       exact no (fun h=>h1 h.1)
      ·simp (disch:=omega) [-getElem?_pos,wrap64,p8,hc,hd,hV,qR,sQ,cY,a1,a2,b1,b2,c1,d1]
       exact no (fun h=>h1 h.1)
     ·simp (disch:=omega) [-getElem?_pos,wrap64,p8,hc,hd,hV,qR,sQ,cY,a1,a2,b1,b2,c1]
      exact no (fun h=>h1 h.1))
theorem MX(d:Dm)(s:Ds)(G:List aV):bo F 72 [dm d,dst s] G=some (.bool (decide (fy d=0∧gY d s)),G):=by
 by_cases hd:fy d=0
 ·rw[show decide (fy d=0∧gY d s)=decide (gY d s) by simp[hd]]
  exact aic hd s G
 ·rw[show decide (fy d=0∧gY d s)=false by simp[hd]]
  have hC:=fun G=>zK d G;generalize fy d=x at hd hC;obtain⟨v,rel,su,sg⟩:=s;exact cg rfl rfl (by
   simp[wrap64,p8,hC,hd])
theorem UF(d:Dm)(s:Ds)(G:List aV):bo F 137 [dm d,dst s] G=some (.bool (decide (fy d=0∧gY d s)),G) :=
 cg rfl rfl (by
  by_cases hd:fy d=0
  ·simp[wrap64,Gn,zJ,hd,MW (tX hd)]
  ·simp[wrap64,Gn,zJ,hd])
theorem UG(d:Dm)(s:Ds)(G:List aV):bo F 195 [dm d,dst s] G=some (i64 (dE d s),G) :=
 cg rfl rfl (by
  by_cases hd:fy d=0
  ·by_cases hf:gY d s
   ·simp[wrap64,DO,zJ,hd,MW (tX hd),hf,dE]
   ·simp[wrap64,DO,zJ,hd,MW (tX hd),hf,dE]
  ·simp[wrap64,DO,zJ,hd,dE])
theorem UH(d:Dm)(s:Ds)(G:List aV):bo F 116 [dm d,dst s] G=some (i64 (dE d s),G) :=
 cg rfl rfl (by
  by_cases hd:fy d=0
  ·by_cases hf:gY d s
   ·simp[wrap64,DG,zK,hd,MX,hf,dE]
   ·simp[wrap64,DG,zK,hd,MX,hf,dE]
  ·simp[wrap64,DG,zK,hd,dE])
theorem Em{d:Dm}{s:Ds}(h:dE d s=0):Dv d∧gY d s:=by
 unfold dE at h;split at h
 ·rename_i h1;exact absurd h h1
 split at h
 ·rename_i h1 h2;exact⟨tX (Decidable.of_not_not h1),h2⟩
 ·cases h
noncomputable def lvl(d:Dm)(s:Ds):Int:=if dE d s=0 then jn d.r s.v else 0
theorem MY(d:Dm)(s:Ds)(G:List aV):bo F 183 [dm d,dst s] G=some (.tuple [i64 (lvl d s),i64 (dE d s)],G) :=
 cg rfl rfl (by
  by_cases hd:dE d s=0
  ·simp[wrap64,GA,UG,hd,ahh (Em hd).1.r,lvl]
  ·simp[wrap64,GA,UG,hd,lvl])
end Go.Proofs.YtmpikpodpgnjhaaGreat
namespace Go.Proofs.YtmpikpodpgnjhaaGreat
set_option linter.all false
open Go.Vm
attribute [local simp] eQ eR eO eP
theorem aid{u:Un}{s:Us}(hv:fc u s)(q:Int):qH u s q=if jx u s q then 0 else 15:=by
 unfold qH;rw[if_neg (fun h=>h hv.1),if_neg (fun h=>h hv)];by_cases h:jx u s q
 ·rw[if_pos h,if_neg (fun g=>g h)]
 ·rw[if_neg h,if_pos h]
theorem UI{u:Un}{s:Us}(hv:fc u s)(q:Int)(G:List aV):bo F 207 [un u,us s,i64 q] G =
  some (.tuple (if jx u s q then [us (qI s q),.bool (decide (s.cq=0)&&decide (0<q)),i64 0] else [us ⟨0,0,false⟩,.bool false,i64 15]),G) :=
 cg rfl rfl (by
  have hc:=hv.1;have h1:=hv.2.1;have hf:0≤s.cq:=by
   rcases hv.2.2 with h | ⟨_,h⟩
   ·omega
   ·have:=G4 hc h;omega
  have DX:min (s.since+1) 1000=min 1000 (s.since+1):=by omega
  by_cases hm:jx u s q
  ·simp +contextual (disch:=omega) [wrap64,GL,qG,Me hc,Mf hv,hc,hv,hm]
   refine gO (fun h=>?_) (fun h=>?_)
   ·have h':¬ (decide (0<s.cq)=decide (0<q)):=fun e=>by rw[e]at h;simp at h
    unfold qI;rw[if_neg h'];exact⟨⟨rfl,rfl,rfl⟩,Bool.and_comm _ _⟩
   ·have h':decide (0<s.cq)=decide (0<q):=by
     cases h1:decide (0<s.cq)<;>cases h2:decide (0<q)<;>rw[h1,h2]at h<;>first|rfl|cases h
    unfold qI;rw[if_pos h'];exact⟨⟨rfl,DX,rfl⟩,Bool.and_comm _ _⟩
  ·simp +contextual (disch:=omega) [wrap64,GL,qG,Me hc,Mf hv,hc,hv,hm])
structure Dr where
 inf:Int
 los:Int
 tur:Int
 spi:Int
 ovr:Int
 pow:Int
 lJ:Int
 deriving Inhabited
abbrev Dr.row(r:Dr):List V:=[i64 r.inf,i64 r.los,i64 r.tur,i64 r.spi,i64 r.ovr,i64 r.pow,i64 r.lJ]
abbrev dr(r:Dr):V:=.agg r.row
abbrev wk(d:Dm)(s:Ds)(nv nr:Int)(nu:List Us)(ng:V)(r:Dr)(rel left lv:Int):aV:=.cells
 [ig d.r.c,i64 d.r.d,i64 d.r.l,i64 d.r.f,i64 d.r.s,i64 d.r.t,jQ d.u,jB d.g,i64 d.gr,i64 s.v,i64 s.rel,jy s.u,jo s.g,
  i64 nv,i64 nr,.fG 3 (nu.map Us.row),ng,i64 r.inf,i64 r.los,i64 r.tur,i64 r.spi,i64 r.ovr,i64 r.pow,i64 r.lJ,i64 rel,i64 left,i64 lv]
def jD(d:Dm)(left:Int):Int:=max (left-BF d) 0
theorem MZ{r:Rs}(h:hY r=0)(l:Int):0≤g9 r.c l∧g9 r.c l≤1099511627776:=by
 have hc:=lF (qO h);have h1:=Bn hc l;have hp:=rD (qO h);have h2:=hc.y0 0 hp;have h3:=hc.y0 (r.c.length-1) (by omega)
 omega
theorem Hx{d:Dm}(h:hY d.r=0):0≤BF d∧BF d≤1099511627776:=MZ h _
theorem Hy{d:Dm}(h:hY d.r=0):0≤jC d∧jC d≤1099511627776:=MZ h _
theorem M0{d:Dm}(h:hY d.r=0){s:Ds}{nv nr:Int}{nu:List Us}{ng:V}{r:Dr}{rel left lv:Int}(hl:0≤left∧left≤4611686018427387904) :
  bo F 205 [.bN 0 0] [wk d s nv nr nu ng r rel left lv]=some (i64 (jD d left),[wk d s nv nr nu ng r rel left lv]) :=
 cg rfl rfl (by
  generalize hW:jD d left=W;have hD:g9 d.r.c d.r.d=BF d:=rfl;have h0:=Hx h;simp (disch:=omega) [wrap64,LS,GY (lF (qO h)),hD];exact hW)
theorem Hz{g:Int}:∀{us:List Un} {ss:List Us} {F:List Int},lH g us ss F→∀i,i<us.length→nth F i∈pt (nth us i) (nth ss i) g
 |[],[],[],_=>fun i hi=>by simp at hi
 |u::us,s::ss,q::F,h=>fun i hi=>by
  cases i with
  |zero=>exact h.1
  |succ i=>exact Hz h.2 i (by simpa using hi)
 |[],_::_,_,h=>h.elim
 |[],[],_::_,h=>h.elim
 |_::_,[],_,h=>h.elim
 |_::_,_::_,[],h=>h.elim
theorem En{us:List Un}{ss:List Us}{g release:Int}(h:jR us ss g release=0):lH g us ss (gX us ss g release)∧(gX us ss g release).sum≤release:=by
 unfold jR at h;split at h
 ·rename_i h1;exact absurd h h1
 split at h
 ·cases h
 rename_i h1 h2;have h1:=Decidable.of_not_not h1;obtain⟨h3,h4,_⟩:=MA h1;have hb:=TP h3 h4.1;unfold gX;rw[if_neg (fun g=>g h1)];cases hr:l7 (iS us ss g) release with
 |none=>exact absurd hr h2
 |some E =>
  rw[hr]at hb;exact⟨hb.lH,hb.sum⟩
noncomputable def gH(d:Dm)(s:Ds)(m:Int)(i:Nat):Int:=if jR d.u s.u d.gr m=0 then nth (gX d.u s.u d.gr m) i else 0
theorem aie{d:Dm}{s:Ds}{m:Int}{i:Nat}(hi:i<d.u.length):gH d s m i=0∨jm (nth d.u i) (nth s.u i) (gH d s m i):=by
 unfold gH;split
 ·rename_i h
  exact .inr (Bu.1 (Hz (En h).1 i hi)).2
 ·exact .inl rfl
theorem M1{d:Dm}{s:Ds}{m:Int}{i:Nat}(hi:i<d.u.length):0≤gH d s m i∧gH d s m i≤1073741824:=by
 rcases aie (s:=s) (m:=m) hi with h|h
 ·omega
 ·exact G8 h
noncomputable def qg(u:Un)(s:Us)(q:Int):Us:=if jx u s q then qI s q else ⟨0,1,s.out⟩
def gw(f:Nat→Int):Nat→Int
 |0=>0
 |i+1=>gw f i+f i
theorem HA{f:Nat→Int}{n:Nat}(h:∀i,i<n→0≤f i∧f i≤1073741824):∀i,i≤n→0≤gw f i∧gw f i≤1073741824*i:=by
 intro i;induction i with
 |zero=>intro _;simp[gw]
 |succ i ih=>intro hi;have:=ih (by omega);have:=h i (by omega);simp only[gw];omega
noncomputable def pz(d:Dm)(s:Ds)(m:Int)(i:Nat):Int:=pow (nth d.u i) (gH d s m i)
noncomputable def lJ(d:Dm)(s:Ds)(m:Int)(i:Nat):Int:=il (nth s.u i) (gH d s m i)
noncomputable def nG(d:Dm)(s:Ds)(m:Int)(n:Nat):List Us:=(List.range n).map fun i=>qg (nth d.u i) (nth s.u i) (gH d s m i)
theorem HB{d:Dm}{s:Ds}{m:Int}{n:Nat}:(nG d s m n).length=n:=by simp[nG]
theorem zL{d:Dm}{s:Ds}{m:Int}{n:Nat}:nG d s m (n+1)=nG d s m n++[qg (nth d.u n) (nth s.u n) (gH d s m n)]:=by simp[nG,List.range_succ]
def ko(d:Dm)(rel left:Int):Int:=min (min rel (jD d left)) (200*d.gr)
set_option maxHeartbeats 1000000 in
theorem aif{d:Dm}(h:Dv d){s:Ds}(hs:gY d s){nv nr inf los spi ovr rel left lv:Int}{ng:V}(hl:0≤left∧left≤4611686018427387904)(hr:0≤rel∧rel≤1073741824) :
  bo F 199 [.bN 0 0] [wk d s nv nr [] ng ⟨inf,los,0,spi,ovr,0,0⟩ rel left lv] =
   some (.tuple [],[wk d s nv nr (nG d s (ko d rel left) d.u.length) ng ⟨inf,los,gw (gH d s (ko d rel left)) d.u.length,spi,ovr,gw (pz d s (ko d rel left)) d.u.length,gw (lJ d s (ko d rel left)) d.u.length⟩ rel left lv]) :=
 cg rfl rfl (by
  obtain⟨G',hb⟩:=ag3 d.u s.u d.gr (ko d rel left);have hgr:=h.gr;have G6:min (min rel (jD d left)) (200*d.gr)=ko d rel left:=rfl;have Hv:=h.u;have wW:=hs.2.2.1;have HC:jR d.u s.u d.gr (ko d rel left)=0→(gX d.u s.u d.gr (ko d rel left)).length=d.u.length:=fun he=>(y8 (En he).1).1;generalize hM:ko d rel left=M at hb G6 HC;simp (disch:=omega) [wrap64,LN,M0 h.r,G6,hb];refine go_loop (fun i:Nat=>ac5 (.bN 0 0) (.slice none 1 ((gX d.u s.u d.gr M).map fun n=>[i64 n])) (jR d.u s.u d.gr M) (jQ d.u) d.u.length i
   [wk d s nv nr (nG d s M i) ng ⟨inf,los,gw (gH d s M) i,spi,ovr,gw (pz d s M) i,gw (lJ d s M) i⟩ rel left lv])
   (fun i=>i≤d.u.length) (fun i=>d.u.length-i) 0 rfl (by simp[nG,gw]) (by omega) ?_
  intro i hi;have qE:=HB (d:=d) (s:=s) (m:=M) (n:=i);have s1:=HA (f:=gH d s M) (n:=d.u.length) (fun i hi=>M1 hi) i hi;have s2:=HA (f:=pz d s M) (n:=d.u.length) (fun i hi=>G9) i hi;have s3:=HA (f:=lJ d s M) (n:=d.u.length) (fun i hi=>by have:=Mu (s:=nth s.u i) (q:=gH d s M i);unfold lJ;omega) i hi
  simp (disch:=omega) [wrap64,SO];refine b9 (fun h5=>?_) (fun h5=>?_)
  ·have h5:i<d.u.length:=by omega
   have wa:i<s.u.length:=by omega
   have hv:fc (nth d.u i) (nth s.u i):=hs.2.2.2.2.1 i h5;have Cj:=G9 (u:=nth d.u i) (q:=gH d s M i);have qy:=M1 (s:=s) (m:=M) h5;by_cases he:jR d.u s.u d.gr M=0
   ·have HC:=HC he
    have kG:nth (gX d.u s.u d.gr M) i=gH d s M i:=by simp[gH,he]
    have hm:jx (nth d.u i) (nth s.u i) (gH d s M i):=by
     have:=Bu.1 (Hz (En he).1 i h5);rw[kG]at this;exact this.2.2
    have hN:=UI hv (gH d s M i) [];rw[if_pos hm]at hN;have hP:=DW (nth d.u i) (gH d s M i) [];generalize hq:gH d s M i=q at *;generalize hp:pow (nth d.u i) q=p at *;simp (config:={ maxSteps:=2000000 }) +contextual (disch:=omega) [-getElem?_pos,-List.length_eq_zero_iff,-Int.natCast_eq_zero,wrap64,bp (l:=d.u),bp (l:=s.u),ez (l:=gX d.u s.u d.gr M),he,kG,hN,hP,qE];have hx:qg (nth d.u i) (nth s.u i) q=qI (nth s.u i) q:=by simp[qg,hm]
    refine gO (fun h6=>?_) (fun h6=>?_)
    ·have iB:lJ d s M i=1:=by
      simp at h6;simp[lJ,il,hq,h6]
     refine cc (i+1) (by simp[zL,gw,pz,hq,hp,iB,hx]) (by omega) (by omega)
    ·have iB:lJ d s M i=0:=by
      have h7:¬ (0<q∧(nth s.u i).cq=0):=fun h=>by rw[decide_eq_true h.1,decide_eq_true h.2]at h6;cases h6
      simp only[lJ,il,hq,if_neg h7]
     refine cc (i+1) (by simp[zL,gw,pz,hq,hp,iB,hx]) (by omega) (by omega)
   ·have hq:gH d s M i=0:=by simp[gH,he]
    have hp:pow (nth d.u i) 0=0:=by simp[pow]
    have iB:lJ d s M i=0:=by simp[lJ,il,hq]
    have hN:=UI hv 0 [];have hP:=DW (nth d.u i) 0 [];rw[hp]at hP;by_cases hm:jx (nth d.u i) (nth s.u i) 0
    ·rw[if_pos hm]at hN
     have hx:qg (nth d.u i) (nth s.u i) 0=qI (nth s.u i) 0:=by simp[qg,hm]
     simp only[Int.lt_irrefl,decide_false,Bool.and_false]at hN;simp (config:={ maxSteps:=2000000 }) +contextual (disch:=omega) [-getElem?_pos,-List.length_eq_zero_iff,-Int.natCast_eq_zero,wrap64,bp (l:=d.u),bp (l:=s.u),he,hN,hP,qE];refine cc (i+1) (by simp[zL,gw,pz,hq,hp,iB,hx]) (by omega) (by omega)
    ·rw[if_neg hm]at hN
     have hx:qg (nth d.u i) (nth s.u i) 0=⟨0,1,(nth s.u i).out⟩:=by simp[qg,hm]
     simp (config:={ maxSteps:=2000000 }) +contextual (disch:=omega) [-getElem?_pos,-List.length_eq_zero_iff,-Int.natCast_eq_zero,wrap64,bp (l:=d.u),bp (l:=s.u),he,hN,hP,qE];refine cc (i+1) (by simp[zL,gw,pz,hq,hp,iB,hx]) (by omega) (by omega)
  ·obtain rfl:i=d.u.length:=by omega
   simp)
end Go.Proofs.YtmpikpodpgnjhaaGreat
namespace Go.Proofs.YtmpikpodpgnjhaaGreat
set_option linter.all false
open Go.Vm
attribute [local simp] eQ eR eO eP
theorem HD(g:List Gt)(s:List Gs)(lv w:Int):0≤oh g s lv w∧oh g s lv w≤17179869184:=by
 unfold oh;split
 ·rename_i h
  unfold kn at h;split at h
  ·rename_i h1;exact absurd h h1
  ·rename_i h1
   obtain⟨h1,h2,h3,h4,h5⟩:=Ed (Decidable.of_not_not h1);have:=Um (lv:=lv) (w:=w) h2 h1 h3 h4 (i:=g.length) (Nat.le_refl _);omega
 ·omega
def mB(d:Dm)(rel left t:Int):Int:=min rel (jD d left)-t
noncomputable def Eo(d:Dm)(s:Ds)(rel left lv t:Int):Int:=min (oh d.g s.g lv (mB d rel left t)) (jD d left-t)
theorem aii{d:Dm}(h:Dv d){s:Ds}{nv nr inf los tur spi ovr pw st rel left lv:Int}{nu:List Us}{ng:V}(hl:0≤left∧left≤4611686018427387904)(hr:0≤rel∧rel≤1073741824)(ht:0≤tur∧tur≤1099511627776) :
  bo F 198 [.bN 0 0] [wk d s nv nr nu ng ⟨inf,los,tur,spi,ovr,pw,st⟩ rel left lv] =
   some (.tuple [],[wk d s nv nr nu (.slice none 2 ((nE d.g s.g lv (mB d rel left tur)).map Gs.row)) ⟨inf,los,tur,Eo d s rel left lv tur,ovr,pw,st⟩ rel left lv]) :=
 cg rfl rfl (by
  obtain⟨G',hb⟩:=ahZ d.g s.g lv (mB d rel left tur);have hF:=HD d.g s.g lv (mB d rel left tur);have hf:0≤jD d left∧jD d left≤4611686018427387904:=by
   have:=Hx h.r;unfold jD;omega
  have hW:min rel (jD d left)-tur=mB d rel left tur:=rfl;have hS:min (oh d.g s.g lv (mB d rel left tur)) (jD d left-tur)=Eo d s rel left lv tur:=rfl;have vy:=M0 h.r (s:=s) (nv:=nv) (nr:=nr) (nu:=nu) (ng:=.slice none 2 ((nE d.g s.g lv (mB d rel left tur)).map Gs.row)) (r:=⟨inf,los,tur,spi,ovr,pw,st⟩) (rel:=rel) (left:=left) (lv:=lv) hl;generalize Eo d s rel left lv tur=S at hS;generalize mB d rel left tur=W at hS hF hb hW vy;simp (disch:=omega) [wrap64,LM,M0 h.r,hW,hb,hS,vy])
theorem aij{d:Dm}(h:Dv d){s:Ds}{nv nr inf los tur spi ovr pw st rel left lv:Int}{nu:List Us}{ng:V}(hl:0≤left∧left≤4611686018427387904)(ht:0≤tur∧tur≤1099511627776)(gT:-1099511627776≤spi∧spi≤1099511627776) :
  bo F 197 [.bN 0 0] [wk d s nv nr nu ng ⟨inf,los,tur,spi,ovr,pw,st⟩ rel left lv] =
   some (.tuple [],[wk d s (left-(tur+spi)-max (left-(tur+spi)-jC d) 0) (min (tur+spi) 1073741824) nu ng ⟨inf,los,tur,spi,max (left-(tur+spi)-jC d) 0,pw,st⟩ rel (left-(tur+spi)) lv]) :=
 cg rfl rfl (by
  have hC:=Hy h.r;simp (disch:=omega) [wrap64,LK,UD h.r])
noncomputable def eA(s:Ds)(inf los:Int):Int:=s.v+inf-min los (s.v+inf)
noncomputable def fP(d:Dm)(s:Ds)(inf los rel:Int):Int:=gw (gH d s (ko d rel (eA s inf los))) d.u.length
noncomputable def kR(d:Dm)(s:Ds)(inf los rel:Int):Int:=Eo d s rel (eA s inf los) (jn d.r s.v) (fP d s inf los rel)
noncomputable def qS(d:Dm)(s:Ds)(inf los rel:Int):Int:=max (eA s inf los-(fP d s inf los rel+kR d s inf los rel)-jC d) 0
noncomputable def la(d:Dm)(s:Ds)(inf los rel:Int):Dr:=⟨inf,min los (s.v+inf),fP d s inf los rel,kR d s inf los rel,qS d s inf los rel,gw (pz d s (ko d rel (eA s inf los))) d.u.length,gw (lJ d s (ko d rel (eA s inf los))) d.u.length⟩
noncomputable def lK(d:Dm)(s:Ds)(inf los rel:Int):Ds:=⟨eA s inf los-(fP d s inf los rel+kR d s inf los rel)-qS d s inf los rel,min (fP d s inf los rel+kR d s inf los rel) 1073741824,
 nG d s (ko d rel (eA s inf los)) d.u.length,nE d.g s.g (jn d.r s.v) (mB d rel (eA s inf los) (fP d s inf los rel))⟩
theorem UJ{d:Dm}(h:Dv d){s:Ds}{inf los rel:Int}:0≤fP d s inf los rel∧fP d s inf los rel≤6442450944:=by
 have h1:=HA (f:=gH d s (ko d rel (eA s inf los))) (n:=d.u.length) (fun i hi=>M1 hi) d.u.length (Nat.le_refl _);have h2:=h.u;unfold fP;omega
theorem M3{C:bH}{args:List V}{f:FuncId}{fs:List FuncId}{G G':List aV}{r:V}{o:Option (List aV)}(h1:C f args G=some (r,G'))(h2:oB C args fs G'=o):oB C args (f::fs) G=o:=by
 simp only[oB,h1,h2]
abbrev UK(d:Dm)(s:Ds)(inf los rel lv:Int):aV:=.cells
 [ig d.r.c,i64 d.r.d,i64 d.r.l,i64 d.r.f,i64 d.r.s,i64 d.r.t,jQ d.u,jB d.g,i64 d.gr,i64 s.v,i64 s.rel,jy s.u,jo s.g,
  i64 0,i64 0,.fG 3 [],.fG 2 [],i64 inf,i64 los,i64 0,i64 0,i64 0,i64 0,i64 0,i64 rel,i64 0,i64 lv]
theorem aik{d:Dm}(h:Dv d){s:Ds}(hs:gY d s){inf los rel:Int}(hi:0≤inf∧inf≤1073741824)(hl:0≤los∧los≤1073741824)(hr:0≤rel∧rel≤1073741824) :
  ∃lf,bo F 185 [.bN 0 0] [UK d s inf los rel (jn d.r s.v)] =
   some (.tuple [],[wk d s (lK d s inf los rel).v (lK d s inf los rel).rel (lK d s inf los rel).u (.slice none 2 ((lK d s inf los rel).g.map Gs.row)) (la d s inf los rel) rel lf (jn d.r s.v)]):=by
 suffices hh:∀Q:V→List aV→Prop,(∀lf,Q (.tuple []) [wk d s (lK d s inf los rel).v (lK d s inf los rel).rel (lK d s inf los rel).u (.slice none 2 ((lK d s inf los rel).g.map Gs.row)) (la d s inf los rel) rel lf (jn d.r s.v)])→iP (bo F) 185 [.bN 0 0] [UK d s inf los rel (jn d.r s.v)] Q by
  obtain⟨_,G',h,lf,rfl,rfl⟩:=hh (fun v G'=>∃lf,v=.tuple []∧G'=[wk d s (lK d s inf los rel).v (lK d s inf los rel).rel (lK d s inf los rel).u (.slice none 2 ((lK d s inf los rel).g.map Gs.row)) (la d s inf los rel) rel lf (jn d.r s.v)]) fun lf=>⟨lf,rfl,rfl⟩;exact⟨lf,h⟩
 intro Q hQ;refine Y1 rfl rfl ?_;have hv:=hs.1;have hC:=Hy h.r;simp (disch:=omega) [wrap64,LF];have hL:0≤eA s inf los∧eA s inf los≤4611686018427387904:=by unfold eA;omega
 have hT:=UJ h (s:=s) (inf:=inf) (los:=los) (rel:=rel);have hP:-1099511627776≤kR d s inf los rel∧kR d s inf los rel≤1099511627776:=by
  have h1:=HD d.g s.g (jn d.r s.v) (mB d rel (eA s inf los) (fP d s inf los rel));have h2:0≤jD d (eA s inf los):=by unfold jD;omega
  unfold kR Eo;omega
 have h1:=aif h hs (nv:=0) (nr:=0) (inf:=inf) (los:=min los (s.v+inf)) (spi:=0) (ovr:=0) (rel:=rel) (left:=eA s inf los) (lv:=jn d.r s.v) (ng:=.fG 2 []) hL hr;have h2:=aii h (s:=s) (nv:=0) (nr:=0) (nu:=nG d s (ko d rel (eA s inf los)) d.u.length) (ng:=.fG 2 []) (inf:=inf) (los:=min los (s.v+inf)) (tur:=fP d s inf los rel) (spi:=0) (ovr:=0)
  (pw:=gw (pz d s (ko d rel (eA s inf los))) d.u.length) (st:=gw (lJ d s (ko d rel (eA s inf los))) d.u.length) (rel:=rel) (left:=eA s inf los) (lv:=jn d.r s.v) hL hr (by omega)
 have h3:=aij h (s:=s) (nv:=0) (nr:=0) (nu:=nG d s (ko d rel (eA s inf los)) d.u.length) (ng:=.slice none 2 ((nE d.g s.g (jn d.r s.v) (mB d rel (eA s inf los) (fP d s inf los rel))).map Gs.row)) (inf:=inf) (los:=min los (s.v+inf)) (tur:=fP d s inf los rel) (spi:=kR d s inf los rel) (ovr:=0)
  (pw:=gw (pz d s (ko d rel (eA s inf los))) d.u.length) (st:=gw (lJ d s (ko d rel (eA s inf los))) d.u.length) (rel:=rel) (left:=eA s inf los) (lv:=jn d.r s.v) hL (by omega) hP
 exact⟨_,M3 h1 (M3 h2 (M3 h3 rfl)),hQ _⟩
theorem ail(n:Int)(G:List aV):bo F 184 [i64 n] G=some (.bool (!decide (0≤n∧n≤1073741824)),G) :=
 cg rfl rfl (by
  simp[wrap64,LD,dF])
theorem aim(l:List Int)(hl:l.length≤1000)(p:Int→Bool)(f:FuncId)(G:List aV)(h:∀n,bo F f [i64 n] G=some (.bool (p n),G)) :
  ∃k:Int,(decide (0≤k)=l.any p)∧bo F 145 [ints l,.fn f []] G=some (i64 k,G):=by
 suffices hh:∀Q:V→List aV→Prop,(∀k:Int,decide (0≤k)=l.any p→Q (i64 k) G)→iP (bo F) 145 [ints l,.fn f []] G Q by
  obtain⟨_,G',h,k,h1,rfl,rfl⟩:=hh (fun v G'=>∃k:Int,decide (0≤k)=l.any p∧v=i64 k∧G'=G) fun k hk=>⟨k,hk,rfl,rfl⟩;exact⟨k,h1,h⟩
 intro Q hQ;refine jl rfl rfl ?_;simp (disch:=omega) [-getElem?_pos,wrap64,Ld];refine go_loop (fun i:Nat=>acd (ints l) (.fn f []) l.length i G) (fun i=>i≤l.length∧∀x∈l.take i,p x=false) (fun i=>l.length-i) 0 rfl (by simp) ⟨by omega,by simp⟩ ?_
 rintro i ⟨hi,hp⟩;simp (disch:=omega) [-getElem?_pos,wrap64,Sg];refine b9 (fun h5=>?_) (fun h5=>?_)
 ·have h5:i<l.length:=by omega
  simp (disch:=omega) [-getElem?_pos,wrap64,ez (l:=l),h];refine gO (fun h6=>?_) (fun h6=>?_)
  ·refine hQ _ ?_
   rw[decide_eq_true (by omega)]
   exact(List.any_eq_true.2 ⟨_,qc h5,h6⟩).symm
  ·refine cc (i+1) (by simp) ⟨by omega,?_⟩ (by omega)
   intro x hx;rw[jA h5]at hx;rcases List.mem_append.1 hx with hx|hx
   ·exact hp x hx
   ·rw[List.mem_singleton.1 hx];exact h6
 ·obtain rfl:i=l.length:=by omega
  refine hQ _ ?_;rw[List.take_length]at hp;rw[show l.any p=false from List.any_eq_false.2 fun x hx=>by rw[hp x hx];simp]
  rfl
theorem UL(l:List Int)(hl:l.length≤1000)(p:Int→Bool)(f:FuncId)(G:List aV)(h:∀n,bo F f [i64 n] G=some (.bool (p n),G)) :
  bo F 88 [ints l,.fn f []] G=some (.bool (l.any p),G) :=
 cg rfl rfl (by
  obtain⟨k,h1,h2⟩:=aim l hl p f G h;simp[wrap64,KU,h2];exact h1)
def uS(n:Int):Bool:=!decide (0≤n∧n≤1073741824)
noncomputable def mV(d:Dm)(s:Ds)(inf los rel:Int):Int:=if dE d s≠0 then dE d s else if [inf,los,rel].any uS then 1 else 0
noncomputable def qh(d:Dm)(s:Ds)(inf los rel:Int):V:=.tuple (if mV d s inf los rel=0 then [dst (lK d s inf los rel),dr (la d s inf los rel),i64 0] else [.agg [i64 0,i64 0,.slice (some 0) 3 [],.slice (some 0) 2 []],dr ⟨0,0,0,0,0,0,0⟩,i64 (mV d s inf los rel)])
theorem ain(d:Dm)(s:Ds)(inf los rel:Int):∃G',bo F 159 [dm d,dst s,i64 inf,i64 los,i64 rel] []=some (qh d s inf los rel,G'):=by
 suffices h:∀Q:V→List aV→Prop,(∀G',Q (qh d s inf los rel) G')→iP (bo F) 159 [dm d,dst s,i64 inf,i64 los,i64 rel] [] Q by
  obtain⟨_,G',h,rfl⟩:=h (fun v G'=>v=qh d s inf los rel) fun _=>rfl;exact⟨G',h⟩
 intro Q hQ;refine jl rfl rfl ?_;have hc:bo F 88 [.slice none 1 [[i64 inf],[i64 los],[i64 rel]],.fn 184 []] []=some (.bool ([inf,los,rel].any uS),[]) :=
  UL [inf,los,rel] (by simp) uS 184 [] (fun n=>ail n [])
 unfold qh mV at hQ;generalize hx:[inf,los,rel].any uS=x at hc hQ;by_cases hd:dE d s=0
 ·obtain⟨pA,AL⟩:=Em hd
  have uk:lvl d s=jn d.r s.v:=by simp[lvl,hd]
  simp only[hd,ne_eq,not_true_eq_false,if_false]at hQ;cases x with
  |true =>
   simp only[if_true,if_neg (show ¬ (1:Int)=0 by omega)]at hQ
   simp[wrap64,DM,MY,hd,uk,hc];exact hQ _
  |false =>
   simp only[uS,List.any_cons,List.any_nil,Bool.or_false,Bool.or_eq_false_iff,Bool.not_eq_false',decide_eq_true_eq]at hx;obtain⟨lf,hr⟩:=aik pA AL hx.1 hx.2.1 hx.2.2;simp[wrap64,DM,MY,hd,uk,hc,hr];exact hQ _
 ·simp only[hd,ne_eq,not_false_eq_true,if_true,if_false]at hQ
  simp[wrap64,DM,MY,hd];exact hQ _
end Go.Proofs.YtmpikpodpgnjhaaGreat
namespace Go.Proofs.YtmpikpodpgnjhaaGreat
set_option linter.all false
open Go.Vm
theorem Ep{c:List Pt}(h:Cv c):∀{i j:Nat},i≤j→j<c.length→(nth c i).x≤(nth c j).x:=by
 intro i j;induction j with
 |zero=>intro h1 _;obtain rfl:i=0:=by omega
        omega
 |succ j ih =>
  intro h1 h2;rcases Nat.lt_or_ge i (j+1) with h3|h3
  ·have:=ih (by omega) (by omega)
   have:=h.up (j+1) (by omega) h2
   simp only[Nat.add_sub_cancel]at this;omega
  ·obtain rfl:i=j+1:=by omega
   omega
theorem UM{c:List Pt}(h:Cv c){y:Int}{i:Nat}(hi:i+1<c.length)(h1:(nth c i).y≤y)(h2:y<(nth c (i+1)).y):(nth c i).x≤zB c y i∧zB c y i≤(nth c (i+1)).x:=by
 have u1:=h.up (i+1) (by omega) hi
 simp only[Nat.add_sub_cancel]at u1;have a1:(y-(nth c i).y+1)*((nth c (i+1)).x-(nth c i).x)≤((nth c (i+1)).y-(nth c i).y)*((nth c (i+1)).x-(nth c i).x):=Int.mul_le_mul_of_nonneg_right (by omega) (by omega)
 have a2:0<(y-(nth c i).y+1)*((nth c (i+1)).x-(nth c i).x):=Int.mul_pos (by omega) (by omega)
 unfold zB;rw[Int.tdiv_eq_ediv_of_nonneg (by omega)]
 have b1:0≤((y-(nth c i).y+1)*((nth c (i+1)).x-(nth c i).x)-1) / ((nth c (i+1)).y-(nth c i).y):=Int.ediv_nonneg (by omega) (by omega)
 have b2:((y-(nth c i).y+1)*((nth c (i+1)).x-(nth c i).x)-1) / ((nth c (i+1)).y-(nth c i).y)≤(nth c (i+1)).x-(nth c i).x:=by
  refine Int.le_trans (Int.ediv_le_ediv (by omega) (show _≤((nth c (i+1)).x-(nth c i).x)*((nth c (i+1)).y-(nth c i).y) by rw[Int.mul_comm ((nth c (i+1)).x-(nth c i).x)];omega)) ?_
  rw[Int.mul_ediv_cancel _ (by omega)]
  exact Int.le_refl _
 omega
theorem M4{c:List Pt}(h:Cv c){y:Int}:∀(m i:Nat),i+m=c.length-1→(nth c i).y≤y→(nth c 0).x≤qd c y m i∧qd c y m i≤(nth c (c.length-1)).x
 |0,i,hi,_=>by
  have hp:=h.pos;have:=Ep h (i:=0) (j:=c.length-1) (by omega) (by omega)
  unfold qd;omega
 |m+1,i,hi,hy=>by
  have hp:=h.pos;unfold qd;split
  ·rename_i h2
   have h3:=UM h (i:=i) (by omega) hy h2
   have:=Ep h (i:=0) (j:=i) (by omega) (by omega)
   have:=Ep h (i:=i+1) (j:=c.length-1) (by omega) (by omega)
   omega
  ·exact M4 h m (i+1) (by omega) (by omega)
theorem aio{r:Rs}(h:hY r=0)(v:Int):0≤jn r v∧jn r v≤16777216:=by
 have hs:=Ht h;have hc:=lF hs.c;have hp:=hc.pos;have:=hs.top;have h0:=hc.x0 0 hp;have h1:=Ep hc (i:=0) (j:=r.c.length-1) (by omega) (by omega)
 unfold jn;split
 ·omega
 ·have:=M4 hc (y:=v) (r.c.length-1) 0 (by omega) (by omega)
  unfold uP;omega
theorem aip{d:Dm}{s:Ds}(h:Dv d)(hf:gY d s):aE d.g s.g (jn d.r s.v)=0:=by
 have hr:=aio h.r s.v;have hg:=h.g;have hl:=hf.2.2.2.1;unfold aE;rw[if_neg (by omega),if_neg (by omega),if_neg (fun g=>g hf.2.2.2.2.2),if_neg (fun g=>g (rC fun i _ hi=>h.gv i (by omega))),if_neg (by omega)]
theorem M5(l:List Int):∀i,i≤l.length→gw (fun j=>nth l j) i=(l.take i).sum
 |0,_=>by simp[gw]
 |i+1,h=>by
  rw[jA (by omega),List.sum_append,← M5 l i (by omega)]
  simp[gw]
theorem M6:∀i,gw (fun _=>0) i=0
 |0=>rfl
 |i+1=>by simp[gw,M6 i]
theorem aiq{d:Dm}(s:Ds){m:Int}(hm:0≤m):gw (gH d s m) d.u.length≤m:=by
 by_cases he:jR d.u s.u d.gr m=0
 ·obtain⟨h1,h2⟩:=En he
  have hl:=(y8 h1).1;have:gH d s m=fun j=>nth (gX d.u s.u d.gr m) j:=by funext j;simp[gH,he]
  rw[this,M5 _ _ (by omega),List.take_of_length_le (by omega)]
  exact h2
 ·have:gH d s m=fun _=>0:=by funext j;simp[gH,he]
  rw[this,M6];exact hm
structure Stp(d:Dm)(s:Ds)(inf los rel:Int):Prop where
 L:eA s inf los=max 0 (s.v+inf-los)
 T0:0≤fP d s inf los rel
 Tr:fP d s inf los rel≤rel
 Tf:fP d s inf los rel≤jD d (eA s inf los)
 P0:0≤kR d s inf los rel
 sum:fP d s inf los rel+kR d s inf los rel≤jD d (eA s inf los)
 P1:kR d s inf los rel≤17179869184
 w0:0≤mB d rel (eA s inf los) (fP d s inf los rel)∧mB d rel (eA s inf los) (fP d s inf los rel)≤1073741824
theorem M7{d:Dm}(h:Dv d){s:Ds}(hf:gY d s){inf los rel:Int}(hi:0≤inf∧inf≤1073741824)(hl:0≤los∧los≤1073741824)(hr:0≤rel∧rel≤1073741824):Stp d s inf los rel:=by
 have hv:=hf.1;have hg:=h.gr;have qy:0≤jD d (eA s inf los):=by unfold jD;omega
 have hm:0≤ko d rel (eA s inf los):=by unfold ko;omega
 have h1:=aiq (d:=d) s hm;have h2:=UJ h (s:=s) (inf:=inf) (los:=los) (rel:=rel);have h3:fP d s inf los rel≤ko d rel (eA s inf los):=h1;have h4:=HD d.g s.g (jn d.r s.v) (mB d rel (eA s inf los) (fP d s inf los rel));have h5:kR d s inf los rel=min (oh d.g s.g (jn d.r s.v) (mB d rel (eA s inf los) (fP d s inf los rel))) (jD d (eA s inf los)-fP d s inf los rel):=rfl;unfold ko at h3;refine⟨by unfold eA;omega,h2.1,by omega,by omega,by omega,by omega,by omega,?_⟩
 unfold mB;omega
end Go.Proofs.YtmpikpodpgnjhaaGreat
namespace Go.Proofs.YtmpikpodpgnjhaaGreat
set_option linter.all false
open Go.Vm
attribute [local simp] eQ eR eO eP
theorem ais(r:Dr)(ht:0≤r.tur∧r.tur≤1099511627776)(hs:0≤r.spi∧r.spi≤1099511627776)(ho:0≤r.ovr∧r.ovr≤1099511627776)(G:List aV):bo F 93 [dr r] G=some (i64 (r.tur+r.spi+r.ovr),G) :=
 cg rfl rfl (by
  simp (disch:=omega) [wrap64,KW])
end Go.Proofs.YtmpikpodpgnjhaaGreat
namespace Go.Proofs.YtmpikpodpgnjhaaGreat
set_option linter.all false
open Go.Vm
attribute [local simp] eQ eR eO eP
theorem ait{l:List Int}(h:l.length=5):∃a b c d e,l=[a,b,c,d,e]:=by
 match l,h with
 |[a,b,c,d,e],_=>exact⟨a,b,c,d,e,rfl⟩
theorem Er{l:List Int}{i j:Nat}{v:Int}(h:i<l.length):nth (l.set i v) j=if i=j then v else nth l j:=by
 simp only[nth,List.getD,List.getElem?_set];by_cases e:i=j
 ·subst e;simp[h]
 ·simp[e]
theorem aiu{c:List Pt}{x y dx dy:Int}(h:Cw c x y dx dy 1)(h2:2≤c.length)(hx:0≤x∧x≤1000)(hy:0≤y∧y≤1000)(GV:0≤dx∧dx≤1000)(GW:0≤dy∧dy≤1000)
  {a1 a2 a3 a4 a5:Int} (l1:x≤a1) (l2:a1≤a2) (l3:a2≤a3) (l4:a3≤a4) (l5:a4≤a5) (l6:a5≤(nth c (c.length-1)).x):hY ⟨c,a1,a2,a3,a4,a5⟩=0:=by
 have hc:=h.kZ hx hy GV GW (by omega)
 have hf:=h.jY;have hu:=h.up hx hy GV GW (by omega) (c.length-1) (by omega)
 have h0:(nth c 0).x=x:=by rw[h.first]
 unfold hY;simp only;rw[if_neg (fun g=>g hc),if_neg (by omega),if_neg (by omega),if_pos,rC]
 ·intro i MD qJ
  have:i=1∨i=2∨i=3∨i=4∨i=5∨i=6:=by omega
  rcases this with rfl|rfl|rfl|rfl|rfl|rfl<;>simp only[oW,qN,nth,List.getD,List.getElem?_cons_succ,List.getElem?_cons_zero,Option.getD_some]<;>refine if_neg ?_
  ·have:(nth c 0).x≤a1:=by omega
   simp only[nth,List.getD]at this;simp;omega
  ·simp;omega
  ·simp;omega
  ·simp;omega
  ·simp;omega
  ·simp only[nth,List.getD]at l6;simp;omega
 ·refine rC fun i MD qJ=>?_
  have:=h.step i (by omega) (by omega)
  exact if_neg (by omega)
theorem aiv{l:List Int}{k:Nat}(hd:eb l k):∃r k',bo F 154 [.bN 0 0] [dk l k]=some (.agg r.cells,[dk l k'])∧eb l k'∧hY r=0∧(nth r.c (r.c.length-1)).y≤10000:=by
 suffices h:∀Q:V→List aV→Prop,(∀r k',eb l k'→hY r=0→(nth r.c (r.c.length-1)).y≤10000→Q (.agg r.cells) [dk l k'])→iP (bo F) 154 [.bN 0 0] [dk l k] Q by
  obtain⟨_,_,h,r,k',rfl,rfl,h1⟩:=h (fun v G=>∃r k',v=.agg r.cells∧G=[dk l k']∧eb l k'∧hY r=0∧(nth r.c (r.c.length-1)).y≤10000) fun r k' a b c=>⟨r,k',rfl,rfl,a,b,c⟩;exact⟨r,k',h,h1⟩
 intro Q hQ;refine jl rfl rfl ?_;obtain⟨a1,k1,n1,jb,Mp⟩:=gF hd 10 (by omega)
 obtain⟨a2,k2,n2,gm,Mq⟩:=gF jb 20 (by omega)
 obtain⟨c,k3,n3,mS,Cn,hc⟩:=Mo gm (x:=100+a1) (y:=a2) (dx:=40) (dy:=200) true (by omega) (by omega) (by omega) (by omega)
 simp only[if_true]at hc;have hu:=hc.up (by omega) (by omega) (by omega) (by omega) (by omega)
 have hf:=hc.jY;have h0:(nth c 0).x=100+a1:=by rw[hc.first]
 have hu1:=hu (c.length-1) (by omega)
 have UN:(nth c 0).x≤(nth c (c.length-1)).x:=by
  have:∀i,i<c.length→(nth c 0).x≤(nth c i).x:=by
   intro i;induction i with
   |zero=>intro _;omega
   |succ i ih=>intro hi;have:=ih (by omega);have:=hc.step (i+1) (by omega) hi;simp only[Nat.add_sub_cancel]at this;omega
  exact this _ (by omega)
 have h3:((c.length:Int)-1).toNat=c.length-1:=by omega
 have h5:0≤(c.length:Int)-1:=by omega
 simp (disch:=omega) [-getElem?_pos,wrap64,Lj,n1,n2,n3,bp (l:=c),h3,h5];refine go_loop (fun s:Nat×Int×List Int×Nat=>aci (.bN 0 0) s.2.1 (nth c (c.length-1)).x s.1 [.aM,i64 0,i64 0,i64 0,i64 0,i64 0] [ig c,i64 0,i64 0,i64 0,i64 0,i64 0] (dR s.2.2.1) [dk l s.2.2.2])
  (fun s=>s.1≤5∧s.2.2.1.length=5∧(100+a1≤s.2.1∧s.2.1≤(nth c (c.length-1)).x)∧(∀j,j<s.1→100+a1≤nth s.2.2.1 j)∧(∀i j,i≤j→j<s.1→nth s.2.2.1 i≤nth s.2.2.1 j)∧(∀j,j<s.1→nth s.2.2.1 j≤s.2.1)∧eb l s.2.2.2)
  (fun s=>5-s.1) (0,100+a1,[0,0,0,0,0],k3) rfl (by simp[dR,h0]) ⟨by simp,by simp,⟨by simp,by simp only;omega⟩,by simp,by simp,by simp,mS⟩ ?_
 rintro⟨i,at',ls,k⟩ ⟨hi,Es,⟨b1,b2⟩,h6,h7,h8,hd⟩;simp only at hi Es b1 b2 h6 h7 h8 hd;simp (disch:=omega) [-getElem?_pos,wrap64,Sk];refine b9 (fun h9=>?_) (fun h9=>?_)
 ·have h9:i<5:=by omega
  have cF:¬ (5:Int)-i=0:=by omega
  have hq0:0≤((nth c (c.length-1)).x-at').tdiv (5-i):=Int.tdiv_nonneg (by omega) (by omega)
  have Kh:((nth c (c.length-1)).x-at').tdiv (5-i)≤(nth c (c.length-1)).x-at':=Int.tdiv_le_self _ (by omega)
  obtain⟨p,k4,n4,rE,hp⟩:=gF hd (((nth c (c.length-1)).x-at').tdiv (5-i)+1) (by omega)
  simp (disch:=omega) [-getElem?_pos,wrap64,n4,cF];refine cc (i+1,at'+p,ls.set i (at'+p),k4) (by simp) ⟨by simp only;omega,by simp[Es],⟨by simp only;omega,by simp only;omega⟩,?_,?_,?_,rE⟩ (by simp only;omega)
  ·intro j hj
   simp only at hj ⊢;rw[Er (by omega)]
   split
   ·omega
   ·exact h6 j (by omega)
  ·intro i' j L9 hj
   simp only at hj ⊢;rw[Er (by omega),Er (by omega)]
   by_cases e1:i=j
   ·rw[if_pos e1]
    split
    ·omega
    ·have:=h8 i' (by omega);omega
   ·rw[if_neg e1,if_neg (by omega)]
    exact h7 i' j L9 (by omega)
  ·intro j hj
   simp only at hj ⊢;rw[Er (by omega)]
   split
   ·omega
   ·have:=h8 j (by omega);omega
 ·obtain rfl:i=5:=by omega
  obtain⟨e1,e2,e3,e4,e5,rfl⟩:=ait Es;simp (disch:=omega) [-getElem?_pos,wrap64,dR];have q1:=h6 0 (by omega)
  have q2:=h7 0 1 (by omega) (by omega)
  have q3:=h7 1 2 (by omega) (by omega)
  have q4:=h7 2 3 (by omega) (by omega)
  have q5:=h7 3 4 (by omega) (by omega)
  have q6:=h8 4 (by omega)
  exact hQ ⟨c,e1,e2,e3,e4,e5⟩ k hd (aiu hc Cn (by omega) (by omega) (by omega) (by omega) q1 q2 q3 q4 q5 (Int.le_trans q6 b2)) (by simp only;omega)
structure Gw(l:List Rt):Prop where
 cw:∀i,i<l.length→Cw (nth l i).c 0 0 6 20 0
 lv:∀i,i<l.length→0≤(nth l i).lv∧(nth l i).lv≤1000
 up:∀i,0<i→i<l.length→(nth l (i-1)).lv<(nth l i).lv
theorem Gw.kZ{l:List Rt}(h:Gw l)(h1:1≤l.length)(h2:l.length≤3){m v:Int}(hm:0≤m∧m≤1000)(hv:0≤v∧v≤1000):jT ⟨l,m,v⟩=0:=by
 unfold jT;simp only;rw[if_neg (by omega),if_neg (by omega),if_neg,if_neg (by omega)]
 refine fun hn=>hn (rC fun i _ hi=>?_);have hi:i<l.length:=by omega
 have hc:=h.cw i hi;have hl:=h.lv i hi;have hp:=hc.pos;have hf:=hc.jY;have hu:=hc.up (by omega) (by omega) (by omega) (by omega) (by omega) ((nth l i).c.length-1) (by omega)
 have h0:(nth (nth l i).c 0).x=0∧(nth (nth l i).c 0).y=0:=by rw[hc.first];exact⟨rfl,rfl⟩
 unfold nC;rw[if_neg (by omega),if_neg,if_neg (fun g=>g (hc.kZ (by omega) (by omega) (by omega) (by omega) (by omega))),if_neg (fun g=>g h0),if_neg (by omega)]
 rintro⟨h3,h4⟩;have:=h.up i h3 hi;omega
theorem Gw.snoc{l:List Rt}(h:Gw l){r:Rt}(hc:Cw r.c 0 0 6 20 0)(hl:0≤r.lv∧r.lv≤1000)(hu:0<l.length→(nth l (l.length-1)).lv<r.lv):Gw (l++[r]):=by
 refine⟨fun i hi=>?_,fun i hi=>?_,fun i h0 hi=>?_⟩
 ·simp at hi
  rw[iQ];split
  ·exact h.cw i (by assumption)
  ·rw[if_pos (by omega)];exact hc
 ·simp at hi
  rw[iQ];split
  ·exact h.lv i (by assumption)
  ·rw[if_pos (by omega)];exact hl
 ·simp at hi
  rw[iQ,iQ,if_pos (by omega)]
  split
  ·exact h.up i h0 (by assumption)
  ·obtain rfl:i=l.length:=by omega
   rw[if_pos rfl];exact hu h0
abbrev M8(g:Gt):V:=.agg [.slice (some 0) 2 (g.r.map Rt.row),i64 g.dv,i64 g.move]
theorem aiw{l:List Int}{k:Nat}(hd:eb l k):∃g k',bo F 182 [.bN 0 0] [dk l k]=some (M8 g,[dk l k'])∧eb l k'∧jT g=0:=by
 suffices h:∀Q:V→List aV→Prop,(∀g k',eb l k'→jT g=0→Q (M8 g) [dk l k'])→iP (bo F) 182 [.bN 0 0] [dk l k] Q by
  obtain⟨_,_,h,r,k',rfl,rfl,h1⟩:=h (fun v G=>∃r k',v=M8 r∧G=[dk l k']∧eb l k'∧jT r=0) fun r k' a b=>⟨r,k',rfl,rfl,a,b⟩;exact⟨r,k',h,h1⟩
 intro Q hQ;refine jl rfl rfl ?_;obtain⟨a1,k1,n1,jb,Mp⟩:=gF hd 12 (by omega)
 obtain⟨a2,k2,n2,gm,Mq⟩:=gF jb 6 (by omega)
 obtain⟨a3,k3,n3,mS,Tv⟩:=gF gm 40 (by omega)
 obtain⟨a4,k4,n4,rE,Tw⟩:=gF mS 3 (by omega)
 simp (disch:=omega) [wrap64,LC,n1,n2,n3,n4];refine go_loop (fun s:List Rt×Int×Int×Nat=>acS (.bN 0 0) s.2.1 s.2.2.1 [.aM,i64 0,i64 0] [.slice (some 1027) 2 (s.1.map Rt.row),i64 a1,i64 a2] s.1.length [dk l s.2.2.2])
  (fun s=>Gw s.1∧(s.1.length:Int)+s.2.2.1≤2 ∧ -1≤s.2.2.1∧(1≤s.1.length∨0≤s.2.2.1)∧(0≤s.2.1∧s.2.1≤130+50*s.1.length)∧(0<s.1.length→(nth s.1 (s.1.length-1)).lv<s.2.1)∧eb l s.2.2.2) (fun s=>(s.2.2.1+1).toNat)
  ([],90+a3,a4,k4) rfl (by simp) ⟨⟨by simp,by simp,by simp⟩,by simp;omega,by simp only;omega,by simp only;omega,by simp;omega,by simp,rE⟩ ?_
 rintro⟨r,lv,m,k⟩ ⟨hr,h1,h2,h3,h4,h5,hd⟩;simp only at h1 h2 h3 h4 h5 hd hr;obtain⟨c,k5,n5,DY,Cn,hc⟩:=Mo hd (x:=0) (y:=0) (dx:=6) (dy:=20) false (by omega) (by omega) (by omega) (by omega)
 obtain⟨a6,k6,n6,DZ,ha6⟩:=gF DY 40 (by omega)
 simp (disch:=omega) [wrap64,SJ];refine b9 (fun h6=>?_) (fun h6=>?_)
 ·simp (disch:=omega) [wrap64,n5,n6]
  refine cc (r++[⟨lv,c⟩],lv+(1+a6),m-1,k6) (by simp) ⟨hr.snoc hc (by simp only;omega) h5,by simp;omega,by simp only;omega,by simp,by simp;omega,by simp[iQ];omega,DZ⟩ (by simp only;omega)
 ·exact hQ ⟨r,a1,a2⟩ k hd (hr.kZ (by omega) (by omega) (by omega) (by omega))
abbrev M9(l:List Gt):V:=.slice (some 0) 3 (l.map Gt.row)
abbrev HE(l:List Gs):V:=.slice (some 0) 2 (l.map Gs.row)
structure HF(a:List Gt)(b:List Gs):Prop where
 len:a.length=b.length
 gate:∀i,i<a.length→jT (nth a i)=0
 state:∀i,i<a.length→mA (nth a i) (nth b i)
theorem aix{l:List Int}{k:Nat}(hd:eb l k){m:Nat}(hm:m≤1000):∃a b k',bo F 156 [.bN 0 0,i64 m] [dk l k]=some (.tuple [M9 a,HE b],[dk l k'])∧eb l k'∧HF a b∧a.length≤m:=by
 suffices h:∀Q:V→List aV→Prop,(∀a b k',eb l k'→HF a b→a.length≤m→Q (.tuple [M9 a,HE b]) [dk l k'])→iP (bo F) 156 [.bN 0 0,i64 m] [dk l k] Q by
  obtain⟨_,_,h,a,b,k',rfl,rfl,h1⟩:=h (fun v G=>∃a b k',v=.tuple [M9 a,HE b]∧G=[dk l k']∧eb l k'∧HF a b∧a.length≤m) fun a b k' h1 h2 h3=>⟨a,b,k',rfl,rfl,h1,h2,h3⟩;exact⟨a,b,k',h,h1⟩
 intro Q hQ;refine jl rfl rfl ?_;obtain⟨n,k1,n1,jb,hn⟩:=gF hd (m+1) (by omega)
 simp (disch:=omega) [wrap64,Lo,n1];refine go_loop (fun s:List Gt×List Gs×Int×Nat=>aco (.bN 0 0) (.slice (some 1023) 3 (s.1.map Gt.row)) (.slice (some 1035) 2 (s.2.1.map Gs.row)) s.2.2.1 s.1.length s.2.1.length [dk l s.2.2.2])
  (fun s=>HF s.1 s.2.1∧(s.1.length:Int)+s.2.2.1≤m∧0≤s.2.2.1∧eb l s.2.2.2) (fun s=>s.2.2.1.toNat) ([],[],n,k1) rfl (by simp) ⟨⟨rfl,by simp,by simp⟩,by simp;omega,by simp;omega,jb⟩ ?_
 rintro⟨a,b,n,k⟩ ⟨p9,h1,h2,hd⟩;simp only at p9 h1 h2 hd;obtain⟨g,k2,n2,gm,hg⟩:=aiw hd;have hgv:=(Uf hg).dv;obtain⟨p,k3,n3,mS,hp⟩:=gF gm (g.dv+1) (by omega)
 obtain⟨q,k4,n4,rE,hq⟩:=gF mS 7 (by omega)
 have hl:=p9.len;simp (disch:=omega) [wrap64,Sq];refine b9 (fun h4=>?_) (fun h4=>?_)
 ·simp (disch:=omega) [wrap64,n2,n3,n4]
  refine cc (a++[g],b++[⟨p,decide (q=6)⟩],n-1,k4) (by simp) ⟨⟨by simp[hl],fun i hi=>?_,fun i hi=>?_⟩,by simp;omega,by simp;omega,rE⟩ (by simp;omega)
  ·simp at hi
   rw[iQ];split
   ·exact p9.gate i (by assumption)
   ·rw[if_pos (by omega)];exact hg
  ·simp at hi
   rw[iQ,iQ,← hl];split
   ·exact p9.state i (by assumption)
   ·rw[if_pos (by omega),if_pos (by omega)]
    show 0≤p∧p≤g.dv;omega
 ·exact hQ a b k hd p9 (by omega)
end Go.Proofs.YtmpikpodpgnjhaaGreat
namespace Go.Proofs.YtmpikpodpgnjhaaGreat
set_option linter.all false
open Go.Vm
attribute [local simp] eQ eR eO eP
structure Dw(d:Dm)(s:Ds):Prop where
 kZ:fy d=0
 fit:gY d s
 aoD:D1 d.u s.u
 u2:d.u.length≤2
 g2:d.g.length≤2
 gr:1≤d.gr∧d.gr≤4
 rel:0≤s.rel∧s.rel≤29
 top:jC d≤10000
theorem aiy{l:List Int}{k:Nat}(hd:eb l k):∃d s k',bo F 111 [.bN 0 0] [dk l k]=some (.tuple [dm d,dst s],[dk l k'])∧eb l k'∧Dw d s:=by
 suffices h:∀Q:V→List aV→Prop,(∀d s k',eb l k'→Dw d s→Q (.tuple [dm d,dst s]) [dk l k'])→iP (bo F) 111 [.bN 0 0] [dk l k] Q by
  obtain⟨_,_,h,d,s,k',rfl,rfl,h1⟩:=h (fun v G=>∃d s k',v=.tuple [dm d,dst s]∧G=[dk l k']∧eb l k'∧Dw d s) fun d s k' a b=>⟨d,s,k',rfl,rfl,a,b⟩;exact⟨d,s,k',h,h1⟩
 intro Q hQ;refine jl rfl rfl ?_;obtain⟨r,k1,n1,jb,hr,hry⟩:=aiv hd;obtain⟨a,k2,n2,gm,ha⟩:=gF jb 4 (by omega)
 obtain⟨us,ss,k3,n3,mS,oD,FZ⟩:=agT (m:=2) gm (by omega)
 obtain⟨gs,ts,k4,n4,rE,oJ,CB⟩:=aix (m:=2) mS (by omega)
 rw[show((2:Nat):Int)=2 from rfl]at n3 n4;have hv:=MZ hr r.t;have qR:=Hu hr;obtain⟨v,k5,n5,DY,hv5⟩:=gF rE (g9 r.c r.t+1) (by omega)
 obtain⟨e,k6,n6,DZ,he6⟩:=gF DY 30 (by omega)
 have hV:=D6 r r.t [];simp (disch:=omega) [wrap64,K0,n1,n2,n3,n4,hV,qR,hr,n5,n6];refine hQ ⟨r,us,gs,1+a⟩ ⟨v,e,ss,ts⟩ k6 DZ ?_;have hc:fy ⟨r,us,gs,1+a⟩=0:=by
  unfold fy;simp only;rw[if_neg (fun g=>g hr),if_neg (by omega),if_neg (fun g=>g (rC fun i _ hi=>(oD.unit i (by omega)).kZ)),if_neg (fun g=>g (rC fun i _ hi=>oJ.gate i (by omega))),if_neg (by omega)]
 refine⟨hc,⟨⟨hv5.1,?_⟩,?_,oD.len.symm,oJ.len.symm,oD.state,oJ.state⟩,oD,FZ,CB,?_,?_,?_⟩
 ·show v≤g9 r.c r.t
  omega
 ·simp only;omega
 ·simp only;omega
 ·simp only;omega
 ·have:=(Bn (lF (qO hr)) r.t).2
  show g9 r.c r.t≤10000;omega
end Go.Proofs.YtmpikpodpgnjhaaGreat
namespace Go.Proofs.YtmpikpodpgnjhaaGreat
set_option linter.all false
open Go.Vm
end Go.Proofs.YtmpikpodpgnjhaaGreat
