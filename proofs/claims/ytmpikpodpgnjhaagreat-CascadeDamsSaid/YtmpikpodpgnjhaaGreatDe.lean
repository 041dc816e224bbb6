/- Parts of the proof, joined: Dam1, Dam2, Dam3, Dam4, Dam5, Dam6, Mk3, Mk4, Dmo1. -/
import Derived.Test.YtmpikpodpgnjhaaGreatDd
namespace Go.Proofs.YtmpikpodpgnjhaaGreat
set_option linter.all false
open Go.Vm
attribute [local simp] eS eT eQ eR
structure Dm where
 r:Rs
 u:List Un
 g:List Gt
 gr:Int
abbrev Dm.row(d:Dm):List V:=[iu d.r.c,i64 d.r.d,i64 d.r.l,i64 d.r.f,i64 d.r.s,i64 d.r.t,jZ d.u,jK d.g,i64 d.gr]
abbrev dm(d:Dm):V:=.agg d.row
structure Ds where
 v:Int
 rel:Int
 u:List Us
 g:List Gs
 deriving Inhabited
abbrev Ds.row(s:Ds):List V:=[i64 s.v,i64 s.rel,jH s.u,jy s.g]
abbrev dst(s:Ds):V:=.agg s.row
def uE(u:List Un):Int:=ef (fun i=>gW (nth u i)) u.length 0
def gE(g:List Gt):Int:=ef (fun i=>j8 (nth g i)) g.length 0
def fB(d:Dm):Int :=
 if ij d.r≠0 then ij d.r else if 6<d.u.length∨8<d.g.length then 10 else if uE d.u≠0 then uE d.u else if gE d.g≠0 then gE d.g
 else if d.gr<1∨1073741824<d.gr then 1 else 0
theorem zL(d:Dm)(G:List aV):bo F 68 [dm d] G=some (i64 (fB d),G) :=
 cg rfl rfl (by
  obtain⟨r,u,g,gr⟩:=d;generalize hW:fB ⟨r,u,g,gr⟩=W;unfold fB at hW;simp only at hW;have hS:=fun G=>TX r G;have v8:=fun G=>xm r G;by_cases h1:ij r=0
  ·rw[if_neg (by omega)]at hW
   by_cases h2:6<u.length
   ·rw[if_pos (.inl h2)]at hW
    have lO:(6:Int)<u.length:=by omega
    simp (disch:=omega) [-getElem?_pos,wrap64,A7,hS,v8,h1,lO];exact hW
   by_cases h3:8<g.length
   ·rw[if_pos (.inr h3)]at hW
    have lO:¬ (6:Int)<u.length:=by omega
    have jz:(8:Int)<g.length:=by omega
    simp (disch:=omega) [-getElem?_pos,wrap64,A7,hS,v8,h1,lO,jz];exact hW
   rw[if_neg (by omega)]at hW
   have lO:¬ (6:Int)<u.length:=by omega
   have jz:¬ (8:Int)<g.length:=by omega
   simp (disch:=omega) [-getElem?_pos,wrap64,A7,hS,v8,h1,lO,jz];refine go_loop (fun i:Nat=>aa1 (jZ u) u.length i (Dm.row ⟨r,u,g,gr⟩) G) (fun i=>i≤u.length∧ef (fun i=>gW (nth u i)) (u.length-i) i=uE u) (fun i=>u.length-i) 0 rfl (by simp) ⟨by omega,rfl⟩ ?_
   rintro i ⟨hi,hq⟩;simp (disch:=omega) [-getElem?_pos,wrap64,RF];refine b9 (fun h4=>?_) (fun h4=>?_)
   ·have h4:i<u.length:=by omega
    rw[ma h4]at hq;by_cases h5:gW (nth u i)=0
    ·rw[if_pos h5]at hq
     simp (disch:=omega) [-getElem?_pos,wrap64,bp (l:=u),qH,mC,h5];exact cc (i+1) (by simp) ⟨by omega,hq⟩ (by omega)
    ·rw[if_neg h5]at hq
     rw[←hq,if_pos h5]at hW;simp (disch:=omega) [-getElem?_pos,wrap64,bp (l:=u),qH,mC,h5];exact hW
   ·obtain rfl:i=u.length:=by omega
    rw[mU]at hq;rw[←hq,if_neg (by omega)]at hW
    refine go_loop (fun i:Nat=>aa3 (jK g) g.length i (Dm.row ⟨r,u,g,gr⟩) G) (fun i=>i≤g.length∧ef (fun i=>j8 (nth g i)) (g.length-i) i=gE g) (fun i=>g.length-i) 0 rfl (by simp) ⟨by omega,rfl⟩ ?_
    rintro i ⟨hi,hq⟩;simp (disch:=omega) [-getElem?_pos,wrap64,RG];refine b9 (fun h4=>?_) (fun h4=>?_)
    ·have h4:i<g.length:=by omega
     rw[ma h4]at hq;by_cases h5:j8 (nth g i)=0
     ·rw[if_pos h5]at hq
      simp (disch:=omega) [-getElem?_pos,wrap64,bp (l:=g),xp,xq,h5];exact cc (i+1) (by simp) ⟨by omega,hq⟩ (by omega)
     ·rw[if_neg h5]at hq
      rw[←hq,if_pos h5]at hW;simp (disch:=omega) [-getElem?_pos,wrap64,bp (l:=g),xp,xq,h5];exact hW
    ·obtain rfl:i=g.length:=by omega
     rw[mU]at hq;rw[←hq,if_neg (by omega)]at hW
     by_cases h6:gr<1
     ·rw[if_pos (.inl h6)]at hW
      simp (disch:=omega) [-getElem?_pos,wrap64,h6];exact hW
     ·by_cases h7:1073741824<gr
      ·rw[if_pos (.inr h7)]at hW
       simp (disch:=omega) [-getElem?_pos,wrap64,h6,h7];exact hW
      ·rw[if_neg (by omega)]at hW
       simp (disch:=omega) [-getElem?_pos,wrap64,h6,h7];exact hW
  ·rw[if_pos h1]at hW
   simp (disch:=omega) [-getElem?_pos,wrap64,A7,hS,v8,h1];exact hW)
theorem zM(d:Dm)(G:List aV):bo F 69 [dm d] G=some (i64 (fB d),G) :=
 cg rfl rfl (by
  obtain⟨r,u,g,gr⟩:=d;generalize hW:fB ⟨r,u,g,gr⟩=W;unfold fB at hW;simp only at hW;have hS:=fun G=>TX r G;have v8:=fun G=>xm r G;by_cases h1:ij r=0
  ·rw[if_neg (by omega)]at hW
   by_cases h2:6<u.length
   ·rw[if_pos (.inl h2)]at hW
    have lO:(6:Int)<u.length:=by omega
    simp (disch:=omega) [-getElem?_pos,wrap64,A8,hS,v8,h1,lO];exact hW
   by_cases h3:8<g.length
   ·rw[if_pos (.inr h3)]at hW
    have lO:¬ (6:Int)<u.length:=by omega
    have jz:(8:Int)<g.length:=by omega
    simp (disch:=omega) [-getElem?_pos,wrap64,A8,hS,v8,h1,lO,jz];exact hW
   rw[if_neg (by omega)]at hW
   have lO:¬ (6:Int)<u.length:=by omega
   have jz:¬ (8:Int)<g.length:=by omega
   simp (disch:=omega) [-getElem?_pos,wrap64,A8,hS,v8,h1,lO,jz];refine go_loop (fun i:Nat=>aa5 (jZ u) u.length i (Dm.row ⟨r,u,g,gr⟩) G) (fun i=>i≤u.length∧ef (fun i=>gW (nth u i)) (u.length-i) i=uE u) (fun i=>u.length-i) 0 rfl (by simp) ⟨by omega,rfl⟩ ?_
   rintro i ⟨hi,hq⟩;simp (disch:=omega) [-getElem?_pos,wrap64,RH];refine b9 (fun h4=>?_) (fun h4=>?_)
   ·have h4:i<u.length:=by omega
    rw[ma h4]at hq;by_cases h5:gW (nth u i)=0
    ·rw[if_pos h5]at hq
     simp (disch:=omega) [-getElem?_pos,wrap64,bp (l:=u),qH,mC,h5];exact cc (i+1) (by simp) ⟨by omega,hq⟩ (by omega)
    ·rw[if_neg h5]at hq
     rw[←hq,if_pos h5]at hW;simp (disch:=omega) [-getElem?_pos,wrap64,bp (l:=u),qH,mC,h5];exact hW
   ·obtain rfl:i=u.length:=by omega
    rw[mU]at hq;rw[←hq,if_neg (by omega)]at hW
    refine go_loop (fun i:Nat=>aa7 (jK g) g.length i (Dm.row ⟨r,u,g,gr⟩) G) (fun i=>i≤g.length∧ef (fun i=>j8 (nth g i)) (g.length-i) i=gE g) (fun i=>g.length-i) 0 rfl (by simp) ⟨by omega,rfl⟩ ?_
    rintro i ⟨hi,hq⟩;simp (disch:=omega) [-getElem?_pos,wrap64,RI];refine b9 (fun h4=>?_) (fun h4=>?_)
    ·have h4:i<g.length:=by omega
     rw[ma h4]at hq;by_cases h5:j8 (nth g i)=0
     ·rw[if_pos h5]at hq
      simp (disch:=omega) [-getElem?_pos,wrap64,bp (l:=g),xp,xq,h5];exact cc (i+1) (by simp) ⟨by omega,hq⟩ (by omega)
     ·rw[if_neg h5]at hq
      rw[←hq,if_pos h5]at hW;simp (disch:=omega) [-getElem?_pos,wrap64,bp (l:=g),xp,xq,h5];exact hW
    ·obtain rfl:i=g.length:=by omega
     rw[mU]at hq;rw[←hq,if_neg (by omega)]at hW
     by_cases h6:gr<1
     ·rw[if_pos (.inl h6)]at hW
      simp (disch:=omega) [-getElem?_pos,wrap64,h6];exact hW
     ·by_cases h7:1073741824<gr
      ·rw[if_pos (.inr h7)]at hW
       simp (disch:=omega) [-getElem?_pos,wrap64,h6,h7];exact hW
      ·rw[if_neg (by omega)]at hW
       simp (disch:=omega) [-getElem?_pos,wrap64,h6,h7];exact hW
  ·rw[if_pos h1]at hW
   simp (disch:=omega) [-getElem?_pos,wrap64,A8,hS,v8,h1];exact hW)
end Go.Proofs.YtmpikpodpgnjhaaGreat
namespace Go.Proofs.YtmpikpodpgnjhaaGreat
set_option linter.all false
open Go.Vm
attribute [local simp] eS eT eQ eR
structure Sv(r:Rs):Prop where
 c:gd r.c=0
 two:2≤r.c.length
 top:(nth r.c (r.c.length-1)).x≤16777216
 up:∀i,1≤i→i<r.c.length→(nth r.c (i-1)).y<(nth r.c i).y
 d:(nth r.c 0).x≤r.d
 l:r.d≤r.l
 f:r.l≤r.f
 s:r.f≤r.s
 t:r.s≤r.t
 last:r.t≤(nth r.c (r.c.length-1)).x
theorem Hv{r:Rs}(h:ij r=0):Sv r:=by
 have hc:=qP h;unfold ij at h;rw[if_neg (by omega)]at h
 split at h
 ·cases h
 split at h
 ·cases h
 split at h
 ·rename_i h1 h2 h3
  have hp:=rE hc;have up:∀i,1≤i→i<r.c.length→(nth r.c (i-1)).y<(nth r.c i).y:=fun i a b=>by
   have:=sH h3 i a (by omega)
   unfold qN at this;split at this
   ·cases this
   ·omega
  have lv:∀i,1≤i→i<7→nth (qO r) (i-1)≤nth (qO r) i:=fun i a b=>by
   have:=sH h i a (by omega)
   unfold oZ at this;split at this
   ·cases this
   ·omega
  have l1:=lv 1 (by omega) (by omega)
  have l2:=lv 2 (by omega) (by omega)
  have l3:=lv 3 (by omega) (by omega)
  have l4:=lv 4 (by omega) (by omega)
  have l5:=lv 5 (by omega) (by omega)
  have l6:=lv 6 (by omega) (by omega)
  exact⟨hc,by omega,by omega,up,l1,l2,l3,l4,l5,l6⟩
 ·cases h
theorem UF{r:Rs}(h:ij r=0){l:Int}(h1:(nth r.c 0).x≤l)(h2:l≤(nth r.c (r.c.length-1)).x):qQ r l=0:=by
 have v:=Hv h;have hp:=rE v.c;have:=(lL v.c).x0 0 hp;have:=v.top;unfold qQ;rw[if_neg (by omega),if_pos (by omega)]
def jL(d:Dm):Int:=ic d.r.c d.r.t
def BG(d:Dm):Int:=ic d.r.c d.r.d
theorem Hw{r:Rs}(h:ij r=0):qQ r r.t=0:=by
 have v:=Hv h;have:=v.d;have:=v.l;have:=v.f;have:=v.s;have:=v.t;exact UF h (by omega) v.last
theorem aid{r:Rs}(h:ij r=0):qQ r r.d=0:=by
 have v:=Hv h;have:=v.last;have:=v.l;have:=v.f;have:=v.s;have:=v.t;exact UF h v.d (by omega)
def hH(d:Dm)(s:Ds):Prop:=(0≤s.v∧s.v≤jL d)∧(0≤s.rel∧s.rel≤1073741824)∧s.u.length=d.u.length∧s.g.length=d.g.length∧y7 d.u s.u∧v7 d.g s.g
noncomputable instance {d:Dm} {s:Ds}:Decidable (hH d s):=Classical.propDecidable _
noncomputable def dE(d:Dm)(s:Ds):Int:=if fB d≠0 then fB d else if hH d s then 0 else 3
structure Dv(d:Dm):Prop where
 r:ij d.r=0
 u:d.u.length≤6
 g:d.g.length≤8
 uv:∀i,i<d.u.length→gW (nth d.u i)=0
 gv:∀i,i<d.g.length→j8 (nth d.g i)=0
 gr:1≤d.gr∧d.gr≤1073741824
theorem tY{d:Dm}(h:fB d=0):Dv d:=by
 unfold fB at h;split at h
 ·rename_i h1;exact absurd h h1
 split at h
 ·cases h
 split at h
 ·rename_i h1;exact absurd h h1
 split at h
 ·rename_i h1;exact absurd h h1
 split at h
 ·cases h
 rename_i h1 h2 h3 h4 h5;have h3:uE d.u=0:=Decidable.of_not_not h3;have h4:gE d.g=0:=Decidable.of_not_not h4;exact⟨Decidable.of_not_not h1,by omega,by omega,fun i hi=>sH h3 i (by omega) (by omega),fun i hi=>sH h4 i (by omega) (by omega),by omega⟩
theorem UG{d:Dm}(h:ij d.r=0)(G:List aV):bo F 191 [dm d] G=some (i64 (jL d),G) :=
 cg rfl rfl (by
  simp[wrap64,LM,G4 (lL (qP h)),jL])
theorem MY{d:Dm}(h:Dv d)(s:Ds)(G:List aV):bo F 176 [dm d,dst s] G=some (.bool (decide (hH d s)),G) :=
 cg rfl rfl (by
  obtain⟨v,rel,su,sg⟩:=s;generalize hW:decide (hH d ⟨v,rel,su,sg⟩)=W;have no:¬ hH d ⟨v,rel,su,sg⟩→W=false:=fun hn=>by rw[←hW];simp[hn]
  unfold hH at no;simp only at no;have Hx:=h.u;have UH:=h.g;have hc:=UG h.r;by_cases h1:0≤v∧v≤jL d
  ·have a1:(decide (0≤v)&&decide (v≤jL d))=true:=by simp;omega
   have a2:(!decide (0≤v) || !decide (v≤jL d))=false:=by simp;omega
   by_cases h2:0≤rel∧rel≤1073741824
   ·have b1:(decide (0≤rel)&&decide (rel≤1073741824))=true:=by simp;omega
    have b2:(!decide (0≤rel) || !decide (rel≤1073741824))=false:=by simp;omega
    by_cases h3:su.length=d.u.length
    ·have c1:(su.length:Int)=d.u.length:=by omega
     by_cases h4:sg.length=d.g.length
     ·have d1:(sg.length:Int)=d.g.length:=by omega
      simp (disch:=omega) [-getElem?_pos,wrap64,qG,hc,dG,a1,a2,b1,b2,c1,d1];refine go_loop (fun i:Nat=>acN (jZ d.u) d.u.length i d.row [i64 v,i64 rel,jH su,jy sg] G) (fun i=>i≤d.u.length∧∀j,j<i→fg (nth d.u j) (nth su j)) (fun i=>d.u.length-i) 0 rfl (by simp) ⟨by omega,by omega⟩ ?_
      rintro i ⟨hi,hv⟩;simp (disch:=omega) [-getElem?_pos,wrap64,SG];refine b9 (fun h5=>?_) (fun h5=>?_)
      ·have h5:i<d.u.length:=by omega
       have wa:i<su.length:=by omega
       by_cases h6:fg (nth d.u i) (nth su i)
       ·simp (disch:=omega) [-getElem?_pos,wrap64,bp (l:=d.u),bp (l:=su),xi,uL,h6]
        refine cc (i+1) (by simp) ⟨by omega,fun j hj=>?_⟩ (by omega)
        rcases Nat.lt_or_ge j i with h7|h7
        ·exact hv j h7
        ·rwa [show j=i by omega]
       ·simp (disch:=omega) [-getElem?_pos,wrap64,bp (l:=d.u),bp (l:=su),xi,uL,h6]
        exact no (fun h=>h6 (h.2.2.2.2.1 i h5))
      ·obtain rfl:i=d.u.length:=by omega
       refine go_loop (fun i:Nat=>acP (jK d.g) d.g.length i [i64 v,i64 rel,jH su,jy sg] G) (fun i=>i≤d.g.length∧∀j,j<i→mF (nth d.g j) (nth sg j)) (fun i=>d.g.length-i) 0 rfl (by simp) ⟨by omega,by omega⟩ ?_
       rintro i ⟨hi,hg⟩;simp (disch:=omega) [-getElem?_pos,wrap64,SH];refine b9 (fun h5=>?_) (fun h5=>?_)
       ·have h5:i<d.g.length:=by omega
        have wa:i<sg.length:=by omega
        by_cases h6:mF (nth d.g i) (nth sg i)
        ·have iH:(!decide (0≤(nth sg i).o) || !decide ((nth sg i).o≤(nth d.g i).dw))=false:=by simp;exact h6
         simp (disch:=omega) [-getElem?_pos,wrap64,bp (l:=d.g),bp (l:=sg),dG,xt,h6,iH];refine cc (i+1) (by simp) ⟨by omega,fun j hj=>?_⟩ (by omega)
         rcases Nat.lt_or_ge j i with h7|h7
         ·exact hg j h7
         ·rwa [show j=i by omega]
        ·have iH:(!decide (0≤(nth sg i).o) || !decide ((nth sg i).o≤(nth d.g i).dw))=true:=by
          have:¬ (0≤(nth sg i).o∧(nth sg i).o≤(nth d.g i).dw):=h6;simp;omega
         simp (disch:=omega) [-getElem?_pos,wrap64,bp (l:=d.g),bp (l:=sg),dG,xt,h6,iH];exact no (fun h=>h6 (h.2.2.2.2.2 i h5))
       ·obtain rfl:i=d.g.length:=by omega
        rw[←hW];have:hH d ⟨v,rel,su,sg⟩:=⟨h1,h2,h3,h4,hv,hg⟩;simp[this]
     ·have d1:¬ (sg.length:Int)=d.g.length:=by omega
      simp (disch:=omega) [-getElem?_pos,wrap64,qG,hc,dG,a1,a2,b1,b2,c1,d1];exact no (fun h=>h4 h.2.2.2.1)
    ·have c1:¬ (su.length:Int)=d.u.length:=by omega
     simp (disch:=omega) [-getElem?_pos,wrap64,qG,hc,dG,a1,a2,b1,b2,c1];exact no (fun h=>h3 h.2.2.1)
   ·have b1:(decide (0≤rel)&&decide (rel≤1073741824))=false:=by simp;omega
    have b2:(!decide (0≤rel) || !decide (rel≤1073741824))=true:=by simp;omega
    by_cases c1:(su.length:Int)=d.u.length
    ·by_cases d1:(sg.length:Int)=d.g.length
     ·simp (disch:=omega) [-getElem?_pos,wrap64,qG,hc,dG,a1,a2,b1,b2,c1,d1]
      exact no (fun h=>h2 h.2.1)
     ·simp (disch:=omega) [-getElem?_pos,wrap64,qG,hc,dG,a1,a2,b1,b2,c1,d1]
      exact no (fun h=>h2 h.2.1)
    ·simp (disch:=omega) [-getElem?_pos,wrap64,qG,hc,dG,a1,a2,b1,b2,c1]
     exact no (fun h=>h2 h.2.1)
  ·have a1:(decide (0≤v)&&decide (v≤jL d))=false:=by simp;omega
   have a2:(!decide (0≤v) || !decide (v≤jL d))=true:=by simp;omega
   by_cases h2:0≤rel∧rel≤1073741824
   ·have b1:(decide (0≤rel)&&decide (rel≤1073741824))=true:=by simp;omega
    have b2:(!decide (0≤rel) || !decide (rel≤1073741824))=false:=by simp;omega
    by_cases c1:(su.length:Int)=d.u.length
    ·by_cases d1:(sg.length:Int)=d.g.length
     ·simp (disch:=omega) [-getElem?_pos,wrap64,qG,hc,dG,a1,a2,b1,b2,c1,d1]
      exact no (fun h=>h1 h.1)
     ·simp (disch:=omega) [-getElem?_pos,wrap64,qG,hc,dG,a1,a2,b1,b2,c1,d1]
      exact no (fun h=>h1 h.1)
    ·simp (disch:=omega) [-getElem?_pos,wrap64,qG,hc,dG,a1,a2,b1,b2,c1]
     exact no (fun h=>h1 h.1)
   ·have b1:(decide (0≤rel)&&decide (rel≤1073741824))=false:=by simp;omega
    have b2:(!decide (0≤rel) || !decide (rel≤1073741824))=true:=by simp;omega
    by_cases c1:(su.length:Int)=d.u.length
    ·by_cases d1:(sg.length:Int)=d.g.length
     ·simp (disch:=omega) [-getElem?_pos,wrap64,qG,hc,dG,a1,a2,b1,b2,c1,d1]
      exact no (fun h=>h1 h.1)
     ·simp (disch:=omega) [-getElem?_pos,wrap64,qG,hc,dG,a1,a2,b1,b2,c1,d1]
      exact no (fun h=>h1 h.1)
    ·simp (disch:=omega) [-getElem?_pos,wrap64,qG,hc,dG,a1,a2,b1,b2,c1]
     exact no (fun h=>h1 h.1))
theorem aif{d:Dm}(hd:fB d=0)(s:Ds)(G:List aV):bo F 72 [dm d,dst s] G=some (.bool (decide (hH d s)),G):=by
  have h:=tY hd;exact cg rfl rfl (by
   obtain⟨v,rel,su,sg⟩:=s;generalize hW:decide (hH d ⟨v,rel,su,sg⟩)=W;have no:¬ hH d ⟨v,rel,su,sg⟩→W=false:=fun hn=>by rw[←hW];simp[hn]
   unfold hH at no;simp only at no;have Hx:=h.u;have UH:=h.g;have hc:=fun G=>zM d G;have hV:=fun G=>D7 d.r d.r.t G;have qS:=Hw h.r;have sV:ic d.r.c d.r.t=jL d:=rfl;by_cases h1:0≤v∧v≤jL d
   ·have a1:(decide (0≤v)&&decide (v≤jL d))=true:=by simp;omega
    have a2:(!decide (0≤v) || !decide (v≤jL d))=false:=by simp;omega
    by_cases h2:0≤rel∧rel≤1073741824
    ·have b1:(decide (0≤rel)&&decide (rel≤1073741824))=true:=by simp;omega
     have b2:(!decide (0≤rel) || !decide (rel≤1073741824))=false:=by simp;omega
     by_cases h3:su.length=d.u.length
     ·have c1:(su.length:Int)=d.u.length:=by omega
      by_cases h4:sg.length=d.g.length
      ·have d1:(sg.length:Int)=d.g.length:=by omega
       simp (disch:=omega) [-getElem?_pos,wrap64,p9,hc,hd,hV,qS,sV,c5,a1,a2,b1,b2,c1,d1];refine go_loop (fun i:Nat=>abb (jZ d.u) d.u.length i d.row [i64 v,i64 rel,jH su,jy sg] G) (fun i=>i≤d.u.length∧∀j,j<i→fg (nth d.u j) (nth su j)) (fun i=>d.u.length-i) 0 rfl (by simp) ⟨by omega,by omega⟩ ?_
       rintro i ⟨hi,hv⟩;simp (disch:=omega) [-getElem?_pos,wrap64,RK];refine b9 (fun h5=>?_) (fun h5=>?_)
       ·have h5:i<d.u.length:=by omega
        have wa:i<su.length:=by omega
        by_cases h6:fg (nth d.u i) (nth su i)
        ·simp (disch:=omega) [-getElem?_pos,wrap64,bp (l:=d.u),bp (l:=su),xi,uL,h6]
         refine cc (i+1) (by simp) ⟨by omega,fun j hj=>?_⟩ (by omega)
         rcases Nat.lt_or_ge j i with h7|h7
         ·exact hv j h7
         ·rwa [show j=i by omega]
        ·simp (disch:=omega) [-getElem?_pos,wrap64,bp (l:=d.u),bp (l:=su),xi,uL,h6]
         exact no (fun h=>h6 (h.2.2.2.2.1 i h5))
       ·obtain rfl:i=d.u.length:=by omega
        refine go_loop (fun i:Nat=>abg (jK d.g) d.g.length i [i64 v,i64 rel,jH su,jy sg] G) (fun i=>i≤d.g.length∧∀j,j<i→mF (nth d.g j) (nth sg j)) (fun i=>d.g.length-i) 0 rfl (by simp) ⟨by omega,by omega⟩ ?_
        rintro i ⟨hi,hg⟩;simp (disch:=omega) [-getElem?_pos,wrap64,RL];refine b9 (fun h5=>?_) (fun h5=>?_)
        ·have h5:i<d.g.length:=by omega
         have wa:i<sg.length:=by omega
         by_cases h6:mF (nth d.g i) (nth sg i)
         ·have iH:(!decide (0≤(nth sg i).o) || !decide ((nth sg i).o≤(nth d.g i).dw))=false:=by simp;exact h6
          simp (disch:=omega) [-getElem?_pos,wrap64,bp (l:=d.g),bp (l:=sg),dG,xt,h6,iH];refine cc (i+1) (by simp) ⟨by omega,fun j hj=>?_⟩ (by omega)
          rcases Nat.lt_or_ge j i with h7|h7
          ·exact hg j h7
          ·rwa [show j=i by omega]
         ·have iH:(!decide (0≤(nth sg i).o) || !decide ((nth sg i).o≤(nth d.g i).dw))=true:=by
           have:¬ (0≤(nth sg i).o∧(nth sg i).o≤(nth d.g i).dw):=h6;simp;omega
          simp (disch:=omega) [-getElem?_pos,wrap64,bp (l:=d.g),bp (l:=sg),dG,xt,h6,iH];exact no (fun h=>h6 (h.2.2.2.2.2 i h5))
        ·obtain rfl:i=d.g.length:=by omega
         rw[←hW];have:hH d ⟨v,rel,su,sg⟩:=⟨h1,h2,h3,h4,hv,hg⟩;simp[this]
      ·have d1:¬ (sg.length:Int)=d.g.length:=by omega
       simp (disch:=omega) [-getElem?_pos,wrap64,p9,hc,hd,hV,qS,sV,c5,a1,a2,b1,b2,c1,d1];exact no (fun h=>h4 h.2.2.2.1)
     ·have c1:¬ (su.length:Int)=d.u.length:=by omega
      simp (disch:=omega) [-getElem?_pos,wrap64,p9,hc,hd,hV,qS,sV,c5,a1,a2,b1,b2,c1];exact no (fun h=>h3 h.2.2.1)
    ·have b1:(decide (0≤rel)&&decide (rel≤1073741824))=false:=by simp;omega
     have b2:(!decide (0≤rel) || !decide (rel≤1073741824))=true:=by simp;omega
     by_cases c1:(su.length:Int)=d.u.length
     ·by_cases d1:(sg.length:Int)=d.g.length
      ·simp (disch:=omega) [-getElem?_pos,wrap64,p9,hc,hd,hV,qS,sV,c5,a1,a2,b1,b2,c1,d1]
       exact no (fun h=>h2 h.2.1)
      ·simp (disch:=omega) [-getElem?_pos,wrap64,p9,hc,hd,hV,qS,sV,c5,a1,a2,b1,b2,c1,d1]
       exact no (fun h=>h2 h.2.1)
     ·simp (disch:=omega) [-getElem?_pos,wrap64,p9,hc,hd,hV,qS,sV,c5,a1,a2,b1,b2,c1]
      exact no (fun h=>h2 h.2.1)
   ·have a1:(decide (0≤v)&&decide (v≤jL d))=false:=by simp;omega
    have a2:(!decide (0≤v) || !decide (v≤jL d))=true:=by simp;omega
    by_cases h2:0≤rel∧rel≤1073741824
    ·have b1:(decide (0≤rel)&&decide (rel≤1073741824))=true:=by simp;omega
     have b2:(!decide (0≤rel) || !decide (rel≤1073741824))=false:=by simp;omega
     by_cases c1:(su.length:Int)=d.u.length
     ·by_cases d1:(sg.length:Int)=d.g.length
      ·simp (disch:=omega) [-getElem?_pos,wrap64,p9,hc,hd,hV,qS,sV,c5,a1,a2,b1,b2,c1,d1]
       exact no (fun h=>h1 h.1)
      ·simp (disch:=omega) [-getElem?_pos,wrap64,p9,hc,hd,hV,qS,sV,c5,a1,a2,b1,b2,c1,d1]
       exact no (fun h=>h1 h.1)
     ·simp (disch:=omega) [-getElem?_pos,wrap64,p9,hc,hd,hV,qS,sV,c5,a1,a2,b1,b2,c1]
      exact no (fun h=>h1 h.1)
    ·have b1:(decide (0≤rel)&&decide (rel≤1073741824))=false:=by simp;omega
     have b2:(!decide (0≤rel) || !decide (rel≤1073741824))=true:=by simp;omega
     by_cases c1:(su.length:Int)=d.u.length
     ·by_cases d1:(sg.length:Int)=d.g.length
      ·simp (disch:=omega) [-getElem?_pos,wrap64,p9,hc,hd,hV,qS,sV,c5,a1,a2,b1,b2,c1,d1]
       exact no (fun h=>h1 h.1)
      ·simp (disch:=omega) [-getElem?_pos,wrap64,p9,hc,hd,hV,qS,sV,c5,a1,a2,b1,b2,c1,d1]
       exact no (fun h=>h1 h.1)
     ·simp (disch:=omega) [-getElem?_pos,wrap64,p9,hc,hd,hV,qS,sV,c5,a1,a2,b1,b2,c1]
      exact no (fun h=>h1 h.1))
theorem MZ(d:Dm)(s:Ds)(G:List aV):bo F 72 [dm d,dst s] G=some (.bool (decide (fB d=0∧hH d s)),G):=by
 by_cases hd:fB d=0
 ·rw[show decide (fB d=0∧hH d s)=decide (hH d s) by simp[hd]]
  exact aif hd s G
 ·rw[show decide (fB d=0∧hH d s)=false by simp[hd]]
  have hC:=fun G=>zM d G;generalize fB d=x at hd hC;obtain⟨v,rel,su,sg⟩:=s;exact cg rfl rfl (by
   simp[wrap64,p9,hC,hd])
theorem UI(d:Dm)(s:Ds)(G:List aV):bo F 137 [dm d,dst s] G=some (.bool (decide (fB d=0∧hH d s)),G) :=
 cg rfl rfl (by
  by_cases hd:fB d=0
  ·simp[wrap64,Gq,zL,hd,MY (tY hd)]
  ·simp[wrap64,Gq,zL,hd])
theorem UJ(d:Dm)(s:Ds)(G:List aV):bo F 195 [dm d,dst s] G=some (i64 (dE d s),G) :=
 cg rfl rfl (by
  by_cases hd:fB d=0
  ·by_cases hf:hH d s
   ·simp[wrap64,DP,zL,hd,MY (tY hd),hf,dE]
   ·simp[wrap64,DP,zL,hd,MY (tY hd),hf,dE]
  ·simp[wrap64,DP,zL,hd,dE])
theorem UK(d:Dm)(s:Ds)(G:List aV):bo F 116 [dm d,dst s] G=some (i64 (dE d s),G) :=
 cg rfl rfl (by
  by_cases hd:fB d=0
  ·by_cases hf:hH d s
   ·simp[wrap64,DH,zM,hd,MZ,hf,dE]
   ·simp[wrap64,DH,zM,hd,MZ,hf,dE]
  ·simp[wrap64,DH,zM,hd,dE])
theorem En{d:Dm}{s:Ds}(h:dE d s=0):Dv d∧hH d s:=by
 unfold dE at h;split at h
 ·rename_i h1;exact absurd h h1
 split at h
 ·rename_i h1 h2;exact⟨tY (Decidable.of_not_not h1),h2⟩
 ·cases h
noncomputable def lvl(d:Dm)(s:Ds):Int:=if dE d s=0 then jx d.r s.v else 0
theorem M0(d:Dm)(s:Ds)(G:List aV):bo F 183 [dm d,dst s] G=some (.tuple [i64 (lvl d s),i64 (dE d s)],G) :=
 cg rfl rfl (by
  by_cases hd:dE d s=0
  ·simp[wrap64,GC,UJ,hd,ahk (En hd).1.r,lvl]
  ·simp[wrap64,GC,UJ,hd,lvl])
end Go.Proofs.YtmpikpodpgnjhaaGreat
namespace Go.Proofs.YtmpikpodpgnjhaaGreat
set_option linter.all false
open Go.Vm
attribute [local simp] eS eT eQ eR
theorem aih{u:Un}{s:Us}(hv:fg u s)(q:Int):qI u s q=if jG u s q then 0 else 15:=by
 unfold qI;rw[if_neg (fun h=>h hv.1),if_neg (fun h=>h hv)];by_cases h:jG u s q
 ·rw[if_pos h,if_neg (fun g=>g h)]
 ·rw[if_neg h,if_pos h]
theorem UL{u:Un}{s:Us}(hv:fg u s)(q:Int)(G:List aV):bo F 207 [un u,us s,i64 q] G =
  some (.tuple (if jG u s q then [us (qJ s q),.bool (decide (s.cq=0)&&decide (0<q)),i64 0] else [us ⟨0,0,false⟩,.bool false,i64 15]),G) :=
 cg rfl rfl (by
  have hc:=hv.1;have h1:=hv.2.1;have hf:0≤s.cq:=by
   rcases hv.2.2 with h | ⟨_,h⟩
   ·omega
   ·have:=G6 hc h;omega
  have DY:min (s.since+1) 1000=min 1000 (s.since+1):=by omega
  by_cases hm:jG u s q
  ·simp +contextual (disch:=omega) [wrap64,GN,qH,Mg hc,Mh hv,hc,hv,hm]
   refine gV (fun h=>?_) (fun h=>?_)
   ·have h':¬ (decide (0<s.cq)=decide (0<q)):=fun e=>by rw[e]at h;simp at h
    unfold qJ;rw[if_neg h'];exact⟨⟨rfl,rfl,rfl⟩,Bool.and_comm _ _⟩
   ·have h':decide (0<s.cq)=decide (0<q):=by
     cases h1:decide (0<s.cq)<;>cases h2:decide (0<q)<;>rw[h1,h2]at h<;>first|rfl|cases h
    unfold qJ;rw[if_pos h'];exact⟨⟨rfl,DY,rfl⟩,Bool.and_comm _ _⟩
  ·simp +contextual (disch:=omega) [wrap64,GN,qH,Mg hc,Mh hv,hc,hv,hm])
structure Dr where
 inf:Int
 los:Int
 tur:Int
 spi:Int
 ovr:Int
 pow:Int
 lP:Int
 deriving Inhabited
abbrev Dr.row(r:Dr):List V:=[i64 r.inf,i64 r.los,i64 r.tur,i64 r.spi,i64 r.ovr,i64 r.pow,i64 r.lP]
abbrev dr(r:Dr):V:=.agg r.row
abbrev wk(d:Dm)(s:Ds)(nv nr:Int)(nu:List Us)(ng:V)(r:Dr)(rel left lv:Int):aV:=.cells
 [iu d.r.c,i64 d.r.d,i64 d.r.l,i64 d.r.f,i64 d.r.s,i64 d.r.t,jZ d.u,jK d.g,i64 d.gr,i64 s.v,i64 s.rel,jH s.u,jy s.g,
  i64 nv,i64 nr,.fC 3 (nu.map Us.row),ng,i64 r.inf,i64 r.los,i64 r.tur,i64 r.spi,i64 r.ovr,i64 r.pow,i64 r.lP,i64 rel,i64 left,i64 lv]
def jM(d:Dm)(left:Int):Int:=max (left-BG d) 0
theorem M1{r:Rs}(h:ij r=0)(l:Int):0≤ic r.c l∧ic r.c l≤1099511627776:=by
 have hc:=lL (qP h);have h1:=Bo hc l;have hp:=rE (qP h);have h2:=hc.y0 0 hp;have h3:=hc.y0 (r.c.length-1) (by omega)
 omega
theorem Hz{d:Dm}(h:ij d.r=0):0≤BG d∧BG d≤1099511627776:=M1 h _
theorem HA{d:Dm}(h:ij d.r=0):0≤jL d∧jL d≤1099511627776:=M1 h _
theorem M3{d:Dm}(h:ij d.r=0){s:Ds}{nv nr:Int}{nu:List Us}{ng:V}{r:Dr}{rel left lv:Int}(hl:0≤left∧left≤4611686018427387904) :
  bo F 205 [.bN 0 0] [wk d s nv nr nu ng r rel left lv]=some (i64 (jM d left),[wk d s nv nr nu ng r rel left lv]) :=
 cg rfl rfl (by
  generalize hW:jM d left=W;have hD:ic d.r.c d.r.d=BG d:=rfl;have h0:=Hz h;simp (disch:=omega) [wrap64,LV,G4 (lL (qP h)),hD];exact hW)
theorem HB{g:Int}:∀{us:List Un} {ss:List Us} {F:List Int},lN g us ss F→∀i,i<us.length→nth F i∈py (nth us i) (nth ss i) g
 |[],[],[],_=>fun i hi=>by simp at hi
 |u::us,s::ss,q::F,h=>fun i hi=>by
  cases i with
  |zero=>exact h.1
  |succ i=>exact HB h.2 i (by simpa using hi)
 |[],_::_,_,h=>h.elim
 |[],[],_::_,h=>h.elim
 |_::_,[],_,h=>h.elim
 |_::_,_::_,[],h=>h.elim
theorem Eo{us:List Un}{ss:List Us}{g release:Int}(h:j0 us ss g release=0):lN g us ss (g9 us ss g release)∧(g9 us ss g release).sum≤release:=by
 unfold j0 at h;split at h
 ·rename_i h1;exact absurd h h1
 split at h
 ·cases h
 rename_i h1 h2;have h1:=Decidable.of_not_not h1;obtain⟨h3,h4,_⟩:=MC h1;have hb:=TS h3 h4.1;unfold g9;rw[if_neg (fun g=>g h1)];cases hr:mb (iY us ss g) release with
 |none=>exact absurd hr h2
 |some E =>
  rw[hr]at hb;exact⟨hb.lN,hb.sum⟩
noncomputable def gN(d:Dm)(s:Ds)(m:Int)(i:Nat):Int:=if j0 d.u s.u d.gr m=0 then nth (g9 d.u s.u d.gr m) i else 0
theorem aii{d:Dm}{s:Ds}{m:Int}{i:Nat}(hi:i<d.u.length):gN d s m i=0∨jw (nth d.u i) (nth s.u i) (gN d s m i):=by
 unfold gN;split
 ·rename_i h
  exact .inr (Bv.1 (HB (Eo h).1 i hi)).2
 ·exact .inl rfl
theorem M4{d:Dm}{s:Ds}{m:Int}{i:Nat}(hi:i<d.u.length):0≤gN d s m i∧gN d s m i≤1073741824:=by
 rcases aii (s:=s) (m:=m) hi with h|h
 ·omega
 ·exact Ha h
noncomputable def qh(u:Un)(s:Us)(q:Int):Us:=if jG u s q then qJ s q else ⟨0,1,s.out⟩
def gD(f:Nat→Int):Nat→Int
 |0=>0
 |i+1=>gD f i+f i
theorem HC{f:Nat→Int}{n:Nat}(h:∀i,i<n→0≤f i∧f i≤1073741824):∀i,i≤n→0≤gD f i∧gD f i≤1073741824*i:=by
 intro i;induction i with
 |zero=>intro _;simp[gD]
 |succ i ih=>intro hi;have:=ih (by omega);have:=h i (by omega);simp only[gD];omega
noncomputable def pB(d:Dm)(s:Ds)(m:Int)(i:Nat):Int:=pow (nth d.u i) (gN d s m i)
noncomputable def lP(d:Dm)(s:Ds)(m:Int)(i:Nat):Int:=ix (nth s.u i) (gN d s m i)
noncomputable def nK(d:Dm)(s:Ds)(m:Int)(n:Nat):List Us:=(List.range n).map fun i=>qh (nth d.u i) (nth s.u i) (gN d s m i)
theorem HD{d:Dm}{s:Ds}{m:Int}{n:Nat}:(nK d s m n).length=n:=by simp[nK]
theorem zN{d:Dm}{s:Ds}{m:Int}{n:Nat}:nK d s m (n+1)=nK d s m n++[qh (nth d.u n) (nth s.u n) (gN d s m n)]:=by simp[nK,List.range_succ]
def kC(d:Dm)(rel left:Int):Int:=min (min rel (jM d left)) (200*d.gr)
set_option maxHeartbeats 1000000 in
theorem aij{d:Dm}(h:Dv d){s:Ds}(hs:hH d s){nv nr inf los spi ovr rel left lv:Int}{ng:V}(hl:0≤left∧left≤4611686018427387904)(hr:0≤rel∧rel≤1073741824) :
  bo F 199 [.bN 0 0] [wk d s nv nr [] ng ⟨inf,los,0,spi,ovr,0,0⟩ rel left lv] =
   some (.tuple [],[wk d s nv nr (nK d s (kC d rel left) d.u.length) ng ⟨inf,los,gD (gN d s (kC d rel left)) d.u.length,spi,ovr,gD (pB d s (kC d rel left)) d.u.length,gD (lP d s (kC d rel left)) d.u.length⟩ rel left lv]) :=
 cg rfl rfl (by
  obtain⟨G',hb⟩:=ag6 d.u s.u d.gr (kC d rel left);have hgr:=h.gr;have G8:min (min rel (jM d left)) (200*d.gr)=kC d rel left:=rfl;have Hx:=h.u;have wX:=hs.2.2.1;have HE:j0 d.u s.u d.gr (kC d rel left)=0→(g9 d.u s.u d.gr (kC d rel left)).length=d.u.length:=fun he=>(zA (Eo he).1).1;generalize hM:kC d rel left=M at hb G8 HE;simp (disch:=omega) [wrap64,LP,M3 h.r,G8,hb];refine go_loop (fun i:Nat=>ac8 (.bN 0 0) (.slice none 1 ((g9 d.u s.u d.gr M).map fun n=>[i64 n])) (j0 d.u s.u d.gr M) (jZ d.u) d.u.length i
   [wk d s nv nr (nK d s M i) ng ⟨inf,los,gD (gN d s M) i,spi,ovr,gD (pB d s M) i,gD (lP d s M) i⟩ rel left lv])
   (fun i=>i≤d.u.length) (fun i=>d.u.length-i) 0 rfl (by simp[nK,gD]) (by omega) ?_
  intro i hi;have qF:=HD (d:=d) (s:=s) (m:=M) (n:=i);have s1:=HC (f:=gN d s M) (n:=d.u.length) (fun i hi=>M4 hi) i hi;have s2:=HC (f:=pB d s M) (n:=d.u.length) (fun i hi=>Hb) i hi;have s3:=HC (f:=lP d s M) (n:=d.u.length) (fun i hi=>by have:=Mw (s:=nth s.u i) (q:=gN d s M i);unfold lP;omega) i hi
  simp (disch:=omega) [wrap64,SR];refine b9 (fun h5=>?_) (fun h5=>?_)
  ·have h5:i<d.u.length:=by omega
   have wa:i<s.u.length:=by omega
   have hv:fg (nth d.u i) (nth s.u i):=hs.2.2.2.2.1 i h5;have Ck:=Hb (u:=nth d.u i) (q:=gN d s M i);have qz:=M4 (s:=s) (m:=M) h5;by_cases he:j0 d.u s.u d.gr M=0
   ·have HE:=HE he
    have kO:nth (g9 d.u s.u d.gr M) i=gN d s M i:=by simp[gN,he]
    have hm:jG (nth d.u i) (nth s.u i) (gN d s M i):=by
     have:=Bv.1 (HB (Eo he).1 i h5);rw[kO]at this;exact this.2.2
    have hN:=UL hv (gN d s M i) [];rw[if_pos hm]at hN;have hP:=DX (nth d.u i) (gN d s M i) [];generalize hq:gN d s M i=q at *;generalize hp:pow (nth d.u i) q=p at *;simp (config:={ maxSteps:=2000000 }) +contextual (disch:=omega) [-getElem?_pos,-List.length_eq_zero_iff,-Int.natCast_eq_zero,wrap64,bp (l:=d.u),bp (l:=s.u),eB (l:=g9 d.u s.u d.gr M),he,kO,hN,hP,qF];have hx:qh (nth d.u i) (nth s.u i) q=qJ (nth s.u i) q:=by simp[qh,hm]
    refine gV (fun h6=>?_) (fun h6=>?_)
    ·have iH:lP d s M i=1:=by
      simp at h6;simp[lP,ix,hq,h6]
     refine cc (i+1) (by simp[zN,gD,pB,hq,hp,iH,hx]) (by omega) (by omega)
    ·have iH:lP d s M i=0:=by
      have h7:¬ (0<q∧(nth s.u i).cq=0):=fun h=>by rw[decide_eq_true h.1,decide_eq_true h.2]at h6;cases h6
      simp only[lP,ix,hq,if_neg h7]
     refine cc (i+1) (by simp[zN,gD,pB,hq,hp,iH,hx]) (by omega) (by omega)
   ·have hq:gN d s M i=0:=by simp[gN,he]
    have hp:pow (nth d.u i) 0=0:=by simp[pow]
    have iH:lP d s M i=0:=by simp[lP,ix,hq]
    have hN:=UL hv 0 [];have hP:=DX (nth d.u i) 0 [];rw[hp]at hP;by_cases hm:jG (nth d.u i) (nth s.u i) 0
    ·rw[if_pos hm]at hN
     have hx:qh (nth d.u i) (nth s.u i) 0=qJ (nth s.u i) 0:=by simp[qh,hm]
     simp only[Int.lt_irrefl,decide_false,Bool.and_false]at hN;simp (config:={ maxSteps:=2000000 }) +contextual (disch:=omega) [-getElem?_pos,-List.length_eq_zero_iff,-Int.natCast_eq_zero,wrap64,bp (l:=d.u),bp (l:=s.u),he,hN,hP,qF];refine cc (i+1) (by simp[zN,gD,pB,hq,hp,iH,hx]) (by omega) (by omega)
    ·rw[if_neg hm]at hN
     have hx:qh (nth d.u i) (nth s.u i) 0=⟨0,1,(nth s.u i).out⟩:=by simp[qh,hm]
     simp (config:={ maxSteps:=2000000 }) +contextual (disch:=omega) [-getElem?_pos,-List.length_eq_zero_iff,-Int.natCast_eq_zero,wrap64,bp (l:=d.u),bp (l:=s.u),he,hN,hP,qF];refine cc (i+1) (by simp[zN,gD,pB,hq,hp,iH,hx]) (by omega) (by omega)
  ·obtain rfl:i=d.u.length:=by omega
   simp)
end Go.Proofs.YtmpikpodpgnjhaaGreat
namespace Go.Proofs.YtmpikpodpgnjhaaGreat
set_option linter.all false
open Go.Vm
attribute [local simp] eS eT eQ eR
theorem HF(g:List Gt)(s:List Gs)(lv w:Int):0≤oj g s lv w∧oj g s lv w≤17179869184:=by
 unfold oj;split
 ·rename_i h
  unfold kB at h;split at h
  ·rename_i h1;exact absurd h h1
  ·rename_i h1
   obtain⟨h1,h2,h3,h4,h5⟩:=Ee (Decidable.of_not_not h1);have:=Uq (lv:=lv) (w:=w) h2 h1 h3 h4 (i:=g.length) (Nat.le_refl _);omega
 ·omega
def mG(d:Dm)(rel left t:Int):Int:=min rel (jM d left)-t
noncomputable def Ep(d:Dm)(s:Ds)(rel left lv t:Int):Int:=min (oj d.g s.g lv (mG d rel left t)) (jM d left-t)
theorem ail{d:Dm}(h:Dv d){s:Ds}{nv nr inf los tur spi ovr pw st rel left lv:Int}{nu:List Us}{ng:V}(hl:0≤left∧left≤4611686018427387904)(hr:0≤rel∧rel≤1073741824)(ht:0≤tur∧tur≤1099511627776) :
  bo F 198 [.bN 0 0] [wk d s nv nr nu ng ⟨inf,los,tur,spi,ovr,pw,st⟩ rel left lv] =
   some (.tuple [],[wk d s nv nr nu (.slice none 2 ((nI d.g s.g lv (mG d rel left tur)).map Gs.row)) ⟨inf,los,tur,Ep d s rel left lv tur,ovr,pw,st⟩ rel left lv]) :=
 cg rfl rfl (by
  obtain⟨G',hb⟩:=ah2 d.g s.g lv (mG d rel left tur);have hF:=HF d.g s.g lv (mG d rel left tur);have hf:0≤jM d left∧jM d left≤4611686018427387904:=by
   have:=Hz h.r;unfold jM;omega
  have hW:min rel (jM d left)-tur=mG d rel left tur:=rfl;have hS:min (oj d.g s.g lv (mG d rel left tur)) (jM d left-tur)=Ep d s rel left lv tur:=rfl;have vy:=M3 h.r (s:=s) (nv:=nv) (nr:=nr) (nu:=nu) (ng:=.slice none 2 ((nI d.g s.g lv (mG d rel left tur)).map Gs.row)) (r:=⟨inf,los,tur,spi,ovr,pw,st⟩) (rel:=rel) (left:=left) (lv:=lv) hl;generalize Ep d s rel left lv tur=S at hS;generalize mG d rel left tur=W at hS hF hb hW vy;simp (disch:=omega) [wrap64,LO,M3 h.r,hW,hb,hS,vy])
theorem aim{d:Dm}(h:Dv d){s:Ds}{nv nr inf los tur spi ovr pw st rel left lv:Int}{nu:List Us}{ng:V}(hl:0≤left∧left≤4611686018427387904)(ht:0≤tur∧tur≤1099511627776)(g6:-1099511627776≤spi∧spi≤1099511627776) :
  bo F 197 [.bN 0 0] [wk d s nv nr nu ng ⟨inf,los,tur,spi,ovr,pw,st⟩ rel left lv] =
   some (.tuple [],[wk d s (left-(tur+spi)-max (left-(tur+spi)-jL d) 0) (min (tur+spi) 1073741824) nu ng ⟨inf,los,tur,spi,max (left-(tur+spi)-jL d) 0,pw,st⟩ rel (left-(tur+spi)) lv]) :=
 cg rfl rfl (by
  have hC:=HA h.r;simp (disch:=omega) [wrap64,LN,UG h.r])
noncomputable def eC(s:Ds)(inf los:Int):Int:=s.v+inf-min los (s.v+inf)
noncomputable def fT(d:Dm)(s:Ds)(inf los rel:Int):Int:=gD (gN d s (kC d rel (eC s inf los))) d.u.length
noncomputable def kZ(d:Dm)(s:Ds)(inf los rel:Int):Int:=Ep d s rel (eC s inf los) (jx d.r s.v) (fT d s inf los rel)
noncomputable def qT(d:Dm)(s:Ds)(inf los rel:Int):Int:=max (eC s inf los-(fT d s inf los rel+kZ d s inf los rel)-jL d) 0
noncomputable def lu(d:Dm)(s:Ds)(inf los rel:Int):Dr:=⟨inf,min los (s.v+inf),fT d s inf los rel,kZ d s inf los rel,qT d s inf los rel,gD (pB d s (kC d rel (eC s inf los))) d.u.length,gD (lP d s (kC d rel (eC s inf los))) d.u.length⟩
noncomputable def lQ(d:Dm)(s:Ds)(inf los rel:Int):Ds:=⟨eC s inf los-(fT d s inf los rel+kZ d s inf los rel)-qT d s inf los rel,min (fT d s inf los rel+kZ d s inf los rel) 1073741824,
 nK d s (kC d rel (eC s inf los)) d.u.length,nI d.g s.g (jx d.r s.v) (mG d rel (eC s inf los) (fT d s inf los rel))⟩
theorem UM{d:Dm}(h:Dv d){s:Ds}{inf los rel:Int}:0≤fT d s inf los rel∧fT d s inf los rel≤6442450944:=by
 have h1:=HC (f:=gN d s (kC d rel (eC s inf los))) (n:=d.u.length) (fun i hi=>M4 hi) d.u.length (Nat.le_refl _);have h2:=h.u;unfold fT;omega
theorem M5{C:bC}{args:List V}{f:FuncId}{fs:List FuncId}{G G':List aV}{r:V}{o:Option (List aV)}(h1:C f args G=some (r,G'))(h2:oE C args fs G'=o):oE C args (f::fs) G=o:=by
 simp only[oE,h1,h2]
abbrev UN(d:Dm)(s:Ds)(inf los rel lv:Int):aV:=.cells
 [iu d.r.c,i64 d.r.d,i64 d.r.l,i64 d.r.f,i64 d.r.s,i64 d.r.t,jZ d.u,jK d.g,i64 d.gr,i64 s.v,i64 s.rel,jH s.u,jy s.g,
  i64 0,i64 0,.fC 3 [],.fC 2 [],i64 inf,i64 los,i64 0,i64 0,i64 0,i64 0,i64 0,i64 rel,i64 0,i64 lv]
theorem ain{d:Dm}(h:Dv d){s:Ds}(hs:hH d s){inf los rel:Int}(hi:0≤inf∧inf≤1073741824)(hl:0≤los∧los≤1073741824)(hr:0≤rel∧rel≤1073741824) :
  ∃lf,bo F 185 [.bN 0 0] [UN d s inf los rel (jx d.r s.v)] =
   some (.tuple [],[wk d s (lQ d s inf los rel).v (lQ d s inf los rel).rel (lQ d s inf los rel).u (.slice none 2 ((lQ d s inf los rel).g.map Gs.row)) (lu d s inf los rel) rel lf (jx d.r s.v)]):=by
 suffices hh:∀Q:V→List aV→Prop,(∀lf,Q (.tuple []) [wk d s (lQ d s inf los rel).v (lQ d s inf los rel).rel (lQ d s inf los rel).u (.slice none 2 ((lQ d s inf los rel).g.map Gs.row)) (lu d s inf los rel) rel lf (jx d.r s.v)])→iV (bo F) 185 [.bN 0 0] [UN d s inf los rel (jx d.r s.v)] Q by
  obtain⟨_,G',h,lf,rfl,rfl⟩:=hh (fun v G'=>∃lf,v=.tuple []∧G'=[wk d s (lQ d s inf los rel).v (lQ d s inf los rel).rel (lQ d s inf los rel).u (.slice none 2 ((lQ d s inf los rel).g.map Gs.row)) (lu d s inf los rel) rel lf (jx d.r s.v)]) fun lf=>⟨lf,rfl,rfl⟩;exact⟨lf,h⟩
 intro Q hQ;refine Y4 rfl rfl ?_;have hv:=hs.1;have hC:=HA h.r;simp (disch:=omega) [wrap64,LH];have hL:0≤eC s inf los∧eC s inf los≤4611686018427387904:=by unfold eC;omega
 have hT:=UM h (s:=s) (inf:=inf) (los:=los) (rel:=rel);have hP:-1099511627776≤kZ d s inf los rel∧kZ d s inf los rel≤1099511627776:=by
  have h1:=HF d.g s.g (jx d.r s.v) (mG d rel (eC s inf los) (fT d s inf los rel));have h2:0≤jM d (eC s inf los):=by unfold jM;omega
  unfold kZ Ep;omega
 have h1:=aij h hs (nv:=0) (nr:=0) (inf:=inf) (los:=min los (s.v+inf)) (spi:=0) (ovr:=0) (rel:=rel) (left:=eC s inf los) (lv:=jx d.r s.v) (ng:=.fC 2 []) hL hr;have h2:=ail h (s:=s) (nv:=0) (nr:=0) (nu:=nK d s (kC d rel (eC s inf los)) d.u.length) (ng:=.fC 2 []) (inf:=inf) (los:=min los (s.v+inf)) (tur:=fT d s inf los rel) (spi:=0) (ovr:=0)
  (pw:=gD (pB d s (kC d rel (eC s inf los))) d.u.length) (st:=gD (lP d s (kC d rel (eC s inf los))) d.u.length) (rel:=rel) (left:=eC s inf los) (lv:=jx d.r s.v) hL hr (by omega)
 have h3:=aim h (s:=s) (nv:=0) (nr:=0) (nu:=nK d s (kC d rel (eC s inf los)) d.u.length) (ng:=.slice none 2 ((nI d.g s.g (jx d.r s.v) (mG d rel (eC s inf los) (fT d s inf los rel))).map Gs.row)) (inf:=inf) (los:=min los (s.v+inf)) (tur:=fT d s inf los rel) (spi:=kZ d s inf los rel) (ovr:=0)
  (pw:=gD (pB d s (kC d rel (eC s inf los))) d.u.length) (st:=gD (lP d s (kC d rel (eC s inf los))) d.u.length) (rel:=rel) (left:=eC s inf los) (lv:=jx d.r s.v) hL (by omega) hP
 exact⟨_,M5 h1 (M5 h2 (M5 h3 rfl)),hQ _⟩
theorem aio(n:Int)(G:List aV):bo F 184 [i64 n] G=some (.bool (!decide (0≤n∧n≤1073741824)),G) :=
 cg rfl rfl (by
  simp[wrap64,LG,dG])
theorem aip(l:List Int)(hl:l.length≤1000)(p:Int→Bool)(f:FuncId)(G:List aV)(h:∀n,bo F f [i64 n] G=some (.bool (p n),G)) :
  ∃k:Int,(decide (0≤k)=l.any p)∧bo F 145 [ints l,.fn f []] G=some (i64 k,G):=by
 suffices hh:∀Q:V→List aV→Prop,(∀k:Int,decide (0≤k)=l.any p→Q (i64 k) G)→iV (bo F) 145 [ints l,.fn f []] G Q by
  obtain⟨_,G',h,k,h1,rfl,rfl⟩:=hh (fun v G'=>∃k:Int,decide (0≤k)=l.any p∧v=i64 k∧G'=G) fun k hk=>⟨k,hk,rfl,rfl⟩;exact⟨k,h1,h⟩
 intro Q hQ;refine ju rfl rfl ?_;simp (disch:=omega) [-getElem?_pos,wrap64,Lg];refine go_loop (fun i:Nat=>acg (ints l) (.fn f []) l.length i G) (fun i=>i≤l.length∧∀x∈l.take i,p x=false) (fun i=>l.length-i) 0 rfl (by simp) ⟨by omega,by simp⟩ ?_
 rintro i ⟨hi,hp⟩;simp (disch:=omega) [-getElem?_pos,wrap64,Sl];refine b9 (fun h5=>?_) (fun h5=>?_)
 ·have h5:i<l.length:=by omega
  simp (disch:=omega) [-getElem?_pos,wrap64,eB (l:=l),h];refine gV (fun h6=>?_) (fun h6=>?_)
  ·refine hQ _ ?_
   rw[decide_eq_true (by omega)]
   exact(List.any_eq_true.2 ⟨_,qd h5,h6⟩).symm
  ·refine cc (i+1) (by simp) ⟨by omega,?_⟩ (by omega)
   intro x hx;rw[jJ h5]at hx;rcases List.mem_append.1 hx with hx|hx
   ·exact hp x hx
   ·rw[List.mem_singleton.1 hx];exact h6
 ·obtain rfl:i=l.length:=by omega
  refine hQ _ ?_;rw[List.take_length]at hp;rw[show l.any p=false from List.any_eq_false.2 fun x hx=>by rw[hp x hx];simp]
  rfl
theorem UO(l:List Int)(hl:l.length≤1000)(p:Int→Bool)(f:FuncId)(G:List aV)(h:∀n,bo F f [i64 n] G=some (.bool (p n),G)) :
  bo F 88 [ints l,.fn f []] G=some (.bool (l.any p),G) :=
 cg rfl rfl (by
  obtain⟨k,h1,h2⟩:=aip l hl p f G h;simp[wrap64,KW,h2];exact h1)
def uS(n:Int):Bool:=!decide (0≤n∧n≤1073741824)
noncomputable def m5(d:Dm)(s:Ds)(inf los rel:Int):Int:=if dE d s≠0 then dE d s else if [inf,los,rel].any uS then 1 else 0
noncomputable def qi(d:Dm)(s:Ds)(inf los rel:Int):V:=.tuple (if m5 d s inf los rel=0 then [dst (lQ d s inf los rel),dr (lu d s inf los rel),i64 0] else [.agg [i64 0,i64 0,.slice (some 0) 3 [],.slice (some 0) 2 []],dr ⟨0,0,0,0,0,0,0⟩,i64 (m5 d s inf los rel)])
theorem aiq(d:Dm)(s:Ds)(inf los rel:Int):∃G',bo F 159 [dm d,dst s,i64 inf,i64 los,i64 rel] []=some (qi d s inf los rel,G'):=by
 suffices h:∀Q:V→List aV→Prop,(∀G',Q (qi d s inf los rel) G')→iV (bo F) 159 [dm d,dst s,i64 inf,i64 los,i64 rel] [] Q by
  obtain⟨_,G',h,rfl⟩:=h (fun v G'=>v=qi d s inf los rel) fun _=>rfl;exact⟨G',h⟩
 intro Q hQ;refine ju rfl rfl ?_;have hc:bo F 88 [.slice none 1 [[i64 inf],[i64 los],[i64 rel]],.fn 184 []] []=some (.bool ([inf,los,rel].any uS),[]) :=
  UO [inf,los,rel] (by simp) uS 184 [] (fun n=>aio n [])
 unfold qi m5 at hQ;generalize hx:[inf,los,rel].any uS=x at hc hQ;by_cases hd:dE d s=0
 ·obtain⟨pC,AM⟩:=En hd
  have uk:lvl d s=jx d.r s.v:=by simp[lvl,hd]
  simp only[hd,ne_eq,not_true_eq_false,if_false]at hQ;cases x with
  |true =>
   simp only[if_true,if_neg (show ¬ (1:Int)=0 by omega)]at hQ
   simp[wrap64,DN,M0,hd,uk,hc];exact hQ _
  |false =>
   simp only[uS,List.any_cons,List.any_nil,Bool.or_false,Bool.or_eq_false_iff,Bool.not_eq_false',decide_eq_true_eq]at hx;obtain⟨lf,hr⟩:=ain pC AM hx.1 hx.2.1 hx.2.2;simp[wrap64,DN,M0,hd,uk,hc,hr];exact hQ _
 ·simp only[hd,ne_eq,not_false_eq_true,if_true,if_false]at hQ
  simp[wrap64,DN,M0,hd];exact hQ _
end Go.Proofs.YtmpikpodpgnjhaaGreat
namespace Go.Proofs.YtmpikpodpgnjhaaGreat
set_option linter.all false
open Go.Vm
theorem Er{c:List Pt}(h:Cv c):∀{i j:Nat},i≤j→j<c.length→(nth c i).x≤(nth c j).x:=by
 intro i j;induction j with
 |zero=>intro h1 _;obtain rfl:i=0:=by omega
        omega
 |succ j ih =>
  intro h1 h2;rcases Nat.lt_or_ge i (j+1) with h3|h3
  ·have:=ih (by omega) (by omega)
   have:=h.up (j+1) (by omega) h2
   simp only[Nat.add_sub_cancel]at this;omega
  ·obtain rfl:i=j+1:=by omega
   omega
theorem UP{c:List Pt}(h:Cv c){y:Int}{i:Nat}(hi:i+1<c.length)(h1:(nth c i).y≤y)(h2:y<(nth c (i+1)).y):(nth c i).x≤zD c y i∧zD c y i≤(nth c (i+1)).x:=by
 have u1:=h.up (i+1) (by omega) hi
 simp only[Nat.add_sub_cancel]at u1;have a1:(y-(nth c i).y+1)*((nth c (i+1)).x-(nth c i).x)≤((nth c (i+1)).y-(nth c i).y)*((nth c (i+1)).x-(nth c i).x):=Int.mul_le_mul_of_nonneg_right (by omega) (by omega)
 have a2:0<(y-(nth c i).y+1)*((nth c (i+1)).x-(nth c i).x):=Int.mul_pos (by omega) (by omega)
 unfold zD;rw[Int.tdiv_eq_ediv_of_nonneg (by omega)]
 have b1:0≤((y-(nth c i).y+1)*((nth c (i+1)).x-(nth c i).x)-1) / ((nth c (i+1)).y-(nth c i).y):=Int.ediv_nonneg (by omega) (by omega)
 have b2:((y-(nth c i).y+1)*((nth c (i+1)).x-(nth c i).x)-1) / ((nth c (i+1)).y-(nth c i).y)≤(nth c (i+1)).x-(nth c i).x:=by
  refine Int.le_trans (Int.ediv_le_ediv (by omega) (show _≤((nth c (i+1)).x-(nth c i).x)*((nth c (i+1)).y-(nth c i).y) by rw[Int.mul_comm ((nth c (i+1)).x-(nth c i).x)];omega)) ?_
  rw[Int.mul_ediv_cancel _ (by omega)]
  exact Int.le_refl _
 omega
theorem M6{c:List Pt}(h:Cv c){y:Int}:∀(m i:Nat),i+m=c.length-1→(nth c i).y≤y→(nth c 0).x≤qe c y m i∧qe c y m i≤(nth c (c.length-1)).x
 |0,i,hi,_=>by
  have hp:=h.pos;have:=Er h (i:=0) (j:=c.length-1) (by omega) (by omega)
  unfold qe;omega
 |m+1,i,hi,hy=>by
  have hp:=h.pos;unfold qe;split
  ·rename_i h2
   have h3:=UP h (i:=i) (by omega) hy h2
   have:=Er h (i:=0) (j:=i) (by omega) (by omega)
   have:=Er h (i:=i+1) (j:=c.length-1) (by omega) (by omega)
   omega
  ·exact M6 h m (i+1) (by omega) (by omega)
theorem air{r:Rs}(h:ij r=0)(v:Int):0≤jx r v∧jx r v≤16777216:=by
 have hs:=Hv h;have hc:=lL hs.c;have hp:=hc.pos;have:=hs.top;have h0:=hc.x0 0 hp;have h1:=Er hc (i:=0) (j:=r.c.length-1) (by omega) (by omega)
 unfold jx;split
 ·omega
 ·have:=M6 hc (y:=v) (r.c.length-1) 0 (by omega) (by omega)
  unfold uP;omega
theorem ais{d:Dm}{s:Ds}(h:Dv d)(hf:hH d s):aE d.g s.g (jx d.r s.v)=0:=by
 have hr:=air h.r s.v;have hg:=h.g;have hl:=hf.2.2.2.1;unfold aE;rw[if_neg (by omega),if_neg (by omega),if_neg (fun g=>g hf.2.2.2.2.2),if_neg (fun g=>g (rD fun i _ hi=>h.gv i (by omega))),if_neg (by omega)]
theorem M7(l:List Int):∀i,i≤l.length→gD (fun j=>nth l j) i=(l.take i).sum
 |0,_=>by simp[gD]
 |i+1,h=>by
  rw[jJ (by omega),List.sum_append,← M7 l i (by omega)]
  simp[gD]
theorem M8:∀i,gD (fun _=>0) i=0
 |0=>rfl
 |i+1=>by simp[gD,M8 i]
theorem ait{d:Dm}(s:Ds){m:Int}(hm:0≤m):gD (gN d s m) d.u.length≤m:=by
 by_cases he:j0 d.u s.u d.gr m=0
 ·obtain⟨h1,h2⟩:=Eo he
  have hl:=(zA h1).1;have:gN d s m=fun j=>nth (g9 d.u s.u d.gr m) j:=by funext j;simp[gN,he]
  rw[this,M7 _ _ (by omega),List.take_of_length_le (by omega)]
  exact h2
 ·have:gN d s m=fun _=>0:=by funext j;simp[gN,he]
  rw[this,M8];exact hm
structure Stp(d:Dm)(s:Ds)(inf los rel:Int):Prop where
 L:eC s inf los=max 0 (s.v+inf-los)
 T0:0≤fT d s inf los rel
 Tr:fT d s inf los rel≤rel
 Tf:fT d s inf los rel≤jM d (eC s inf los)
 P0:0≤kZ d s inf los rel
 sum:fT d s inf los rel+kZ d s inf los rel≤jM d (eC s inf los)
 P1:kZ d s inf los rel≤17179869184
 w0:0≤mG d rel (eC s inf los) (fT d s inf los rel)∧mG d rel (eC s inf los) (fT d s inf los rel)≤1073741824
theorem M9{d:Dm}(h:Dv d){s:Ds}(hf:hH d s){inf los rel:Int}(hi:0≤inf∧inf≤1073741824)(hl:0≤los∧los≤1073741824)(hr:0≤rel∧rel≤1073741824):Stp d s inf los rel:=by
 have hv:=hf.1;have hg:=h.gr;have qz:0≤jM d (eC s inf los):=by unfold jM;omega
 have hm:0≤kC d rel (eC s inf los):=by unfold kC;omega
 have h1:=ait (d:=d) s hm;have h2:=UM h (s:=s) (inf:=inf) (los:=los) (rel:=rel);have h3:fT d s inf los rel≤kC d rel (eC s inf los):=h1;have h4:=HF d.g s.g (jx d.r s.v) (mG d rel (eC s inf los) (fT d s inf los rel));have h5:kZ d s inf los rel=min (oj d.g s.g (jx d.r s.v) (mG d rel (eC s inf los) (fT d s inf los rel))) (jM d (eC s inf los)-fT d s inf los rel):=rfl;unfold kC at h3;refine⟨by unfold eC;omega,h2.1,by omega,by omega,by omega,by omega,by omega,?_⟩
 unfold mG;omega
end Go.Proofs.YtmpikpodpgnjhaaGreat
namespace Go.Proofs.YtmpikpodpgnjhaaGreat
set_option linter.all false
open Go.Vm
attribute [local simp] eS eT eQ eR
theorem aiv(r:Dr)(ht:0≤r.tur∧r.tur≤1099511627776)(hs:0≤r.spi∧r.spi≤1099511627776)(ho:0≤r.ovr∧r.ovr≤1099511627776)(G:List aV):bo F 93 [dr r] G=some (i64 (r.tur+r.spi+r.ovr),G) :=
 cg rfl rfl (by
  simp (disch:=omega) [wrap64,KY])
end Go.Proofs.YtmpikpodpgnjhaaGreat
namespace Go.Proofs.YtmpikpodpgnjhaaGreat
set_option linter.all false
open Go.Vm
attribute [local simp] eS eT eQ eR
theorem aiw{l:List Int}(h:l.length=5):∃a b c d e,l=[a,b,c,d,e]:=by
 match l,h with
 |[a,b,c,d,e],_=>exact⟨a,b,c,d,e,rfl⟩
theorem Es{l:List Int}{i j:Nat}{v:Int}(h:i<l.length):nth (l.set i v) j=if i=j then v else nth l j:=by
 simp only[nth,List.getD,List.getElem?_set];by_cases e:i=j
 ·subst e;simp[h]
 ·simp[e]
theorem aix{c:List Pt}{x y dx dy:Int}(h:Cw c x y dx dy 1)(h2:2≤c.length)(hx:0≤x∧x≤1000)(hy:0≤y∧y≤1000)(GX:0≤dx∧dx≤1000)(GY:0≤dy∧dy≤1000)
  {a1 a2 a3 a4 a5:Int} (l1:x≤a1) (l2:a1≤a2) (l3:a2≤a3) (l4:a3≤a4) (l5:a4≤a5) (l6:a5≤(nth c (c.length-1)).x):ij ⟨c,a1,a2,a3,a4,a5⟩=0:=by
 have hc:=h.lr hx hy GX GY (by omega)
 have hf:=h.kd;have hu:=h.up hx hy GX GY (by omega) (c.length-1) (by omega)
 have h0:(nth c 0).x=x:=by rw[h.first]
 unfold ij;simp only;rw[if_neg (fun g=>g hc),if_neg (by omega),if_neg (by omega),if_pos,rD]
 ·intro i MF qK
  have:i=1∨i=2∨i=3∨i=4∨i=5∨i=6:=by omega
  rcases this with rfl|rfl|rfl|rfl|rfl|rfl<;>simp only[oZ,qO,nth,List.getD,List.getElem?_cons_succ,List.getElem?_cons_zero,Option.getD_some]<;>refine if_neg ?_
  ·have:(nth c 0).x≤a1:=by omega
   simp only[nth,List.getD]at this;simp;omega
  ·simp;omega
  ·simp;omega
  ·simp;omega
  ·simp;omega
  ·simp only[nth,List.getD]at l6;simp;omega
 ·refine rD fun i MF qK=>?_
  have:=h.step i (by omega) (by omega)
  exact if_neg (by omega)
theorem aiy{l:List Int}{k:Nat}(hd:ed l k):∃r k',bo F 154 [.bN 0 0] [dk l k]=some (.agg r.cells,[dk l k'])∧ed l k'∧ij r=0∧(nth r.c (r.c.length-1)).y≤10000:=by
 suffices h:∀Q:V→List aV→Prop,(∀r k',ed l k'→ij r=0→(nth r.c (r.c.length-1)).y≤10000→Q (.agg r.cells) [dk l k'])→iV (bo F) 154 [.bN 0 0] [dk l k] Q by
  obtain⟨_,_,h,r,k',rfl,rfl,h1⟩:=h (fun v G=>∃r k',v=.agg r.cells∧G=[dk l k']∧ed l k'∧ij r=0∧(nth r.c (r.c.length-1)).y≤10000) fun r k' a b c=>⟨r,k',rfl,rfl,a,b,c⟩;exact⟨r,k',h,h1⟩
 intro Q hQ;refine ju rfl rfl ?_;obtain⟨a1,k1,n1,ji,Mr⟩:=gL hd 10 (by omega)
 obtain⟨a2,k2,n2,gz,Ms⟩:=gL ji 20 (by omega)
 obtain⟨c,k3,n3,mX,Cp,hc⟩:=Mq gz (x:=100+a1) (y:=a2) (dx:=40) (dy:=200) true (by omega) (by omega) (by omega) (by omega)
 simp only[if_true]at hc;have hu:=hc.up (by omega) (by omega) (by omega) (by omega) (by omega)
 have hf:=hc.kd;have h0:(nth c 0).x=100+a1:=by rw[hc.first]
 have hu1:=hu (c.length-1) (by omega)
 have UQ:(nth c 0).x≤(nth c (c.length-1)).x:=by
  have:∀i,i<c.length→(nth c 0).x≤(nth c i).x:=by
   intro i;induction i with
   |zero=>intro _;omega
   |succ i ih=>intro hi;have:=ih (by omega);have:=hc.step (i+1) (by omega) hi;simp only[Nat.add_sub_cancel]at this;omega
  exact this _ (by omega)
 have h3:((c.length:Int)-1).toNat=c.length-1:=by omega
 have h5:0≤(c.length:Int)-1:=by omega
 simp (disch:=omega) [-getElem?_pos,wrap64,Lm,n1,n2,n3,bp (l:=c),h3,h5];refine go_loop (fun s:Nat×Int×List Int×Nat=>acm (.bN 0 0) s.2.1 (nth c (c.length-1)).x s.1 [.aK,i64 0,i64 0,i64 0,i64 0,i64 0] [iu c,i64 0,i64 0,i64 0,i64 0,i64 0] (dS s.2.2.1) [dk l s.2.2.2])
  (fun s=>s.1≤5∧s.2.2.1.length=5∧(100+a1≤s.2.1∧s.2.1≤(nth c (c.length-1)).x)∧(∀j,j<s.1→100+a1≤nth s.2.2.1 j)∧(∀i j,i≤j→j<s.1→nth s.2.2.1 i≤nth s.2.2.1 j)∧(∀j,j<s.1→nth s.2.2.1 j≤s.2.1)∧ed l s.2.2.2)
  (fun s=>5-s.1) (0,100+a1,[0,0,0,0,0],k3) rfl (by simp[dS,h0]) ⟨by simp,by simp,⟨by simp,by simp only;omega⟩,by simp,by simp,by simp,mX⟩ ?_
 rintro⟨i,at',ls,k⟩ ⟨hi,Et,⟨b1,b2⟩,h6,h7,h8,hd⟩;simp only at hi Et b1 b2 h6 h7 h8 hd;simp (disch:=omega) [-getElem?_pos,wrap64,Sr];refine b9 (fun h9=>?_) (fun h9=>?_)
 ·have h9:i<5:=by omega
  have cF:¬ (5:Int)-i=0:=by omega
  have hq0:0≤((nth c (c.length-1)).x-at').tdiv (5-i):=Int.tdiv_nonneg (by omega) (by omega)
  have Kj:((nth c (c.length-1)).x-at').tdiv (5-i)≤(nth c (c.length-1)).x-at':=Int.tdiv_le_self _ (by omega)
  obtain⟨p,k4,n4,rF,hp⟩:=gL hd (((nth c (c.length-1)).x-at').tdiv (5-i)+1) (by omega)
  simp (disch:=omega) [-getElem?_pos,wrap64,n4,cF];refine cc (i+1,at'+p,ls.set i (at'+p),k4) (by simp) ⟨by simp only;omega,by simp[Et],⟨by simp only;omega,by simp only;omega⟩,?_,?_,?_,rF⟩ (by simp only;omega)
  ·intro j hj
   simp only at hj ⊢;rw[Es (by omega)]
   split
   ·omega
   ·exact h6 j (by omega)
  ·intro i' j Mb hj
   simp only at hj ⊢;rw[Es (by omega),Es (by omega)]
   by_cases e1:i=j
   ·rw[if_pos e1]
    split
    ·omega
    ·have:=h8 i' (by omega);omega
   ·rw[if_neg e1,if_neg (by omega)]
    exact h7 i' j Mb (by omega)
  ·intro j hj
   simp only at hj ⊢;rw[Es (by omega)]
   split
   ·omega
   ·have:=h8 j (by omega);omega
 ·obtain rfl:i=5:=by omega
  obtain⟨e1,e2,e3,e4,e5,rfl⟩:=aiw Et;simp (disch:=omega) [-getElem?_pos,wrap64,dS];have q1:=h6 0 (by omega)
  have q2:=h7 0 1 (by omega) (by omega)
  have q3:=h7 1 2 (by omega) (by omega)
  have q4:=h7 2 3 (by omega) (by omega)
  have q5:=h7 3 4 (by omega) (by omega)
  have q6:=h8 4 (by omega)
  exact hQ ⟨c,e1,e2,e3,e4,e5⟩ k hd (aix hc Cp (by omega) (by omega) (by omega) (by omega) q1 q2 q3 q4 q5 (Int.le_trans q6 b2)) (by simp only;omega)
structure Gw(l:List Rt):Prop where
 cw:∀i,i<l.length→Cw (nth l i).c 0 0 6 20 0
 lv:∀i,i<l.length→0≤(nth l i).lv∧(nth l i).lv≤1000
 up:∀i,0<i→i<l.length→(nth l (i-1)).lv<(nth l i).lv
theorem Gw.lr{l:List Rt}(h:Gw l)(h1:1≤l.length)(h2:l.length≤3){m v:Int}(hm:0≤m∧m≤1000)(hv:0≤v∧v≤1000):j8 ⟨l,m,v⟩=0:=by
 unfold j8;simp only;rw[if_neg (by omega),if_neg (by omega),if_neg,if_neg (by omega)]
 refine fun hn=>hn (rD fun i _ hi=>?_);have hi:i<l.length:=by omega
 have hc:=h.cw i hi;have hl:=h.lv i hi;have hp:=hc.pos;have hf:=hc.kd;have hu:=hc.up (by omega) (by omega) (by omega) (by omega) (by omega) ((nth l i).c.length-1) (by omega)
 have h0:(nth (nth l i).c 0).x=0∧(nth (nth l i).c 0).y=0:=by rw[hc.first];exact⟨rfl,rfl⟩
 unfold nG;rw[if_neg (by omega),if_neg,if_neg (fun g=>g (hc.lr (by omega) (by omega) (by omega) (by omega) (by omega))),if_neg (fun g=>g h0),if_neg (by omega)]
 rintro⟨h3,h4⟩;have:=h.up i h3 hi;omega
theorem Gw.snoc{l:List Rt}(h:Gw l){r:Rt}(hc:Cw r.c 0 0 6 20 0)(hl:0≤r.lv∧r.lv≤1000)(hu:0<l.length→(nth l (l.length-1)).lv<r.lv):Gw (l++[r]):=by
 refine⟨fun i hi=>?_,fun i hi=>?_,fun i h0 hi=>?_⟩
 ·simp at hi
  rw[iW];split
  ·exact h.cw i (by assumption)
  ·rw[if_pos (by omega)];exact hc
 ·simp at hi
  rw[iW];split
  ·exact h.lv i (by assumption)
  ·rw[if_pos (by omega)];exact hl
 ·simp at hi
  rw[iW,iW,if_pos (by omega)]
  split
  ·exact h.up i h0 (by assumption)
  ·obtain rfl:i=l.length:=by omega
   rw[if_pos rfl];exact hu h0
abbrev Na(g:Gt):V:=.agg [.slice (some 0) 2 (g.r.map Rt.row),i64 g.dw,i64 g.move]
theorem aiz{l:List Int}{k:Nat}(hd:ed l k):∃g k',bo F 182 [.bN 0 0] [dk l k]=some (Na g,[dk l k'])∧ed l k'∧j8 g=0:=by
 suffices h:∀Q:V→List aV→Prop,(∀g k',ed l k'→j8 g=0→Q (Na g) [dk l k'])→iV (bo F) 182 [.bN 0 0] [dk l k] Q by
  obtain⟨_,_,h,r,k',rfl,rfl,h1⟩:=h (fun v G=>∃r k',v=Na r∧G=[dk l k']∧ed l k'∧j8 r=0) fun r k' a b=>⟨r,k',rfl,rfl,a,b⟩;exact⟨r,k',h,h1⟩
 intro Q hQ;refine ju rfl rfl ?_;obtain⟨a1,k1,n1,ji,Mr⟩:=gL hd 12 (by omega)
 obtain⟨a2,k2,n2,gz,Ms⟩:=gL ji 6 (by omega)
 obtain⟨a3,k3,n3,mX,Ty⟩:=gL gz 40 (by omega)
 obtain⟨a4,k4,n4,rF,Tz⟩:=gL mX 3 (by omega)
 simp (disch:=omega) [wrap64,LF,n1,n2,n3,n4];refine go_loop (fun s:List Rt×Int×Int×Nat=>acV (.bN 0 0) s.2.1 s.2.2.1 [.aK,i64 0,i64 0] [.slice (some 1027) 2 (s.1.map Rt.row),i64 a1,i64 a2] s.1.length [dk l s.2.2.2])
  (fun s=>Gw s.1∧(s.1.length:Int)+s.2.2.1≤2 ∧ -1≤s.2.2.1∧(1≤s.1.length∨0≤s.2.2.1)∧(0≤s.2.1∧s.2.1≤130+50*s.1.length)∧(0<s.1.length→(nth s.1 (s.1.length-1)).lv<s.2.1)∧ed l s.2.2.2) (fun s=>(s.2.2.1+1).toNat)
  ([],90+a3,a4,k4) rfl (by simp) ⟨⟨by simp,by simp,by simp⟩,by simp;omega,by simp only;omega,by simp only;omega,by simp;omega,by simp,rF⟩ ?_
 rintro⟨r,lv,m,k⟩ ⟨hr,h1,h2,h3,h4,h5,hd⟩;simp only at h1 h2 h3 h4 h5 hd hr;obtain⟨c,k5,n5,DZ,Cp,hc⟩:=Mq hd (x:=0) (y:=0) (dx:=6) (dy:=20) false (by omega) (by omega) (by omega) (by omega)
 obtain⟨a6,k6,n6,D0,ha6⟩:=gL DZ 40 (by omega)
 simp (disch:=omega) [wrap64,SM];refine b9 (fun h6=>?_) (fun h6=>?_)
 ·simp (disch:=omega) [wrap64,n5,n6]
  refine cc (r++[⟨lv,c⟩],lv+(1+a6),m-1,k6) (by simp) ⟨hr.snoc hc (by simp only;omega) h5,by simp;omega,by simp only;omega,by simp,by simp;omega,by simp[iW];omega,D0⟩ (by simp only;omega)
 ·exact hQ ⟨r,a1,a2⟩ k hd (hr.lr (by omega) (by omega) (by omega) (by omega))
abbrev Nb(l:List Gt):V:=.slice (some 0) 3 (l.map Gt.row)
abbrev HG(l:List Gs):V:=.slice (some 0) 2 (l.map Gs.row)
structure HH(a:List Gt)(b:List Gs):Prop where
 len:a.length=b.length
 gate:∀i,i<a.length→j8 (nth a i)=0
 state:∀i,i<a.length→mF (nth a i) (nth b i)
theorem aiA{l:List Int}{k:Nat}(hd:ed l k){m:Nat}(hm:m≤1000):∃a b k',bo F 156 [.bN 0 0,i64 m] [dk l k]=some (.tuple [Nb a,HG b],[dk l k'])∧ed l k'∧HH a b∧a.length≤m:=by
 suffices h:∀Q:V→List aV→Prop,(∀a b k',ed l k'→HH a b→a.length≤m→Q (.tuple [Nb a,HG b]) [dk l k'])→iV (bo F) 156 [.bN 0 0,i64 m] [dk l k] Q by
  obtain⟨_,_,h,a,b,k',rfl,rfl,h1⟩:=h (fun v G=>∃a b k',v=.tuple [Nb a,HG b]∧G=[dk l k']∧ed l k'∧HH a b∧a.length≤m) fun a b k' h1 h2 h3=>⟨a,b,k',rfl,rfl,h1,h2,h3⟩;exact⟨a,b,k',h,h1⟩
 intro Q hQ;refine ju rfl rfl ?_;obtain⟨n,k1,n1,ji,hn⟩:=gL hd (m+1) (by omega)
 simp (disch:=omega) [wrap64,Lq,n1];refine go_loop (fun s:List Gt×List Gs×Int×Nat=>acr (.bN 0 0) (.slice (some 1023) 3 (s.1.map Gt.row)) (.slice (some 1035) 2 (s.2.1.map Gs.row)) s.2.2.1 s.1.length s.2.1.length [dk l s.2.2.2])
  (fun s=>HH s.1 s.2.1∧(s.1.length:Int)+s.2.2.1≤m∧0≤s.2.2.1∧ed l s.2.2.2) (fun s=>s.2.2.1.toNat) ([],[],n,k1) rfl (by simp) ⟨⟨rfl,by simp,by simp⟩,by simp;omega,by simp;omega,ji⟩ ?_
 rintro⟨a,b,n,k⟩ ⟨qa,h1,h2,hd⟩;simp only at qa h1 h2 hd;obtain⟨g,k2,n2,gz,hg⟩:=aiz hd;have hgv:=(Ui hg).dw;obtain⟨p,k3,n3,mX,hp⟩:=gL gz (g.dw+1) (by omega)
 obtain⟨q,k4,n4,rF,hq⟩:=gL mX 7 (by omega)
 have hl:=qa.len;simp (disch:=omega) [wrap64,Su];refine b9 (fun h4=>?_) (fun h4=>?_)
 ·simp (disch:=omega) [wrap64,n2,n3,n4]
  refine cc (a++[g],b++[⟨p,decide (q=6)⟩],n-1,k4) (by simp) ⟨⟨by simp[hl],fun i hi=>?_,fun i hi=>?_⟩,by simp;omega,by simp;omega,rF⟩ (by simp;omega)
  ·simp at hi
   rw[iW];split
   ·exact qa.gate i (by assumption)
   ·rw[if_pos (by omega)];exact hg
  ·simp at hi
   rw[iW,iW,← hl];split
   ·exact qa.state i (by assumption)
   ·rw[if_pos (by omega),if_pos (by omega)]
    show 0≤p∧p≤g.dw;omega
 ·exact hQ a b k hd qa (by omega)
end Go.Proofs.YtmpikpodpgnjhaaGreat
namespace Go.Proofs.YtmpikpodpgnjhaaGreat
set_option linter.all false
open Go.Vm
attribute [local simp] eS eT eQ eR
structure Dw(d:Dm)(s:Ds):Prop where
 lr:fB d=0
 fit:hH d s
 apq:D2 d.u s.u
 u2:d.u.length≤2
 g2:d.g.length≤2
 gr:1≤d.gr∧d.gr≤4
 rel:0≤s.rel∧s.rel≤29
 top:jL d≤10000
theorem aiB{l:List Int}{k:Nat}(hd:ed l k):∃d s k',bo F 111 [.bN 0 0] [dk l k]=some (.tuple [dm d,dst s],[dk l k'])∧ed l k'∧Dw d s:=by
 suffices h:∀Q:V→List aV→Prop,(∀d s k',ed l k'→Dw d s→Q (.tuple [dm d,dst s]) [dk l k'])→iV (bo F) 111 [.bN 0 0] [dk l k] Q by
  obtain⟨_,_,h,d,s,k',rfl,rfl,h1⟩:=h (fun v G=>∃d s k',v=.tuple [dm d,dst s]∧G=[dk l k']∧ed l k'∧Dw d s) fun d s k' a b=>⟨d,s,k',rfl,rfl,a,b⟩;exact⟨d,s,k',h,h1⟩
 intro Q hQ;refine ju rfl rfl ?_;obtain⟨r,k1,n1,ji,hr,hry⟩:=aiy hd;obtain⟨a,k2,n2,gz,ha⟩:=gL ji 4 (by omega)
 obtain⟨us,ss,k3,n3,mX,oG,F3⟩:=agW (m:=2) gz (by omega)
 obtain⟨gs,ts,k4,n4,rF,oM,CC⟩:=aiA (m:=2) mX (by omega)
 rw[show((2:Nat):Int)=2 from rfl]at n3 n4;have hv:=M1 hr r.t;have qS:=Hw hr;obtain⟨v,k5,n5,DZ,hv5⟩:=gL rF (ic r.c r.t+1) (by omega)
 obtain⟨e,k6,n6,D0,he6⟩:=gL DZ 30 (by omega)
 have hV:=D7 r r.t [];simp (disch:=omega) [wrap64,K2,n1,n2,n3,n4,hV,qS,hr,n5,n6];refine hQ ⟨r,us,gs,1+a⟩ ⟨v,e,ss,ts⟩ k6 D0 ?_;have hc:fB ⟨r,us,gs,1+a⟩=0:=by
  unfold fB;simp only;rw[if_neg (fun g=>g hr),if_neg (by omega),if_neg (fun g=>g (rD fun i _ hi=>(oG.unit i (by omega)).lr)),if_neg (fun g=>g (rD fun i _ hi=>oM.gate i (by omega))),if_neg (by omega)]
 refine⟨hc,⟨⟨hv5.1,?_⟩,?_,oG.len.symm,oM.len.symm,oG.state,oM.state⟩,oG,F3,CC,?_,?_,?_⟩
 ·show v≤ic r.c r.t
  omega
 ·simp only;omega
 ·simp only;omega
 ·simp only;omega
 ·have:=(Bo (lL (qP hr)) r.t).2
  show ic r.c r.t≤10000;omega
end Go.Proofs.YtmpikpodpgnjhaaGreat
namespace Go.Proofs.YtmpikpodpgnjhaaGreat
set_option linter.all false
open Go.Vm
end Go.Proofs.YtmpikpodpgnjhaaGreat
