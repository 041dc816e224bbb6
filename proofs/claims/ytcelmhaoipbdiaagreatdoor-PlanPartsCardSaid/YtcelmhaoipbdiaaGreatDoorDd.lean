/- Parts of the proof, joined: Dam2, Dam3, Dam4, Gat8, Dam5, Dam6, Mk3, Mk4, Dam7, Ref4, Ref5, Dmo1, Dob1. -/
import Derived.Test.YtcelmhaoipbdiaaGreatDoorDc
namespace Go.Proofs.YtcelmhaoipbdiaaGreatDoor
set_option linter.all false
open Go.Vm
attribute [local simp] mK mL lN mJ
structure Sv(r:Rs):Prop where
 c:fW r.c=0
 two:2≤r.c.length
 top:(nth r.c (r.c.length-1)).x≤16777216
 up:∀i,1≤i→i<r.c.length→(nth r.c (i-1)).y<(nth r.c i).y
 d:(nth r.c 0).x≤r.d
 l:r.d≤r.l
 f:r.l≤r.f
 s:r.f≤r.s
 t:r.s≤r.t
 last:r.t≤(nth r.c (r.c.length-1)).x
theorem La{r:Rs}(h:ij r=0):Sv r:=by
 have hc:=sC h;unfold ij at h;rw[aA (by omega)]at h
 split at h
 ·cases h
 split at h
 ·cases h
 split at h
 ·rename_i h1 h2 h3
  have hp:=tB hc;have up:∀i,1≤i→i<r.c.length→(nth r.c (i-1)).y<(nth r.c i).y:=fun i a b=>by
   have:=sy h3 i a (by omega)
   unfold sA at this;split at this
   ·cases this
   ·omega
  have lv:∀i,1≤i→i<7→nth (sB r) (i-1)≤nth (sB r) i:=fun i a b=>by
   have:=sy h i a (by omega)
   unfold pR at this;split at this
   ·cases this
   ·omega
  have l1:=lv 1 (by omega) (by omega)
  have l2:=lv 2 (by omega) (by omega)
  have l3:=lv 3 (by omega) (by omega)
  have l4:=lv 4 (by omega) (by omega)
  have l5:=lv 5 (by omega) (by omega)
  have l6:=lv 6 (by omega) (by omega)
  exact⟨hc,by omega,by omega,up,l1,l2,l3,l4,l5,l6⟩
 ·cases h
theorem aa4{r:Rs}(h:ij r=0){l:Int}(h1:(nth r.c 0).x≤l)(h2:l≤(nth r.c (r.c.length-1)).x):sD r l=0:=by
 have v:=La h;have hp:=tB v.c;have:=(mf v.c).x0 0 hp;have:=v.top;unfold sD;rw[aA (by omega),aP (by omega)]
def kD(d:Dm):Int:=ig d.r.c d.r.t
def Eh(d:Dm):Int:=ig d.r.c d.r.d
theorem Q2{r:Rs}(h:ij r=0):sD r r.t=0:=by
 have v:=La h;have:=v.d;have:=v.l;have:=v.f;have:=v.s;have:=v.t;exact aa4 h (by omega) v.last
theorem anz{r:Rs}(h:ij r=0):sD r r.d=0:=by
 have v:=La h;have:=v.last;have:=v.l;have:=v.f;have:=v.s;have:=v.t;exact aa4 h v.d (by omega)
def g8(d:Dm)(s:Ds):Prop:=(0≤s.v∧s.v≤kD d)∧(0≤s.rel∧s.rel≤1073741824)∧s.u.length=d.u.length∧s.g.length=d.g.length∧B3 d.u s.u∧yK d.g s.g
noncomputable instance {d:Dm} {s:Ds}:Decidable (g8 d s):=Classical.propDecidable _
noncomputable def dE(d:Dm)(s:Ds):Int:=if fw d≠0 then fw d else if g8 d s then 0 else 3
structure Dv(d:Dm):Prop where
 r:ij d.r=0
 u:d.u.length≤6
 g:d.g.length≤8
 uv:∀i,i<d.u.length→gV (nth d.u i)=0
 gv:∀i,i<d.g.length→kd (nth d.g i)=0
 gr:1≤d.gr∧d.gr≤1073741824
theorem yM{d:Dm}(h:fw d=0):Dv d:=by
 unfold fw at h;split at h
 ·rename_i h1;exact absurd h h1
 split at h
 ·cases h
 split at h
 ·rename_i h1;exact absurd h h1
 split at h
 ·rename_i h1;exact absurd h h1
 split at h
 ·cases h
 rename_i h1 h2 h3 h4 h5;have h3:uE d.u=0:=gW h3;have h4:gE d.g=0:=gW h4;exact⟨gW h1,by omega,by omega,fun i hi=>sy h3 i (by omega) (by omega),fun i hi=>sy h4 i (by omega) (by omega),by omega⟩
theorem aa5{d:Dm}(h:ij d.r=0)(G:List aT):bd F 215 [dm d] G=some (i64 (kD d),G) :=
 bX rfl rfl (by
  simp[wrap64,Za,KK (mf (sC h)),kD])
theorem Q3{d:Dm}(h:Dv d)(s:Ds)(G:List aT):bd F 195 [dm d,dst s] G=some (.bool (decide (g8 d s)),G) :=
 bX rfl rfl (by
  obtain⟨v,rel,su,sg⟩:=s;generalize hW:decide (g8 d ⟨v,rel,su,sg⟩)=W;have no:¬ g8 d ⟨v,rel,su,sg⟩→W=false:=fun hn=>by rw[←hW];simp[hn]
  unfold g8 at no;simp only at no;have Q4:=h.u;have hg8:=h.g;have hc:=aa5 h.r;by_cases h1:0≤v∧v≤kD d
  ·have a1:(decide (0≤v)&&decide (v≤kD d))=true:=by simp;omega
   have a2:(!decide (0≤v) || !decide (v≤kD d))=false:=by simp;omega
   by_cases h2:0≤rel∧rel≤1073741824
   ·have b1:(decide (0≤rel)&&decide (rel≤1073741824))=true:=by simp;omega
    have b2:(!decide (0≤rel) || !decide (rel≤1073741824))=false:=by simp;omega
    by_cases h3:su.length=d.u.length
    ·have c1:(su.length:Int)=d.u.length:=by omega
     by_cases h4:sg.length=d.g.length
     ·have d1:(sg.length:Int)=d.g.length:=by omega
      simp (disch:=omega) [-getElem?_pos,wrap64,tA,hc,dD,a1,a2,b1,b2,c1,d1];refine go_loop (fun i:Nat=>akJ (kc d.u) d.u.length i d.row [i64 v,i64 rel,jO su,jH sg] G) (fun i=>i≤d.u.length∧∀j,j<i→e7 (nth d.u j) (nth su j)) (fun i=>d.u.length-i) 0 rfl (by simp) ⟨by omega,by omega⟩ ?_
      rintro i ⟨hi,hv⟩;simp (disch:=omega) [-getElem?_pos,wrap64,YS];refine bS (fun h5=>?_) (fun h5=>?_)
      ·have h5:i<d.u.length:=by omega
       have yN:i<su.length:=by omega
       by_cases h6:e7 (nth d.u i) (nth su i)
       ·simp (disch:=omega) [-getElem?_pos,wrap64,bg (l:=d.u),bg (l:=su),Ax,w9,h6]
        refine bV (i+1) (by simp) ⟨by omega,fun j hj=>?_⟩ (by omega)
        rcases cF j i with h7|h7
        ·exact hv j h7
        ·rwa [show j=i by omega]
       ·simp (disch:=omega) [-getElem?_pos,wrap64,bg (l:=d.u),bg (l:=su),Ax,w9,h6]
        exact no (fun h=>h6 (h.2.2.2.2.1 i h5))
      ·obtain rfl:i=d.u.length:=by omega
       refine go_loop (fun i:Nat=>akL (jR d.g) d.g.length i [i64 v,i64 rel,jO su,jH sg] G) (fun i=>i≤d.g.length∧∀j,j<i→ni (nth d.g j) (nth sg j)) (fun i=>d.g.length-i) 0 rfl (by simp) ⟨by omega,by omega⟩ ?_
       rintro i ⟨hi,hg⟩;simp (disch:=omega) [-getElem?_pos,wrap64,YT];refine bS (fun h5=>?_) (fun h5=>?_)
       ·have h5:i<d.g.length:=by omega
        have yN:i<sg.length:=by omega
        by_cases h6:ni (nth d.g i) (nth sg i)
        ·have il:(!decide (0≤(nth sg i).o) || !decide ((nth sg i).o≤(nth d.g i).c9))=false:=by simp;exact h6
         simp (disch:=omega) [-getElem?_pos,wrap64,bg (l:=d.g),bg (l:=sg),dD,AH,h6,il];refine bV (i+1) (by simp) ⟨by omega,fun j hj=>?_⟩ (by omega)
         rcases cF j i with h7|h7
         ·exact hg j h7
         ·rwa [show j=i by omega]
        ·have il:(!decide (0≤(nth sg i).o) || !decide ((nth sg i).o≤(nth d.g i).c9))=true:=by
          have:¬ (0≤(nth sg i).o∧(nth sg i).o≤(nth d.g i).c9):=h6;simp;omega
         simp (disch:=omega) [-getElem?_pos,wrap64,bg (l:=d.g),bg (l:=sg),dD,AH,h6,il];exact no (fun h=>h6 (h.2.2.2.2.2 i h5))
       ·obtain rfl:i=d.g.length:=by omega
        rw[←hW];have:g8 d ⟨v,rel,su,sg⟩:=⟨h1,h2,h3,h4,hv,hg⟩;simp[this]
     ·have d1:¬ (sg.length:Int)=d.g.length:=by omega
      simp (disch:=omega) [-getElem?_pos,wrap64,tA,hc,dD,a1,a2,b1,b2,c1,d1];exact no (fun h=>h4 h.2.2.2.1)
    ·have c1:¬ (su.length:Int)=d.u.length:=by omega
     simp (disch:=omega) [-getElem?_pos,wrap64,tA,hc,dD,a1,a2,b1,b2,c1];exact no (fun h=>h3 h.2.2.1)
   ·have b1:(decide (0≤rel)&&decide (rel≤1073741824))=false:=by simp;omega
    have b2:(!decide (0≤rel) || !decide (rel≤1073741824))=true:=by simp;omega
    by_cases c1:(su.length:Int)=d.u.length
    ·by_cases d1:(sg.length:Int)=d.g.length
     ·simp (disch:=omega) [-getElem?_pos,wrap64,tA,hc,dD,a1,a2,b1,b2,c1,d1]
      exact no (fun h=>h2 h.2.1)
     ·simp (disch:=omega) [-getElem?_pos,wrap64,tA,hc,dD,a1,a2,b1,b2,c1,d1]
      exact no (fun h=>h2 h.2.1)
    ·simp (disch:=omega) [-getElem?_pos,wrap64,tA,hc,dD,a1,a2,b1,b2,c1]
     exact no (fun h=>h2 h.2.1)
  ·have a1:(decide (0≤v)&&decide (v≤kD d))=false:=by simp;omega
   have a2:(!decide (0≤v) || !decide (v≤kD d))=true:=by simp;omega
   by_cases h2:0≤rel∧rel≤1073741824
   ·have b1:(decide (0≤rel)&&decide (rel≤1073741824))=true:=by simp;omega
    have b2:(!decide (0≤rel) || !decide (rel≤1073741824))=false:=by simp;omega
    by_cases c1:(su.length:Int)=d.u.length
    ·by_cases d1:(sg.length:Int)=d.g.length
     ·simp (disch:=omega) [-getElem?_pos,wrap64,tA,hc,dD,a1,a2,b1,b2,c1,d1]
      exact no (fun h=>h1 h.1)
     ·simp (disch:=omega) [-getElem?_pos,wrap64,tA,hc,dD,a1,a2,b1,b2,c1,d1]
      exact no (fun h=>h1 h.1)
    ·simp (disch:=omega) [-getElem?_pos,wrap64,tA,hc,dD,a1,a2,b1,b2,c1]
     exact no (fun h=>h1 h.1)
   ·have b1:(decide (0≤rel)&&decide (rel≤1073741824))=false:=by simp;omega
    have b2:(!decide (0≤rel) || !decide (rel≤1073741824))=true:=by simp;omega
    by_cases c1:(su.length:Int)=d.u.length
    ·by_cases d1:(sg.length:Int)=d.g.length
     ·simp (disch:=omega) [-getElem?_pos,wrap64,tA,hc,dD,a1,a2,b1,b2,c1,d1]
      exact no (fun h=>h1 h.1)
     ·simp (disch:=omega) [-getElem?_pos,wrap64,tA,hc,dD,a1,a2,b1,b2,c1,d1]
      exact no (fun h=>h1 h.1)
    ·simp (disch:=omega) [-getElem?_pos,wrap64,tA,hc,dD,a1,a2,b1,b2,c1]
     exact no (fun h=>h1 h.1))
theorem anC{d:Dm}(hd:fw d=0)(s:Ds)(G:List aT):bd F 89 [dm d,dst s] G=some (.bool (decide (g8 d s)),G):=by
  have h:=yM hd;exact bX rfl rfl (by
   obtain⟨v,rel,su,sg⟩:=s;generalize hW:decide (g8 d ⟨v,rel,su,sg⟩)=W;have no:¬ g8 d ⟨v,rel,su,sg⟩→W=false:=fun hn=>by rw[←hW];simp[hn]
   unfold g8 at no;simp only at no;have Q4:=h.u;have hg8:=h.g;have hc:=fun G=>Ce d G;have hV:=fun G=>KL d.r d.r.t G;have qv:=Q2 h.r;have uQ:ig d.r.c d.r.t=kD d:=rfl;by_cases h1:0≤v∧v≤kD d
   ·have a1:(decide (0≤v)&&decide (v≤kD d))=true:=by simp;omega
    have a2:(!decide (0≤v) || !decide (v≤kD d))=false:=by simp;omega
    by_cases h2:0≤rel∧rel≤1073741824
    ·have b1:(decide (0≤rel)&&decide (rel≤1073741824))=true:=by simp;omega
     have b2:(!decide (0≤rel) || !decide (rel≤1073741824))=false:=by simp;omega
     by_cases h3:su.length=d.u.length
     ·have c1:(su.length:Int)=d.u.length:=by omega
      by_cases h4:sg.length=d.g.length
      ·have d1:(sg.length:Int)=d.g.length:=by omega
       simp (disch:=omega) [-getElem?_pos,wrap64,sx,hc,hd,hV,qv,uQ,cV,a1,a2,b1,b2,c1,d1];refine go_loop (fun i:Nat=>aiz (kc d.u) d.u.length i d.row [i64 v,i64 rel,jO su,jH sg] G) (fun i=>i≤d.u.length∧∀j,j<i→e7 (nth d.u j) (nth su j)) (fun i=>d.u.length-i) 0 rfl (by simp) ⟨by omega,by omega⟩ ?_
       rintro i ⟨hi,hv⟩;simp (disch:=omega) [-getElem?_pos,wrap64,Xj];refine bS (fun h5=>?_) (fun h5=>?_)
       ·have h5:i<d.u.length:=by omega
        have yN:i<su.length:=by omega
        by_cases h6:e7 (nth d.u i) (nth su i)
        ·simp (disch:=omega) [-getElem?_pos,wrap64,bg (l:=d.u),bg (l:=su),Ax,w9,h6]
         refine bV (i+1) (by simp) ⟨by omega,fun j hj=>?_⟩ (by omega)
         rcases cF j i with h7|h7
         ·exact hv j h7
         ·rwa [show j=i by omega]
        ·simp (disch:=omega) [-getElem?_pos,wrap64,bg (l:=d.u),bg (l:=su),Ax,w9,h6]
         exact no (fun h=>h6 (h.2.2.2.2.1 i h5))
       ·obtain rfl:i=d.u.length:=by omega
        refine go_loop (fun i:Nat=>aiE (jR d.g) d.g.length i [i64 v,i64 rel,jO su,jH sg] G) (fun i=>i≤d.g.length∧∀j,j<i→ni (nth d.g j) (nth sg j)) (fun i=>d.g.length-i) 0 rfl (by simp) ⟨by omega,by omega⟩ ?_
        rintro i ⟨hi,hg⟩;simp (disch:=omega) [-getElem?_pos,wrap64,Xk];refine bS (fun h5=>?_) (fun h5=>?_)
        ·have h5:i<d.g.length:=by omega
         have yN:i<sg.length:=by omega
         by_cases h6:ni (nth d.g i) (nth sg i)
         ·have il:(!decide (0≤(nth sg i).o) || !decide ((nth sg i).o≤(nth d.g i).c9))=false:=by simp;exact h6
          simp (disch:=omega) [-getElem?_pos,wrap64,bg (l:=d.g),bg (l:=sg),dD,AH,h6,il];refine bV (i+1) (by simp) ⟨by omega,fun j hj=>?_⟩ (by omega)
          rcases cF j i with h7|h7
          ·exact hg j h7
          ·rwa [show j=i by omega]
         ·have il:(!decide (0≤(nth sg i).o) || !decide ((nth sg i).o≤(nth d.g i).c9))=true:=by
           have:¬ (0≤(nth sg i).o∧(nth sg i).o≤(nth d.g i).c9):=h6;simp;omega
          simp (disch:=omega) [-getElem?_pos,wrap64,bg (l:=d.g),bg (l:=sg),dD,AH,h6,il];exact no (fun h=>h6 (h.2.2.2.2.2 i h5))
        ·obtain rfl:i=d.g.length:=by omega
         rw[←hW];have:g8 d ⟨v,rel,su,sg⟩:=⟨h1,h2,h3,h4,hv,hg⟩;simp[this]
      ·have d1:¬ (sg.length:Int)=d.g.length:=by omega
       simp (disch:=omega) [-getElem?_pos,wrap64,sx,hc,hd,hV,qv,uQ,cV,a1,a2,b1,b2,c1,d1];exact no (fun h=>h4 h.2.2.2.1)
     ·have c1:¬ (su.length:Int)=d.u.length:=by omega
      simp (disch:=omega) [-getElem?_pos,wrap64,sx,hc,hd,hV,qv,uQ,cV,a1,a2,b1,b2,c1];exact no (fun h=>h3 h.2.2.1)
    ·have b1:(decide (0≤rel)&&decide (rel≤1073741824))=false:=by simp;omega
     have b2:(!decide (0≤rel) || !decide (rel≤1073741824))=true:=by simp;omega
     by_cases c1:(su.length:Int)=d.u.length
     ·by_cases d1:(sg.length:Int)=d.g.length
      ·simp (disch:=omega) [-getElem?_pos,wrap64,sx,hc,hd,hV,qv,uQ,cV,a1,a2,b1,b2,c1,d1]
       exact no (fun h=>h2 h.2.1)
      ·simp (disch:=omega) [-getElem?_pos,wrap64,sx,hc,hd,hV,qv,uQ,cV,a1,a2,b1,b2,c1,d1]
       exact no (fun h=>h2 h.2.1)
     ·simp (disch:=omega) [-getElem?_pos,wrap64,sx,hc,hd,hV,qv,uQ,cV,a1,a2,b1,b2,c1]
      exact no (fun h=>h2 h.2.1)
   ·have a1:(decide (0≤v)&&decide (v≤kD d))=false:=by simp;omega
    have a2:(!decide (0≤v) || !decide (v≤kD d))=true:=by simp;omega
    by_cases h2:0≤rel∧rel≤1073741824
    ·have b1:(decide (0≤rel)&&decide (rel≤1073741824))=true:=by simp;omega
     have b2:(!decide (0≤rel) || !decide (rel≤1073741824))=false:=by simp;omega
     by_cases c1:(su.length:Int)=d.u.length
     ·by_cases d1:(sg.length:Int)=d.g.length
      ·simp (disch:=omega) [-getElem?_pos,wrap64,sx,hc,hd,hV,qv,uQ,cV,a1,a2,b1,b2,c1,d1]
       exact no (fun h=>h1 h.1)
      ·simp (disch:=omega) [-getElem?_pos,wrap64,sx,hc,hd,hV,qv,uQ,cV,a1,a2,b1,b2,c1,d1]
       exact no (fun h=>h1 h.1)
     ·simp (disch:=omega) [-getElem?_pos,wrap64,sx,hc,hd,hV,qv,uQ,cV,a1,a2,b1,b2,c1]
      exact no (fun h=>h1 h.1)
    ·have b1:(decide (0≤rel)&&decide (rel≤1073741824))=false:=by simp;omega
     have b2:(!decide (0≤rel) || !decide (rel≤1073741824))=true:=by simp;omega
     by_cases c1:(su.length:Int)=d.u.length
     ·by_cases d1:(sg.length:Int)=d.g.length
      ·simp (disch:=omega) [-getElem?_pos,wrap64,sx,hc,hd,hV,qv,uQ,cV,a1,a2,b1,b2,c1,d1]
       exact no (fun h=>h1 h.1)
      ·simp (disch:=omega) [-getElem?_pos,wrap64,sx,hc,hd,hV,qv,uQ,cV,a1,a2,b1,b2,c1,d1]
       exact no (fun h=>h1 h.1)
     ·simp (disch:=omega) [-getElem?_pos,wrap64,sx,hc,hd,hV,qv,uQ,cV,a1,a2,b1,b2,c1]
      exact no (fun h=>h1 h.1))
theorem Q5(d:Dm)(s:Ds)(G:List aT):bd F 89 [dm d,dst s] G=some (.bool (decide (fw d=0∧g8 d s)),G):=by
 by_cases hd:fw d=0
 ·rw[show decide (fw d=0∧g8 d s)=decide (g8 d s) by simp[hd]]
  exact anC hd s G
 ·rw[show decide (fw d=0∧g8 d s)=false by simp[hd]]
  have hC:=fun G=>Ce d G;generalize fw d=x at hd hC;obtain⟨v,rel,su,sg⟩:=s;exact bX rfl rfl (by
   simp[wrap64,sx,hC,hd])
theorem aa6(d:Dm)(s:Ds)(G:List aT):bd F 197 [dm d,dst s] G=some (.bool (decide (fw d=0∧g8 d s)),G) :=
 bX rfl rfl (by
  by_cases hd:fw d=0
  ·simp[wrap64,PV,Cd,hd,Q3 (yM hd)]
  ·simp[wrap64,PV,Cd,hd])
theorem aa7(d:Dm)(s:Ds)(G:List aT):bd F 163 [dm d,dst s] G=some (i64 (dE d s),G) :=
 bX rfl rfl (by
  by_cases hd:fw d=0
  ·by_cases hf:g8 d s
   ·simp[wrap64,Kt,Cd,hd,Q3 (yM hd),hf,dE]
   ·simp[wrap64,Kt,Cd,hd,Q3 (yM hd),hf,dE]
  ·simp[wrap64,Kt,Cd,hd,dE])
theorem aa8(d:Dm)(s:Ds)(G:List aT):bd F 47 [dm d,dst s] G=some (i64 (dE d s),G) :=
 bX rfl rfl (by
  by_cases hd:fw d=0
  ·by_cases hf:g8 d s
   ·simp[wrap64,Ke,Ce,hd,Q5,hf,dE]
   ·simp[wrap64,Ke,Ce,hd,Q5,hf,dE]
  ·simp[wrap64,Ke,Ce,hd,dE])
theorem HN{d:Dm}{s:Ds}(h:dE d s=0):Dv d∧g8 d s:=by
 unfold dE at h;split at h
 ·rename_i h1;exact absurd h h1
 split at h
 ·rename_i h1 h2;exact⟨yM (gW h1),h2⟩
 ·cases h
noncomputable def lvl(d:Dm)(s:Ds):Int:=if dE d s=0 then jF d.r s.v else 0
theorem Q6(d:Dm)(s:Ds)(G:List aT):bd F 124 [dm d,dst s] G=some (.tuple [i64 (lvl d s),i64 (dE d s)],G) :=
 bX rfl rfl (by
  by_cases hd:dE d s=0
  ·simp[wrap64,PE,aa7,hd,al9 (HN hd).1.r,lvl]
  ·simp[wrap64,PE,aa7,hd,lvl])
theorem anD{u:Un}{s:Us}(hv:e7 u s)(q:Int):sG u s q=if jN u s q then 0 else 15:=by
 unfold sG;rw[aA (fun h=>h hv.1),aA (fun h=>h hv)];by_cases h:jN u s q
 ·rw[aP h,aA (fun g=>g h)]
 ·rw[aA h,aP h]
theorem aa9{u:Un}{s:Us}(hv:e7 u s)(q:Int)(G:List aT):bd F 234 [un u,us s,i64 q] G =
  some (.tuple (if jN u s q then [us (sH s q),.bool (decide (s.cg=0)&&decide (0<q)),i64 0] else [us ⟨0,0,false⟩,.bool false,i64 15]),G) :=
 bX rfl rfl (by
  have hc:=hv.1;have h1:=hv.2.1;have hf:0≤s.cg:=by
   rcases hv.2.2 with h | ⟨_,h⟩
   ·omega
   ·have:=KN hc h;omega
  have B0:min (s.since+1) 1000=min 1000 (s.since+1):=by omega
  by_cases hm:jN u s q
  ·simp +contextual (disch:=omega) [wrap64,P5,sE,Qn hc,Qo hv,hc,hv,hm]
   refine gT (fun h=>?_) (fun h=>?_)
   ·have h':¬ (decide (0<s.cg)=decide (0<q)):=fun e=>by rw[e]at h;simp at h
    unfold sH;rw[aA h'];exact⟨⟨rfl,rfl,rfl⟩,Bool.and_comm _ _⟩
   ·have h':decide (0<s.cg)=decide (0<q):=by
     cases h1:decide (0<s.cg)<;>cases h2:decide (0<q)<;>rw[h1,h2]at h<;>first|rfl|cases h
    unfold sH;rw[aP h'];exact⟨⟨rfl,B0,rfl⟩,Bool.and_comm _ _⟩
  ·simp +contextual (disch:=omega) [wrap64,P5,sE,Qn hc,Qo hv,hc,hv,hm])
structure Dr where
 inf:Int
 los:Int
 tur:Int
 spi:Int
 ovr:Int
 pow:Int
 mj:Int
 deriving Inhabited
abbrev Dr.row(r:Dr):List V:=[i64 r.inf,i64 r.los,i64 r.tur,i64 r.spi,i64 r.ovr,i64 r.pow,i64 r.mj]
abbrev dr(r:Dr):V:=.agg r.row
abbrev wk(d:Dm)(s:Ds)(nv nr:Int)(nu:List Us)(ng:V)(r:Dr)(rel left lv:Int):aT:=.cells
 [iA d.r.c,i64 d.r.d,i64 d.r.l,i64 d.r.f,i64 d.r.s,i64 d.r.t,kc d.u,jR d.g,i64 d.gr,i64 s.v,i64 s.rel,jO s.u,jH s.g,
  i64 nv,i64 nr,.e9 3 (nu.map Us.row),ng,i64 r.inf,i64 r.los,i64 r.tur,i64 r.spi,i64 r.ovr,i64 r.pow,i64 r.mj,i64 rel,i64 left,i64 lv]
def jS(d:Dm)(left:Int):Int:=max (left-Eh d) 0
theorem Q7{r:Rs}(h:ij r=0)(l:Int):0≤ig r.c l∧ig r.c l≤1099511627776:=by
 have hc:=mf (sC h);have h1:=D0 hc l;have hp:=tB (sC h);have h2:=hc.y0 0 hp;have h3:=hc.y0 (r.c.length-1) (by omega)
 omega
theorem Lc{d:Dm}(h:ij d.r=0):0≤Eh d∧Eh d≤1099511627776:=Q7 h _
theorem Ld{d:Dm}(h:ij d.r=0):0≤kD d∧kD d≤1099511627776:=Q7 h _
theorem Q8{d:Dm}(h:ij d.r=0){s:Ds}{nv nr:Int}{nu:List Us}{ng:V}{r:Dr}{rel left lv:Int}(hl:0≤left∧left≤4611686018427387904) :
  bd F 232 [.bI 0 0] [wk d s nv nr nu ng r rel left lv]=some (i64 (jS d left),[wk d s nv nr nu ng r rel left lv]) :=
 bX rfl rfl (by
  generalize hW:jS d left=W;have hD:ig d.r.c d.r.d=Eh d:=rfl;have h0:=Lc h;simp (disch:=omega) [wrap64,Zn,KK (mf (sC h)),hD];exact hW)
theorem Lf{g:Int}:∀{us:List Un} {ss:List Us} {F:List Int},mh g us ss F→∀i,i<us.length→nth F i∈qo (nth us i) (nth ss i) g
 |[],[],[],_=>fun i hi=>by simp at hi
 |u::us,s::ss,q::F,h=>fun i hi=>by
  cases i with
  |zero=>exact h.1
  |succ i=>exact Lf h.2 i (by simpa using hi)
 |[],_::_,_,h=>h.elim
 |[],[],_::_,h=>h.elim
 |_::_,[],_,h=>h.elim
 |_::_,_::_,[],h=>h.elim
theorem HP{us:List Un}{ss:List Us}{g release:Int}(h:ke us ss g release=0):mh g us ss (g7 us ss g release)∧(g7 us ss g release).sum≤release:=by
 unfold ke at h;split at h
 ·rename_i h1;exact absurd h h1
 split at h
 ·cases h
 rename_i h1 h2;have h1:=gW h1;obtain⟨h3,h4,_⟩:=QH h1;have hb:=aau h3 h4.1;unfold g7;rw[aA (fun g=>g h1)];cases hr:mN (ja us ss g) release with
 |none=>exact absurd hr h2
 |some E =>
  rw[hr]at hb;exact⟨hb.mh,hb.sum⟩
noncomputable def gM(d:Dm)(s:Ds)(m:Int)(i:Nat):Int:=if ke d.u s.u d.gr m=0 then nth (g7 d.u s.u d.gr m) i else 0
theorem anE{d:Dm}{s:Ds}{m:Int}{i:Nat}(hi:i<d.u.length):gM d s m i=0∨jG (nth d.u i) (nth s.u i) (gM d s m i):=by
 unfold gM;split
 ·rename_i h
  exact .inr (D7.1 (Lf (HP h).1 i hi)).2
 ·exact .inl rfl
theorem Q9{d:Dm}{s:Ds}{m:Int}{i:Nat}(hi:i<d.u.length):0≤gM d s m i∧gM d s m i≤1073741824:=by
 rcases anE (s:=s) (m:=m) hi with h|h
 ·omega
 ·exact KR h
noncomputable def ry(u:Un)(s:Us)(q:Int):Us:=if jN u s q then sH s q else ⟨0,1,s.out⟩
def dW(f:Nat→Int):Nat→Int
 |0=>0
 |i+1=>dW f i+f i
theorem Lg{f:Nat→Int}{n:Nat}(h:∀i,i<n→0≤f i∧f i≤1073741824):∀i,i≤n→0≤dW f i∧dW f i≤1073741824*i:=by
 intro i;induction i with
 |zero=>intro _;simp[dW]
 |succ i ih=>intro hi;have:=ih (by omega);have:=h i (by omega);simp only[dW];omega
noncomputable def qw(d:Dm)(s:Ds)(m:Int)(i:Nat):Int:=pow (nth d.u i) (gM d s m i)
noncomputable def mj(d:Dm)(s:Ds)(m:Int)(i:Nat):Int:=iC (nth s.u i) (gM d s m i)
noncomputable def oG(d:Dm)(s:Ds)(m:Int)(n:Nat):List Us:=(List.range n).map fun i=>ry (nth d.u i) (nth s.u i) (gM d s m i)
theorem Lh{d:Dm}{s:Ds}{m:Int}{n:Nat}:(oG d s m n).length=n:=by simp[oG]
theorem Cf{d:Dm}{s:Ds}{m:Int}{n:Nat}:oG d s m (n+1)=oG d s m n++[ry (nth d.u n) (nth s.u n) (gM d s m n)]:=by simp[oG,Mq]
def kS(d:Dm)(rel left:Int):Int:=min (min rel (jS d left)) (200*d.gr)
set_option maxHeartbeats 1000000 in
theorem anF{d:Dm}(h:Dv d){s:Ds}(hs:g8 d s){nv nr inf los spi ovr rel left lv:Int}{ng:V}(hl:0≤left∧left≤4611686018427387904)(hr:0≤rel∧rel≤1073741824) :
  bd F 226 [.bI 0 0] [wk d s nv nr [] ng ⟨inf,los,0,spi,ovr,0,0⟩ rel left lv] =
   some (.tuple [],[wk d s nv nr (oG d s (kS d rel left) d.u.length) ng ⟨inf,los,dW (gM d s (kS d rel left)) d.u.length,spi,ovr,dW (qw d s (kS d rel left)) d.u.length,dW (mj d s (kS d rel left)) d.u.length⟩ rel left lv]) :=
 bX rfl rfl (by
  obtain⟨G',hb⟩:=amu d.u s.u d.gr (kS d rel left);have hgr:=h.gr;have KP:min (min rel (jS d left)) (200*d.gr)=kS d rel left:=rfl;have Q4:=h.u;have xN:=hs.2.2.1;have Lj:ke d.u s.u d.gr (kS d rel left)=0→(g7 d.u s.u d.gr (kS d rel left)).length=d.u.length:=fun he=>(B6 (HP he).1).1;generalize hM:kS d rel left=M at hb KP Lj;simp (disch:=omega) [wrap64,Zi,Q8 h.r,KP,hb];refine go_loop (fun i:Nat=>ak3 (.bI 0 0) (.slice none 1 ((g7 d.u s.u d.gr M).map fun n=>[i64 n])) (ke d.u s.u d.gr M) (kc d.u) d.u.length i
   [wk d s nv nr (oG d s M i) ng ⟨inf,los,dW (gM d s M) i,spi,ovr,dW (qw d s M) i,dW (mj d s M) i⟩ rel left lv])
   (fun i=>i≤d.u.length) (fun i=>d.u.length-i) 0 rfl (by simp[oG,dW]) (by omega) ?_
  intro i hi;have sw:=Lh (d:=d) (s:=s) (m:=M) (n:=i);have s1:=Lg (f:=gM d s M) (n:=d.u.length) (fun i hi=>Q9 hi) i hi;have s2:=Lg (f:=qw d s M) (n:=d.u.length) (fun i hi=>KS) i hi;have s3:=Lg (f:=mj d s M) (n:=d.u.length) (fun i hi=>by have:=QB (s:=nth s.u i) (q:=gM d s M i);unfold mj;omega) i hi
  simp (disch:=omega) [wrap64,Zh];refine bS (fun h5=>?_) (fun h5=>?_)
  ·have h5:i<d.u.length:=by omega
   have yN:i<s.u.length:=by omega
   have hv:e7 (nth d.u i) (nth s.u i):=hs.2.2.2.2.1 i h5;have FE:=KS (u:=nth d.u i) (q:=gM d s M i);have sd:=Q9 (s:=s) (m:=M) h5;by_cases he:ke d.u s.u d.gr M=0
   ·have Lj:=Lj he
    have ky:nth (g7 d.u s.u d.gr M) i=gM d s M i:=by simp[gM,he]
    have hm:jN (nth d.u i) (nth s.u i) (gM d s M i):=by
     have:=D7.1 (Lf (HP he).1 i h5);rw[ky]at this;exact this.2.2
    have hN:=aa9 hv (gM d s M i) [];rw[aP hm]at hN;have hP:=Ho (nth d.u i) (gM d s M i) [];generalize hq:gM d s M i=q at *;generalize hp:pow (nth d.u i) q=p at *;simp (config:={ maxSteps:=2000000 }) +contextual (disch:=omega) [-getElem?_pos,-List.length_eq_zero_iff,-Int.natCast_eq_zero,wrap64,bg (l:=d.u),bg (l:=s.u),dV (l:=g7 d.u s.u d.gr M),he,ky,hN,hP,sw];have hx:ry (nth d.u i) (nth s.u i) q=sH (nth s.u i) q:=by simp[ry,hm]
    refine gT (fun h6=>?_) (fun h6=>?_)
    ·have il:mj d s M i=1:=by
      simp at h6;simp[mj,iC,hq,h6]
     refine bV (i+1) (by simp[Cf,dW,qw,hq,hp,il,hx]) (by omega) (by omega)
    ·have il:mj d s M i=0:=by
      have h7:¬ (0<q∧(nth s.u i).cg=0):=fun h=>by rw[fL h.1,fL h.2]at h6;cases h6
      simp only[mj,iC,hq,aA h7]
     refine bV (i+1) (by simp[Cf,dW,qw,hq,hp,il,hx]) (by omega) (by omega)
   ·have hq:gM d s M i=0:=by simp[gM,he]
    have hp:pow (nth d.u i) 0=0:=by simp[pow]
    have il:mj d s M i=0:=by simp[mj,iC,hq]
    have hN:=aa9 hv 0 [];have hP:=Ho (nth d.u i) 0 [];rw[hp]at hP;by_cases hm:jN (nth d.u i) (nth s.u i) 0
    ·rw[aP hm]at hN
     have hx:ry (nth d.u i) (nth s.u i) 0=sH (nth s.u i) 0:=by simp[ry,hm]
     simp only[EH,decide_false,Bool.and_false]at hN;simp (config:={ maxSteps:=2000000 }) +contextual (disch:=omega) [-getElem?_pos,-List.length_eq_zero_iff,-Int.natCast_eq_zero,wrap64,bg (l:=d.u),bg (l:=s.u),he,hN,hP,sw];refine bV (i+1) (by simp[Cf,dW,qw,hq,hp,il,hx]) (by omega) (by omega)
    ·rw[aA hm]at hN
     have hx:ry (nth d.u i) (nth s.u i) 0=⟨0,1,(nth s.u i).out⟩:=by simp[ry,hm]
     simp (config:={ maxSteps:=2000000 }) +contextual (disch:=omega) [-getElem?_pos,-List.length_eq_zero_iff,-Int.natCast_eq_zero,wrap64,bg (l:=d.u),bg (l:=s.u),he,hN,hP,sw];refine bV (i+1) (by simp[Cf,dW,qw,hq,hp,il,hx]) (by omega) (by omega)
  ·obtain rfl:i=d.u.length:=by omega
   simp)
theorem Ll(g:List Gt)(s:List Gs)(lv w:Int):0≤nN g s lv w∧nN g s lv w≤17179869184:=by
 unfold nN;split
 ·rename_i h
  unfold kR at h;split at h
  ·rename_i h1;exact absurd h h1
  ·rename_i h1
   obtain⟨h1,h2,h3,h4,h5⟩:=HD (gW h1);have:=aaS (lv:=lv) (w:=w) h2 h1 h3 h4 (i:=g.length) (bR _);omega
 ·omega
def nj(d:Dm)(rel left t:Int):Int:=min rel (jS d left)-t
noncomputable def HQ(d:Dm)(s:Ds)(rel left lv t:Int):Int:=min (nN d.g s.g lv (nj d rel left t)) (jS d left-t)
theorem anH{d:Dm}(h:Dv d){s:Ds}{nv nr inf los tur spi ovr pw st rel left lv:Int}{nu:List Us}{ng:V}(hl:0≤left∧left≤4611686018427387904)(hr:0≤rel∧rel≤1073741824)(ht:0≤tur∧tur≤1099511627776) :
  bd F 225 [.bI 0 0] [wk d s nv nr nu ng ⟨inf,los,tur,spi,ovr,pw,st⟩ rel left lv] =
   some (.tuple [],[wk d s nv nr nu (.slice none 2 ((oD d.g s.g lv (nj d rel left tur)).map Gs.row)) ⟨inf,los,tur,HQ d s rel left lv tur,ovr,pw,st⟩ rel left lv]) :=
 bX rfl rfl (by
  obtain⟨G',hb⟩:=anm d.g s.g lv (nj d rel left tur);have hF:=Ll d.g s.g lv (nj d rel left tur);have hf:0≤jS d left∧jS d left≤4611686018427387904:=by
   have:=Lc h.r;unfold jS;omega
  have hW:min rel (jS d left)-tur=nj d rel left tur:=rfl;have hS:min (nN d.g s.g lv (nj d rel left tur)) (jS d left-tur)=HQ d s rel left lv tur:=rfl;have vO:=Q8 h.r (s:=s) (nv:=nv) (nr:=nr) (nu:=nu) (ng:=.slice none 2 ((oD d.g s.g lv (nj d rel left tur)).map Gs.row)) (r:=⟨inf,los,tur,spi,ovr,pw,st⟩) (rel:=rel) (left:=left) (lv:=lv) hl;generalize HQ d s rel left lv tur=S at hS;generalize nj d rel left tur=W at hS hF hb hW vO;simp (disch:=omega) [wrap64,Zg,Q8 h.r,hW,hb,hS,vO])
theorem anI{d:Dm}(h:Dv d){s:Ds}{nv nr inf los tur spi ovr pw st rel left lv:Int}{nu:List Us}{ng:V}(hl:0≤left∧left≤4611686018427387904)(ht:0≤tur∧tur≤1099511627776)(g5:-1099511627776≤spi∧spi≤1099511627776) :
  bd F 224 [.bI 0 0] [wk d s nv nr nu ng ⟨inf,los,tur,spi,ovr,pw,st⟩ rel left lv] =
   some (.tuple [],[wk d s (left-(tur+spi)-max (left-(tur+spi)-kD d) 0) (min (tur+spi) 1073741824) nu ng ⟨inf,los,tur,spi,max (left-(tur+spi)-kD d) 0,pw,st⟩ rel (left-(tur+spi)) lv]) :=
 bX rfl rfl (by
  have hC:=Ld h.r;simp (disch:=omega) [wrap64,Zf,aa5 h.r])
noncomputable def ew(s:Ds)(inf los:Int):Int:=s.v+inf-min los (s.v+inf)
noncomputable def fP(d:Dm)(s:Ds)(inf los rel:Int):Int:=dW (gM d s (kS d rel (ew s inf los))) d.u.length
noncomputable def lD(d:Dm)(s:Ds)(inf los rel:Int):Int:=HQ d s rel (ew s inf los) (jF d.r s.v) (fP d s inf los rel)
noncomputable def sN(d:Dm)(s:Ds)(inf los rel:Int):Int:=max (ew s inf los-(fP d s inf los rel+lD d s inf los rel)-kD d) 0
noncomputable def lF(d:Dm)(s:Ds)(inf los rel:Int):Dr:=⟨inf,min los (s.v+inf),fP d s inf los rel,lD d s inf los rel,sN d s inf los rel,dW (qw d s (kS d rel (ew s inf los))) d.u.length,dW (mj d s (kS d rel (ew s inf los))) d.u.length⟩
noncomputable def lQ(d:Dm)(s:Ds)(inf los rel:Int):Ds:=⟨ew s inf los-(fP d s inf los rel+lD d s inf los rel)-sN d s inf los rel,min (fP d s inf los rel+lD d s inf los rel) 1073741824,
 oG d s (kS d rel (ew s inf los)) d.u.length,oD d.g s.g (jF d.r s.v) (nj d rel (ew s inf los) (fP d s inf los rel))⟩
theorem aba{d:Dm}(h:Dv d){s:Ds}{inf los rel:Int}:0≤fP d s inf los rel∧fP d s inf los rel≤6442450944:=by
 have h1:=Lg (f:=gM d s (kS d rel (ew s inf los))) (n:=d.u.length) (fun i hi=>Q9 hi) d.u.length (bR _);have h2:=h.u;unfold fP;omega
theorem Rb{C:br}{args:List V}{f:FuncId}{fs:List FuncId}{G G':List aT}{r:V}{o:Option (List aT)}(h1:C f args G=some (r,G'))(h2:pB C args fs G'=o):pB C args (f::fs) G=o:=by
 simp only[pB,h1,h2]
abbrev wk0(d:Dm)(s:Ds)(inf los rel lv:Int):aT:=.cells
 [iA d.r.c,i64 d.r.d,i64 d.r.l,i64 d.r.f,i64 d.r.s,i64 d.r.t,kc d.u,jR d.g,i64 d.gr,i64 s.v,i64 s.rel,jO s.u,jH s.g,
  i64 0,i64 0,.e9 3 [],.e9 2 [],i64 inf,i64 los,i64 0,i64 0,i64 0,i64 0,i64 0,i64 rel,i64 0,i64 lv]
theorem anJ{d:Dm}(h:Dv d){s:Ds}(hs:g8 d s){inf los rel:Int}(hi:0≤inf∧inf≤1073741824)(hl:0≤los∧los≤1073741824)(hr:0≤rel∧rel≤1073741824) :
  ∃lf,bd F 218 [.bI 0 0] [wk0 d s inf los rel (jF d.r s.v)] =
   some (.tuple [],[wk d s (lQ d s inf los rel).v (lQ d s inf los rel).rel (lQ d s inf los rel).u (.slice none 2 ((lQ d s inf los rel).g.map Gs.row)) (lF d s inf los rel) rel lf (jF d.r s.v)]):=by
 suffices hh:∀Q:V→List aT→Prop,(∀lf,Q (.tuple []) [wk d s (lQ d s inf los rel).v (lQ d s inf los rel).rel (lQ d s inf los rel).u (.slice none 2 ((lQ d s inf los rel).g.map Gs.row)) (lF d s inf los rel) rel lf (jF d.r s.v)])→gU (bd F) 218 [.bI 0 0] [wk0 d s inf los rel (jF d.r s.v)] Q by
  obtain⟨_,G',h,lf,rfl,rfl⟩:=hh (fun v G'=>∃lf,v=.tuple []∧G'=[wk d s (lQ d s inf los rel).v (lQ d s inf los rel).rel (lQ d s inf los rel).u (.slice none 2 ((lQ d s inf los rel).g.map Gs.row)) (lF d s inf los rel) rel lf (jF d.r s.v)]) fun lf=>⟨lf,rfl,rfl⟩;exact⟨lf,h⟩
 intro Q hQ;refine aga rfl rfl ?_;have hv:=hs.1;have hC:=Ld h.r;simp (disch:=omega) [wrap64,Zc];have hL:0≤ew s inf los∧ew s inf los≤4611686018427387904:=by unfold ew;omega
 have hT:=aba h (s:=s) (inf:=inf) (los:=los) (rel:=rel);have hP:-1099511627776≤lD d s inf los rel∧lD d s inf los rel≤1099511627776:=by
  have h1:=Ll d.g s.g (jF d.r s.v) (nj d rel (ew s inf los) (fP d s inf los rel));have h2:0≤jS d (ew s inf los):=by unfold jS;omega
  unfold lD HQ;omega
 have h1:=anF h hs (nv:=0) (nr:=0) (inf:=inf) (los:=min los (s.v+inf)) (spi:=0) (ovr:=0) (rel:=rel) (left:=ew s inf los) (lv:=jF d.r s.v) (ng:=.e9 2 []) hL hr;have h2:=anH h (s:=s) (nv:=0) (nr:=0) (nu:=oG d s (kS d rel (ew s inf los)) d.u.length) (ng:=.e9 2 []) (inf:=inf) (los:=min los (s.v+inf)) (tur:=fP d s inf los rel) (spi:=0) (ovr:=0)
  (pw:=dW (qw d s (kS d rel (ew s inf los))) d.u.length) (st:=dW (mj d s (kS d rel (ew s inf los))) d.u.length) (rel:=rel) (left:=ew s inf los) (lv:=jF d.r s.v) hL hr (by omega)
 have h3:=anI h (s:=s) (nv:=0) (nr:=0) (nu:=oG d s (kS d rel (ew s inf los)) d.u.length) (ng:=.slice none 2 ((oD d.g s.g (jF d.r s.v) (nj d rel (ew s inf los) (fP d s inf los rel))).map Gs.row)) (inf:=inf) (los:=min los (s.v+inf)) (tur:=fP d s inf los rel) (spi:=lD d s inf los rel) (ovr:=0)
  (pw:=dW (qw d s (kS d rel (ew s inf los))) d.u.length) (st:=dW (mj d s (kS d rel (ew s inf los))) d.u.length) (rel:=rel) (left:=ew s inf los) (lv:=jF d.r s.v) hL (by omega) hP
 exact⟨_,Rb h1 (Rb h2 (Rb h3 rfl)),hQ _⟩
theorem anK(n:Int)(G:List aT):bd F 217 [i64 n] G=some (.bool (!decide (0≤n∧n≤1073741824)),G) :=
 bX rfl rfl (by
  simp[wrap64,Zb,dD])
theorem anL(l:List Int)(hl:l.length≤1000)(p:Int→Bool)(f:FuncId)(G:List aT)(h:∀n,bd F f [i64 n] G=some (.bool (p n),G)) :
  ∃k:Int,(decide (0≤k)=l.any p)∧bd F 113 [ints l,.fn f []] G=some (i64 k,G):=by
 suffices hh:∀Q:V→List aT→Prop,(∀k:Int,decide (0≤k)=l.any p→Q (i64 k) G)→gU (bd F) 113 [ints l,.fn f []] G Q by
  obtain⟨_,G',h,k,h1,rfl,rfl⟩:=hh (fun v G'=>∃k:Int,decide (0≤k)=l.any p∧v=i64 k∧G'=G) fun k hk=>⟨k,hk,rfl,rfl⟩;exact⟨k,h1,h⟩
 intro Q hQ;refine ic rfl rfl ?_;simp (disch:=omega) [-getElem?_pos,wrap64,XK];refine go_loop (fun i:Nat=>ajr (ints l) (.fn f []) l.length i G) (fun i=>i≤l.length∧∀x∈l.take i,p x=false) (fun i=>l.length-i) 0 rfl (by simp) ⟨by omega,by simp⟩ ?_
 rintro i ⟨hi,hp⟩;simp (disch:=omega) [-getElem?_pos,wrap64,XJ];refine bS (fun h5=>?_) (fun h5=>?_)
 ·have h5:i<l.length:=by omega
  simp (disch:=omega) [-getElem?_pos,wrap64,dV (l:=l),h];refine gT (fun h6=>?_) (fun h6=>?_)
  ·refine hQ _ ?_
   rw[fL (by omega)]
   exact(EM.2 ⟨_,rp h5,h6⟩).symm
  ·refine bV (i+1) (by simp) ⟨by omega,?_⟩ (by omega)
   intro x hx;rw[jQ h5]at hx;rcases qA.1 hx with hx|hx
   ·exact hp x hx
   ·rw[oK.1 hx];exact h6
 ·obtain rfl:i=l.length:=by omega
  refine hQ _ ?_;rw[pq]at hp;rw[show l.any p=false from mS.2 fun x hx=>by rw[hp x hx];simp]
  rfl
theorem Re(l:List Int)(hl:l.length≤1000)(p:Int→Bool)(f:FuncId)(G:List aT)(h:∀n,bd F f [i64 n] G=some (.bool (p n),G)) :
  bd F 68 [ints l,.fn f []] G=some (.bool (l.any p),G) :=
 bX rfl rfl (by
  obtain⟨k,h1,h2⟩:=anL l hl p f G h;simp[wrap64,W9,h2];exact h1)
def xe(n:Int):Bool:=!decide (0≤n∧n≤1073741824)
noncomputable def nO(d:Dm)(s:Ds)(inf los rel:Int):Int:=if dE d s≠0 then dE d s else if [inf,los,rel].any xe then 1 else 0
noncomputable def sO(d:Dm)(s:Ds)(inf los rel:Int):V:=.tuple (if nO d s inf los rel=0 then [dst (lQ d s inf los rel),dr (lF d s inf los rel),i64 0] else [.agg [i64 0,i64 0,.slice (some 0) 3 [],.slice (some 0) 2 []],dr ⟨0,0,0,0,0,0,0⟩,i64 (nO d s inf los rel)])
theorem anM(d:Dm)(s:Ds)(inf los rel:Int):∃G',bd F 202 [dm d,dst s,i64 inf,i64 los,i64 rel] []=some (sO d s inf los rel,G'):=by
 suffices h:∀Q:V→List aT→Prop,(∀G',Q (sO d s inf los rel) G')→gU (bd F) 202 [dm d,dst s,i64 inf,i64 los,i64 rel] [] Q by
  obtain⟨_,G',h,rfl⟩:=h (fun v G'=>v=sO d s inf los rel) fun _=>rfl;exact⟨G',h⟩
 intro Q hQ;refine ic rfl rfl ?_;have hc:bd F 68 [.slice none 1 [[i64 inf],[i64 los],[i64 rel]],.fn 217 []] []=some (.bool ([inf,los,rel].any xe),[]) :=
  Re [inf,los,rel] (by simp) xe 217 [] (fun n=>anK n [])
 unfold sO nO at hQ;generalize hx:[inf,los,rel].any xe=x at hc hQ;by_cases hd:dE d s=0
 ·obtain⟨qx,Dy⟩:=HN hd
  have wK:lvl d s=jF d.r s.v:=by simp[lvl,hd]
  simp only[hd,ne_eq,not_true_eq_false,if_false]at hQ;cases x with
  |true =>
   simp only[if_true,aA (show ¬ (1:Int)=0 by omega)]at hQ
   simp[wrap64,Kz,Q6,hd,wK,hc];exact hQ _
  |false =>
   simp only[xe,EL,EN,EF,L6,Su,jA]at hx;obtain⟨lf,hr⟩:=anJ qx Dy hx.1 hx.2.1 hx.2.2;simp[wrap64,Kz,Q6,hd,wK,hc,hr];exact hQ _
 ·simp only[hd,ne_eq,not_false_eq_true,if_true,if_false]at hQ
  simp[wrap64,Kz,Q6,hd];exact hQ _
end Go.Proofs.YtcelmhaoipbdiaaGreatDoor
namespace Go.Proofs.YtcelmhaoipbdiaaGreatDoor
set_option linter.all false
open Go.Vm
end Go.Proofs.YtcelmhaoipbdiaaGreatDoor
namespace Go.Proofs.YtcelmhaoipbdiaaGreatDoor
set_option linter.all false
open Go.Vm
theorem HR{c:List Pt}(h:Cv c):∀{i j:Nat},i≤j→j<c.length→(nth c i).x≤(nth c j).x:=by
 intro i j;induction j with
 |zero=>intro h1 _;obtain rfl:i=0:=by omega
        omega
 |succ j ih =>
  intro h1 h2;rcases cF i (j+1) with h3|h3
  ·have:=ih (by omega) (by omega)
   have:=h.up (j+1) (by omega) h2
   simp only[qC]at this;omega
  ·obtain rfl:i=j+1:=by omega
   omega
theorem abc{c:List Pt}(h:Cv c){y:Int}{i:Nat}(hi:i+1<c.length)(h1:(nth c i).y≤y)(h2:y<(nth c (i+1)).y):(nth c i).x≤BY c y i∧BY c y i≤(nth c (i+1)).x:=by
 have u1:=h.up (i+1) (by omega) hi
 simp only[qC]at u1;have a1:(y-(nth c i).y+1)*((nth c (i+1)).x-(nth c i).x)≤((nth c (i+1)).y-(nth c i).y)*((nth c (i+1)).x-(nth c i).x):=AQ (by omega) (by omega)
 have a2:0<(y-(nth c i).y+1)*((nth c (i+1)).x-(nth c i).x):=Mb (by omega) (by omega)
 unfold BY;rw[zA (by omega)]
 have b1:0≤((y-(nth c i).y+1)*((nth c (i+1)).x-(nth c i).x)-1) / ((nth c (i+1)).y-(nth c i).y):=EG (by omega) (by omega)
 have b2:((y-(nth c i).y+1)*((nth c (i+1)).x-(nth c i).x)-1) / ((nth c (i+1)).y-(nth c i).y)≤(nth c (i+1)).x-(nth c i).x:=by
  refine y9 (Int.ediv_le_ediv (by omega) (show _≤((nth c (i+1)).x-(nth c i).x)*((nth c (i+1)).y-(nth c i).y) by rw[Ip ((nth c (i+1)).x-(nth c i).x)];omega)) ?_
  rw[Int.mul_ediv_cancel _ (by omega)]
  exact wA _
 omega
theorem Rf{c:List Pt}(h:Cv c){y:Int}:∀(m i:Nat),i+m=c.length-1→(nth c i).y≤y→(nth c 0).x≤rf c y m i∧rf c y m i≤(nth c (c.length-1)).x
 |0,i,hi,_=>by
  have hp:=h.pos;have:=HR h (i:=0) (j:=c.length-1) (by omega) (by omega)
  unfold rf;omega
 |m+1,i,hi,hy=>by
  have hp:=h.pos;unfold rf;split
  ·rename_i h2
   have h3:=abc h (i:=i) (by omega) hy h2
   have:=HR h (i:=0) (j:=i) (by omega) (by omega)
   have:=HR h (i:=i+1) (j:=c.length-1) (by omega) (by omega)
   omega
  ·exact Rf h m (i+1) (by omega) (by omega)
theorem anN{r:Rs}(h:ij r=0)(v:Int):0≤jF r v∧jF r v≤16777216:=by
 have hs:=La h;have hc:=mf hs.c;have hp:=hc.pos;have:=hs.top;have h0:=hc.x0 0 hp;have h1:=HR hc (i:=0) (j:=r.c.length-1) (by omega) (by omega)
 unfold jF;split
 ·omega
 ·have:=Rf hc (y:=v) (r.c.length-1) 0 (by omega) (by omega)
  unfold w8;omega
theorem anO{d:Dm}{s:Ds}(h:Dv d)(hf:g8 d s):aE d.g s.g (jF d.r s.v)=0:=by
 have hr:=anN h.r s.v;have hg:=h.g;have hl:=hf.2.2.2.1;unfold aE;rw[aA (by omega),aA (by omega),aA (fun g=>g hf.2.2.2.2.2),aA (fun g=>g (qY fun i _ hi=>h.gv i (by omega))),aA (by omega)]
theorem Rg(l:List Int):∀i,i≤l.length→dW (fun j=>nth l j) i=(l.take i).sum
 |0,_=>by simp[dW]
 |i+1,h=>by
  rw[jQ (by omega),IE,← Rg l i (by omega)]
  simp[dW]
theorem Rh:∀i,dW (fun _=>0) i=0
 |0=>rfl
 |i+1=>by simp[dW,Rh i]
theorem anP{d:Dm}(s:Ds){m:Int}(hm:0≤m):dW (gM d s m) d.u.length≤m:=by
 by_cases he:ke d.u s.u d.gr m=0
 ·obtain⟨h1,h2⟩:=HP he
  have hl:=(B6 h1).1;have:gM d s m=fun j=>nth (g7 d.u s.u d.gr m) j:=by funext j;simp[gM,he]
  rw[this,Rg _ _ (by omega),kG (by omega)]
  exact h2
 ·have:gM d s m=fun _=>0:=by funext j;simp[gM,he]
  rw[this,Rh];exact hm
structure Stp(d:Dm)(s:Ds)(inf los rel:Int):Prop where
 L:ew s inf los=max 0 (s.v+inf-los)
 T0:0≤fP d s inf los rel
 Tr:fP d s inf los rel≤rel
 Tf:fP d s inf los rel≤jS d (ew s inf los)
 P0:0≤lD d s inf los rel
 sum:fP d s inf los rel+lD d s inf los rel≤jS d (ew s inf los)
 P1:lD d s inf los rel≤17179869184
 w0:0≤nj d rel (ew s inf los) (fP d s inf los rel)∧nj d rel (ew s inf los) (fP d s inf los rel)≤1073741824
theorem Ri{d:Dm}(h:Dv d){s:Ds}(hf:g8 d s){inf los rel:Int}(hi:0≤inf∧inf≤1073741824)(hl:0≤los∧los≤1073741824)(hr:0≤rel∧rel≤1073741824):Stp d s inf los rel:=by
 have hv:=hf.1;have hg:=h.gr;have sd:0≤jS d (ew s inf los):=by unfold jS;omega
 have hm:0≤kS d rel (ew s inf los):=by unfold kS;omega
 have h1:=anP (d:=d) s hm;have h2:=aba h (s:=s) (inf:=inf) (los:=los) (rel:=rel);have h3:fP d s inf los rel≤kS d rel (ew s inf los):=h1;have h4:=Ll d.g s.g (jF d.r s.v) (nj d rel (ew s inf los) (fP d s inf los rel));have h5:lD d s inf los rel=min (nN d.g s.g (jF d.r s.v) (nj d rel (ew s inf los) (fP d s inf los rel))) (jS d (ew s inf los)-fP d s inf los rel):=rfl;unfold kS at h3;refine⟨by unfold ew;omega,h2.1,by omega,by omega,by omega,by omega,by omega,?_⟩
 unfold nj;omega
end Go.Proofs.YtcelmhaoipbdiaaGreatDoor
namespace Go.Proofs.YtcelmhaoipbdiaaGreatDoor
set_option linter.all false
open Go.Vm
attribute [local simp] mK mL lN mJ
theorem anR(r:Dr)(ht:0≤r.tur∧r.tur≤1099511627776)(hs:0≤r.spi∧r.spi≤1099511627776)(ho:0≤r.ovr∧r.ovr≤1099511627776)(G:List aT):bd F 203 [dr r] G=some (i64 (r.tur+r.spi+r.ovr),G) :=
 bX rfl rfl (by
  simp (disch:=omega) [wrap64,Y0])
theorem anS{l:List Int}(h:l.length=5):∃a b c d e,l=[a,b,c,d,e]:=by
 match l,h with
 |[a,b,c,d,e],_=>exact⟨a,b,c,d,e,rfl⟩
theorem HS{l:List Int}{i j:Nat}{v:Int}(h:i<l.length):nth (l.set i v) j=if i=j then v else nth l j:=by
 simp only[nth,List.getD,km];by_cases e:i=j
 ·subst e;simp[h]
 ·simp[e]
theorem anT{c:List Pt}{x y dx dy:Int}(h:Cw c x y dx dy 1)(h2:2≤c.length)(hx:0≤x∧x≤1000)(hy:0≤y∧y≤1000)(KH:0≤dx∧dx≤1000)(KI:0≤dy∧dy≤1000)
  {a1 a2 a3 a4 a5:Int} (l1:x≤a1) (l2:a1≤a2) (l3:a2≤a3) (l4:a3≤a4) (l5:a4≤a5) (l6:a5≤(nth c (c.length-1)).x):ij ⟨c,a1,a2,a3,a4,a5⟩=0:=by
 have hc:=h.lz hx hy KH KI (by omega)
 have hf:=h.kb;have hu:=h.up hx hy KH KI (by omega) (c.length-1) (by omega)
 have h0:(nth c 0).x=x:=by rw[h.first]
 unfold ij;simp only;rw[aA (fun g=>g hc),aA (by omega),aA (by omega),aP,qY]
 ·intro i Ql sI
  have:i=1∨i=2∨i=3∨i=4∨i=5∨i=6:=by omega
  rcases this with rfl|rfl|rfl|rfl|rfl|rfl<;>simp only[pR,sB,nth,List.getD,EP,ER,IL]<;>refine aA ?_
  ·have:(nth c 0).x≤a1:=by omega
   simp only[nth,List.getD]at this;simp;omega
  ·simp;omega
  ·simp;omega
  ·simp;omega
  ·simp;omega
  ·simp only[nth,List.getD]at l6;simp;omega
 ·refine qY fun i Ql sI=>?_
  have:=h.step i (by omega) (by omega)
  exact aA (by omega)
theorem anU{l:List Int}{k:Nat}(hd:dA l k):∃r k',bd F 118 [.bI 0 0] [dk l k]=some (.agg r.cells,[dk l k'])∧dA l k'∧ij r=0∧(nth r.c (r.c.length-1)).y≤10000:=by
 suffices h:∀Q:V→List aT→Prop,(∀r k',dA l k'→ij r=0→(nth r.c (r.c.length-1)).y≤10000→Q (.agg r.cells) [dk l k'])→gU (bd F) 118 [.bI 0 0] [dk l k] Q by
  obtain⟨_,_,h,r,k',rfl,rfl,h1⟩:=h (fun v G=>∃r k',v=.agg r.cells∧G=[dk l k']∧dA l k'∧ij r=0∧(nth r.c (r.c.length-1)).y≤10000) fun r k' a b c=>⟨r,k',rfl,rfl,a,b,c⟩;exact⟨r,k',h,h1⟩
 intro Q hQ;refine ic rfl rfl ?_;obtain⟨a1,k1,n1,jq,Qy⟩:=gB hd 10 (by omega)
 obtain⟨a2,k2,n2,fG,Qz⟩:=gB jq 20 (by omega)
 obtain⟨c,k3,n3,mM,FG,hc⟩:=Qx fG (x:=100+a1) (y:=a2) (dx:=40) (dy:=200) true (by omega) (by omega) (by omega) (by omega)
 simp only[if_true]at hc;have hu:=hc.up (by omega) (by omega) (by omega) (by omega) (by omega)
 have hf:=hc.kb;have h0:(nth c 0).x=100+a1:=by rw[hc.first]
 have hu1:=hu (c.length-1) (by omega)
 have abd:(nth c 0).x≤(nth c (c.length-1)).x:=by
  have:∀i,i<c.length→(nth c 0).x≤(nth c i).x:=by
   intro i;induction i with
   |zero=>intro _;omega
   |succ i ih=>intro hi;have:=ih (by omega);have:=hc.step (i+1) (by omega) hi;simp only[qC]at this;omega
  exact this _ (by omega)
 have h3:((c.length:Int)-1).toNat=c.length-1:=by omega
 have h5:0≤(c.length:Int)-1:=by omega
 simp (disch:=omega) [-getElem?_pos,wrap64,XO,n1,n2,n3,bg (l:=c),h3,h5];refine go_loop (fun s:Nat×Int×List Int×Nat=>ajv (.bI 0 0) s.2.1 (nth c (c.length-1)).x s.1 [.b9,i64 0,i64 0,i64 0,i64 0,i64 0] [iA c,i64 0,i64 0,i64 0,i64 0,i64 0] (dN s.2.2.1) [dk l s.2.2.2])
  (fun s=>s.1≤5∧s.2.2.1.length=5∧(100+a1≤s.2.1∧s.2.1≤(nth c (c.length-1)).x)∧(∀j,j<s.1→100+a1≤nth s.2.2.1 j)∧(∀i j,i≤j→j<s.1→nth s.2.2.1 i≤nth s.2.2.1 j)∧(∀j,j<s.1→nth s.2.2.1 j≤s.2.1)∧dA l s.2.2.2)
  (fun s=>5-s.1) (0,100+a1,[0,0,0,0,0],k3) rfl (by simp[dN,h0]) ⟨by simp,by simp,⟨by simp,by simp only;omega⟩,by simp,by simp,by simp,mM⟩ ?_
 rintro⟨i,at',ls,k⟩ ⟨hi,HT,⟨b1,b2⟩,h6,h7,h8,hd⟩;simp only at hi HT b1 b2 h6 h7 h8 hd;simp (disch:=omega) [-getElem?_pos,wrap64,XN];refine bS (fun h9=>?_) (fun h9=>?_)
 ·have h9:i<5:=by omega
  have cf:¬ (5:Int)-i=0:=by omega
  have hq0:0≤((nth c (c.length-1)).x-at').tdiv (5-i):=xo (by omega) (by omega)
  have DG:((nth c (c.length-1)).x-at').tdiv (5-i)≤(nth c (c.length-1)).x-at':=AR _ (by omega)
  obtain⟨p,k4,n4,sJ,hp⟩:=gB hd (((nth c (c.length-1)).x-at').tdiv (5-i)+1) (by omega)
  simp (disch:=omega) [-getElem?_pos,wrap64,n4,cf];refine bV (i+1,at'+p,ls.set i (at'+p),k4) (by simp) ⟨by simp only;omega,by simp[HT],⟨by simp only;omega,by simp only;omega⟩,?_,?_,?_,sJ⟩ (by simp only;omega)
  ·intro j hj
   simp only at hj ⊢;rw[HS (by omega)]
   split
   ·omega
   ·exact h6 j (by omega)
  ·intro i' j Qh hj
   simp only at hj ⊢;rw[HS (by omega),HS (by omega)]
   by_cases e1:i=j
   ·rw[aP e1]
    split
    ·omega
    ·have:=h8 i' (by omega);omega
   ·rw[aA e1,aA (by omega)]
    exact h7 i' j Qh (by omega)
  ·intro j hj
   simp only at hj ⊢;rw[HS (by omega)]
   split
   ·omega
   ·have:=h8 j (by omega);omega
 ·obtain rfl:i=5:=by omega
  obtain⟨e1,e2,e3,e4,e5,rfl⟩:=anS HT;simp (disch:=omega) [-getElem?_pos,wrap64,dN];have q1:=h6 0 (by omega)
  have q2:=h7 0 1 (by omega) (by omega)
  have q3:=h7 1 2 (by omega) (by omega)
  have q4:=h7 2 3 (by omega) (by omega)
  have q5:=h7 3 4 (by omega) (by omega)
  have q6:=h8 4 (by omega)
  exact hQ ⟨c,e1,e2,e3,e4,e5⟩ k hd (anT hc FG (by omega) (by omega) (by omega) (by omega) q1 q2 q3 q4 q5 (y9 q6 b2)) (by simp only;omega)
structure Gw(l:List Rt):Prop where
 cw:∀i,i<l.length→Cw (nth l i).c 0 0 6 20 0
 lv:∀i,i<l.length→0≤(nth l i).lv∧(nth l i).lv≤1000
 up:∀i,0<i→i<l.length→(nth l (i-1)).lv<(nth l i).lv
theorem Gw.lz{l:List Rt}(h:Gw l)(h1:1≤l.length)(h2:l.length≤3){m v:Int}(hm:0≤m∧m≤1000)(hv:0≤v∧v≤1000):kd ⟨l,m,v⟩=0:=by
 unfold kd;simp only;rw[aA (by omega),aA (by omega),aA,aA (by omega)]
 refine fun hn=>hn (qY fun i _ hi=>?_);have hi:i<l.length:=by omega
 have hc:=h.cw i hi;have hl:=h.lv i hi;have hp:=hc.pos;have hf:=hc.kb;have hu:=hc.up (by omega) (by omega) (by omega) (by omega) (by omega) ((nth l i).c.length-1) (by omega)
 have h0:(nth (nth l i).c 0).x=0∧(nth (nth l i).c 0).y=0:=by rw[hc.first];exact⟨rfl,rfl⟩
 unfold oA;rw[aA (by omega),aA,aA (fun g=>g (hc.lz (by omega) (by omega) (by omega) (by omega) (by omega))),aA (fun g=>g h0),aA (by omega)]
 rintro⟨h3,h4⟩;have:=h.up i h3 hi;omega
theorem Gw.snoc{l:List Rt}(h:Gw l){r:Rt}(hc:Cw r.c 0 0 6 20 0)(hl:0≤r.lv∧r.lv≤1000)(hu:0<l.length→(nth l (l.length-1)).lv<r.lv):Gw (l++[r]):=by
 refine⟨fun i hi=>?_,fun i hi=>?_,fun i h0 hi=>?_⟩
 ·simp at hi
  rw[iS];split
  ·exact h.cw i (by assumption)
  ·rw[aP (by omega)];exact hc
 ·simp at hi
  rw[iS];split
  ·exact h.lv i (by assumption)
  ·rw[aP (by omega)];exact hl
 ·simp at hi
  rw[iS,iS,aP (by omega)]
  split
  ·exact h.up i h0 (by assumption)
  ·obtain rfl:i=l.length:=by omega
   rw[aP rfl];exact hu h0
abbrev Rk(g:Gt):V:=.agg [.slice (some 0) 2 (g.r.map Rt.row),i64 g.c9,i64 g.move]
theorem anV{l:List Int}{k:Nat}(hd:dA l k):∃g k',bd F 161 [.bI 0 0] [dk l k]=some (Rk g,[dk l k'])∧dA l k'∧kd g=0:=by
 suffices h:∀Q:V→List aT→Prop,(∀g k',dA l k'→kd g=0→Q (Rk g) [dk l k'])→gU (bd F) 161 [.bI 0 0] [dk l k] Q by
  obtain⟨_,_,h,r,k',rfl,rfl,h1⟩:=h (fun v G=>∃r k',v=Rk r∧G=[dk l k']∧dA l k'∧kd r=0) fun r k' a b=>⟨r,k',rfl,rfl,a,b⟩;exact⟨r,k',h,h1⟩
 intro Q hQ;refine ic rfl rfl ?_;obtain⟨a1,k1,n1,jq,Qy⟩:=gB hd 12 (by omega)
 obtain⟨a2,k2,n2,fG,Qz⟩:=gB jq 6 (by omega)
 obtain⟨a3,k3,n3,mM,ha3⟩:=gB fG 40 (by omega)
 obtain⟨a4,k4,n4,sJ,ha4⟩:=gB mM 3 (by omega)
 simp (disch:=omega) [wrap64,YB,n1,n2,n3,n4];refine go_loop (fun s:List Rt×Int×Int×Nat=>akt (.bI 0 0) s.2.1 s.2.2.1 [.b9,i64 0,i64 0] [.slice (some 1027) 2 (s.1.map Rt.row),i64 a1,i64 a2] s.1.length [dk l s.2.2.2])
  (fun s=>Gw s.1∧(s.1.length:Int)+s.2.2.1≤2 ∧ -1≤s.2.2.1∧(1≤s.1.length∨0≤s.2.2.1)∧(0≤s.2.1∧s.2.1≤130+50*s.1.length)∧(0<s.1.length→(nth s.1 (s.1.length-1)).lv<s.2.1)∧dA l s.2.2.2) (fun s=>(s.2.2.1+1).toNat)
  ([],90+a3,a4,k4) rfl (by simp) ⟨⟨by simp,by simp,by simp⟩,by simp;omega,by simp only;omega,by simp only;omega,by simp;omega,by simp,sJ⟩ ?_
 rintro⟨r,lv,m,k⟩ ⟨hr,h1,h2,h3,h4,h5,hd⟩;simp only at h1 h2 h3 h4 h5 hd hr;obtain⟨c,k5,n5,Hp,FG,hc⟩:=Qx hd (x:=0) (y:=0) (dx:=6) (dy:=20) false (by omega) (by omega) (by omega) (by omega)
 obtain⟨a6,k6,n6,Hq,ha6⟩:=gB Hp 40 (by omega)
 simp (disch:=omega) [wrap64,YA];refine bS (fun h6=>?_) (fun h6=>?_)
 ·simp (disch:=omega) [wrap64,n5,n6]
  refine bV (r++[⟨lv,c⟩],lv+(1+a6),m-1,k6) (by simp) ⟨hr.snoc hc (by simp only;omega) h5,by simp;omega,by simp only;omega,by simp,by simp;omega,by simp[iS];omega,Hq⟩ (by simp only;omega)
 ·exact hQ ⟨r,a1,a2⟩ k hd (hr.lz (by omega) (by omega) (by omega) (by omega))
abbrev Rl(l:List Gt):V:=.slice (some 0) 3 (l.map Gt.row)
abbrev Lm(l:List Gs):V:=.slice (some 0) 2 (l.map Gs.row)
structure Ln(a:List Gt)(b:List Gs):Prop where
 len:a.length=b.length
 gate:∀i,i<a.length→kd (nth a i)=0
 state:∀i,i<a.length→ni (nth a i) (nth b i)
theorem anW{l:List Int}{k:Nat}(hd:dA l k){m:Nat}(hm:m≤1000):∃a b k',bd F 120 [.bI 0 0,i64 m] [dk l k]=some (.tuple [Rl a,Lm b],[dk l k'])∧dA l k'∧Ln a b∧a.length≤m:=by
 suffices h:∀Q:V→List aT→Prop,(∀a b k',dA l k'→Ln a b→a.length≤m→Q (.tuple [Rl a,Lm b]) [dk l k'])→gU (bd F) 120 [.bI 0 0,i64 m] [dk l k] Q by
  obtain⟨_,_,h,a,b,k',rfl,rfl,h1⟩:=h (fun v G=>∃a b k',v=.tuple [Rl a,Lm b]∧G=[dk l k']∧dA l k'∧Ln a b∧a.length≤m) fun a b k' h1 h2 h3=>⟨a,b,k',rfl,rfl,h1,h2,h3⟩;exact⟨a,b,k',h,h1⟩
 intro Q hQ;refine ic rfl rfl ?_;obtain⟨n,k1,n1,jq,hn⟩:=gB hd (m+1) (by omega)
 simp (disch:=omega) [wrap64,XS,n1];refine go_loop (fun s:List Gt×List Gs×Int×Nat=>ajA (.bI 0 0) (.slice (some 1023) 3 (s.1.map Gt.row)) (.slice (some 1035) 2 (s.2.1.map Gs.row)) s.2.2.1 s.1.length s.2.1.length [dk l s.2.2.2])
  (fun s=>Ln s.1 s.2.1∧(s.1.length:Int)+s.2.2.1≤m∧0≤s.2.2.1∧dA l s.2.2.2) (fun s=>s.2.2.1.toNat) ([],[],n,k1) rfl (by simp) ⟨⟨rfl,by simp,by simp⟩,by simp;omega,by simp;omega,jq⟩ ?_
 rintro⟨a,b,n,k⟩ ⟨rh,h1,h2,hd⟩;simp only at rh h1 h2 hd;obtain⟨g,k2,n2,fG,hg⟩:=anV hd;have hgv:=(aaL hg).c9;obtain⟨p,k3,n3,mM,hp⟩:=gB fG (g.c9+1) (by omega)
 obtain⟨q,k4,n4,sJ,hq⟩:=gB mM 7 (by omega)
 have hl:=rh.len;simp (disch:=omega) [wrap64,XR];refine bS (fun h4=>?_) (fun h4=>?_)
 ·simp (disch:=omega) [wrap64,n2,n3,n4]
  refine bV (a++[g],b++[⟨p,decide (q=6)⟩],n-1,k4) (by simp) ⟨⟨by simp[hl],fun i hi=>?_,fun i hi=>?_⟩,by simp;omega,by simp;omega,sJ⟩ (by simp;omega)
  ·simp at hi
   rw[iS];split
   ·exact rh.gate i (by assumption)
   ·rw[aP (by omega)];exact hg
  ·simp at hi
   rw[iS,iS,← hl];split
   ·exact rh.state i (by assumption)
   ·rw[aP (by omega),aP (by omega)]
    show 0≤p∧p≤g.c9;omega
 ·exact hQ a b k hd rh (by omega)
structure Dw(d:Dm)(s:Ds):Prop where
 lz:fw d=0
 fit:g8 d s
 awu:Hs d.u s.u
 u2:d.u.length≤2
 g2:d.g.length≤2
 gr:1≤d.gr∧d.gr≤4
 rel:0≤s.rel∧s.rel≤29
 top:kD d≤10000
theorem anX{l:List Int}{k:Nat}(hd:dA l k):∃d s k',bd F 79 [.bI 0 0] [dk l k]=some (.tuple [dm d,dst s],[dk l k'])∧dA l k'∧Dw d s:=by
 suffices h:∀Q:V→List aT→Prop,(∀d s k',dA l k'→Dw d s→Q (.tuple [dm d,dst s]) [dk l k'])→gU (bd F) 79 [.bI 0 0] [dk l k] Q by
  obtain⟨_,_,h,d,s,k',rfl,rfl,h1⟩:=h (fun v G=>∃d s k',v=.tuple [dm d,dst s]∧G=[dk l k']∧dA l k'∧Dw d s) fun d s k' a b=>⟨d,s,k',rfl,rfl,a,b⟩;exact⟨d,s,k',h,h1⟩
 intro Q hQ;refine ic rfl rfl ?_;obtain⟨r,k1,n1,jq,hr,hry⟩:=anU hd;obtain⟨a,k2,n2,fG,ha⟩:=gB jq 4 (by omega)
 obtain⟨us,ss,k3,n3,mM,oa,J8⟩:=amj (m:=2) fG (by omega)
 obtain⟨gs,ts,k4,n4,sJ,pG,FU⟩:=anW (m:=2) mM (by omega)
 rw[show((2:Nat):Int)=2 from rfl]at n3 n4;have hv:=Q7 hr r.t;have qv:=Q2 hr;obtain⟨v,k5,n5,Hp,hv5⟩:=gB sJ (ig r.c r.t+1) (by omega)
 obtain⟨e,k6,n6,Hq,he6⟩:=gB Hp 30 (by omega)
 have hV:=KL r r.t [];simp (disch:=omega) [wrap64,Xf,n1,n2,n3,n4,hV,qv,hr,n5,n6];refine hQ ⟨r,us,gs,1+a⟩ ⟨v,e,ss,ts⟩ k6 Hq ?_;have hc:fw ⟨r,us,gs,1+a⟩=0:=by
  unfold fw;simp only;rw[aA (fun g=>g hr),aA (by omega),aA (fun g=>g (qY fun i _ hi=>(oa.unit i (by omega)).lz)),aA (fun g=>g (qY fun i _ hi=>pG.gate i (by omega))),aA (by omega)]
 refine⟨hc,⟨⟨hv5.1,?_⟩,?_,oa.len.symm,pG.len.symm,oa.state,pG.state⟩,oa,J8,FU,?_,?_,?_⟩
 ·show v≤ig r.c r.t
  omega
 ·simp only;omega
 ·simp only;omega
 ·simp only;omega
 ·have:=(D0 (mf (sC hr)) r.t).2
  show ig r.c r.t≤10000;omega
end Go.Proofs.YtcelmhaoipbdiaaGreatDoor
namespace Go.Proofs.YtcelmhaoipbdiaaGreatDoor
set_option linter.all false
open Go.Vm
theorem anZ{u:Un}{s:Us}(hv:e7 u s)(q:Int):e7 u (ry u s q):=by
 have h1:=hv.2.1;unfold ry;split
 ·rename_i hm
  refine⟨hv.1,?_,?_⟩
  ·unfold sH;simp only;split<;>omega
  ·unfold sH;simp only
   unfold jN at hm;by_cases hq:q=0
   ·exact .inl hq
   ·rw[aA hq]at hm;exact .inr ⟨hm.1,hm.2.2⟩
 ·exact⟨hv.1,by simp,.inl rfl⟩
theorem an0{lv w:Int}{g:List Gt}{s:List Gs}(hl:g.length=s.length)(hs:yK g s)(hv:∀i,i<g.length→Gv (nth g i)):∀i,i≤g.length →
  ∀j,j<g.length→0≤nth (bs lv w g s i).1 j∧nth (bs lv w g s i).1 j≤(nth g j).c9:=by
 intro i;induction i with
 |zero =>
  intro _ j hj;have hr:=Cb (hv j hj) (hs j hj);simp only[bs];rw[HF hj (by omega)]
  omega
 |succ i ih =>
  intro hi j hj;simp only[bs];rw[HS (by rw[oE hl];omega)]
  split
  ·rename_i e
   subst e;have hr:=Cb (hv i hj) (hs i hj);have ho:=anj (lv:=lv) (w:=w) (hv i hj) (hs i hj) (bs lv w g s i).2;omega
  ·exact ih (by omega) j hj
theorem an1{g:List Gt}{s:List Gs}{lv w:Int}(h:aE g s lv=0)(hw:0≤w∧w≤1073741824):(oD g s lv w).length=g.length∧yK g (oD g s lv w):=by
 obtain⟨h1,h2,h3,h4,h5⟩:=HD h;have hE:kR g s lv w=0:=by simp[kR,h,hw]
 have hS:oD g s lv w=mP (bs lv w g s g.length).1 s:=by unfold oD;rw[aP hE]
 have hb:=oE (lv:=lv) (w:=w) h2 g.length;rw[hS];refine⟨by simp[mP];omega,fun i hi=>?_⟩
 unfold mP;rw[D6 (by omega) (by omega)]
 exact an0 h2 h3 h4 g.length (bR _) i hi
theorem an2{d:Dm}{s:Ds}{m:Int}{n i:Nat}(hi:i<n):nth (oG d s m n) i=ry (nth d.u i) (nth s.u i) (gM d s m i):=by
 unfold oG;simp[nth,hi]
theorem an3{d:Dm}(h:Dv d){s:Ds}(hf:g8 d s){inf los rel:Int}(hi:0≤inf∧inf≤1073741824)(hl:0≤los∧los≤1073741824)(hr:0≤rel∧rel≤1073741824):g8 d (lQ d s inf los rel):=by
 have p:=Ri h hf hi hl hr;have hv:=hf.1;have hC:=Ld h.r;have hD:=Lc h.r;have hT:=p.T0;have hP:=p.P0;have hs:=p.sum;have hL:=p.L;have sd:jS d (ew s inf los)≤ew s inf los:=by unfold jS;omega
 have hO:sN d s inf los rel=max (ew s inf los-(fP d s inf los rel+lD d s inf los rel)-kD d) 0:=rfl;have hg:=an1 (anO h hf) p.w0;refine⟨?_,?_,Lh,hg.1,fun i hi=>?_,hg.2⟩
 ·show 0≤ew s inf los-(fP d s inf los rel+lD d s inf los rel)-sN d s inf los rel∧ew s inf los-(fP d s inf los rel+lD d s inf los rel)-sN d s inf los rel≤kD d
  omega
 ·show 0≤min (fP d s inf los rel+lD d s inf los rel) 1073741824∧min (fP d s inf los rel+lD d s inf los rel) 1073741824≤1073741824
  omega
 ·show e7 (nth d.u i) (nth (oG d s _ d.u.length) i)
  rw[an2 hi];exact anZ (hf.2.2.2.2.1 i hi) _
def an4(a b:Ds)(r:Dr):List Int:=[a.v,b.v,r.inf,r.los,r.tur,r.spi,r.ovr]
def abe(n:Int):Prop:=0≤n∧n≤274877906944
instance {n:Int}:Decidable (abe n):=inferInstanceAs (Decidable (_∧_))
def abf(a b:Ds)(r:Dr):Prop:=(∀i,i<7→abe (nth (an4 a b r) i))∧b.v=a.v+r.inf-r.los-r.tur-r.spi-r.ovr
noncomputable instance {a b:Ds} {r:Dr}:Decidable (abf a b r):=Classical.propDecidable _
end Go.Proofs.YtcelmhaoipbdiaaGreatDoor
namespace Go.Proofs.YtcelmhaoipbdiaaGreatDoor
set_option linter.all false
open Go.Vm
attribute [local simp] mK mL lN mJ
theorem abg{c:List Pt}(h:Cv c){y x:Int}{i:Nat}(hi:i+1<c.length)(h1:(nth c i).y≤y)(h2:y<(nth c (i+1)).y)(hx:(nth c i).x≤x):oZ c (i+1) x≤y↔x≤BY c y i:=by
 have u1:=h.up (i+1) (by omega) hi
 simp only[qC]at u1;have a2:0<(y-(nth c i).y+1)*((nth c (i+1)).x-(nth c i).x):=Mb (by omega) (by omega)
 have a3:0≤((nth c (i+1)).y-(nth c i).y)*(x-(nth c i).x):=CF (by omega) (by omega)
 unfold oZ BY;simp only[qC];rw[zA a3,zA (by omega)]
 have e1:((nth c (i+1)).y-(nth c i).y)*(x-(nth c i).x) / ((nth c (i+1)).x-(nth c i).x)<y-(nth c i).y+1↔((nth c (i+1)).y-(nth c i).y)*(x-(nth c i).x)<(y-(nth c i).y+1)*((nth c (i+1)).x-(nth c i).x) :=
  Int.ediv_lt_iff_lt_mul (by omega)
 have e2:x-(nth c i).x≤((y-(nth c i).y+1)*((nth c (i+1)).x-(nth c i).x)-1) / ((nth c (i+1)).y-(nth c i).y)↔(x-(nth c i).x)*((nth c (i+1)).y-(nth c i).y)≤(y-(nth c i).y+1)*((nth c (i+1)).x-(nth c i).x)-1 :=
  L9 (by omega)
 rw[Ip (x-(nth c i).x)]at e2;constructor
 ·intro g
  have:=e2.2 (by have:=e1.1 (by omega);omega)
  omega
 ·intro g
  have:=e1.2 (by have:=e2.1 (by omega);omega)
  omega
theorem Ro{c:List Pt}(h:Cv c){i:Nat}(hi:i<c.length):ig c (nth c i).x=(nth c i).y:=by
 rcases mw i with rfl|h0
 ·exact BW h (wA _)
 ·have u:=h.up i h0 hi
  rw[w7 h h0 hi (by omega) (wA _),oZ,Ir _ (by omega)]
  omega
theorem abh{c:List Pt}(h:Cv c){y:Int}:∀(m i:Nat),i+m=c.length-1→(nth c i).y≤y→ig c (rf c y m i)≤y∧∀x,rf c y m i<x→x≤(nth c (c.length-1)).x→y<ig c x
 |0,i,hi,hy=>by
  have hp:=h.pos;unfold rf;rw[Ro h (by omega)]
  obtain rfl:i=c.length-1:=by omega
  exact⟨hy,fun x a b=>by omega⟩
 |m+1,i,hi,hy=>by
  have hp:=h.pos;unfold rf;split
  ·rename_i h2
   have hr:=abc h (i:=i) (by omega) hy h2
   refine⟨?_,fun x a b=>?_⟩
   ·rw[w7 h (i:=i+1) (by omega) (by omega) (by simpa using hr.1) hr.2]
    exact(abg h (by omega) hy h2 hr.1).2 (wA _)
   ·rcases Int.lt_or_le (nth c (i+1)).x x with h3|h3
    ·have:=QU h (show(nth c (i+1)).x≤x by omega)
     rw[Ro h (by omega)]at this
     omega
    ·rw[w7 h (i:=i+1) (by omega) (by omega) (by simp only[qC];omega) h3]
     have:=not_congr (abg h (x:=x) (by omega) hy h2 (by omega))
     omega
  ·exact abh h m (i+1) (by omega) (by omega)
theorem abi{c:List Pt}(h:fW c=0)(y:Int)(G:List aT) :
  bd F 91 [iA c,i64 y] G=some (.tuple [i64 (if y<(nth c 0).y then 0 else w8 c y),.bool (decide ((nth c 0).y≤y)),i64 0],G) :=
 bX rfl rfl (by
  have hc:=mf h;have hp:=hc.pos;have hl:=hc.kb;have h3:((c.length:Int)-1).toNat=c.length-1:=by omega
  have h4:0≤(c.length:Int)-1:=by omega
  have h5:c.length-1<c.length:=by omega
  have x0:=hc.x0 0 hp;have x1:=hc.x0 (c.length-1) h5;have I6:=HR hc (i:=0) (j:=c.length-1) (by omega) h5
  have hA:=fun x=>ZS hc x [];have Rp:=hA (nth c 0).x;rw[Ro hc hp]at Rp;by_cases h1:y<(nth c 0).y
  ·have h2:¬ (nth c 0).y≤y:=by omega
   simp (disch:=omega) [-getElem?_pos,wrap64,Pm,lP,h,bg (l:=c),hp,h3,h4,h5,Rp,h1,h2]
  ·have h2:(nth c 0).y≤y:=by omega
   have Rq:=abh hc (y:=y) (c.length-1) 0 (by omega) h2
   have Ru:=Rf hc (y:=y) (c.length-1) 0 (by omega) h2
   have dg:rf c y (c.length-1) 0=w8 c y:=rfl;rw[dg]at Rq Ru;simp (disch:=omega) [-getElem?_pos,wrap64,Pm,lP,h,bg (l:=c),hp,h3,h4,h5,Rp,h1,h2];refine go_loop (fun s:Int×Int=>aiP (iA c) y s.1 s.2 G) (fun s=>(nth c 0).x≤s.1∧s.1≤w8 c y∧w8 c y≤s.2∧s.2≤(nth c (c.length-1)).x) (fun s=>(s.2-s.1).toNat) ((nth c 0).x,(nth c (c.length-1)).x) rfl (by simp) ⟨by simp,Ru.1,Ru.2,by simp⟩ ?_
   rintro⟨lo,hi⟩ ⟨b1,b2,b3,b4⟩;simp only at b1 b2 b3 b4;have d1:0≤(hi-lo).tdiv 2:=xo (by omega) (by omega)
   have d2:(hi-lo).tdiv 2=(hi-lo) / 2:=zA (by omega)
   have hAm:=hA (hi-(hi-lo).tdiv 2);simp (disch:=omega) [-getElem?_pos,wrap64,Xo,hAm];refine bS (fun h6=>?_) (fun h6=>?_)
   ·refine bS (fun h7=>?_) (fun h7=>?_)
    ·refine bV (hi-(hi-lo).tdiv 2,hi) (by simp) ⟨by simp only;omega,?_,b3,b4⟩ (by simp only;omega)
     simp only;refine Is.1 fun h8=>?_;have:=Rq.2 _ h8 (by omega)
     omega
    ·refine bV (lo,hi-(hi-lo).tdiv 2-1) (by simp) ⟨b1,b2,?_,by simp only;omega⟩ (by simp only;omega)
     simp only;refine Is.1 fun h8=>?_;have:=QU hc (show hi-(hi-lo).tdiv 2≤w8 c y by omega)
     have:=Rq.1;omega
   ·have:lo=w8 c y:=by omega
    subst this;simp (disch:=omega) [-getElem?_pos,wrap64,h1,h2])
theorem an6{r:Rs}(h:ij r=0){v:Int}(hv:0≤v∧v≤274877906944)(G:List aT):bd F 48 [.agg r.cells,i64 v] G=some (.tuple [i64 (jF r v),i64 0],G) :=
 bX rfl rfl (by
  have hp:=(mf (sC h)).pos;have ld:(decide (0≤v)&&decide (v≤274877906944))=true:=by simp;omega
  by_cases h1:v<(nth r.c 0).y
  ·have h2:¬ (nth r.c 0).y≤v:=by omega
   simp[-getElem?_pos,wrap64,Pd,Au,h,cV,ld,abi (sC h),h1,h2,bg (l:=r.c),hp,jF]
  ·have h2:(nth r.c 0).y≤v:=by omega
   simp[-getElem?_pos,wrap64,Pd,Au,h,cV,ld,abi (sC h),h1,h2,bg (l:=r.c),hp,jF])
theorem abj{d:Dm}(h:ij d.r=0):kD d≤274877906944:=by
 have hc:=mf (sC h);have h1:=D0 hc d.r.t;have hp:=hc.pos;have h3:=hc.y0 (d.r.c.length-1) (by omega)
 have:kD d=ig d.r.c d.r.t:=rfl;omega
theorem HU(d:Dm)(s:Ds)(G:List aT):bd F 17 [dm d,dst s] G=some (.tuple [i64 (lvl d s),i64 (dE d s)],G) :=
 bX rfl rfl (by
  by_cases hd:dE d s=0
  ·obtain⟨qx,hf⟩:=HN hd
   have hv:=hf.1;have hC:=abj qx.r;simp (disch:=omega) [wrap64,O5,aa8,hd,an6 qx.r,hv,lvl]
  ·simp (disch:=omega) [wrap64,O5,aa8,hd,lvl])
theorem abk:∀{a:List Un} {E:List Int} {u:Un} {q:Int},a.length=E.length→iH (a++[u]) (E++[q])=iH a E+pow u q
 |[],[],_,_,_=>by simp[iH]
 |u::a,q::E,w,z,h=>by
  have:=abk (a:=a) (E:=E) (u:=w) (q:=z) (by simpa using h)
  simp only[tL,iH,this];omega
 |[],_::_,_,_,h=>by simp at h
 |_::_,[],_,_,h=>by simp at h
theorem abl:∀{a:List Us} {E:List Int} {u:Us} {q:Int},a.length=E.length→iI (a++[u]) (E++[q])=iI a E+iC u q
 |[],[],_,_,_=>by simp[iI]
 |u::a,q::E,w,z,h=>by
  have:=abl (a:=a) (E:=E) (u:=w) (q:=z) (by simpa using h)
  simp only[tL,iI,this];omega
 |[],_::_,_,_,h=>by simp at h
 |_::_,[],_,_,h=>by simp at h
theorem abm{us:List Un}{F:List Int}(h:F.length=us.length):∀i,i≤us.length→dW (fun j=>pow (nth us j) (nth F j)) i=iH (us.take i) (F.take i)
 |0,_=>by simp[dW,iH]
 |i+1,hi=>by
  rw[jQ (l:=us) (by omega),jQ (l:=F) (by omega),abk (by simp;omega),← abm h i (by omega)]
  rfl
theorem abn{ss:List Us}{F:List Int}(h:F.length=ss.length):∀i,i≤ss.length→dW (fun j=>iC (nth ss j) (nth F j)) i=iI (ss.take i) (F.take i)
 |0,_=>by simp[dW,iI]
 |i+1,hi=>by
  rw[jQ (l:=ss) (by omega),jQ (l:=F) (by omega),abl (by simp;omega),← abn h i (by omega)]
  rfl
theorem an7{u:Un}{s:Us}(hv:e7 u s):ry u s 0=⟨0,if 0<s.cg then 1 else min 1000 (s.since+1),s.out⟩:=by
 have hc:=hv.1;have hf:0≤s.cg:=by
  rcases hv.2.2 with h | ⟨_,h⟩
  ·omega
  ·have:=KN hc h;omega
 unfold ry;by_cases h1:0<s.cg
 ·rw[aP h1]
  split
  ·unfold sH
   rw[aA (by simp[h1])]
  ·rfl
 ·rw[aA h1,aP]
  ·unfold sH
   rw[aP (by simp[h1])]
  ·unfold jN
   rw[aP rfl];exact fun h=>absurd h h1
theorem an8{d:Dm}(qx:Dv d){s:Ds}(hf:g8 d s){q:Int}(hq:0≤q∧q≤1073741824)(G:List aT) :
  bd F 103 [dm d,dst s,i64 q] G=some (.tuple [Hr (oG d s (min q (200*d.gr)) d.u.length),i64 (dW (gM d s (min q (200*d.gr))) d.u.length),i64 (dW (qw d s (min q (200*d.gr))) d.u.length),i64 (dW (mj d s (min q (200*d.gr))) d.u.length)],G) :=
 bX rfl rfl (by
  obtain⟨t,hb⟩:=amY d.u s.u d.gr (min q (200*d.gr)) [];have hgr:=qx.gr;have Q4:=qx.u;have xN:=hf.2.2.1;generalize hM:min q (200*d.gr)=M at *;by_cases he:ke d.u s.u d.gr M=0
  ·obtain⟨h1,h2⟩:=HP he
   have hl:=B6 h1;have hV:=aae d.u s.u (g7 d.u s.u d.gr M) (by omega) []
   rw[aax h1]at hV;simp only[D3]at hV;have f1:gM d s M=fun j=>nth (g7 d.u s.u d.gr M) j:=by funext j;simp[gM,he]
   have f2:qw d s M=fun j=>pow (nth d.u j) (nth (g7 d.u s.u d.gr M) j):=by funext j;simp only[qw,f1]
   have f3:mj d s M=fun j=>iC (nth s.u j) (nth (g7 d.u s.u d.gr M) j):=by funext j;simp only[mj,f1]
   have e1:dW (gM d s M) d.u.length=(g7 d.u s.u d.gr M).sum:=by rw[f1,Rg _ _ (by omega),kG (by omega)]
   have e2:dW (qw d s M) d.u.length=iH d.u (g7 d.u s.u d.gr M):=by rw[f2,abm hl.1 _ (bR _),kG (by omega),kG (by omega)]
   have e3:dW (mj d s M) d.u.length=iI s.u (g7 d.u s.u d.gr M):=by rw[f3,abn hl.2 _ (by omega),kG (by omega),kG (by omega)]
   rw[e1,e2,e3];generalize hE:g7 d.u s.u d.gr M=E at *;generalize iH d.u E=PW at *;generalize iI s.u E=ST at *;generalize E.sum=SU at *;simp (disch:=omega) [-getElem?_pos,wrap64,Pv,hM,hb,he,hV];refine go_loop (fun i:Nat=>aiZ (.slice none 1 (E.map fun n=>[i64 n])) (.slice (some 1063) 3 ((oG d s M i).map Us.row)) SU PW ST (kc d.u) d.u.length i s.row i G) (fun i=>i≤d.u.length) (fun i=>d.u.length-i) 0 rfl (by simp[oG]) (by omega) ?_
   intro i hi;have sw:=Lh (d:=d) (s:=s) (m:=M) (n:=i);simp (disch:=omega) [-getElem?_pos,wrap64,Xw];refine bS (fun h5=>?_) (fun h5=>?_)
   ·have h5:i<d.u.length:=by omega
    have h6:i<s.u.length:=by omega
    have h7:i<E.length:=by omega
    have hv:e7 (nth d.u i) (nth s.u i):=hf.2.2.2.2.1 i h5;have ky:gM d s M i=nth E i:=by rw[f1]
    have hm:jN (nth d.u i) (nth s.u i) (nth E i):=(D7.1 (Lf h1 i h5)).2.2;have hN:=Qr (nth d.u i) (nth s.u i) (nth E i) [];have hnE:sG (nth d.u i) (nth s.u i) (nth E i)=0:=by rw[anD hv,aP hm]
    rw[aP hnE]at hN;have hx:ry (nth d.u i) (nth s.u i) (nth E i)=sH (nth s.u i) (nth E i):=by simp[ry,hm]
    simp (disch:=omega) [-getElem?_pos,wrap64,bg (l:=d.u),bg (l:=s.u),dV (l:=E),hN,sw];refine bV (i+1) (by simp[Cf,ky,hx]) (by omega) (by omega)
   ·obtain rfl:i=d.u.length:=by omega
    simp (disch:=omega) [-getElem?_pos,wrap64,sw]
  ·have f1:gM d s M=fun _=>0:=by funext j;simp[gM,he]
   have f2:qw d s M=fun _=>0:=by funext j;simp[qw,f1,pow]
   have f3:mj d s M=fun _=>0:=by funext j;simp[mj,f1,iC]
   rw[f1,f2,f3,Rh];simp (disch:=omega) [-getElem?_pos,wrap64,Pv,hM,hb,he];refine go_loop (fun i:Nat=>aiW (.slice (some 1063) 3 ((oG d s M i).map Us.row)) (jO s.u) s.u.length i i G) (fun i=>i≤s.u.length) (fun i=>s.u.length-i) 0 rfl (by simp[oG]) (by omega) ?_
   intro i hi;have sw:=Lh (d:=d) (s:=s) (m:=M) (n:=i);simp (disch:=omega) [-getElem?_pos,wrap64,Xv];refine bS (fun h5=>?_) (fun h5=>?_)
   ·have h5:i<d.u.length:=by omega
    have h6:i<s.u.length:=by omega
    have hv:e7 (nth d.u i) (nth s.u i):=hf.2.2.2.2.1 i h5;have rz:=hv.2.1;have ky:gM d s M i=0:=by rw[f1]
    have hx:=an7 hv;by_cases h7:0<(nth s.u i).cg
    ·rw[aP h7]at hx
     simp (disch:=omega) [-getElem?_pos,wrap64,bg (l:=s.u),h7,sw];refine bV (i+1) (by simp[Cf,ky,hx]) (by omega) (by omega)
    ·rw[aA h7]at hx
     simp (disch:=omega) [-getElem?_pos,wrap64,bg (l:=s.u),h7,sw];refine bV (i+1) (by simp[Cf,ky,hx]) (by omega) (by omega)
   ·obtain rfl:i=s.u.length:=by omega
    rw[xN]at sw ⊢;simp (disch:=omega) [-getElem?_pos,wrap64,sw])
end Go.Proofs.YtcelmhaoipbdiaaGreatDoor
namespace Go.Proofs.YtcelmhaoipbdiaaGreatDoor
set_option linter.all false
open Go.Vm
theorem awx(lv w:Int):nN [] [] lv w=0:=by
 unfold nN;split
 ·simp[bs,HE]
 ·rfl
end Go.Proofs.YtcelmhaoipbdiaaGreatDoor
namespace Go.Proofs.YtcelmhaoipbdiaaGreatDoor
set_option linter.all false
open Go.Vm
end Go.Proofs.YtcelmhaoipbdiaaGreatDoor
