/- Parts of the proof, joined: Dam2, Dam3, Dam4, Gat8, Dam5, Dam6, Mk3, Mk4, Dam7, Ref4, Ref5, Dmo1, Dob1. -/
import Derived.Test.YtcelmhaoipbdiaaGreatDc
namespace Go.Proofs.YtcelmhaoipbdiaaGreat
set_option linter.all false
open Go.Vm
attribute [local simp] ly lz kF lx
structure Sv(r:Rs):Prop where
 c:gT r.c=0
 two:2≤r.c.length
 top:(nth r.c (r.c.length-1)).x≤16777216
 up:∀i,1≤i→i<r.c.length→(nth r.c (i-1)).y<(nth r.c i).y
 d:(nth r.c 0).x≤r.d
 l:r.d≤r.l
 f:r.l≤r.f
 s:r.f≤r.s
 t:r.s≤r.t
 last:r.t≤(nth r.c (r.c.length-1)).x
theorem NJ{r:Rs}(h:iS r=0):Sv r:=by
 have hc:=tj h;unfold iS at h;rw[av (by omega)]at h
 split at h
 ·cases h
 split at h
 ·cases h
 split at h
 ·rename_i h1 h2 h3
  have hp:=u7 hc;have up:∀i,1≤i→i<r.c.length→(nth r.c (i-1)).y<(nth r.c i).y:=fun i a b=>by
   have:=sj h3 i a (by omega)
   unfold tU at this;split at this
   ·cases this
   ·omega
  have lv:∀i,1≤i→i<7→nth (tV r) (i-1)≤nth (tV r) i:=fun i a b=>by
   have:=sj h i a (by omega)
   unfold qZ at this;split at this
   ·cases this
   ·omega
  have l1:=lv 1 (by omega) (by omega)
  have l2:=lv 2 (by omega) (by omega)
  have l3:=lv 3 (by omega) (by omega)
  have l4:=lv 4 (by omega) (by omega)
  have l5:=lv 5 (by omega) (by omega)
  have l6:=lv 6 (by omega) (by omega)
  exact⟨hc,by omega,by omega,up,l1,l2,l3,l4,l5,l6⟩
 ·cases h
theorem afE{r:Rs}(h:iS r=0){l:Int}(h1:(nth r.c 0).x≤l)(h2:l≤(nth r.c (r.c.length-1)).x):nq r l=0:=by
 have v:=NJ h;have hp:=u7 v.c;have:=(m6 v.c).x0 0 hp;have:=v.top;unfold nq;rw[av (by omega),aK (by omega)]
def lV(d:Dm):Int:=iR d.r.c d.r.t
def Gz(d:Dm):Int:=iR d.r.c d.r.d
theorem UT{r:Rs}(h:iS r=0):nq r r.t=0:=by
 have v:=NJ h;have:=v.d;have:=v.l;have:=v.f;have:=v.s;have:=v.t;exact afE h (by omega) v.last
theorem aub{r:Rs}(h:iS r=0):nq r r.d=0:=by
 have v:=NJ h;have:=v.last;have:=v.l;have:=v.f;have:=v.s;have:=v.t;exact afE h v.d (by omega)
def iU(d:Dm)(s:Ds):Prop:=(0≤s.v∧s.v≤lV d)∧(0≤s.rel∧s.rel≤1073741824)∧s.u.length=d.u.length∧s.g.length=d.g.length∧D5 d.u s.u∧AQ d.g s.g
noncomputable instance {d:Dm} {s:Ds}:Decidable (iU d s):=Classical.propDecidable _
noncomputable def dE(d:Dm)(s:Ds):Int:=if fW d≠0 then fW d else if iU d s then 0 else 3
structure Dv(d:Dm):Prop where
 r:iS d.r=0
 u:d.u.length≤6
 g:d.g.length≤8
 uv:∀i,i<d.u.length→iG (nth d.u i)=0
 gv:∀i,i<d.g.length→lH (nth d.g i)=0
 gr:1≤d.gr∧d.gr≤1073741824
theorem yT{d:Dm}(h:fW d=0):Dv d:=by
 unfold fW at h;split at h
 ·rename_i h1;exact absurd h h1
 split at h
 ·cases h
 split at h
 ·rename_i h1;exact absurd h h1
 split at h
 ·rename_i h1;exact absurd h h1
 split at h
 ·cases h
 rename_i h1 h2 h3 h4 h5;have h3:uE d.u=0:=iu h3;have h4:gE d.g=0:=iu h4;exact⟨iu h1,by omega,by omega,fun i hi=>sj h3 i (by omega) (by omega),fun i hi=>sj h4 i (by omega) (by omega),by omega⟩
theorem afF{d:Dm}(h:iS d.r=0)(G:List aP):aX F 187 [dm d] G=some (i64 (lV d),G) :=
 bL rfl rfl (by
  simp[wrap64,adG,Jy (m6 (tj h)),lV])
theorem UU{d:Dm}(h:Dv d)(s:Ds)(G:List aP):aX F 164 [dm d,dst s] G=some (.bool (decide (iU d s)),G) :=
 bL rfl rfl (by
  obtain⟨v,rel,su,sg⟩:=s;generalize hW:decide (iU d ⟨v,rel,su,sg⟩)=W;have no:¬ iU d ⟨v,rel,su,sg⟩→W=false:=fun hn=>by rw[←hW];simp[hn]
  unfold iU at no;simp only at no;have UW:=h.u;have hg8:=h.g;have hc:=afF h.r;by_cases h1:0≤v∧v≤lV d
  ·have a1:(decide (0≤v)&&decide (v≤lV d))=true:=by simp;omega
   have a2:(!decide (0≤v) || !decide (v≤lV d))=false:=by simp;omega
   by_cases h2:0≤rel∧rel≤1073741824
   ·have b1:(decide (0≤rel)&&decide (rel≤1073741824))=true:=by simp;omega
    have b2:(!decide (0≤rel) || !decide (rel≤1073741824))=false:=by simp;omega
    by_cases h3:su.length=d.u.length
    ·have c1:(su.length:Int)=d.u.length:=by omega
     by_cases h4:sg.length=d.g.length
     ·have d1:(sg.length:Int)=d.g.length:=by omega
      simp (disch:=omega) [-getElem?_pos,wrap64,u5,hc,dM,a1,a2,b1,b2,c1,d1];refine go_loop (fun i:Nat=>arf (lG d.u) d.u.length i d.row [i64 v,i64 rel,jJ su,jw sg] G) (fun i=>i≤d.u.length∧∀j,j<i→fB (nth d.u j) (nth su j)) (fun i=>d.u.length-i) 0 rfl (by simp) ⟨by omega,by omega⟩ ?_
      rintro i ⟨hi,hv⟩;simp (disch:=omega) [-getElem?_pos,wrap64,adg];refine bB (fun h5=>?_) (fun h5=>?_)
      ·have h5:i<d.u.length:=by omega
       have AS:i<su.length:=by omega
       by_cases h6:fB (nth d.u i) (nth su i)
       ·simp (disch:=omega) [-getElem?_pos,wrap64,aY (l:=d.u),aY (l:=su),Ca,yP,h6]
        refine bu (i+1) (by simp) ⟨by omega,fun j hj=>?_⟩ (by omega)
        rcases cM j i with h7|h7
        ·exact hv j h7
        ·rwa [show j=i by omega]
       ·simp (disch:=omega) [-getElem?_pos,wrap64,aY (l:=d.u),aY (l:=su),Ca,yP,h6]
        exact no (fun h=>h6 (h.2.2.2.2.1 i h5))
      ·obtain rfl:i=d.u.length:=by omega
       refine go_loop (fun i:Nat=>ari (kX d.g) d.g.length i [i64 v,i64 rel,jJ su,jw sg] G) (fun i=>i≤d.g.length∧∀j,j<i→ot (nth d.g j) (nth sg j)) (fun i=>d.g.length-i) 0 rfl (by simp) ⟨by omega,by omega⟩ ?_
       rintro i ⟨hi,hg⟩;simp (disch:=omega) [-getElem?_pos,wrap64,adh];refine bB (fun h5=>?_) (fun h5=>?_)
       ·have h5:i<d.g.length:=by omega
        have AS:i<sg.length:=by omega
        by_cases h6:ot (nth d.g i) (nth sg i)
        ·have iI:(!decide (0≤(nth sg i).o) || !decide ((nth sg i).o≤(nth d.g i).dC))=false:=by simp;exact h6
         simp (disch:=omega) [-getElem?_pos,wrap64,aY (l:=d.g),aY (l:=sg),dM,Cl,h6,iI];refine bu (i+1) (by simp) ⟨by omega,fun j hj=>?_⟩ (by omega)
         rcases cM j i with h7|h7
         ·exact hg j h7
         ·rwa [show j=i by omega]
        ·have iI:(!decide (0≤(nth sg i).o) || !decide ((nth sg i).o≤(nth d.g i).dC))=true:=by
          have:¬ (0≤(nth sg i).o∧(nth sg i).o≤(nth d.g i).dC):=h6;simp;omega
         simp (disch:=omega) [-getElem?_pos,wrap64,aY (l:=d.g),aY (l:=sg),dM,Cl,h6,iI];exact no (fun h=>h6 (h.2.2.2.2.2 i h5))
       ·obtain rfl:i=d.g.length:=by omega
        rw[←hW];have:iU d ⟨v,rel,su,sg⟩:=⟨h1,h2,h3,h4,hv,hg⟩;simp[this]
     ·have d1:¬ (sg.length:Int)=d.g.length:=by omega
      simp (disch:=omega) [-getElem?_pos,wrap64,u5,hc,dM,a1,a2,b1,b2,c1,d1];exact no (fun h=>h4 h.2.2.2.1)
    ·have c1:¬ (su.length:Int)=d.u.length:=by omega
     simp (disch:=omega) [-getElem?_pos,wrap64,u5,hc,dM,a1,a2,b1,b2,c1];exact no (fun h=>h3 h.2.2.1)
   ·have b1:(decide (0≤rel)&&decide (rel≤1073741824))=false:=by simp;omega
    have b2:(!decide (0≤rel) || !decide (rel≤1073741824))=true:=by simp;omega
    by_cases c1:(su.length:Int)=d.u.length
    ·by_cases d1:(sg.length:Int)=d.g.length
     ·simp (disch:=omega) [-getElem?_pos,wrap64,u5,hc,dM,a1,a2,b1,b2,c1,d1]
      exact no (fun h=>h2 h.2.1)
     ·simp (disch:=omega) [-getElem?_pos,wrap64,u5,hc,dM,a1,a2,b1,b2,c1,d1]
      exact no (fun h=>h2 h.2.1)
    ·simp (disch:=omega) [-getElem?_pos,wrap64,u5,hc,dM,a1,a2,b1,b2,c1]
     exact no (fun h=>h2 h.2.1)
  ·have a1:(decide (0≤v)&&decide (v≤lV d))=false:=by simp;omega
   have a2:(!decide (0≤v) || !decide (v≤lV d))=true:=by simp;omega
   by_cases h2:0≤rel∧rel≤1073741824
   ·have b1:(decide (0≤rel)&&decide (rel≤1073741824))=true:=by simp;omega
    have b2:(!decide (0≤rel) || !decide (rel≤1073741824))=false:=by simp;omega
    by_cases c1:(su.length:Int)=d.u.length
    ·by_cases d1:(sg.length:Int)=d.g.length
     ·simp (disch:=omega) [-getElem?_pos,wrap64,u5,hc,dM,a1,a2,b1,b2,c1,d1]
      exact no (fun h=>h1 h.1)
     ·simp (disch:=omega) [-getElem?_pos,wrap64,u5,hc,dM,a1,a2,b1,b2,c1,d1]
      exact no (fun h=>h1 h.1)
    ·simp (disch:=omega) [-getElem?_pos,wrap64,u5,hc,dM,a1,a2,b1,b2,c1]
     exact no (fun h=>h1 h.1)
   ·have b1:(decide (0≤rel)&&decide (rel≤1073741824))=false:=by simp;omega
    have b2:(!decide (0≤rel) || !decide (rel≤1073741824))=true:=by simp;omega
    by_cases c1:(su.length:Int)=d.u.length
    ·by_cases d1:(sg.length:Int)=d.g.length
     ·simp (disch:=omega) [-getElem?_pos,wrap64,u5,hc,dM,a1,a2,b1,b2,c1,d1]
      exact no (fun h=>h1 h.1)
     ·simp (disch:=omega) [-getElem?_pos,wrap64,u5,hc,dM,a1,a2,b1,b2,c1,d1]
      exact no (fun h=>h1 h.1)
    ·simp (disch:=omega) [-getElem?_pos,wrap64,u5,hc,dM,a1,a2,b1,b2,c1]
     exact no (fun h=>h1 h.1))
theorem aue{d:Dm}(hd:fW d=0)(s:Ds)(G:List aP):aX F 93 [dm d,dst s] G=some (.bool (decide (iU d s)),G):=by
  have h:=yT hd;exact bL rfl rfl (by
   obtain⟨v,rel,su,sg⟩:=s;generalize hW:decide (iU d ⟨v,rel,su,sg⟩)=W;have no:¬ iU d ⟨v,rel,su,sg⟩→W=false:=fun hn=>by rw[←hW];simp[hn]
   unfold iU at no;simp only at no;have UW:=h.u;have hg8:=h.g;have hc:=fun G=>Eg d G;have hV:=fun G=>Jz d.r d.r.t G;have uf:=UT h.r;have wz:iR d.r.c d.r.t=lV d:=rfl;by_cases h1:0≤v∧v≤lV d
   ·have a1:(decide (0≤v)&&decide (v≤lV d))=true:=by simp;omega
    have a2:(!decide (0≤v) || !decide (v≤lV d))=false:=by simp;omega
    by_cases h2:0≤rel∧rel≤1073741824
    ·have b1:(decide (0≤rel)&&decide (rel≤1073741824))=true:=by simp;omega
     have b2:(!decide (0≤rel) || !decide (rel≤1073741824))=false:=by simp;omega
     by_cases h3:su.length=d.u.length
     ·have c1:(su.length:Int)=d.u.length:=by omega
      by_cases h4:sg.length=d.g.length
      ·have d1:(sg.length:Int)=d.g.length:=by omega
       simp (disch:=omega) [-getElem?_pos,wrap64,tT,hc,hd,hV,uf,wz,dh,a1,a2,b1,b2,c1,d1];refine go_loop (fun i:Nat=>apv (lG d.u) d.u.length i d.row [i64 v,i64 rel,jJ su,jw sg] G) (fun i=>i≤d.u.length∧∀j,j<i→fB (nth d.u j) (nth su j)) (fun i=>d.u.length-i) 0 rfl (by simp) ⟨by omega,by omega⟩ ?_
       rintro i ⟨hi,hv⟩;simp (disch:=omega) [-getElem?_pos,wrap64,abU];refine bB (fun h5=>?_) (fun h5=>?_)
       ·have h5:i<d.u.length:=by omega
        have AS:i<su.length:=by omega
        by_cases h6:fB (nth d.u i) (nth su i)
        ·simp (disch:=omega) [-getElem?_pos,wrap64,aY (l:=d.u),aY (l:=su),Ca,yP,h6]
         refine bu (i+1) (by simp) ⟨by omega,fun j hj=>?_⟩ (by omega)
         rcases cM j i with h7|h7
         ·exact hv j h7
         ·rwa [show j=i by omega]
        ·simp (disch:=omega) [-getElem?_pos,wrap64,aY (l:=d.u),aY (l:=su),Ca,yP,h6]
         exact no (fun h=>h6 (h.2.2.2.2.1 i h5))
       ·obtain rfl:i=d.u.length:=by omega
        refine go_loop (fun i:Nat=>apz (kX d.g) d.g.length i [i64 v,i64 rel,jJ su,jw sg] G) (fun i=>i≤d.g.length∧∀j,j<i→ot (nth d.g j) (nth sg j)) (fun i=>d.g.length-i) 0 rfl (by simp) ⟨by omega,by omega⟩ ?_
        rintro i ⟨hi,hg⟩;simp (disch:=omega) [-getElem?_pos,wrap64,abV];refine bB (fun h5=>?_) (fun h5=>?_)
        ·have h5:i<d.g.length:=by omega
         have AS:i<sg.length:=by omega
         by_cases h6:ot (nth d.g i) (nth sg i)
         ·have iI:(!decide (0≤(nth sg i).o) || !decide ((nth sg i).o≤(nth d.g i).dC))=false:=by simp;exact h6
          simp (disch:=omega) [-getElem?_pos,wrap64,aY (l:=d.g),aY (l:=sg),dM,Cl,h6,iI];refine bu (i+1) (by simp) ⟨by omega,fun j hj=>?_⟩ (by omega)
          rcases cM j i with h7|h7
          ·exact hg j h7
          ·rwa [show j=i by omega]
         ·have iI:(!decide (0≤(nth sg i).o) || !decide ((nth sg i).o≤(nth d.g i).dC))=true:=by
           have:¬ (0≤(nth sg i).o∧(nth sg i).o≤(nth d.g i).dC):=h6;simp;omega
          simp (disch:=omega) [-getElem?_pos,wrap64,aY (l:=d.g),aY (l:=sg),dM,Cl,h6,iI];exact no (fun h=>h6 (h.2.2.2.2.2 i h5))
        ·obtain rfl:i=d.g.length:=by omega
         rw[←hW];have:iU d ⟨v,rel,su,sg⟩:=⟨h1,h2,h3,h4,hv,hg⟩;simp[this]
      ·have d1:¬ (sg.length:Int)=d.g.length:=by omega
       simp (disch:=omega) [-getElem?_pos,wrap64,tT,hc,hd,hV,uf,wz,dh,a1,a2,b1,b2,c1,d1];exact no (fun h=>h4 h.2.2.2.1)
     ·have c1:¬ (su.length:Int)=d.u.length:=by omega
      simp (disch:=omega) [-getElem?_pos,wrap64,tT,hc,hd,hV,uf,wz,dh,a1,a2,b1,b2,c1];exact no (fun h=>h3 h.2.2.1)
    ·have b1:(decide (0≤rel)&&decide (rel≤1073741824))=false:=by simp;omega
     have b2:(!decide (0≤rel) || !decide (rel≤1073741824))=true:=by simp;omega
     by_cases c1:(su.length:Int)=d.u.length
     ·by_cases d1:(sg.length:Int)=d.g.length
      ·simp (disch:=omega) [-getElem?_pos,wrap64,tT,hc,hd,hV,uf,wz,dh,a1,a2,b1,b2,c1,d1]
       exact no (fun h=>h2 h.2.1)
      ·simp (disch:=omega) [-getElem?_pos,wrap64,tT,hc,hd,hV,uf,wz,dh,a1,a2,b1,b2,c1,d1]
       exact no (fun h=>h2 h.2.1)
     ·simp (disch:=omega) [-getElem?_pos,wrap64,tT,hc,hd,hV,uf,wz,dh,a1,a2,b1,b2,c1]
      exact no (fun h=>h2 h.2.1)
   ·have a1:(decide (0≤v)&&decide (v≤lV d))=false:=by simp;omega
    have a2:(!decide (0≤v) || !decide (v≤lV d))=true:=by simp;omega
    by_cases h2:0≤rel∧rel≤1073741824
    ·have b1:(decide (0≤rel)&&decide (rel≤1073741824))=true:=by simp;omega
     have b2:(!decide (0≤rel) || !decide (rel≤1073741824))=false:=by simp;omega
     by_cases c1:(su.length:Int)=d.u.length
     ·by_cases d1:(sg.length:Int)=d.g.length
      ·simp (disch:=omega) [-getElem?_pos,wrap64,tT,hc,hd,hV,uf,wz,dh,a1,a2,b1,b2,c1,d1]
       exact no (fun h=>h1 h.1)
      ·simp (disch:=omega) [-getElem?_pos,wrap64,tT,hc,hd,hV,uf,wz,dh,a1,a2,b1,b2,c1,d1]
       exact no (fun h=>h1 h.1)
     ·simp (disch:=omega) [-getElem?_pos,wrap64,tT,hc,hd,hV,uf,wz,dh,a1,a2,b1,b2,c1]
      exact no (fun h=>h1 h.1)
    ·have b1:(decide (0≤rel)&&decide (rel≤1073741824))=false:=by simp;omega
     have b2:(!decide (0≤rel) || !decide (rel≤1073741824))=true:=by simp;omega
     by_cases c1:(su.length:Int)=d.u.length
     ·by_cases d1:(sg.length:Int)=d.g.length
      ·simp (disch:=omega) [-getElem?_pos,wrap64,tT,hc,hd,hV,uf,wz,dh,a1,a2,b1,b2,c1,d1]
       exact no (fun h=>h1 h.1)
      ·simp (disch:=omega) [-getElem?_pos,wrap64,tT,hc,hd,hV,uf,wz,dh,a1,a2,b1,b2,c1,d1]
       exact no (fun h=>h1 h.1)
     ·simp (disch:=omega) [-getElem?_pos,wrap64,tT,hc,hd,hV,uf,wz,dh,a1,a2,b1,b2,c1]
      exact no (fun h=>h1 h.1))
theorem UX(d:Dm)(s:Ds)(G:List aP):aX F 93 [dm d,dst s] G=some (.bool (decide (fW d=0∧iU d s)),G):=by
 by_cases hd:fW d=0
 ·rw[show decide (fW d=0∧iU d s)=decide (iU d s) by simp[hd]]
  exact aue hd s G
 ·rw[show decide (fW d=0∧iU d s)=false by simp[hd]]
  have hC:=fun G=>Eg d G;generalize fW d=x at hd hC;obtain⟨v,rel,su,sg⟩:=s;exact bL rfl rfl (by
   simp[wrap64,tT,hC,hd])
theorem afG(d:Dm)(s:Ds)(G:List aP):aX F 122 [dm d,dst s] G=some (.bool (decide (fW d=0∧iU d s)),G) :=
 bL rfl rfl (by
  by_cases hd:fW d=0
  ·simp[wrap64,Tj,Ef,hd,UU (yT hd)]
  ·simp[wrap64,Tj,Ef,hd])
theorem afH(d:Dm)(s:Ds)(G:List aP):aX F 190 [dm d,dst s] G=some (i64 (dE d s),G) :=
 bL rfl rfl (by
  by_cases hd:fW d=0
  ·by_cases hf:iU d s
   ·simp[wrap64,M9,Ef,hd,UU (yT hd),hf,dE]
   ·simp[wrap64,M9,Ef,hd,UU (yT hd),hf,dE]
  ·simp[wrap64,M9,Ef,hd,dE])
theorem afI(d:Dm)(s:Ds)(G:List aP):aX F 144 [dm d,dst s] G=some (i64 (dE d s),G) :=
 bL rfl rfl (by
  by_cases hd:fW d=0
  ·by_cases hf:iU d s
   ·simp[wrap64,M4,Eg,hd,UX,hf,dE]
   ·simp[wrap64,M4,Eg,hd,UX,hf,dE]
  ·simp[wrap64,M4,Eg,hd,dE])
theorem J1{d:Dm}{s:Ds}(h:dE d s=0):Dv d∧iU d s:=by
 unfold dE at h;split at h
 ·rename_i h1;exact absurd h h1
 split at h
 ·rename_i h1 h2;exact⟨yT (iu h1),h2⟩
 ·cases h
noncomputable def lvl(d:Dm)(s:Ds):Int:=if dE d s=0 then kI d.r s.v else 0
theorem UY(d:Dm)(s:Ds)(G:List aP):aX F 170 [dm d,dst s] G=some (.tuple [i64 (lvl d s),i64 (dE d s)],G) :=
 bL rfl rfl (by
  by_cases hd:dE d s=0
  ·simp[wrap64,TA,afH,hd,asQ (J1 hd).1.r,lvl]
  ·simp[wrap64,TA,afH,hd,lvl])
theorem auf{u:Un}{s:Us}(hv:fB u s)(q:Int):tX u s q=if kU u s q then 0 else 15:=by
 unfold tX;rw[av (fun h=>h hv.1),av (fun h=>h hv)];by_cases h:kU u s q
 ·rw[aK h,av (fun g=>g h)]
 ·rw[av h,aK h]
theorem afJ{u:Un}{s:Us}(hv:fB u s)(q:Int)(G:List aP):aX F 205 [un u,us s,i64 q] G =
  some (.tuple (if kU u s q then [us (tY s q),.bool (decide (s.cu=0)&&decide (0<q)),i64 0] else [us ⟨0,0,false⟩,.bool false,i64 15]),G) :=
 bL rfl rfl (by
  have hc:=hv.1;have h1:=hv.2.1;have hf:0≤s.cu:=by
   rcases hv.2.2 with h | ⟨_,h⟩
   ·omega
   ·have:=Nk hc h;omega
  have JB:min (s.since+1) 1000=min 1000 (s.since+1):=by omega
  by_cases hm:kU u s q
  ·simp +contextual (disch:=omega) [wrap64,TK,tW,T7 hc,T8 hv,hc,hv,hm]
   refine ic (fun h=>?_) (fun h=>?_)
   ·have h':¬ (decide (0<s.cu)=decide (0<q)):=fun e=>by rw[e]at h;simp at h
    unfold tY;rw[av h'];exact⟨⟨rfl,rfl,rfl⟩,Bool.and_comm _ _⟩
   ·have h':decide (0<s.cu)=decide (0<q):=by
     cases h1:decide (0<s.cu)<;>cases h2:decide (0<q)<;>rw[h1,h2]at h<;>first|rfl|cases h
    unfold tY;rw[aK h'];exact⟨⟨rfl,JB,rfl⟩,Bool.and_comm _ _⟩
  ·simp +contextual (disch:=omega) [wrap64,TK,tW,T7 hc,T8 hv,hc,hv,hm])
structure Dr where
 inf:Int
 los:Int
 tur:Int
 spi:Int
 ovr:Int
 pow:Int
 jL:Int
 deriving Inhabited
abbrev Dr.row(r:Dr):List V:=[i64 r.inf,i64 r.los,i64 r.tur,i64 r.spi,i64 r.ovr,i64 r.pow,i64 r.jL]
abbrev dr(r:Dr):V:=.agg r.row
abbrev wk(d:Dm)(s:Ds)(nv nr:Int)(nu:List Us)(ng:V)(r:Dr)(rel left lv:Int):aP:=.cells
 [jg d.r.c,i64 d.r.d,i64 d.r.l,i64 d.r.f,i64 d.r.s,i64 d.r.t,lG d.u,kX d.g,i64 d.gr,i64 s.v,i64 s.rel,jJ s.u,jw s.g,
  i64 nv,i64 nr,.fE 3 (nu.map Us.row),ng,i64 r.inf,i64 r.los,i64 r.tur,i64 r.spi,i64 r.ovr,i64 r.pow,i64 r.jL,i64 rel,i64 left,i64 lv]
def kY(d:Dm)(left:Int):Int:=max (left-Gz d) 0
theorem UZ{r:Rs}(h:iS r=0)(l:Int):0≤iR r.c l∧iR r.c l≤1099511627776:=by
 have hc:=m6 (tj h);have h1:=F9 hc l;have hp:=u7 (tj h);have h2:=hc.y0 0 hp;have h3:=hc.y0 (r.c.length-1) (by omega)
 omega
theorem NK{d:Dm}(h:iS d.r=0):0≤Gz d∧Gz d≤1099511627776:=UZ h _
theorem NL{d:Dm}(h:iS d.r=0):0≤lV d∧lV d≤1099511627776:=UZ h _
theorem U0{d:Dm}(h:iS d.r=0){s:Ds}{nv nr:Int}{nu:List Us}{ng:V}{r:Dr}{rel left lv:Int}(hl:0≤left∧left≤4611686018427387904) :
  aX F 203 [.bH 0 0] [wk d s nv nr nu ng r rel left lv]=some (i64 (kY d left),[wk d s nv nr nu ng r rel left lv]) :=
 bL rfl rfl (by
  generalize hW:kY d left=W;have hD:iR d.r.c d.r.d=Gz d:=rfl;have h0:=NK h;simp (disch:=omega) [wrap64,adX,Jy (m6 (tj h)),hD];exact hW)
theorem NM{g:Int}:∀{us:List Un} {ss:List Us} {F:List Int},ny g us ss F→∀i,i<us.length→nth F i∈sn (nth us i) (nth ss i) g
 |[],[],[],_=>fun i hi=>by simp at hi
 |u::us,s::ss,q::F,h=>fun i hi=>by
  cases i with
  |zero=>exact h.1
  |succ i=>exact NM h.2 i (by simpa using hi)
 |[],_::_,_,h=>h.elim
 |[],[],_::_,h=>h.elim
 |_::_,[],_,h=>h.elim
 |_::_,_::_,[],h=>h.elim
theorem J2{us:List Un}{ss:List Us}{g release:Int}(h:lI us ss g release=0):ny g us ss (iT us ss g release)∧(iT us ss g release).sum≤release:=by
 unfold lI at h;split at h
 ·rename_i h1;exact absurd h h1
 split at h
 ·cases h
 rename_i h1 h2;have h1:=iu h1;obtain⟨h3,h4,_⟩:=Uu h1;have hb:=ae6 h3 h4.1;unfold iT;rw[av (fun g=>g h1)];cases hr:nR (jY us ss g) release with
 |none=>exact absurd hr h2
 |some E =>
  rw[hr]at hb;exact⟨hb.ny,hb.sum⟩
noncomputable def iA(d:Dm)(s:Ds)(m:Int)(i:Nat):Int:=if lI d.u s.u d.gr m=0 then nth (iT d.u s.u d.gr m) i else 0
theorem aug{d:Dm}{s:Ds}{m:Int}{i:Nat}(hi:i<d.u.length):iA d s m i=0∨kJ (nth d.u i) (nth s.u i) (iA d s m i):=by
 unfold iA;split
 ·rename_i h
  exact .inr (Gk.1 (NM (J2 h).1 i hi)).2
 ·exact .inl rfl
theorem U3{d:Dm}{s:Ds}{m:Int}{i:Nat}(hi:i<d.u.length):0≤iA d s m i∧iA d s m i≤1073741824:=by
 rcases aug (s:=s) (m:=m) hi with h|h
 ·omega
 ·exact Np h
noncomputable def tr(u:Un)(s:Us)(q:Int):Us:=if kU u s q then tY s q else ⟨0,1,s.out⟩
def dv(f:Nat→Int):Nat→Int
 |0=>0
 |i+1=>dv f i+f i
theorem J3{f:Nat→Int}{n:Nat}(h:∀i,i<n→0≤f i∧f i≤1073741824):∀i,i≤n→0≤dv f i∧dv f i≤1073741824*i:=by
 intro i;induction i with
 |zero=>intro _;simp[dv]
 |succ i ih=>intro hi;have:=ih (by omega);have:=h i (by omega);simp only[dv];omega
noncomputable def rn(d:Dm)(s:Ds)(m:Int)(i:Nat):Int:=pow (nth d.u i) (iA d s m i)
noncomputable def jL(d:Dm)(s:Ds)(m:Int)(i:Nat):Int:=ji (nth s.u i) (iA d s m i)
noncomputable def p7(d:Dm)(s:Ds)(m:Int)(n:Nat):List Us:=(List.range n).map fun i=>tr (nth d.u i) (nth s.u i) (iA d s m i)
theorem NN{d:Dm}{s:Ds}{m:Int}{n:Nat}:(p7 d s m n).length=n:=by simp[p7]
theorem Eh{d:Dm}{s:Ds}{m:Int}{n:Nat}:p7 d s m (n+1)=p7 d s m n++[tr (nth d.u n) (nth s.u n) (iA d s m n)]:=by simp[p7,KS]
def lK(d:Dm)(rel left:Int):Int:=min (min rel (kY d left)) (200*d.gr)
set_option maxHeartbeats 1000000 in
theorem auh{d:Dm}(h:Dv d){s:Ds}(hs:iU d s){nv nr inf los spi ovr rel left lv:Int}{ng:V}(hl:0≤left∧left≤4611686018427387904)(hr:0≤rel∧rel≤1073741824) :
  aX F 194 [.bH 0 0] [wk d s nv nr [] ng ⟨inf,los,0,spi,ovr,0,0⟩ rel left lv] =
   some (.tuple [],[wk d s nv nr (p7 d s (lK d rel left) d.u.length) ng ⟨inf,los,dv (iA d s (lK d rel left)) d.u.length,spi,ovr,dv (rn d s (lK d rel left)) d.u.length,dv (jL d s (lK d rel left)) d.u.length⟩ rel left lv]) :=
 bL rfl rfl (by
  obtain⟨G',hb⟩:=as9 d.u s.u d.gr (lK d rel left);have hgr:=h.gr;have Nn:min (min rel (kY d left)) (200*d.gr)=lK d rel left:=rfl;have UW:=h.u;have Aa:=hs.2.2.1;have NO:lI d.u s.u d.gr (lK d rel left)=0→(iT d.u s.u d.gr (lK d rel left)).length=d.u.length:=fun he=>(D8 (J2 he).1).1;generalize hM:lK d rel left=M at hb Nn NO;simp (disch:=omega) [wrap64,adL,U0 h.r,Nn,hb];refine go_loop (fun i:Nat=>arL (.bH 0 0) (.slice none 1 ((iT d.u s.u d.gr M).map fun n=>[i64 n])) (lI d.u s.u d.gr M) (lG d.u) d.u.length i
   [wk d s nv nr (p7 d s M i) ng ⟨inf,los,dv (iA d s M) i,spi,ovr,dv (rn d s M) i,dv (jL d s M) i⟩ rel left lv])
   (fun i=>i≤d.u.length) (fun i=>d.u.length-i) 0 rfl (by simp[p7,dv]) (by omega) ?_
  intro i hi;have tS:=NN (d:=d) (s:=s) (m:=M) (n:=i);have s1:=J3 (f:=iA d s M) (n:=d.u.length) (fun i hi=>U3 hi) i hi;have s2:=J3 (f:=rn d s M) (n:=d.u.length) (fun i hi=>JF) i hi;have s3:=J3 (f:=jL d s M) (n:=d.u.length) (fun i hi=>by have:=Nq (s:=nth s.u i) (q:=iA d s M i);unfold jL;omega) i hi
  simp (disch:=omega) [wrap64,adK];refine bB (fun h5=>?_) (fun h5=>?_)
  ·have h5:i<d.u.length:=by omega
   have AS:i<s.u.length:=by omega
   have hv:fB (nth d.u i) (nth s.u i):=hs.2.2.2.2.1 i h5;have BG:=JF (u:=nth d.u i) (q:=iA d s M i);have tN:=U3 (s:=s) (m:=M) h5;by_cases he:lI d.u s.u d.gr M=0
   ·have NO:=NO he
    have hY:nth (iT d.u s.u d.gr M) i=iA d s M i:=by simp[iA,he]
    have hm:kU (nth d.u i) (nth s.u i) (iA d s M i):=by
     have:=Gk.1 (NM (J2 he).1 i h5);rw[hY]at this;exact this.2.2
    have hN:=afJ hv (iA d s M i) [];rw[aK hm]at hN;have hP:=JA (nth d.u i) (iA d s M i) [];generalize hq:iA d s M i=q at *;generalize hp:pow (nth d.u i) q=p at *;simp (config:={ maxSteps:=2000000 }) +contextual (disch:=omega) [-getElem?_pos,-List.length_eq_zero_iff,-Int.natCast_eq_zero,wrap64,aY (l:=d.u),aY (l:=s.u),dA (l:=iT d.u s.u d.gr M),he,hY,hN,hP,tS];have hx:tr (nth d.u i) (nth s.u i) q=tY (nth s.u i) q:=by simp[tr,hm]
    refine ic (fun h6=>?_) (fun h6=>?_)
    ·have iI:jL d s M i=1:=by
      simp at h6;simp[jL,ji,hq,h6]
     refine bu (i+1) (by simp[Eh,dv,rn,hq,hp,iI,hx]) (by omega) (by omega)
    ·have iI:jL d s M i=0:=by
      have h7:¬ (0<q∧(nth s.u i).cu=0):=fun h=>by rw[dD h.1,dD h.2]at h6;cases h6
      simp only[jL,ji,hq,av h7]
     refine bu (i+1) (by simp[Eh,dv,rn,hq,hp,iI,hx]) (by omega) (by omega)
   ·have hq:iA d s M i=0:=by simp[iA,he]
    have hp:pow (nth d.u i) 0=0:=by simp[pow]
    have iI:jL d s M i=0:=by simp[jL,ji,hq]
    have hN:=afJ hv 0 [];have hP:=JA (nth d.u i) 0 [];rw[hp]at hP;by_cases hm:kU (nth d.u i) (nth s.u i) 0
    ·rw[aK hm]at hN
     have hx:tr (nth d.u i) (nth s.u i) 0=tY (nth s.u i) 0:=by simp[tr,hm]
     simp only[Hd,decide_false,Bool.and_false]at hN;simp (config:={ maxSteps:=2000000 }) +contextual (disch:=omega) [-getElem?_pos,-List.length_eq_zero_iff,-Int.natCast_eq_zero,wrap64,aY (l:=d.u),aY (l:=s.u),he,hN,hP,tS];refine bu (i+1) (by simp[Eh,dv,rn,hq,hp,iI,hx]) (by omega) (by omega)
    ·rw[av hm]at hN
     have hx:tr (nth d.u i) (nth s.u i) 0=⟨0,1,(nth s.u i).out⟩:=by simp[tr,hm]
     simp (config:={ maxSteps:=2000000 }) +contextual (disch:=omega) [-getElem?_pos,-List.length_eq_zero_iff,-Int.natCast_eq_zero,wrap64,aY (l:=d.u),aY (l:=s.u),he,hN,hP,tS];refine bu (i+1) (by simp[Eh,dv,rn,hq,hp,iI,hx]) (by omega) (by omega)
  ·obtain rfl:i=d.u.length:=by omega
   simp)
theorem NP(g:List Gt)(s:List Gs)(lv w:Int):0≤pe g s lv w∧pe g s lv w≤17179869184:=by
 unfold pe;split
 ·rename_i h
  unfold mi at h;split at h
  ·rename_i h1;exact absurd h h1
  ·rename_i h1
   obtain⟨h1,h2,h3,h4,h5⟩:=JR (iu h1);have:=aft (lv:=lv) (w:=w) h2 h1 h3 h4 (i:=g.length) (bY _);omega
 ·omega
def ou(d:Dm)(rel left t:Int):Int:=min rel (kY d left)-t
noncomputable def J4(d:Dm)(s:Ds)(rel left lv t:Int):Int:=min (pe d.g s.g lv (ou d rel left t)) (kY d left-t)
theorem auj{d:Dm}(h:Dv d){s:Ds}{nv nr inf los tur spi ovr pw st rel left lv:Int}{nu:List Us}{ng:V}(hl:0≤left∧left≤4611686018427387904)(hr:0≤rel∧rel≤1073741824)(ht:0≤tur∧tur≤1099511627776) :
  aX F 193 [.bH 0 0] [wk d s nv nr nu ng ⟨inf,los,tur,spi,ovr,pw,st⟩ rel left lv] =
   some (.tuple [],[wk d s nv nr nu (.slice none 2 ((pX d.g s.g lv (ou d rel left tur)).map Gs.row)) ⟨inf,los,tur,J4 d s rel left lv tur,ovr,pw,st⟩ rel left lv]) :=
 bL rfl rfl (by
  obtain⟨G',hb⟩:=at0 d.g s.g lv (ou d rel left tur);have hF:=NP d.g s.g lv (ou d rel left tur);have hf:0≤kY d left∧kY d left≤4611686018427387904:=by
   have:=NK h.r;unfold kY;omega
  have hW:min rel (kY d left)-tur=ou d rel left tur:=rfl;have hS:min (pe d.g s.g lv (ou d rel left tur)) (kY d left-tur)=J4 d s rel left lv tur:=rfl;have xp:=U0 h.r (s:=s) (nv:=nv) (nr:=nr) (nu:=nu) (ng:=.slice none 2 ((pX d.g s.g lv (ou d rel left tur)).map Gs.row)) (r:=⟨inf,los,tur,spi,ovr,pw,st⟩) (rel:=rel) (left:=left) (lv:=lv) hl;generalize J4 d s rel left lv tur=S at hS;generalize ou d rel left tur=W at hS hF hb hW xp;simp (disch:=omega) [wrap64,adJ,U0 h.r,hW,hb,hS,xp])
theorem auk{d:Dm}(h:Dv d){s:Ds}{nv nr inf los tur spi ovr pw st rel left lv:Int}{nu:List Us}{ng:V}(hl:0≤left∧left≤4611686018427387904)(ht:0≤tur∧tur≤1099511627776)(ib:-1099511627776≤spi∧spi≤1099511627776) :
  aX F 192 [.bH 0 0] [wk d s nv nr nu ng ⟨inf,los,tur,spi,ovr,pw,st⟩ rel left lv] =
   some (.tuple [],[wk d s (left-(tur+spi)-max (left-(tur+spi)-lV d) 0) (min (tur+spi) 1073741824) nu ng ⟨inf,los,tur,spi,max (left-(tur+spi)-lV d) 0,pw,st⟩ rel (left-(tur+spi)) lv]) :=
 bL rfl rfl (by
  have hC:=NL h.r;simp (disch:=omega) [wrap64,adI,afF h.r])
noncomputable def eG(s:Ds)(inf los:Int):Int:=s.v+inf-min los (s.v+inf)
noncomputable def gJ(d:Dm)(s:Ds)(inf los rel:Int):Int:=dv (iA d s (lK d rel (eG s inf los))) d.u.length
noncomputable def mO(d:Dm)(s:Ds)(inf los rel:Int):Int:=J4 d s rel (eG s inf los) (kI d.r s.v) (gJ d s inf los rel)
noncomputable def ug(d:Dm)(s:Ds)(inf los rel:Int):Int:=max (eG s inf los-(gJ d s inf los rel+mO d s inf los rel)-lV d) 0
noncomputable def mj(d:Dm)(s:Ds)(inf los rel:Int):Dr:=⟨inf,min los (s.v+inf),gJ d s inf los rel,mO d s inf los rel,ug d s inf los rel,dv (rn d s (lK d rel (eG s inf los))) d.u.length,dv (jL d s (lK d rel (eG s inf los))) d.u.length⟩
noncomputable def m9(d:Dm)(s:Ds)(inf los rel:Int):Ds:=⟨eG s inf los-(gJ d s inf los rel+mO d s inf los rel)-ug d s inf los rel,min (gJ d s inf los rel+mO d s inf los rel) 1073741824,
 p7 d s (lK d rel (eG s inf los)) d.u.length,pX d.g s.g (kI d.r s.v) (ou d rel (eG s inf los) (gJ d s inf los rel))⟩
theorem afK{d:Dm}(h:Dv d){s:Ds}{inf los rel:Int}:0≤gJ d s inf los rel∧gJ d s inf los rel≤6442450944:=by
 have h1:=J3 (f:=iA d s (lK d rel (eG s inf los))) (n:=d.u.length) (fun i hi=>U3 hi) d.u.length (bY _);have h2:=h.u;unfold gJ;omega
theorem U4{C:bD}{args:List V}{f:FuncId}{fs:List FuncId}{G G':List aP}{r:V}{o:Option (List aP)}(h1:C f args G=some (r,G'))(h2:qG C args fs G'=o):qG C args (f::fs) G=o:=by
 simp only[qG,h1,h2]
abbrev wk0(d:Dm)(s:Ds)(inf los rel lv:Int):aP:=.cells
 [jg d.r.c,i64 d.r.d,i64 d.r.l,i64 d.r.f,i64 d.r.s,i64 d.r.t,lG d.u,kX d.g,i64 d.gr,i64 s.v,i64 s.rel,jJ s.u,jw s.g,
  i64 0,i64 0,.fE 3 [],.fE 2 [],i64 inf,i64 los,i64 0,i64 0,i64 0,i64 0,i64 0,i64 rel,i64 0,i64 lv]
theorem aul{d:Dm}(h:Dv d){s:Ds}(hs:iU d s){inf los rel:Int}(hi:0≤inf∧inf≤1073741824)(hl:0≤los∧los≤1073741824)(hr:0≤rel∧rel≤1073741824) :
  ∃lf,aX F 173 [.bH 0 0] [wk0 d s inf los rel (kI d.r s.v)] =
   some (.tuple [],[wk d s (m9 d s inf los rel).v (m9 d s inf los rel).rel (m9 d s inf los rel).u (.slice none 2 ((m9 d s inf los rel).g.map Gs.row)) (mj d s inf los rel) rel lf (kI d.r s.v)]):=by
 suffices hh:∀Q:V→List aP→Prop,(∀lf,Q (.tuple []) [wk d s (m9 d s inf los rel).v (m9 d s inf los rel).rel (m9 d s inf los rel).u (.slice none 2 ((m9 d s inf los rel).g.map Gs.row)) (mj d s inf los rel) rel lf (kI d.r s.v)])→gw (aX F) 173 [.bH 0 0] [wk0 d s inf los rel (kI d.r s.v)] Q by
  obtain⟨_,G',h,lf,rfl,rfl⟩:=hh (fun v G'=>∃lf,v=.tuple []∧G'=[wk d s (m9 d s inf los rel).v (m9 d s inf los rel).rel (m9 d s inf los rel).u (.slice none 2 ((m9 d s inf los rel).g.map Gs.row)) (mj d s inf los rel) rel lf (kI d.r s.v)]) fun lf=>⟨lf,rfl,rfl⟩;exact⟨lf,h⟩
 intro Q hQ;refine ali rfl rfl ?_;have hv:=hs.1;have hC:=NL h.r;simp (disch:=omega) [wrap64,ads];have hL:0≤eG s inf los∧eG s inf los≤4611686018427387904:=by unfold eG;omega
 have hT:=afK h (s:=s) (inf:=inf) (los:=los) (rel:=rel);have hP:-1099511627776≤mO d s inf los rel∧mO d s inf los rel≤1099511627776:=by
  have h1:=NP d.g s.g (kI d.r s.v) (ou d rel (eG s inf los) (gJ d s inf los rel));have h2:0≤kY d (eG s inf los):=by unfold kY;omega
  unfold mO J4;omega
 have h1:=auh h hs (nv:=0) (nr:=0) (inf:=inf) (los:=min los (s.v+inf)) (spi:=0) (ovr:=0) (rel:=rel) (left:=eG s inf los) (lv:=kI d.r s.v) (ng:=.fE 2 []) hL hr;have h2:=auj h (s:=s) (nv:=0) (nr:=0) (nu:=p7 d s (lK d rel (eG s inf los)) d.u.length) (ng:=.fE 2 []) (inf:=inf) (los:=min los (s.v+inf)) (tur:=gJ d s inf los rel) (spi:=0) (ovr:=0)
  (pw:=dv (rn d s (lK d rel (eG s inf los))) d.u.length) (st:=dv (jL d s (lK d rel (eG s inf los))) d.u.length) (rel:=rel) (left:=eG s inf los) (lv:=kI d.r s.v) hL hr (by omega)
 have h3:=auk h (s:=s) (nv:=0) (nr:=0) (nu:=p7 d s (lK d rel (eG s inf los)) d.u.length) (ng:=.slice none 2 ((pX d.g s.g (kI d.r s.v) (ou d rel (eG s inf los) (gJ d s inf los rel))).map Gs.row)) (inf:=inf) (los:=min los (s.v+inf)) (tur:=gJ d s inf los rel) (spi:=mO d s inf los rel) (ovr:=0)
  (pw:=dv (rn d s (lK d rel (eG s inf los))) d.u.length) (st:=dv (jL d s (lK d rel (eG s inf los))) d.u.length) (rel:=rel) (left:=eG s inf los) (lv:=kI d.r s.v) hL (by omega) hP
 exact⟨_,U4 h1 (U4 h2 (U4 h3 rfl)),hQ _⟩
theorem aum(n:Int)(G:List aP):aX F 171 [i64 n] G=some (.bool (!decide (0≤n∧n≤1073741824)),G) :=
 bL rfl rfl (by
  simp[wrap64,adq,dM])
theorem aun(l:List Int)(hl:l.length≤1000)(p:Int→Bool)(f:FuncId)(G:List aP)(h:∀n,aX F f [i64 n] G=some (.bool (p n),G)) :
  ∃k:Int,(decide (0≤k)=l.any p)∧aX F 129 [ints l,.fn f []] G=some (i64 k,G):=by
 suffices hh:∀Q:V→List aP→Prop,(∀k:Int,decide (0≤k)=l.any p→Q (i64 k) G)→gw (aX F) 129 [ints l,.fn f []] G Q by
  obtain⟨_,G',h,k,h1,rfl,rfl⟩:=hh (fun v G'=>∃k:Int,decide (0≤k)=l.any p∧v=i64 k∧G'=G) fun k hk=>⟨k,hk,rfl,rfl⟩;exact⟨k,h1,h⟩
 intro Q hQ;refine gF rfl rfl ?_;simp (disch:=omega) [-getElem?_pos,wrap64,acy];refine go_loop (fun i:Nat=>aqr (ints l) (.fn f []) l.length i G) (fun i=>i≤l.length∧∀x∈l.take i,p x=false) (fun i=>l.length-i) 0 rfl (by simp) ⟨by omega,by simp⟩ ?_
 rintro i ⟨hi,hp⟩;simp (disch:=omega) [-getElem?_pos,wrap64,acx];refine bB (fun h5=>?_) (fun h5=>?_)
 ·have h5:i<l.length:=by omega
  simp (disch:=omega) [-getElem?_pos,wrap64,dA (l:=l),h];refine ic (fun h6=>?_) (fun h6=>?_)
  ·refine hQ _ ?_
   rw[dD (by omega)]
   exact(Be.2 ⟨_,oo h5,h6⟩).symm
  ·refine bu (i+1) (by simp) ⟨by omega,?_⟩ (by omega)
   intro x hx;rw[jr h5]at hx;rcases mS.1 hx with hx|hx
   ·exact hp x hx
   ·rw[pq.1 hx];exact h6
 ·obtain rfl:i=l.length:=by omega
  refine hQ _ ?_;rw[pt]at hp;rw[show l.any p=false from mR.2 fun x hx=>by rw[hp x hx];simp]
  rfl
theorem U5(l:List Int)(hl:l.length≤1000)(p:Int→Bool)(f:FuncId)(G:List aP)(h:∀n,aX F f [i64 n] G=some (.bool (p n),G)) :
  aX F 85 [ints l,.fn f []] G=some (.bool (l.any p),G) :=
 bL rfl rfl (by
  obtain⟨k,h1,h2⟩:=aun l hl p f G h;simp[wrap64,abK,h2];exact h1)
def yU(n:Int):Bool:=!decide (0≤n∧n≤1073741824)
noncomputable def pf(d:Dm)(s:Ds)(inf los rel:Int):Int:=if dE d s≠0 then dE d s else if [inf,los,rel].any yU then 1 else 0
noncomputable def uh(d:Dm)(s:Ds)(inf los rel:Int):V:=.tuple (if pf d s inf los rel=0 then [dst (m9 d s inf los rel),dr (mj d s inf los rel),i64 0] else [.agg [i64 0,i64 0,.slice (some 0) 3 [],.slice (some 0) 2 []],dr ⟨0,0,0,0,0,0,0⟩,i64 (pf d s inf los rel)])
theorem auo(d:Dm)(s:Ds)(inf los rel:Int):∃G',aX F 133 [dm d,dst s,i64 inf,i64 los,i64 rel] []=some (uh d s inf los rel,G'):=by
 suffices h:∀Q:V→List aP→Prop,(∀G',Q (uh d s inf los rel) G')→gw (aX F) 133 [dm d,dst s,i64 inf,i64 los,i64 rel] [] Q by
  obtain⟨_,G',h,rfl⟩:=h (fun v G'=>v=uh d s inf los rel) fun _=>rfl;exact⟨G',h⟩
 intro Q hQ;refine gF rfl rfl ?_;have hc:aX F 85 [.slice none 1 [[i64 inf],[i64 los],[i64 rel]],.fn 171 []] []=some (.bool ([inf,los,rel].any yU),[]) :=
  U5 [inf,los,rel] (by simp) yU 171 [] (fun n=>aum n [])
 unfold uh pf at hQ;generalize hx:[inf,los,rel].any yU=x at hc hQ;by_cases hd:dE d s=0
 ·obtain⟨ov,FD⟩:=J1 hd
  have yn:lvl d s=kI d.r s.v:=by simp[lvl,hd]
  simp only[hd,ne_eq,not_true_eq_false,if_false]at hQ;cases x with
  |true =>
   simp only[if_true,av (show ¬ (1:Int)=0 by omega)]at hQ
   simp[wrap64,M3,UY,hd,yn,hc];exact hQ _
  |false =>
   simp only[yU,CM,zH,EH,OZ,Wy,kA]at hx;obtain⟨lf,hr⟩:=aul ov FD hx.1 hx.2.1 hx.2.2;simp[wrap64,M3,UY,hd,yn,hc,hr];exact hQ _
 ·simp only[hd,ne_eq,not_false_eq_true,if_true,if_false]at hQ
  simp[wrap64,M3,UY,hd];exact hQ _
end Go.Proofs.YtcelmhaoipbdiaaGreat
namespace Go.Proofs.YtcelmhaoipbdiaaGreat
set_option linter.all false
open Go.Vm
end Go.Proofs.YtcelmhaoipbdiaaGreat
namespace Go.Proofs.YtcelmhaoipbdiaaGreat
set_option linter.all false
open Go.Vm
theorem J5{c:List Pt}(h:Cv c):∀{i j:Nat},i≤j→j<c.length→(nth c i).x≤(nth c j).x:=by
 intro i j;induction j with
 |zero=>intro h1 _;obtain rfl:i=0:=by omega
        omega
 |succ j ih =>
  intro h1 h2;rcases cM i (j+1) with h3|h3
  ·have:=ih (by omega) (by omega)
   have:=h.up (j+1) (by omega) h2
   simp only[sI]at this;omega
  ·obtain rfl:i=j+1:=by omega
   omega
theorem afM{c:List Pt}(h:Cv c){y:Int}{i:Nat}(hi:i+1<c.length)(h1:(nth c i).y≤y)(h2:y<(nth c (i+1)).y):(nth c i).x≤D1 c y i∧D1 c y i≤(nth c (i+1)).x:=by
 have u1:=h.up (i+1) (by omega) hi
 simp only[sI]at u1;have a1:(y-(nth c i).y+1)*((nth c (i+1)).x-(nth c i).x)≤((nth c (i+1)).y-(nth c i).y)*((nth c (i+1)).x-(nth c i).x):=CJ (by omega) (by omega)
 have a2:0<(y-(nth c i).y+1)*((nth c (i+1)).x-(nth c i).x):=O4 (by omega) (by omega)
 unfold D1;rw[Bc (by omega)]
 have b1:0≤((y-(nth c i).y+1)*((nth c (i+1)).x-(nth c i).x)-1) / ((nth c (i+1)).y-(nth c i).y):=Hc (by omega) (by omega)
 have b2:((y-(nth c i).y+1)*((nth c (i+1)).x-(nth c i).x)-1) / ((nth c (i+1)).y-(nth c i).y)≤(nth c (i+1)).x-(nth c i).x:=by
  refine Bb (Int.ediv_le_ediv (by omega) (show _≤((nth c (i+1)).x-(nth c i).x)*((nth c (i+1)).y-(nth c i).y) by rw[KI ((nth c (i+1)).x-(nth c i).x)];omega)) ?_
  rw[Int.mul_ediv_cancel _ (by omega)]
  exact xT _
 omega
theorem U6{c:List Pt}(h:Cv c){y:Int}:∀(m i:Nat),i+m=c.length-1→(nth c i).y≤y→(nth c 0).x≤tl c y m i∧tl c y m i≤(nth c (c.length-1)).x
 |0,i,hi,_=>by
  have hp:=h.pos;have:=J5 h (i:=0) (j:=c.length-1) (by omega) (by omega)
  unfold tl;omega
 |m+1,i,hi,hy=>by
  have hp:=h.pos;unfold tl;split
  ·rename_i h2
   have h3:=afM h (i:=i) (by omega) hy h2
   have:=J5 h (i:=0) (j:=i) (by omega) (by omega)
   have:=J5 h (i:=i+1) (j:=c.length-1) (by omega) (by omega)
   omega
  ·exact U6 h m (i+1) (by omega) (by omega)
theorem aup{r:Rs}(h:iS r=0)(v:Int):0≤kI r v∧kI r v≤16777216:=by
 have hs:=NJ h;have hc:=m6 hs.c;have hp:=hc.pos;have:=hs.top;have h0:=hc.x0 0 hp;have h1:=J5 hc (i:=0) (j:=r.c.length-1) (by omega) (by omega)
 unfold kI;split
 ·omega
 ·have:=U6 hc (y:=v) (r.c.length-1) 0 (by omega) (by omega)
  unfold yO;omega
theorem auq{d:Dm}{s:Ds}(h:Dv d)(hf:iU d s):aE d.g s.g (kI d.r s.v)=0:=by
 have hr:=aup h.r s.v;have hg:=h.g;have hl:=hf.2.2.2.1;unfold aE;rw[av (by omega),av (by omega),av (fun g=>g hf.2.2.2.2.2),av (fun g=>g (pS fun i _ hi=>h.gv i (by omega))),av (by omega)]
theorem U7(l:List Int):∀i,i≤l.length→dv (fun j=>nth l j) i=(l.take i).sum
 |0,_=>by simp[dv]
 |i+1,h=>by
  rw[jr (by omega),KU,← U7 l i (by omega)]
  simp[dv]
theorem U8:∀i,dv (fun _=>0) i=0
 |0=>rfl
 |i+1=>by simp[dv,U8 i]
theorem aur{d:Dm}(s:Ds){m:Int}(hm:0≤m):dv (iA d s m) d.u.length≤m:=by
 by_cases he:lI d.u s.u d.gr m=0
 ·obtain⟨h1,h2⟩:=J2 he
  have hl:=(D8 h1).1;have:iA d s m=fun j=>nth (iT d.u s.u d.gr m) j:=by funext j;simp[iA,he]
  rw[this,U7 _ _ (by omega),lZ (by omega)]
  exact h2
 ·have:iA d s m=fun _=>0:=by funext j;simp[iA,he]
  rw[this,U8];exact hm
structure Stp(d:Dm)(s:Ds)(inf los rel:Int):Prop where
 L:eG s inf los=max 0 (s.v+inf-los)
 T0:0≤gJ d s inf los rel
 Tr:gJ d s inf los rel≤rel
 Tf:gJ d s inf los rel≤kY d (eG s inf los)
 P0:0≤mO d s inf los rel
 sum:gJ d s inf los rel+mO d s inf los rel≤kY d (eG s inf los)
 P1:mO d s inf los rel≤17179869184
 w0:0≤ou d rel (eG s inf los) (gJ d s inf los rel)∧ou d rel (eG s inf los) (gJ d s inf los rel)≤1073741824
theorem U9{d:Dm}(h:Dv d){s:Ds}(hf:iU d s){inf los rel:Int}(hi:0≤inf∧inf≤1073741824)(hl:0≤los∧los≤1073741824)(hr:0≤rel∧rel≤1073741824):Stp d s inf los rel:=by
 have hv:=hf.1;have hg:=h.gr;have tN:0≤kY d (eG s inf los):=by unfold kY;omega
 have hm:0≤lK d rel (eG s inf los):=by unfold lK;omega
 have h1:=aur (d:=d) s hm;have h2:=afK h (s:=s) (inf:=inf) (los:=los) (rel:=rel);have h3:gJ d s inf los rel≤lK d rel (eG s inf los):=h1;have h4:=NP d.g s.g (kI d.r s.v) (ou d rel (eG s inf los) (gJ d s inf los rel));have h5:mO d s inf los rel=min (pe d.g s.g (kI d.r s.v) (ou d rel (eG s inf los) (gJ d s inf los rel))) (kY d (eG s inf los)-gJ d s inf los rel):=rfl;unfold lK at h3;refine⟨by unfold eG;omega,h2.1,by omega,by omega,by omega,by omega,by omega,?_⟩
 unfold ou;omega
end Go.Proofs.YtcelmhaoipbdiaaGreat
namespace Go.Proofs.YtcelmhaoipbdiaaGreat
set_option linter.all false
open Go.Vm
attribute [local simp] ly lz kF lx
theorem aut(r:Dr)(ht:0≤r.tur∧r.tur≤1099511627776)(hs:0≤r.spi∧r.spi≤1099511627776)(ho:0≤r.ovr∧r.ovr≤1099511627776)(G:List aP):aX F 134 [dr r] G=some (i64 (r.tur+r.spi+r.ovr),G) :=
 bL rfl rfl (by
  simp (disch:=omega) [wrap64,acC])
theorem auu{l:List Int}(h:l.length=5):∃a b c d e,l=[a,b,c,d,e]:=by
 match l,h with
 |[a,b,c,d,e],_=>exact⟨a,b,c,d,e,rfl⟩
theorem J6{l:List Int}{i j:Nat}{v:Int}(h:i<l.length):nth (l.set i v) j=if i=j then v else nth l j:=by
 simp only[nth,List.getD,kK];by_cases e:i=j
 ·subst e;simp[h]
 ·simp[e]
theorem auv{c:List Pt}{x y dx dy:Int}(h:Cw c x y dx dy 1)(h2:2≤c.length)(hx:0≤x∧x≤1000)(hy:0≤y∧y≤1000)(Ng:0≤dx∧dx≤1000)(Nh:0≤dy∧dy≤1000)
  {a1 a2 a3 a4 a5:Int} (l1:x≤a1) (l2:a1≤a2) (l3:a2≤a3) (l4:a3≤a4) (l5:a4≤a5) (l6:a5≤(nth c (c.length-1)).x):iS ⟨c,a1,a2,a3,a4,a5⟩=0:=by
 have hc:=h.lD hx hy Ng Nh (by omega)
 have hf:=h.jI;have hu:=h.up hx hy Ng Nh (by omega) (c.length-1) (by omega)
 have h0:(nth c 0).x=x:=by rw[h.first]
 unfold iS;simp only;rw[av (fun g=>g hc),av (by omega),av (by omega),aK,pS]
 ·intro i T5 tZ
  have:i=1∨i=2∨i=3∨i=4∨i=5∨i=6:=by omega
  rcases this with rfl|rfl|rfl|rfl|rfl|rfl<;>simp only[qZ,tV,nth,List.getD,Hj,Hk,K1]<;>refine av ?_
  ·have:(nth c 0).x≤a1:=by omega
   simp only[nth,List.getD]at this;simp;omega
  ·simp;omega
  ·simp;omega
  ·simp;omega
  ·simp;omega
  ·simp only[nth,List.getD]at l6;simp;omega
 ·refine pS fun i T5 tZ=>?_
  have:=h.step i (by omega) (by omega)
  exact av (by omega)
theorem auw{l:List Int}{k:Nat}(hd:c5 l k):∃r k',aX F 125 [.bH 0 0] [dk l k]=some (.agg r.cells,[dk l k'])∧c5 l k'∧iS r=0∧(nth r.c (r.c.length-1)).y≤10000:=by
 suffices h:∀Q:V→List aP→Prop,(∀r k',c5 l k'→iS r=0→(nth r.c (r.c.length-1)).y≤10000→Q (.agg r.cells) [dk l k'])→gw (aX F) 125 [.bH 0 0] [dk l k] Q by
  obtain⟨_,_,h,r,k',rfl,rfl,h1⟩:=h (fun v G=>∃r k',v=.agg r.cells∧G=[dk l k']∧c5 l k'∧iS r=0∧(nth r.c (r.c.length-1)).y≤10000) fun r k' a b c=>⟨r,k',rfl,rfl,a,b,c⟩;exact⟨r,k',h,h1⟩
 intro Q hQ;refine gF rfl rfl ?_;obtain⟨a1,k1,n1,gH,Ui⟩:=gG hd 10 (by omega)
 obtain⟨a2,k2,n2,fp,xD⟩:=gG gH 20 (by omega)
 obtain⟨c,k3,n3,lF,Dj,hc⟩:=Uh fp (x:=100+a1) (y:=a2) (dx:=40) (dy:=200) true (by omega) (by omega) (by omega) (by omega)
 simp only[if_true]at hc;have hu:=hc.up (by omega) (by omega) (by omega) (by omega) (by omega)
 have hf:=hc.jI;have h0:(nth c 0).x=100+a1:=by rw[hc.first]
 have hu1:=hu (c.length-1) (by omega)
 have afN:(nth c 0).x≤(nth c (c.length-1)).x:=by
  have:∀i,i<c.length→(nth c 0).x≤(nth c i).x:=by
   intro i;induction i with
   |zero=>intro _;omega
   |succ i ih=>intro hi;have:=ih (by omega);have:=hc.step (i+1) (by omega) hi;simp only[sI]at this;omega
  exact this _ (by omega)
 have h3:((c.length:Int)-1).toNat=c.length-1:=by omega
 have h5:0≤(c.length:Int)-1:=by omega
 simp (disch:=omega) [-getElem?_pos,wrap64,acr,n1,n2,n3,aY (l:=c),h3,h5];refine go_loop (fun s:Nat×Int×List Int×Nat=>aqk (.bH 0 0) s.2.1 (nth c (c.length-1)).x s.1 [.bU,i64 0,i64 0,i64 0,i64 0,i64 0] [jg c,i64 0,i64 0,i64 0,i64 0,i64 0] (cP s.2.2.1) [dk l s.2.2.2])
  (fun s=>s.1≤5∧s.2.2.1.length=5∧(100+a1≤s.2.1∧s.2.1≤(nth c (c.length-1)).x)∧(∀j,j<s.1→100+a1≤nth s.2.2.1 j)∧(∀i j,i≤j→j<s.1→nth s.2.2.1 i≤nth s.2.2.1 j)∧(∀j,j<s.1→nth s.2.2.1 j≤s.2.1)∧c5 l s.2.2.2)
  (fun s=>5-s.1) (0,100+a1,[0,0,0,0,0],k3) rfl (by simp[cP,h0]) ⟨by simp,by simp,⟨by simp,by simp only;omega⟩,by simp,by simp,by simp,lF⟩ ?_
 rintro⟨i,at',ls,k⟩ ⟨hi,yV,⟨b1,b2⟩,h6,h7,h8,hd⟩;simp only at hi yV b1 b2 h6 h7 h8 hd;simp (disch:=omega) [-getElem?_pos,wrap64,acq];refine bB (fun h9=>?_) (fun h9=>?_)
 ·have h9:i<5:=by omega
  have cq:¬ (5:Int)-i=0:=by omega
  have hq0:0≤((nth c (c.length-1)).x-at').tdiv (5-i):=zG (by omega) (by omega)
  have RM:((nth c (c.length-1)).x-at').tdiv (5-i)≤(nth c (c.length-1)).x-at':=CL _ (by omega)
  obtain⟨p,k4,n4,pT,hp⟩:=gG hd (((nth c (c.length-1)).x-at').tdiv (5-i)+1) (by omega)
  simp (disch:=omega) [-getElem?_pos,wrap64,n4,cq];refine bu (i+1,at'+p,ls.set i (at'+p),k4) (by simp) ⟨by simp only;omega,by simp[yV],⟨by simp only;omega,by simp only;omega⟩,?_,?_,?_,pT⟩ (by simp only;omega)
  ·intro j hj
   simp only at hj ⊢;rw[J6 (by omega)]
   split
   ·omega
   ·exact h6 j (by omega)
  ·intro i' j TY hj
   simp only at hj ⊢;rw[J6 (by omega),J6 (by omega)]
   by_cases e1:i=j
   ·rw[aK e1]
    split
    ·omega
    ·have:=h8 i' (by omega);omega
   ·rw[av e1,av (by omega)]
    exact h7 i' j TY (by omega)
  ·intro j hj
   simp only at hj ⊢;rw[J6 (by omega)]
   split
   ·omega
   ·have:=h8 j (by omega);omega
 ·obtain rfl:i=5:=by omega
  obtain⟨e1,e2,e3,e4,e5,rfl⟩:=auu yV;simp (disch:=omega) [-getElem?_pos,wrap64,cP];have q1:=h6 0 (by omega)
  have q2:=h7 0 1 (by omega) (by omega)
  have q3:=h7 1 2 (by omega) (by omega)
  have q4:=h7 2 3 (by omega) (by omega)
  have q5:=h7 3 4 (by omega) (by omega)
  have q6:=h8 4 (by omega)
  exact hQ ⟨c,e1,e2,e3,e4,e5⟩ k hd (auv hc Dj (by omega) (by omega) (by omega) (by omega) q1 q2 q3 q4 q5 (Bb q6 b2)) (by simp only;omega)
structure Gw(l:List Rt):Prop where
 cw:∀i,i<l.length→Cw (nth l i).c 0 0 6 20 0
 lv:∀i,i<l.length→0≤(nth l i).lv∧(nth l i).lv≤1000
 up:∀i,0<i→i<l.length→(nth l (i-1)).lv<(nth l i).lv
theorem Gw.lD{l:List Rt}(h:Gw l)(h1:1≤l.length)(h2:l.length≤3){m v:Int}(hm:0≤m∧m≤1000)(hv:0≤v∧v≤1000):lH ⟨l,m,v⟩=0:=by
 unfold lH;simp only;rw[av (by omega),av (by omega),av,av (by omega)]
 refine fun hn=>hn (pS fun i _ hi=>?_);have hi:i<l.length:=by omega
 have hc:=h.cw i hi;have hl:=h.lv i hi;have hp:=hc.pos;have hf:=hc.jI;have hu:=hc.up (by omega) (by omega) (by omega) (by omega) (by omega) ((nth l i).c.length-1) (by omega)
 have h0:(nth (nth l i).c 0).x=0∧(nth (nth l i).c 0).y=0:=by rw[hc.first];exact⟨rfl,rfl⟩
 unfold pU;rw[av (by omega),av,av (fun g=>g (hc.lD (by omega) (by omega) (by omega) (by omega) (by omega))),av (fun g=>g h0),av (by omega)]
 rintro⟨h3,h4⟩;have:=h.up i h3 hi;omega
theorem Gw.snoc{l:List Rt}(h:Gw l){r:Rt}(hc:Cw r.c 0 0 6 20 0)(hl:0≤r.lv∧r.lv≤1000)(hu:0<l.length→(nth l (l.length-1)).lv<r.lv):Gw (l++[r]):=by
 refine⟨fun i hi=>?_,fun i hi=>?_,fun i h0 hi=>?_⟩
 ·simp at hi
  rw[ik];split
  ·exact h.cw i (by assumption)
  ·rw[aK (by omega)];exact hc
 ·simp at hi
  rw[ik];split
  ·exact h.lv i (by assumption)
  ·rw[aK (by omega)];exact hl
 ·simp at hi
  rw[ik,ik,aK (by omega)]
  split
  ·exact h.up i h0 (by assumption)
  ·obtain rfl:i=l.length:=by omega
   rw[aK rfl];exact hu h0
abbrev Va(g:Gt):V:=.agg [.slice (some 0) 2 (g.r.map Rt.row),i64 g.dC,i64 g.move]
theorem auy{l:List Int}{k:Nat}(hd:c5 l k):∃g k',aX F 169 [.bH 0 0] [dk l k]=some (Va g,[dk l k'])∧c5 l k'∧lH g=0:=by
 suffices h:∀Q:V→List aP→Prop,(∀g k',c5 l k'→lH g=0→Q (Va g) [dk l k'])→gw (aX F) 169 [.bH 0 0] [dk l k] Q by
  obtain⟨_,_,h,r,k',rfl,rfl,h1⟩:=h (fun v G=>∃r k',v=Va r∧G=[dk l k']∧c5 l k'∧lH r=0) fun r k' a b=>⟨r,k',rfl,rfl,a,b⟩;exact⟨r,k',h,h1⟩
 intro Q hQ;refine gF rfl rfl ?_;obtain⟨a1,k1,n1,gH,Ui⟩:=gG hd 12 (by omega)
 obtain⟨a2,k2,n2,fp,xD⟩:=gG gH 6 (by omega)
 obtain⟨a3,k3,n3,lF,ha3⟩:=gG fp 40 (by omega)
 obtain⟨a4,k4,n4,pT,ha4⟩:=gG lF 3 (by omega)
 simp (disch:=omega) [wrap64,adp,n1,n2,n3,n4];refine go_loop (fun s:List Rt×Int×Int×Nat=>arq (.bH 0 0) s.2.1 s.2.2.1 [.bU,i64 0,i64 0] [.slice (some 1027) 2 (s.1.map Rt.row),i64 a1,i64 a2] s.1.length [dk l s.2.2.2])
  (fun s=>Gw s.1∧(s.1.length:Int)+s.2.2.1≤2 ∧ -1≤s.2.2.1∧(1≤s.1.length∨0≤s.2.2.1)∧(0≤s.2.1∧s.2.1≤130+50*s.1.length)∧(0<s.1.length→(nth s.1 (s.1.length-1)).lv<s.2.1)∧c5 l s.2.2.2) (fun s=>(s.2.2.1+1).toNat)
  ([],90+a3,a4,k4) rfl (by simp) ⟨⟨by simp,by simp,by simp⟩,by simp;omega,by simp only;omega,by simp only;omega,by simp;omega,by simp,pT⟩ ?_
 rintro⟨r,lv,m,k⟩ ⟨hr,h1,h2,h3,h4,h5,hd⟩;simp only at h1 h2 h3 h4 h5 hd hr;obtain⟨c,k5,n5,yR,Dj,hc⟩:=Uh hd (x:=0) (y:=0) (dx:=6) (dy:=20) false (by omega) (by omega) (by omega) (by omega)
 obtain⟨a6,k6,n6,JC,ha6⟩:=gG yR 40 (by omega)
 simp (disch:=omega) [wrap64,ado];refine bB (fun h6=>?_) (fun h6=>?_)
 ·simp (disch:=omega) [wrap64,n5,n6]
  refine bu (r++[⟨lv,c⟩],lv+(1+a6),m-1,k6) (by simp) ⟨hr.snoc hc (by simp only;omega) h5,by simp;omega,by simp only;omega,by simp,by simp;omega,by simp[ik];omega,JC⟩ (by simp only;omega)
 ·exact hQ ⟨r,a1,a2⟩ k hd (hr.lD (by omega) (by omega) (by omega) (by omega))
abbrev Vb(l:List Gt):V:=.slice (some 0) 3 (l.map Gt.row)
abbrev NQ(l:List Gs):V:=.slice (some 0) 2 (l.map Gs.row)
structure NR(a:List Gt)(b:List Gs):Prop where
 len:a.length=b.length
 gate:∀i,i<a.length→lH (nth a i)=0
 state:∀i,i<a.length→ot (nth a i) (nth b i)
theorem auz{l:List Int}{k:Nat}(hd:c5 l k){m:Nat}(hm:m≤1000):∃a b k',aX F 127 [.bH 0 0,i64 m] [dk l k]=some (.tuple [Vb a,NQ b],[dk l k'])∧c5 l k'∧NR a b∧a.length≤m:=by
 suffices h:∀Q:V→List aP→Prop,(∀a b k',c5 l k'→NR a b→a.length≤m→Q (.tuple [Vb a,NQ b]) [dk l k'])→gw (aX F) 127 [.bH 0 0,i64 m] [dk l k] Q by
  obtain⟨_,_,h,a,b,k',rfl,rfl,h1⟩:=h (fun v G=>∃a b k',v=.tuple [Vb a,NQ b]∧G=[dk l k']∧c5 l k'∧NR a b∧a.length≤m) fun a b k' h1 h2 h3=>⟨a,b,k',rfl,rfl,h1,h2,h3⟩;exact⟨a,b,k',h,h1⟩
 intro Q hQ;refine gF rfl rfl ?_;obtain⟨n,k1,n1,gH,hn⟩:=gG hd (m+1) (by omega)
 simp (disch:=omega) [wrap64,acw,n1];refine go_loop (fun s:List Gt×List Gs×Int×Nat=>aqp (.bH 0 0) (.slice (some 1023) 3 (s.1.map Gt.row)) (.slice (some 1035) 2 (s.2.1.map Gs.row)) s.2.2.1 s.1.length s.2.1.length [dk l s.2.2.2])
  (fun s=>NR s.1 s.2.1∧(s.1.length:Int)+s.2.2.1≤m∧0≤s.2.2.1∧c5 l s.2.2.2) (fun s=>s.2.2.1.toNat) ([],[],n,k1) rfl (by simp) ⟨⟨rfl,by simp,by simp⟩,by simp;omega,by simp;omega,gH⟩ ?_
 rintro⟨a,b,n,k⟩ ⟨tm,h1,h2,hd⟩;simp only at tm h1 h2 hd;obtain⟨g,k2,n2,fp,hg⟩:=auy hd;have hgv:=(afm hg).dC;obtain⟨p,k3,n3,lF,hp⟩:=gG fp (g.dC+1) (by omega)
 obtain⟨q,k4,n4,pT,hq⟩:=gG lF 7 (by omega)
 have hl:=tm.len;simp (disch:=omega) [wrap64,acv];refine bB (fun h4=>?_) (fun h4=>?_)
 ·simp (disch:=omega) [wrap64,n2,n3,n4]
  refine bu (a++[g],b++[⟨p,decide (q=6)⟩],n-1,k4) (by simp) ⟨⟨by simp[hl],fun i hi=>?_,fun i hi=>?_⟩,by simp;omega,by simp;omega,pT⟩ (by simp;omega)
  ·simp at hi
   rw[ik];split
   ·exact tm.gate i (by assumption)
   ·rw[aK (by omega)];exact hg
  ·simp at hi
   rw[ik,ik,← hl];split
   ·exact tm.state i (by assumption)
   ·rw[aK (by omega),aK (by omega)]
    show 0≤p∧p≤g.dC;omega
 ·exact hQ a b k hd tm (by omega)
structure Dw(d:Dm)(s:Ds):Prop where
 lD:fW d=0
 fit:iU d s
 aDu:JE d.u s.u
 u2:d.u.length≤2
 g2:d.g.length≤2
 gr:1≤d.gr∧d.gr≤4
 rel:0≤s.rel∧s.rel≤29
 top:lV d≤10000
theorem auA{l:List Int}{k:Nat}(hd:c5 l k):∃d s k',aX F 82 [.bH 0 0] [dk l k]=some (.tuple [dm d,dst s],[dk l k'])∧c5 l k'∧Dw d s:=by
 suffices h:∀Q:V→List aP→Prop,(∀d s k',c5 l k'→Dw d s→Q (.tuple [dm d,dst s]) [dk l k'])→gw (aX F) 82 [.bH 0 0] [dk l k] Q by
  obtain⟨_,_,h,d,s,k',rfl,rfl,h1⟩:=h (fun v G=>∃d s k',v=.tuple [dm d,dst s]∧G=[dk l k']∧c5 l k'∧Dw d s) fun d s k' a b=>⟨d,s,k',rfl,rfl,a,b⟩;exact⟨d,s,k',h,h1⟩
 intro Q hQ;refine gF rfl rfl ?_;obtain⟨r,k1,n1,gH,hr,hry⟩:=auw hd;obtain⟨a,k2,n2,fp,ha⟩:=gG gH 4 (by omega)
 obtain⟨us,ss,k3,n3,lF,pD,Mw⟩:=asZ (m:=2) fp (by omega)
 obtain⟨gs,ts,k4,n4,pT,qN,Ib⟩:=auz (m:=2) lF (by omega)
 rw[show((2:Nat):Int)=2 from rfl]at n3 n4;have hv:=UZ hr r.t;have uf:=UT hr;obtain⟨v,k5,n5,yR,hv5⟩:=gG pT (iR r.c r.t+1) (by omega)
 obtain⟨e,k6,n6,JC,he6⟩:=gG yR 30 (by omega)
 have hV:=Jz r r.t [];simp (disch:=omega) [wrap64,abJ,n1,n2,n3,n4,hV,uf,hr,n5,n6];refine hQ ⟨r,us,gs,1+a⟩ ⟨v,e,ss,ts⟩ k6 JC ?_;have hc:fW ⟨r,us,gs,1+a⟩=0:=by
  unfold fW;simp only;rw[av (fun g=>g hr),av (by omega),av (fun g=>g (pS fun i _ hi=>(pD.unit i (by omega)).lD)),av (fun g=>g (pS fun i _ hi=>qN.gate i (by omega))),av (by omega)]
 refine⟨hc,⟨⟨hv5.1,?_⟩,?_,pD.len.symm,qN.len.symm,pD.state,qN.state⟩,pD,Mw,Ib,?_,?_,?_⟩
 ·show v≤iR r.c r.t
  omega
 ·simp only;omega
 ·simp only;omega
 ·simp only;omega
 ·have:=(F9 (m6 (tj hr)) r.t).2
  show iR r.c r.t≤10000;omega
end Go.Proofs.YtcelmhaoipbdiaaGreat
namespace Go.Proofs.YtcelmhaoipbdiaaGreat
set_option linter.all false
open Go.Vm
theorem auC{u:Un}{s:Us}(hv:fB u s)(q:Int):fB u (tr u s q):=by
 have h1:=hv.2.1;unfold tr;split
 ·rename_i hm
  refine⟨hv.1,?_,?_⟩
  ·unfold tY;simp only;split<;>omega
  ·unfold tY;simp only
   unfold kU at hm;by_cases hq:q=0
   ·exact .inl hq
   ·rw[av hq]at hm;exact .inr ⟨hm.1,hm.2.2⟩
 ·exact⟨hv.1,by simp,.inl rfl⟩
theorem auD{lv w:Int}{g:List Gt}{s:List Gs}(hl:g.length=s.length)(hs:AQ g s)(hv:∀i,i<g.length→Gv (nth g i)):∀i,i≤g.length →
  ∀j,j<g.length→0≤nth (bs lv w g s i).1 j∧nth (bs lv w g s i).1 j≤(nth g j).dC:=by
 intro i;induction i with
 |zero =>
  intro _ j hj;have hr:=Ed (hv j hj) (hs j hj);simp only[bs];rw[JT hj (by omega)]
  omega
 |succ i ih =>
  intro hi j hj;simp only[bs];rw[J6 (by rw[pY hl];omega)]
  split
  ·rename_i e
   subst e;have hr:=Ed (hv i hj) (hs i hj);have ho:=atX (lv:=lv) (w:=w) (hv i hj) (hs i hj) (bs lv w g s i).2;omega
  ·exact ih (by omega) j hj
theorem auE{g:List Gt}{s:List Gs}{lv w:Int}(h:aE g s lv=0)(hw:0≤w∧w≤1073741824):(pX g s lv w).length=g.length∧AQ g (pX g s lv w):=by
 obtain⟨h1,h2,h3,h4,h5⟩:=JR h;have hE:mi g s lv w=0:=by simp[mi,h,hw]
 have hS:pX g s lv w=nT (bs lv w g s g.length).1 s:=by unfold pX;rw[aK hE]
 have hb:=pY (lv:=lv) (w:=w) h2 g.length;rw[hS];refine⟨by simp[nT];omega,fun i hi=>?_⟩
 unfold nT;rw[Gj (by omega) (by omega)]
 exact auD h2 h3 h4 g.length (bY _) i hi
theorem auF{d:Dm}{s:Ds}{m:Int}{n i:Nat}(hi:i<n):nth (p7 d s m n) i=tr (nth d.u i) (nth s.u i) (iA d s m i):=by
 unfold p7;simp[nth,hi]
theorem auG{d:Dm}(h:Dv d){s:Ds}(hf:iU d s){inf los rel:Int}(hi:0≤inf∧inf≤1073741824)(hl:0≤los∧los≤1073741824)(hr:0≤rel∧rel≤1073741824):iU d (m9 d s inf los rel):=by
 have p:=U9 h hf hi hl hr;have hv:=hf.1;have hC:=NL h.r;have hD:=NK h.r;have hT:=p.T0;have hP:=p.P0;have hs:=p.sum;have hL:=p.L;have tN:kY d (eG s inf los)≤eG s inf los:=by unfold kY;omega
 have hO:ug d s inf los rel=max (eG s inf los-(gJ d s inf los rel+mO d s inf los rel)-lV d) 0:=rfl;have hg:=auE (auq h hf) p.w0;refine⟨?_,?_,NN,hg.1,fun i hi=>?_,hg.2⟩
 ·show 0≤eG s inf los-(gJ d s inf los rel+mO d s inf los rel)-ug d s inf los rel∧eG s inf los-(gJ d s inf los rel+mO d s inf los rel)-ug d s inf los rel≤lV d
  omega
 ·show 0≤min (gJ d s inf los rel+mO d s inf los rel) 1073741824∧min (gJ d s inf los rel+mO d s inf los rel) 1073741824≤1073741824
  omega
 ·show fB (nth d.u i) (nth (p7 d s _ d.u.length) i)
  rw[auF hi];exact auC (hf.2.2.2.2.1 i hi) _
def auH(a b:Ds)(r:Dr):List Int:=[a.v,b.v,r.inf,r.los,r.tur,r.spi,r.ovr]
def afO(n:Int):Prop:=0≤n∧n≤274877906944
instance {n:Int}:Decidable (afO n):=inferInstanceAs (Decidable (_∧_))
def afP(a b:Ds)(r:Dr):Prop:=(∀i,i<7→afO (nth (auH a b r) i))∧b.v=a.v+r.inf-r.los-r.tur-r.spi-r.ovr
noncomputable instance {a b:Ds} {r:Dr}:Decidable (afP a b r):=Classical.propDecidable _
end Go.Proofs.YtcelmhaoipbdiaaGreat
namespace Go.Proofs.YtcelmhaoipbdiaaGreat
set_option linter.all false
open Go.Vm
attribute [local simp] ly lz kF lx
theorem afQ{c:List Pt}(h:Cv c){y x:Int}{i:Nat}(hi:i+1<c.length)(h1:(nth c i).y≤y)(h2:y<(nth c (i+1)).y)(hx:(nth c i).x≤x):qp c (i+1) x≤y↔x≤D1 c y i:=by
 have u1:=h.up (i+1) (by omega) hi
 simp only[sI]at u1;have a2:0<(y-(nth c i).y+1)*((nth c (i+1)).x-(nth c i).x):=O4 (by omega) (by omega)
 have a3:0≤((nth c (i+1)).y-(nth c i).y)*(x-(nth c i).x):=CK (by omega) (by omega)
 unfold qp D1;simp only[sI];rw[Bc a3,Bc (by omega)]
 have e1:((nth c (i+1)).y-(nth c i).y)*(x-(nth c i).x) / ((nth c (i+1)).x-(nth c i).x)<y-(nth c i).y+1↔((nth c (i+1)).y-(nth c i).y)*(x-(nth c i).x)<(y-(nth c i).y+1)*((nth c (i+1)).x-(nth c i).x) :=
  Int.ediv_lt_iff_lt_mul (by omega)
 have e2:x-(nth c i).x≤((y-(nth c i).y+1)*((nth c (i+1)).x-(nth c i).x)-1) / ((nth c (i+1)).y-(nth c i).y)↔(x-(nth c i).x)*((nth c (i+1)).y-(nth c i).y)≤(y-(nth c i).y+1)*((nth c (i+1)).x-(nth c i).x)-1 :=
  O2 (by omega)
 rw[KI (x-(nth c i).x)]at e2;constructor
 ·intro g
  have:=e2.2 (by have:=e1.1 (by omega);omega)
  omega
 ·intro g
  have:=e1.2 (by have:=e2.1 (by omega);omega)
  omega
theorem Vg{c:List Pt}(h:Cv c){i:Nat}(hi:i<c.length):iR c (nth c i).x=(nth c i).y:=by
 rcases nG i with rfl|h0
 ·exact DZ h (xT _)
 ·have u:=h.up i h0 hi
  rw[yN h h0 hi (by omega) (xT _),qp,KK _ (by omega)]
  omega
theorem afR{c:List Pt}(h:Cv c){y:Int}:∀(m i:Nat),i+m=c.length-1→(nth c i).y≤y→iR c (tl c y m i)≤y∧∀x,tl c y m i<x→x≤(nth c (c.length-1)).x→y<iR c x
 |0,i,hi,hy=>by
  have hp:=h.pos;unfold tl;rw[Vg h (by omega)]
  obtain rfl:i=c.length-1:=by omega
  exact⟨hy,fun x a b=>by omega⟩
 |m+1,i,hi,hy=>by
  have hp:=h.pos;unfold tl;split
  ·rename_i h2
   have hr:=afM h (i:=i) (by omega) hy h2
   refine⟨?_,fun x a b=>?_⟩
   ·rw[yN h (i:=i+1) (by omega) (by omega) (by simpa using hr.1) hr.2]
    exact(afQ h (by omega) hy h2 hr.1).2 (xT _)
   ·rcases Int.lt_or_le (nth c (i+1)).x x with h3|h3
    ·have:=UK h (show(nth c (i+1)).x≤x by omega)
     rw[Vg h (by omega)]at this
     omega
    ·rw[yN h (i:=i+1) (by omega) (by omega) (by simp only[sI];omega) h3]
     have:=not_congr (afQ h (x:=x) (by omega) hy h2 (by omega))
     omega
  ·exact afR h m (i+1) (by omega) (by omega)
theorem afS{c:List Pt}(h:gT c=0)(y:Int)(G:List aP) :
  aX F 177 [jg c,i64 y] G=some (.tuple [i64 (if y<(nth c 0).y then 0 else yO c y),.bool (decide ((nth c 0).y≤y)),i64 0],G) :=
 bL rfl rfl (by
  have hc:=m6 h;have hp:=hc.pos;have hl:=hc.jI;have h3:((c.length:Int)-1).toNat=c.length-1:=by omega
  have h4:0≤(c.length:Int)-1:=by omega
  have h5:c.length-1<c.length:=by omega
  have x0:=hc.x0 0 hp;have x1:=hc.x0 (c.length-1) h5;have Lp:=J5 hc (i:=0) (j:=c.length-1) (by omega) h5
  have hA:=fun x=>aev hc x [];have Vh:=hA (nth c 0).x;rw[Vg hc hp]at Vh;by_cases h1:y<(nth c 0).y
  ·have h2:¬ (nth c 0).y≤y:=by omega
   simp (disch:=omega) [-getElem?_pos,wrap64,TC,mZ,h,aY (l:=c),hp,h3,h4,h5,Vh,h1,h2]
  ·have h2:(nth c 0).y≤y:=by omega
   have Vi:=afR hc (y:=y) (c.length-1) 0 (by omega) h2
   have Vj:=U6 hc (y:=y) (c.length-1) 0 (by omega) h2
   have dJ:tl c y (c.length-1) 0=yO c y:=rfl;rw[dJ]at Vi Vj;simp (disch:=omega) [-getElem?_pos,wrap64,TC,mZ,h,aY (l:=c),hp,h3,h4,h5,Vh,h1,h2];refine go_loop (fun s:Int×Int=>arw (jg c) y s.1 s.2 G) (fun s=>(nth c 0).x≤s.1∧s.1≤yO c y∧yO c y≤s.2∧s.2≤(nth c (c.length-1)).x) (fun s=>(s.2-s.1).toNat) ((nth c 0).x,(nth c (c.length-1)).x) rfl (by simp) ⟨by simp,Vj.1,Vj.2,by simp⟩ ?_
   rintro⟨lo,hi⟩ ⟨b1,b2,b3,b4⟩;simp only at b1 b2 b3 b4;have d1:0≤(hi-lo).tdiv 2:=zG (by omega) (by omega)
   have d2:(hi-lo).tdiv 2=(hi-lo) / 2:=Bc (by omega)
   have hAm:=hA (hi-(hi-lo).tdiv 2);simp (disch:=omega) [-getElem?_pos,wrap64,adv,hAm];refine bB (fun h6=>?_) (fun h6=>?_)
   ·refine bB (fun h7=>?_) (fun h7=>?_)
    ·refine bu (hi-(hi-lo).tdiv 2,hi) (by simp) ⟨by simp only;omega,?_,b3,b4⟩ (by simp only;omega)
     simp only;refine KL.1 fun h8=>?_;have:=Vi.2 _ h8 (by omega)
     omega
    ·refine bu (lo,hi-(hi-lo).tdiv 2-1) (by simp) ⟨b1,b2,?_,by simp only;omega⟩ (by simp only;omega)
     simp only;refine KL.1 fun h8=>?_;have:=UK hc (show hi-(hi-lo).tdiv 2≤yO c y by omega)
     have:=Vi.1;omega
   ·have:lo=yO c y:=by omega
    subst this;simp (disch:=omega) [-getElem?_pos,wrap64,h1,h2])
theorem auJ{r:Rs}(h:iS r=0){v:Int}(hv:0≤v∧v≤274877906944)(G:List aP):aX F 145 [.agg r.cells,i64 v] G=some (.tuple [i64 (kI r v),i64 0],G) :=
 bL rfl rfl (by
  have hp:=(m6 (tj h)).pos;have mA:(decide (0≤v)&&decide (v≤274877906944))=true:=by simp;omega
  by_cases h1:v<(nth r.c 0).y
  ·have h2:¬ (nth r.c 0).y≤v:=by omega
   simp[-getElem?_pos,wrap64,Tt,B7,h,dh,mA,afS (tj h),h1,h2,aY (l:=r.c),hp,kI]
  ·have h2:(nth r.c 0).y≤v:=by omega
   simp[-getElem?_pos,wrap64,Tt,B7,h,dh,mA,afS (tj h),h1,h2,aY (l:=r.c),hp,kI])
theorem afT{d:Dm}(h:iS d.r=0):lV d≤274877906944:=by
 have hc:=m6 (tj h);have h1:=F9 hc d.r.t;have hp:=hc.pos;have h3:=hc.y0 (d.r.c.length-1) (by omega)
 have:lV d=iR d.r.c d.r.t:=rfl;omega
theorem J7(d:Dm)(s:Ds)(G:List aP):aX F 95 [dm d,dst s] G=some (.tuple [i64 (lvl d s),i64 (dE d s)],G) :=
 bL rfl rfl (by
  by_cases hd:dE d s=0
  ·obtain⟨ov,hf⟩:=J1 hd
   have hv:=hf.1;have hC:=afT ov.r;simp (disch:=omega) [wrap64,S7,afI,hd,auJ ov.r,hv,lvl]
  ·simp (disch:=omega) [wrap64,S7,afI,hd,lvl])
theorem afU:∀{a:List Un} {E:List Int} {u:Un} {q:Int},a.length=E.length→js (a++[u]) (E++[q])=js a E+pow u q
 |[],[],_,_,_=>by simp[js]
 |u::a,q::E,w,z,h=>by
  have:=afU (a:=a) (E:=E) (u:=w) (q:=z) (by simpa using h)
  simp only[uu,js,this];omega
 |[],_::_,_,_,h=>by simp at h
 |_::_,[],_,_,h=>by simp at h
theorem afV:∀{a:List Us} {E:List Int} {u:Us} {q:Int},a.length=E.length→jt (a++[u]) (E++[q])=jt a E+ji u q
 |[],[],_,_,_=>by simp[jt]
 |u::a,q::E,w,z,h=>by
  have:=afV (a:=a) (E:=E) (u:=w) (q:=z) (by simpa using h)
  simp only[uu,jt,this];omega
 |[],_::_,_,_,h=>by simp at h
 |_::_,[],_,_,h=>by simp at h
theorem afW{us:List Un}{F:List Int}(h:F.length=us.length):∀i,i≤us.length→dv (fun j=>pow (nth us j) (nth F j)) i=js (us.take i) (F.take i)
 |0,_=>by simp[dv,js]
 |i+1,hi=>by
  rw[jr (l:=us) (by omega),jr (l:=F) (by omega),afU (by simp;omega),← afW h i (by omega)]
  rfl
theorem afX{ss:List Us}{F:List Int}(h:F.length=ss.length):∀i,i≤ss.length→dv (fun j=>ji (nth ss j) (nth F j)) i=jt (ss.take i) (F.take i)
 |0,_=>by simp[dv,jt]
 |i+1,hi=>by
  rw[jr (l:=ss) (by omega),jr (l:=F) (by omega),afV (by simp;omega),← afX h i (by omega)]
  rfl
theorem auK{u:Un}{s:Us}(hv:fB u s):tr u s 0=⟨0,if 0<s.cu then 1 else min 1000 (s.since+1),s.out⟩:=by
 have hc:=hv.1;have hf:0≤s.cu:=by
  rcases hv.2.2 with h | ⟨_,h⟩
  ·omega
  ·have:=Nk hc h;omega
 unfold tr;by_cases h1:0<s.cu
 ·rw[aK h1]
  split
  ·unfold tY
   rw[av (by simp[h1])]
  ·rfl
 ·rw[av h1,aK]
  ·unfold tY
   rw[aK (by simp[h1])]
  ·unfold kU
   rw[aK rfl];exact fun h=>absurd h h1
theorem auL{d:Dm}(ov:Dv d){s:Ds}(hf:iU d s){q:Int}(hq:0≤q∧q≤1073741824)(G:List aP) :
  aX F 98 [dm d,dst s,i64 q] G=some (.tuple [JD (p7 d s (min q (200*d.gr)) d.u.length),i64 (dv (iA d s (min q (200*d.gr))) d.u.length),i64 (dv (rn d s (min q (200*d.gr))) d.u.length),i64 (dv (jL d s (min q (200*d.gr))) d.u.length)],G) :=
 bL rfl rfl (by
  obtain⟨t,hb⟩:=atC d.u s.u d.gr (min q (200*d.gr)) [];have hgr:=ov.gr;have UW:=ov.u;have Aa:=hf.2.2.1;generalize hM:min q (200*d.gr)=M at *;by_cases he:lI d.u s.u d.gr M=0
  ·obtain⟨h1,h2⟩:=J2 he
   have hl:=D8 h1;have hV:=aeQ d.u s.u (iT d.u s.u d.gr M) (by omega) []
   rw[ae9 h1]at hV;simp only[Gf]at hV;have f1:iA d s M=fun j=>nth (iT d.u s.u d.gr M) j:=by funext j;simp[iA,he]
   have f2:rn d s M=fun j=>pow (nth d.u j) (nth (iT d.u s.u d.gr M) j):=by funext j;simp only[rn,f1]
   have f3:jL d s M=fun j=>ji (nth s.u j) (nth (iT d.u s.u d.gr M) j):=by funext j;simp only[jL,f1]
   have e1:dv (iA d s M) d.u.length=(iT d.u s.u d.gr M).sum:=by rw[f1,U7 _ _ (by omega),lZ (by omega)]
   have e2:dv (rn d s M) d.u.length=js d.u (iT d.u s.u d.gr M):=by rw[f2,afW hl.1 _ (bY _),lZ (by omega),lZ (by omega)]
   have e3:dv (jL d s M) d.u.length=jt s.u (iT d.u s.u d.gr M):=by rw[f3,afX hl.2 _ (by omega),lZ (by omega),lZ (by omega)]
   rw[e1,e2,e3];generalize hE:iT d.u s.u d.gr M=E at *;generalize js d.u E=PW at *;generalize jt s.u E=ST at *;generalize E.sum=SU at *;simp (disch:=omega) [-getElem?_pos,wrap64,Tb,hM,hb,he,hV];refine go_loop (fun i:Nat=>apI (.slice none 1 (E.map fun n=>[i64 n])) (.slice (some 1063) 3 ((p7 d s M i).map Us.row)) SU PW ST (lG d.u) d.u.length i s.row i G) (fun i=>i≤d.u.length) (fun i=>d.u.length-i) 0 rfl (by simp[p7]) (by omega) ?_
   intro i hi;have tS:=NN (d:=d) (s:=s) (m:=M) (n:=i);simp (disch:=omega) [-getElem?_pos,wrap64,abZ];refine bB (fun h5=>?_) (fun h5=>?_)
   ·have h5:i<d.u.length:=by omega
    have h6:i<s.u.length:=by omega
    have h7:i<E.length:=by omega
    have hv:fB (nth d.u i) (nth s.u i):=hf.2.2.2.2.1 i h5;have hY:iA d s M i=nth E i:=by rw[f1]
    have hm:kU (nth d.u i) (nth s.u i) (nth E i):=(Gk.1 (NM h1 i h5)).2.2;have hN:=Ub (nth d.u i) (nth s.u i) (nth E i) [];have hnE:tX (nth d.u i) (nth s.u i) (nth E i)=0:=by rw[auf hv,aK hm]
    rw[aK hnE]at hN;have hx:tr (nth d.u i) (nth s.u i) (nth E i)=tY (nth s.u i) (nth E i):=by simp[tr,hm]
    simp (disch:=omega) [-getElem?_pos,wrap64,aY (l:=d.u),aY (l:=s.u),dA (l:=E),hN,tS];refine bu (i+1) (by simp[Eh,hY,hx]) (by omega) (by omega)
   ·obtain rfl:i=d.u.length:=by omega
    simp (disch:=omega) [-getElem?_pos,wrap64,tS]
  ·have f1:iA d s M=fun _=>0:=by funext j;simp[iA,he]
   have f2:rn d s M=fun _=>0:=by funext j;simp[rn,f1,pow]
   have f3:jL d s M=fun _=>0:=by funext j;simp[jL,f1,ji]
   rw[f1,f2,f3,U8];simp (disch:=omega) [-getElem?_pos,wrap64,Tb,hM,hb,he];refine go_loop (fun i:Nat=>apF (.slice (some 1063) 3 ((p7 d s M i).map Us.row)) (jJ s.u) s.u.length i i G) (fun i=>i≤s.u.length) (fun i=>s.u.length-i) 0 rfl (by simp[p7]) (by omega) ?_
   intro i hi;have tS:=NN (d:=d) (s:=s) (m:=M) (n:=i);simp (disch:=omega) [-getElem?_pos,wrap64,abY];refine bB (fun h5=>?_) (fun h5=>?_)
   ·have h5:i<d.u.length:=by omega
    have h6:i<s.u.length:=by omega
    have hv:fB (nth d.u i) (nth s.u i):=hf.2.2.2.2.1 i h5;have tu:=hv.2.1;have hY:iA d s M i=0:=by rw[f1]
    have hx:=auK hv;by_cases h7:0<(nth s.u i).cu
    ·rw[aK h7]at hx
     simp (disch:=omega) [-getElem?_pos,wrap64,aY (l:=s.u),h7,tS];refine bu (i+1) (by simp[Eh,hY,hx]) (by omega) (by omega)
    ·rw[av h7]at hx
     simp (disch:=omega) [-getElem?_pos,wrap64,aY (l:=s.u),h7,tS];refine bu (i+1) (by simp[Eh,hY,hx]) (by omega) (by omega)
   ·obtain rfl:i=s.u.length:=by omega
    rw[Aa]at tS ⊢;simp (disch:=omega) [-getElem?_pos,wrap64,tS])
end Go.Proofs.YtcelmhaoipbdiaaGreat
namespace Go.Proofs.YtcelmhaoipbdiaaGreat
set_option linter.all false
open Go.Vm
theorem aDx(lv w:Int):pe [] [] lv w=0:=by
 unfold pe;split
 ·simp[bs,JS]
 ·rfl
end Go.Proofs.YtcelmhaoipbdiaaGreat
namespace Go.Proofs.YtcelmhaoipbdiaaGreat
set_option linter.all false
open Go.Vm
end Go.Proofs.YtcelmhaoipbdiaaGreat
