/- Parts of the proof, joined: Gat1, Gat2, Gat3, Gat4, Gat5, Gat6, Gat7, Gat8. -/
import Derived.Test.YtmpikpodpgnjhaaGreatDc
import Derived.Test.YtmpikpodpgnjhaaGreatDa
namespace Go.Proofs.YtmpikpodpgnjhaaGreat
set_option linter.all false
open Go.Vm
attribute [local simp] eS eT eQ eR
structure Rt where
 lv:Int
 c:List Pt
 deriving Inhabited
abbrev Rt.row(r:Rt):List V:=[i64 r.lv,iu r.c]
abbrev zG(l:List Rt):V:=.slice none 2 (l.map Rt.row)
structure Gt where
 r:List Rt
 dw:Int
 move:Int
 deriving Inhabited
abbrev Gt.row(g:Gt):List V:=[zG g.r,i64 g.dw,i64 g.move]
abbrev gt(g:Gt):V:=.agg g.row
def nG(l:List Rt)(i:Nat):Int :=
 if ¬(0≤(nth l i).lv∧(nth l i).lv≤16777216) then 1
 else if 0<i∧(nth l i).lv≤(nth l (i-1)).lv then 4
 else if gd (nth l i).c≠0 then gd (nth l i).c
 else if ¬((nth (nth l i).c 0).x=0∧(nth (nth l i).c 0).y=0) then 3
 else if 1073741824<(nth (nth l i).c ((nth l i).c.length-1)).y then 1 else 0
def j8(g:Gt):Int :=
 if g.r.length=0 then 3 else if 10<g.r.length then 10 else if ef (nG g.r) g.r.length 0≠0 then ef (nG g.r) g.r.length 0
 else if ¬((0≤g.dw∧g.dw≤1000)∧0≤g.move∧g.move≤1000) then 1 else 0
theorem xp(g:Gt)(G:List aV):bo F 130 [gt g] G=some (i64 (j8 g),G) :=
 cg rfl rfl (by
  obtain⟨l,dw,move⟩:=g;generalize hW:j8 ⟨l,dw,move⟩=W;unfold j8 at hW;simp only at hW;simp (disch:=omega) [-getElem?_pos,-Int.natCast_eq_zero,wrap64,Ld];refine b9 (fun h1=>?_) (fun h1=>b9 (fun h2=>?_) (fun h2=>?_))
  ·rw[if_pos (by omega)]at hW
   exact hW
  ·rw[if_neg (by omega),if_pos (by omega)]at hW
   exact hW
  ·rw[if_neg (by omega),if_neg (by omega)]at hW
   refine go_loop (fun i:Nat=>abZ (zG l) l.length i [zG l,i64 dw,i64 move] G) (fun i=>i≤l.length∧ef (nG l) (l.length-i) i=ef (nG l) l.length 0) (fun i=>l.length-i) 0 rfl (by simp) ⟨by omega,rfl⟩ ?_
   rintro i ⟨hi,hq⟩;simp (disch:=omega) [-getElem?_pos,-Int.natCast_eq_zero,wrap64,Sc];refine b9 (fun h3=>?_) (fun h3=>?_)
   ·have h3:i<l.length:=by omega
    have h4:((i:Int)-1).toNat=i-1:=by omega
    rw[ma h3]at hq;have stop:nG l i≠0→W=nG l i:=fun h=>by
     rw[if_neg h]at hq;rw[←hq,if_pos h]at hW;exact hW.symm
    unfold nG at stop;by_cases a1:0≤(nth l i).lv∧(nth l i).lv≤16777216
    ·have a2:(!decide (0≤(nth l i).lv) || !decide ((nth l i).lv≤16777216))=false:=by simp;omega
     have a3:0<i→0≤(i:Int)-1:=by omega
     have a4:i-1<l.length:=by omega
     rw[if_neg (by omega)]at stop
     by_cases b1:0<i∧(nth l i).lv≤(nth l (i-1)).lv
     ·rw[if_pos b1]at stop
      have b2:0<i:=b1.1;have b3:=b1.2;have b4:0≤(i:Int)-1:=by omega
      simp (disch:=omega) [-getElem?_pos,-Int.natCast_eq_zero,wrap64,bp (l:=l),h3,dG,c5,a2,b2,b3,b4,h4,a4];exact(stop (by omega)).symm
     ·rw[if_neg b1]at stop
      by_cases c1:gd (nth l i).c=0
      ·rw[if_neg (by omega)]at stop
       have hp:=rE c1;have hfw:=(lL c1).kd;have c2:(((nth l i).c.length:Int)-1).toNat=(nth l i).c.length-1:=by omega
       have c3:(nth l i).c.length-1<(nth l i).c.length:=by omega
       have c4:0≤((nth l i).c.length:Int)-1:=by omega
       by_cases d1:(nth (nth l i).c 0).x=0∧(nth (nth l i).c 0).y=0
       ·rw[if_neg (by omega)]at stop
        obtain⟨d2,d3⟩:=d1;by_cases e1:1073741824<(nth (nth l i).c ((nth l i).c.length-1)).y
        ·rw[if_pos e1]at stop
         rcases Nat.eq_zero_or_pos i with b6|b6
         ·subst b6
          simp (disch:=omega) [-getElem?_pos,-Int.natCast_eq_zero,wrap64,bp (l:=l),h3,dG,c5,mV,lq,a2,c1,V.gX,eK,jQ,bp (l:=(nth l 0).c),hp,c2,c3,c4,d2,d3,e1];exact(stop (by omega)).symm
         ·have b7:¬ (nth l i).lv≤(nth l (i-1)).lv:=fun h=>b1 ⟨b6,h⟩
          have b4:0≤(i:Int)-1:=by omega
          simp (disch:=omega) [-getElem?_pos,-Int.natCast_eq_zero,wrap64,bp (l:=l),h3,dG,c5,mV,lq,a2,c1,b6,b7,b4,h4,a4,V.gX,eK,jQ,bp (l:=(nth l i).c),hp,c2,c3,c4,d2,d3,e1];exact(stop (by omega)).symm
        ·have hz:nG l i=0:=by
          unfold nG;rw[if_neg (by omega),if_neg b1,if_neg (by omega),if_neg (by omega),if_neg e1]
         rw[if_pos hz]at hq;rcases Nat.eq_zero_or_pos i with b6|b6
         ·subst b6
          simp (disch:=omega) [-getElem?_pos,-Int.natCast_eq_zero,wrap64,bp (l:=l),h3,dG,c5,mV,lq,a2,c1,V.gX,eK,jQ,bp (l:=(nth l 0).c),hp,c2,c3,c4,d2,d3,e1];exact cc (0+1) (by simp) ⟨by omega,hq⟩ (by omega)
         ·have b7:¬ (nth l i).lv≤(nth l (i-1)).lv:=fun h=>b1 ⟨b6,h⟩
          have b4:0≤(i:Int)-1:=by omega
          simp (disch:=omega) [-getElem?_pos,-Int.natCast_eq_zero,wrap64,bp (l:=l),h3,dG,c5,mV,lq,a2,c1,b6,b7,b4,h4,a4,V.gX,eK,jQ,bp (l:=(nth l i).c),hp,c2,c3,c4,d2,d3,e1];exact cc (i+1) (by simp) ⟨by omega,hq⟩ (by omega)
       ·rw[if_pos d1]at stop
        have d4:(decide ((nth (nth l i).c 0).x=0)&&decide ((nth (nth l i).c 0).y=0))=false:=by simpa using d1
        have d5:((nth (nth l i).c 0).x==0&&(nth (nth l i).c 0).y==0)=false:=by simpa using d1
        rcases Nat.eq_zero_or_pos i with b6|b6
        ·subst b6
         simp (disch:=omega) [-getElem?_pos,-Int.natCast_eq_zero,wrap64,bp (l:=l),h3,dG,c5,mV,lq,a2,c1,V.gX,eK,jQ,bp (l:=(nth l 0).c),hp,d4,d5];exact(stop (by omega)).symm
        ·have b7:¬ (nth l i).lv≤(nth l (i-1)).lv:=fun h=>b1 ⟨b6,h⟩
         have b4:0≤(i:Int)-1:=by omega
         simp (disch:=omega) [-getElem?_pos,-Int.natCast_eq_zero,wrap64,bp (l:=l),h3,dG,c5,mV,lq,a2,c1,b6,b7,b4,h4,a4,V.gX,eK,jQ,bp (l:=(nth l i).c),hp,d4,d5];exact(stop (by omega)).symm
      ·rw[if_pos c1]at stop
       rcases Nat.eq_zero_or_pos i with b6|b6
       ·subst b6
        simp (disch:=omega) [-getElem?_pos,-Int.natCast_eq_zero,wrap64,bp (l:=l),h3,dG,c5,mV,lq,a2,c1,c1];exact(stop (by omega)).symm
       ·have b7:¬ (nth l i).lv≤(nth l (i-1)).lv:=fun h=>b1 ⟨b6,h⟩
        have b4:0≤(i:Int)-1:=by omega
        simp (disch:=omega) [-getElem?_pos,-Int.natCast_eq_zero,wrap64,bp (l:=l),h3,dG,c5,mV,lq,a2,c1,b6,b7,b4,h4,a4,c1];exact(stop (by omega)).symm
    ·rw[if_pos a1]at stop
     have a2:(!decide (0≤(nth l i).lv) || !decide ((nth l i).lv≤16777216))=true:=by simp;omega
     simp (disch:=omega) [-getElem?_pos,-Int.natCast_eq_zero,wrap64,bp (l:=l),h3,dG,c5,a2];exact(stop (by omega)).symm
   ·obtain rfl:i=l.length:=by omega
    rw[mU]at hq;rw[←hq,if_neg (by omega)]at hW
    by_cases m1:0≤dw∧dw≤1000
    ·have m2:(!decide (0≤dw) || !decide (dw≤1000))=false:=by simp;omega
     by_cases m3:0≤move∧move≤1000
     ·have m4:(!decide (0≤move) || !decide (move≤1000))=false:=by simp;omega
      rw[if_neg (by omega)]at hW
      simp (disch:=omega) [-getElem?_pos,-Int.natCast_eq_zero,wrap64,dG,c5,m2,m4];exact hW
     ·have m4:(!decide (0≤move) || !decide (move≤1000))=true:=by simp;omega
      rw[if_pos (by omega)]at hW
      simp (disch:=omega) [-getElem?_pos,-Int.natCast_eq_zero,wrap64,dG,c5,m2,m4];exact hW
    ·have m2:(!decide (0≤dw) || !decide (dw≤1000))=true:=by simp;omega
     rw[if_pos (by omega)]at hW
     simp (disch:=omega) [-getElem?_pos,-Int.natCast_eq_zero,wrap64,dG,c5,m2];exact hW)
theorem xq(g:Gt)(G:List aV):bo F 133 [gt g] G=some (i64 (j8 g),G) :=
 cg rfl rfl (by
  obtain⟨l,dw,move⟩:=g;generalize hW:j8 ⟨l,dw,move⟩=W;unfold j8 at hW;simp only at hW;simp (disch:=omega) [-getElem?_pos,-Int.natCast_eq_zero,wrap64,Lf];refine b9 (fun h1=>?_) (fun h1=>b9 (fun h2=>?_) (fun h2=>?_))
  ·rw[if_pos (by omega)]at hW
   exact hW
  ·rw[if_neg (by omega),if_pos (by omega)]at hW
   exact hW
  ·rw[if_neg (by omega),if_neg (by omega)]at hW
   refine go_loop (fun i:Nat=>ab9 (zG l) l.length i [zG l,i64 dw,i64 move] G) (fun i=>i≤l.length∧ef (nG l) (l.length-i) i=ef (nG l) l.length 0) (fun i=>l.length-i) 0 rfl (by simp) ⟨by omega,rfl⟩ ?_
   rintro i ⟨hi,hq⟩;simp (disch:=omega) [-getElem?_pos,-Int.natCast_eq_zero,wrap64,Sj];refine b9 (fun h3=>?_) (fun h3=>?_)
   ·have h3:i<l.length:=by omega
    have h4:((i:Int)-1).toNat=i-1:=by omega
    rw[ma h3]at hq;have stop:nG l i≠0→W=nG l i:=fun h=>by
     rw[if_neg h]at hq;rw[←hq,if_pos h]at hW;exact hW.symm
    unfold nG at stop;by_cases a1:0≤(nth l i).lv∧(nth l i).lv≤16777216
    ·have a2:(!decide (0≤(nth l i).lv) || !decide ((nth l i).lv≤16777216))=false:=by simp;omega
     have a3:0<i→0≤(i:Int)-1:=by omega
     have a4:i-1<l.length:=by omega
     rw[if_neg (by omega)]at stop
     by_cases b1:0<i∧(nth l i).lv≤(nth l (i-1)).lv
     ·rw[if_pos b1]at stop
      have b2:0<i:=b1.1;have b3:=b1.2;have b4:0≤(i:Int)-1:=by omega
      simp (disch:=omega) [-getElem?_pos,-Int.natCast_eq_zero,wrap64,bp (l:=l),h3,dG,c5,a2,b2,b3,b4,h4,a4];exact(stop (by omega)).symm
     ·rw[if_neg b1]at stop
      by_cases c1:gd (nth l i).c=0
      ·rw[if_neg (by omega)]at stop
       have hp:=rE c1;have hfw:=(lL c1).kd;have c2:(((nth l i).c.length:Int)-1).toNat=(nth l i).c.length-1:=by omega
       have c3:(nth l i).c.length-1<(nth l i).c.length:=by omega
       have c4:0≤((nth l i).c.length:Int)-1:=by omega
       by_cases d1:(nth (nth l i).c 0).x=0∧(nth (nth l i).c 0).y=0
       ·rw[if_neg (by omega)]at stop
        obtain⟨d2,d3⟩:=d1;by_cases e1:1073741824<(nth (nth l i).c ((nth l i).c.length-1)).y
        ·rw[if_pos e1]at stop
         rcases Nat.eq_zero_or_pos i with b6|b6
         ·subst b6
          simp (disch:=omega) [-getElem?_pos,-Int.natCast_eq_zero,wrap64,bp (l:=l),h3,dG,c5,mV,lq,a2,c1,V.gX,eK,jQ,bp (l:=(nth l 0).c),hp,c2,c3,c4,d2,d3,e1];exact(stop (by omega)).symm
         ·have b7:¬ (nth l i).lv≤(nth l (i-1)).lv:=fun h=>b1 ⟨b6,h⟩
          have b4:0≤(i:Int)-1:=by omega
          simp (disch:=omega) [-getElem?_pos,-Int.natCast_eq_zero,wrap64,bp (l:=l),h3,dG,c5,mV,lq,a2,c1,b6,b7,b4,h4,a4,V.gX,eK,jQ,bp (l:=(nth l i).c),hp,c2,c3,c4,d2,d3,e1];exact(stop (by omega)).symm
        ·have hz:nG l i=0:=by
          unfold nG;rw[if_neg (by omega),if_neg b1,if_neg (by omega),if_neg (by omega),if_neg e1]
         rw[if_pos hz]at hq;rcases Nat.eq_zero_or_pos i with b6|b6
         ·subst b6
          simp (disch:=omega) [-getElem?_pos,-Int.natCast_eq_zero,wrap64,bp (l:=l),h3,dG,c5,mV,lq,a2,c1,V.gX,eK,jQ,bp (l:=(nth l 0).c),hp,c2,c3,c4,d2,d3,e1];exact cc (0+1) (by simp) ⟨by omega,hq⟩ (by omega)
         ·have b7:¬ (nth l i).lv≤(nth l (i-1)).lv:=fun h=>b1 ⟨b6,h⟩
          have b4:0≤(i:Int)-1:=by omega
          simp (disch:=omega) [-getElem?_pos,-Int.natCast_eq_zero,wrap64,bp (l:=l),h3,dG,c5,mV,lq,a2,c1,b6,b7,b4,h4,a4,V.gX,eK,jQ,bp (l:=(nth l i).c),hp,c2,c3,c4,d2,d3,e1];exact cc (i+1) (by simp) ⟨by omega,hq⟩ (by omega)
       ·rw[if_pos d1]at stop
        have d4:(decide ((nth (nth l i).c 0).x=0)&&decide ((nth (nth l i).c 0).y=0))=false:=by simpa using d1
        have d5:((nth (nth l i).c 0).x==0&&(nth (nth l i).c 0).y==0)=false:=by simpa using d1
        rcases Nat.eq_zero_or_pos i with b6|b6
        ·subst b6
         simp (disch:=omega) [-getElem?_pos,-Int.natCast_eq_zero,wrap64,bp (l:=l),h3,dG,c5,mV,lq,a2,c1,V.gX,eK,jQ,bp (l:=(nth l 0).c),hp,d4,d5];exact(stop (by omega)).symm
        ·have b7:¬ (nth l i).lv≤(nth l (i-1)).lv:=fun h=>b1 ⟨b6,h⟩
         have b4:0≤(i:Int)-1:=by omega
         simp (disch:=omega) [-getElem?_pos,-Int.natCast_eq_zero,wrap64,bp (l:=l),h3,dG,c5,mV,lq,a2,c1,b6,b7,b4,h4,a4,V.gX,eK,jQ,bp (l:=(nth l i).c),hp,d4,d5];exact(stop (by omega)).symm
      ·rw[if_pos c1]at stop
       rcases Nat.eq_zero_or_pos i with b6|b6
       ·subst b6
        simp (disch:=omega) [-getElem?_pos,-Int.natCast_eq_zero,wrap64,bp (l:=l),h3,dG,c5,mV,lq,a2,c1,c1];exact(stop (by omega)).symm
       ·have b7:¬ (nth l i).lv≤(nth l (i-1)).lv:=fun h=>b1 ⟨b6,h⟩
        have b4:0≤(i:Int)-1:=by omega
        simp (disch:=omega) [-getElem?_pos,-Int.natCast_eq_zero,wrap64,bp (l:=l),h3,dG,c5,mV,lq,a2,c1,b6,b7,b4,h4,a4,c1];exact(stop (by omega)).symm
    ·rw[if_pos a1]at stop
     have a2:(!decide (0≤(nth l i).lv) || !decide ((nth l i).lv≤16777216))=true:=by simp;omega
     simp (disch:=omega) [-getElem?_pos,-Int.natCast_eq_zero,wrap64,bp (l:=l),h3,dG,c5,a2];exact(stop (by omega)).symm
   ·obtain rfl:i=l.length:=by omega
    rw[mU]at hq;rw[←hq,if_neg (by omega)]at hW
    by_cases m1:0≤dw∧dw≤1000
    ·have m2:(!decide (0≤dw) || !decide (dw≤1000))=false:=by simp;omega
     by_cases m3:0≤move∧move≤1000
     ·have m4:(!decide (0≤move) || !decide (move≤1000))=false:=by simp;omega
      rw[if_neg (by omega)]at hW
      simp (disch:=omega) [-getElem?_pos,-Int.natCast_eq_zero,wrap64,dG,c5,m2,m4];exact hW
     ·have m4:(!decide (0≤move) || !decide (move≤1000))=true:=by simp;omega
      rw[if_pos (by omega)]at hW
      simp (disch:=omega) [-getElem?_pos,-Int.natCast_eq_zero,wrap64,dG,c5,m2,m4];exact hW
    ·have m2:(!decide (0≤dw) || !decide (dw≤1000))=true:=by simp;omega
     rw[if_pos (by omega)]at hW
     simp (disch:=omega) [-getElem?_pos,-Int.natCast_eq_zero,wrap64,dG,c5,m2];exact hW)
end Go.Proofs.YtmpikpodpgnjhaaGreat
namespace Go.Proofs.YtmpikpodpgnjhaaGreat
set_option linter.all false
open Go.Vm
attribute [local simp] eS eT eQ eR
structure Gs where
 o:Int
 j:Bool
 deriving Inhabited,DecidableEq
abbrev Gs.row(s:Gs):List V:=[i64 s.o,.bool s.j]
abbrev gs(s:Gs):V:=.agg s.row
abbrev jK(l:List Gt):V:=.slice none 3 (l.map Gt.row)
abbrev jy(l:List Gs):V:=.slice none 2 (l.map Gs.row)
def sQ(l:List Rt)(lv:Int):Option (List Pt):=l.foldl (fun a r=>if r.lv≤lv then some r.c else a) none
def qg(l:List Rt)(lv:Int):List Pt:=(sQ l lv).getD []
theorem Ed{l:List Rt}{r:Rt}{lv:Int}:sQ (l++[r]) lv=if r.lv≤lv then some r.c else sQ l lv:=by
 simp[sQ,List.foldl_append]
def xr:Option (List Pt)→V
 |none=>.aK
 |some c=>iu c
@[simp] theorem apc{o:Option (List Pt)}{d:Nat}:(xr o).cI d=false:=by cases o<;>rfl
@[simp] theorem apd{o:Option (List Pt)}:(xr o).cM=true:=by cases o<;>rfl
def qR(c:List Pt)(o:Int):Int:=if c.length=0 then 0 else ic c o
structure Gv(g:Gt):Prop where
 cur:∀i,i<g.r.length→gd (nth g.r i).c=0
 top:∀i,i<g.r.length→(nth (nth g.r i).c ((nth g.r i).c.length-1)).y≤1073741824
 bot:∀i,i<g.r.length→(nth (nth g.r i).c 0).x=0∧(nth (nth g.r i).c 0).y=0
 kd:0<g.r.length∧g.r.length≤10
 dw:0≤g.dw∧g.dw≤1000
 move:0≤g.move∧g.move≤1000
theorem Ui{g:Gt}(h:j8 g=0):Gv g:=by
 unfold j8 at h;split at h
 ·cases h
 split at h
 ·cases h
 split at h
 ·rename_i h3;exact absurd h h3
 split at h
 ·cases h
 rename_i h1 h2 h3 h4;have h3:ef (nG g.r) g.r.length 0=0:=Decidable.of_not_not h3;have at_:∀i,i<g.r.length→gd (nth g.r i).c=0∧((nth (nth g.r i).c 0).x=0∧(nth (nth g.r i).c 0).y=0)∧(nth (nth g.r i).c ((nth g.r i).c.length-1)).y≤1073741824:=fun i hi=>by
  have:=sH h3 i (by omega) (by omega)
  unfold nG at this;split at this
  ·cases this
  split at this
  ·cases this
  split at this
  ·rename_i h5;exact absurd this h5
  split at this
  ·cases this
  split at this
  ·cases this
  rename_i h5 h6 h7;exact⟨Decidable.of_not_not h5,Decidable.of_not_not h6,by omega⟩
 exact⟨fun i hi=>(at_ i hi).1,fun i hi=>(at_ i hi).2.2,fun i hi=>(at_ i hi).2.1,by omega,by omega,by omega⟩
theorem Uj{P:List Pt→Prop}{l:List Rt}{lv:Int}(h:∀i,i<l.length→P (nth l i).c):qg l lv=[]∨P (qg l lv):=by
 have key:∀k,k≤l.length→∀c,sQ (l.take k) lv=some c→P c:=by
  intro k;induction k with
  |zero=>intro _ c hc;simp[sQ]at hc
  |succ k ih =>
   intro hk c hc;rw[jJ (by omega),Ed]at hc
   split at hc
   ·cases hc;exact h k (by omega)
   ·exact ih (by omega) c hc
 have:=key l.length (Nat.le_refl _);rw[List.take_length]at this;unfold qg;cases hc:sQ l lv with
 |none=>exact .inl rfl
 |some c=>exact .inr (this c hc)
theorem Uk{g:Gt}(hv:Gv g)(lv:Int)(G:List aV):∃t,bo F 212 [gt g,i64 lv] G=some (.agg [.slice t 2 ((qg g.r lv).map Pt.row),i64 0],G):=by
 suffices h:∀Q:V→List aV→Prop,(∀t,Q (.agg [.slice t 2 ((qg g.r lv).map Pt.row),i64 0]) G)→iV (bo F) 212 [gt g,i64 lv] G Q by
  obtain⟨_,_,h,t,rfl,rfl⟩:=h (fun v G'=>∃t,v=.agg [.slice t 2 ((qg g.r lv).map Pt.row),i64 0]∧G'=G) fun t=>⟨t,rfl,rfl⟩;exact⟨t,h⟩
 intro Q hQ;obtain⟨l,dw,move⟩:=g;have Bq:=hv.kd;simp only at Bq;refine ju rfl rfl ?_;simp (disch:=omega) [-getElem?_pos,wrap64,LY];refine go_loop (fun i:Nat=>adw lv (zG l) l.length i [.aK,i64 0] [xr (sQ (l.take i) lv),i64 0] G) (fun i=>i≤l.length) (fun i=>l.length-i) 0 rfl (by simp[sQ,xr]) (by omega) ?_
 rintro i hi;simp (disch:=omega) [-getElem?_pos,wrap64,S4];refine b9 (fun h3=>?_) (fun h3=>?_)
 ·have h3:i<l.length:=by omega
  by_cases h4:(nth l i).lv≤lv
  ·simp (disch:=omega) [-getElem?_pos,wrap64,bp (l:=l),h3,h4]
   refine cc (i+1) (by simp[jJ h3,Ed,h4,xr]) (by omega) (by omega)
  ·simp (disch:=omega) [-getElem?_pos,wrap64,bp (l:=l),h3,h4]
   refine cc (i+1) (by simp[jJ h3,Ed,h4,xr]) (by omega) (by omega)
 ·obtain rfl:i=l.length:=by omega
  rw[List.take_length];cases hc:sQ l lv with
  |none =>
   simp only[qg,hc]at hQ;simp (disch:=omega) [-getElem?_pos,wrap64,xr];exact hQ _
  |some c =>
   simp only[qg,hc]at hQ;simp (disch:=omega) [-getElem?_pos,wrap64,xr];exact hQ _
theorem MO{c:List Pt}(h:c=[]∨gd c=0)(w o:Int)(G:List aV):bo F 214 [.agg [iu c,i64 w],i64 o] G=some (i64 (qR c o),G) :=
 cg rfl rfl (by
  rcases h with rfl|h
  ·simp[wrap64,GQ,qR]
  ·have hp:=rE h
   have h1:¬ c.length=0:=by omega
   have h2:¬ (c.length:Int)=0:=by omega
   simp[wrap64,GQ,qR,G4 (lL h),h1,h2])
theorem ahK{c:List Pt}(h:c=[]∨gd c=0)(w o:Int)(G:List aV):bo F 211 [.agg [iu c,i64 w],i64 o] G=some (.bool (decide (w≤qR c o)),G) :=
 cg rfl rfl (by
  simp[wrap64,LX,MO h])
def iP(g:Gt)(o lv:Int):Int:=qR (qg g.r lv) o
theorem ahL{g:Gt}(h:Gv g)(o lv:Int)(G:List aV):bo F 172 [gt g,i64 o,i64 lv] G=some (i64 (iP g o lv),G) :=
 cg rfl rfl (by
  obtain⟨l,dw,move⟩:=g;have MP:=h.cur;have Bq:=h.kd;simp only at MP Bq;generalize hW:iP ⟨l,dw,move⟩ o lv=W;unfold iP qg at hW;simp only at hW;simp (disch:=omega) [-getElem?_pos,wrap64,Lz];refine go_loop (fun i:Nat=>acI o lv (qR ((sQ (l.take i) lv).getD []) o) (zG l) l.length i G) (fun i=>i≤l.length) (fun i=>l.length-i) 0 rfl (by simp[sQ,qR]) (by omega) ?_
  rintro i hi;simp (disch:=omega) [-getElem?_pos,wrap64,SD];refine b9 (fun h3=>?_) (fun h3=>?_)
  ·have h3:i<l.length:=by omega
   have hp:=rE (MP i h3);have hn:¬ (nth l i).c=[]:=fun e=>by rw[e]at hp;simp at hp
   by_cases h4:(nth l i).lv≤lv
   ·simp (disch:=omega) [-getElem?_pos,wrap64,bp (l:=l),h3,h4,Me,MP]
    refine cc (i+1) (by simp[jJ h3,Ed,h4,qR,hn]) (by omega) (by omega)
   ·simp (disch:=omega) [-getElem?_pos,wrap64,bp (l:=l),h3,h4]
    refine cc (i+1) (by simp[jJ h3,Ed,h4]) (by omega) (by omega)
  ·obtain rfl:i=l.length:=by omega
   rw[List.take_length];simp (disch:=omega) [-getElem?_pos,wrap64,hW])
def mF(g:Gt)(s:Gs):Prop:=0≤s.o∧s.o≤g.dw
instance {g:Gt} {s:Gs}:Decidable (mF g s):=inferInstanceAs (Decidable (_∧_))
def fh(g:Gt)(s:Gs):Bd:=if s.j then ⟨s.o,s.o⟩ else ⟨max (s.o-g.move) 0,min (s.o+g.move) g.dw⟩
theorem Ul{g:Gt}{s:Gs}(h:Gv g)(hs:mF g s)(G:List aV):bo F 213 [gt g,gs s] G=some (.agg (fh g s).row,G) :=
 cg rfl rfl (by
  obtain⟨l,dw,move⟩:=g;obtain⟨o,j⟩:=s;have h1:=h.dw;have h2:=h.move;have h3:=hs.1;have h4:=hs.2;simp only at h1 h2 h3 h4;cases j with
  |true=>simp (disch:=omega) [wrap64,GP,fh]
  |false =>
   have e1:max (0:Int) (o-move)=max (o-move) 0:=Int.max_comm _ _;have e2:min dw (o+move)=min (o+move) dw:=Int.min_comm _ _;simp (disch:=omega) [wrap64,GP,fh,e1,e2])
theorem ahM{g:Gt}{s:Gs}(h:Gv g)(hs:mF g s)(G:List aV):bo F 171 [gt g,gs s] G=some (.agg (fh g s).row,G) :=
 cg rfl rfl (by
  obtain⟨l,dw,move⟩:=g;obtain⟨o,j⟩:=s;have h1:=h.dw;have h2:=h.move;have h3:=hs.1;have h4:=hs.2;simp only at h1 h2 h3 h4;cases j with
  |true=>simp (disch:=omega) [wrap64,Gz,fh]
  |false =>
   have e1:max (0:Int) (o-move)=max (o-move) 0:=Int.max_comm _ _;have e2:min dw (o+move)=min (o+move) dw:=Int.min_comm _ _;simp (disch:=omega) [wrap64,Gz,fh,e1,e2])
theorem Hl(g:Gt)(s:Gs)(G:List aV):bo F 227 [gt g,gs s] G=some (.bool (decide (mF g s)),G) :=
 cg rfl rfl (by
  simp[wrap64,GS,Gp,dG,c5,mF];by_cases h1:0≤s.o<;>by_cases h2:s.o≤g.dw<;>simp[h1,h2])
theorem xt(g:Gt)(s:Gs)(G:List aV):bo F 136 [gt g,gs s] G=some (.bool (decide (mF g s)),G) :=
 cg rfl rfl (by
  simp[wrap64,GS,Gp,dG,c5,mF];by_cases h1:0≤s.o<;>by_cases h2:s.o≤g.dw<;>simp[h1,h2])
def v7(g:List Gt)(s:List Gs):Prop:=∀i,i<g.length→mF (nth g i) (nth s i)
noncomputable instance {g:List Gt} {s:List Gs}:Decidable (v7 g s):=Classical.propDecidable _
noncomputable def aE(g:List Gt)(s:List Gs)(lv:Int):Int :=
 if 8<g.length then 10 else if g.length≠s.length then 3 else if ¬v7 g s then 3
 else if ef (fun i=>j8 (nth g i)) g.length 0≠0 then ef (fun i=>j8 (nth g i)) g.length 0 else if ¬(0≤lv∧lv≤16777216) then 1 else 0
theorem Um(g:List Gt)(s:List Gs)(lv:Int)(G:List aV):bo F 222 [jK g,jy s,i64 lv] G=some (i64 (aE g s lv),G) :=
 cg rfl rfl (by
  generalize hW:aE g s lv=W;unfold aE at hW;simp (disch:=omega) [-getElem?_pos,wrap64,GR,Gj];refine b9 (fun h1=>?_) (fun h1=>gV (fun h2=>?_) (fun h2=>?_))
  ·rw[if_pos (by omega)]at hW
   exact hW
  ·simp[-List.length_eq_zero_iff,-Int.natCast_eq_zero]at h2
   rw[if_neg (by omega),if_pos (by omega)]at hW
   exact hW
  ·simp[-List.length_eq_zero_iff,-Int.natCast_eq_zero]at h2
   rw[if_neg (by omega),if_neg (by omega)]at hW
   have hl:g.length=s.length:=by omega
   refine go_loop (fun i:Nat=>adJ (jK g) (jy s) lv (jK g) g.length i G) (fun i=>i≤g.length∧∀j,j<i→mF (nth g j) (nth s j)) (fun i=>g.length-i) 0 rfl (by simp) ⟨by omega,by omega⟩ ?_
   rintro i ⟨hi,hv⟩;simp (disch:=omega) [-getElem?_pos,wrap64,Ta];refine b9 (fun h3=>?_) (fun h3=>?_)
   ·have h3:i<g.length:=by omega
    by_cases h4:mF (nth g i) (nth s i)
    ·simp (disch:=omega) [-getElem?_pos,wrap64,bp (l:=g),bp (l:=s),Hl,xt,h4]
     refine cc (i+1) (by simp) ⟨by omega,fun j hj=>?_⟩ (by omega)
     rcases Nat.lt_or_ge j i with h5|h5
     ·exact hv j h5
     ·rwa [show j=i by omega]
    ·rw[if_pos (fun h=>h4 (h i h3))]at hW
     simp (disch:=omega) [-getElem?_pos,wrap64,bp (l:=g),bp (l:=s),Hl,xt,h4];exact hW
   ·obtain rfl:i=g.length:=by omega
    rw[if_neg (fun h=>h hv)]at hW;refine go_loop (fun i:Nat=>adL lv (jK g) g.length i G) (fun i=>i≤g.length∧ef (fun i=>j8 (nth g i)) (g.length-i) i=ef (fun i=>j8 (nth g i)) g.length 0) (fun i=>g.length-i) 0 rfl (by simp) ⟨by omega,rfl⟩ ?_
    rintro i ⟨hi,hq⟩;simp (disch:=omega) [-getElem?_pos,wrap64,Tb];refine b9 (fun h3=>?_) (fun h3=>?_)
    ·have h3:i<g.length:=by omega
     rw[ma h3]at hq;by_cases h4:j8 (nth g i)=0
     ·rw[if_pos h4]at hq
      simp (disch:=omega) [-getElem?_pos,wrap64,bp (l:=g),xp,xq,h4];exact cc (i+1) (by simp) ⟨by omega,hq⟩ (by omega)
     ·rw[if_neg h4]at hq
      rw[←hq,if_pos h4]at hW;simp (disch:=omega) [-getElem?_pos,wrap64,bp (l:=g),xp,xq,h4];exact hW
    ·obtain rfl:i=g.length:=by omega
     rw[mU]at hq;rw[←hq,if_neg (by omega)]at hW
     by_cases m1:0≤lv∧lv≤16777216
     ·have m2:(!decide (0≤lv) || !decide (lv≤16777216))=false:=by simp;omega
      rw[if_neg (by omega)]at hW
      simp (disch:=omega) [-getElem?_pos,wrap64,dG,c5,m2];exact hW
     ·have m2:(!decide (0≤lv) || !decide (lv≤16777216))=true:=by simp;omega
      rw[if_pos (by omega)]at hW
      simp (disch:=omega) [-getElem?_pos,wrap64,dG,c5,m2];exact hW)
theorem Hm(g:List Gt)(s:List Gs)(lv:Int)(G:List aV):bo F 123 [jK g,jy s,i64 lv] G=some (i64 (aE g s lv),G) :=
 cg rfl rfl (by
  generalize hW:aE g s lv=W;unfold aE at hW;simp (disch:=omega) [-getElem?_pos,wrap64,GR,Gj];refine b9 (fun h1=>?_) (fun h1=>gV (fun h2=>?_) (fun h2=>?_))
  ·rw[if_pos (by omega)]at hW
   exact hW
  ·simp[-List.length_eq_zero_iff,-Int.natCast_eq_zero]at h2
   rw[if_neg (by omega),if_pos (by omega)]at hW
   exact hW
  ·simp[-List.length_eq_zero_iff,-Int.natCast_eq_zero]at h2
   rw[if_neg (by omega),if_neg (by omega)]at hW
   have hl:g.length=s.length:=by omega
   refine go_loop (fun i:Nat=>abE (jK g) (jy s) lv (jK g) g.length i G) (fun i=>i≤g.length∧∀j,j<i→mF (nth g j) (nth s j)) (fun i=>g.length-i) 0 rfl (by simp) ⟨by omega,by omega⟩ ?_
   rintro i ⟨hi,hv⟩;simp (disch:=omega) [-getElem?_pos,wrap64,R4];refine b9 (fun h3=>?_) (fun h3=>?_)
   ·have h3:i<g.length:=by omega
    by_cases h4:mF (nth g i) (nth s i)
    ·simp (disch:=omega) [-getElem?_pos,wrap64,bp (l:=g),bp (l:=s),Hl,xt,h4]
     refine cc (i+1) (by simp) ⟨by omega,fun j hj=>?_⟩ (by omega)
     rcases Nat.lt_or_ge j i with h5|h5
     ·exact hv j h5
     ·rwa [show j=i by omega]
    ·rw[if_pos (fun h=>h4 (h i h3))]at hW
     simp (disch:=omega) [-getElem?_pos,wrap64,bp (l:=g),bp (l:=s),Hl,xt,h4];exact hW
   ·obtain rfl:i=g.length:=by omega
    rw[if_neg (fun h=>h hv)]at hW;refine go_loop (fun i:Nat=>abI lv (jK g) g.length i G) (fun i=>i≤g.length∧ef (fun i=>j8 (nth g i)) (g.length-i) i=ef (fun i=>j8 (nth g i)) g.length 0) (fun i=>g.length-i) 0 rfl (by simp) ⟨by omega,rfl⟩ ?_
    rintro i ⟨hi,hq⟩;simp (disch:=omega) [-getElem?_pos,wrap64,R5];refine b9 (fun h3=>?_) (fun h3=>?_)
    ·have h3:i<g.length:=by omega
     rw[ma h3]at hq;by_cases h4:j8 (nth g i)=0
     ·rw[if_pos h4]at hq
      simp (disch:=omega) [-getElem?_pos,wrap64,bp (l:=g),xp,xq,h4];exact cc (i+1) (by simp) ⟨by omega,hq⟩ (by omega)
     ·rw[if_neg h4]at hq
      rw[←hq,if_pos h4]at hW;simp (disch:=omega) [-getElem?_pos,wrap64,bp (l:=g),xp,xq,h4];exact hW
    ·obtain rfl:i=g.length:=by omega
     rw[mU]at hq;rw[←hq,if_neg (by omega)]at hW
     by_cases m1:0≤lv∧lv≤16777216
     ·have m2:(!decide (0≤lv) || !decide (lv≤16777216))=false:=by simp;omega
      rw[if_neg (by omega)]at hW
      simp (disch:=omega) [-getElem?_pos,wrap64,dG,c5,m2];exact hW
     ·have m2:(!decide (0≤lv) || !decide (lv≤16777216))=true:=by simp;omega
      rw[if_pos (by omega)]at hW
      simp (disch:=omega) [-getElem?_pos,wrap64,dG,c5,m2];exact hW)
end Go.Proofs.YtmpikpodpgnjhaaGreat
namespace Go.Proofs.YtmpikpodpgnjhaaGreat
set_option linter.all false
open Go.Vm
attribute [local simp] eS eT eQ eR
theorem ahN{c:List Pt}{i:Nat}:od c i (nth c (i-1)).x=(nth c (i-1)).y:=by simp[od]
theorem ahO{c:List Pt}(h:Cv c){k:Nat}(hk:k<c.length){x:Int}(hx:x≤(nth c k).x):ic c x≤(nth c k).y:=by
 rcases Mc h x with h1 | ⟨i,a,b,d,e⟩ | h1
 ·rw[y4 h h1];exact h.le (by omega) hk
 ·rw[uK h a b d e]
  have h2:=DU h a b d e;rcases Nat.lt_or_ge k i with h3|h3
  ·rcases Nat.lt_or_ge k (i-1) with h4|h4
   ·have:=h.lt h4 (by omega);omega
   ·obtain rfl:k=i-1:=by omega
    have:x=(nth c (i-1)).x:=by omega
    rw[this,ahN];omega
  ·have:=h.le h3 hk
   unfold od;omega
 ·have hp:=h.pos
  rcases Nat.lt_or_ge k (c.length-1) with h4|h4
  ·have:=h.lt h4 (by omega);omega
  ·obtain rfl:k=c.length-1:=by omega
   rw[GZ h h1];omega
theorem MQ{c:List Pt}(h:Cv c){x x':Int}(hx:x≤x'):ic c x≤ic c x':=by
 rcases Mc h x' with h1 | ⟨i,a,b,d,e⟩ | h1
 ·rw[y4 h h1,y4 h (by omega)];omega
 ·by_cases h2:(nth c (i-1)).x≤x
  ·rw[uK h a b d e,uK h a b h2 (by omega)]
   have h3:=h.up i a b;have h4:=h.mono i a b;unfold od;have:=Int.tdiv_le_tdiv (a:=((nth c i).y-(nth c (i-1)).y)*(x-(nth c (i-1)).x)) (b:=((nth c i).y-(nth c (i-1)).y)*(x'-(nth c (i-1)).x)) (c:=(nth c i).x-(nth c (i-1)).x) (by omega)
    (Int.mul_le_mul_of_nonneg_left (by omega) (by omega))
   omega
  ·have h5:=ahO h (k:=i-1) (by omega) (x:=x) (by omega)
   have h6:=DU h a b d e;rw[uK h a b d e];unfold od;omega
 ·rw[GZ h h1]
  exact(Bo h x).2
theorem ahP{c:List Pt}(h:c=[]∨gd c=0){o o':Int}(ho:o≤o'):qR c o≤qR c o':=by
 rcases h with rfl|h
 ·simp[qR]
 ·unfold qR
  rw[if_neg (by have:=rE h;omega),if_neg (by have:=rE h;omega)]
  exact MQ (lL h) ho
theorem MR{g:Gt}(h:Gv g)(lv:Int):qg g.r lv=[]∨gd (qg g.r lv)=0:=Uj (P:=fun c=>gd c=0) h.cur
theorem ahQ{g:Gt}(h:Gv g){lv o o':Int}(ho:o≤o'):iP g o lv≤iP g o' lv:=ahP (MR h lv) ho
theorem rH{g:Gt}(h:Gv g)(o lv:Int):0≤iP g o lv∧iP g o lv≤1073741824:=by
 unfold iP qR;have h1:=Uj (P:=fun c=>gd c=0∧(nth c (c.length-1)).y≤1073741824) (l:=g.r) (lv:=lv) (fun i hi=>⟨h.cur i hi,h.top i hi⟩);rcases h1 with h1 | ⟨h1,h2⟩
 ·rw[h1];simp
 ·rw[if_neg (by have:=rE h1;omega)]
  have h3:=Bo (lL h1) o;have h4:=(lL h1).y0 0 (rE h1);omega
theorem Ee{g:List Gt}{s:List Gs}{lv:Int}(h:aE g s lv=0):g.length≤8∧g.length=s.length∧v7 g s∧(∀i,i<g.length→Gv (nth g i))∧0≤lv∧lv≤16777216:=by
 unfold aE at h;split at h
 ·cases h
 split at h
 ·cases h
 split at h
 ·cases h
 split at h
 ·rename_i h1;exact absurd h h1
 split at h
 ·cases h
 rename_i h1 h2 h3 h4 h5;have h4:=Decidable.of_not_not h4;exact⟨by omega,by omega,Decidable.of_not_not h3,fun i hi=>Ui (sH h4 i (by omega) (by omega)),by omega⟩
def kX(f:Gt→Gs→Int)(g:List Gt)(s:List Gs)(i:Nat):Int:=(List.zipWith f (g.take i) (s.take i)).sum
theorem Hn{f:Gt→Gs→Int}{g:List Gt}{s:List Gs}:kX f g s 0=0:=by simp[kX]
theorem zI{f:Gt→Gs→Int}{g:List Gt}{s:List Gs}{i:Nat}(h1:i<g.length)(h2:i<s.length):kX f g s (i+1)=kX f g s i+f (nth g i) (nth s i):=by
 unfold kX;rw[vV h1 h2,List.sum_append];simp
theorem MS{f:Gt→Gs→Int}{g:List Gt}{s:List Gs}(hl:g.length=s.length)(h:∀i,i<g.length→0≤f (nth g i) (nth s i)∧f (nth g i) (nth s i)≤1073741824):∀i,i≤g.length→0≤kX f g s i∧kX f g s i≤1073741824*i:=by
 intro i;induction i with
 |zero=>intro _;rw[Hn];omega
 |succ i ih =>
  intro hi;rw[zI (by omega) (by omega)]
  have:=ih (by omega)
  have:=h i (by omega)
  omega
def gf(lv:Int)(g:Gt)(s:Gs):Int:=iP g (fh g s).lo lv
def Ho(lv:Int)(g:Gt)(s:Gs):Int:=iP g (fh g s).hi lv
noncomputable def BB(g:List Gt)(s:List Gs)(lv:Int):V:=if aE g s lv=0 then .tuple [.agg [i64 (kX (gf lv) g s g.length),i64 (kX (Ho lv) g s g.length)],i64 0] else .tuple [.agg [i64 0,i64 0],i64 (aE g s lv)]
theorem MT(g:List Gt)(s:List Gs)(lv:Int)(G:List aV):bo F 210 [jK g,jy s,i64 lv] G=some (BB g s lv,G) :=
 cg rfl rfl (by
  generalize hW:BB g s lv=W;unfold BB at hW;by_cases he:aE g s lv=0
  ·rw[if_pos he]at hW
   obtain⟨h1,h2,h3,h4,h5⟩:=Ee he;have r1:=MS (f:=gf lv) h2 (fun i hi=>rH (h4 i hi) _ _);have r2:=MS (f:=Ho lv) h2 (fun i hi=>rH (h4 i hi) _ _);simp (disch:=omega) [-getElem?_pos,wrap64,GO,Um,he];refine go_loop (fun i:Nat=>adt (jy s) lv (jK g) g.length i [i64 0,i64 0] [i64 (kX (gf lv) g s i),i64 (kX (Ho lv) g s i)] G) (fun i=>i≤g.length) (fun i=>g.length-i) 0 rfl (by simp[Hn]) (by omega) ?_
   rintro i hi;simp (disch:=omega) [-getElem?_pos,wrap64,SZ];refine b9 (fun h6=>?_) (fun h6=>?_)
   ·have h6:i<g.length:=by omega
    have h7:i<s.length:=by omega
    obtain⟨t,ht⟩:=Uk (h4 i h6) lv [];have hr:=Ul (h4 i h6) (h3 i h6);have hf:=MO (MR (h4 i h6) lv);have b1:=r1 i (by omega)
    have b2:=r2 i (by omega)
    have b3:=rH (h4 i h6) (fh (nth g i) (nth s i)).lo lv;have b4:=rH (h4 i h6) (fh (nth g i) (nth s i)).hi lv;unfold iP at b3 b4;simp (disch:=omega) [-getElem?_pos,wrap64,bp (l:=g),bp (l:=s),ht,hr,hf];exact cc (i+1) (by simp[zI h6 h7,gf,Ho,iP]) (by omega) (by omega)
   ·obtain rfl:i=g.length:=by omega
    exact hW
  ·rw[if_neg he]at hW
   simp (disch:=omega) [-getElem?_pos,wrap64,GO,Um,he];exact hW)
end Go.Proofs.YtmpikpodpgnjhaaGreat
namespace Go.Proofs.YtmpikpodpgnjhaaGreat
set_option linter.all false
open Go.Vm
attribute [local simp] eS eT eQ eR
def kY(f:Bd→Int)(g:List Gt)(s:List Gs):List Int:=List.zipWith (fun g s=>f (fh g s)) g s
theorem xu{f:Bd→Int}{g:List Gt}{s:List Gs}(h:g.length=s.length):(kY f g s).length=g.length:=by simp[kY,h]
theorem Ef{f:Bd→Int}{g:List Gt}{s:List Gs}{i:Nat}(h1:i<g.length)(h2:i<s.length):nth (kY f g s) i=f (fh (nth g i) (nth s i)):=Bu h1 h2
theorem ahR{g:List Gt}{s:List Gs}(hl:g.length=s.length)(hn:g.length≤8)(hs:v7 g s)(hv:∀i,i<g.length→Gv (nth g i))(G:List aV) :
  bo F 124 [jK g,jy s] G=some (.tuple [own (kY Bd.lo g s),own (kY Bd.hi g s)],G) :=
 cg rfl rfl (by
  simp (disch:=omega) [-getElem?_pos,wrap64,K6];refine go_loop (fun i:Nat=>abK (jy s) (.slice (some 1028) 1 ((kY Bd.lo (g.take i) (s.take i)).map fun n=>[i64 n])) (.slice (some 1033) 1 ((kY Bd.hi (g.take i) (s.take i)).map fun n=>[i64 n])) (jK g) g.length i i i G) (fun i=>i≤g.length) (fun i=>g.length-i) 0 rfl (by simp[kY]) (by omega) ?_
  rintro i hi;have e1:(kY Bd.lo (g.take i) (s.take i)).length=i:=by rw[xu (by simp;omega)];simp;omega
  have e2:(kY Bd.hi (g.take i) (s.take i)).length=i:=by rw[xu (by simp;omega)];simp;omega
  simp (disch:=omega) [-getElem?_pos,wrap64,R6,e1,e2];refine b9 (fun h6=>?_) (fun h6=>?_)
  ·have h6:i<g.length:=by omega
   have h7:i<s.length:=by omega
   have hr:=ahM (hv i h6) (hs i h6);simp (disch:=omega) [-getElem?_pos,wrap64,bp (l:=g),bp (l:=s),hr,e1,e2];refine cc (i+1) ?_ (by omega) (by omega)
   unfold kY;rw[vV h6 h7,vV h6 h7];simp
  ·obtain rfl:i=g.length:=by omega
   have t1:g.take g.length=g:=List.take_length;have t2:s.take g.length=s:=by rw[hl];exact List.take_length
   rw[t1,t2]at *;simp (disch:=omega) [-getElem?_pos,wrap64,e1,e2])
def o0(g:List Gt)(l:List Int)(lv:Int)(i:Nat):Int:=(List.zipWith (fun g o=>iP g o lv) (g.take i) (l.take i)).sum
theorem Hp{g:List Gt}{l:List Int}{lv:Int}:o0 g l lv 0=0:=by simp[o0]
theorem Eg{g:List Gt}{l:List Int}{lv:Int}{i:Nat}(h1:i<g.length)(h2:i<l.length):o0 g l lv (i+1)=o0 g l lv i+iP (nth g i) (nth l i) lv:=by
 unfold o0;rw[vV h1 h2,List.sum_append];simp
theorem ahS{g:List Gt}{l:List Int}{lv:Int}(hl:g.length=l.length)(hv:∀i,i<g.length→Gv (nth g i)):∀i,i≤g.length→0≤o0 g l lv i∧o0 g l lv i≤1073741824*i:=by
 intro i;induction i with
 |zero=>intro _;rw[Hp];omega
 |succ i ih =>
  intro hi;rw[Eg (by omega) (by omega)]
  have:=ih (by omega)
  have:=rH (hv i (by omega)) (nth l i) lv
  omega
theorem Eh{g:List Gt}{l:List Int}(hl:g.length=l.length)(hn:g.length≤8)(hv:∀i,i<g.length→Gv (nth g i))(lv:Int)(G:List aV) :
  bo F 125 [jK g,ints l,i64 lv] G=some (i64 (o0 g l lv g.length),G) :=
 cg rfl rfl (by
  generalize hW:o0 g l lv g.length=W;simp (disch:=omega) [-getElem?_pos,wrap64,K7];refine go_loop (fun i:Nat=>abO (ints l) lv (o0 g l lv i) (jK g) g.length i G) (fun i=>i≤g.length) (fun i=>g.length-i) 0 rfl (by simp[Hp]) (by omega) ?_
  rintro i hi;simp (disch:=omega) [-getElem?_pos,wrap64,R7];refine b9 (fun h6=>?_) (fun h6=>?_)
  ·have h6:i<g.length:=by omega
   have h7:i<l.length:=by omega
   have hr:=ahL (hv i h6);have b1:=ahS (lv:=lv) hl hv i (by omega)
   have b2:=rH (hv i h6) (nth l i) lv;simp (disch:=omega) [-getElem?_pos,wrap64,bp (l:=g),eB h7,hr];exact cc (i+1) (by simp[Eg h6 h7]) (by omega) (by omega)
  ·obtain rfl:i=g.length:=by omega
   exact hW)
theorem ahT{f:Bd→Int}{g:List Gt}{s:List Gs}{lv:Int}(hl:g.length=s.length):∀i,i≤g.length→o0 g (kY f g s) lv i=kX (fun g s=>iP g (f (fh g s)) lv) g s i:=by
 intro i;induction i with
 |zero=>intro _;rw[Hp,Hn]
 |succ i ih =>
  intro hi;rw[Eg (by omega) (by rw[xu hl];omega),zI (by omega) (by omega),ih (by omega),Ef (by omega) (by omega)]
end Go.Proofs.YtmpikpodpgnjhaaGreat
namespace Go.Proofs.YtmpikpodpgnjhaaGreat
set_option linter.all false
open Go.Vm
attribute [local simp] eS eT eQ eR
theorem ahU{n:Int}(h1:0≤n)(h2:n≤18446744073709551615):IntKind.u64.wrap n=n:=by
 simp[IntKind.wrap,IntKind.bits,IntKind.signed];omega
def Uo(f:FuncId)(cap:List V)(G:List aV)(N:Int)(p:Int→Bool):Prop:=∀m,0≤m→m<N→bo F f (i64 m::cap) G=some (.bool (p m),G)
theorem ahV{f:FuncId}{cap:List V}{G:List aV}{N:Int}{p:Int→Bool}(hN:0≤N)(hN2:N≤1000000)(h:Uo f cap G N p) :
  ∃r,bo F 223 [i64 N,.fn f cap] G=some (i64 r,G)∧0≤r∧r≤N∧(0<r→p (r-1)=false)∧(r<N→p r=true):=by
 suffices hs:∀Q:V→List aV→Prop,(∀r,0≤r→r≤N→(0<r→p (r-1)=false)→(r<N→p r=true)→Q (i64 r) G)→iV (bo F) 223 [i64 N,.fn f cap] G Q by
  obtain⟨_,_,h,r,rfl,rfl,h1⟩:=hs (fun v G'=>∃r,v=i64 r∧G'=G∧0≤r∧r≤N∧(0<r→p (r-1)=false)∧(r<N→p r=true)) fun r a b c d=>⟨r,rfl,rfl,a,b,c,d⟩;exact⟨r,h,h1⟩
 intro Q hQ;refine ju rfl rfl ?_;simp (disch:=omega) [wrap64,L3];refine go_loop (fun s:Int×Int=>adN (.fn f cap) s.1 s.2 G) (fun s=>0≤s.1∧s.1≤s.2∧s.2≤N∧(0<s.1→p (s.1-1)=false)∧(s.2<N→p s.2=true)) (fun s=>(s.2-s.1).toNat) (0,N) rfl (by simp) ⟨by simp,by simpa using hN,by simp,by simp,by simp⟩ ?_
 rintro⟨a,b⟩ ⟨h1,h2,h3,h4,h5⟩;simp only at h1 h2 h3 h4 h5;simp (disch:=omega) [wrap64,Tc];refine b9 (fun h6=>?_) (fun h6=>?_)
 ·have e1:IntKind.u64.wrap (a+b)=a+b:=ahU (by omega) (by omega)
  have e2:(a+b).fdiv 2=(a+b) / 2:=Int.fdiv_eq_ediv_of_nonneg _ (by omega)
  have hp:=h ((a+b) / 2) (by omega) (by omega)
  have e3:(2:Int) ^ (min 1 IntKind.u64.bits)=2:=rfl;simp (disch:=omega) [wrap64,e1,e2,e3,hp];cases hq:p ((a+b) / 2) with
  |false =>
   simp (disch:=omega) [wrap64,wrap64];refine cc ((a+b) / 2+1,b) (by simp) ⟨by simp;omega,by simp;omega,h3,fun _=>?_,h5⟩ (by simp;omega)
   simpa using hq
  |true =>
   simp (disch:=omega) [wrap64,wrap64];exact cc (a,(a+b) / 2) (by simp) ⟨h1,by simp;omega,by simp;omega,h4,fun _=>hq⟩ (by simp;omega)
 ·obtain rfl:a=b:=by omega
  exact hQ a (by omega) (by omega) h4 h5
def sR(p:Int→Bool):Nat→Int→Int
 |0,o=>o
 |n+1,o=>if p o then o else sR p n (o+1)
theorem MU{p:Int→Bool}:∀{n:Nat} {o x:Int},o≤x→x≤o+n→(∀m,o≤m→m<x→p m=false)→(x<o+n→p x=true)→sR p n o=x
 |0,o,x,h1,h2,_,_=>by simp[sR];omega
 |n+1,o,x,h1,h2,h3,h4=>by
  unfold sR;by_cases h:o=x
  ·subst h
   rw[if_pos (h4 (by omega))]
  ·rw[if_neg (by rw[h3 o (by omega) (by omega)];simp)]
   exact MU (by omega) (by omega) (fun m a b=>h3 m (by omega) b) (fun a=>h4 (by omega))
theorem ahW{f:FuncId}{cap:List V}{G:List aV}{i j:Nat}{lo hi m:Int}{b:Bool}(h1:G[i]?=some (.cells [.fn f cap]))(h2:G[j]?=some (.cells [i64 lo,i64 hi]))
  (hw:-1000000≤lo+m∧lo+m≤1000000) (h:bo F f (i64 (lo+m)::cap) G=some (.bool b,G)):bo F 224 [i64 m,.bN i 0,.bN j 0] G=some (.bool b,G) :=
 cg rfl rfl (by
  have e:IntKind.i64.wrap (lo+m)=lo+m:=wrap64 (by omega) (by omega)
  simp[wrap64,L4,h1,h2,h,e])
theorem ahX{f:FuncId}{cap:List V}{G:List aV}{lo hi:Int}{p:Int→Bool}(hl:0≤lo∧lo≤hi∧hi≤1000)(hp:∀m m',p m=true→m≤m'→p m'=true)
  (h:∀E m,lo≤m→m≤hi→bo F f (i64 m::cap) (G++E)=some (.bool (p m),G++E)) :
  bo F 215 [.agg [i64 lo,i64 hi],.fn f cap] G=some (i64 (sR p (hi-lo).toNat lo),G++[.cells [i64 lo,i64 hi],.cells [.fn f cap]]):=by
 have hs:Uo 224 [.bN (G.length+1) 0,.bN G.length 0] (G++[.cells [i64 lo,i64 hi],.cells [.fn f cap]]) (hi-lo+1) (fun m=>p (lo+m)):=fun m a b =>
  ahW Qr AS (by omega) (h _ _ (by omega) (by omega))
 obtain⟨r,h1,h2,h3,h4,h5⟩:=ahV (by omega) (by omega) hs
 have e:sR p (hi-lo).toNat lo=min (lo+r) hi:=by
  refine MU (by omega) (by omega) (fun m a b=>?_) (fun a=>?_)
  ·have h6:=h4 (by omega)
   cases hq:p m with
   |false=>rfl
   |true =>
    have:=hp m (lo+(r-1)) hq (by omega)
    rw[h6]at this;cases this
  ·have:=h5 (by omega)
   rw[show min (lo+r) hi=lo+r by omega]
   exact this
 rw[e];exact cg rfl rfl (by
  simp (disch:=omega) [wrap64,LZ,h1,AS,Qr])
theorem ahY{G:List aV}{i j:Nat}{m w:Int}{c:List Pt}(h1:G[i]?=some (.cells [.fn 211 []]))(h2:G[j]?=some (.cells [iu c,i64 w]))(hc:c=[]∨gd c=0) :
  bo F 216 [i64 m,.bN i 0,.bN j 0] G=some (.bool (decide (w≤qR c m)),G) :=
 cg rfl rfl (by
  simp[wrap64,L0,h1,h2,ahK hc])
def pa(lv w:Int)(g:Gt)(s:Gs)(sum:Int):Int :=
 if sum<w then sR (fun o=>decide (w-(sum-gf lv g s)≤iP g o lv)) ((fh g s).hi-(fh g s).lo).toNat (fh g s).lo else (fh g s).lo
def bs(lv w:Int)(g:List Gt)(s:List Gs):Nat→List Int×Int
 |0=>(kY Bd.lo g s,kX (gf lv) g s g.length)
 |i+1=>((bs lv w g s i).1.set i (pa lv w (nth g i) (nth s i) (bs lv w g s i).2),(bs lv w g s i).2-gf lv (nth g i) (nth s i)+iP (nth g i) (pa lv w (nth g i) (nth s i) (bs lv w g s i).2) lv)
def BC(o:Int)(s:Gs):Gs:=⟨o,s.j⟩
def mf(l:List Int)(s:List Gs):List Gs:=List.zipWith BC l s
noncomputable def kB(g:List Gt)(s:List Gs)(lv w:Int):Int:=if aE g s lv≠0 then aE g s lv else if ¬(0≤w∧w≤1073741824) then 1 else 0
noncomputable def nI(g:List Gt)(s:List Gs)(lv w:Int):List Gs:=if kB g s lv w=0 then mf (bs lv w g s g.length).1 s else []
noncomputable def oj(g:List Gt)(s:List Gs)(lv w:Int):Int:=if kB g s lv w=0 then (bs lv w g s g.length).2 else 0
theorem nJ{lv w:Int}{g:List Gt}{s:List Gs}(hl:g.length=s.length):∀i,(bs lv w g s i).1.length=g.length
 |0=>xu hl
 |i+1=>by simp[bs,nJ hl i]
theorem zJ{g:Gt}{s:Gs}(h:Gv g)(hs:mF g s):0≤(fh g s).lo∧(fh g s).lo≤(fh g s).hi∧(fh g s).hi≤g.dw:=by
 have h1:=h.dw;have h2:=h.move;have h3:=hs.1;have h4:=hs.2;unfold fh;split
 ·simp only;omega
 ·simp only;omega
theorem Up{p:Int→Bool}:∀{n:Nat} {o:Int},o≤sR p n o∧sR p n o≤o+n
 |0,o=>by simp[sR]
 |n+1,o=>by
  unfold sR;have:=Up (p:=p) (n:=n) (o:=o+1);split
  ·omega
  ·omega
theorem ahZ{lv w:Int}{g:Gt}{s:Gs}(h:Gv g)(hs:mF g s)(sum:Int):(fh g s).lo≤pa lv w g s sum∧pa lv w g s sum≤(fh g s).hi:=by
 have:=zJ h hs;unfold pa;split
 ·have:=Up (p:=fun o=>decide (w-(sum-gf lv g s)≤iP g o lv)) (n:=((fh g s).hi-(fh g s).lo).toNat) (o:=(fh g s).lo)
  omega
 ·omega
theorem ah0{lv w:Int}{g:List Gt}{s:List Gs}(hl:g.length=s.length)(hs:v7 g s)(hv:∀i,i<g.length→Gv (nth g i)):∀i,i≤g.length →
  kX (gf lv) g s g.length-kX (gf lv) g s i≤(bs lv w g s i).2∧(bs lv w g s i).2≤kX (gf lv) g s g.length-kX (gf lv) g s i+1073741824*i:=by
 intro i;induction i with
 |zero=>intro _;simp[bs,Hn]
 |succ i ih =>
  intro hi;have h1:=ih (by omega)
  have h2:=rH (hv i (by omega)) (pa lv w (nth g i) (nth s i) (bs lv w g s i).2) lv
  have h3:=rH (hv i (by omega)) (fh (nth g i) (nth s i)).lo lv
  rw[zI (by omega) (by omega)]
  simp only[bs,gf]at h1 ⊢;omega
theorem Uq{lv w:Int}{g:List Gt}{s:List Gs}(hl:g.length=s.length)(hn:g.length≤8)(hs:v7 g s)(hv:∀i,i<g.length→Gv (nth g i)){i:Nat}(hi:i≤g.length) :
  0≤(bs lv w g s i).2∧(bs lv w g s i).2≤17179869184∧(i<g.length→gf lv (nth g i) (nth s i)≤(bs lv w g s i).2):=by
 have h1:=ah0 (lv:=lv) (w:=w) hl hs hv i hi;have r:=MS (f:=gf lv) hl (fun i hi=>rH (hv i hi) _ _);have r1:=r g.length (Nat.le_refl _);have r2:=r i hi;have mono:∀k,i≤k→k≤g.length→kX (gf lv) g s i≤kX (gf lv) g s k:=by
  intro k h;induction k with
  |zero=>intro _;obtain rfl:i=0:=by omega
         omega
  |succ k ih =>
   intro hk;rcases Nat.lt_or_ge k i with h3|h3
   ·obtain rfl:i=k+1:=by omega
    omega
   ·rw[zI (by omega) (by omega)]
    have:=ih h3 (by omega)
    have:=rH (hv k (by omega)) (fh (nth g k) (nth s k)).lo lv
    unfold gf;unfold gf at *;omega
 have m1:=mono g.length hi (Nat.le_refl _);refine⟨by omega,by omega,fun h=>?_⟩
 have m2:=mono (i+1) (by omega) (by omega)
 have m3:kX (gf lv) g s (i+1)≤kX (gf lv) g s g.length:=by
  have ah1:∀k,i+1≤k→k≤g.length→kX (gf lv) g s (i+1)≤kX (gf lv) g s k:=by
   intro k hk;induction k with
   |zero=>omega
   |succ k ih =>
    intro lF;rcases Nat.lt_or_ge k (i+1) with h3|h3
    ·obtain rfl:i=k:=by omega
     omega
    ·rw[zI (i:=k) (by omega) (by omega)]
     have:=ih h3 (by omega)
     have:=rH (hv k (by omega)) (fh (nth g k) (nth s k)).lo lv
     unfold gf;unfold gf at *;omega
  exact ah1 g.length (by omega) (Nat.le_refl _)
 rw[zI (by omega) (by omega)]at m3
 omega
theorem ah2(g:List Gt)(s:List Gs)(lv w:Int):∃G',bo F 204 [jK g,jy s,i64 lv,i64 w] []=some (.tuple [.slice (some 0) 2 ((nI g s lv w).map Gs.row),i64 (oj g s lv w),i64 (kB g s lv w)],G'):=by
 suffices h:∀Q:V→List aV→Prop,(∀G',Q (.tuple [.slice (some 0) 2 ((nI g s lv w).map Gs.row),i64 (oj g s lv w),i64 (kB g s lv w)]) G')→iV (bo F) 204 [jK g,jy s,i64 lv,i64 w] [] Q by
  obtain⟨_,G',h,rfl⟩:=h (fun v G'=>v=.tuple [.slice (some 0) 2 ((nI g s lv w).map Gs.row),i64 (oj g s lv w),i64 (kB g s lv w)]) fun _=>rfl;exact⟨G',h⟩
 intro Q hQ;refine ju rfl rfl ?_;by_cases he:aE g s lv=0
 ·obtain⟨h1,h2,h3,h4,h5⟩:=Ee he
  by_cases hw:0≤w∧w≤1073741824
  ·have hE:kB g s lv w=0:=by simp[kB,he,hw]
   simp only[nI,oj,hE,if_true]at hQ;have ry:(!decide (0≤w) || !decide (w≤1073741824))=false:=by simp;omega
   have tX:(decide (0≤w)&&decide (w≤1073741824))=true:=by simp;omega
   have e0:bs lv w g s 0=(kY Bd.lo g s,kX (gf lv) g s g.length):=rfl;simp (disch:=omega) [-getElem?_pos,wrap64,DQ,MT,BB,he,dG,ry,tX];have hou:∀i,i≤g.length→(mf ((bs lv w g s i).1.take i) (s.take i)).length=i:=fun i hi=>by
    have:=nJ (lv:=lv) (w:=w) h2 i;simp[mf];omega
   refine go_loop (fun x:Nat×List aV=>adn (jy s) lv w (bs lv w g s x.1).2 (.bN 0 0) (.slice (some 1083) 2 ((mf ((bs lv w g s x.1).1.take x.1) (s.take x.1)).map Gs.row)) (jK g) g.length x.1 x.1 x.2)
    (fun x=>x.1≤g.length∧x.2[0]?=some (.cells [.fn 211 []])) (fun x=>g.length-x.1) (0,[.cells [.fn 211 []]]) rfl (by simp[bs,mf]) ⟨by simp,rfl⟩ ?_
   rintro⟨i,G⟩ ⟨hi,hG⟩;simp only at hi hG;have BD:=hou i hi;have MV:0<G.length:=by
    rcases Nat.eq_zero_or_pos G.length with h|h
    ·rw[List.getElem?_eq_none (by omega)]at hG;cases hG
    ·exact h
   simp (disch:=omega) [-getElem?_pos,wrap64,SX];refine b9 (fun h6=>?_) (fun h6=>?_)
   ·have h6:i<g.length:=by omega
    have h7:i<s.length:=by omega
    obtain⟨t,ht⟩:=Uk (h4 i h6) lv [];have hr:=Ul (h4 i h6) (h3 i h6);have hk:=MR (h4 i h6) lv;have hf:=MO hk;have hro:=zJ (h4 i h6) (h3 i h6);have hm:=(h4 i h6).dw;obtain⟨b1,b2,b3⟩:=Uq (lv:=lv) (w:=w) h2 h1 h3 h4 (i:=i) hi;have b3:=b3 h6;have b4:=rH (h4 i h6) (fh (nth g i) (nth s i)).lo lv;have b5:=rH (h4 i h6) (pa lv w (nth g i) (nth s i) (bs lv w g s i).2) lv;have zK:=nJ (lv:=lv) (w:=w) h2 i;have Ur:mf ((bs lv w g s (i+1)).1.take (i+1)) (s.take (i+1))=mf ((bs lv w g s i).1.take i) (s.take i)++[BC (pa lv w (nth g i) (nth s i) (bs lv w g s i).2) (nth s i)]:=by
     unfold mf;rw[vV (by rw[nJ h2];exact h6) h7]
     simp only[bs];rw[List.take_set_of_le (Nat.le_refl _)];congr 2;simp[nth,zK,h6]
    by_cases tW:(bs lv w g s i).2<w
    ·have vi:pa lv w (nth g i) (nth s i) (bs lv w g s i).2=sR (fun o=>decide (w-((bs lv w g s i).2-gf lv (nth g i) (nth s i))≤iP (nth g i) o lv)) ((fh (nth g i) (nth s i)).hi-(fh (nth g i) (nth s i)).lo).toNat (fh (nth g i) (nth s i)).lo:=by
      unfold pa;rw[if_pos tW]
     have hL:=ahX (f:=216) (cap:=[.bN 0 0,.bN G.length 0]) (G:=G++[.cells [iu (qg (nth g i).r lv),i64 (w-((bs lv w g s i).2-gf lv (nth g i) (nth s i)))]]) (lo:=(fh (nth g i) (nth s i)).lo) (hi:=(fh (nth g i) (nth s i)).hi)
      (p:=fun o=>decide (w-((bs lv w g s i).2-gf lv (nth g i) (nth s i))≤iP (nth g i) o lv)) (by omega) (fun m m' hp xL=>by
       have:=ahQ (h4 i h6) (lv:=lv) xL;simp only[decide_eq_true_eq]at hp ⊢;omega) (fun E m _ _=>ahY (by rw[List.append_assoc,List.getElem?_append_left MV];exact hG) (by rw[List.append_assoc];exact AS) hk)
     rw[←vi]at hL;unfold gf iP at hL b3;unfold iP at b4 b5;simp (disch:=omega) [-getElem?_pos,wrap64,bp (l:=g),bp (l:=s),ht,hr,hf,AS,tW];simp (disch:=omega) [-getElem?_pos,wrap64,hL,AS,hf,bp (l:=s),BD];refine cc (i+1,G++[.cells [iu (qg (nth g i).r lv),i64 (w-((bs lv w g s i).2-gf lv (nth g i) (nth s i)))],.cells [i64 (fh (nth g i) (nth s i)).lo,i64 (fh (nth g i) (nth s i)).hi],.cells [.fn 216 [.bN 0 0,.bN G.length 0]]])
      (by rw[Ur];simp[bs,gf,iP,BC,BD]) ⟨by simp;omega,by simp only;rw[List.getElem?_append_left MV];exact hG⟩ (by simp;omega)
    ·have vi:pa lv w (nth g i) (nth s i) (bs lv w g s i).2=(fh (nth g i) (nth s i)).lo:=by
      unfold pa;rw[if_neg tW]
     have hb:(bs lv w g s (i+1)).2=(bs lv w g s i).2:=by
      simp only[bs,gf,vi];omega
     simp (disch:=omega) [-getElem?_pos,wrap64,bp (l:=g),bp (l:=s),ht,hr,hf,AS,tW,BD];refine cc (i+1,G++[.cells [iu (qg (nth g i).r lv),i64 0]])
      (by rw[Ur,hb,vi];simp[BC,BD]) ⟨by simp;omega,by simp only;rw[List.getElem?_append_left MV];exact hG⟩ (by simp;omega)
   ·obtain rfl:i=g.length:=by omega
    have t1:(bs lv w g s g.length).1.take g.length=(bs lv w g s g.length).1:=List.take_of_length_le (by rw[nJ h2];omega)
    have t2:s.take g.length=s:=List.take_of_length_le (by omega)
    rw[t1,t2]at BD ⊢;simp (disch:=omega) [-getElem?_pos,wrap64,BD];exact hQ _
  ·have tX:(decide (0≤w)&&decide (w≤1073741824))=false:=by simp;omega
   have hE:kB g s lv w=1:=by simp[kB,he];omega
   have uQ:¬ kB g s lv w=0:=by rw[hE];omega
   simp only[nI,oj,if_neg uQ]at hQ;rw[hE]at hQ;have ry:(!decide (0≤w) || !decide (w≤1073741824))=true:=by simp;omega
   simp (disch:=omega) [-getElem?_pos,wrap64,DQ,MT,BB,he,dG,ry,tX];exact hQ _
 ·have hE:kB g s lv w=aE g s lv:=by simp[kB,he]
  have uQ:¬ kB g s lv w=0:=by rw[hE];exact he
  simp only[nI,oj,if_neg uQ]at hQ;rw[hE]at hQ;simp (disch:=omega) [-getElem?_pos,wrap64,DQ,MT,BB,he];exact hQ _
end Go.Proofs.YtmpikpodpgnjhaaGreat
namespace Go.Proofs.YtmpikpodpgnjhaaGreat
set_option linter.all false
open Go.Vm
theorem Hq{l:List Int}{i:Nat}{o:Int}(h:i<l.length):nth (l.set i o) i=o:=by simp[nth,h]
theorem Ut{l:List Int}{i k:Nat}{o:Int}(h:i≠k):nth (l.set i o) k=nth l k:=by simp[nth,h]
theorem Uu{l:List Int}{i:Nat}(h:i<l.length):l.set i (nth l i)=l:=by
 apply List.ext_getElem?;intro k;by_cases hk:i=k
 ·subst hk
  rw[List.getElem?_set_self h,bp h]
 ·rw[List.getElem?_set_ne hk]
theorem ah5{g:List Gt}{l:List Int}{lv o:Int}{i:Nat}(hl:g.length=l.length)(hi:i<g.length):∀k,k≤g.length→o0 g (l.set i o) lv k=o0 g l lv k+(if i<k then iP (nth g i) o lv-iP (nth g i) (nth l i) lv else 0):=by
 intro k;induction k with
 |zero=>intro _;simp[Hp]
 |succ k ih =>
  intro hk;rw[Eg (by omega) (by simp;omega),Eg (by omega) (by omega),ih (by omega)]
  by_cases h1:i=k
  ·subst h1
   rw[Hq (by omega),if_neg (by omega),if_pos (by omega)]
   omega
  ·rw[Ut h1]
   by_cases h2:i<k
   ·rw[if_pos h2,if_pos (by omega)];omega
   ·rw[if_neg h2,if_neg (by omega)];omega
section
variable {g:List Gt} {s:List Gs} {lv w:Int}
theorem Hr(hl:g.length=s.length):∀{i k:Nat},i≤k→k<g.length→nth (bs lv w g s i).1 k=(fh (nth g k) (nth s k)).lo:=by
 intro i;induction i with
 |zero=>intro k _ hk;exact Ef hk (by omega)
 |succ i ih =>
  intro k h hk;simp only[bs];rw[Ut (by omega)]
  exact ih (by omega) hk
theorem MW(hl:g.length=s.length){i:Nat}(ht:o0 g (bs lv w g s i).1 lv g.length=(bs lv w g s i).2)(hi:i<g.length)(o:Int) :
  o0 g ((bs lv w g s i).1.set i o) lv g.length=(bs lv w g s i).2-gf lv (nth g i) (nth s i)+iP (nth g i) o lv:=by
 rw[ah5 (by rw[nJ hl]) hi _ (Nat.le_refl _),if_pos hi,ht,Hr hl (Nat.le_refl _) hi]
 unfold gf;omega
theorem Hs(hl:g.length=s.length):∀i,i≤g.length→o0 g (bs lv w g s i).1 lv g.length=(bs lv w g s i).2:=by
 intro i;induction i with
 |zero=>intro _;exact ahT hl _ (Nat.le_refl _)
 |succ i ih =>
  intro hi;have:=MW hl (ih (by omega)) (by omega) (pa lv w (nth g i) (nth s i) (bs lv w g s i).2)
  simpa only[bs] using this
theorem ah6(hl:g.length=s.length){j:Nat}(hw:w≤(bs lv w g s j).2):∀k,j≤k→k≤g.length→bs lv w g s k=bs lv w g s j:=by
 intro k hjk;induction k with
 |zero=>intro _;obtain rfl:j=0:=by omega
        rfl
 |succ k ih =>
  intro hk;rcases Nat.lt_or_ge k j with h|h
  ·obtain rfl:j=k+1:=by omega
   rfl
  ·have h1:=ih h (by omega)
   have ho:pa lv w (nth g k) (nth s k) (bs lv w g s k).2=(fh (nth g k) (nth s k)).lo:=by
    unfold pa;rw[if_neg (by rw[h1];omega)]
   have h2:bs lv w g s (k+1)=bs lv w g s k:=by
    have e1:(bs lv w g s k).1.set k (fh (nth g k) (nth s k)).lo=(bs lv w g s k).1:=by
     rw[←Hr (lv:=lv) (w:=w) hl (Nat.le_refl k) (by omega)]
     exact Uu (by rw[nJ hl];omega)
    simp only[bs,ho,gf,e1];rw[show(bs lv w g s k).2-iP (nth g k) (fh (nth g k) (nth s k)).lo lv+iP (nth g k) (fh (nth g k) (nth s k)).lo lv=(bs lv w g s k).2 by omega]
   rw[h2,h1]
structure Way(lv w:Int)(g:List Gt)(s:List Gs)(i:Nat)(o:Int):Prop where
 lt:i<g.length
 lo:(fh (nth g i) (nth s i)).lo≤o
 hi:o≤(fh (nth g i) (nth s i)).hi
 no:∀p,(fh (nth g i) (nth s i)).lo≤p→p<o→(bs lv w g s i).2-gf lv (nth g i) (nth s i)+iP (nth g i) p lv<w
theorem Way.done{i:Nat}{o:Int}(h:Way lv w g s i o)(hv:Gv (nth g i))(hs:mF (nth g i) (nth s i))(hd:o=(fh (nth g i) (nth s i)).hi∨w≤(bs lv w g s i).2-gf lv (nth g i) (nth s i)+iP (nth g i) o lv) :
  pa lv w (nth g i) (nth s i) (bs lv w g s i).2=o:=by
 have h1:=h.lo;have h2:=h.hi;unfold pa;split
 ·refine MU h1 (by omega) (fun p a b=>?_) (fun a=>?_)
  ·have:=h.no p a b
   exact decide_eq_false (by omega)
  ·rcases hd with hd|hd
   ·omega
   ·exact decide_eq_true (by omega)
 ·rename_i hn
  by_cases he:(fh (nth g i) (nth s i)).lo=o
  ·exact he
  ·have:=h.no _ (Int.le_refl _) (by omega)
   unfold gf at this;omega
theorem Ux(hl:g.length=s.length){i:Nat}(hi:i<g.length)(hv:Gv (nth g i))(hs:mF (nth g i) (nth s i)):Way lv w g s i (fh (nth g i) (nth s i)).lo :=
 ⟨hi,Int.le_refl _,(zJ hv hs).2.1,fun p a b=>by omega⟩
theorem Uy(hl:g.length=s.length){i:Nat}(hi:i<g.length):(bs lv w g s i).1.set i (fh (nth g i) (nth s i)).lo=(bs lv w g s i).1:=by
 rw[←Hr (lv:=lv) (w:=w) hl (Nat.le_refl i) hi];exact Uu (by rw[nJ hl];exact hi)
end
end Go.Proofs.YtmpikpodpgnjhaaGreat
namespace Go.Proofs.YtmpikpodpgnjhaaGreat
set_option linter.all false
open Go.Vm
attribute [local simp] eS eT eQ eR
theorem Uz{l:List Int}{i:Nat}(h:l.length≤i):nth l i=0:=by
 simp only[nth,List.getD,List.getElem?_eq_none h];rfl
theorem ah7(g:List Gt)(s:List Gs)(lv w:Int)(G:List aV):bo F 61 [jK g,jy s,i64 lv,i64 w] G=some (.tuple [.slice (some 0) 2 ((nI g s lv w).map Gs.row),i64 (oj g s lv w),i64 (kB g s lv w)],G) :=
 cg rfl rfl (by
  generalize hW:V.tuple [.slice (some 0) 2 ((nI g s lv w).map Gs.row),i64 (oj g s lv w),i64 (kB g s lv w)]=W;by_cases he:aE g s lv=0
  ·obtain⟨h1,h2,h3,h4,h5⟩:=Ee he
   by_cases hw:0≤w∧w≤1073741824
   ·have hE:kB g s lv w=0:=by simp[kB,he,hw]
    simp only[nI,oj,hE,if_true]at hW;have ry:(!decide (0≤w) || !decide (w≤1073741824))=false:=by simp;omega
    have tX:(decide (0≤w)&&decide (w≤1073741824))=true:=by simp;omega
    have uQ:=ahR h2 h1 h3 h4;by_cases hg:g=[]
    ·subst hg
     have hs0:s=[]:=by simpa using h2.symm
     subst hs0;have hE3:bo F 124 [.slice none 3 [],.slice none 2 []] []=some (.tuple [.slice (some 0) 1 [],.slice (some 0) 1 []],[]):=uQ [];have hT3:bo F 125 [.slice none 3 [],.slice none 1 [],i64 lv] []=some (i64 0,[]):=Eh (g:=[]) (l:=[]) rfl (by simp) (by simp) lv []
     have e2:kG 20031 0 (.tuple [.slice (some 0) 1 [],.slice (some 0) 1 []])=some (.tuple [.dZ 1,.slice none 1 []],none):=rfl;have he0:bo F 123 [.slice none 3 [],.slice none 2 [],i64 lv] []=some (i64 0,[]):=by
      have:=Hm [] [] lv [];rw[he]at this;exact this
     simp (disch:=omega) [-getElem?_pos,wrap64,A6,he0,c5,ry,tX,hE3,e2,Rz,F9,RA,Gb,yI,hT3];simpa [mf,bs,kX] using hW
    ·have cF:kY Bd.lo g s≠[]:=fun e=>hg (by have:=xu (f:=Bd.lo) h2;rw[e]at this;exact List.length_eq_zero_iff.1 this.symm)
     have e2:=ZS (id:=20031) (t:=0) (u:=0) (m:=kY Bd.hi g s) cF;have kn:=xu (f:=Bd.lo) h2;simp (disch:=omega) [-getElem?_pos,wrap64,A6,Hm,he,c5,ry,tX,uQ,e2,kn];have hZ:0<g.length:=List.length_pos_iff.2 hg;refine go_loop (fun x:Nat×List Int=>aaQ (jK g) (jy s) lv w g.length (ints (kY Bd.hi g s)) x.1 (dS x.2) G)
      (fun x=>(∃o,Way lv w g s x.1 o∧x.2=(bs lv w g s x.1).1.set x.1 o)∨(x.1=g.length∧x.2=(bs lv w g s g.length).1)) (fun x=>(g.length-x.1)*2000+(nth (kY Bd.hi g s) x.1-nth x.2 x.1).toNat) (0,kY Bd.lo g s) rfl (by simp) (.inl ⟨_,Ux h2 hZ (h4 0 hZ) (h3 0 hZ),by rw[Uy h2 hZ];rfl⟩) ?_
     rintro⟨i,l⟩ hinv;simp only at hinv;have hlen:l.length=g.length:=by
      rcases hinv with⟨o,_,rfl⟩ | ⟨_,rfl⟩
      ·rw[List.length_set,nJ h2]
      ·rw[nJ h2]
     have hT:=Eh hlen.symm h1 h4 lv;rcases hinv with⟨o,hway,hl⟩ | ⟨rfl,rfl⟩
     ·have hi:=hway.lt
      have UA:o0 g l lv g.length=(bs lv w g s i).2-gf lv (nth g i) (nth s i)+iP (nth g i) o lv:=by
       rw[hl];exact MW h2 (Hs h2 i (by omega)) hi o
      rw[UA]at hT;generalize UB:(bs lv w g s i).2-gf lv (nth g i) (nth s i)+iP (nth g i) o lv=T at *;have bG:i<l.length:=by omega
      simp (disch:=omega) [-getElem?_pos,wrap64,F9,hi,hT,hlen];have Ht:i<(kY Bd.hi g s).length:=by rw[xu h2];exact hi
      have Hu:nth l i=o:=by rw[hl];exact Hq (by rw[nJ h2];exact hi)
      have BE:nth (kY Bd.hi g s) i=(fh (nth g i) (nth s i)).hi:=Ef hi (by omega)
      refine b9 (fun h6=>?_) (fun h6=>?_)
      ·simp (disch:=omega) [-getElem?_pos,wrap64,kT bG,eB Ht,Hu,BE]
       refine b9 (fun h7=>?_) (fun h7=>?_)
       ·have hd:=hway.done (h4 i hi) (h3 i hi) (.inl h7)
        have hn:(bs lv w g s (i+1)).1=l:=by simp only[bs,hd,hl]
        refine cc (i+1,l) (by simp) ?_ ?_
        ·by_cases qK:i+1<g.length
         ·refine .inl ⟨_,Ux h2 qK (h4 _ qK) (h3 _ qK),?_⟩
          simp only;rw[Uy h2 qK,hn]
         ·exact .inr ⟨by simp only;omega,by simp only;rw[←hn,show g.length=i+1 by omega]⟩
        ·have oJ:nth (kY Bd.hi g s) (i+1)-nth l (i+1)≤1000:=by
          by_cases qK:i+1<g.length
          ·rw[Ef qK (by omega),← hn,Hr h2 (Nat.le_refl _) qK]
           have:=zJ (h4 _ qK) (h3 _ qK);have:=(h4 _ qK).dw;omega
          ·have e1:nth (kY Bd.hi g s) (i+1)=0:=Uz (by rw[xu h2];omega)
           have e2:nth l (i+1)=0:=Uz (by omega)
           omega
         simp only;omega
       ·have nj:=hway.lo
        have uy:=hway.hi;have hro:=zJ (h4 i hi) (h3 i hi);have hmo:=(h4 i hi).dw;refine go_loop (fun l:List Int=>aaP (jK g) (jy s) lv w g.length (ints (kY Bd.hi g s)) i (dS l) G)
         (fun m=>∃o',Way lv w g s i o'∧o≤o'∧m=(bs lv w g s i).1.set i o') (fun m=>(nth (kY Bd.hi g s) i-nth m i).toNat) l rfl (by simp[hlen]) ⟨o,hway,Int.le_refl _,hl⟩ ?_
        rintro m ⟨o',hway',wZ,rfl⟩;have aph:=hway'.lo;have api:=hway'.hi;have Ei:((bs lv w g s i).1.set i o').length=g.length:=by rw[List.length_set,nJ h2]
        have tS:i<((bs lv w g s i).1.set i o').length:=by omega
        have BF:nth ((bs lv w g s i).1.set i o') i=o':=Hq (by rw[nJ h2];exact hi)
        have Ej:=Eh Ei.symm h1 h4 lv;rw[MW h2 (Hs h2 i (by omega)) hi o']at Ej
        have EL:∀z,((bs lv w g s i).1.set i o').set i z=(bs lv w g s i).1.set i z:=fun z=>by simp
        generalize hm:(bs lv w g s i).1.set i o'=m at Ei tS BF Ej EL ⊢;by_cases h8:o'<(fh (nth g i) (nth s i)).hi
        ·by_cases h9:(bs lv w g s i).2-gf lv (nth g i) (nth s i)+iP (nth g i) o' lv<w
         ·simp (disch:=omega) [-getElem?_pos,wrap64,F8,kT tS,eB Ht,BF,BE,h8,Ej,Ei,h9]
          refine cc (m.set i (o'+1)) (by simp) ⟨o'+1,⟨hi,by omega,by omega,fun p a b=>?_⟩,by omega,EL _⟩ ?_
          ·by_cases hp:p=o'
           ·rw[hp];exact h9
           ·exact hway'.no p a (by omega)
          ·rw[Hq tS];omega
         ·simp (disch:=omega) [-getElem?_pos,wrap64,F8,kT tS,eB Ht,BF,BE,h8,Ej,Ei,h9]
          refine cc (i,m) (by simp) (.inl ⟨o',hway',hm.symm⟩) ?_
          have:o≠o':=fun e=>by rw[←e,UB]at h9;exact h9 h6
          simp only[BF,Hu,BE];omega
        ·simp (disch:=omega) [-getElem?_pos,wrap64,F8,kT tS,eB Ht,BF,BE,h8,Ej,Ei]
         refine cc (i,m) (by simp) (.inl ⟨o',hway',hm.symm⟩) ?_
         simp only[BF,Hu,BE];omega
      ·have hd:=hway.done (h4 i hi) (h3 i hi) (.inr (by omega))
       have hs2:(bs lv w g s (i+1)).2=T:=by rw[←UB];simp only[bs,hd]
       have hn:l=(bs lv w g s g.length).1:=by
        rw[ah6 h2 (j:=i+1) (by omega) g.length (by omega) (Nat.le_refl _),hl]
        simp only[bs,hd]
       clear hT UA bG Hu
       subst hn;refine go_loop (fun k:Nat=>RB (jK g) lv g.length (.slice (some 1096) 2 ((mf ((bs lv w g s g.length).1.take k) (s.take k)).map Gs.row)) (jy s) s.length k (dS (bs lv w g s g.length).1) k G) (fun k=>k≤s.length) (fun k=>s.length-k) 0 rfl (by simp[mf]) (by omega) ?_
       rintro k hk;have bz:(mf ((bs lv w g s g.length).1.take k) (s.take k)).length=k:=by
        have:=nJ (lv:=lv) (w:=w) h2 g.length;simp[mf];omega
       have zK:=nJ (lv:=lv) (w:=w) h2 g.length;have Ek:=Eh zK.symm h1 h4 lv;rw[Hs h2 g.length (Nat.le_refl _)]at Ek;simp (disch:=omega) [-getElem?_pos,wrap64,Gb,bz];refine b9 (fun h6=>?_) (fun h6=>?_)
       ·have h6:k<s.length:=by omega
        have h7:k<(bs lv w g s g.length).1.length:=by omega
        simp (disch:=omega) [-getElem?_pos,wrap64,bp (l:=s),kT h7,bz];refine cc (k+1) ?_ (by omega) (by omega)
        unfold mf;rw[vV h7 h6];simp[BC]
       ·obtain rfl:k=s.length:=by omega
        have t1:(bs lv w g s g.length).1.take s.length=(bs lv w g s g.length).1:=List.take_of_length_le (by omega)
        rw[t1,List.take_length]at bz ⊢;simp (disch:=omega) [-getElem?_pos,wrap64,bz,zK,Ek];exact hW
     ·have hi:¬ g.length<g.length:=Nat.lt_irrefl _
      simp (disch:=omega) [-getElem?_pos,wrap64,F9,hlen];refine go_loop (fun k:Nat=>RB (jK g) lv g.length (.slice (some 1096) 2 ((mf ((bs lv w g s g.length).1.take k) (s.take k)).map Gs.row)) (jy s) s.length k (dS (bs lv w g s g.length).1) k G) (fun k=>k≤s.length) (fun k=>s.length-k) 0 rfl (by simp[mf]) (by omega) ?_
      rintro k hk;have bz:(mf ((bs lv w g s g.length).1.take k) (s.take k)).length=k:=by
       have:=nJ (lv:=lv) (w:=w) h2 g.length;simp[mf];omega
      have zK:=nJ (lv:=lv) (w:=w) h2 g.length;have Ek:=Eh zK.symm h1 h4 lv;rw[Hs h2 g.length (Nat.le_refl _)]at Ek;simp (disch:=omega) [-getElem?_pos,wrap64,Gb,bz];refine b9 (fun h6=>?_) (fun h6=>?_)
      ·have h6:k<s.length:=by omega
       have h7:k<(bs lv w g s g.length).1.length:=by omega
       simp (disch:=omega) [-getElem?_pos,wrap64,bp (l:=s),kT h7,bz];refine cc (k+1) ?_ (by omega) (by omega)
       unfold mf;rw[vV h7 h6];simp[BC]
      ·obtain rfl:k=s.length:=by omega
       have t1:(bs lv w g s g.length).1.take s.length=(bs lv w g s g.length).1:=List.take_of_length_le (by omega)
       rw[t1,List.take_length]at bz ⊢;simp (disch:=omega) [-getElem?_pos,wrap64,bz,zK,Ek];exact hW
   ·have tX:(decide (0≤w)&&decide (w≤1073741824))=false:=by simp;omega
    have hE:kB g s lv w=1:=by simp[kB,he];omega
    have uQ:¬ kB g s lv w=0:=by rw[hE];omega
    simp only[nI,oj,if_neg uQ]at hW;rw[hE]at hW;have ry:(!decide (0≤w) || !decide (w≤1073741824))=true:=by simp;omega
    simp (disch:=omega) [-getElem?_pos,wrap64,A6,Hm,he,c5,ry,tX];exact hW
  ·have hE:kB g s lv w=aE g s lv:=by simp[kB,he]
   have uQ:¬ kB g s lv w=0:=by rw[hE];exact he
   simp only[nI,oj,if_neg uQ]at hW;rw[hE]at hW;simp (disch:=omega) [-getElem?_pos,wrap64,A6,Hm,he];exact hW)
end Go.Proofs.YtmpikpodpgnjhaaGreat
namespace Go.Proofs.YtmpikpodpgnjhaaGreat
set_option linter.all false
open Go.Vm
end Go.Proofs.YtmpikpodpgnjhaaGreat
