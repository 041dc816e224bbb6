/- Parts of the proof, joined: Gat1, Gat2, Gat3, Gat4, Gat5, Gat6, Gat7, Gat8. -/
import Derived.Test.YtmpikpodpgnjhaaGreatDc
import Derived.Test.YtmpikpodpgnjhaaGreatDa
namespace Go.Proofs.YtmpikpodpgnjhaaGreat
set_option linter.all false
open Go.Vm
attribute [local simp] eQ eR eO eP
structure Rt where
 lv:Int
 c:List Pt
 deriving Inhabited
abbrev Rt.row(r:Rt):List V:=[i64 r.lv,ig r.c]
abbrev zE(l:List Rt):V:=.slice none 2 (l.map Rt.row)
structure Gt where
 r:List Rt
 dv:Int
 move:Int
 deriving Inhabited
abbrev Gt.row(g:Gt):List V:=[zE g.r,i64 g.dv,i64 g.move]
abbrev gt(g:Gt):V:=.agg g.row
def nC(l:List Rt)(i:Nat):Int :=
 if ¬(0≤(nth l i).lv∧(nth l i).lv≤16777216) then 1
 else if 0<i∧(nth l i).lv≤(nth l (i-1)).lv then 4
 else if fU (nth l i).c≠0 then fU (nth l i).c
 else if ¬((nth (nth l i).c 0).x=0∧(nth (nth l i).c 0).y=0) then 3
 else if 1073741824<(nth (nth l i).c ((nth l i).c.length-1)).y then 1 else 0
def jT(g:Gt):Int :=
 if g.r.length=0 then 3 else if 10<g.r.length then 10 else if ec (nC g.r) g.r.length 0≠0 then ec (nC g.r) g.r.length 0
 else if ¬((0≤g.dv∧g.dv≤1000)∧0≤g.move∧g.move≤1000) then 1 else 0
theorem xo(g:Gt)(G:List aV):bo F 130 [gt g] G=some (i64 (jT g),G) :=
 cg rfl rfl (by
  obtain⟨l,dv,move⟩:=g;generalize hW:jT ⟨l,dv,move⟩=W;unfold jT at hW;simp only at hW;simp (disch:=omega) [-getElem?_pos,-Int.natCast_eq_zero,wrap64,La];refine b9 (fun h1=>?_) (fun h1=>b9 (fun h2=>?_) (fun h2=>?_))
  ·rw[if_pos (by omega)]at hW
   exact hW
  ·rw[if_neg (by omega),if_pos (by omega)]at hW
   exact hW
  ·rw[if_neg (by omega),if_neg (by omega)]at hW
   refine go_loop (fun i:Nat=>abW (zE l) l.length i [zE l,i64 dv,i64 move] G) (fun i=>i≤l.length∧ec (nC l) (l.length-i) i=ec (nC l) l.length 0) (fun i=>l.length-i) 0 rfl (by simp) ⟨by omega,rfl⟩ ?_
   rintro i ⟨hi,hq⟩;simp (disch:=omega) [-getElem?_pos,-Int.natCast_eq_zero,wrap64,R9];refine b9 (fun h3=>?_) (fun h3=>?_)
   ·have h3:i<l.length:=by omega
    have h4:((i:Int)-1).toNat=i-1:=by omega
    rw[lZ h3]at hq;have stop:nC l i≠0→W=nC l i:=fun h=>by
     rw[if_neg h]at hq;rw[←hq,if_pos h]at hW;exact hW.symm
    unfold nC at stop;by_cases a1:0≤(nth l i).lv∧(nth l i).lv≤16777216
    ·have a2:(!decide (0≤(nth l i).lv) || !decide ((nth l i).lv≤16777216))=false:=by simp;omega
     have a3:0<i→0≤(i:Int)-1:=by omega
     have a4:i-1<l.length:=by omega
     rw[if_neg (by omega)]at stop
     by_cases b1:0<i∧(nth l i).lv≤(nth l (i-1)).lv
     ·rw[if_pos b1]at stop
      have b2:0<i:=b1.1;have b3:=b1.2;have b4:0≤(i:Int)-1:=by omega
      simp (disch:=omega) [-getElem?_pos,-Int.natCast_eq_zero,wrap64,bp (l:=l),h3,dF,cY,a2,b2,b3,b4,h4,a4];exact(stop (by omega)).symm
     ·rw[if_neg b1]at stop
      by_cases c1:fU (nth l i).c=0
      ·rw[if_neg (by omega)]at stop
       have hp:=rD c1;have hfw:=(lF c1).jY;have c2:(((nth l i).c.length:Int)-1).toNat=(nth l i).c.length-1:=by omega
       have c3:(nth l i).c.length-1<(nth l i).c.length:=by omega
       have c4:0≤((nth l i).c.length:Int)-1:=by omega
       by_cases d1:(nth (nth l i).c 0).x=0∧(nth (nth l i).c 0).y=0
       ·rw[if_neg (by omega)]at stop
        obtain⟨d2,d3⟩:=d1;by_cases e1:1073741824<(nth (nth l i).c ((nth l i).c.length-1)).y
        ·rw[if_pos e1]at stop
         rcases Nat.eq_zero_or_pos i with b6|b6
         ·subst b6
          simp (disch:=omega) [-getElem?_pos,-Int.natCast_eq_zero,wrap64,bp (l:=l),h3,dF,cY,mQ,kY,a2,c1,V.gQ,eI,jI,bp (l:=(nth l 0).c),hp,c2,c3,c4,d2,d3,e1];exact(stop (by omega)).symm
         ·have b7:¬ (nth l i).lv≤(nth l (i-1)).lv:=fun h=>b1 ⟨b6,h⟩
          have b4:0≤(i:Int)-1:=by omega
          simp (disch:=omega) [-getElem?_pos,-Int.natCast_eq_zero,wrap64,bp (l:=l),h3,dF,cY,mQ,kY,a2,c1,b6,b7,b4,h4,a4,V.gQ,eI,jI,bp (l:=(nth l i).c),hp,c2,c3,c4,d2,d3,e1];exact(stop (by omega)).symm
        ·have hz:nC l i=0:=by
          unfold nC;rw[if_neg (by omega),if_neg b1,if_neg (by omega),if_neg (by omega),if_neg e1]
         rw[if_pos hz]at hq;rcases Nat.eq_zero_or_pos i with b6|b6
         ·subst b6
          simp (disch:=omega) [-getElem?_pos,-Int.natCast_eq_zero,wrap64,bp (l:=l),h3,dF,cY,mQ,kY,a2,c1,V.gQ,eI,jI,bp (l:=(nth l 0).c),hp,c2,c3,c4,d2,d3,e1];exact cc (0+1) (by simp) ⟨by omega,hq⟩ (by omega)
         ·have b7:¬ (nth l i).lv≤(nth l (i-1)).lv:=fun h=>b1 ⟨b6,h⟩
          have b4:0≤(i:Int)-1:=by omega
          simp (disch:=omega) [-getElem?_pos,-Int.natCast_eq_zero,wrap64,bp (l:=l),h3,dF,cY,mQ,kY,a2,c1,b6,b7,b4,h4,a4,V.gQ,eI,jI,bp (l:=(nth l i).c),hp,c2,c3,c4,d2,d3,e1];exact cc (i+1) (by simp) ⟨by omega,hq⟩ (by omega)
       ·rw[if_pos d1]at stop
        have d4:(decide ((nth (nth l i).c 0).x=0)&&decide ((nth (nth l i).c 0).y=0))=false:=by simpa using d1
        have d5:((nth (nth l i).c 0).x==0&&(nth (nth l i).c 0).y==0)=false:=by simpa using d1
        rcases Nat.eq_zero_or_pos i with b6|b6
        ·subst b6
         simp (disch:=omega) [-getElem?_pos,-Int.natCast_eq_zero,wrap64,bp (l:=l),h3,dF,cY,mQ,kY,a2,c1,V.gQ,eI,jI,bp (l:=(nth l 0).c),hp,d4,d5];exact(stop (by omega)).symm
        ·have b7:¬ (nth l i).lv≤(nth l (i-1)).lv:=fun h=>b1 ⟨b6,h⟩
         have b4:0≤(i:Int)-1:=by omega
         simp (disch:=omega) [-getElem?_pos,-Int.natCast_eq_zero,wrap64,bp (l:=l),h3,dF,cY,mQ,kY,a2,c1,b6,b7,b4,h4,a4,V.gQ,eI,jI,bp (l:=(nth l i).c),hp,d4,d5];exact(stop (by omega)).symm
      ·rw[if_pos c1]at stop
       rcases Nat.eq_zero_or_pos i with b6|b6
       ·subst b6
        simp (disch:=omega) [-getElem?_pos,-Int.natCast_eq_zero,wrap64,bp (l:=l),h3,dF,cY,mQ,kY,a2,c1,c1];exact(stop (by omega)).symm
       ·have b7:¬ (nth l i).lv≤(nth l (i-1)).lv:=fun h=>b1 ⟨b6,h⟩
        have b4:0≤(i:Int)-1:=by omega
        simp (disch:=omega) [-getElem?_pos,-Int.natCast_eq_zero,wrap64,bp (l:=l),h3,dF,cY,mQ,kY,a2,c1,b6,b7,b4,h4,a4,c1];exact(stop (by omega)).symm
    ·rw[if_pos a1]at stop
     have a2:(!decide (0≤(nth l i).lv) || !decide ((nth l i).lv≤16777216))=true:=by simp;omega
     simp (disch:=omega) [-getElem?_pos,-Int.natCast_eq_zero,wrap64,bp (l:=l),h3,dF,cY,a2];exact(stop (by omega)).symm
   ·obtain rfl:i=l.length:=by omega
    rw[mP]at hq;rw[←hq,if_neg (by omega)]at hW
    by_cases m1:0≤dv∧dv≤1000
    ·have m2:(!decide (0≤dv) || !decide (dv≤1000))=false:=by simp;omega
     by_cases m3:0≤move∧move≤1000
     ·have m4:(!decide (0≤move) || !decide (move≤1000))=false:=by simp;omega
      rw[if_neg (by omega)]at hW
      simp (disch:=omega) [-getElem?_pos,-Int.natCast_eq_zero,wrap64,dF,cY,m2,m4];exact hW
     ·have m4:(!decide (0≤move) || !decide (move≤1000))=true:=by simp;omega
      rw[if_pos (by omega)]at hW
      simp (disch:=omega) [-getElem?_pos,-Int.natCast_eq_zero,wrap64,dF,cY,m2,m4];exact hW
    ·have m2:(!decide (0≤dv) || !decide (dv≤1000))=true:=by simp;omega
     rw[if_pos (by omega)]at hW
     simp (disch:=omega) [-getElem?_pos,-Int.natCast_eq_zero,wrap64,dF,cY,m2];exact hW)
theorem xp(g:Gt)(G:List aV):bo F 133 [gt g] G=some (i64 (jT g),G) :=
 cg rfl rfl (by
  obtain⟨l,dv,move⟩:=g;generalize hW:jT ⟨l,dv,move⟩=W;unfold jT at hW;simp only at hW;simp (disch:=omega) [-getElem?_pos,-Int.natCast_eq_zero,wrap64,Lc];refine b9 (fun h1=>?_) (fun h1=>b9 (fun h2=>?_) (fun h2=>?_))
  ·rw[if_pos (by omega)]at hW
   exact hW
  ·rw[if_neg (by omega),if_pos (by omega)]at hW
   exact hW
  ·rw[if_neg (by omega),if_neg (by omega)]at hW
   refine go_loop (fun i:Nat=>ab6 (zE l) l.length i [zE l,i64 dv,i64 move] G) (fun i=>i≤l.length∧ec (nC l) (l.length-i) i=ec (nC l) l.length 0) (fun i=>l.length-i) 0 rfl (by simp) ⟨by omega,rfl⟩ ?_
   rintro i ⟨hi,hq⟩;simp (disch:=omega) [-getElem?_pos,-Int.natCast_eq_zero,wrap64,Se];refine b9 (fun h3=>?_) (fun h3=>?_)
   ·have h3:i<l.length:=by omega
    have h4:((i:Int)-1).toNat=i-1:=by omega
    rw[lZ h3]at hq;have stop:nC l i≠0→W=nC l i:=fun h=>by
     rw[if_neg h]at hq;rw[←hq,if_pos h]at hW;exact hW.symm
    unfold nC at stop;by_cases a1:0≤(nth l i).lv∧(nth l i).lv≤16777216
    ·have a2:(!decide (0≤(nth l i).lv) || !decide ((nth l i).lv≤16777216))=false:=by simp;omega
     have a3:0<i→0≤(i:Int)-1:=by omega
     have a4:i-1<l.length:=by omega
     rw[if_neg (by omega)]at stop
     by_cases b1:0<i∧(nth l i).lv≤(nth l (i-1)).lv
     ·rw[if_pos b1]at stop
      have b2:0<i:=b1.1;have b3:=b1.2;have b4:0≤(i:Int)-1:=by omega
      simp (disch:=omega) [-getElem?_pos,-Int.natCast_eq_zero,wrap64,bp (l:=l),h3,dF,cY,a2,b2,b3,b4,h4,a4];exact(stop (by omega)).symm
     ·rw[if_neg b1]at stop
      by_cases c1:fU (nth l i).c=0
      ·rw[if_neg (by omega)]at stop
       have hp:=rD c1;have hfw:=(lF c1).jY;have c2:(((nth l i).c.length:Int)-1).toNat=(nth l i).c.length-1:=by omega
       have c3:(nth l i).c.length-1<(nth l i).c.length:=by omega
       have c4:0≤((nth l i).c.length:Int)-1:=by omega
       by_cases d1:(nth (nth l i).c 0).x=0∧(nth (nth l i).c 0).y=0
       ·rw[if_neg (by omega)]at stop
        obtain⟨d2,d3⟩:=d1;by_cases e1:1073741824<(nth (nth l i).c ((nth l i).c.length-1)).y
        ·rw[if_pos e1]at stop
         rcases Nat.eq_zero_or_pos i with b6|b6
         ·subst b6
          simp (disch:=omega) [-getElem?_pos,-Int.natCast_eq_zero,wrap64,bp (l:=l),h3,dF,cY,mQ,kY,a2,c1,V.gQ,eI,jI,bp (l:=(nth l 0).c),hp,c2,c3,c4,d2,d3,e1];exact(stop (by omega)).symm
         ·have b7:¬ (nth l i).lv≤(nth l (i-1)).lv:=fun h=>b1 ⟨b6,h⟩
          have b4:0≤(i:Int)-1:=by omega
          simp (disch:=omega) [-getElem?_pos,-Int.natCast_eq_zero,wrap64,bp (l:=l),h3,dF,cY,mQ,kY,a2,c1,b6,b7,b4,h4,a4,V.gQ,eI,jI,bp (l:=(nth l i).c),hp,c2,c3,c4,d2,d3,e1];exact(stop (by omega)).symm
        ·have hz:nC l i=0:=by
          unfold nC;rw[if_neg (by omega),if_neg b1,if_neg (by omega),if_neg (by omega),if_neg e1]
         rw[if_pos hz]at hq;rcases Nat.eq_zero_or_pos i with b6|b6
         ·subst b6
          simp (disch:=omega) [-getElem?_pos,-Int.natCast_eq_zero,wrap64,bp (l:=l),h3,dF,cY,mQ,kY,a2,c1,V.gQ,eI,jI,bp (l:=(nth l 0).c),hp,c2,c3,c4,d2,d3,e1];exact cc (0+1) (by simp) ⟨by omega,hq⟩ (by omega)
         ·have b7:¬ (nth l i).lv≤(nth l (i-1)).lv:=fun h=>b1 ⟨b6,h⟩
          have b4:0≤(i:Int)-1:=by omega
          simp (disch:=omega) [-getElem?_pos,-Int.natCast_eq_zero,wrap64,bp (l:=l),h3,dF,cY,mQ,kY,a2,c1,b6,b7,b4,h4,a4,V.gQ,eI,jI,bp (l:=(nth l i).c),hp,c2,c3,c4,d2,d3,e1];exact cc (i+1) (by simp) ⟨by omega,hq⟩ (by omega)
       ·rw[if_pos d1]at stop
        have d4:(decide ((nth (nth l i).c 0).x=0)&&decide ((nth (nth l i).c 0).y=0))=false:=by simpa using d1
        have d5:((nth (nth l i).c 0).x==0&&(nth (nth l i).c 0).y==0)=false:=by simpa using d1
        rcases Nat.eq_zero_or_pos i with b6|b6
        ·subst b6
         simp (disch:=omega) [-getElem?_pos,-Int.natCast_eq_zero,wrap64,bp (l:=l),h3,dF,cY,mQ,kY,a2,c1,V.gQ,eI,jI,bp (l:=(nth l 0).c),hp,d4,d5];exact(stop (by omega)).symm
        ·have b7:¬ (nth l i).lv≤(nth l (i-1)).lv:=fun h=>b1 ⟨b6,h⟩
         have b4:0≤(i:Int)-1:=by omega
         simp (disch:=omega) [-getElem?_pos,-Int.natCast_eq_zero,wrap64,bp (l:=l),h3,dF,cY,mQ,kY,a2,c1,b6,b7,b4,h4,a4,V.gQ,eI,jI,bp (l:=(nth l i).c),hp,d4,d5];exact(stop (by omega)).symm
      ·rw[if_pos c1]at stop
       rcases Nat.eq_zero_or_pos i with b6|b6
       ·subst b6
        simp (disch:=omega) [-getElem?_pos,-Int.natCast_eq_zero,wrap64,bp (l:=l),h3,dF,cY,mQ,kY,a2,c1,c1];exact(stop (by omega)).symm
       ·have b7:¬ (nth l i).lv≤(nth l (i-1)).lv:=fun h=>b1 ⟨b6,h⟩
        have b4:0≤(i:Int)-1:=by omega
        simp (disch:=omega) [-getElem?_pos,-Int.natCast_eq_zero,wrap64,bp (l:=l),h3,dF,cY,mQ,kY,a2,c1,b6,b7,b4,h4,a4,c1];exact(stop (by omega)).symm
    ·rw[if_pos a1]at stop
     have a2:(!decide (0≤(nth l i).lv) || !decide ((nth l i).lv≤16777216))=true:=by simp;omega
     simp (disch:=omega) [-getElem?_pos,-Int.natCast_eq_zero,wrap64,bp (l:=l),h3,dF,cY,a2];exact(stop (by omega)).symm
   ·obtain rfl:i=l.length:=by omega
    rw[mP]at hq;rw[←hq,if_neg (by omega)]at hW
    by_cases m1:0≤dv∧dv≤1000
    ·have m2:(!decide (0≤dv) || !decide (dv≤1000))=false:=by simp;omega
     by_cases m3:0≤move∧move≤1000
     ·have m4:(!decide (0≤move) || !decide (move≤1000))=false:=by simp;omega
      rw[if_neg (by omega)]at hW
      simp (disch:=omega) [-getElem?_pos,-Int.natCast_eq_zero,wrap64,dF,cY,m2,m4];exact hW
     ·have m4:(!decide (0≤move) || !decide (move≤1000))=true:=by simp;omega
      rw[if_pos (by omega)]at hW
      simp (disch:=omega) [-getElem?_pos,-Int.natCast_eq_zero,wrap64,dF,cY,m2,m4];exact hW
    ·have m2:(!decide (0≤dv) || !decide (dv≤1000))=true:=by simp;omega
     rw[if_pos (by omega)]at hW
     simp (disch:=omega) [-getElem?_pos,-Int.natCast_eq_zero,wrap64,dF,cY,m2];exact hW)
end Go.Proofs.YtmpikpodpgnjhaaGreat
namespace Go.Proofs.YtmpikpodpgnjhaaGreat
set_option linter.all false
open Go.Vm
attribute [local simp] eQ eR eO eP
structure Gs where
 o:Int
 j:Bool
 deriving Inhabited,DecidableEq
abbrev Gs.row(s:Gs):List V:=[i64 s.o,.bool s.j]
abbrev gs(s:Gs):V:=.agg s.row
abbrev jB(l:List Gt):V:=.slice none 3 (l.map Gt.row)
abbrev jo(l:List Gs):V:=.slice none 2 (l.map Gs.row)
def sM(l:List Rt)(lv:Int):Option (List Pt):=l.foldl (fun a r=>if r.lv≤lv then some r.c else a) none
def qf(l:List Rt)(lv:Int):List Pt:=(sM l lv).getD []
theorem Ec{l:List Rt}{r:Rt}{lv:Int}:sM (l++[r]) lv=if r.lv≤lv then some r.c else sM l lv:=by
 simp[sM,List.foldl_append]
def xq:Option (List Pt)→V
 |none=>.aM
 |some c=>ig c
@[simp] theorem aoq{o:Option (List Pt)}{d:Nat}:(xq o).cQ d=false:=by cases o<;>rfl
@[simp] theorem aor{o:Option (List Pt)}:(xq o).cU=true:=by cases o<;>rfl
def qQ(c:List Pt)(o:Int):Int:=if c.length=0 then 0 else g9 c o
structure Gv(g:Gt):Prop where
 cur:∀i,i<g.r.length→fU (nth g.r i).c=0
 top:∀i,i<g.r.length→(nth (nth g.r i).c ((nth g.r i).c.length-1)).y≤1073741824
 bot:∀i,i<g.r.length→(nth (nth g.r i).c 0).x=0∧(nth (nth g.r i).c 0).y=0
 jY:0<g.r.length∧g.r.length≤10
 dv:0≤g.dv∧g.dv≤1000
 move:0≤g.move∧g.move≤1000
theorem Uf{g:Gt}(h:jT g=0):Gv g:=by
 unfold jT at h;split at h
 ·cases h
 split at h
 ·cases h
 split at h
 ·rename_i h3;exact absurd h h3
 split at h
 ·cases h
 rename_i h1 h2 h3 h4;have h3:ec (nC g.r) g.r.length 0=0:=Decidable.of_not_not h3;have at_:∀i,i<g.r.length→fU (nth g.r i).c=0∧((nth (nth g.r i).c 0).x=0∧(nth (nth g.r i).c 0).y=0)∧(nth (nth g.r i).c ((nth g.r i).c.length-1)).y≤1073741824:=fun i hi=>by
  have:=sD h3 i (by omega) (by omega)
  unfold nC at this;split at this
  ·cases this
  split at this
  ·cases this
  split at this
  ·rename_i h5;exact absurd this h5
  split at this
  ·cases this
  split at this
  ·cases this
  rename_i h5 h6 h7;exact⟨Decidable.of_not_not h5,Decidable.of_not_not h6,by omega⟩
 exact⟨fun i hi=>(at_ i hi).1,fun i hi=>(at_ i hi).2.2,fun i hi=>(at_ i hi).2.1,by omega,by omega,by omega⟩
theorem Ug{P:List Pt→Prop}{l:List Rt}{lv:Int}(h:∀i,i<l.length→P (nth l i).c):qf l lv=[]∨P (qf l lv):=by
 have key:∀k,k≤l.length→∀c,sM (l.take k) lv=some c→P c:=by
  intro k;induction k with
  |zero=>intro _ c hc;simp[sM]at hc
  |succ k ih =>
   intro hk c hc;rw[jA (by omega),Ec]at hc
   split at hc
   ·cases hc;exact h k (by omega)
   ·exact ih (by omega) c hc
 have:=key l.length (Nat.le_refl _);rw[List.take_length]at this;unfold qf;cases hc:sM l lv with
 |none=>exact .inl rfl
 |some c=>exact .inr (this c hc)
theorem Uh{g:Gt}(hv:Gv g)(lv:Int)(G:List aV):∃t,bo F 212 [gt g,i64 lv] G=some (.agg [.slice t 2 ((qf g.r lv).map Pt.row),i64 0],G):=by
 suffices h:∀Q:V→List aV→Prop,(∀t,Q (.agg [.slice t 2 ((qf g.r lv).map Pt.row),i64 0]) G)→iP (bo F) 212 [gt g,i64 lv] G Q by
  obtain⟨_,_,h,t,rfl,rfl⟩:=h (fun v G'=>∃t,v=.agg [.slice t 2 ((qf g.r lv).map Pt.row),i64 0]∧G'=G) fun t=>⟨t,rfl,rfl⟩;exact⟨t,h⟩
 intro Q hQ;obtain⟨l,dv,move⟩:=g;have Bp:=hv.jY;simp only at Bp;refine jl rfl rfl ?_;simp (disch:=omega) [-getElem?_pos,wrap64,LW];refine go_loop (fun i:Nat=>adt lv (zE l) l.length i [.aM,i64 0] [xq (sM (l.take i) lv),i64 0] G) (fun i=>i≤l.length) (fun i=>l.length-i) 0 rfl (by simp[sM,xq]) (by omega) ?_
 rintro i hi;simp (disch:=omega) [-getElem?_pos,wrap64,SX];refine b9 (fun h3=>?_) (fun h3=>?_)
 ·have h3:i<l.length:=by omega
  by_cases h4:(nth l i).lv≤lv
  ·simp (disch:=omega) [-getElem?_pos,wrap64,bp (l:=l),h3,h4]
   refine cc (i+1) (by simp[jA h3,Ec,h4,xq]) (by omega) (by omega)
  ·simp (disch:=omega) [-getElem?_pos,wrap64,bp (l:=l),h3,h4]
   refine cc (i+1) (by simp[jA h3,Ec,h4,xq]) (by omega) (by omega)
 ·obtain rfl:i=l.length:=by omega
  rw[List.take_length];cases hc:sM l lv with
  |none =>
   simp only[qf,hc]at hQ;simp (disch:=omega) [-getElem?_pos,wrap64,xq];exact hQ _
  |some c =>
   simp only[qf,hc]at hQ;simp (disch:=omega) [-getElem?_pos,wrap64,xq];exact hQ _
theorem MM{c:List Pt}(h:c=[]∨fU c=0)(w o:Int)(G:List aV):bo F 214 [.agg [ig c,i64 w],i64 o] G=some (i64 (qQ c o),G) :=
 cg rfl rfl (by
  rcases h with rfl|h
  ·simp[wrap64,GO,qQ]
  ·have hp:=rD h
   have h1:¬ c.length=0:=by omega
   have h2:¬ (c.length:Int)=0:=by omega
   simp[wrap64,GO,qQ,GY (lF h),h1,h2])
theorem ahH{c:List Pt}(h:c=[]∨fU c=0)(w o:Int)(G:List aV):bo F 211 [.agg [ig c,i64 w],i64 o] G=some (.bool (decide (w≤qQ c o)),G) :=
 cg rfl rfl (by
  simp[wrap64,LV,MM h])
def iH(g:Gt)(o lv:Int):Int:=qQ (qf g.r lv) o
theorem ahI{g:Gt}(h:Gv g)(o lv:Int)(G:List aV):bo F 172 [gt g,i64 o,i64 lv] G=some (i64 (iH g o lv),G) :=
 cg rfl rfl (by
  obtain⟨l,dv,move⟩:=g;have MN:=h.cur;have Bp:=h.jY;simp only at MN Bp;generalize hW:iH ⟨l,dv,move⟩ o lv=W;unfold iH qf at hW;simp only at hW;simp (disch:=omega) [-getElem?_pos,wrap64,Lx];refine go_loop (fun i:Nat=>acF o lv (qQ ((sM (l.take i) lv).getD []) o) (zE l) l.length i G) (fun i=>i≤l.length) (fun i=>l.length-i) 0 rfl (by simp[sM,qQ]) (by omega) ?_
  rintro i hi;simp (disch:=omega) [-getElem?_pos,wrap64,SA];refine b9 (fun h3=>?_) (fun h3=>?_)
  ·have h3:i<l.length:=by omega
   have hp:=rD (MN i h3);have hn:¬ (nth l i).c=[]:=fun e=>by rw[e]at hp;simp at hp
   by_cases h4:(nth l i).lv≤lv
   ·simp (disch:=omega) [-getElem?_pos,wrap64,bp (l:=l),h3,h4,Mc,MN]
    refine cc (i+1) (by simp[jA h3,Ec,h4,qQ,hn]) (by omega) (by omega)
   ·simp (disch:=omega) [-getElem?_pos,wrap64,bp (l:=l),h3,h4]
    refine cc (i+1) (by simp[jA h3,Ec,h4]) (by omega) (by omega)
  ·obtain rfl:i=l.length:=by omega
   rw[List.take_length];simp (disch:=omega) [-getElem?_pos,wrap64,hW])
def mA(g:Gt)(s:Gs):Prop:=0≤s.o∧s.o≤g.dv
instance {g:Gt} {s:Gs}:Decidable (mA g s):=inferInstanceAs (Decidable (_∧_))
def fe(g:Gt)(s:Gs):Bd:=if s.j then ⟨s.o,s.o⟩ else ⟨max (s.o-g.move) 0,min (s.o+g.move) g.dv⟩
theorem Ui{g:Gt}{s:Gs}(h:Gv g)(hs:mA g s)(G:List aV):bo F 213 [gt g,gs s] G=some (.agg (fe g s).row,G) :=
 cg rfl rfl (by
  obtain⟨l,dv,move⟩:=g;obtain⟨o,j⟩:=s;have h1:=h.dv;have h2:=h.move;have h3:=hs.1;have h4:=hs.2;simp only at h1 h2 h3 h4;cases j with
  |true=>simp (disch:=omega) [wrap64,GN,fe]
  |false =>
   have e1:max (0:Int) (o-move)=max (o-move) 0:=Int.max_comm _ _;have e2:min dv (o+move)=min (o+move) dv:=Int.min_comm _ _;simp (disch:=omega) [wrap64,GN,fe,e1,e2])
theorem ahJ{g:Gt}{s:Gs}(h:Gv g)(hs:mA g s)(G:List aV):bo F 171 [gt g,gs s] G=some (.agg (fe g s).row,G) :=
 cg rfl rfl (by
  obtain⟨l,dv,move⟩:=g;obtain⟨o,j⟩:=s;have h1:=h.dv;have h2:=h.move;have h3:=hs.1;have h4:=hs.2;simp only at h1 h2 h3 h4;cases j with
  |true=>simp (disch:=omega) [wrap64,Gx,fe]
  |false =>
   have e1:max (0:Int) (o-move)=max (o-move) 0:=Int.max_comm _ _;have e2:min dv (o+move)=min (o+move) dv:=Int.min_comm _ _;simp (disch:=omega) [wrap64,Gx,fe,e1,e2])
theorem Hj(g:Gt)(s:Gs)(G:List aV):bo F 227 [gt g,gs s] G=some (.bool (decide (mA g s)),G) :=
 cg rfl rfl (by
  simp[wrap64,GQ,Gm,dF,cY,mA];by_cases h1:0≤s.o<;>by_cases h2:s.o≤g.dv<;>simp[h1,h2])
theorem xr(g:Gt)(s:Gs)(G:List aV):bo F 136 [gt g,gs s] G=some (.bool (decide (mA g s)),G) :=
 cg rfl rfl (by
  simp[wrap64,GQ,Gm,dF,cY,mA];by_cases h1:0≤s.o<;>by_cases h2:s.o≤g.dv<;>simp[h1,h2])
def v7(g:List Gt)(s:List Gs):Prop:=∀i,i<g.length→mA (nth g i) (nth s i)
noncomputable instance {g:List Gt} {s:List Gs}:Decidable (v7 g s):=Classical.propDecidable _
noncomputable def aE(g:List Gt)(s:List Gs)(lv:Int):Int :=
 if 8<g.length then 10 else if g.length≠s.length then 3 else if ¬v7 g s then 3
 else if ec (fun i=>jT (nth g i)) g.length 0≠0 then ec (fun i=>jT (nth g i)) g.length 0 else if ¬(0≤lv∧lv≤16777216) then 1 else 0
theorem Uj(g:List Gt)(s:List Gs)(lv:Int)(G:List aV):bo F 222 [jB g,jo s,i64 lv] G=some (i64 (aE g s lv),G) :=
 cg rfl rfl (by
  generalize hW:aE g s lv=W;unfold aE at hW;simp (disch:=omega) [-getElem?_pos,wrap64,GP,Gg];refine b9 (fun h1=>?_) (fun h1=>gO (fun h2=>?_) (fun h2=>?_))
  ·rw[if_pos (by omega)]at hW
   exact hW
  ·simp[-List.length_eq_zero_iff,-Int.natCast_eq_zero]at h2
   rw[if_neg (by omega),if_pos (by omega)]at hW
   exact hW
  ·simp[-List.length_eq_zero_iff,-Int.natCast_eq_zero]at h2
   rw[if_neg (by omega),if_neg (by omega)]at hW
   have hl:g.length=s.length:=by omega
   refine go_loop (fun i:Nat=>adG (jB g) (jo s) lv (jB g) g.length i G) (fun i=>i≤g.length∧∀j,j<i→mA (nth g j) (nth s j)) (fun i=>g.length-i) 0 rfl (by simp) ⟨by omega,by omega⟩ ?_
   rintro i ⟨hi,hv⟩;simp (disch:=omega) [-getElem?_pos,wrap64,S7];refine b9 (fun h3=>?_) (fun h3=>?_)
   ·have h3:i<g.length:=by omega
    by_cases h4:mA (nth g i) (nth s i)
    ·simp (disch:=omega) [-getElem?_pos,wrap64,bp (l:=g),bp (l:=s),Hj,xr,h4]
     refine cc (i+1) (by simp) ⟨by omega,fun j hj=>?_⟩ (by omega)
     rcases Nat.lt_or_ge j i with h5|h5
     ·exact hv j h5
     ·rwa [show j=i by omega]
    ·rw[if_pos (fun h=>h4 (h i h3))]at hW
     simp (disch:=omega) [-getElem?_pos,wrap64,bp (l:=g),bp (l:=s),Hj,xr,h4];exact hW
   ·obtain rfl:i=g.length:=by omega
    rw[if_neg (fun h=>h hv)]at hW;refine go_loop (fun i:Nat=>adI lv (jB g) g.length i G) (fun i=>i≤g.length∧ec (fun i=>jT (nth g i)) (g.length-i) i=ec (fun i=>jT (nth g i)) g.length 0) (fun i=>g.length-i) 0 rfl (by simp) ⟨by omega,rfl⟩ ?_
    rintro i ⟨hi,hq⟩;simp (disch:=omega) [-getElem?_pos,wrap64,S8];refine b9 (fun h3=>?_) (fun h3=>?_)
    ·have h3:i<g.length:=by omega
     rw[lZ h3]at hq;by_cases h4:jT (nth g i)=0
     ·rw[if_pos h4]at hq
      simp (disch:=omega) [-getElem?_pos,wrap64,bp (l:=g),xo,xp,h4];exact cc (i+1) (by simp) ⟨by omega,hq⟩ (by omega)
     ·rw[if_neg h4]at hq
      rw[←hq,if_pos h4]at hW;simp (disch:=omega) [-getElem?_pos,wrap64,bp (l:=g),xo,xp,h4];exact hW
    ·obtain rfl:i=g.length:=by omega
     rw[mP]at hq;rw[←hq,if_neg (by omega)]at hW
     by_cases m1:0≤lv∧lv≤16777216
     ·have m2:(!decide (0≤lv) || !decide (lv≤16777216))=false:=by simp;omega
      rw[if_neg (by omega)]at hW
      simp (disch:=omega) [-getElem?_pos,wrap64,dF,cY,m2];exact hW
     ·have m2:(!decide (0≤lv) || !decide (lv≤16777216))=true:=by simp;omega
      rw[if_pos (by omega)]at hW
      simp (disch:=omega) [-getElem?_pos,wrap64,dF,cY,m2];exact hW)
theorem Hk(g:List Gt)(s:List Gs)(lv:Int)(G:List aV):bo F 123 [jB g,jo s,i64 lv] G=some (i64 (aE g s lv),G) :=
 cg rfl rfl (by
  generalize hW:aE g s lv=W;unfold aE at hW;simp (disch:=omega) [-getElem?_pos,wrap64,GP,Gg];refine b9 (fun h1=>?_) (fun h1=>gO (fun h2=>?_) (fun h2=>?_))
  ·rw[if_pos (by omega)]at hW
   exact hW
  ·simp[-List.length_eq_zero_iff,-Int.natCast_eq_zero]at h2
   rw[if_neg (by omega),if_pos (by omega)]at hW
   exact hW
  ·simp[-List.length_eq_zero_iff,-Int.natCast_eq_zero]at h2
   rw[if_neg (by omega),if_neg (by omega)]at hW
   have hl:g.length=s.length:=by omega
   refine go_loop (fun i:Nat=>abB (jB g) (jo s) lv (jB g) g.length i G) (fun i=>i≤g.length∧∀j,j<i→mA (nth g j) (nth s j)) (fun i=>g.length-i) 0 rfl (by simp) ⟨by omega,by omega⟩ ?_
   rintro i ⟨hi,hv⟩;simp (disch:=omega) [-getElem?_pos,wrap64,R1];refine b9 (fun h3=>?_) (fun h3=>?_)
   ·have h3:i<g.length:=by omega
    by_cases h4:mA (nth g i) (nth s i)
    ·simp (disch:=omega) [-getElem?_pos,wrap64,bp (l:=g),bp (l:=s),Hj,xr,h4]
     refine cc (i+1) (by simp) ⟨by omega,fun j hj=>?_⟩ (by omega)
     rcases Nat.lt_or_ge j i with h5|h5
     ·exact hv j h5
     ·rwa [show j=i by omega]
    ·rw[if_pos (fun h=>h4 (h i h3))]at hW
     simp (disch:=omega) [-getElem?_pos,wrap64,bp (l:=g),bp (l:=s),Hj,xr,h4];exact hW
   ·obtain rfl:i=g.length:=by omega
    rw[if_neg (fun h=>h hv)]at hW;refine go_loop (fun i:Nat=>abF lv (jB g) g.length i G) (fun i=>i≤g.length∧ec (fun i=>jT (nth g i)) (g.length-i) i=ec (fun i=>jT (nth g i)) g.length 0) (fun i=>g.length-i) 0 rfl (by simp) ⟨by omega,rfl⟩ ?_
    rintro i ⟨hi,hq⟩;simp (disch:=omega) [-getElem?_pos,wrap64,R2];refine b9 (fun h3=>?_) (fun h3=>?_)
    ·have h3:i<g.length:=by omega
     rw[lZ h3]at hq;by_cases h4:jT (nth g i)=0
     ·rw[if_pos h4]at hq
      simp (disch:=omega) [-getElem?_pos,wrap64,bp (l:=g),xo,xp,h4];exact cc (i+1) (by simp) ⟨by omega,hq⟩ (by omega)
     ·rw[if_neg h4]at hq
      rw[←hq,if_pos h4]at hW;simp (disch:=omega) [-getElem?_pos,wrap64,bp (l:=g),xo,xp,h4];exact hW
    ·obtain rfl:i=g.length:=by omega
     rw[mP]at hq;rw[←hq,if_neg (by omega)]at hW
     by_cases m1:0≤lv∧lv≤16777216
     ·have m2:(!decide (0≤lv) || !decide (lv≤16777216))=false:=by simp;omega
      rw[if_neg (by omega)]at hW
      simp (disch:=omega) [-getElem?_pos,wrap64,dF,cY,m2];exact hW
     ·have m2:(!decide (0≤lv) || !decide (lv≤16777216))=true:=by simp;omega
      rw[if_pos (by omega)]at hW
      simp (disch:=omega) [-getElem?_pos,wrap64,dF,cY,m2];exact hW)
end Go.Proofs.YtmpikpodpgnjhaaGreat
namespace Go.Proofs.YtmpikpodpgnjhaaGreat
set_option linter.all false
open Go.Vm
attribute [local simp] eQ eR eO eP
theorem ahK{c:List Pt}{i:Nat}:oa c i (nth c (i-1)).x=(nth c (i-1)).y:=by simp[oa]
theorem ahL{c:List Pt}(h:Cv c){k:Nat}(hk:k<c.length){x:Int}(hx:x≤(nth c k).x):g9 c x≤(nth c k).y:=by
 rcases Ma h x with h1 | ⟨i,a,b,d,e⟩ | h1
 ·rw[yZ h h1];exact h.le (by omega) hk
 ·rw[uK h a b d e]
  have h2:=DT h a b d e;rcases Nat.lt_or_ge k i with h3|h3
  ·rcases Nat.lt_or_ge k (i-1) with h4|h4
   ·have:=h.lt h4 (by omega);omega
   ·obtain rfl:k=i-1:=by omega
    have:x=(nth c (i-1)).x:=by omega
    rw[this,ahK];omega
  ·have:=h.le h3 hk
   unfold oa;omega
 ·have hp:=h.pos
  rcases Nat.lt_or_ge k (c.length-1) with h4|h4
  ·have:=h.lt h4 (by omega);omega
  ·obtain rfl:k=c.length-1:=by omega
   rw[GX h h1];omega
theorem MO{c:List Pt}(h:Cv c){x x':Int}(hx:x≤x'):g9 c x≤g9 c x':=by
 rcases Ma h x' with h1 | ⟨i,a,b,d,e⟩ | h1
 ·rw[yZ h h1,yZ h (by omega)];omega
 ·by_cases h2:(nth c (i-1)).x≤x
  ·rw[uK h a b d e,uK h a b h2 (by omega)]
   have h3:=h.up i a b;have h4:=h.mono i a b;unfold oa;have:=Int.tdiv_le_tdiv (a:=((nth c i).y-(nth c (i-1)).y)*(x-(nth c (i-1)).x)) (b:=((nth c i).y-(nth c (i-1)).y)*(x'-(nth c (i-1)).x)) (c:=(nth c i).x-(nth c (i-1)).x) (by omega)
    (Int.mul_le_mul_of_nonneg_left (by omega) (by omega))
   omega
  ·have h5:=ahL h (k:=i-1) (by omega) (x:=x) (by omega)
   have h6:=DT h a b d e;rw[uK h a b d e];unfold oa;omega
 ·rw[GX h h1]
  exact(Bn h x).2
theorem ahM{c:List Pt}(h:c=[]∨fU c=0){o o':Int}(ho:o≤o'):qQ c o≤qQ c o':=by
 rcases h with rfl|h
 ·simp[qQ]
 ·unfold qQ
  rw[if_neg (by have:=rD h;omega),if_neg (by have:=rD h;omega)]
  exact MO (lF h) ho
theorem MP{g:Gt}(h:Gv g)(lv:Int):qf g.r lv=[]∨fU (qf g.r lv)=0:=Ug (P:=fun c=>fU c=0) h.cur
theorem ahN{g:Gt}(h:Gv g){lv o o':Int}(ho:o≤o'):iH g o lv≤iH g o' lv:=ahM (MP h lv) ho
theorem rG{g:Gt}(h:Gv g)(o lv:Int):0≤iH g o lv∧iH g o lv≤1073741824:=by
 unfold iH qQ;have h1:=Ug (P:=fun c=>fU c=0∧(nth c (c.length-1)).y≤1073741824) (l:=g.r) (lv:=lv) (fun i hi=>⟨h.cur i hi,h.top i hi⟩);rcases h1 with h1 | ⟨h1,h2⟩
 ·rw[h1];simp
 ·rw[if_neg (by have:=rD h1;omega)]
  have h3:=Bn (lF h1) o;have h4:=(lF h1).y0 0 (rD h1);omega
theorem Ed{g:List Gt}{s:List Gs}{lv:Int}(h:aE g s lv=0):g.length≤8∧g.length=s.length∧v7 g s∧(∀i,i<g.length→Gv (nth g i))∧0≤lv∧lv≤16777216:=by
 unfold aE at h;split at h
 ·cases h
 split at h
 ·cases h
 split at h
 ·cases h
 split at h
 ·rename_i h1;exact absurd h h1
 split at h
 ·cases h
 rename_i h1 h2 h3 h4 h5;have h4:=Decidable.of_not_not h4;exact⟨by omega,by omega,Decidable.of_not_not h3,fun i hi=>Uf (sD h4 i (by omega) (by omega)),by omega⟩
def kP(f:Gt→Gs→Int)(g:List Gt)(s:List Gs)(i:Nat):Int:=(List.zipWith f (g.take i) (s.take i)).sum
theorem Hl{f:Gt→Gs→Int}{g:List Gt}{s:List Gs}:kP f g s 0=0:=by simp[kP]
theorem zG{f:Gt→Gs→Int}{g:List Gt}{s:List Gs}{i:Nat}(h1:i<g.length)(h2:i<s.length):kP f g s (i+1)=kP f g s i+f (nth g i) (nth s i):=by
 unfold kP;rw[vV h1 h2,List.sum_append];simp
theorem MQ{f:Gt→Gs→Int}{g:List Gt}{s:List Gs}(hl:g.length=s.length)(h:∀i,i<g.length→0≤f (nth g i) (nth s i)∧f (nth g i) (nth s i)≤1073741824):∀i,i≤g.length→0≤kP f g s i∧kP f g s i≤1073741824*i:=by
 intro i;induction i with
 |zero=>intro _;rw[Hl];omega
 |succ i ih =>
  intro hi;rw[zG (by omega) (by omega)]
  have:=ih (by omega)
  have:=h i (by omega)
  omega
def fV(lv:Int)(g:Gt)(s:Gs):Int:=iH g (fe g s).lo lv
def Hm(lv:Int)(g:Gt)(s:Gs):Int:=iH g (fe g s).hi lv
noncomputable def BA(g:List Gt)(s:List Gs)(lv:Int):V:=if aE g s lv=0 then .tuple [.agg [i64 (kP (fV lv) g s g.length),i64 (kP (Hm lv) g s g.length)],i64 0] else .tuple [.agg [i64 0,i64 0],i64 (aE g s lv)]
theorem MR(g:List Gt)(s:List Gs)(lv:Int)(G:List aV):bo F 210 [jB g,jo s,i64 lv] G=some (BA g s lv,G) :=
 cg rfl rfl (by
  generalize hW:BA g s lv=W;unfold BA at hW;by_cases he:aE g s lv=0
  ·rw[if_pos he]at hW
   obtain⟨h1,h2,h3,h4,h5⟩:=Ed he;have r1:=MQ (f:=fV lv) h2 (fun i hi=>rG (h4 i hi) _ _);have r2:=MQ (f:=Hm lv) h2 (fun i hi=>rG (h4 i hi) _ _);simp (disch:=omega) [-getElem?_pos,wrap64,GM,Uj,he];refine go_loop (fun i:Nat=>adq (jo s) lv (jB g) g.length i [i64 0,i64 0] [i64 (kP (fV lv) g s i),i64 (kP (Hm lv) g s i)] G) (fun i=>i≤g.length) (fun i=>g.length-i) 0 rfl (by simp[Hl]) (by omega) ?_
   rintro i hi;simp (disch:=omega) [-getElem?_pos,wrap64,SW];refine b9 (fun h6=>?_) (fun h6=>?_)
   ·have h6:i<g.length:=by omega
    have h7:i<s.length:=by omega
    obtain⟨t,ht⟩:=Uh (h4 i h6) lv [];have hr:=Ui (h4 i h6) (h3 i h6);have hf:=MM (MP (h4 i h6) lv);have b1:=r1 i (by omega)
    have b2:=r2 i (by omega)
    have b3:=rG (h4 i h6) (fe (nth g i) (nth s i)).lo lv;have b4:=rG (h4 i h6) (fe (nth g i) (nth s i)).hi lv;unfold iH at b3 b4;simp (disch:=omega) [-getElem?_pos,wrap64,bp (l:=g),bp (l:=s),ht,hr,hf];exact cc (i+1) (by simp[zG h6 h7,fV,Hm,iH]) (by omega) (by omega)
   ·obtain rfl:i=g.length:=by omega
    exact hW
  ·rw[if_neg he]at hW
   simp (disch:=omega) [-getElem?_pos,wrap64,GM,Uj,he];exact hW)
end Go.Proofs.YtmpikpodpgnjhaaGreat
namespace Go.Proofs.YtmpikpodpgnjhaaGreat
set_option linter.all false
open Go.Vm
attribute [local simp] eQ eR eO eP
def kQ(f:Bd→Int)(g:List Gt)(s:List Gs):List Int:=List.zipWith (fun g s=>f (fe g s)) g s
theorem xt{f:Bd→Int}{g:List Gt}{s:List Gs}(h:g.length=s.length):(kQ f g s).length=g.length:=by simp[kQ,h]
theorem Ee{f:Bd→Int}{g:List Gt}{s:List Gs}{i:Nat}(h1:i<g.length)(h2:i<s.length):nth (kQ f g s) i=f (fe (nth g i) (nth s i)):=Bt h1 h2
theorem ahO{g:List Gt}{s:List Gs}(hl:g.length=s.length)(hn:g.length≤8)(hs:v7 g s)(hv:∀i,i<g.length→Gv (nth g i))(G:List aV) :
  bo F 124 [jB g,jo s] G=some (.tuple [own (kQ Bd.lo g s),own (kQ Bd.hi g s)],G) :=
 cg rfl rfl (by
  simp (disch:=omega) [-getElem?_pos,wrap64,K4];refine go_loop (fun i:Nat=>abH (jo s) (.slice (some 1028) 1 ((kQ Bd.lo (g.take i) (s.take i)).map fun n=>[i64 n])) (.slice (some 1033) 1 ((kQ Bd.hi (g.take i) (s.take i)).map fun n=>[i64 n])) (jB g) g.length i i i G) (fun i=>i≤g.length) (fun i=>g.length-i) 0 rfl (by simp[kQ]) (by omega) ?_
  rintro i hi;have e1:(kQ Bd.lo (g.take i) (s.take i)).length=i:=by rw[xt (by simp;omega)];simp;omega
  have e2:(kQ Bd.hi (g.take i) (s.take i)).length=i:=by rw[xt (by simp;omega)];simp;omega
  simp (disch:=omega) [-getElem?_pos,wrap64,R3,e1,e2];refine b9 (fun h6=>?_) (fun h6=>?_)
  ·have h6:i<g.length:=by omega
   have h7:i<s.length:=by omega
   have hr:=ahJ (hv i h6) (hs i h6);simp (disch:=omega) [-getElem?_pos,wrap64,bp (l:=g),bp (l:=s),hr,e1,e2];refine cc (i+1) ?_ (by omega) (by omega)
   unfold kQ;rw[vV h6 h7,vV h6 h7];simp
  ·obtain rfl:i=g.length:=by omega
   have t1:g.take g.length=g:=List.take_length;have t2:s.take g.length=s:=by rw[hl];exact List.take_length
   rw[t1,t2]at *;simp (disch:=omega) [-getElem?_pos,wrap64,e1,e2])
def oX(g:List Gt)(l:List Int)(lv:Int)(i:Nat):Int:=(List.zipWith (fun g o=>iH g o lv) (g.take i) (l.take i)).sum
theorem Hn{g:List Gt}{l:List Int}{lv:Int}:oX g l lv 0=0:=by simp[oX]
theorem Ef{g:List Gt}{l:List Int}{lv:Int}{i:Nat}(h1:i<g.length)(h2:i<l.length):oX g l lv (i+1)=oX g l lv i+iH (nth g i) (nth l i) lv:=by
 unfold oX;rw[vV h1 h2,List.sum_append];simp
theorem ahP{g:List Gt}{l:List Int}{lv:Int}(hl:g.length=l.length)(hv:∀i,i<g.length→Gv (nth g i)):∀i,i≤g.length→0≤oX g l lv i∧oX g l lv i≤1073741824*i:=by
 intro i;induction i with
 |zero=>intro _;rw[Hn];omega
 |succ i ih =>
  intro hi;rw[Ef (by omega) (by omega)]
  have:=ih (by omega)
  have:=rG (hv i (by omega)) (nth l i) lv
  omega
theorem Eg{g:List Gt}{l:List Int}(hl:g.length=l.length)(hn:g.length≤8)(hv:∀i,i<g.length→Gv (nth g i))(lv:Int)(G:List aV) :
  bo F 125 [jB g,ints l,i64 lv] G=some (i64 (oX g l lv g.length),G) :=
 cg rfl rfl (by
  generalize hW:oX g l lv g.length=W;simp (disch:=omega) [-getElem?_pos,wrap64,K5];refine go_loop (fun i:Nat=>abL (ints l) lv (oX g l lv i) (jB g) g.length i G) (fun i=>i≤g.length) (fun i=>g.length-i) 0 rfl (by simp[Hn]) (by omega) ?_
  rintro i hi;simp (disch:=omega) [-getElem?_pos,wrap64,R4];refine b9 (fun h6=>?_) (fun h6=>?_)
  ·have h6:i<g.length:=by omega
   have h7:i<l.length:=by omega
   have hr:=ahI (hv i h6);have b1:=ahP (lv:=lv) hl hv i (by omega)
   have b2:=rG (hv i h6) (nth l i) lv;simp (disch:=omega) [-getElem?_pos,wrap64,bp (l:=g),ez h7,hr];exact cc (i+1) (by simp[Ef h6 h7]) (by omega) (by omega)
  ·obtain rfl:i=g.length:=by omega
   exact hW)
theorem ahQ{f:Bd→Int}{g:List Gt}{s:List Gs}{lv:Int}(hl:g.length=s.length):∀i,i≤g.length→oX g (kQ f g s) lv i=kP (fun g s=>iH g (f (fe g s)) lv) g s i:=by
 intro i;induction i with
 |zero=>intro _;rw[Hn,Hl]
 |succ i ih =>
  intro hi;rw[Ef (by omega) (by rw[xt hl];omega),zG (by omega) (by omega),ih (by omega),Ee (by omega) (by omega)]
end Go.Proofs.YtmpikpodpgnjhaaGreat
namespace Go.Proofs.YtmpikpodpgnjhaaGreat
set_option linter.all false
open Go.Vm
attribute [local simp] eQ eR eO eP
theorem ahR{n:Int}(h1:0≤n)(h2:n≤18446744073709551615):IntKind.u64.wrap n=n:=by
 simp[IntKind.wrap,IntKind.bits,IntKind.signed];omega
def Uk(f:FuncId)(cap:List V)(G:List aV)(N:Int)(p:Int→Bool):Prop:=∀m,0≤m→m<N→bo F f (i64 m::cap) G=some (.bool (p m),G)
theorem ahS{f:FuncId}{cap:List V}{G:List aV}{N:Int}{p:Int→Bool}(hN:0≤N)(hN2:N≤1000000)(h:Uk f cap G N p) :
  ∃r,bo F 223 [i64 N,.fn f cap] G=some (i64 r,G)∧0≤r∧r≤N∧(0<r→p (r-1)=false)∧(r<N→p r=true):=by
 suffices hs:∀Q:V→List aV→Prop,(∀r,0≤r→r≤N→(0<r→p (r-1)=false)→(r<N→p r=true)→Q (i64 r) G)→iP (bo F) 223 [i64 N,.fn f cap] G Q by
  obtain⟨_,_,h,r,rfl,rfl,h1⟩:=hs (fun v G'=>∃r,v=i64 r∧G'=G∧0≤r∧r≤N∧(0<r→p (r-1)=false)∧(r<N→p r=true)) fun r a b c d=>⟨r,rfl,rfl,a,b,c,d⟩;exact⟨r,h,h1⟩
 intro Q hQ;refine jl rfl rfl ?_;simp (disch:=omega) [wrap64,L1];refine go_loop (fun s:Int×Int=>adK (.fn f cap) s.1 s.2 G) (fun s=>0≤s.1∧s.1≤s.2∧s.2≤N∧(0<s.1→p (s.1-1)=false)∧(s.2<N→p s.2=true)) (fun s=>(s.2-s.1).toNat) (0,N) rfl (by simp) ⟨by simp,by simpa using hN,by simp,by simp,by simp⟩ ?_
 rintro⟨a,b⟩ ⟨h1,h2,h3,h4,h5⟩;simp only at h1 h2 h3 h4 h5;simp (disch:=omega) [wrap64,S9];refine b9 (fun h6=>?_) (fun h6=>?_)
 ·have e1:IntKind.u64.wrap (a+b)=a+b:=ahR (by omega) (by omega)
  have e2:(a+b).fdiv 2=(a+b) / 2:=Int.fdiv_eq_ediv_of_nonneg _ (by omega)
  have hp:=h ((a+b) / 2) (by omega) (by omega)
  have e3:(2:Int) ^ (min 1 IntKind.u64.bits)=2:=rfl;simp (disch:=omega) [wrap64,e1,e2,e3,hp];cases hq:p ((a+b) / 2) with
  |false =>
   simp (disch:=omega) [wrap64,wrap64];refine cc ((a+b) / 2+1,b) (by simp) ⟨by simp;omega,by simp;omega,h3,fun _=>?_,h5⟩ (by simp;omega)
   simpa using hq
  |true =>
   simp (disch:=omega) [wrap64,wrap64];exact cc (a,(a+b) / 2) (by simp) ⟨h1,by simp;omega,by simp;omega,h4,fun _=>hq⟩ (by simp;omega)
 ·obtain rfl:a=b:=by omega
  exact hQ a (by omega) (by omega) h4 h5
def sN(p:Int→Bool):Nat→Int→Int
 |0,o=>o
 |n+1,o=>if p o then o else sN p n (o+1)
theorem MS{p:Int→Bool}:∀{n:Nat} {o x:Int},o≤x→x≤o+n→(∀m,o≤m→m<x→p m=false)→(x<o+n→p x=true)→sN p n o=x
 |0,o,x,h1,h2,_,_=>by simp[sN];omega
 |n+1,o,x,h1,h2,h3,h4=>by
  unfold sN;by_cases h:o=x
  ·subst h
   rw[if_pos (h4 (by omega))]
  ·rw[if_neg (by rw[h3 o (by omega) (by omega)];simp)]
   exact MS (by omega) (by omega) (fun m a b=>h3 m (by omega) b) (fun a=>h4 (by omega))
theorem ahT{f:FuncId}{cap:List V}{G:List aV}{i j:Nat}{lo hi m:Int}{b:Bool}(h1:G[i]?=some (.cells [.fn f cap]))(h2:G[j]?=some (.cells [i64 lo,i64 hi]))
  (hw:-1000000≤lo+m∧lo+m≤1000000) (h:bo F f (i64 (lo+m)::cap) G=some (.bool b,G)):bo F 224 [i64 m,.bN i 0,.bN j 0] G=some (.bool b,G) :=
 cg rfl rfl (by
  have e:IntKind.i64.wrap (lo+m)=lo+m:=wrap64 (by omega) (by omega)
  simp[wrap64,L2,h1,h2,h,e])
theorem ahU{f:FuncId}{cap:List V}{G:List aV}{lo hi:Int}{p:Int→Bool}(hl:0≤lo∧lo≤hi∧hi≤1000)(hp:∀m m',p m=true→m≤m'→p m'=true)
  (h:∀E m,lo≤m→m≤hi→bo F f (i64 m::cap) (G++E)=some (.bool (p m),G++E)) :
  bo F 215 [.agg [i64 lo,i64 hi],.fn f cap] G=some (i64 (sN p (hi-lo).toNat lo),G++[.cells [i64 lo,i64 hi],.cells [.fn f cap]]):=by
 have hs:Uk 224 [.bN (G.length+1) 0,.bN G.length 0] (G++[.cells [i64 lo,i64 hi],.cells [.fn f cap]]) (hi-lo+1) (fun m=>p (lo+m)):=fun m a b =>
  ahT Qo AR (by omega) (h _ _ (by omega) (by omega))
 obtain⟨r,h1,h2,h3,h4,h5⟩:=ahS (by omega) (by omega) hs
 have e:sN p (hi-lo).toNat lo=min (lo+r) hi:=by
  refine MS (by omega) (by omega) (fun m a b=>?_) (fun a=>?_)
  ·have h6:=h4 (by omega)
   cases hq:p m with
   |false=>rfl
   |true =>
    have:=hp m (lo+(r-1)) hq (by omega)
    rw[h6]at this;cases this
  ·have:=h5 (by omega)
   rw[show min (lo+r) hi=lo+r by omega]
   exact this
 rw[e];exact cg rfl rfl (by
  simp (disch:=omega) [wrap64,LX,h1,AR,Qo])
theorem ahV{G:List aV}{i j:Nat}{m w:Int}{c:List Pt}(h1:G[i]?=some (.cells [.fn 211 []]))(h2:G[j]?=some (.cells [ig c,i64 w]))(hc:c=[]∨fU c=0) :
  bo F 216 [i64 m,.bN i 0,.bN j 0] G=some (.bool (decide (w≤qQ c m)),G) :=
 cg rfl rfl (by
  simp[wrap64,LY,h1,h2,ahH hc])
def oY(lv w:Int)(g:Gt)(s:Gs)(sum:Int):Int :=
 if sum<w then sN (fun o=>decide (w-(sum-fV lv g s)≤iH g o lv)) ((fe g s).hi-(fe g s).lo).toNat (fe g s).lo else (fe g s).lo
def bs(lv w:Int)(g:List Gt)(s:List Gs):Nat→List Int×Int
 |0=>(kQ Bd.lo g s,kP (fV lv) g s g.length)
 |i+1=>((bs lv w g s i).1.set i (oY lv w (nth g i) (nth s i) (bs lv w g s i).2),(bs lv w g s i).2-fV lv (nth g i) (nth s i)+iH (nth g i) (oY lv w (nth g i) (nth s i) (bs lv w g s i).2) lv)
def BB(o:Int)(s:Gs):Gs:=⟨o,s.j⟩
def ma(l:List Int)(s:List Gs):List Gs:=List.zipWith BB l s
noncomputable def kn(g:List Gt)(s:List Gs)(lv w:Int):Int:=if aE g s lv≠0 then aE g s lv else if ¬(0≤w∧w≤1073741824) then 1 else 0
noncomputable def nE(g:List Gt)(s:List Gs)(lv w:Int):List Gs:=if kn g s lv w=0 then ma (bs lv w g s g.length).1 s else []
noncomputable def oh(g:List Gt)(s:List Gs)(lv w:Int):Int:=if kn g s lv w=0 then (bs lv w g s g.length).2 else 0
theorem nF{lv w:Int}{g:List Gt}{s:List Gs}(hl:g.length=s.length):∀i,(bs lv w g s i).1.length=g.length
 |0=>xt hl
 |i+1=>by simp[bs,nF hl i]
theorem zH{g:Gt}{s:Gs}(h:Gv g)(hs:mA g s):0≤(fe g s).lo∧(fe g s).lo≤(fe g s).hi∧(fe g s).hi≤g.dv:=by
 have h1:=h.dv;have h2:=h.move;have h3:=hs.1;have h4:=hs.2;unfold fe;split
 ·simp only;omega
 ·simp only;omega
theorem Ul{p:Int→Bool}:∀{n:Nat} {o:Int},o≤sN p n o∧sN p n o≤o+n
 |0,o=>by simp[sN]
 |n+1,o=>by
  unfold sN;have:=Ul (p:=p) (n:=n) (o:=o+1);split
  ·omega
  ·omega
theorem ahW{lv w:Int}{g:Gt}{s:Gs}(h:Gv g)(hs:mA g s)(sum:Int):(fe g s).lo≤oY lv w g s sum∧oY lv w g s sum≤(fe g s).hi:=by
 have:=zH h hs;unfold oY;split
 ·have:=Ul (p:=fun o=>decide (w-(sum-fV lv g s)≤iH g o lv)) (n:=((fe g s).hi-(fe g s).lo).toNat) (o:=(fe g s).lo)
  omega
 ·omega
theorem ahX{lv w:Int}{g:List Gt}{s:List Gs}(hl:g.length=s.length)(hs:v7 g s)(hv:∀i,i<g.length→Gv (nth g i)):∀i,i≤g.length →
  kP (fV lv) g s g.length-kP (fV lv) g s i≤(bs lv w g s i).2∧(bs lv w g s i).2≤kP (fV lv) g s g.length-kP (fV lv) g s i+1073741824*i:=by
 intro i;induction i with
 |zero=>intro _;simp[bs,Hl]
 |succ i ih =>
  intro hi;have h1:=ih (by omega)
  have h2:=rG (hv i (by omega)) (oY lv w (nth g i) (nth s i) (bs lv w g s i).2) lv
  have h3:=rG (hv i (by omega)) (fe (nth g i) (nth s i)).lo lv
  rw[zG (by omega) (by omega)]
  simp only[bs,fV]at h1 ⊢;omega
theorem Um{lv w:Int}{g:List Gt}{s:List Gs}(hl:g.length=s.length)(hn:g.length≤8)(hs:v7 g s)(hv:∀i,i<g.length→Gv (nth g i)){i:Nat}(hi:i≤g.length) :
  0≤(bs lv w g s i).2∧(bs lv w g s i).2≤17179869184∧(i<g.length→fV lv (nth g i) (nth s i)≤(bs lv w g s i).2):=by
 have h1:=ahX (lv:=lv) (w:=w) hl hs hv i hi;have r:=MQ (f:=fV lv) hl (fun i hi=>rG (hv i hi) _ _);have r1:=r g.length (Nat.le_refl _);have r2:=r i hi;have mono:∀k,i≤k→k≤g.length→kP (fV lv) g s i≤kP (fV lv) g s k:=by
  intro k h;induction k with
  |zero=>intro _;obtain rfl:i=0:=by omega
         omega
  |succ k ih =>
   intro hk;rcases Nat.lt_or_ge k i with h3|h3
   ·obtain rfl:i=k+1:=by omega
    omega
   ·rw[zG (by omega) (by omega)]
    have:=ih h3 (by omega)
    have:=rG (hv k (by omega)) (fe (nth g k) (nth s k)).lo lv
    unfold fV;unfold fV at *;omega
 have m1:=mono g.length hi (Nat.le_refl _);refine⟨by omega,by omega,fun h=>?_⟩
 have m2:=mono (i+1) (by omega) (by omega)
 have m3:kP (fV lv) g s (i+1)≤kP (fV lv) g s g.length:=by
  have ahY:∀k,i+1≤k→k≤g.length→kP (fV lv) g s (i+1)≤kP (fV lv) g s k:=by
   intro k hk;induction k with
   |zero=>omega
   |succ k ih =>
    intro lx;rcases Nat.lt_or_ge k (i+1) with h3|h3
    ·obtain rfl:i=k:=by omega
     omega
    ·rw[zG (i:=k) (by omega) (by omega)]
     have:=ih h3 (by omega)
     have:=rG (hv k (by omega)) (fe (nth g k) (nth s k)).lo lv
     unfold fV;unfold fV at *;omega
  exact ahY g.length (by omega) (Nat.le_refl _)
 rw[zG (by omega) (by omega)]at m3
 omega
theorem ahZ(g:List Gt)(s:List Gs)(lv w:Int):∃G',bo F 204 [jB g,jo s,i64 lv,i64 w] []=some (.tuple [.slice (some 0) 2 ((nE g s lv w).map Gs.row),i64 (oh g s lv w),i64 (kn g s lv w)],G'):=by
 suffices h:∀Q:V→List aV→Prop,(∀G',Q (.tuple [.slice (some 0) 2 ((nE g s lv w).map Gs.row),i64 (oh g s lv w),i64 (kn g s lv w)]) G')→iP (bo F) 204 [jB g,jo s,i64 lv,i64 w] [] Q by
  obtain⟨_,G',h,rfl⟩:=h (fun v G'=>v=.tuple [.slice (some 0) 2 ((nE g s lv w).map Gs.row),i64 (oh g s lv w),i64 (kn g s lv w)]) fun _=>rfl;exact⟨G',h⟩
 intro Q hQ;refine jl rfl rfl ?_;by_cases he:aE g s lv=0
 ·obtain⟨h1,h2,h3,h4,h5⟩:=Ed he
  by_cases hw:0≤w∧w≤1073741824
  ·have hE:kn g s lv w=0:=by simp[kn,he,hw]
   simp only[nE,oh,hE,if_true]at hQ;have ru:(!decide (0≤w) || !decide (w≤1073741824))=false:=by simp;omega
   have tW:(decide (0≤w)&&decide (w≤1073741824))=true:=by simp;omega
   have e0:bs lv w g s 0=(kQ Bd.lo g s,kP (fV lv) g s g.length):=rfl;simp (disch:=omega) [-getElem?_pos,wrap64,DP,MR,BA,he,dF,ru,tW];have hou:∀i,i≤g.length→(ma ((bs lv w g s i).1.take i) (s.take i)).length=i:=fun i hi=>by
    have:=nF (lv:=lv) (w:=w) h2 i;simp[ma];omega
   refine go_loop (fun x:Nat×List aV=>adk (jo s) lv w (bs lv w g s x.1).2 (.bN 0 0) (.slice (some 1083) 2 ((ma ((bs lv w g s x.1).1.take x.1) (s.take x.1)).map Gs.row)) (jB g) g.length x.1 x.1 x.2)
    (fun x=>x.1≤g.length∧x.2[0]?=some (.cells [.fn 211 []])) (fun x=>g.length-x.1) (0,[.cells [.fn 211 []]]) rfl (by simp[bs,ma]) ⟨by simp,rfl⟩ ?_
   rintro⟨i,G⟩ ⟨hi,hG⟩;simp only at hi hG;have BC:=hou i hi;have MT:0<G.length:=by
    rcases Nat.eq_zero_or_pos G.length with h|h
    ·rw[List.getElem?_eq_none (by omega)]at hG;cases hG
    ·exact h
   simp (disch:=omega) [-getElem?_pos,wrap64,SS];refine b9 (fun h6=>?_) (fun h6=>?_)
   ·have h6:i<g.length:=by omega
    have h7:i<s.length:=by omega
    obtain⟨t,ht⟩:=Uh (h4 i h6) lv [];have hr:=Ui (h4 i h6) (h3 i h6);have hk:=MP (h4 i h6) lv;have hf:=MM hk;have hro:=zH (h4 i h6) (h3 i h6);have hm:=(h4 i h6).dv;obtain⟨b1,b2,b3⟩:=Um (lv:=lv) (w:=w) h2 h1 h3 h4 (i:=i) hi;have b3:=b3 h6;have b4:=rG (h4 i h6) (fe (nth g i) (nth s i)).lo lv;have b5:=rG (h4 i h6) (oY lv w (nth g i) (nth s i) (bs lv w g s i).2) lv;have zI:=nF (lv:=lv) (w:=w) h2 i;have Uo:ma ((bs lv w g s (i+1)).1.take (i+1)) (s.take (i+1))=ma ((bs lv w g s i).1.take i) (s.take i)++[BB (oY lv w (nth g i) (nth s i) (bs lv w g s i).2) (nth s i)]:=by
     unfold ma;rw[vV (by rw[nF h2];exact h6) h7]
     simp only[bs];rw[List.take_set_of_le (Nat.le_refl _)];congr 2;simp[nth,zI,h6]
    by_cases tV:(bs lv w g s i).2<w
    ·have vi:oY lv w (nth g i) (nth s i) (bs lv w g s i).2=sN (fun o=>decide (w-((bs lv w g s i).2-fV lv (nth g i) (nth s i))≤iH (nth g i) o lv)) ((fe (nth g i) (nth s i)).hi-(fe (nth g i) (nth s i)).lo).toNat (fe (nth g i) (nth s i)).lo:=by
      unfold oY;rw[if_pos tV]
     have hL:=ahU (f:=216) (cap:=[.bN 0 0,.bN G.length 0]) (G:=G++[.cells [ig (qf (nth g i).r lv),i64 (w-((bs lv w g s i).2-fV lv (nth g i) (nth s i)))]]) (lo:=(fe (nth g i) (nth s i)).lo) (hi:=(fe (nth g i) (nth s i)).hi)
      (p:=fun o=>decide (w-((bs lv w g s i).2-fV lv (nth g i) (nth s i))≤iH (nth g i) o lv)) (by omega) (fun m m' hp xK=>by
       have:=ahN (h4 i h6) (lv:=lv) xK;simp only[decide_eq_true_eq]at hp ⊢;omega) (fun E m _ _=>ahV (by rw[List.append_assoc,List.getElem?_append_left MT];exact hG) (by rw[List.append_assoc];exact AR) hk)
     rw[←vi]at hL;unfold fV iH at hL b3;unfold iH at b4 b5;simp (disch:=omega) [-getElem?_pos,wrap64,bp (l:=g),bp (l:=s),ht,hr,hf,AR,tV];simp (disch:=omega) [-getElem?_pos,wrap64,hL,AR,hf,bp (l:=s),BC];refine cc (i+1,G++[.cells [ig (qf (nth g i).r lv),i64 (w-((bs lv w g s i).2-fV lv (nth g i) (nth s i)))],.cells [i64 (fe (nth g i) (nth s i)).lo,i64 (fe (nth g i) (nth s i)).hi],.cells [.fn 216 [.bN 0 0,.bN G.length 0]]])
      (by rw[Uo];simp[bs,fV,iH,BB,BC]) ⟨by simp;omega,by simp only;rw[List.getElem?_append_left MT];exact hG⟩ (by simp;omega)
    ·have vi:oY lv w (nth g i) (nth s i) (bs lv w g s i).2=(fe (nth g i) (nth s i)).lo:=by
      unfold oY;rw[if_neg tV]
     have hb:(bs lv w g s (i+1)).2=(bs lv w g s i).2:=by
      simp only[bs,fV,vi];omega
     simp (disch:=omega) [-getElem?_pos,wrap64,bp (l:=g),bp (l:=s),ht,hr,hf,AR,tV,BC];refine cc (i+1,G++[.cells [ig (qf (nth g i).r lv),i64 0]])
      (by rw[Uo,hb,vi];simp[BB,BC]) ⟨by simp;omega,by simp only;rw[List.getElem?_append_left MT];exact hG⟩ (by simp;omega)
   ·obtain rfl:i=g.length:=by omega
    have t1:(bs lv w g s g.length).1.take g.length=(bs lv w g s g.length).1:=List.take_of_length_le (by rw[nF h2];omega)
    have t2:s.take g.length=s:=List.take_of_length_le (by omega)
    rw[t1,t2]at BC ⊢;simp (disch:=omega) [-getElem?_pos,wrap64,BC];exact hQ _
  ·have tW:(decide (0≤w)&&decide (w≤1073741824))=false:=by simp;omega
   have hE:kn g s lv w=1:=by simp[kn,he];omega
   have uQ:¬ kn g s lv w=0:=by rw[hE];omega
   simp only[nE,oh,if_neg uQ]at hQ;rw[hE]at hQ;have ru:(!decide (0≤w) || !decide (w≤1073741824))=true:=by simp;omega
   simp (disch:=omega) [-getElem?_pos,wrap64,DP,MR,BA,he,dF,ru,tW];exact hQ _
 ·have hE:kn g s lv w=aE g s lv:=by simp[kn,he]
  have uQ:¬ kn g s lv w=0:=by rw[hE];exact he
  simp only[nE,oh,if_neg uQ]at hQ;rw[hE]at hQ;simp (disch:=omega) [-getElem?_pos,wrap64,DP,MR,BA,he];exact hQ _
end Go.Proofs.YtmpikpodpgnjhaaGreat
namespace Go.Proofs.YtmpikpodpgnjhaaGreat
set_option linter.all false
open Go.Vm
theorem Ho{l:List Int}{i:Nat}{o:Int}(h:i<l.length):nth (l.set i o) i=o:=by simp[nth,h]
theorem Up{l:List Int}{i k:Nat}{o:Int}(h:i≠k):nth (l.set i o) k=nth l k:=by simp[nth,h]
theorem Uq{l:List Int}{i:Nat}(h:i<l.length):l.set i (nth l i)=l:=by
 apply List.ext_getElem?;intro k;by_cases hk:i=k
 ·subst hk
  rw[List.getElem?_set_self h,bp h]
 ·rw[List.getElem?_set_ne hk]
theorem ah2{g:List Gt}{l:List Int}{lv o:Int}{i:Nat}(hl:g.length=l.length)(hi:i<g.length):∀k,k≤g.length→oX g (l.set i o) lv k=oX g l lv k+(if i<k then iH (nth g i) o lv-iH (nth g i) (nth l i) lv else 0):=by
 intro k;induction k with
 |zero=>intro _;simp[Hn]
 |succ k ih =>
  intro hk;rw[Ef (by omega) (by simp;omega),Ef (by omega) (by omega),ih (by omega)]
  by_cases h1:i=k
  ·subst h1
   rw[Ho (by omega),if_neg (by omega),if_pos (by omega)]
   omega
  ·rw[Up h1]
   by_cases h2:i<k
   ·rw[if_pos h2,if_pos (by omega)];omega
   ·rw[if_neg h2,if_neg (by omega)];omega
section
variable {g:List Gt} {s:List Gs} {lv w:Int}
theorem Hp(hl:g.length=s.length):∀{i k:Nat},i≤k→k<g.length→nth (bs lv w g s i).1 k=(fe (nth g k) (nth s k)).lo:=by
 intro i;induction i with
 |zero=>intro k _ hk;exact Ee hk (by omega)
 |succ i ih =>
  intro k h hk;simp only[bs];rw[Up (by omega)]
  exact ih (by omega) hk
theorem MU(hl:g.length=s.length){i:Nat}(ht:oX g (bs lv w g s i).1 lv g.length=(bs lv w g s i).2)(hi:i<g.length)(o:Int) :
  oX g ((bs lv w g s i).1.set i o) lv g.length=(bs lv w g s i).2-fV lv (nth g i) (nth s i)+iH (nth g i) o lv:=by
 rw[ah2 (by rw[nF hl]) hi _ (Nat.le_refl _),if_pos hi,ht,Hp hl (Nat.le_refl _) hi]
 unfold fV;omega
theorem Hq(hl:g.length=s.length):∀i,i≤g.length→oX g (bs lv w g s i).1 lv g.length=(bs lv w g s i).2:=by
 intro i;induction i with
 |zero=>intro _;exact ahQ hl _ (Nat.le_refl _)
 |succ i ih =>
  intro hi;have:=MU hl (ih (by omega)) (by omega) (oY lv w (nth g i) (nth s i) (bs lv w g s i).2)
  simpa only[bs] using this
theorem ah3(hl:g.length=s.length){j:Nat}(hw:w≤(bs lv w g s j).2):∀k,j≤k→k≤g.length→bs lv w g s k=bs lv w g s j:=by
 intro k hjk;induction k with
 |zero=>intro _;obtain rfl:j=0:=by omega
        rfl
 |succ k ih =>
  intro hk;rcases Nat.lt_or_ge k j with h|h
  ·obtain rfl:j=k+1:=by omega
   rfl
  ·have h1:=ih h (by omega)
   have ho:oY lv w (nth g k) (nth s k) (bs lv w g s k).2=(fe (nth g k) (nth s k)).lo:=by
    unfold oY;rw[if_neg (by rw[h1];omega)]
   have h2:bs lv w g s (k+1)=bs lv w g s k:=by
    have e1:(bs lv w g s k).1.set k (fe (nth g k) (nth s k)).lo=(bs lv w g s k).1:=by
     rw[←Hp (lv:=lv) (w:=w) hl (Nat.le_refl k) (by omega)]
     exact Uq (by rw[nF hl];omega)
    simp only[bs,ho,fV,e1];rw[show(bs lv w g s k).2-iH (nth g k) (fe (nth g k) (nth s k)).lo lv+iH (nth g k) (fe (nth g k) (nth s k)).lo lv=(bs lv w g s k).2 by omega]
   rw[h2,h1]
structure Way(lv w:Int)(g:List Gt)(s:List Gs)(i:Nat)(o:Int):Prop where
 lt:i<g.length
 lo:(fe (nth g i) (nth s i)).lo≤o
 hi:o≤(fe (nth g i) (nth s i)).hi
 no:∀p,(fe (nth g i) (nth s i)).lo≤p→p<o→(bs lv w g s i).2-fV lv (nth g i) (nth s i)+iH (nth g i) p lv<w
theorem Way.done{i:Nat}{o:Int}(h:Way lv w g s i o)(hv:Gv (nth g i))(hs:mA (nth g i) (nth s i))(hd:o=(fe (nth g i) (nth s i)).hi∨w≤(bs lv w g s i).2-fV lv (nth g i) (nth s i)+iH (nth g i) o lv) :
  oY lv w (nth g i) (nth s i) (bs lv w g s i).2=o:=by
 have h1:=h.lo;have h2:=h.hi;unfold oY;split
 ·refine MS h1 (by omega) (fun p a b=>?_) (fun a=>?_)
  ·have:=h.no p a b
   exact decide_eq_false (by omega)
  ·rcases hd with hd|hd
   ·omega
   ·exact decide_eq_true (by omega)
 ·rename_i hn
  by_cases he:(fe (nth g i) (nth s i)).lo=o
  ·exact he
  ·have:=h.no _ (Int.le_refl _) (by omega)
   unfold fV at this;omega
theorem Ur(hl:g.length=s.length){i:Nat}(hi:i<g.length)(hv:Gv (nth g i))(hs:mA (nth g i) (nth s i)):Way lv w g s i (fe (nth g i) (nth s i)).lo :=
 ⟨hi,Int.le_refl _,(zH hv hs).2.1,fun p a b=>by omega⟩
theorem Ut(hl:g.length=s.length){i:Nat}(hi:i<g.length):(bs lv w g s i).1.set i (fe (nth g i) (nth s i)).lo=(bs lv w g s i).1:=by
 rw[←Hp (lv:=lv) (w:=w) hl (Nat.le_refl i) hi];exact Uq (by rw[nF hl];exact hi)
end
end Go.Proofs.YtmpikpodpgnjhaaGreat
namespace Go.Proofs.YtmpikpodpgnjhaaGreat
set_option linter.all false
open Go.Vm
attribute [local simp] eQ eR eO eP
theorem Uu{l:List Int}{i:Nat}(h:l.length≤i):nth l i=0:=by
 simp only[nth,List.getD,List.getElem?_eq_none h];rfl
theorem ah4(g:List Gt)(s:List Gs)(lv w:Int)(G:List aV):bo F 61 [jB g,jo s,i64 lv,i64 w] G=some (.tuple [.slice (some 0) 2 ((nE g s lv w).map Gs.row),i64 (oh g s lv w),i64 (kn g s lv w)],G) :=
 cg rfl rfl (by
  generalize hW:V.tuple [.slice (some 0) 2 ((nE g s lv w).map Gs.row),i64 (oh g s lv w),i64 (kn g s lv w)]=W;by_cases he:aE g s lv=0
  ·obtain⟨h1,h2,h3,h4,h5⟩:=Ed he
   by_cases hw:0≤w∧w≤1073741824
   ·have hE:kn g s lv w=0:=by simp[kn,he,hw]
    simp only[nE,oh,hE,if_true]at hW;have ru:(!decide (0≤w) || !decide (w≤1073741824))=false:=by simp;omega
    have tW:(decide (0≤w)&&decide (w≤1073741824))=true:=by simp;omega
    have uQ:=ahO h2 h1 h3 h4;by_cases hg:g=[]
    ·subst hg
     have hs0:s=[]:=by simpa using h2.symm
     subst hs0;have hE3:bo F 124 [.slice none 3 [],.slice none 2 []] []=some (.tuple [.slice (some 0) 1 [],.slice (some 0) 1 []],[]):=uQ [];have hT3:bo F 125 [.slice none 3 [],.slice none 1 [],i64 lv] []=some (i64 0,[]):=Eg (g:=[]) (l:=[]) rfl (by simp) (by simp) lv []
     have e2:ky 20031 0 (.tuple [.slice (some 0) 1 [],.slice (some 0) 1 []])=some (.tuple [.eX 1,.slice none 1 []],none):=rfl;have he0:bo F 123 [.slice none 3 [],.slice none 2 [],i64 lv] []=some (i64 0,[]):=by
      have:=Hk [] [] lv [];rw[he]at this;exact this
     simp (disch:=omega) [-getElem?_pos,wrap64,A5,he0,cY,ru,tW,hE3,e2,Rw,F7,Rx,F8,yG,hT3];simpa [ma,bs,kP] using hW
    ·have cF:kQ Bd.lo g s≠[]:=fun e=>hg (by have:=xt (f:=Bd.lo) h2;rw[e]at this;exact List.length_eq_zero_iff.1 this.symm)
     have e2:=ZP (id:=20031) (t:=0) (u:=0) (m:=kQ Bd.hi g s) cF;have ke:=xt (f:=Bd.lo) h2;simp (disch:=omega) [-getElem?_pos,wrap64,A5,Hk,he,cY,ru,tW,uQ,e2,ke];have g6:0<g.length:=List.length_pos_iff.2 hg;refine go_loop (fun x:Nat×List Int=>aaN (jB g) (jo s) lv w g.length (ints (kQ Bd.hi g s)) x.1 (dR x.2) G)
      (fun x=>(∃o,Way lv w g s x.1 o∧x.2=(bs lv w g s x.1).1.set x.1 o)∨(x.1=g.length∧x.2=(bs lv w g s g.length).1)) (fun x=>(g.length-x.1)*2000+(nth (kQ Bd.hi g s) x.1-nth x.2 x.1).toNat) (0,kQ Bd.lo g s) rfl (by simp) (.inl ⟨_,Ur h2 g6 (h4 0 g6) (h3 0 g6),by rw[Ut h2 g6];rfl⟩) ?_
     rintro⟨i,l⟩ hinv;simp only at hinv;have hlen:l.length=g.length:=by
      rcases hinv with⟨o,_,rfl⟩ | ⟨_,rfl⟩
      ·rw[List.length_set,nF h2]
      ·rw[nF h2]
     have hT:=Eg hlen.symm h1 h4 lv;rcases hinv with⟨o,hway,hl⟩ | ⟨rfl,rfl⟩
     ·have hi:=hway.lt
      have Ux:oX g l lv g.length=(bs lv w g s i).2-fV lv (nth g i) (nth s i)+iH (nth g i) o lv:=by
       rw[hl];exact MU h2 (Hq h2 i (by omega)) hi o
      rw[Ux]at hT;generalize Uy:(bs lv w g s i).2-fV lv (nth g i) (nth s i)+iH (nth g i) o lv=T at *;have bF:i<l.length:=by omega
      simp (disch:=omega) [-getElem?_pos,wrap64,F7,hi,hT,hlen];have Hr:i<(kQ Bd.hi g s).length:=by rw[xt h2];exact hi
      have Hs:nth l i=o:=by rw[hl];exact Ho (by rw[nF h2];exact hi)
      have BD:nth (kQ Bd.hi g s) i=(fe (nth g i) (nth s i)).hi:=Ee hi (by omega)
      refine b9 (fun h6=>?_) (fun h6=>?_)
      ·simp (disch:=omega) [-getElem?_pos,wrap64,kL bF,ez Hr,Hs,BD]
       refine b9 (fun h7=>?_) (fun h7=>?_)
       ·have hd:=hway.done (h4 i hi) (h3 i hi) (.inl h7)
        have hn:(bs lv w g s (i+1)).1=l:=by simp only[bs,hd,hl]
        refine cc (i+1,l) (by simp) ?_ ?_
        ·by_cases qJ:i+1<g.length
         ·refine .inl ⟨_,Ur h2 qJ (h4 _ qJ) (h3 _ qJ),?_⟩
          simp only;rw[Ut h2 qJ,hn]
         ·exact .inr ⟨by simp only;omega,by simp only;rw[←hn,show g.length=i+1 by omega]⟩
        ·have oG:nth (kQ Bd.hi g s) (i+1)-nth l (i+1)≤1000:=by
          by_cases qJ:i+1<g.length
          ·rw[Ee qJ (by omega),← hn,Hp h2 (Nat.le_refl _) qJ]
           have:=zH (h4 _ qJ) (h3 _ qJ);have:=(h4 _ qJ).dv;omega
          ·have e1:nth (kQ Bd.hi g s) (i+1)=0:=Uu (by rw[xt h2];omega)
           have e2:nth l (i+1)=0:=Uu (by omega)
           omega
         simp only;omega
       ·have nc:=hway.lo
        have uy:=hway.hi;have hro:=zH (h4 i hi) (h3 i hi);have hmo:=(h4 i hi).dv;refine go_loop (fun l:List Int=>aaM (jB g) (jo s) lv w g.length (ints (kQ Bd.hi g s)) i (dR l) G)
         (fun m=>∃o',Way lv w g s i o'∧o≤o'∧m=(bs lv w g s i).1.set i o') (fun m=>(nth (kQ Bd.hi g s) i-nth m i).toNat) l rfl (by simp[hlen]) ⟨o,hway,Int.le_refl _,hl⟩ ?_
        rintro m ⟨o',hway',wY,rfl⟩;have aov:=hway'.lo;have aow:=hway'.hi;have Eh:((bs lv w g s i).1.set i o').length=g.length:=by rw[List.length_set,nF h2]
        have tR:i<((bs lv w g s i).1.set i o').length:=by omega
        have BE:nth ((bs lv w g s i).1.set i o') i=o':=Ho (by rw[nF h2];exact hi)
        have Ei:=Eg Eh.symm h1 h4 lv;rw[MU h2 (Hq h2 i (by omega)) hi o']at Ei
        have EJ:∀z,((bs lv w g s i).1.set i o').set i z=(bs lv w g s i).1.set i z:=fun z=>by simp
        generalize hm:(bs lv w g s i).1.set i o'=m at Eh tR BE Ei EJ ⊢;by_cases h8:o'<(fe (nth g i) (nth s i)).hi
        ·by_cases h9:(bs lv w g s i).2-fV lv (nth g i) (nth s i)+iH (nth g i) o' lv<w
         ·simp (disch:=omega) [-getElem?_pos,wrap64,F6,kL tR,ez Hr,BE,BD,h8,Ei,Eh,h9]
          refine cc (m.set i (o'+1)) (by simp) ⟨o'+1,⟨hi,by omega,by omega,fun p a b=>?_⟩,by omega,EJ _⟩ ?_
          ·by_cases hp:p=o'
           ·rw[hp];exact h9
           ·exact hway'.no p a (by omega)
          ·rw[Ho tR];omega
         ·simp (disch:=omega) [-getElem?_pos,wrap64,F6,kL tR,ez Hr,BE,BD,h8,Ei,Eh,h9]
          refine cc (i,m) (by simp) (.inl ⟨o',hway',hm.symm⟩) ?_
          have:o≠o':=fun e=>by rw[←e,Uy]at h9;exact h9 h6
          simp only[BE,Hs,BD];omega
        ·simp (disch:=omega) [-getElem?_pos,wrap64,F6,kL tR,ez Hr,BE,BD,h8,Ei,Eh]
         refine cc (i,m) (by simp) (.inl ⟨o',hway',hm.symm⟩) ?_
         simp only[BE,Hs,BD];omega
      ·have hd:=hway.done (h4 i hi) (h3 i hi) (.inr (by omega))
       have hs2:(bs lv w g s (i+1)).2=T:=by rw[←Uy];simp only[bs,hd]
       have hn:l=(bs lv w g s g.length).1:=by
        rw[ah3 h2 (j:=i+1) (by omega) g.length (by omega) (Nat.le_refl _),hl]
        simp only[bs,hd]
       clear hT Ux bF Hs
       subst hn;refine go_loop (fun k:Nat=>Ry (jB g) lv g.length (.slice (some 1096) 2 ((ma ((bs lv w g s g.length).1.take k) (s.take k)).map Gs.row)) (jo s) s.length k (dR (bs lv w g s g.length).1) k G) (fun k=>k≤s.length) (fun k=>s.length-k) 0 rfl (by simp[ma]) (by omega) ?_
       rintro k hk;have bz:(ma ((bs lv w g s g.length).1.take k) (s.take k)).length=k:=by
        have:=nF (lv:=lv) (w:=w) h2 g.length;simp[ma];omega
       have zI:=nF (lv:=lv) (w:=w) h2 g.length;have Ej:=Eg zI.symm h1 h4 lv;rw[Hq h2 g.length (Nat.le_refl _)]at Ej;simp (disch:=omega) [-getElem?_pos,wrap64,F8,bz];refine b9 (fun h6=>?_) (fun h6=>?_)
       ·have h6:k<s.length:=by omega
        have h7:k<(bs lv w g s g.length).1.length:=by omega
        simp (disch:=omega) [-getElem?_pos,wrap64,bp (l:=s),kL h7,bz];refine cc (k+1) ?_ (by omega) (by omega)
        unfold ma;rw[vV h7 h6];simp[BB]
       ·obtain rfl:k=s.length:=by omega
        have t1:(bs lv w g s g.length).1.take s.length=(bs lv w g s g.length).1:=List.take_of_length_le (by omega)
        rw[t1,List.take_length]at bz ⊢;simp (disch:=omega) [-getElem?_pos,wrap64,bz,zI,Ej];exact hW
     ·have hi:¬ g.length<g.length:=Nat.lt_irrefl _
      simp (disch:=omega) [-getElem?_pos,wrap64,F7,hlen];refine go_loop (fun k:Nat=>Ry (jB g) lv g.length (.slice (some 1096) 2 ((ma ((bs lv w g s g.length).1.take k) (s.take k)).map Gs.row)) (jo s) s.length k (dR (bs lv w g s g.length).1) k G) (fun k=>k≤s.length) (fun k=>s.length-k) 0 rfl (by simp[ma]) (by omega) ?_
      rintro k hk;have bz:(ma ((bs lv w g s g.length).1.take k) (s.take k)).length=k:=by
       have:=nF (lv:=lv) (w:=w) h2 g.length;simp[ma];omega
      have zI:=nF (lv:=lv) (w:=w) h2 g.length;have Ej:=Eg zI.symm h1 h4 lv;rw[Hq h2 g.length (Nat.le_refl _)]at Ej;simp (disch:=omega) [-getElem?_pos,wrap64,F8,bz];refine b9 (fun h6=>?_) (fun h6=>?_)
      ·have h6:k<s.length:=by omega
       have h7:k<(bs lv w g s g.length).1.length:=by omega
       simp (disch:=omega) [-getElem?_pos,wrap64,bp (l:=s),kL h7,bz];refine cc (k+1) ?_ (by omega) (by omega)
       unfold ma;rw[vV h7 h6];simp[BB]
      ·obtain rfl:k=s.length:=by omega
       have t1:(bs lv w g s g.length).1.take s.length=(bs lv w g s g.length).1:=List.take_of_length_le (by omega)
       rw[t1,List.take_length]at bz ⊢;simp (disch:=omega) [-getElem?_pos,wrap64,bz,zI,Ej];exact hW
   ·have tW:(decide (0≤w)&&decide (w≤1073741824))=false:=by simp;omega
    have hE:kn g s lv w=1:=by simp[kn,he];omega
    have uQ:¬ kn g s lv w=0:=by rw[hE];omega
    simp only[nE,oh,if_neg uQ]at hW;rw[hE]at hW;have ru:(!decide (0≤w) || !decide (w≤1073741824))=true:=by simp;omega
    simp (disch:=omega) [-getElem?_pos,wrap64,A5,Hk,he,cY,ru,tW];exact hW
  ·have hE:kn g s lv w=aE g s lv:=by simp[kn,he]
   have uQ:¬ kn g s lv w=0:=by rw[hE];exact he
   simp only[nE,oh,if_neg uQ]at hW;rw[hE]at hW;simp (disch:=omega) [-getElem?_pos,wrap64,A5,Hk,he];exact hW)
end Go.Proofs.YtmpikpodpgnjhaaGreat
namespace Go.Proofs.YtmpikpodpgnjhaaGreat
set_option linter.all false
open Go.Vm
end Go.Proofs.YtmpikpodpgnjhaaGreat
