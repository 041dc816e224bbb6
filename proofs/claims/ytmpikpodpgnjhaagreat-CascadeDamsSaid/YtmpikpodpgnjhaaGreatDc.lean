/- Parts of the proof, joined: Sto1, Sto2, Sto3, Ord1, Ref1, Ref2, Ref3, Rng1. -/
import Derived.Test.YtmpikpodpgnjhaaGreatDa
import Derived.Test.YtmpikpodpgnjhaaGreatDb
namespace Go.Proofs.YtmpikpodpgnjhaaGreat
set_option linter.all false
open Go.Vm
attribute [local simp] eQ eR eO eP
structure Rs where
 c:List Pt
 d:Int
 l:Int
 f:Int
 s:Int
 t:Int
abbrev Rs.cells(r:Rs):List V:=[ig r.c,i64 r.d,i64 r.l,i64 r.f,i64 r.s,i64 r.t]
def qM(c:List Pt)(i:Nat):Int:=if (nth c i).y≤(nth c (i-1)).y then 4 else 0
def qN(r:Rs):List Int:=[(nth r.c 0).x,r.d,r.l,r.f,r.s,r.t,(nth r.c (r.c.length-1)).x]
def oW(l:List Int)(i:Nat):Int:=if nth l i<nth l (i-1) then 4 else 0
def hY(r:Rs):Int :=
 if fU r.c≠0 then fU r.c else if r.c.length<2 then 3 else if 16777216<(nth r.c (r.c.length-1)).x then 1
 else if ec (qM r.c) (r.c.length-1) 1=0 then ec (oW (qN r)) (7-1) 1 else 4
theorem TT{c:List Pt}(h:fU c=0):c.length≤100:=by
 unfold fU at h;split at h
 ·cases h
 ·split at h
  ·cases h
  ·omega
theorem TU(r:Rs)(G:List aV):bo F 128 [.agg r.cells] G=some (i64 (hY r),G) :=
 cg rfl rfl (by
  generalize hW:hY r=W;unfold hY at hW;simp (disch:=omega) [-getElem?_pos,wrap64,K7,mQ];refine gO (fun h=>?_) (fun h=>?_)
  ·simp[-List.length_eq_zero_iff,-Int.natCast_eq_zero]at h
   rw[if_pos (by omega)]at hW
   exact hW
  ·simp[-List.length_eq_zero_iff,-Int.natCast_eq_zero]at h
   rw[if_neg (by omega)]at hW
   refine b9 (fun h2=>?_) (fun h2=>?_)
   ·rw[if_pos (by omega)]at hW
    simpa using hW
   ·rw[if_neg (by omega)]at hW
    have h3:((r.c.length:Int)-1).toNat=r.c.length-1:=by omega
    have h4:r.c.length-1<r.c.length:=by omega
    have h5:0≤(r.c.length:Int)-1:=by omega
    have hl:=TT h;simp (disch:=omega) [-getElem?_pos,wrap64,bp (l:=r.c),h3,h4,h5];refine b9 (fun h6=>?_) (fun h6=>?_)
    ·rw[if_pos (by omega)]at hW
     simpa using hW
    ·rw[if_neg (by omega)]at hW
     have hq:(if ec (qM r.c) (r.c.length-1) 1=0 then ec (oW (qN r)) (7-1) 1 else (4:Int))=W:=hW
     clear hW
     refine go_loop (fun i:Nat=>abP r.c.length i r.cells G) (fun i=>1≤i∧i≤r.c.length∧(if ec (qM r.c) (r.c.length-i) i=0 then ec (oW (qN r)) (7-1) 1 else (4:Int))=W) (fun i=>r.c.length-i) 1 rfl (by simp) ⟨by omega,by omega,hq⟩ ?_
     rintro i ⟨MD,hi,hq⟩;simp (disch:=omega) [-getElem?_pos,wrap64,R6];refine b9 (fun h7=>?_) (fun h7=>?_)
     ·have h7:i<r.c.length:=by omega
      rw[lZ h7]at hq;have h8:((i:Int)-1).toNat=i-1:=by omega
      have h9:i-1<r.c.length:=by omega
      have fQ:0≤(i:Int)-1:=by omega
      simp (disch:=omega) [-getElem?_pos,wrap64,bp (l:=r.c),h8,h9,fQ,h7];refine b9 (fun kg=>?_) (fun kg=>?_)
      ·have e:qM r.c i=4:=by rw[qM,if_pos kg]
       rw[e]at hq;simpa using hq
      ·have e:qM r.c i=0:=by rw[qM,if_neg kg]
       rw[e,if_pos rfl]at hq;exact cc (i+1) (by simp) ⟨by omega,by omega,hq⟩ (by omega)
     ·have h7:i=r.c.length:=by omega
      subst h7;rw[mP]at hq;rw[if_pos rfl]at hq;simp (disch:=omega) [-getElem?_pos,wrap64,bp (l:=r.c),h3,h4,h5];have hL:(qN r).length=7:=rfl;have hO:[V.int IntKind.i64 (nth r.c 0).x,V.int IntKind.i64 r.d,V.int IntKind.i64 r.l,V.int IntKind.i64 r.f,V.int IntKind.i64 r.s,V.int IntKind.i64 r.t,V.int IntKind.i64 (nth r.c (r.c.length-1)).x]=(qN r).map (V.int .i64):=rfl;rw[hO];generalize qN r=L at hq hL ⊢;refine go_loop (fun i:Nat=>abR i (L.map (V.int .i64)) G) (fun i=>1≤i∧i≤7∧ec (oW L) (7-i) i=W) (fun i=>7-i) 1 rfl (by simp) ⟨by omega,by omega,hq⟩ ?_
      rintro j ⟨nz,hj,hq⟩;simp (disch:=omega) [-getElem?_pos,wrap64,R7];refine b9 (fun h7=>?_) (fun h7=>?_)
      ·have h7:j<7:=by omega
       rw[lZ h7]at hq;have h8:((j:Int)-1).toNat=j-1:=by omega
       have h9:j-1<L.length:=by omega
       have fQ:0≤(j:Int)-1:=by omega
       have kg:j<L.length:=by omega
       simp (disch:=omega) [-getElem?_pos,wrap64,bp (l:=L),h8,h9,fQ,h7,kg,hL];refine b9 (fun rm=>?_) (fun rm=>?_)
       ·have e:oW L j=4:=by rw[oW,if_pos rm]
        rw[e]at hq;simpa using hq
       ·have e:oW L j=0:=by rw[oW,if_neg rm]
        rw[e,if_pos rfl]at hq;exact cc (j+1) (by simp) ⟨by omega,by omega,hq⟩ (by omega)
      ·have h7:j=7:=by omega
       subst h7;simpa [ec] using hq)
theorem qO{r:Rs}(h:hY r=0):fU r.c=0:=by
 unfold hY at h;split at h
 ·rename_i h1;exact h
 ·rename_i h1;exact Decidable.of_not_not h1
end Go.Proofs.YtmpikpodpgnjhaaGreat
namespace Go.Proofs.YtmpikpodpgnjhaaGreat
set_option linter.all false
open Go.Vm
attribute [local simp] eQ eR eO eP
theorem TV{c:List Pt}(h:Cv c):∀{m i:Nat},i+m<c.length→(nth c i).x≤(nth c (i+m)).x
 |0,i,_=>by simp
 |m+1,i,hi=>by
  have h1:=TV h (m:=m) (i:=i) (by omega)
  have h2:=h.up (i+m+1) (by omega) (by omega)
  have h3:i+m+1-1=i+m:=by omega
  rw[h3]at h2;have h4:i+(m+1)=i+m+1:=by omega
  rw[h4];omega
theorem xl(r:Rs)(G:List aV):bo F 131 [.agg r.cells] G=some (i64 (hY r),G) :=
 cg rfl rfl (by
  generalize hW:hY r=W;unfold hY at hW;by_cases h:fU r.c=0
  ·rw[if_neg (by omega)]at hW
   have hl:=TT h;simp (disch:=omega) [-getElem?_pos,wrap64,Gj,kY,h];refine b9 (fun h2=>?_) (fun h2=>?_)
   ·rw[if_pos (by omega)]at hW
    simpa using hW
   ·rw[if_neg (by omega)]at hW
    have h3:((r.c.length:Int)-1).toNat=r.c.length-1:=by omega
    have h4:r.c.length-1<r.c.length:=by omega
    have h5:0≤(r.c.length:Int)-1:=by omega
    refine go_loop (fun i:Nat=>abY r.c.length (ig r.c) r.c.length i r.cells G) (fun i=>i≤r.c.length∧∀j,j<i→(nth r.c j).x≤16777216) (fun i=>r.c.length-i) 0 rfl (by simp) ⟨by omega,by omega⟩ ?_
    rintro i ⟨hi,hz⟩;simp (disch:=omega) [-getElem?_pos,wrap64,Sa];refine b9 (fun h6=>?_) (fun h6=>?_)
    ·have h6:i<r.c.length:=by omega
     simp (disch:=omega) [-getElem?_pos,wrap64,bp (l:=r.c),h6];refine b9 (fun h7=>?_) (fun h7=>?_)
     ·have h8:=TV (lF h) (m:=r.c.length-1-i) (i:=i) (by omega)
      rw[show i+(r.c.length-1-i)=r.c.length-1 by omega]at h8
      rw[if_pos (by omega)]at hW
      simpa using hW
     ·exact cc (i+1) (by simp) ⟨by omega,fun j hj=>by rcases Nat.lt_or_ge j i with h|h;exact hz j h;rw[show j=i by omega];omega⟩ (by omega)
    ·have h6:i=r.c.length:=by omega
     subst h6;have h8:=hz (r.c.length-1) (by omega)
     rw[if_neg (by omega)]at hW
     have hq:(if ec (qM r.c) (r.c.length-1) 1=0 then ec (oW (qN r)) (7-1) 1 else (4:Int))=W:=hW
     clear hW
     refine go_loop (fun i:Nat=>ab0 r.c.length i r.cells G) (fun i=>1≤i∧i≤r.c.length∧(if ec (qM r.c) (r.c.length-i) i=0 then ec (oW (qN r)) (7-1) 1 else (4:Int))=W) (fun i=>r.c.length-i) 1 rfl (by simp) ⟨by omega,by omega,hq⟩ ?_
     rintro i ⟨MD,hi,hq⟩;simp (disch:=omega) [-getElem?_pos,wrap64,Sb];refine b9 (fun h7=>?_) (fun h7=>?_)
     ·have h7:i<r.c.length:=by omega
      rw[lZ h7]at hq;have h8:((i:Int)-1).toNat=i-1:=by omega
      have h9:i-1<r.c.length:=by omega
      have fQ:0≤(i:Int)-1:=by omega
      simp (disch:=omega) [-getElem?_pos,wrap64,bp (l:=r.c),h8,h9,fQ,h7];refine b9 (fun kg=>?_) (fun kg=>?_)
      ·have e:qM r.c i=4:=by rw[qM,if_pos kg]
       rw[e]at hq;simpa using hq
      ·have e:qM r.c i=0:=by rw[qM,if_neg kg]
       rw[e,if_pos rfl]at hq;exact cc (i+1) (by simp) ⟨by omega,by omega,hq⟩ (by omega)
     ·have h7:i=r.c.length:=by omega
      subst h7;rw[mP]at hq;rw[if_pos rfl]at hq;simp (disch:=omega) [-getElem?_pos,wrap64,bp (l:=r.c),h3,h4,h5];have hL:(qN r).length=7:=rfl;have hO:[[V.int IntKind.i64 (nth r.c 0).x],[V.int IntKind.i64 r.d],[V.int IntKind.i64 r.l],[V.int IntKind.i64 r.f],[V.int IntKind.i64 r.s],[V.int IntKind.i64 r.t],[V.int IntKind.i64 (nth r.c (r.c.length-1)).x]]=(qN r).map (fun n=>[V.int .i64 n]):=rfl;rw[hO];generalize qN r=L at hq hL ⊢
      refine go_loop (fun i:Nat=>ab2 (.slice none 1 (L.map (fun n=>[V.int .i64 n]))) i G) (fun i=>1≤i∧i≤7∧ec (oW L) (7-i) i=W) (fun i=>7-i) 1 rfl (by simp) ⟨by omega,by omega,hq⟩ ?_
      rintro j ⟨nz,hj,hq⟩;simp (disch:=omega) [-getElem?_pos,wrap64,Sc,hL];refine b9 (fun h7=>?_) (fun h7=>?_)
      ·have h7:j<7:=by omega
       rw[lZ h7]at hq;have h8:((j:Int)-1).toNat=j-1:=by omega
       have h9:j-1<L.length:=by omega
       have fQ:0≤(j:Int)-1:=by omega
       have kg:j<L.length:=by omega
       simp (disch:=omega) [-getElem?_pos,wrap64,bp (l:=L),h8,h9,fQ,h7,kg,hL];refine b9 (fun rm=>?_) (fun rm=>?_)
       ·have e:oW L j=4:=by rw[oW,if_pos rm]
        rw[e]at hq;simpa using hq
       ·have e:oW L j=0:=by rw[oW,if_neg rm]
        rw[e,if_pos rfl]at hq;exact cc (j+1) (by simp) ⟨by omega,by omega,hq⟩ (by omega)
      ·have h7:j=7:=by omega
       subst h7;simpa [ec] using hq
  ·rw[if_pos h]at hW
   simp (disch:=omega) [-getElem?_pos,wrap64,Gj,kY,h];exact hW)
def qP(r:Rs)(l:Int):Int:=if hY r≠0 then hY r else if 0≤l∧l≤16777216 then 0 else 1
theorem ahe{r:Rs}{l:Int}(h:qP r l=0):hY r=0:=by
 unfold qP at h;split at h
 ·exact h
 ·rename_i h1;exact Decidable.of_not_not h1
theorem TW(r:Rs)(l:Int)(G:List aV):bo F 118 [.agg r.cells,i64 l] G=some (i64 (qP r l),G) :=
 cg rfl rfl (by
  by_cases h:hY r=0
  ·by_cases h1:0≤l
   ·by_cases h2:l≤16777216
    ·simp[wrap64,Bb,xl,h,h1,h2,cY,qP]
    ·simp[wrap64,Bb,xl,h,h1,h2,cY,qP]
   ·simp[wrap64,Bb,xl,h,h1,cY,qP]
  ·simp[wrap64,Bb,xl,h,qP])
theorem D6(r:Rs)(l:Int)(G:List aV):bo F 59 [.agg r.cells,i64 l] G=some (.tuple [i64 (if qP r l=0 then g9 r.c l else 0),i64 (qP r l)],G) :=
 cg rfl rfl (by
  by_cases h:qP r l=0
  ·simp[wrap64,F4,TW,h,Mc,qO (ahe h)]
  ·simp[wrap64,F4,TW,h])
end Go.Proofs.YtmpikpodpgnjhaaGreat
namespace Go.Proofs.YtmpikpodpgnjhaaGreat
set_option linter.all false
open Go.Vm
attribute [local simp] eQ eR eO eP
def zB(c:List Pt)(y:Int)(i:Nat):Int :=
 (nth c i).x+((y-(nth c i).y+1)*((nth c (i+1)).x-(nth c i).x)-1).tdiv ((nth c (i+1)).y-(nth c i).y)
def qd(c:List Pt)(y:Int):Nat→Nat→Int
 |0,_=>(nth c (c.length-1)).x
 |m+1,i=>if y<(nth c (i+1)).y then zB c y i else qd c y m (i+1)
def uP(c:List Pt)(y:Int):Int:=qd c y (c.length-1) 0
theorem ahf{c:List Pt}{y:Int}{i n:Nat}(h:i<n):qd c y (n-i) i=if y<(nth c (i+1)).y then zB c y i else qd c y (n-(i+1)) (i+1):=by
 obtain⟨m,hm⟩:∃m,n-i=m+1:=⟨n-i-1,by omega⟩
 rw[hm,qd,show n-(i+1)=m by omega]
theorem TX{c:List Pt}(h:fU c=0)(y:Int)(G:List aV) :
  bo F 203 [ig c,i64 y] G=some (.tuple [i64 (if y<(nth c 0).y then 0 else uP c y),.bool (decide ((nth c 0).y≤y)),i64 0],G) :=
 cg rfl rfl (by
  have hc:=lF h;have hp:=hc.pos;have hl:=hc.jY;simp (disch:=omega) [-getElem?_pos,wrap64,LR,mQ,h,bp (l:=c),hp];refine b9 (fun h1=>⟨fun h2=>absurd h1 (by omega),h1⟩) (fun h1=>?_)
  have hT:(List.take c.length (List.map Pt.row c)).tail=c.tail.map Pt.row:=by
   rw[List.take_of_length_le (by simp),List.map_tail]
  have hTl:c.tail.length=c.length-1:=by simp
  have TY:∀i,nth c.tail i=nth c (i+1):=fun i=>by simp[nth]
  rw[hT];generalize c.tail=T at hTl TY ⊢;refine go_loop (fun i:Nat=>adi (ig c) y (.slice none 2 (T.map Pt.row)) ((c.length-1:Nat):Int) i G) (fun i=>i≤c.length-1∧qd c y (c.length-1-i) i=uP c y∧(nth c i).y≤y) (fun i=>c.length-1-i) 0 rfl (by simp) ⟨by omega,rfl,by omega⟩ ?_
  rintro i ⟨hi,hq,hy⟩;simp (disch:=omega) [-getElem?_pos,wrap64,SR];refine b9 (fun h2=>?_) (fun h2=>?_)
  ·have h2:i<c.length-1:=by omega
   rw[ahf h2]at hq;have h3:i<T.length:=by omega
   have h4:i<c.length:=by omega
   simp (disch:=omega) [-getElem?_pos,wrap64,bp (l:=T),bp (l:=c),h3,h4,TY];refine b9 (fun h5=>?_) (fun h5=>?_)
   ·rw[if_pos h5]at hq
    have y1:=hc.y0 i h4;have y2:=hc.y0 (i+1) (by omega)
    have x1:=hc.x0 i h4;have x2:=hc.x0 (i+1) (by omega)
    have u1:=hc.up (i+1) (by omega) (by omega)
    have u2:=hc.prod (i+1) (by omega) (by omega)
    simp only[Nat.add_sub_cancel]at u1 u2;have a1:(y-(nth c i).y+1)*((nth c (i+1)).x-(nth c i).x)≤((nth c (i+1)).y-(nth c i).y)*((nth c (i+1)).x-(nth c i).x):=Int.mul_le_mul_of_nonneg_right (by omega) (by omega)
    have a2:0<(y-(nth c i).y+1)*((nth c (i+1)).x-(nth c i).x):=Int.mul_pos (by omega) (by omega)
    have b1:0≤((y-(nth c i).y+1)*((nth c (i+1)).x-(nth c i).x)-1).tdiv ((nth c (i+1)).y-(nth c i).y):=Int.tdiv_nonneg (by omega) (by omega)
    have b2:((y-(nth c i).y+1)*((nth c (i+1)).x-(nth c i).x)-1).tdiv ((nth c (i+1)).y-(nth c i).y)≤(y-(nth c i).y+1)*((nth c (i+1)).x-(nth c i).x)-1:=Int.tdiv_le_self _ (by omega)
    have d0:¬ (nth c (i+1)).y-(nth c i).y=0:=by omega
    have e0:¬ y<(nth c 0).y:=h1;have e1:(nth c 0).y≤y:=by omega
    simp (disch:=omega) [-getElem?_pos,wrap64,wrap64,d0,e0,e1];rw[←hq];rfl
   ·rw[if_neg h5]at hq
    exact cc (i+1) (by simp) ⟨by omega,hq,by omega⟩ (by omega)
  ·have h2:i=c.length-1:=by omega
   subst h2;have h4:c.length-1<c.length:=by omega
   have h5:((c.length:Int)-1).toNat=c.length-1:=by omega
   have e0:¬ y<(nth c 0).y:=h1;have e1:(nth c 0).y≤y:=by omega
   rw[Nat.sub_self]at hq;simp (disch:=omega) [-getElem?_pos,wrap64,bp (l:=c),h4,h5,e0,e1];rw[←hq];rfl)
def jn(r:Rs)(v:Int):Int:=if v<(nth r.c 0).y then (nth r.c 0).x else uP r.c v
theorem ahh{r:Rs}(h:hY r=0)(v:Int)(G:List aV):bo F 196 [.agg r.cells,i64 v] G=some (i64 (jn r v),G) :=
 cg rfl rfl (by
  have hp:=(lF (qO h)).pos;by_cases h1:v<(nth r.c 0).y
  ·have h2:¬ (nth r.c 0).y≤v:=by omega
   simp[-getElem?_pos,wrap64,GI,TX (qO h),h1,h2,bp (l:=r.c),hp,jn]
  ·have h2:(nth r.c 0).y≤v:=by omega
   simp[-getElem?_pos,wrap64,GI,TX (qO h),h1,h2,bp (l:=r.c),hp,jn])
end Go.Proofs.YtmpikpodpgnjhaaGreat
namespace Go.Proofs.YtmpikpodpgnjhaaGreat
set_option linter.all false
open Go.Vm
theorem TZ:∀{p q:List Int},gf p q<0→¬gf q p<0
 |[],[],h=>by simp[gf]at h
 |[],_::_,_=>by simp[gf]
 |_::_,[],h=>by simp[gf]at h
 |a::p,b::q,h=>by
  have ih:=TZ (p:=p) (q:=q);simp only[gf]at h ⊢;rcases Int.lt_trichotomy a b with h1|h1|h1
  ·rw[if_neg (by omega),if_pos h1];omega
  ·subst h1
   simp only[Int.lt_irrefl,if_false]at h ⊢;exact ih h
  ·rw[if_neg (by omega),if_pos h1]at h;omega
theorem T3:∀{p q r:List Int},gf p q<0→gf q r<0→gf p r<0
 |[],[],_,h,_=>by simp[gf]at h
 |_::_,[],_,h,_=>by simp[gf]at h
 |_,_::_,[],_,h=>by simp[gf]at h
 |[],_::_,_::_,_,_=>by simp[gf]
 |a::p,b::q,c::r,h,h'=>by
  have ih:=T3 (p:=p) (q:=q) (r:=r);simp only[gf]at h h' ⊢;rcases Int.lt_trichotomy a b with h1|h1|h1
  ·rcases Int.lt_trichotomy b c with h2|h2|h2
   ·rw[if_pos (by omega)];omega
   ·rw[if_pos (by omega)];omega
   ·rw[if_neg (by omega),if_pos h2]at h';omega
  ·subst h1
   simp only[Int.lt_irrefl,if_false]at h;rcases Int.lt_trichotomy a c with h2|h2|h2
   ·rw[if_pos h2];omega
   ·subst h2
    simp only[Int.lt_irrefl,if_false]at h' ⊢;exact ih h h'
   ·rw[if_neg (by omega),if_pos h2]at h';omega
  ·rw[if_neg (by omega),if_pos h1]at h;omega
theorem ahi{a b:Int×Int}{p q:List Int}(h:jz a b p q):¬jz b a q p:=by
 rw[vX]at h ⊢;unfold tS at h ⊢;have:=TZ (p:=p) (q:=q);rcases h with h | ⟨h1,h2,h3⟩
 ·omega
 ·have:=this h3;omega
theorem ahj{a b c:Int×Int}{p q r:List Int}(h:jz a b p q)(h':jz b c q r):jz a c p r:=by
 rw[vX]at h h' ⊢;unfold tS at h h' ⊢;have:=T3 (p:=p) (q:=q) (r:=r);rcases h with h | ⟨h1,h2,h3⟩
 ·omega
 ·rcases h' with h' | ⟨h4,h5,h6⟩
  ·omega
  ·have:=this h3 h6
   omega
theorem T4{a:Int×Int}{p:List Int}:¬jz a a p p:=fun h=>ahi h h
end Go.Proofs.YtmpikpodpgnjhaaGreat
namespace Go.Proofs.YtmpikpodpgnjhaaGreat
set_option linter.all false
open Go.Vm
attribute [local simp] eQ eR eO eP
noncomputable def xm(us:List Un)(ss:List Us)(g:Int):Int :=
 if 6<us.length then 10 else if us.length≠ss.length then 3 else if ¬y5 us ss then 3 else if g<1∨1073741824<g then 1 else 0
theorem ahk(us:List Un)(ss:List Us)(g:Int)(G:List aV):bo F 166 [jQ us,jy ss,i64 g] G=some (i64 (xm us ss g),G) :=
 cg rfl rfl (by
  generalize hE:xm us ss g=E;unfold xm at hE;simp +contextual (disch:=omega) [-getElem?_pos,wrap64,Lv];refine b9 (fun h1=>?_) (fun h1=>gO (fun h2=>?_) (fun h2=>?_))
  ·rw[if_pos (by omega)]at hE
   exact hE
  ·simp[-List.length_eq_zero_iff,-Int.natCast_eq_zero]at h2
   rw[if_neg (by omega),if_pos (by omega)]at hE
   exact hE
  ·simp[-List.length_eq_zero_iff,-Int.natCast_eq_zero]at h2
   have hl:us.length=ss.length:=by omega
   rw[if_neg (by omega),if_neg (by omega)]at hE
   refine go_loop (fun i:Nat=>acB (jy ss) g (jQ us) us.length i G) (fun i=>i≤us.length∧∀j,j<i→fc (nth us j) (nth ss j)) (fun i=>us.length-i) 0 rfl (by simp) ⟨by omega,by omega⟩ ?_
   rintro i ⟨hi,hv⟩;simp +contextual (disch:=omega) [-getElem?_pos,wrap64,Sy];refine b9 (fun h3=>?_) (fun h3=>?_)
   ·have h3:i<us.length:=by omega
    by_cases h4:fc (nth us i) (nth ss i)
    ·simp +contextual (disch:=omega) [-getElem?_pos,wrap64,bp (l:=us),bp (l:=ss),uL,h4]
     refine cc (i+1) (by simp) ⟨by omega,fun j hj=>?_⟩ (by omega)
     rcases Nat.lt_or_ge j i with h5|h5
     ·exact hv j h5
     ·rwa [show j=i by omega]
    ·rw[if_pos (fun h=>h4 (h i h3))]at hE
     simp +contextual (disch:=omega) [-getElem?_pos,wrap64,bp (l:=us),bp (l:=ss),uL,h4];exact hE
   ·obtain rfl:i=us.length:=by omega
    rw[if_neg (fun h=>h hv)]at hE;refine gO (fun h5=>?_) (fun h5=>?_)
    ·simp[-List.length_eq_zero_iff,-Int.natCast_eq_zero]at h5
     rw[if_pos (by omega)]at hE
     exact hE
    ·simp[-List.length_eq_zero_iff,-Int.natCast_eq_zero]at h5
     rw[if_neg (by omega)]at hE
     exact hE)
noncomputable def rF(u:Un)(s:Us)(g:Int):List Int:=([0,s.cq]++fg u g).filter fun q=>decide (jm u s q)
theorem T5{u:Un}{s:Us}{g q:Int}:q∈rF u s g↔q∈pt u s g:=by
 rw[Bu];simp only[rF,List.mem_filter,decide_eq_true_eq,List.mem_append,List.mem_cons,List.not_mem_nil,or_false];constructor
 ·rintro⟨(h|h)|h,h2⟩
  ·exact⟨.inr (.inl h),h2⟩
  ·exact⟨.inr (.inr h),h2⟩
  ·exact⟨.inl h,h2⟩
 ·rintro⟨h|h|h,h2⟩
  ·exact⟨.inr h,h2⟩
  ·exact⟨.inl (.inl h),h2⟩
  ·exact⟨.inl (.inr h),h2⟩
theorem ahl{u:Un}{s:Us}{g:Int}(h:gu u g=0):(rF u s g).length≤202:=by
 have h1:=Mz h;have:(rF u s g).length≤([0,s.cq]++fg u g).length:=List.length_filter_le _ _;simp at this;omega
theorem ahm{u:Un}{s:Us}(hv:fc u s)(g:Int)(G:List aV):bo F 187 [un u,us s,i64 g] G =
  some (if gu u g=0 then .tuple [.slice (some 0) 1 ((rF u s g).map fun n=>[i64 n]),i64 0] else .tuple [.slice (some 0) 1 [],i64 (gu u g)],G) :=
 cg rfl rfl (by
  by_cases he:gu u g=0
  ·have hlen:=Mz he
   have hf:mR u g=fg u g:=by simp[mR,he]
   have hc:rF u s g=(0::s.cq::fg u g).filter fun q=>decide (jm u s q):=rfl;rw[if_pos he,hc];generalize hL:(0::s.cq::fg u g)=L;have hLl:L.length=(fg u g).length+2:=by rw[←hL];simp
   have hLm:[i64 0]::[i64 s.cq]::(fg u g).map (fun n=>[i64 n])=L.map fun n=>[i64 n]:=by rw[←hL];rfl
   simp (disch:=omega) [-getElem?_pos,wrap64,GD,Bo,he,hf,hLm];refine go_loop (fun i:Nat=>acV (.slice (some 1039) 1 (((L.take i).filter fun q=>decide (jm u s q)).map fun n=>[i64 n])) (.slice (some 1024) 1 (L.map fun n=>[i64 n])) L.length i u.row s.row L.length ((L.take i).filter fun q=>decide (jm u s q)).length G)
    (fun i=>i≤L.length) (fun i=>L.length-i) 0 rfl (by simp[hLl];omega) (by omega) ?_
   intro i hi;have PM:((L.take i).filter fun q=>decide (jm u s q)).length≤i:=Nat.le_trans (List.length_filter_le _ _) (by simp;omega)
   simp (disch:=omega) [-getElem?_pos,wrap64,SK];refine b9 (fun h1=>?_) (fun h1=>?_)
   ·have h1:i<L.length:=by omega
    have hM:=Mg u s (nth L i) [];by_cases h3:jm u s (nth L i)
    ·have h4:decide (fc u s∧jx u s (nth L i))=true:=decide_eq_true h3
     rw[h4]at hM;have h5:(L.take (i+1)).filter (fun q=>decide (jm u s q))=(L.take i).filter (fun q=>decide (jm u s q))++[nth L i]:=by
      rw[jA h1,List.filter_append];simp[h3]
     simp (disch:=omega) [-getElem?_pos,wrap64,ez h1,hM];exact cc (i+1) (by rw[h5];simp) (by omega) (by omega)
    ·have h4:decide (fc u s∧jx u s (nth L i))=false:=decide_eq_false h3
     rw[h4]at hM;have h5:(L.take (i+1)).filter (fun q=>decide (jm u s q))=(L.take i).filter (fun q=>decide (jm u s q)):=by
      rw[jA h1,List.filter_append];simp[h3]
     simp (disch:=omega) [-getElem?_pos,wrap64,ez h1,hM];exact cc (i+1) (by rw[h5];simp) (by omega) (by omega)
   ·obtain rfl:i=L.length:=by omega
    rw[List.take_length]
  ·rw[if_neg he]
   have hf:mR u g=[]:=by simp[mR,he]
   simp (disch:=omega) [-getElem?_pos,wrap64,GD,Bo,he,hf])
noncomputable abbrev Hf(g:Int)(u:Un)(s:Us):List V:=[.slice none 1 ((rF u s g).map fun n=>[i64 n])]
noncomputable def xn(us:List Un)(g:Int):Int:=if y6 us g then 0 else 10
theorem ahp{us:List Un}{ss:List Us}(hl:us.length=ss.length)(hn:us.length≤1000)(hv:y5 us ss)(g:Int)(G:List aV):bo F 167 [jQ us,jy ss,i64 g] G =
  some (.tuple [.slice (some 0) 1 (if xn us g=0 then List.zipWith (Hf g) us ss else []),i64 (xn us g)],G) :=
 cg rfl rfl (by
  generalize hE:xn us g=E;generalize hW:V.tuple [.slice (some 0) 1 (if E=0 then List.zipWith (Hf g) us ss else []),i64 E]=W
  unfold xn at hE;simp (disch:=omega) [-getElem?_pos,wrap64,Lw];refine go_loop (fun i:Nat=>acD (jy ss) g (.slice (some 1035) 1 (List.zipWith (Hf g) (us.take i) (ss.take i))) (jQ us) us.length i i G)
   (fun i=>i≤us.length∧∀j,j<i→gu (nth us j) g=0) (fun i=>us.length-i) 0 rfl (by simp) ⟨by omega,by omega⟩ ?_
  rintro i ⟨hi,hf⟩;simp (disch:=omega) [-getElem?_pos,wrap64,Sz];refine b9 (fun h3=>?_) (fun h3=>?_)
  ·have h3:i<us.length:=by omega
   have fQ:i<ss.length:=by omega
   have hC:=ahm (hv i h3) g [];by_cases h4:gu (nth us i) g=0
   ·rw[if_pos h4]at hC
    simp (disch:=omega) [-getElem?_pos,wrap64,bp (l:=us),bp (l:=ss),hC];refine cc (i+1) ?_ ⟨by omega,fun j hj=>?_⟩ (by omega)
    ·rw[vV h3 fQ];simp
    rcases Nat.lt_or_ge j i with h5|h5
    ·exact hf j h5
    ·rwa [show j=i by omega]
   ·rw[if_neg h4]at hC
    rw[if_neg (fun h=>h4 (h i h3))]at hE;subst hE;simp (disch:=omega) [-getElem?_pos,wrap64,bp (l:=us),bp (l:=ss),hC,h4];exact hW
  ·obtain rfl:i=us.length:=by omega
   rw[if_pos (show y6 us g from hf)]at hE;subst hE;rw[List.take_length,List.take_of_length_le (by omega)]
   simp[←hW])
end Go.Proofs.YtmpikpodpgnjhaaGreat
namespace Go.Proofs.YtmpikpodpgnjhaaGreat
set_option linter.all false
open Go.Vm
def Vd:List Nat→List Nat→Prop
 |[],[]=>True
 |n::ns,d::a=>d<n∧Vd ns a
 |_,_=>False
def py:List Nat→Nat
 |[]=>1
 |n::ns=>n*py ns
def rk:List Nat→List Nat→Nat
 |_::ns,d::a=>d*py ns+rk ns a
 |_,_=>0
def inc:List Nat→List Nat→Option (List Nat)
 |n::ns,d::a=>match inc ns a with
  |some b=>some (d::b)
  |none=>if d+1<n then some ((d+1)::List.replicate a.length 0) else none
 |_,_=>none
theorem Bv:∀{ns a:List Nat},Vd ns a→a.length=ns.length
 |[],[],_=>rfl
 |_::_,_::_,h=>by simp[Bv h.2]
 |[],_::_,h=>h.elim
 |_::_,[],h=>h.elim
theorem vY:∀{ns a:List Nat},Vd ns a→∀i,i<ns.length→nth a i<nth ns i
 |n::ns,d::a,h,i,hi=>by
  cases i with
  |zero=>exact h.1
  |succ i=>exact vY h.2 i (by simpa using hi)
theorem Bw:∀{ns a:List Nat},Vd ns a→rk ns a<py ns
 |[],[],_=>by simp[rk,py]
 |n::ns,d::a,h=>by
  have ih:=Bw h.2;have h1:=Nat.mul_le_mul_right (py ns) (show d+1≤n from h.1);simp only[rk,py];rw[Nat.succ_mul]at h1;omega
 |[],_::_,h=>h.elim
 |_::_,[],h=>h.elim
theorem T6:∀{ns a b:List Nat},Vd ns a→Vd ns b→rk ns a=rk ns b→a=b
 |[],[],[],_,_,_=>rfl
 |n::ns,d::a,e::b,ha,hb,h=>by
  have h1:=Bw ha.2;have h2:=Bw hb.2;simp only[rk]at h;have hde:d=e:=by
   rcases Nat.lt_trichotomy d e with h3|h3|h3
   ·have:=Nat.mul_le_mul_right (py ns) (show d+1≤e from h3)
    rw[Nat.succ_mul]at this;omega
   ·exact h3
   ·have:=Nat.mul_le_mul_right (py ns) (show e+1≤d from h3)
    rw[Nat.succ_mul]at this;omega
  subst hde;rw[T6 ha.2 hb.2 (by omega)]
 |[],_::_,_,h,_,_=>h.elim
 |[],[],_::_,_,h,_=>h.elim
 |_::_,[],_,h,_,_=>h.elim
 |_::_,_::_,[],_,h,_=>h.elim
theorem ME:∀{ns:List Nat} {k:Nat},rk ns (List.replicate k 0)=0
 |[],k=>by cases k<;>rfl
 |_::ns,0=>rfl
 |_::ns,k+1=>by simp[List.replicate_succ,rk,ME]
theorem MF:∀{ns:List Nat},(∀n∈ns,0<n)→Vd ns (List.replicate ns.length 0)
 |[],_=>trivial
 |n::ns,h=>⟨h n (by simp),MF fun m hm=>h m (by simp[hm])⟩
theorem T7:∀{ns a:List Nat},Vd ns a→match inc ns a with
  |none=>rk ns a+1=py ns
  |some b=>Vd ns b∧rk ns b=rk ns a+1
 |[],[],_=>by simp[inc,rk,py]
 |n::ns,d::a,h=>by
  have ih:=T7 h.2;have hl:=Bv h.2;unfold inc;cases hi:inc ns a with
  |some b =>
   rw[hi]at ih;simp only at ih ⊢;exact⟨⟨h.1,ih.1⟩,by simp only[rk];omega⟩
  |none =>
   rw[hi]at ih;simp only at ih ⊢;have hp:∀m∈ns,0<m:=fun m hm=>by
    obtain⟨i,hi,rfl⟩:=Bs hm;have:=vY h.2 i hi;omega
   by_cases hd:d+1<n
   ·simp only[hd,if_true]
    refine⟨⟨hd,by rw[hl];exact MF hp⟩,?_⟩
    simp only[rk,ME];rw[Nat.succ_mul];omega
   ·simp only[hd,if_false]
    have:n=d+1:=by have:=h.1;omega
    subst this;simp only[rk,py];rw[Nat.succ_mul];omega
 |[],_::_,h=>h.elim
 |_::_,[],h=>h.elim
theorem MG:∀{ns a:List Nat},Vd ns a→(∀j,j<ns.length→nth a j+1=nth ns j)→inc ns a=none
 |[],[],_,_=>rfl
 |n::ns,d::a,h,hm=>by
  have ih:=MG h.2 fun j hj=>hm (j+1) (by simpa using hj)
  have h0:=hm 0 (by simp)
  simp only[inc,ih];have:¬d+1<n:=by simp[nth]at h0;omega
  simp[this]
 |[],_::_,h,_=>h.elim
 |_::_,[],h,_=>h.elim
theorem T8:∀{ns a:List Nat} {i:Nat},Vd ns a→i<ns.length→(∀j,i<j→j<ns.length→nth a j+1=nth ns j)→nth a i+1<nth ns i →
  inc ns a=some (a.take i++(nth a i+1)::List.replicate (ns.length-1-i) 0)
 |n::ns,d::a,0,h,_,hm,bF=>by
  have ih:=MG h.2 fun j hj=>hm (j+1) (by omega) (by simpa using hj)
  have hl:=Bv h.2;have:d+1<n:=by simpa [nth] using bF
  simp only[inc,ih,this,if_true];simp[nth,hl]
 |n::ns,d::a,i+1,h,hi,hm,bF=>by
  have pQ:i<ns.length:=by simpa using hi
  have ih:=T8 h.2 pQ (fun j h1 h2=>hm (j+1) (by omega) (by simpa using h2)) bF
  simp only[inc,ih];simp[nth];omega
 |[],[],_,_,hi,_,_=>by simp at hi
 |[],_::_,_,h,_,_,_=>h.elim
 |_::_,[],_,h,_,_,_=>h.elim
def en(R:List (List Int))(a:List Nat):List Int:=List.zipWith (fun o k=>nth o k) R a
def D7:List (List Int)→List Int→Prop
 |[],[]=>True
 |o::R,q::F=>q∈o∧D7 R F
 |_,_=>False
theorem MH:∀{R:List (List Int)} {a:List Nat},Vd (R.map List.length) a→D7 R (en R a)
 |[],[],_=>trivial
 |o::R,d::a,h=>⟨qc h.1,MH h.2⟩
 |[],_::_,h=>h.elim
 |_::_,[],h=>h.elim
theorem MI:∀{R:List (List Int)} {F:List Int},D7 R F→∃a,Vd (R.map List.length) a∧en R a=F
 |[],[],_=>⟨[],trivial,rfl⟩
 |o::R,q::F,h=>by
  obtain⟨a,h1,h2⟩:=MI h.2;obtain⟨d,h3,h4⟩:=Bs h.1;exact⟨d::a,⟨h3,h1⟩,by simp only[en,List.zipWith_cons_cons]at h2 ⊢;rw[h2,h4]⟩
 |[],_::_,h=>h.elim
 |_::_,[],h=>h.elim
noncomputable def my(us:List Un)(ss:List Us)(g:Int):List (List Int):=List.zipWith (fun u s=>rF u s g) us ss
theorem D8{g:Int}:∀{us:List Un} {ss:List Us} {F:List Int},us.length=ss.length→(D7 (my us ss g) F↔lH g us ss F)
 |[],[],[],_=>Iff.rfl
 |[],[],_::_,_=>Iff.rfl
 |[],_::_,_,h=>by simp at h
 |_::_,[],_,h=>by simp at h
 |_::_,_::_,[],_=>Iff.rfl
 |u::us,s::ss,q::F,h=>by
  have ih:=D8 (g:=g) (us:=us) (ss:=ss) (F:=F) (by simpa using h)
  show(q∈rF u s g∧D7 (my us ss g) F)↔(q∈pt u s g∧lH g us ss F);rw[T5,ih]
theorem ahr{u:Un}{s:Us}{g:Int}(hv:fc u s):0<(rF u s g).length:=by
 have:s.cq∈rF u s g:=by
  rw[T5,Bu];refine⟨.inr (.inr rfl),hv,?_⟩;obtain⟨hc,h1,h2⟩:=hv;unfold jx;split
  ·rename_i h;rw[h];intro h3;omega
  ·rename_i h
   rcases h2 with h2 | ⟨h2,h3⟩
   ·exact absurd h2 h
   ·exact⟨h2,fun h4=>h h4.1,h3⟩
 exact List.length_pos_of_mem this
def Kn(us:List Un)(ss:List Us)(R:List (List Int))(release:Int)(r:Nat):Option (List Int)→Prop
 |none=>∀b,Vd (R.map List.length) b→rk (R.map List.length) b<r→release<(en R b).sum
 |some F=>(∃b,Vd (R.map List.length) b∧en R b=F∧F.sum≤release) ∧
   ∀b,Vd (R.map List.length) b→rk (R.map List.length) b<r→(en R b).sum≤release→¬jz (ix us (en R b),iy ss (en R b)) (ix us F,iy ss F) (en R b) F
noncomputable def sK(us:List Un)(ss:List Us)(release:Int)(P:List Int):Option (List Int)→Option (List Int)
 |none=>if P.sum≤release then some P else none
 |some F=>if P.sum≤release then (if jz (ix us P,iy ss P) (ix us F,iy ss F) P F then some P else some F) else some F
theorem ahs{us:List Un}{ss:List Us}{R:List (List Int)}{release:Int}{a:List Nat}(ha:Vd (R.map List.length) a){best:Option (List Int)}(h:Kn us ss R release (rk (R.map List.length) a) best) :
  Kn us ss R release (rk (R.map List.length) a+1) (sK us ss release (en R a) best):=by
 have split:∀b,Vd (R.map List.length) b→rk (R.map List.length) b<rk (R.map List.length) a+1→rk (R.map List.length) b<rk (R.map List.length) a∨b=a:=fun b hb bF=>by
  rcases Nat.lt_or_ge (rk (R.map List.length) b) (rk (R.map List.length) a) with h1|h1
  ·exact .inl h1
  ·exact .inr (T6 hb ha (by omega))
 cases best with
 |none =>
  unfold sK;by_cases hs:(en R a).sum≤release
  ·simp only[hs,if_true]
   refine⟨⟨a,ha,rfl,hs⟩,fun b hb bF tV=>?_⟩;rcases split b hb bF with h1|rfl
   ·have:=h b hb h1;omega
   ·exact T4
  ·simp only[hs,if_false]
   intro b hb bF;rcases split b hb bF with h1|rfl
   ·exact h b hb h1
   ·omega
 |some F =>
  obtain⟨h1,h2⟩:=h;unfold sK;by_cases hs:(en R a).sum≤release
  ·simp only[hs,if_true]
   by_cases hb:jz (ix us (en R a),iy ss (en R a)) (ix us F,iy ss F) (en R a) F
   ·simp only[hb,if_true]
    refine⟨⟨a,ha,rfl,hs⟩,fun b mI bF tV=>?_⟩;rcases split b mI bF with h3|rfl
    ·exact fun h4=>h2 b mI h3 tV (ahj h4 hb)
    ·exact T4
   ·simp only[hb,if_false]
    refine⟨h1,fun b mI bF tV=>?_⟩;rcases split b mI bF with h3|rfl
    ·exact h2 b mI h3 tV
    ·exact hb
  ·simp only[hs,if_false]
   refine⟨h1,fun b mI bF tV=>?_⟩;rcases split b mI bF with h3|rfl
   ·exact h2 b mI h3 tV
   ·omega
theorem T9{us:List Un}{ss:List Us}{g release:Int}(hl:us.length=ss.length){best:Option (List Int)}(h:Kn us ss (my us ss g) release (py ((my us ss g).map List.length)) best) :
  match best with
  |none=>∀F,lH g us ss F→release<F.sum
  |some F=>y9 g us ss release F:=by
 cases best with
 |none =>
  intro F hF;obtain⟨b,hb,rfl⟩:=MI ((D8 hl).2 hF);exact h b hb (Bw hb)
 |some F =>
  obtain⟨⟨b,hb,e,hs⟩,h2⟩:=h;refine⟨?_,hs,fun E hE hEs=>?_⟩
  ·rw[←e];exact(D8 hl).1 (MH hb)
  ·obtain⟨c,hc,rfl⟩:=MI ((D8 hl).2 hE)
   exact h2 c hc (Bw hc) hEs
end Go.Proofs.YtmpikpodpgnjhaaGreat
namespace Go.Proofs.YtmpikpodpgnjhaaGreat
set_option linter.all false
open Go.Vm
attribute [local simp] eQ eR eO eP
abbrev D9(R:List (List Int)):V:=.slice none 1 (R.map fun o=>[ints o])
def rb(best:Option (List Int)):V:=match best with
 |none=>.aM
 |some F=>ints F
noncomputable def rv(us:List Un)(ss:List Us)(best:Option (List Int)):List V:=match best with
 |none=>[i64 0,i64 0]
 |some F=>[i64 (ix us F),i64 (iy ss F)]
def iz(a:List Nat):List V:=dR (a.map fun d:Nat=>(d:Int))
def ob(o:Option (List V)):List (Nat×List V):=match o with
 |none=>[]
 |some c=>[(56,c)]
@[simp] theorem MJ{best:Option (List Int)}{d:Nat}:(rb best).cB d=false:=by cases best<;>rfl
@[simp] theorem aoi{us:List Un}{ss:List Us}{best:Option (List Int)}{d:Nat}:((rv us ss best).all fun v => !v.cQ d)=true:=by cases best<;>rfl
@[simp] theorem aoj{a:List Nat}{d:Nat}:((iz a).all fun v => !v.cQ d)=true:=Zj
@[simp] theorem aok{o:Option (List V)}:tB 56 (ob o)=[]:=by cases o<;>rfl
@[simp] theorem aol:ob none=[]:=rfl
@[simp] theorem aom{c:List V}:ob (some c)=[(56,c)]:=rfl
@[simp] theorem aon{o:Option (List V)}:kp (Go.Vm.look 56 (ob o)) 56 []=ob o:=by cases o<;>rfl
theorem Bx{a:List Nat}{i:Nat}(h:i<a.length):(iz a)[i]?=some (i64 ((nth a i:Nat):Int)):=by
 have:=kL (l:=a.map fun d:Nat=>(d:Int)) (i:=i) (by simpa using h)
 rw[uO h]at this;exact this
@[simp] theorem aoo{a:List Nat}:(iz a).length=a.length:=by simp[iz]
theorem Ea{a:List Nat}{i d:Nat}:(iz a).set i (i64 (d:Int))=iz (a.set i d):=by
 simp[iz,List.map_set]
theorem ahu{α:Type}[Inhabited α]{l m:List α}{i:Nat}(h:l.length≤i):nth (l++m) i=nth m (i-l.length):=by
 simp[nth,List.getElem?_append_right h]
theorem By{α:Type}[Inhabited α]{l:List α}{i k:Nat}(h:i<k):nth (l.take k) i=nth l i:=by
 simp[nth,List.getElem?_take,h]
theorem ahv{n i:Nat}:nth (List.replicate n (0:Int)) i=0:=by
 simp only[nth,List.getD,List.getElem?_replicate];split<;>rfl
theorem Ua{l:List Int}{B:Int}(h:∀x∈l,0≤x∧x≤B):∀j:Nat,j≤l.length→0≤(l.take j).sum∧(l.take j).sum≤B*j
 |0,_=>by simp
 |j+1,hj=>by
  have ih:=Ua h j (by omega)
  have:=h _ (qc (show j<l.length from hj));rw[jA hj];simp only[List.sum_append,List.sum_cons,List.sum_nil];have e:B*((j+1:Nat):Int)=B*j+B:=by
   rw[show((j+1:Nat):Int)=(j:Int)+1 from rfl,Int.mul_add,Int.mul_one]
  omega
theorem Ub{R:List (List Int)}{a:List Nat}(h:a.length=R.length):(en R a).length=R.length:=by simp[en,h]
theorem ahw{R:List (List Int)}{a:List Nat}{us:List Un}{ss:List Us}{release:Int}{fd:Bool}{best:Option (List Int)}{G:List aV}{K:cR}(hn:R.length≤6)(ha:Vd (R.map List.length) a)
  (hb:∀o∈R,∀q∈o,0≤q∧q≤1073741824)
  (hK:∀z,K (.exit 2) ⟨[(0,jQ us),(1,jy ss),(3,i64 release),(11,D9 R),(13,.bool fd),(14,rb best),(15,.bJ 15 0),(16,.b0 53 1 R.length),(17,.b0 56 1 R.length),(18,i64 (en R a).sum),(57,.b0 53 1 R.length),(58,i64 R.length),(59,i64 R.length),(60,z)],
   [(15,rv us ss best),(53,iz a),(56,dR (en R a))],[],G⟩) :
  go (bo F) RV (RW (jQ us) (jy ss) release (D9 R) fd (rb best) R.length R.length 0 R.length R.length 0 (rv us ss best) (iz a) (dR (List.replicate R.length 0)) G) K:=by
 have pU:=Bv ha;simp only[List.length_map]at pU;have lu:=Ub pU;have Uc:∀x∈en R a,0≤x∧x≤1073741824:=by
  intro x hx;obtain⟨i,hi,rfl⟩:=Bs hx;rw[lu]at hi;have h1:nth (en R a) i=nth (nth R i) (nth a i):=Bt hi (by omega)
  have h2:=vY ha i (by simpa using hi)
  rw[uO hi]at h2;rw[h1];exact hb _ (qc hi) _ (qc h2)
 refine go_loop (fun j:Nat=>RW (jQ us) (jy ss) release (D9 R) fd (rb best) R.length R.length ((en R a).take j).sum R.length R.length j (rv us ss best) (iz a) (dR ((en R a).take j++List.replicate (R.length-j) 0)) G)
  (fun j=>j≤R.length) (fun j=>R.length-j) 0 rfl (by simp) (by omega) ?_
 intro j hj;have hs:=Ua Uc j (by omega)
 simp (disch:=omega) [-getElem?_pos,wrap64,RU];refine b9 (fun h1=>?_) (fun h1=>?_)
 ·have h1:j<R.length:=by omega
  have h2:j<a.length:=by omega
  have h3:=vY ha j (by simpa using h1)
  rw[uO h1]at h3;have h4:nth (en R a) j=nth (nth R j) (nth a j):=Bt h1 h2;have h5:=Uc _ (qc (show j<(en R a).length by omega))
  have h6:(dR ((en R a).take j++List.replicate (R.length-j) 0))[j]?=some (i64 0):=by
   rw[kL (by simp;omega),ahu (by simp;omega),ahv]
  have e2:((en R a).take j++List.replicate (R.length-j) (0:Int)).set j (nth (nth R j) (nth a j))=(en R a).take (j+1)++List.replicate (R.length-(j+1)) 0:=by
   rw[List.set_append_right _ _ (by simp;omega),jA (show j<(en R a).length by omega),h4]
   have:j-((en R a).take j).length=0:=by simp;omega
   rw[this];obtain⟨m,hm⟩:∃m,R.length-j=m+1:=⟨R.length-j-1,by omega⟩
   rw[hm,List.replicate_succ,List.set_cons_zero,show R.length-(j+1)=m by omega]
   simp
  have e3:((en R a).take (j+1)).sum=((en R a).take j).sum+nth (nth R j) (nth a j):=by
   rw[jA (show j<(en R a).length by omega),h4];simp
  have h7:(dR ((en R a).take (j+1)++List.replicate (R.length-(j+1)) 0))[j]?=some (i64 (nth (nth R j) (nth a j))):=by
   rw[kL (by simp;omega),od (by simp;omega),By (by omega),h4]
  rw[h4]at h5;simp (disch:=omega) [-getElem?_pos,wrap64,Bx h2,bp (l:=R),ez h3,h6,e2,h7];exact cc (j+1) (by simp[e3]) (by omega) (by omega)
 ·obtain rfl:j=R.length:=by omega
  rw[List.take_of_length_le (by omega)]
  simpa using hK _
noncomputable abbrev Bz(us:List Un)(ss:List Us)(R:List (List Int))(release:Int)(fd:Bool)(best:Option (List Int))(x:Int)(a:List Nat)(o:Option (List V))(G:List aV):St :=
 ⟨[(0,jQ us),(1,jy ss),(3,i64 release),(11,D9 R),(13,.bool fd),(14,rb best),(15,.bJ 15 0),(16,.b0 53 1 R.length),(26,i64 x)],(15,rv us ss best)::(53,iz a)::ob o,[],G⟩
theorem Hg{R:List (List Int)}{a:List Nat}{us:List Un}{ss:List Us}{release:Int}{fd:Bool}{best:Option (List Int)}{o:Option (List V)}{G:List aV}{K:cR}(hn:R.length≤6)(ha:Vd (R.map List.length) a)(hlen:∀o∈R,o.length≤1000)
  (h0:∀z b,inc (R.map List.length) a=none→K (.exit 4) { Bz us ss R release fd best (-1) b o G with env:=(Bz us ss R release fd best (-1) b o G).env++[(124,z)] })
  (h1:∀z (i:Nat),i<R.length→nth a i+1<nth (R.map List.length) i→inc (R.map List.length) a=some (a.take i++(nth a i+1)::List.replicate (R.length-1-i) 0) →
   K (.exit 4) { Bz us ss R release fd best i (a.take (i+1)++List.replicate (R.length-1-i) 0) o G with env:=(Bz us ss R release fd best i a o G).env++[(124,z)] }) :
  go (bo F) RX (Bz us ss R release fd best (R.length-1) a o G) K:=by
 have pU:=Bv ha;simp only[List.length_map]at pU;refine go_loop (fun k:Nat=>Bz us ss R release fd best (k-1) (a.take k++List.replicate (R.length-k) 0) o G)
  (fun k=>k≤R.length∧∀j,k≤j→j<R.length→nth a j+1=nth (R.map List.length) j) (fun k=>k) R.length rfl (by rw[List.take_of_length_le (by omega)];simp) ⟨by omega,by omega⟩ ?_
 rintro k ⟨hk,hm⟩;by_cases FQ:k=0
 ·subst FQ
  simp +contextual (disch:=omega) [-getElem?_pos,wrap64,K2];exact h0 _ _ (MG ha fun j hj=>hm j (by omega) (by simpa using hj))
 ·have e1:0≤(k:Int)-1:=by omega
  have e2:((k:Int)-1).toNat=k-1:=by omega
  have h3:k-1<R.length:=by omega
  have h4:(iz (a.take k++List.replicate (R.length-k) 0))[k-1]?=some (i64 ((nth a (k-1):Nat):Int)):=by
   rw[Bx (by simp;omega),od (by simp;omega),By (by omega)]
  have h5:=hlen _ (qc h3);have h6:=vY ha (k-1) (by simpa using h3)
  rw[uO h3]at h6;have h7:(iz (a.take k++List.replicate (R.length-k) 0)).set (k-1) (i64 0)=iz (a.take (k-1)++List.replicate (R.length-(k-1)) 0):=by
   have:=Ea (a:=a.take k++List.replicate (R.length-k) 0) (i:=k-1) (d:=0);rw[show(i64 ((0:Nat):Int))=i64 0 from rfl]at this;rw[this];congr 1;obtain⟨m,rfl⟩:∃m,k=m+1:=⟨k-1,by omega⟩
   rw[jA (show m<a.length by omega)]
   have hl:(a.take m).length=m:=by simp;omega
   rw[List.append_assoc,Nat.add_sub_cancel,List.set_append_right _ _ (by omega),hl,Nat.sub_self]
   simp only[List.singleton_append,List.set_cons_zero];rw[show R.length-m=(R.length-(m+1))+1 by omega,List.replicate_succ]
  have h8:nth (R.map List.length) (k-1)=(nth R (k-1)).length:=uO h3;simp +contextual (disch:=omega) [-getElem?_pos,wrap64,K2,e1,e2,h4,bp (l:=R)];refine b9 (fun h9=>?_) (fun h9=>?_)
  ·have fQ:k≤(iz (a.take k++List.replicate (R.length-k) 0)).length:=by simp;omega
   simp +contextual (disch:=omega) [-getElem?_pos,wrap64,fQ,h7];refine cc (k-1) ?_ ⟨by omega,fun j a1 a2=>?_⟩ (by omega)
   ·rw[show(((k-1:Nat)):Int)=(k:Int)-1 by omega]
    simp
   ·rcases Nat.lt_or_ge j k with kg|kg
    ·obtain rfl:j=k-1:=by omega
     rw[h8];omega
    ·exact hm j kg a2
  ·have bF:nth a (k-1)+1<nth (R.map List.length) (k-1):=by rw[h8];omega
   have hi:=T8 (i:=k-1) ha (by simpa using h3) (fun j a1 a2=>hm j (by omega) (by simpa using a2)) bF
   simp only[List.length_map]at hi;have:=h1 (.bool (decide (((nth a (k-1):Nat):Int)=((nth R (k-1)).length:Int)-1))) (k-1) h3 bF hi;rw[show(((k-1:Nat)):Int)=(k:Int)-1 by omega,show k-1+1=k by omega,show R.length-1-(k-1)=R.length-k by omega]at this
   exact this
theorem Ud{us:List Un}{ss:List Us}{g:Int}(h:us.length=ss.length):(my us ss g).length=us.length:=by simp[my,h]
theorem ahx(us:List Un)(ss:List Us)(g:Int):List.zipWith (Hf g) us ss=(my us ss g).map fun o=>[ints o]:=by
 rw[my,List.map_zipWith]
theorem ahy{us:List Un}{ss:List Us}{g:Int}(h:Hc us ss g){o:List Int}(ho:o∈my us ss g):(0<o.length∧o.length≤1000)∧∀q∈o,0≤q∧q≤1073741824:=by
 have hl:=h.len;obtain⟨i,hi,rfl⟩:=Bs ho;rw[Ud hl]at hi;have e:nth (my us ss g) i=rF (nth us i) (nth ss i) g:=Bt hi (by omega)
 rw[e];have h1:=ahl (s:=nth ss i) (h.TD i hi);refine⟨⟨ahr (h.valid i hi),by omega⟩,fun q hq=>?_⟩
 simp only[rF,List.mem_filter,decide_eq_true_eq]at hq;exact G8 hq.2
noncomputable abbrev Hh(us:List Un)(ss:List Us)(R:List (List Int))(release:Int)(best:Option (List Int))(a:List Nat)(o:Option (List V))(G:List aV):St :=
 ⟨[(0,jQ us),(1,jy ss),(3,i64 release),(11,D9 R),(13,.bool best.isSome),(14,rb best),(15,.bJ 15 0),(16,.b0 53 1 R.length)],(15,rv us ss best)::(53,iz a)::ob o,[],G⟩
theorem ahz{R:List (List Int)}{us:List Un}{ss:List Us}{release:Int}{G:List aV}{K:cR}(hn:R.length≤6)(tq:us.length≤6)(Ue:R.length=us.length)(sL:∀o∈R,(0<o.length∧o.length≤1000)∧∀q∈o,0≤q∧q≤1073741824)
  (nZ:∀a,Vd (R.map List.length) a→y4 us ss (en R a)=some ((en R a).sum,ix us (en R a),iy ss (en R a)))
  (hz:Vd (R.map List.length) (List.replicate R.length 0))
  (hK:∀best b o z,Kn us ss R release (py (R.map List.length)) best→K (.exit 0) { Hh us ss R release best b o G with env:=(Hh us ss R release best b o G).env++[(26,i64 (-1)),(131,z)] }) :
  go (bo F) RZ (Hh us ss R release none (List.replicate R.length 0) none G) K:=by
 refine go_loop (fun x:List Nat×Option (List Int)×Option (List V)=>Hh us ss R release x.2.1 x.1 x.2.2 G) (fun x=>Vd (R.map List.length) x.1∧Kn us ss R release (rk (R.map List.length) x.1) x.2.1)
  (fun x=>py (R.map List.length)-rk (R.map List.length) x.1) (List.replicate R.length 0,none,none) rfl (by simp[rb]) ⟨hz,by simp only[ME];intro b _ h;omega⟩ ?_
 rintro⟨a,best,o⟩ ⟨ha,jg⟩;simp only at ha jg;have hrk:=Bw ha;have pU:=Bv ha;simp only[List.length_map]at pU;have lu:=Ub pU;have gT:=T7 ha;replace jg:=ahs ha jg;have hva:=nZ a ha;have hV:=Tz us ss (en R a) (by omega) []
 rw[hva]at hV;simp only[Bq]at hV;have MK:(List.replicate R.length [V.int .i64 0]).flatten=dR (List.replicate R.length 0):=by
  rw[dR];simp
 simp (disch:=omega) [-getElem?_pos,wrap64,RY,MK];refine ahw hn ha (fun o ho=>(sL o ho).2) fun z=>?_;simp (disch:=omega) [-getElem?_pos,wrap64,wrap64];refine b9 (fun h1=>?_) (fun h1=>?_)
 ·have ML:lj [none] (chunks 1 (dR (en R a)) 0 R.length)=some ((en R a).map fun n=>[V.int .i64 n]):=J5 (by omega)
  cases best with
  |none =>
   have vm:sK us ss release (en R a) none=some (en R a):=by simp[sK,h1]
   rw[vm]at jg;simp (disch:=omega) [-getElem?_pos,wrap64,ML,hV,rb,rv];refine Hg (best:=some (en R a)) (o:=none) (fd:=true) hn ha (fun o ho=>(sL o ho).1.2) (fun z b he=>?_) (fun z i hi bF he=>?_)
   ·rw[he]at gT
    simp only at gT;rw[gT]at jg;simp (disch:=omega) [-getElem?_pos,wrap64,rb,rv];exact hK _ b none _ jg
   ·rw[he]at gT
    simp only at gT;rw[←gT.2]at jg;have q1:(iz (a.take (i+1)++List.replicate (R.length-1-i) 0))[i]?=some (i64 ((nth a i:Nat):Int)):=by
     rw[Bx (by simp;omega),od (by simp;omega),By (by omega)]
    have q2:=vY ha i (by simpa using hi)
    rw[uO hi]at q2;have q3:=(sL _ (qc hi)).1.2;have q7:¬(i:Int)<0:=by omega
    have q4:i<a.length:=by omega
    have q5:(iz (a.take (i+1)++List.replicate (R.length-1-i) 0)).set i (i64 (((nth a i:Nat):Int)+1))=iz (a.take i++(nth a i+1)::List.replicate (R.length-1-i) 0):=by
     have:=Ea (a:=a.take (i+1)++List.replicate (R.length-1-i) 0) (i:=i) (d:=nth a i+1);rw[show(i64 ((nth a i+1:Nat):Int))=i64 (((nth a i:Nat):Int)+1) from rfl]at this;rw[this,jA q4,List.append_assoc,List.set_append_right _ _ (by simp;omega)]
     have:(a.take i).length=i:=by simp;omega
     rw[this,Nat.sub_self];rfl
    have q6:i<(iz (a.take (i+1)++List.replicate (R.length-1-i) 0)).length:=by simp;omega
    simp (disch:=omega) [-getElem?_pos,wrap64,q1,q5,q6,q7,rb,rv];exact cc (a.take i++(nth a i+1)::List.replicate (R.length-1-i) 0,some (en R a),none) (by simp[rb,rv]) ⟨gT.1,jg⟩ (by simp only;omega)
  |some E =>
   by_cases vW:jz (ix us (en R a),iy ss (en R a)) (ix us E,iy ss E) (en R a) E
   ·have vm:sK us ss release (en R a) (some E)=some (en R a):=by simp[sK,h1,vW]
    rw[vm]at jg;have hB:=Ty (ix us (en R a),iy ss (en R a)) (ix us E,iy ss E) (en R a) E (by omega) []
    rw[decide_eq_true vW]at hB;simp (disch:=omega) [-getElem?_pos,wrap64,ML,hV,rb,rv,hB];refine Hg (best:=some (en R a)) (o:=none) (fd:=true) hn ha (fun o ho=>(sL o ho).1.2) (fun z b he=>?_) (fun z i hi bF he=>?_)
    ·rw[he]at gT
     simp only at gT;rw[gT]at jg;simp (disch:=omega) [-getElem?_pos,wrap64,rb,rv];exact hK _ b none _ jg
    ·rw[he]at gT
     simp only at gT;rw[←gT.2]at jg;have q1:(iz (a.take (i+1)++List.replicate (R.length-1-i) 0))[i]?=some (i64 ((nth a i:Nat):Int)):=by
      rw[Bx (by simp;omega),od (by simp;omega),By (by omega)]
     have q2:=vY ha i (by simpa using hi)
     rw[uO hi]at q2;have q3:=(sL _ (qc hi)).1.2;have q7:¬(i:Int)<0:=by omega
     have q4:i<a.length:=by omega
     have q5:(iz (a.take (i+1)++List.replicate (R.length-1-i) 0)).set i (i64 (((nth a i:Nat):Int)+1))=iz (a.take i++(nth a i+1)::List.replicate (R.length-1-i) 0):=by
      have:=Ea (a:=a.take (i+1)++List.replicate (R.length-1-i) 0) (i:=i) (d:=nth a i+1);rw[show(i64 ((nth a i+1:Nat):Int))=i64 (((nth a i:Nat):Int)+1) from rfl]at this;rw[this,jA q4,List.append_assoc,List.set_append_right _ _ (by simp;omega)]
      have:(a.take i).length=i:=by simp;omega
      rw[this,Nat.sub_self];rfl
     have q6:i<(iz (a.take (i+1)++List.replicate (R.length-1-i) 0)).length:=by simp;omega
     simp (disch:=omega) [-getElem?_pos,wrap64,q1,q5,q6,q7,rb,rv];exact cc (a.take i++(nth a i+1)::List.replicate (R.length-1-i) 0,some (en R a),none) (by simp[rb,rv]) ⟨gT.1,jg⟩ (by simp only;omega)
   ·have vm:sK us ss release (en R a) (some E)=some E:=by simp[sK,h1,vW]
    rw[vm]at jg;have hB:=Ty (ix us (en R a),iy ss (en R a)) (ix us E,iy ss E) (en R a) E (by omega) []
    rw[decide_eq_false vW]at hB;simp (disch:=omega) [-getElem?_pos,wrap64,ML,hV,rb,rv,hB];refine Hg (best:=some E) (o:=none) (fd:=true) hn ha (fun o ho=>(sL o ho).1.2) (fun z b he=>?_) (fun z i hi bF he=>?_)
    ·rw[he]at gT
     simp only at gT;rw[gT]at jg;simp (disch:=omega) [-getElem?_pos,wrap64,rb,rv];exact hK _ b none _ jg
    ·rw[he]at gT
     simp only at gT;rw[←gT.2]at jg;have q1:(iz (a.take (i+1)++List.replicate (R.length-1-i) 0))[i]?=some (i64 ((nth a i:Nat):Int)):=by
      rw[Bx (by simp;omega),od (by simp;omega),By (by omega)]
     have q2:=vY ha i (by simpa using hi)
     rw[uO hi]at q2;have q3:=(sL _ (qc hi)).1.2;have q7:¬(i:Int)<0:=by omega
     have q4:i<a.length:=by omega
     have q5:(iz (a.take (i+1)++List.replicate (R.length-1-i) 0)).set i (i64 (((nth a i:Nat):Int)+1))=iz (a.take i++(nth a i+1)::List.replicate (R.length-1-i) 0):=by
      have:=Ea (a:=a.take (i+1)++List.replicate (R.length-1-i) 0) (i:=i) (d:=nth a i+1);rw[show(i64 ((nth a i+1:Nat):Int))=i64 (((nth a i:Nat):Int)+1) from rfl]at this;rw[this,jA q4,List.append_assoc,List.set_append_right _ _ (by simp;omega)]
      have:(a.take i).length=i:=by simp;omega
      rw[this,Nat.sub_self];rfl
     have q6:i<(iz (a.take (i+1)++List.replicate (R.length-1-i) 0)).length:=by simp;omega
     simp (disch:=omega) [-getElem?_pos,wrap64,q1,q5,q6,q7,rb,rv];exact cc (a.take i++(nth a i+1)::List.replicate (R.length-1-i) 0,some E,none) (by simp[rb,rv]) ⟨gT.1,jg⟩ (by simp only;omega)
 ·have vm:sK us ss release (en R a) best=best:=by
   cases best with
   |none=>simp[sK,h1]
   |some F=>simp[sK,h1]
  rw[vm]at jg;refine Hg (best:=best) (o:=(some (dR (en R a)))) (fd:=best.isSome) hn ha (fun o ho=>(sL o ho).1.2) (fun z b he=>?_) (fun z i hi bF he=>?_)
  ·rw[he]at gT
   simp only at gT;rw[gT]at jg;simp (disch:=omega) [-getElem?_pos,wrap64,MJ];exact hK _ b (some (dR (en R a))) _ jg
  ·rw[he]at gT
   simp only at gT;rw[←gT.2]at jg;have q1:(iz (a.take (i+1)++List.replicate (R.length-1-i) 0))[i]?=some (i64 ((nth a i:Nat):Int)):=by
    rw[Bx (by simp;omega),od (by simp;omega),By (by omega)]
   have q2:=vY ha i (by simpa using hi)
   rw[uO hi]at q2;have q3:=(sL _ (qc hi)).1.2;have q7:¬(i:Int)<0:=by omega
   have q4:i<a.length:=by omega
   have q5:(iz (a.take (i+1)++List.replicate (R.length-1-i) 0)).set i (i64 (((nth a i:Nat):Int)+1))=iz (a.take i++(nth a i+1)::List.replicate (R.length-1-i) 0):=by
    have:=Ea (a:=a.take (i+1)++List.replicate (R.length-1-i) 0) (i:=i) (d:=nth a i+1);rw[show(i64 ((nth a i+1:Nat):Int))=i64 (((nth a i:Nat):Int)+1) from rfl]at this;rw[this,jA q4,List.append_assoc,List.set_append_right _ _ (by simp;omega)]
    have:(a.take i).length=i:=by simp;omega
    rw[this,Nat.sub_self];rfl
   have q6:i<(iz (a.take (i+1)++List.replicate (R.length-1-i) 0)).length:=by simp;omega
   simp (disch:=omega) [-getElem?_pos,wrap64,q1,q5,q6,q7,MJ];exact cc (a.take i++(nth a i+1)::List.replicate (R.length-1-i) 0,best,(some (dR (en R a)))) (by simp[MJ]) ⟨gT.1,jg⟩ (by simp only;omega)
theorem ahB(us:List Un)(ss:List Us)(g release:Int)(G:List aV):∃t,bo F 120 [jQ us,jy ss,i64 g,i64 release] G=some (.tuple [.slice t 1 ((gX us ss g release).map fun n=>[i64 n]),i64 (jR us ss g release)],G):=by
 suffices h:∀Q:V→Prop,(∀t,Q (.tuple [.slice t 1 ((gX us ss g release).map fun n=>[i64 n]),i64 (jR us ss g release)]))→iP (bo F) 120 [jQ us,jy ss,i64 g,i64 release] G fun v G'=>Q v∧G'=G by
  obtain⟨_,_,h,⟨t,rfl⟩,rfl⟩:=h (fun v=>∃t,v=.tuple [.slice t 1 ((gX us ss g release).map fun n=>[i64 n]),i64 (jR us ss g release)]) fun t=>⟨t,rfl⟩;exact⟨t,h⟩
 intro Q hQ;refine jl rfl rfl ?_;have Eb:=ahk us ss g [];by_cases hw:xm us ss g=0
 ·obtain⟨w1,w2,w3,w4⟩:us.length≤6∧us.length=ss.length∧y5 us ss∧(1≤g∧g≤1073741824):=by
   unfold xm at hw;split at hw
   ·cases hw
   ·split at hw
    ·cases hw
    ·split at hw
     ·cases hw
     ·split at hw
      ·cases hw
      ·rename_i a1 a2 a3 a4
       exact⟨by omega,Decidable.of_not_not a2,Decidable.of_not_not a3,by omega⟩
  have oe:px us ss g release=if g<1∨1073741824<g∨release<0∨1073741824<release then 1 else if 200*g<release then 10 else if ¬y6 us g then 10 else 0:=by
   unfold px;rw[if_neg (by omega),if_neg (fun h=>h w2),if_neg (fun h=>h w3)]
  by_cases hr:release<0∨1073741824<release
  ·rw[if_pos (by omega)]at oe
   have eL:gX us ss g release=[]:=by simp[gX,oe]
   have eE:jR us ss g release=1:=by simp[jR,oe]
   rw[eL,eE]at hQ;have h8:(!decide (0≤release) || !decide (release≤1073741824))=true:=by simp;omega
   simp (disch:=omega) [wrap64,yW,Eb,hw,cY,h8];exact hQ _
  ·rw[if_neg (by omega)]at oe
   have h8:(!decide (0≤release) || !decide (release≤1073741824))=false:=by simp;omega
   by_cases h9:200*g<release
   ·rw[if_pos h9]at oe
    have eL:gX us ss g release=[]:=by simp[gX,oe]
    have eE:jR us ss g release=10:=by simp[jR,oe]
    rw[eL,eE]at hQ;simp (disch:=omega) [wrap64,yW,Eb,hw,cY,h8,h9];exact hQ _
   ·rw[if_neg h9]at oe
    have hA:=ahp w2 (by omega) w3 g []
    by_cases hF:y6 us g
    ·rw[if_neg (fun h=>h hF)]at oe
     have hE:xn us g=0:=by simp[xn,hF]
     rw[hE,if_pos rfl,ahx]at hA;have h0:=(MA oe).1;have zD:=TP h0 (left:=release) (by omega)
     have eL:gX us ss g release=(l7 (iS us ss g) release).getD []:=by simp[gX,oe]
     have eE:jR us ss g release=if l7 (iS us ss g) release=none then 9 else 0:=by simp[jR,oe]
     have Ue:=Ud (g:=g) w2;have sL:=fun o (ho:o∈my us ss g)=>ahy h0 ho;have nZ:∀a,Vd ((my us ss g).map List.length) a→y4 us ss (en (my us ss g) a)=some ((en (my us ss g) a).sum,ix us (en (my us ss g) a),iy ss (en (my us ss g) a)):=fun a ha=>TS ((D8 w2).1 (MH ha));have ahC:Kn us ss (my us ss g) release (py ((my us ss g).map List.length)) none→∀F,lH g us ss F→release<F.sum:=T9 (g:=g) w2;have ahD:∀F,Kn us ss (my us ss g) release (py ((my us ss g).map List.length)) (some F)→y9 g us ss release F:=fun F=>T9 (g:=g) w2;generalize hR:my us ss g=R at *
     have hz:Vd (R.map List.length) (List.replicate R.length 0):=by
      have:=MF (ns:=R.map List.length) fun n hn=>by
       obtain⟨o,ho,rfl⟩:=List.mem_map.1 hn;exact(sL o ho).1.1
      simpa using this
     simp (disch:=omega) [wrap64,yW,Eb,hw,cY,h8,h9,hA];have MK:List.replicate R.length (V.int .i64 0)=iz (List.replicate R.length 0):=by simp[iz,dR]
     rw[MK];refine ahz (us:=us) (ss:=ss) (release:=release) (by omega) w1 Ue sL nZ hz fun best b o z jg=>?_
     cases best with
     |none =>
      have hb:=ahC jg;have kV:l7 (iS us ss g) release=none:=by
       cases hc:l7 (iS us ss g) release with
       |none=>rfl
       |some F =>
        rw[hc]at zD;have:=hb F zD.lH;have:=zD.sum;omega
      rw[eL,eE,kV]at hQ;simp only[if_true,Option.getD_none]at hQ;simp (disch:=omega) [wrap64,rb];exact hQ _
     |some F =>
      have hb:=ahD F jg;have hso:l7 (iS us ss g) release=some F:=by
       cases hc:l7 (iS us ss g) release with
       |none =>
        rw[hc]at zD;have:=zD F hb.lH;have:=hb.sum;omega
       |some E =>
        rw[hc]at zD;rw[y9.unique zD hb]
      rw[eL,eE,hso]at hQ;simp only[Option.getD_some,reduceCtorEq,if_false]at hQ;simp (disch:=omega) [wrap64,rb];exact hQ _
    ·rw[if_pos hF]at oe
     have hE:xn us g=10:=by simp[xn,hF]
     have eL:gX us ss g release=[]:=by simp[gX,oe]
     have eE:jR us ss g release=10:=by simp[jR,oe]
     rw[hE,if_neg (by omega)]at hA
     rw[eL,eE]at hQ;simp (disch:=omega) [wrap64,yW,Eb,hw,cY,h8,h9,hA];exact hQ _
 ·have oe:px us ss g release=xm us ss g:=by
   unfold xm at hw ⊢;unfold px;split
   ·rfl
   ·split
    ·rfl
    ·split
     ·rfl
     ·rename_i a1 a2 a3
      simp only[a1,a2,a3,if_false]at hw;split at hw
      ·rw[if_pos (by omega),if_pos (by assumption)]
      ·exact absurd rfl hw
  have ahF:¬px us ss g release=0:=by rw[oe];exact hw
  have eL:gX us ss g release=[]:=by simp[gX,ahF]
  have eE:jR us ss g release=xm us ss g:=by simp[jR,oe,hw]
  rw[eL,eE]at hQ;simp (disch:=omega) [wrap64,yW,Eb,hw];exact hQ _
end Go.Proofs.YtmpikpodpgnjhaaGreat
namespace Go.Proofs.YtmpikpodpgnjhaaGreat
set_option linter.all false
open Go.Vm
end Go.Proofs.YtmpikpodpgnjhaaGreat
