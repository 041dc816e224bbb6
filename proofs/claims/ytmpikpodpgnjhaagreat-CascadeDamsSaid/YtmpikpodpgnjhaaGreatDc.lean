/- Parts of the proof, joined: Sto1, Sto2, Sto3, Ord1, Ref1, Ref2, Ref3, Rng1. -/
import Derived.Test.YtmpikpodpgnjhaaGreatDa
import Derived.Test.YtmpikpodpgnjhaaGreatDb
namespace Go.Proofs.YtmpikpodpgnjhaaGreat
set_option linter.all false
open Go.Vm
attribute [local simp] eS eT eQ eR
structure Rs where
 c:List Pt
 d:Int
 l:Int
 f:Int
 s:Int
 t:Int
abbrev Rs.cells(r:Rs):List V:=[iu r.c,i64 r.d,i64 r.l,i64 r.f,i64 r.s,i64 r.t]
def qN(c:List Pt)(i:Nat):Int:=if (nth c i).y≤(nth c (i-1)).y then 4 else 0
def qO(r:Rs):List Int:=[(nth r.c 0).x,r.d,r.l,r.f,r.s,r.t,(nth r.c (r.c.length-1)).x]
def oZ(l:List Int)(i:Nat):Int:=if nth l i<nth l (i-1) then 4 else 0
def ij(r:Rs):Int :=
 if gd r.c≠0 then gd r.c else if r.c.length<2 then 3 else if 16777216<(nth r.c (r.c.length-1)).x then 1
 else if ef (qN r.c) (r.c.length-1) 1=0 then ef (oZ (qO r)) (7-1) 1 else 4
theorem TW{c:List Pt}(h:gd c=0):c.length≤100:=by
 unfold gd at h;split at h
 ·cases h
 ·split at h
  ·cases h
  ·omega
theorem TX(r:Rs)(G:List aV):bo F 128 [.agg r.cells] G=some (i64 (ij r),G) :=
 cg rfl rfl (by
  generalize hW:ij r=W;unfold ij at hW;simp (disch:=omega) [-getElem?_pos,wrap64,K9,mV];refine gV (fun h=>?_) (fun h=>?_)
  ·simp[-List.length_eq_zero_iff,-Int.natCast_eq_zero]at h
   rw[if_pos (by omega)]at hW
   exact hW
  ·simp[-List.length_eq_zero_iff,-Int.natCast_eq_zero]at h
   rw[if_neg (by omega)]at hW
   refine b9 (fun h2=>?_) (fun h2=>?_)
   ·rw[if_pos (by omega)]at hW
    simpa using hW
   ·rw[if_neg (by omega)]at hW
    have h3:((r.c.length:Int)-1).toNat=r.c.length-1:=by omega
    have h4:r.c.length-1<r.c.length:=by omega
    have h5:0≤(r.c.length:Int)-1:=by omega
    have hl:=TW h;simp (disch:=omega) [-getElem?_pos,wrap64,bp (l:=r.c),h3,h4,h5];refine b9 (fun h6=>?_) (fun h6=>?_)
    ·rw[if_pos (by omega)]at hW
     simpa using hW
    ·rw[if_neg (by omega)]at hW
     have hq:(if ef (qN r.c) (r.c.length-1) 1=0 then ef (oZ (qO r)) (7-1) 1 else (4:Int))=W:=hW
     clear hW
     refine go_loop (fun i:Nat=>abS r.c.length i r.cells G) (fun i=>1≤i∧i≤r.c.length∧(if ef (qN r.c) (r.c.length-i) i=0 then ef (oZ (qO r)) (7-1) 1 else (4:Int))=W) (fun i=>r.c.length-i) 1 rfl (by simp) ⟨by omega,by omega,hq⟩ ?_
     rintro i ⟨MF,hi,hq⟩;simp (disch:=omega) [-getElem?_pos,wrap64,R9];refine b9 (fun h7=>?_) (fun h7=>?_)
     ·have h7:i<r.c.length:=by omega
      rw[ma h7]at hq;have h8:((i:Int)-1).toNat=i-1:=by omega
      have h9:i-1<r.c.length:=by omega
      have fW:0≤(i:Int)-1:=by omega
      simp (disch:=omega) [-getElem?_pos,wrap64,bp (l:=r.c),h8,h9,fW,h7];refine b9 (fun ko=>?_) (fun ko=>?_)
      ·have e:qN r.c i=4:=by rw[qN,if_pos ko]
       rw[e]at hq;simpa using hq
      ·have e:qN r.c i=0:=by rw[qN,if_neg ko]
       rw[e,if_pos rfl]at hq;exact cc (i+1) (by simp) ⟨by omega,by omega,hq⟩ (by omega)
     ·have h7:i=r.c.length:=by omega
      subst h7;rw[mU]at hq;rw[if_pos rfl]at hq;simp (disch:=omega) [-getElem?_pos,wrap64,bp (l:=r.c),h3,h4,h5];have hL:(qO r).length=7:=rfl;have hO:[V.int IntKind.i64 (nth r.c 0).x,V.int IntKind.i64 r.d,V.int IntKind.i64 r.l,V.int IntKind.i64 r.f,V.int IntKind.i64 r.s,V.int IntKind.i64 r.t,V.int IntKind.i64 (nth r.c (r.c.length-1)).x]=(qO r).map (V.int .i64):=rfl;rw[hO];generalize qO r=L at hq hL ⊢;refine go_loop (fun i:Nat=>abU i (L.map (V.int .i64)) G) (fun i=>1≤i∧i≤7∧ef (oZ L) (7-i) i=W) (fun i=>7-i) 1 rfl (by simp) ⟨by omega,by omega,hq⟩ ?_
      rintro j ⟨nD,hj,hq⟩;simp (disch:=omega) [-getElem?_pos,wrap64,Sa];refine b9 (fun h7=>?_) (fun h7=>?_)
      ·have h7:j<7:=by omega
       rw[ma h7]at hq;have h8:((j:Int)-1).toNat=j-1:=by omega
       have h9:j-1<L.length:=by omega
       have fW:0≤(j:Int)-1:=by omega
       have ko:j<L.length:=by omega
       simp (disch:=omega) [-getElem?_pos,wrap64,bp (l:=L),h8,h9,fW,h7,ko,hL];refine b9 (fun rn=>?_) (fun rn=>?_)
       ·have e:oZ L j=4:=by rw[oZ,if_pos rn]
        rw[e]at hq;simpa using hq
       ·have e:oZ L j=0:=by rw[oZ,if_neg rn]
        rw[e,if_pos rfl]at hq;exact cc (j+1) (by simp) ⟨by omega,by omega,hq⟩ (by omega)
      ·have h7:j=7:=by omega
       subst h7;simpa [ef] using hq)
theorem qP{r:Rs}(h:ij r=0):gd r.c=0:=by
 unfold ij at h;split at h
 ·rename_i h1;exact h
 ·rename_i h1;exact Decidable.of_not_not h1
end Go.Proofs.YtmpikpodpgnjhaaGreat
namespace Go.Proofs.YtmpikpodpgnjhaaGreat
set_option linter.all false
open Go.Vm
attribute [local simp] eS eT eQ eR
theorem TY{c:List Pt}(h:Cv c):∀{m i:Nat},i+m<c.length→(nth c i).x≤(nth c (i+m)).x
 |0,i,_=>by simp
 |m+1,i,hi=>by
  have h1:=TY h (m:=m) (i:=i) (by omega)
  have h2:=h.up (i+m+1) (by omega) (by omega)
  have h3:i+m+1-1=i+m:=by omega
  rw[h3]at h2;have h4:i+(m+1)=i+m+1:=by omega
  rw[h4];omega
theorem xm(r:Rs)(G:List aV):bo F 131 [.agg r.cells] G=some (i64 (ij r),G) :=
 cg rfl rfl (by
  generalize hW:ij r=W;unfold ij at hW;by_cases h:gd r.c=0
  ·rw[if_neg (by omega)]at hW
   have hl:=TW h;simp (disch:=omega) [-getElem?_pos,wrap64,Gl,lq,h];refine b9 (fun h2=>?_) (fun h2=>?_)
   ·rw[if_pos (by omega)]at hW
    simpa using hW
   ·rw[if_neg (by omega)]at hW
    have h3:((r.c.length:Int)-1).toNat=r.c.length-1:=by omega
    have h4:r.c.length-1<r.c.length:=by omega
    have h5:0≤(r.c.length:Int)-1:=by omega
    refine go_loop (fun i:Nat=>ab1 r.c.length (iu r.c) r.c.length i r.cells G) (fun i=>i≤r.c.length∧∀j,j<i→(nth r.c j).x≤16777216) (fun i=>r.c.length-i) 0 rfl (by simp) ⟨by omega,by omega⟩ ?_
    rintro i ⟨hi,hz⟩;simp (disch:=omega) [-getElem?_pos,wrap64,Sd];refine b9 (fun h6=>?_) (fun h6=>?_)
    ·have h6:i<r.c.length:=by omega
     simp (disch:=omega) [-getElem?_pos,wrap64,bp (l:=r.c),h6];refine b9 (fun h7=>?_) (fun h7=>?_)
     ·have h8:=TY (lL h) (m:=r.c.length-1-i) (i:=i) (by omega)
      rw[show i+(r.c.length-1-i)=r.c.length-1 by omega]at h8
      rw[if_pos (by omega)]at hW
      simpa using hW
     ·exact cc (i+1) (by simp) ⟨by omega,fun j hj=>by rcases Nat.lt_or_ge j i with h|h;exact hz j h;rw[show j=i by omega];omega⟩ (by omega)
    ·have h6:i=r.c.length:=by omega
     subst h6;have h8:=hz (r.c.length-1) (by omega)
     rw[if_neg (by omega)]at hW
     have hq:(if ef (qN r.c) (r.c.length-1) 1=0 then ef (oZ (qO r)) (7-1) 1 else (4:Int))=W:=hW
     clear hW
     refine go_loop (fun i:Nat=>ab3 r.c.length i r.cells G) (fun i=>1≤i∧i≤r.c.length∧(if ef (qN r.c) (r.c.length-i) i=0 then ef (oZ (qO r)) (7-1) 1 else (4:Int))=W) (fun i=>r.c.length-i) 1 rfl (by simp) ⟨by omega,by omega,hq⟩ ?_
     rintro i ⟨MF,hi,hq⟩;simp (disch:=omega) [-getElem?_pos,wrap64,Se];refine b9 (fun h7=>?_) (fun h7=>?_)
     ·have h7:i<r.c.length:=by omega
      rw[ma h7]at hq;have h8:((i:Int)-1).toNat=i-1:=by omega
      have h9:i-1<r.c.length:=by omega
      have fW:0≤(i:Int)-1:=by omega
      simp (disch:=omega) [-getElem?_pos,wrap64,bp (l:=r.c),h8,h9,fW,h7];refine b9 (fun ko=>?_) (fun ko=>?_)
      ·have e:qN r.c i=4:=by rw[qN,if_pos ko]
       rw[e]at hq;simpa using hq
      ·have e:qN r.c i=0:=by rw[qN,if_neg ko]
       rw[e,if_pos rfl]at hq;exact cc (i+1) (by simp) ⟨by omega,by omega,hq⟩ (by omega)
     ·have h7:i=r.c.length:=by omega
      subst h7;rw[mU]at hq;rw[if_pos rfl]at hq;simp (disch:=omega) [-getElem?_pos,wrap64,bp (l:=r.c),h3,h4,h5];have hL:(qO r).length=7:=rfl;have hO:[[V.int IntKind.i64 (nth r.c 0).x],[V.int IntKind.i64 r.d],[V.int IntKind.i64 r.l],[V.int IntKind.i64 r.f],[V.int IntKind.i64 r.s],[V.int IntKind.i64 r.t],[V.int IntKind.i64 (nth r.c (r.c.length-1)).x]]=(qO r).map (fun n=>[V.int .i64 n]):=rfl;rw[hO];generalize qO r=L at hq hL ⊢
      refine go_loop (fun i:Nat=>ab5 (.slice none 1 (L.map (fun n=>[V.int .i64 n]))) i G) (fun i=>1≤i∧i≤7∧ef (oZ L) (7-i) i=W) (fun i=>7-i) 1 rfl (by simp) ⟨by omega,by omega,hq⟩ ?_
      rintro j ⟨nD,hj,hq⟩;simp (disch:=omega) [-getElem?_pos,wrap64,Sf,hL];refine b9 (fun h7=>?_) (fun h7=>?_)
      ·have h7:j<7:=by omega
       rw[ma h7]at hq;have h8:((j:Int)-1).toNat=j-1:=by omega
       have h9:j-1<L.length:=by omega
       have fW:0≤(j:Int)-1:=by omega
       have ko:j<L.length:=by omega
       simp (disch:=omega) [-getElem?_pos,wrap64,bp (l:=L),h8,h9,fW,h7,ko,hL];refine b9 (fun rn=>?_) (fun rn=>?_)
       ·have e:oZ L j=4:=by rw[oZ,if_pos rn]
        rw[e]at hq;simpa using hq
       ·have e:oZ L j=0:=by rw[oZ,if_neg rn]
        rw[e,if_pos rfl]at hq;exact cc (j+1) (by simp) ⟨by omega,by omega,hq⟩ (by omega)
      ·have h7:j=7:=by omega
       subst h7;simpa [ef] using hq
  ·rw[if_pos h]at hW
   simp (disch:=omega) [-getElem?_pos,wrap64,Gl,lq,h];exact hW)
def qQ(r:Rs)(l:Int):Int:=if ij r≠0 then ij r else if 0≤l∧l≤16777216 then 0 else 1
theorem ahh{r:Rs}{l:Int}(h:qQ r l=0):ij r=0:=by
 unfold qQ at h;split at h
 ·exact h
 ·rename_i h1;exact Decidable.of_not_not h1
theorem TZ(r:Rs)(l:Int)(G:List aV):bo F 118 [.agg r.cells,i64 l] G=some (i64 (qQ r l),G) :=
 cg rfl rfl (by
  by_cases h:ij r=0
  ·by_cases h1:0≤l
   ·by_cases h2:l≤16777216
    ·simp[wrap64,Bc,xm,h,h1,h2,c5,qQ]
    ·simp[wrap64,Bc,xm,h,h1,h2,c5,qQ]
   ·simp[wrap64,Bc,xm,h,h1,c5,qQ]
  ·simp[wrap64,Bc,xm,h,qQ])
theorem D7(r:Rs)(l:Int)(G:List aV):bo F 59 [.agg r.cells,i64 l] G=some (.tuple [i64 (if qQ r l=0 then ic r.c l else 0),i64 (qQ r l)],G) :=
 cg rfl rfl (by
  by_cases h:qQ r l=0
  ·simp[wrap64,F6,TZ,h,Me,qP (ahh h)]
  ·simp[wrap64,F6,TZ,h])
end Go.Proofs.YtmpikpodpgnjhaaGreat
namespace Go.Proofs.YtmpikpodpgnjhaaGreat
set_option linter.all false
open Go.Vm
attribute [local simp] eS eT eQ eR
def zD(c:List Pt)(y:Int)(i:Nat):Int :=
 (nth c i).x+((y-(nth c i).y+1)*((nth c (i+1)).x-(nth c i).x)-1).tdiv ((nth c (i+1)).y-(nth c i).y)
def qe(c:List Pt)(y:Int):Nat→Nat→Int
 |0,_=>(nth c (c.length-1)).x
 |m+1,i=>if y<(nth c (i+1)).y then zD c y i else qe c y m (i+1)
def uP(c:List Pt)(y:Int):Int:=qe c y (c.length-1) 0
theorem ahi{c:List Pt}{y:Int}{i n:Nat}(h:i<n):qe c y (n-i) i=if y<(nth c (i+1)).y then zD c y i else qe c y (n-(i+1)) (i+1):=by
 obtain⟨m,hm⟩:∃m,n-i=m+1:=⟨n-i-1,by omega⟩
 rw[hm,qe,show n-(i+1)=m by omega]
theorem T3{c:List Pt}(h:gd c=0)(y:Int)(G:List aV) :
  bo F 203 [iu c,i64 y] G=some (.tuple [i64 (if y<(nth c 0).y then 0 else uP c y),.bool (decide ((nth c 0).y≤y)),i64 0],G) :=
 cg rfl rfl (by
  have hc:=lL h;have hp:=hc.pos;have hl:=hc.kd;simp (disch:=omega) [-getElem?_pos,wrap64,LU,mV,h,bp (l:=c),hp];refine b9 (fun h1=>⟨fun h2=>absurd h1 (by omega),h1⟩) (fun h1=>?_)
  have hT:(List.take c.length (List.map Pt.row c)).tail=c.tail.map Pt.row:=by
   rw[List.take_of_length_le (by simp),List.map_tail]
  have hTl:c.tail.length=c.length-1:=by simp
  have T4:∀i,nth c.tail i=nth c (i+1):=fun i=>by simp[nth]
  rw[hT];generalize c.tail=T at hTl T4 ⊢;refine go_loop (fun i:Nat=>adl (iu c) y (.slice none 2 (T.map Pt.row)) ((c.length-1:Nat):Int) i G) (fun i=>i≤c.length-1∧qe c y (c.length-1-i) i=uP c y∧(nth c i).y≤y) (fun i=>c.length-1-i) 0 rfl (by simp) ⟨by omega,rfl,by omega⟩ ?_
  rintro i ⟨hi,hq,hy⟩;simp (disch:=omega) [-getElem?_pos,wrap64,SW];refine b9 (fun h2=>?_) (fun h2=>?_)
  ·have h2:i<c.length-1:=by omega
   rw[ahi h2]at hq;have h3:i<T.length:=by omega
   have h4:i<c.length:=by omega
   simp (disch:=omega) [-getElem?_pos,wrap64,bp (l:=T),bp (l:=c),h3,h4,T4];refine b9 (fun h5=>?_) (fun h5=>?_)
   ·rw[if_pos h5]at hq
    have y1:=hc.y0 i h4;have y2:=hc.y0 (i+1) (by omega)
    have x1:=hc.x0 i h4;have x2:=hc.x0 (i+1) (by omega)
    have u1:=hc.up (i+1) (by omega) (by omega)
    have u2:=hc.prod (i+1) (by omega) (by omega)
    simp only[Nat.add_sub_cancel]at u1 u2;have a1:(y-(nth c i).y+1)*((nth c (i+1)).x-(nth c i).x)≤((nth c (i+1)).y-(nth c i).y)*((nth c (i+1)).x-(nth c i).x):=Int.mul_le_mul_of_nonneg_right (by omega) (by omega)
    have a2:0<(y-(nth c i).y+1)*((nth c (i+1)).x-(nth c i).x):=Int.mul_pos (by omega) (by omega)
    have b1:0≤((y-(nth c i).y+1)*((nth c (i+1)).x-(nth c i).x)-1).tdiv ((nth c (i+1)).y-(nth c i).y):=Int.tdiv_nonneg (by omega) (by omega)
    have b2:((y-(nth c i).y+1)*((nth c (i+1)).x-(nth c i).x)-1).tdiv ((nth c (i+1)).y-(nth c i).y)≤(y-(nth c i).y+1)*((nth c (i+1)).x-(nth c i).x)-1:=Int.tdiv_le_self _ (by omega)
    have d0:¬ (nth c (i+1)).y-(nth c i).y=0:=by omega
    have e0:¬ y<(nth c 0).y:=h1;have e1:(nth c 0).y≤y:=by omega
    simp (disch:=omega) [-getElem?_pos,wrap64,wrap64,d0,e0,e1];rw[←hq];rfl
   ·rw[if_neg h5]at hq
    exact cc (i+1) (by simp) ⟨by omega,hq,by omega⟩ (by omega)
  ·have h2:i=c.length-1:=by omega
   subst h2;have h4:c.length-1<c.length:=by omega
   have h5:((c.length:Int)-1).toNat=c.length-1:=by omega
   have e0:¬ y<(nth c 0).y:=h1;have e1:(nth c 0).y≤y:=by omega
   rw[Nat.sub_self]at hq;simp (disch:=omega) [-getElem?_pos,wrap64,bp (l:=c),h4,h5,e0,e1];rw[←hq];rfl)
def jx(r:Rs)(v:Int):Int:=if v<(nth r.c 0).y then (nth r.c 0).x else uP r.c v
theorem ahk{r:Rs}(h:ij r=0)(v:Int)(G:List aV):bo F 196 [.agg r.cells,i64 v] G=some (i64 (jx r v),G) :=
 cg rfl rfl (by
  have hp:=(lL (qP h)).pos;by_cases h1:v<(nth r.c 0).y
  ·have h2:¬ (nth r.c 0).y≤v:=by omega
   simp[-getElem?_pos,wrap64,GK,T3 (qP h),h1,h2,bp (l:=r.c),hp,jx]
  ·have h2:(nth r.c 0).y≤v:=by omega
   simp[-getElem?_pos,wrap64,GK,T3 (qP h),h1,h2,bp (l:=r.c),hp,jx])
end Go.Proofs.YtmpikpodpgnjhaaGreat
namespace Go.Proofs.YtmpikpodpgnjhaaGreat
set_option linter.all false
open Go.Vm
theorem T5:∀{p q:List Int},gw p q<0→¬gw q p<0
 |[],[],h=>by simp[gw]at h
 |[],_::_,_=>by simp[gw]
 |_::_,[],h=>by simp[gw]at h
 |a::p,b::q,h=>by
  have ih:=T5 (p:=p) (q:=q);simp only[gw]at h ⊢;rcases Int.lt_trichotomy a b with h1|h1|h1
  ·rw[if_neg (by omega),if_pos h1];omega
  ·subst h1
   simp only[Int.lt_irrefl,if_false]at h ⊢;exact ih h
  ·rw[if_neg (by omega),if_pos h1]at h;omega
theorem T6:∀{p q r:List Int},gw p q<0→gw q r<0→gw p r<0
 |[],[],_,h,_=>by simp[gw]at h
 |_::_,[],_,h,_=>by simp[gw]at h
 |_,_::_,[],_,h=>by simp[gw]at h
 |[],_::_,_::_,_,_=>by simp[gw]
 |a::p,b::q,c::r,h,h'=>by
  have ih:=T6 (p:=p) (q:=q) (r:=r);simp only[gw]at h h' ⊢;rcases Int.lt_trichotomy a b with h1|h1|h1
  ·rcases Int.lt_trichotomy b c with h2|h2|h2
   ·rw[if_pos (by omega)];omega
   ·rw[if_pos (by omega)];omega
   ·rw[if_neg (by omega),if_pos h2]at h';omega
  ·subst h1
   simp only[Int.lt_irrefl,if_false]at h;rcases Int.lt_trichotomy a c with h2|h2|h2
   ·rw[if_pos h2];omega
   ·subst h2
    simp only[Int.lt_irrefl,if_false]at h' ⊢;exact ih h h'
   ·rw[if_neg (by omega),if_pos h2]at h';omega
  ·rw[if_neg (by omega),if_pos h1]at h;omega
theorem ahl{a b:Int×Int}{p q:List Int}(h:jI a b p q):¬jI b a q p:=by
 rw[vX]at h ⊢;unfold tT at h ⊢;have:=T5 (p:=p) (q:=q);rcases h with h | ⟨h1,h2,h3⟩
 ·omega
 ·have:=this h3;omega
theorem ahm{a b c:Int×Int}{p q r:List Int}(h:jI a b p q)(h':jI b c q r):jI a c p r:=by
 rw[vX]at h h' ⊢;unfold tT at h h' ⊢;have:=T6 (p:=p) (q:=q) (r:=r);rcases h with h | ⟨h1,h2,h3⟩
 ·omega
 ·rcases h' with h' | ⟨h4,h5,h6⟩
  ·omega
  ·have:=this h3 h6
   omega
theorem T7{a:Int×Int}{p:List Int}:¬jI a a p p:=fun h=>ahl h h
end Go.Proofs.YtmpikpodpgnjhaaGreat
namespace Go.Proofs.YtmpikpodpgnjhaaGreat
set_option linter.all false
open Go.Vm
attribute [local simp] eS eT eQ eR
noncomputable def xn(us:List Un)(ss:List Us)(g:Int):Int :=
 if 6<us.length then 10 else if us.length≠ss.length then 3 else if ¬y7 us ss then 3 else if g<1∨1073741824<g then 1 else 0
theorem ahn(us:List Un)(ss:List Us)(g:Int)(G:List aV):bo F 166 [jZ us,jH ss,i64 g] G=some (i64 (xn us ss g),G) :=
 cg rfl rfl (by
  generalize hE:xn us ss g=E;unfold xn at hE;simp +contextual (disch:=omega) [-getElem?_pos,wrap64,Lx];refine b9 (fun h1=>?_) (fun h1=>gV (fun h2=>?_) (fun h2=>?_))
  ·rw[if_pos (by omega)]at hE
   exact hE
  ·simp[-List.length_eq_zero_iff,-Int.natCast_eq_zero]at h2
   rw[if_neg (by omega),if_pos (by omega)]at hE
   exact hE
  ·simp[-List.length_eq_zero_iff,-Int.natCast_eq_zero]at h2
   have hl:us.length=ss.length:=by omega
   rw[if_neg (by omega),if_neg (by omega)]at hE
   refine go_loop (fun i:Nat=>acE (jH ss) g (jZ us) us.length i G) (fun i=>i≤us.length∧∀j,j<i→fg (nth us j) (nth ss j)) (fun i=>us.length-i) 0 rfl (by simp) ⟨by omega,by omega⟩ ?_
   rintro i ⟨hi,hv⟩;simp +contextual (disch:=omega) [-getElem?_pos,wrap64,SB];refine b9 (fun h3=>?_) (fun h3=>?_)
   ·have h3:i<us.length:=by omega
    by_cases h4:fg (nth us i) (nth ss i)
    ·simp +contextual (disch:=omega) [-getElem?_pos,wrap64,bp (l:=us),bp (l:=ss),uL,h4]
     refine cc (i+1) (by simp) ⟨by omega,fun j hj=>?_⟩ (by omega)
     rcases Nat.lt_or_ge j i with h5|h5
     ·exact hv j h5
     ·rwa [show j=i by omega]
    ·rw[if_pos (fun h=>h4 (h i h3))]at hE
     simp +contextual (disch:=omega) [-getElem?_pos,wrap64,bp (l:=us),bp (l:=ss),uL,h4];exact hE
   ·obtain rfl:i=us.length:=by omega
    rw[if_neg (fun h=>h hv)]at hE;refine gV (fun h5=>?_) (fun h5=>?_)
    ·simp[-List.length_eq_zero_iff,-Int.natCast_eq_zero]at h5
     rw[if_pos (by omega)]at hE
     exact hE
    ·simp[-List.length_eq_zero_iff,-Int.natCast_eq_zero]at h5
     rw[if_neg (by omega)]at hE
     exact hE)
noncomputable def rG(u:Un)(s:Us)(g:Int):List Int:=([0,s.cq]++fk u g).filter fun q=>decide (jw u s q)
theorem T8{u:Un}{s:Us}{g q:Int}:q∈rG u s g↔q∈py u s g:=by
 rw[Bv];simp only[rG,List.mem_filter,decide_eq_true_eq,List.mem_append,List.mem_cons,List.not_mem_nil,or_false];constructor
 ·rintro⟨(h|h)|h,h2⟩
  ·exact⟨.inr (.inl h),h2⟩
  ·exact⟨.inr (.inr h),h2⟩
  ·exact⟨.inl h,h2⟩
 ·rintro⟨h|h|h,h2⟩
  ·exact⟨.inr h,h2⟩
  ·exact⟨.inl (.inl h),h2⟩
  ·exact⟨.inl (.inr h),h2⟩
theorem aho{u:Un}{s:Us}{g:Int}(h:gC u g=0):(rG u s g).length≤202:=by
 have h1:=MB h;have:(rG u s g).length≤([0,s.cq]++fk u g).length:=List.length_filter_le _ _;simp at this;omega
theorem ahp{u:Un}{s:Us}(hv:fg u s)(g:Int)(G:List aV):bo F 187 [un u,us s,i64 g] G =
  some (if gC u g=0 then .tuple [.slice (some 0) 1 ((rG u s g).map fun n=>[i64 n]),i64 0] else .tuple [.slice (some 0) 1 [],i64 (gC u g)],G) :=
 cg rfl rfl (by
  by_cases he:gC u g=0
  ·have hlen:=MB he
   have hf:mW u g=fk u g:=by simp[mW,he]
   have hc:rG u s g=(0::s.cq::fk u g).filter fun q=>decide (jw u s q):=rfl;rw[if_pos he,hc];generalize hL:(0::s.cq::fk u g)=L;have hLl:L.length=(fk u g).length+2:=by rw[←hL];simp
   have hLm:[i64 0]::[i64 s.cq]::(fk u g).map (fun n=>[i64 n])=L.map fun n=>[i64 n]:=by rw[←hL];rfl
   simp (disch:=omega) [-getElem?_pos,wrap64,GH,Bp,he,hf,hLm];refine go_loop (fun i:Nat=>acY (.slice (some 1039) 1 (((L.take i).filter fun q=>decide (jw u s q)).map fun n=>[i64 n])) (.slice (some 1024) 1 (L.map fun n=>[i64 n])) L.length i u.row s.row L.length ((L.take i).filter fun q=>decide (jw u s q)).length G)
    (fun i=>i≤L.length) (fun i=>L.length-i) 0 rfl (by simp[hLl];omega) (by omega) ?_
   intro i hi;have PN:((L.take i).filter fun q=>decide (jw u s q)).length≤i:=Nat.le_trans (List.length_filter_le _ _) (by simp;omega)
   simp (disch:=omega) [-getElem?_pos,wrap64,SN];refine b9 (fun h1=>?_) (fun h1=>?_)
   ·have h1:i<L.length:=by omega
    have hM:=Mi u s (nth L i) [];by_cases h3:jw u s (nth L i)
    ·have h4:decide (fg u s∧jG u s (nth L i))=true:=decide_eq_true h3
     rw[h4]at hM;have h5:(L.take (i+1)).filter (fun q=>decide (jw u s q))=(L.take i).filter (fun q=>decide (jw u s q))++[nth L i]:=by
      rw[jJ h1,List.filter_append];simp[h3]
     simp (disch:=omega) [-getElem?_pos,wrap64,eB h1,hM];exact cc (i+1) (by rw[h5];simp) (by omega) (by omega)
    ·have h4:decide (fg u s∧jG u s (nth L i))=false:=decide_eq_false h3
     rw[h4]at hM;have h5:(L.take (i+1)).filter (fun q=>decide (jw u s q))=(L.take i).filter (fun q=>decide (jw u s q)):=by
      rw[jJ h1,List.filter_append];simp[h3]
     simp (disch:=omega) [-getElem?_pos,wrap64,eB h1,hM];exact cc (i+1) (by rw[h5];simp) (by omega) (by omega)
   ·obtain rfl:i=L.length:=by omega
    rw[List.take_length]
  ·rw[if_neg he]
   have hf:mW u g=[]:=by simp[mW,he]
   simp (disch:=omega) [-getElem?_pos,wrap64,GH,Bp,he,hf])
noncomputable abbrev Hh(g:Int)(u:Un)(s:Us):List V:=[.slice none 1 ((rG u s g).map fun n=>[i64 n])]
noncomputable def xo(us:List Un)(g:Int):Int:=if y8 us g then 0 else 10
theorem ahs{us:List Un}{ss:List Us}(hl:us.length=ss.length)(hn:us.length≤1000)(hv:y7 us ss)(g:Int)(G:List aV):bo F 167 [jZ us,jH ss,i64 g] G =
  some (.tuple [.slice (some 0) 1 (if xo us g=0 then List.zipWith (Hh g) us ss else []),i64 (xo us g)],G) :=
 cg rfl rfl (by
  generalize hE:xo us g=E;generalize hW:V.tuple [.slice (some 0) 1 (if E=0 then List.zipWith (Hh g) us ss else []),i64 E]=W
  unfold xo at hE;simp (disch:=omega) [-getElem?_pos,wrap64,Ly];refine go_loop (fun i:Nat=>acG (jH ss) g (.slice (some 1035) 1 (List.zipWith (Hh g) (us.take i) (ss.take i))) (jZ us) us.length i i G)
   (fun i=>i≤us.length∧∀j,j<i→gC (nth us j) g=0) (fun i=>us.length-i) 0 rfl (by simp) ⟨by omega,by omega⟩ ?_
  rintro i ⟨hi,hf⟩;simp (disch:=omega) [-getElem?_pos,wrap64,SC];refine b9 (fun h3=>?_) (fun h3=>?_)
  ·have h3:i<us.length:=by omega
   have fW:i<ss.length:=by omega
   have hC:=ahp (hv i h3) g [];by_cases h4:gC (nth us i) g=0
   ·rw[if_pos h4]at hC
    simp (disch:=omega) [-getElem?_pos,wrap64,bp (l:=us),bp (l:=ss),hC];refine cc (i+1) ?_ ⟨by omega,fun j hj=>?_⟩ (by omega)
    ·rw[vV h3 fW];simp
    rcases Nat.lt_or_ge j i with h5|h5
    ·exact hf j h5
    ·rwa [show j=i by omega]
   ·rw[if_neg h4]at hC
    rw[if_neg (fun h=>h4 (h i h3))]at hE;subst hE;simp (disch:=omega) [-getElem?_pos,wrap64,bp (l:=us),bp (l:=ss),hC,h4];exact hW
  ·obtain rfl:i=us.length:=by omega
   rw[if_pos (show y8 us g from hf)]at hE;subst hE;rw[List.take_length,List.take_of_length_le (by omega)]
   simp[←hW])
end Go.Proofs.YtmpikpodpgnjhaaGreat
namespace Go.Proofs.YtmpikpodpgnjhaaGreat
set_option linter.all false
open Go.Vm
def Vd:List Nat→List Nat→Prop
 |[],[]=>True
 |n::ns,d::a=>d<n∧Vd ns a
 |_,_=>False
def pA:List Nat→Nat
 |[]=>1
 |n::ns=>n*pA ns
def rk:List Nat→List Nat→Nat
 |_::ns,d::a=>d*pA ns+rk ns a
 |_,_=>0
def inc:List Nat→List Nat→Option (List Nat)
 |n::ns,d::a=>match inc ns a with
  |some b=>some (d::b)
  |none=>if d+1<n then some ((d+1)::List.replicate a.length 0) else none
 |_,_=>none
theorem Bw:∀{ns a:List Nat},Vd ns a→a.length=ns.length
 |[],[],_=>rfl
 |_::_,_::_,h=>by simp[Bw h.2]
 |[],_::_,h=>h.elim
 |_::_,[],h=>h.elim
theorem vY:∀{ns a:List Nat},Vd ns a→∀i,i<ns.length→nth a i<nth ns i
 |n::ns,d::a,h,i,hi=>by
  cases i with
  |zero=>exact h.1
  |succ i=>exact vY h.2 i (by simpa using hi)
theorem Bx:∀{ns a:List Nat},Vd ns a→rk ns a<pA ns
 |[],[],_=>by simp[rk,pA]
 |n::ns,d::a,h=>by
  have ih:=Bx h.2;have h1:=Nat.mul_le_mul_right (pA ns) (show d+1≤n from h.1);simp only[rk,pA];rw[Nat.succ_mul]at h1;omega
 |[],_::_,h=>h.elim
 |_::_,[],h=>h.elim
theorem T9:∀{ns a b:List Nat},Vd ns a→Vd ns b→rk ns a=rk ns b→a=b
 |[],[],[],_,_,_=>rfl
 |n::ns,d::a,e::b,ha,hb,h=>by
  have h1:=Bx ha.2;have h2:=Bx hb.2;simp only[rk]at h;have hde:d=e:=by
   rcases Nat.lt_trichotomy d e with h3|h3|h3
   ·have:=Nat.mul_le_mul_right (pA ns) (show d+1≤e from h3)
    rw[Nat.succ_mul]at this;omega
   ·exact h3
   ·have:=Nat.mul_le_mul_right (pA ns) (show e+1≤d from h3)
    rw[Nat.succ_mul]at this;omega
  subst hde;rw[T9 ha.2 hb.2 (by omega)]
 |[],_::_,_,h,_,_=>h.elim
 |[],[],_::_,_,h,_=>h.elim
 |_::_,[],_,h,_,_=>h.elim
 |_::_,_::_,[],_,h,_=>h.elim
theorem MG:∀{ns:List Nat} {k:Nat},rk ns (List.replicate k 0)=0
 |[],k=>by cases k<;>rfl
 |_::ns,0=>rfl
 |_::ns,k+1=>by simp[List.replicate_succ,rk,MG]
theorem MH:∀{ns:List Nat},(∀n∈ns,0<n)→Vd ns (List.replicate ns.length 0)
 |[],_=>trivial
 |n::ns,h=>⟨h n (by simp),MH fun m hm=>h m (by simp[hm])⟩
theorem Ua:∀{ns a:List Nat},Vd ns a→match inc ns a with
  |none=>rk ns a+1=pA ns
  |some b=>Vd ns b∧rk ns b=rk ns a+1
 |[],[],_=>by simp[inc,rk,pA]
 |n::ns,d::a,h=>by
  have ih:=Ua h.2;have hl:=Bw h.2;unfold inc;cases hi:inc ns a with
  |some b =>
   rw[hi]at ih;simp only at ih ⊢;exact⟨⟨h.1,ih.1⟩,by simp only[rk];omega⟩
  |none =>
   rw[hi]at ih;simp only at ih ⊢;have hp:∀m∈ns,0<m:=fun m hm=>by
    obtain⟨i,hi,rfl⟩:=Bt hm;have:=vY h.2 i hi;omega
   by_cases hd:d+1<n
   ·simp only[hd,if_true]
    refine⟨⟨hd,by rw[hl];exact MH hp⟩,?_⟩
    simp only[rk,MG];rw[Nat.succ_mul];omega
   ·simp only[hd,if_false]
    have:n=d+1:=by have:=h.1;omega
    subst this;simp only[rk,pA];rw[Nat.succ_mul];omega
 |[],_::_,h=>h.elim
 |_::_,[],h=>h.elim
theorem MI:∀{ns a:List Nat},Vd ns a→(∀j,j<ns.length→nth a j+1=nth ns j)→inc ns a=none
 |[],[],_,_=>rfl
 |n::ns,d::a,h,hm=>by
  have ih:=MI h.2 fun j hj=>hm (j+1) (by simpa using hj)
  have h0:=hm 0 (by simp)
  simp only[inc,ih];have:¬d+1<n:=by simp[nth]at h0;omega
  simp[this]
 |[],_::_,h,_=>h.elim
 |_::_,[],h,_=>h.elim
theorem Ub:∀{ns a:List Nat} {i:Nat},Vd ns a→i<ns.length→(∀j,i<j→j<ns.length→nth a j+1=nth ns j)→nth a i+1<nth ns i →
  inc ns a=some (a.take i++(nth a i+1)::List.replicate (ns.length-1-i) 0)
 |n::ns,d::a,0,h,_,hm,bG=>by
  have ih:=MI h.2 fun j hj=>hm (j+1) (by omega) (by simpa using hj)
  have hl:=Bw h.2;have:d+1<n:=by simpa [nth] using bG
  simp only[inc,ih,this,if_true];simp[nth,hl]
 |n::ns,d::a,i+1,h,hi,hm,bG=>by
  have pS:i<ns.length:=by simpa using hi
  have ih:=Ub h.2 pS (fun j h1 h2=>hm (j+1) (by omega) (by simpa using h2)) bG
  simp only[inc,ih];simp[nth];omega
 |[],[],_,_,hi,_,_=>by simp at hi
 |[],_::_,_,h,_,_,_=>h.elim
 |_::_,[],_,h,_,_,_=>h.elim
def eu(R:List (List Int))(a:List Nat):List Int:=List.zipWith (fun o k=>nth o k) R a
def D8:List (List Int)→List Int→Prop
 |[],[]=>True
 |o::R,q::F=>q∈o∧D8 R F
 |_,_=>False
theorem MJ:∀{R:List (List Int)} {a:List Nat},Vd (R.map List.length) a→D8 R (eu R a)
 |[],[],_=>trivial
 |o::R,d::a,h=>⟨qd h.1,MJ h.2⟩
 |[],_::_,h=>h.elim
 |_::_,[],h=>h.elim
theorem MK:∀{R:List (List Int)} {F:List Int},D8 R F→∃a,Vd (R.map List.length) a∧eu R a=F
 |[],[],_=>⟨[],trivial,rfl⟩
 |o::R,q::F,h=>by
  obtain⟨a,h1,h2⟩:=MK h.2;obtain⟨d,h3,h4⟩:=Bt h.1;exact⟨d::a,⟨h3,h1⟩,by simp only[eu,List.zipWith_cons_cons]at h2 ⊢;rw[h2,h4]⟩
 |[],_::_,h=>h.elim
 |_::_,[],h=>h.elim
noncomputable def mD(us:List Un)(ss:List Us)(g:Int):List (List Int):=List.zipWith (fun u s=>rG u s g) us ss
theorem D9{g:Int}:∀{us:List Un} {ss:List Us} {F:List Int},us.length=ss.length→(D8 (mD us ss g) F↔lN g us ss F)
 |[],[],[],_=>Iff.rfl
 |[],[],_::_,_=>Iff.rfl
 |[],_::_,_,h=>by simp at h
 |_::_,[],_,h=>by simp at h
 |_::_,_::_,[],_=>Iff.rfl
 |u::us,s::ss,q::F,h=>by
  have ih:=D9 (g:=g) (us:=us) (ss:=ss) (F:=F) (by simpa using h)
  show(q∈rG u s g∧D8 (mD us ss g) F)↔(q∈py u s g∧lN g us ss F);rw[T8,ih]
theorem ahu{u:Un}{s:Us}{g:Int}(hv:fg u s):0<(rG u s g).length:=by
 have:s.cq∈rG u s g:=by
  rw[T8,Bv];refine⟨.inr (.inr rfl),hv,?_⟩;obtain⟨hc,h1,h2⟩:=hv;unfold jG;split
  ·rename_i h;rw[h];intro h3;omega
  ·rename_i h
   rcases h2 with h2 | ⟨h2,h3⟩
   ·exact absurd h2 h
   ·exact⟨h2,fun h4=>h h4.1,h3⟩
 exact List.length_pos_of_mem this
def Kn(us:List Un)(ss:List Us)(R:List (List Int))(release:Int)(r:Nat):Option (List Int)→Prop
 |none=>∀b,Vd (R.map List.length) b→rk (R.map List.length) b<r→release<(eu R b).sum
 |some F=>(∃b,Vd (R.map List.length) b∧eu R b=F∧F.sum≤release) ∧
   ∀b,Vd (R.map List.length) b→rk (R.map List.length) b<r→(eu R b).sum≤release→¬jI (iD us (eu R b),iE ss (eu R b)) (iD us F,iE ss F) (eu R b) F
noncomputable def sN(us:List Un)(ss:List Us)(release:Int)(P:List Int):Option (List Int)→Option (List Int)
 |none=>if P.sum≤release then some P else none
 |some F=>if P.sum≤release then (if jI (iD us P,iE ss P) (iD us F,iE ss F) P F then some P else some F) else some F
theorem ahv{us:List Un}{ss:List Us}{R:List (List Int)}{release:Int}{a:List Nat}(ha:Vd (R.map List.length) a){best:Option (List Int)}(h:Kn us ss R release (rk (R.map List.length) a) best) :
  Kn us ss R release (rk (R.map List.length) a+1) (sN us ss release (eu R a) best):=by
 have split:∀b,Vd (R.map List.length) b→rk (R.map List.length) b<rk (R.map List.length) a+1→rk (R.map List.length) b<rk (R.map List.length) a∨b=a:=fun b hb bG=>by
  rcases Nat.lt_or_ge (rk (R.map List.length) b) (rk (R.map List.length) a) with h1|h1
  ·exact .inl h1
  ·exact .inr (T9 hb ha (by omega))
 cases best with
 |none =>
  unfold sN;by_cases hs:(eu R a).sum≤release
  ·simp only[hs,if_true]
   refine⟨⟨a,ha,rfl,hs⟩,fun b hb bG tW=>?_⟩;rcases split b hb bG with h1|rfl
   ·have:=h b hb h1;omega
   ·exact T7
  ·simp only[hs,if_false]
   intro b hb bG;rcases split b hb bG with h1|rfl
   ·exact h b hb h1
   ·omega
 |some F =>
  obtain⟨h1,h2⟩:=h;unfold sN;by_cases hs:(eu R a).sum≤release
  ·simp only[hs,if_true]
   by_cases hb:jI (iD us (eu R a),iE ss (eu R a)) (iD us F,iE ss F) (eu R a) F
   ·simp only[hb,if_true]
    refine⟨⟨a,ha,rfl,hs⟩,fun b mN bG tW=>?_⟩;rcases split b mN bG with h3|rfl
    ·exact fun h4=>h2 b mN h3 tW (ahm h4 hb)
    ·exact T7
   ·simp only[hb,if_false]
    refine⟨h1,fun b mN bG tW=>?_⟩;rcases split b mN bG with h3|rfl
    ·exact h2 b mN h3 tW
    ·exact hb
  ·simp only[hs,if_false]
   refine⟨h1,fun b mN bG tW=>?_⟩;rcases split b mN bG with h3|rfl
   ·exact h2 b mN h3 tW
   ·omega
theorem Uc{us:List Un}{ss:List Us}{g release:Int}(hl:us.length=ss.length){best:Option (List Int)}(h:Kn us ss (mD us ss g) release (pA ((mD us ss g).map List.length)) best) :
  match best with
  |none=>∀F,lN g us ss F→release<F.sum
  |some F=>zB g us ss release F:=by
 cases best with
 |none =>
  intro F hF;obtain⟨b,hb,rfl⟩:=MK ((D9 hl).2 hF);exact h b hb (Bx hb)
 |some F =>
  obtain⟨⟨b,hb,e,hs⟩,h2⟩:=h;refine⟨?_,hs,fun E hE hEs=>?_⟩
  ·rw[←e];exact(D9 hl).1 (MJ hb)
  ·obtain⟨c,hc,rfl⟩:=MK ((D9 hl).2 hE)
   exact h2 c hc (Bx hc) hEs
end Go.Proofs.YtmpikpodpgnjhaaGreat
namespace Go.Proofs.YtmpikpodpgnjhaaGreat
set_option linter.all false
open Go.Vm
attribute [local simp] eS eT eQ eR
abbrev Ea(R:List (List Int)):V:=.slice none 1 (R.map fun o=>[ints o])
def rb(best:Option (List Int)):V:=match best with
 |none=>.aK
 |some F=>ints F
noncomputable def rv(us:List Un)(ss:List Us)(best:Option (List Int)):List V:=match best with
 |none=>[i64 0,i64 0]
 |some F=>[i64 (iD us F),i64 (iE ss F)]
def iF(a:List Nat):List V:=dS (a.map fun d:Nat=>(d:Int))
def ob(o:Option (List V)):List (Nat×List V):=match o with
 |none=>[]
 |some c=>[(56,c)]
@[simp] theorem ML{best:Option (List Int)}{d:Nat}:(rb best).cu d=false:=by cases best<;>rfl
@[simp] theorem ao4{us:List Un}{ss:List Us}{best:Option (List Int)}{d:Nat}:((rv us ss best).all fun v => !v.cI d)=true:=by cases best<;>rfl
@[simp] theorem ao5{a:List Nat}{d:Nat}:((iF a).all fun v => !v.cI d)=true:=Zm
@[simp] theorem ao6{o:Option (List V)}:tC 56 (ob o)=[]:=by cases o<;>rfl
@[simp] theorem ao7:ob none=[]:=rfl
@[simp] theorem ao8{c:List V}:ob (some c)=[(56,c)]:=rfl
@[simp] theorem ao9{o:Option (List V)}:kp (Go.Vm.look 56 (ob o)) 56 []=ob o:=by cases o<;>rfl
theorem By{a:List Nat}{i:Nat}(h:i<a.length):(iF a)[i]?=some (i64 ((nth a i:Nat):Int)):=by
 have:=kT (l:=a.map fun d:Nat=>(d:Int)) (i:=i) (by simpa using h)
 rw[uO h]at this;exact this
@[simp] theorem apa{a:List Nat}:(iF a).length=a.length:=by simp[iF]
theorem Eb{a:List Nat}{i d:Nat}:(iF a).set i (i64 (d:Int))=iF (a.set i d):=by
 simp[iF,List.map_set]
theorem ahx{α:Type}[Inhabited α]{l m:List α}{i:Nat}(h:l.length≤i):nth (l++m) i=nth m (i-l.length):=by
 simp[nth,List.getElem?_append_right h]
theorem Bz{α:Type}[Inhabited α]{l:List α}{i k:Nat}(h:i<k):nth (l.take k) i=nth l i:=by
 simp[nth,List.getElem?_take,h]
theorem ahy{n i:Nat}:nth (List.replicate n (0:Int)) i=0:=by
 simp only[nth,List.getD,List.getElem?_replicate];split<;>rfl
theorem Ud{l:List Int}{B:Int}(h:∀x∈l,0≤x∧x≤B):∀j:Nat,j≤l.length→0≤(l.take j).sum∧(l.take j).sum≤B*j
 |0,_=>by simp
 |j+1,hj=>by
  have ih:=Ud h j (by omega)
  have:=h _ (qd (show j<l.length from hj));rw[jJ hj];simp only[List.sum_append,List.sum_cons,List.sum_nil];have e:B*((j+1:Nat):Int)=B*j+B:=by
   rw[show((j+1:Nat):Int)=(j:Int)+1 from rfl,Int.mul_add,Int.mul_one]
  omega
theorem Ue{R:List (List Int)}{a:List Nat}(h:a.length=R.length):(eu R a).length=R.length:=by simp[eu,h]
theorem ahz{R:List (List Int)}{a:List Nat}{us:List Un}{ss:List Us}{release:Int}{fd:Bool}{best:Option (List Int)}{G:List aV}{K:cH}(hn:R.length≤6)(ha:Vd (R.map List.length) a)
  (hb:∀o∈R,∀q∈o,0≤q∧q≤1073741824)
  (hK:∀z,K (.exit 2) ⟨[(0,jZ us),(1,jH ss),(3,i64 release),(11,Ea R),(13,.bool fd),(14,rb best),(15,.bK 15 0),(16,.b0 53 1 R.length),(17,.b0 56 1 R.length),(18,i64 (eu R a).sum),(57,.b0 53 1 R.length),(58,i64 R.length),(59,i64 R.length),(60,z)],
   [(15,rv us ss best),(53,iF a),(56,dS (eu R a))],[],G⟩) :
  go (bo F) RY (RZ (jZ us) (jH ss) release (Ea R) fd (rb best) R.length R.length 0 R.length R.length 0 (rv us ss best) (iF a) (dS (List.replicate R.length 0)) G) K:=by
 have pW:=Bw ha;simp only[List.length_map]at pW;have lD:=Ue pW;have Uf:∀x∈eu R a,0≤x∧x≤1073741824:=by
  intro x hx;obtain⟨i,hi,rfl⟩:=Bt hx;rw[lD]at hi;have h1:nth (eu R a) i=nth (nth R i) (nth a i):=Bu hi (by omega)
  have h2:=vY ha i (by simpa using hi)
  rw[uO hi]at h2;rw[h1];exact hb _ (qd hi) _ (qd h2)
 refine go_loop (fun j:Nat=>RZ (jZ us) (jH ss) release (Ea R) fd (rb best) R.length R.length ((eu R a).take j).sum R.length R.length j (rv us ss best) (iF a) (dS ((eu R a).take j++List.replicate (R.length-j) 0)) G)
  (fun j=>j≤R.length) (fun j=>R.length-j) 0 rfl (by simp) (by omega) ?_
 intro j hj;have hs:=Ud Uf j (by omega)
 simp (disch:=omega) [-getElem?_pos,wrap64,RX];refine b9 (fun h1=>?_) (fun h1=>?_)
 ·have h1:j<R.length:=by omega
  have h2:j<a.length:=by omega
  have h3:=vY ha j (by simpa using h1)
  rw[uO h1]at h3;have h4:nth (eu R a) j=nth (nth R j) (nth a j):=Bu h1 h2;have h5:=Uf _ (qd (show j<(eu R a).length by omega))
  have h6:(dS ((eu R a).take j++List.replicate (R.length-j) 0))[j]?=some (i64 0):=by
   rw[kT (by simp;omega),ahx (by simp;omega),ahy]
  have e2:((eu R a).take j++List.replicate (R.length-j) (0:Int)).set j (nth (nth R j) (nth a j))=(eu R a).take (j+1)++List.replicate (R.length-(j+1)) 0:=by
   rw[List.set_append_right _ _ (by simp;omega),jJ (show j<(eu R a).length by omega),h4]
   have:j-((eu R a).take j).length=0:=by simp;omega
   rw[this];obtain⟨m,hm⟩:∃m,R.length-j=m+1:=⟨R.length-j-1,by omega⟩
   rw[hm,List.replicate_succ,List.set_cons_zero,show R.length-(j+1)=m by omega]
   simp
  have e3:((eu R a).take (j+1)).sum=((eu R a).take j).sum+nth (nth R j) (nth a j):=by
   rw[jJ (show j<(eu R a).length by omega),h4];simp
  have h7:(dS ((eu R a).take (j+1)++List.replicate (R.length-(j+1)) 0))[j]?=some (i64 (nth (nth R j) (nth a j))):=by
   rw[kT (by simp;omega),og (by simp;omega),Bz (by omega),h4]
  rw[h4]at h5;simp (disch:=omega) [-getElem?_pos,wrap64,By h2,bp (l:=R),eB h3,h6,e2,h7];exact cc (j+1) (by simp[e3]) (by omega) (by omega)
 ·obtain rfl:j=R.length:=by omega
  rw[List.take_of_length_le (by omega)]
  simpa using hK _
noncomputable abbrev BA(us:List Un)(ss:List Us)(R:List (List Int))(release:Int)(fd:Bool)(best:Option (List Int))(x:Int)(a:List Nat)(o:Option (List V))(G:List aV):St :=
 ⟨[(0,jZ us),(1,jH ss),(3,i64 release),(11,Ea R),(13,.bool fd),(14,rb best),(15,.bK 15 0),(16,.b0 53 1 R.length),(26,i64 x)],(15,rv us ss best)::(53,iF a)::ob o,[],G⟩
theorem Hj{R:List (List Int)}{a:List Nat}{us:List Un}{ss:List Us}{release:Int}{fd:Bool}{best:Option (List Int)}{o:Option (List V)}{G:List aV}{K:cH}(hn:R.length≤6)(ha:Vd (R.map List.length) a)(hlen:∀o∈R,o.length≤1000)
  (h0:∀z b,inc (R.map List.length) a=none→K (.exit 4) { BA us ss R release fd best (-1) b o G with env:=(BA us ss R release fd best (-1) b o G).env++[(124,z)] })
  (h1:∀z (i:Nat),i<R.length→nth a i+1<nth (R.map List.length) i→inc (R.map List.length) a=some (a.take i++(nth a i+1)::List.replicate (R.length-1-i) 0) →
   K (.exit 4) { BA us ss R release fd best i (a.take (i+1)++List.replicate (R.length-1-i) 0) o G with env:=(BA us ss R release fd best i a o G).env++[(124,z)] }) :
  go (bo F) R0 (BA us ss R release fd best (R.length-1) a o G) K:=by
 have pW:=Bw ha;simp only[List.length_map]at pW;refine go_loop (fun k:Nat=>BA us ss R release fd best (k-1) (a.take k++List.replicate (R.length-k) 0) o G)
  (fun k=>k≤R.length∧∀j,k≤j→j<R.length→nth a j+1=nth (R.map List.length) j) (fun k=>k) R.length rfl (by rw[List.take_of_length_le (by omega)];simp) ⟨by omega,by omega⟩ ?_
 rintro k ⟨hk,hm⟩;by_cases FT:k=0
 ·subst FT
  simp +contextual (disch:=omega) [-getElem?_pos,wrap64,K4];exact h0 _ _ (MI ha fun j hj=>hm j (by omega) (by simpa using hj))
 ·have e1:0≤(k:Int)-1:=by omega
  have e2:((k:Int)-1).toNat=k-1:=by omega
  have h3:k-1<R.length:=by omega
  have h4:(iF (a.take k++List.replicate (R.length-k) 0))[k-1]?=some (i64 ((nth a (k-1):Nat):Int)):=by
   rw[By (by simp;omega),og (by simp;omega),Bz (by omega)]
  have h5:=hlen _ (qd h3);have h6:=vY ha (k-1) (by simpa using h3)
  rw[uO h3]at h6;have h7:(iF (a.take k++List.replicate (R.length-k) 0)).set (k-1) (i64 0)=iF (a.take (k-1)++List.replicate (R.length-(k-1)) 0):=by
   have:=Eb (a:=a.take k++List.replicate (R.length-k) 0) (i:=k-1) (d:=0);rw[show(i64 ((0:Nat):Int))=i64 0 from rfl]at this;rw[this];congr 1;obtain⟨m,rfl⟩:∃m,k=m+1:=⟨k-1,by omega⟩
   rw[jJ (show m<a.length by omega)]
   have hl:(a.take m).length=m:=by simp;omega
   rw[List.append_assoc,Nat.add_sub_cancel,List.set_append_right _ _ (by omega),hl,Nat.sub_self]
   simp only[List.singleton_append,List.set_cons_zero];rw[show R.length-m=(R.length-(m+1))+1 by omega,List.replicate_succ]
  have h8:nth (R.map List.length) (k-1)=(nth R (k-1)).length:=uO h3;simp +contextual (disch:=omega) [-getElem?_pos,wrap64,K4,e1,e2,h4,bp (l:=R)];refine b9 (fun h9=>?_) (fun h9=>?_)
  ·have fW:k≤(iF (a.take k++List.replicate (R.length-k) 0)).length:=by simp;omega
   simp +contextual (disch:=omega) [-getElem?_pos,wrap64,fW,h7];refine cc (k-1) ?_ ⟨by omega,fun j a1 a2=>?_⟩ (by omega)
   ·rw[show(((k-1:Nat)):Int)=(k:Int)-1 by omega]
    simp
   ·rcases Nat.lt_or_ge j k with ko|ko
    ·obtain rfl:j=k-1:=by omega
     rw[h8];omega
    ·exact hm j ko a2
  ·have bG:nth a (k-1)+1<nth (R.map List.length) (k-1):=by rw[h8];omega
   have hi:=Ub (i:=k-1) ha (by simpa using h3) (fun j a1 a2=>hm j (by omega) (by simpa using a2)) bG
   simp only[List.length_map]at hi;have:=h1 (.bool (decide (((nth a (k-1):Nat):Int)=((nth R (k-1)).length:Int)-1))) (k-1) h3 bG hi;rw[show(((k-1:Nat)):Int)=(k:Int)-1 by omega,show k-1+1=k by omega,show R.length-1-(k-1)=R.length-k by omega]at this
   exact this
theorem Ug{us:List Un}{ss:List Us}{g:Int}(h:us.length=ss.length):(mD us ss g).length=us.length:=by simp[mD,h]
theorem ahA(us:List Un)(ss:List Us)(g:Int):List.zipWith (Hh g) us ss=(mD us ss g).map fun o=>[ints o]:=by
 rw[mD,List.map_zipWith]
theorem ahB{us:List Un}{ss:List Us}{g:Int}(h:He us ss g){o:List Int}(ho:o∈mD us ss g):(0<o.length∧o.length≤1000)∧∀q∈o,0≤q∧q≤1073741824:=by
 have hl:=h.len;obtain⟨i,hi,rfl⟩:=Bt ho;rw[Ug hl]at hi;have e:nth (mD us ss g) i=rG (nth us i) (nth ss i) g:=Bu hi (by omega)
 rw[e];have h1:=aho (s:=nth ss i) (h.TG i hi);refine⟨⟨ahu (h.valid i hi),by omega⟩,fun q hq=>?_⟩
 simp only[rG,List.mem_filter,decide_eq_true_eq]at hq;exact Ha hq.2
noncomputable abbrev Hk(us:List Un)(ss:List Us)(R:List (List Int))(release:Int)(best:Option (List Int))(a:List Nat)(o:Option (List V))(G:List aV):St :=
 ⟨[(0,jZ us),(1,jH ss),(3,i64 release),(11,Ea R),(13,.bool best.isSome),(14,rb best),(15,.bK 15 0),(16,.b0 53 1 R.length)],(15,rv us ss best)::(53,iF a)::ob o,[],G⟩
theorem ahC{R:List (List Int)}{us:List Un}{ss:List Us}{release:Int}{G:List aV}{K:cH}(hn:R.length≤6)(tv:us.length≤6)(Uh:R.length=us.length)(sO:∀o∈R,(0<o.length∧o.length≤1000)∧∀q∈o,0≤q∧q≤1073741824)
  (oa:∀a,Vd (R.map List.length) a→y6 us ss (eu R a)=some ((eu R a).sum,iD us (eu R a),iE ss (eu R a)))
  (hz:Vd (R.map List.length) (List.replicate R.length 0))
  (hK:∀best b o z,Kn us ss R release (pA (R.map List.length)) best→K (.exit 0) { Hk us ss R release best b o G with env:=(Hk us ss R release best b o G).env++[(26,i64 (-1)),(131,z)] }) :
  go (bo F) R2 (Hk us ss R release none (List.replicate R.length 0) none G) K:=by
 refine go_loop (fun x:List Nat×Option (List Int)×Option (List V)=>Hk us ss R release x.2.1 x.1 x.2.2 G) (fun x=>Vd (R.map List.length) x.1∧Kn us ss R release (rk (R.map List.length) x.1) x.2.1)
  (fun x=>pA (R.map List.length)-rk (R.map List.length) x.1) (List.replicate R.length 0,none,none) rfl (by simp[rb]) ⟨hz,by simp only[MG];intro b _ h;omega⟩ ?_
 rintro⟨a,best,o⟩ ⟨ha,jn⟩;simp only at ha jn;have hrk:=Bx ha;have pW:=Bw ha;simp only[List.length_map]at pW;have lD:=Ue pW;have g6:=Ua ha;replace jn:=ahv ha jn;have hva:=oa a ha;have hV:=TC us ss (eu R a) (by omega) []
 rw[hva]at hV;simp only[Br]at hV;have MM:(List.replicate R.length [V.int .i64 0]).flatten=dS (List.replicate R.length 0):=by
  rw[dS];simp
 simp (disch:=omega) [-getElem?_pos,wrap64,R1,MM];refine ahz hn ha (fun o ho=>(sO o ho).2) fun z=>?_;simp (disch:=omega) [-getElem?_pos,wrap64,wrap64];refine b9 (fun h1=>?_) (fun h1=>?_)
 ·have MN:lz [none] (chunks 1 (dS (eu R a)) 0 R.length)=some ((eu R a).map fun n=>[V.int .i64 n]):=J7 (by omega)
  cases best with
  |none =>
   have vm:sN us ss release (eu R a) none=some (eu R a):=by simp[sN,h1]
   rw[vm]at jn;simp (disch:=omega) [-getElem?_pos,wrap64,MN,hV,rb,rv];refine Hj (best:=some (eu R a)) (o:=none) (fd:=true) hn ha (fun o ho=>(sO o ho).1.2) (fun z b he=>?_) (fun z i hi bG he=>?_)
   ·rw[he]at g6
    simp only at g6;rw[g6]at jn;simp (disch:=omega) [-getElem?_pos,wrap64,rb,rv];exact hK _ b none _ jn
   ·rw[he]at g6
    simp only at g6;rw[←g6.2]at jn;have q1:(iF (a.take (i+1)++List.replicate (R.length-1-i) 0))[i]?=some (i64 ((nth a i:Nat):Int)):=by
     rw[By (by simp;omega),og (by simp;omega),Bz (by omega)]
    have q2:=vY ha i (by simpa using hi)
    rw[uO hi]at q2;have q3:=(sO _ (qd hi)).1.2;have q7:¬(i:Int)<0:=by omega
    have q4:i<a.length:=by omega
    have q5:(iF (a.take (i+1)++List.replicate (R.length-1-i) 0)).set i (i64 (((nth a i:Nat):Int)+1))=iF (a.take i++(nth a i+1)::List.replicate (R.length-1-i) 0):=by
     have:=Eb (a:=a.take (i+1)++List.replicate (R.length-1-i) 0) (i:=i) (d:=nth a i+1);rw[show(i64 ((nth a i+1:Nat):Int))=i64 (((nth a i:Nat):Int)+1) from rfl]at this;rw[this,jJ q4,List.append_assoc,List.set_append_right _ _ (by simp;omega)]
     have:(a.take i).length=i:=by simp;omega
     rw[this,Nat.sub_self];rfl
    have q6:i<(iF (a.take (i+1)++List.replicate (R.length-1-i) 0)).length:=by simp;omega
    simp (disch:=omega) [-getElem?_pos,wrap64,q1,q5,q6,q7,rb,rv];exact cc (a.take i++(nth a i+1)::List.replicate (R.length-1-i) 0,some (eu R a),none) (by simp[rb,rv]) ⟨g6.1,jn⟩ (by simp only;omega)
  |some E =>
   by_cases vW:jI (iD us (eu R a),iE ss (eu R a)) (iD us E,iE ss E) (eu R a) E
   ·have vm:sN us ss release (eu R a) (some E)=some (eu R a):=by simp[sN,h1,vW]
    rw[vm]at jn;have hB:=TB (iD us (eu R a),iE ss (eu R a)) (iD us E,iE ss E) (eu R a) E (by omega) []
    rw[decide_eq_true vW]at hB;simp (disch:=omega) [-getElem?_pos,wrap64,MN,hV,rb,rv,hB];refine Hj (best:=some (eu R a)) (o:=none) (fd:=true) hn ha (fun o ho=>(sO o ho).1.2) (fun z b he=>?_) (fun z i hi bG he=>?_)
    ·rw[he]at g6
     simp only at g6;rw[g6]at jn;simp (disch:=omega) [-getElem?_pos,wrap64,rb,rv];exact hK _ b none _ jn
    ·rw[he]at g6
     simp only at g6;rw[←g6.2]at jn;have q1:(iF (a.take (i+1)++List.replicate (R.length-1-i) 0))[i]?=some (i64 ((nth a i:Nat):Int)):=by
      rw[By (by simp;omega),og (by simp;omega),Bz (by omega)]
     have q2:=vY ha i (by simpa using hi)
     rw[uO hi]at q2;have q3:=(sO _ (qd hi)).1.2;have q7:¬(i:Int)<0:=by omega
     have q4:i<a.length:=by omega
     have q5:(iF (a.take (i+1)++List.replicate (R.length-1-i) 0)).set i (i64 (((nth a i:Nat):Int)+1))=iF (a.take i++(nth a i+1)::List.replicate (R.length-1-i) 0):=by
      have:=Eb (a:=a.take (i+1)++List.replicate (R.length-1-i) 0) (i:=i) (d:=nth a i+1);rw[show(i64 ((nth a i+1:Nat):Int))=i64 (((nth a i:Nat):Int)+1) from rfl]at this;rw[this,jJ q4,List.append_assoc,List.set_append_right _ _ (by simp;omega)]
      have:(a.take i).length=i:=by simp;omega
      rw[this,Nat.sub_self];rfl
     have q6:i<(iF (a.take (i+1)++List.replicate (R.length-1-i) 0)).length:=by simp;omega
     simp (disch:=omega) [-getElem?_pos,wrap64,q1,q5,q6,q7,rb,rv];exact cc (a.take i++(nth a i+1)::List.replicate (R.length-1-i) 0,some (eu R a),none) (by simp[rb,rv]) ⟨g6.1,jn⟩ (by simp only;omega)
   ·have vm:sN us ss release (eu R a) (some E)=some E:=by simp[sN,h1,vW]
    rw[vm]at jn;have hB:=TB (iD us (eu R a),iE ss (eu R a)) (iD us E,iE ss E) (eu R a) E (by omega) []
    rw[decide_eq_false vW]at hB;simp (disch:=omega) [-getElem?_pos,wrap64,MN,hV,rb,rv,hB];refine Hj (best:=some E) (o:=none) (fd:=true) hn ha (fun o ho=>(sO o ho).1.2) (fun z b he=>?_) (fun z i hi bG he=>?_)
    ·rw[he]at g6
     simp only at g6;rw[g6]at jn;simp (disch:=omega) [-getElem?_pos,wrap64,rb,rv];exact hK _ b none _ jn
    ·rw[he]at g6
     simp only at g6;rw[←g6.2]at jn;have q1:(iF (a.take (i+1)++List.replicate (R.length-1-i) 0))[i]?=some (i64 ((nth a i:Nat):Int)):=by
      rw[By (by simp;omega),og (by simp;omega),Bz (by omega)]
     have q2:=vY ha i (by simpa using hi)
     rw[uO hi]at q2;have q3:=(sO _ (qd hi)).1.2;have q7:¬(i:Int)<0:=by omega
     have q4:i<a.length:=by omega
     have q5:(iF (a.take (i+1)++List.replicate (R.length-1-i) 0)).set i (i64 (((nth a i:Nat):Int)+1))=iF (a.take i++(nth a i+1)::List.replicate (R.length-1-i) 0):=by
      have:=Eb (a:=a.take (i+1)++List.replicate (R.length-1-i) 0) (i:=i) (d:=nth a i+1);rw[show(i64 ((nth a i+1:Nat):Int))=i64 (((nth a i:Nat):Int)+1) from rfl]at this;rw[this,jJ q4,List.append_assoc,List.set_append_right _ _ (by simp;omega)]
      have:(a.take i).length=i:=by simp;omega
      rw[this,Nat.sub_self];rfl
     have q6:i<(iF (a.take (i+1)++List.replicate (R.length-1-i) 0)).length:=by simp;omega
     simp (disch:=omega) [-getElem?_pos,wrap64,q1,q5,q6,q7,rb,rv];exact cc (a.take i++(nth a i+1)::List.replicate (R.length-1-i) 0,some E,none) (by simp[rb,rv]) ⟨g6.1,jn⟩ (by simp only;omega)
 ·have vm:sN us ss release (eu R a) best=best:=by
   cases best with
   |none=>simp[sN,h1]
   |some F=>simp[sN,h1]
  rw[vm]at jn;refine Hj (best:=best) (o:=(some (dS (eu R a)))) (fd:=best.isSome) hn ha (fun o ho=>(sO o ho).1.2) (fun z b he=>?_) (fun z i hi bG he=>?_)
  ·rw[he]at g6
   simp only at g6;rw[g6]at jn;simp (disch:=omega) [-getElem?_pos,wrap64,ML];exact hK _ b (some (dS (eu R a))) _ jn
  ·rw[he]at g6
   simp only at g6;rw[←g6.2]at jn;have q1:(iF (a.take (i+1)++List.replicate (R.length-1-i) 0))[i]?=some (i64 ((nth a i:Nat):Int)):=by
    rw[By (by simp;omega),og (by simp;omega),Bz (by omega)]
   have q2:=vY ha i (by simpa using hi)
   rw[uO hi]at q2;have q3:=(sO _ (qd hi)).1.2;have q7:¬(i:Int)<0:=by omega
   have q4:i<a.length:=by omega
   have q5:(iF (a.take (i+1)++List.replicate (R.length-1-i) 0)).set i (i64 (((nth a i:Nat):Int)+1))=iF (a.take i++(nth a i+1)::List.replicate (R.length-1-i) 0):=by
    have:=Eb (a:=a.take (i+1)++List.replicate (R.length-1-i) 0) (i:=i) (d:=nth a i+1);rw[show(i64 ((nth a i+1:Nat):Int))=i64 (((nth a i:Nat):Int)+1) from rfl]at this;rw[this,jJ q4,List.append_assoc,List.set_append_right _ _ (by simp;omega)]
    have:(a.take i).length=i:=by simp;omega
    rw[this,Nat.sub_self];rfl
   have q6:i<(iF (a.take (i+1)++List.replicate (R.length-1-i) 0)).length:=by simp;omega
   simp (disch:=omega) [-getElem?_pos,wrap64,q1,q5,q6,q7,ML];exact cc (a.take i++(nth a i+1)::List.replicate (R.length-1-i) 0,best,(some (dS (eu R a)))) (by simp[ML]) ⟨g6.1,jn⟩ (by simp only;omega)
theorem ahE(us:List Un)(ss:List Us)(g release:Int)(G:List aV):∃t,bo F 120 [jZ us,jH ss,i64 g,i64 release] G=some (.tuple [.slice t 1 ((g9 us ss g release).map fun n=>[i64 n]),i64 (j0 us ss g release)],G):=by
 suffices h:∀Q:V→Prop,(∀t,Q (.tuple [.slice t 1 ((g9 us ss g release).map fun n=>[i64 n]),i64 (j0 us ss g release)]))→iV (bo F) 120 [jZ us,jH ss,i64 g,i64 release] G fun v G'=>Q v∧G'=G by
  obtain⟨_,_,h,⟨t,rfl⟩,rfl⟩:=h (fun v=>∃t,v=.tuple [.slice t 1 ((g9 us ss g release).map fun n=>[i64 n]),i64 (j0 us ss g release)]) fun t=>⟨t,rfl⟩;exact⟨t,h⟩
 intro Q hQ;refine ju rfl rfl ?_;have Ec:=ahn us ss g [];by_cases hw:xn us ss g=0
 ·obtain⟨w1,w2,w3,w4⟩:us.length≤6∧us.length=ss.length∧y7 us ss∧(1≤g∧g≤1073741824):=by
   unfold xn at hw;split at hw
   ·cases hw
   ·split at hw
    ·cases hw
    ·split at hw
     ·cases hw
     ·split at hw
      ·cases hw
      ·rename_i a1 a2 a3 a4
       exact⟨by omega,Decidable.of_not_not a2,Decidable.of_not_not a3,by omega⟩
  have oh:pz us ss g release=if g<1∨1073741824<g∨release<0∨1073741824<release then 1 else if 200*g<release then 10 else if ¬y8 us g then 10 else 0:=by
   unfold pz;rw[if_neg (by omega),if_neg (fun h=>h w2),if_neg (fun h=>h w3)]
  by_cases hr:release<0∨1073741824<release
  ·rw[if_pos (by omega)]at oh
   have eL:g9 us ss g release=[]:=by simp[g9,oh]
   have eE:j0 us ss g release=1:=by simp[j0,oh]
   rw[eL,eE]at hQ;have h8:(!decide (0≤release) || !decide (release≤1073741824))=true:=by simp;omega
   simp (disch:=omega) [wrap64,yY,Ec,hw,c5,h8];exact hQ _
  ·rw[if_neg (by omega)]at oh
   have h8:(!decide (0≤release) || !decide (release≤1073741824))=false:=by simp;omega
   by_cases h9:200*g<release
   ·rw[if_pos h9]at oh
    have eL:g9 us ss g release=[]:=by simp[g9,oh]
    have eE:j0 us ss g release=10:=by simp[j0,oh]
    rw[eL,eE]at hQ;simp (disch:=omega) [wrap64,yY,Ec,hw,c5,h8,h9];exact hQ _
   ·rw[if_neg h9]at oh
    have hA:=ahs w2 (by omega) w3 g []
    by_cases hF:y8 us g
    ·rw[if_neg (fun h=>h hF)]at oh
     have hE:xo us g=0:=by simp[xo,hF]
     rw[hE,if_pos rfl,ahA]at hA;have h0:=(MC oh).1;have zF:=TS h0 (left:=release) (by omega)
     have eL:g9 us ss g release=(mb (iY us ss g) release).getD []:=by simp[g9,oh]
     have eE:j0 us ss g release=if mb (iY us ss g) release=none then 9 else 0:=by simp[j0,oh]
     have Uh:=Ug (g:=g) w2;have sO:=fun o (ho:o∈mD us ss g)=>ahB h0 ho;have oa:∀a,Vd ((mD us ss g).map List.length) a→y6 us ss (eu (mD us ss g) a)=some ((eu (mD us ss g) a).sum,iD us (eu (mD us ss g) a),iE ss (eu (mD us ss g) a)):=fun a ha=>TV ((D9 w2).1 (MJ ha));have ahF:Kn us ss (mD us ss g) release (pA ((mD us ss g).map List.length)) none→∀F,lN g us ss F→release<F.sum:=Uc (g:=g) w2;have ahG:∀F,Kn us ss (mD us ss g) release (pA ((mD us ss g).map List.length)) (some F)→zB g us ss release F:=fun F=>Uc (g:=g) w2;generalize hR:mD us ss g=R at *
     have hz:Vd (R.map List.length) (List.replicate R.length 0):=by
      have:=MH (ns:=R.map List.length) fun n hn=>by
       obtain⟨o,ho,rfl⟩:=List.mem_map.1 hn;exact(sO o ho).1.1
      simpa using this
     simp (disch:=omega) [wrap64,yY,Ec,hw,c5,h8,h9,hA];have MM:List.replicate R.length (V.int .i64 0)=iF (List.replicate R.length 0):=by simp[iF,dS]
     rw[MM];refine ahC (us:=us) (ss:=ss) (release:=release) (by omega) w1 Uh sO oa hz fun best b o z jn=>?_
     cases best with
     |none =>
      have hb:=ahF jn;have lh:mb (iY us ss g) release=none:=by
       cases hc:mb (iY us ss g) release with
       |none=>rfl
       |some F =>
        rw[hc]at zF;have:=hb F zF.lN;have:=zF.sum;omega
      rw[eL,eE,lh]at hQ;simp only[if_true,Option.getD_none]at hQ;simp (disch:=omega) [wrap64,rb];exact hQ _
     |some F =>
      have hb:=ahG F jn;have hso:mb (iY us ss g) release=some F:=by
       cases hc:mb (iY us ss g) release with
       |none =>
        rw[hc]at zF;have:=zF F hb.lN;have:=hb.sum;omega
       |some E =>
        rw[hc]at zF;rw[zB.unique zF hb]
      rw[eL,eE,hso]at hQ;simp only[Option.getD_some,reduceCtorEq,if_false]at hQ;simp (disch:=omega) [wrap64,rb];exact hQ _
    ·rw[if_pos hF]at oh
     have hE:xo us g=10:=by simp[xo,hF]
     have eL:g9 us ss g release=[]:=by simp[g9,oh]
     have eE:j0 us ss g release=10:=by simp[j0,oh]
     rw[hE,if_neg (by omega)]at hA
     rw[eL,eE]at hQ;simp (disch:=omega) [wrap64,yY,Ec,hw,c5,h8,h9,hA];exact hQ _
 ·have oh:pz us ss g release=xn us ss g:=by
   unfold xn at hw ⊢;unfold pz;split
   ·rfl
   ·split
    ·rfl
    ·split
     ·rfl
     ·rename_i a1 a2 a3
      simp only[a1,a2,a3,if_false]at hw;split at hw
      ·rw[if_pos (by omega),if_pos (by assumption)]
      ·exact absurd rfl hw
  have ahI:¬pz us ss g release=0:=by rw[oh];exact hw
  have eL:g9 us ss g release=[]:=by simp[g9,ahI]
  have eE:j0 us ss g release=xn us ss g:=by simp[j0,oh,hw]
  rw[eL,eE]at hQ;simp (disch:=omega) [wrap64,yY,Ec,hw];exact hQ _
end Go.Proofs.YtmpikpodpgnjhaaGreat
namespace Go.Proofs.YtmpikpodpgnjhaaGreat
set_option linter.all false
open Go.Vm
end Go.Proofs.YtmpikpodpgnjhaaGreat
