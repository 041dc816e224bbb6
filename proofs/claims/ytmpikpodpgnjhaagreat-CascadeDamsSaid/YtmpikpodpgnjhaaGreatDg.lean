/- Parts of the proof, joined: Dam7, Dob1, Ref4, Ref5, Ref6, Dam8, Dst1, Dsm1, Drn1, Drn2. -/
import Derived.Test.YtmpikpodpgnjhaaGreatDe
namespace Go.Proofs.YtmpikpodpgnjhaaGreat
set_option linter.all false
open Go.Vm
theorem aiL{u:Un}{s:Us}(hv:fg u s)(q:Int):fg u (qh u s q):=by
 have h1:=hv.2.1;unfold qh;split
 ·rename_i hm
  refine⟨hv.1,?_,?_⟩
  ·unfold qJ;simp only;split<;>omega
  ·unfold qJ;simp only
   unfold jG at hm;by_cases hq:q=0
   ·exact .inl hq
   ·rw[if_neg hq]at hm;exact .inr ⟨hm.1,hm.2.2⟩
 ·exact⟨hv.1,by simp,.inl rfl⟩
theorem aiM{lv w:Int}{g:List Gt}{s:List Gs}(hl:g.length=s.length)(hs:v7 g s)(hv:∀i,i<g.length→Gv (nth g i)):∀i,i≤g.length →
  ∀j,j<g.length→0≤nth (bs lv w g s i).1 j∧nth (bs lv w g s i).1 j≤(nth g j).dw:=by
 intro i;induction i with
 |zero =>
  intro _ j hj;have hr:=zJ (hv j hj) (hs j hj);simp only[bs];rw[Ef hj (by omega)]
  omega
 |succ i ih =>
  intro hi j hj;simp only[bs];rw[Es (by rw[nJ hl];omega)]
  split
  ·rename_i e
   subst e;have hr:=zJ (hv i hj) (hs i hj);have ho:=ahZ (lv:=lv) (w:=w) (hv i hj) (hs i hj) (bs lv w g s i).2;omega
  ·exact ih (by omega) j hj
theorem aiN{g:List Gt}{s:List Gs}{lv w:Int}(h:aE g s lv=0)(hw:0≤w∧w≤1073741824):(nI g s lv w).length=g.length∧v7 g (nI g s lv w):=by
 obtain⟨h1,h2,h3,h4,h5⟩:=Ee h;have hE:kB g s lv w=0:=by simp[kB,h,hw]
 have hS:nI g s lv w=mf (bs lv w g s g.length).1 s:=by unfold nI;rw[if_pos hE]
 have hb:=nJ (lv:=lv) (w:=w) h2 g.length;rw[hS];refine⟨by simp[mf];omega,fun i hi=>?_⟩
 unfold mf;rw[Bu (by omega) (by omega)]
 exact aiM h2 h3 h4 g.length (Nat.le_refl _) i hi
theorem aiO{d:Dm}{s:Ds}{m:Int}{n i:Nat}(hi:i<n):nth (nK d s m n) i=qh (nth d.u i) (nth s.u i) (gN d s m i):=by
 unfold nK;simp[nth,hi]
theorem aiP{d:Dm}(h:Dv d){s:Ds}(hf:hH d s){inf los rel:Int}(hi:0≤inf∧inf≤1073741824)(hl:0≤los∧los≤1073741824)(hr:0≤rel∧rel≤1073741824):hH d (lQ d s inf los rel):=by
 have p:=M9 h hf hi hl hr;have hv:=hf.1;have hC:=HA h.r;have hD:=Hz h.r;have hT:=p.T0;have hP:=p.P0;have hs:=p.sum;have hL:=p.L;have qz:jM d (eC s inf los)≤eC s inf los:=by unfold jM;omega
 have hO:qT d s inf los rel=max (eC s inf los-(fT d s inf los rel+kZ d s inf los rel)-jL d) 0:=rfl;have hg:=aiN (ais h hf) p.w0;refine⟨?_,?_,HD,hg.1,fun i hi=>?_,hg.2⟩
 ·show 0≤eC s inf los-(fT d s inf los rel+kZ d s inf los rel)-qT d s inf los rel∧eC s inf los-(fT d s inf los rel+kZ d s inf los rel)-qT d s inf los rel≤jL d
  omega
 ·show 0≤min (fT d s inf los rel+kZ d s inf los rel) 1073741824∧min (fT d s inf los rel+kZ d s inf los rel) 1073741824≤1073741824
  omega
 ·show fg (nth d.u i) (nth (nK d s _ d.u.length) i)
  rw[aiO hi];exact aiL (hf.2.2.2.2.1 i hi) _
def aiQ(a b:Ds)(r:Dr):List Int:=[a.v,b.v,r.inf,r.los,r.tur,r.spi,r.ovr]
def UU(n:Int):Prop:=0≤n∧n≤274877906944
instance {n:Int}:Decidable (UU n):=inferInstanceAs (Decidable (_∧_))
def aiR(a b:Ds)(r:Dr):Prop:=(∀i,i<7→UU (nth (aiQ a b r) i))∧b.v=a.v+r.inf-r.los-r.tur-r.spi-r.ovr
noncomputable instance {a b:Ds} {r:Dr}:Decidable (aiR a b r):=Classical.propDecidable _
end Go.Proofs.YtmpikpodpgnjhaaGreat
namespace Go.Proofs.YtmpikpodpgnjhaaGreat
set_option linter.all false
open Go.Vm
end Go.Proofs.YtmpikpodpgnjhaaGreat
namespace Go.Proofs.YtmpikpodpgnjhaaGreat
set_option linter.all false
open Go.Vm
attribute [local simp] eS eT eQ eR
theorem UW{c:List Pt}(h:Cv c){y x:Int}{i:Nat}(hi:i+1<c.length)(h1:(nth c i).y≤y)(h2:y<(nth c (i+1)).y)(hx:(nth c i).x≤x):od c (i+1) x≤y↔x≤zD c y i:=by
 have u1:=h.up (i+1) (by omega) hi
 simp only[Nat.add_sub_cancel]at u1;have a2:0<(y-(nth c i).y+1)*((nth c (i+1)).x-(nth c i).x):=Int.mul_pos (by omega) (by omega)
 have a3:0≤((nth c (i+1)).y-(nth c i).y)*(x-(nth c i).x):=Int.mul_nonneg (by omega) (by omega)
 unfold od zD;simp only[Nat.add_sub_cancel];rw[Int.tdiv_eq_ediv_of_nonneg a3,Int.tdiv_eq_ediv_of_nonneg (by omega)]
 have e1:((nth c (i+1)).y-(nth c i).y)*(x-(nth c i).x) / ((nth c (i+1)).x-(nth c i).x)<y-(nth c i).y+1↔((nth c (i+1)).y-(nth c i).y)*(x-(nth c i).x)<(y-(nth c i).y+1)*((nth c (i+1)).x-(nth c i).x) :=
  Int.ediv_lt_iff_lt_mul (by omega)
 have e2:x-(nth c i).x≤((y-(nth c i).y+1)*((nth c (i+1)).x-(nth c i).x)-1) / ((nth c (i+1)).y-(nth c i).y)↔(x-(nth c i).x)*((nth c (i+1)).y-(nth c i).y)≤(y-(nth c i).y+1)*((nth c (i+1)).x-(nth c i).x)-1 :=
  Int.le_ediv_iff_mul_le (by omega)
 rw[Int.mul_comm (x-(nth c i).x)]at e2;constructor
 ·intro g
  have:=e2.2 (by have:=e1.1 (by omega);omega)
  omega
 ·intro g
  have:=e1.2 (by have:=e2.1 (by omega);omega)
  omega
theorem Ng{c:List Pt}(h:Cv c){i:Nat}(hi:i<c.length):ic c (nth c i).x=(nth c i).y:=by
 rcases Nat.eq_zero_or_pos i with rfl|h0
 ·exact y4 h (Int.le_refl _)
 ·have u:=h.up i h0 hi
  rw[uK h h0 hi (by omega) (Int.le_refl _),od,Int.mul_tdiv_cancel _ (by omega)]
  omega
theorem UX{c:List Pt}(h:Cv c){y:Int}:∀(m i:Nat),i+m=c.length-1→(nth c i).y≤y→ic c (qe c y m i)≤y∧∀x,qe c y m i<x→x≤(nth c (c.length-1)).x→y<ic c x
 |0,i,hi,hy=>by
  have hp:=h.pos;unfold qe;rw[Ng h (by omega)]
  obtain rfl:i=c.length-1:=by omega
  exact⟨hy,fun x a b=>by omega⟩
 |m+1,i,hi,hy=>by
  have hp:=h.pos;unfold qe;split
  ·rename_i h2
   have hr:=UP h (i:=i) (by omega) hy h2
   refine⟨?_,fun x a b=>?_⟩
   ·rw[uK h (i:=i+1) (by omega) (by omega) (by simpa using hr.1) hr.2]
    exact(UW h (by omega) hy h2 hr.1).2 (Int.le_refl _)
   ·rcases Int.lt_or_le (nth c (i+1)).x x with h3|h3
    ·have:=MQ h (show(nth c (i+1)).x≤x by omega)
     rw[Ng h (by omega)]at this
     omega
    ·rw[uK h (i:=i+1) (by omega) (by omega) (by simp only[Nat.add_sub_cancel];omega) h3]
     have:=not_congr (UW h (x:=x) (by omega) hy h2 (by omega))
     omega
  ·exact UX h m (i+1) (by omega) (by omega)
theorem UY{c:List Pt}(h:gd c=0)(y:Int)(G:List aV) :
  bo F 163 [iu c,i64 y] G=some (.tuple [i64 (if y<(nth c 0).y then 0 else uP c y),.bool (decide ((nth c 0).y≤y)),i64 0],G) :=
 cg rfl rfl (by
  have hc:=lL h;have hp:=hc.pos;have hl:=hc.kd;have h3:((c.length:Int)-1).toNat=c.length-1:=by omega
  have h4:0≤(c.length:Int)-1:=by omega
  have h5:c.length-1<c.length:=by omega
  have x0:=hc.x0 0 hp;have x1:=hc.x0 (c.length-1) h5;have EU:=Er hc (i:=0) (j:=c.length-1) (by omega) h5
  have hA:=fun x=>Tm hc x [];have Nh:=hA (nth c 0).x;rw[Ng hc hp]at Nh;by_cases h1:y<(nth c 0).y
  ·have h2:¬ (nth c 0).y≤y:=by omega
   simp (disch:=omega) [-getElem?_pos,wrap64,Gy,lq,h,bp (l:=c),hp,h3,h4,h5,Nh,h1,h2]
  ·have h2:(nth c 0).y≤y:=by omega
   have Ni:=UX hc (y:=y) (c.length-1) 0 (by omega) h2
   have Nj:=M6 hc (y:=y) (c.length-1) 0 (by omega) h2
   have dD:qe c y (c.length-1) 0=uP c y:=rfl;rw[dD]at Ni Nj;simp (disch:=omega) [-getElem?_pos,wrap64,Gy,lq,h,bp (l:=c),hp,h3,h4,h5,Nh,h1,h2];refine go_loop (fun s:Int×Int=>acy (iu c) y s.1 s.2 G) (fun s=>(nth c 0).x≤s.1∧s.1≤uP c y∧uP c y≤s.2∧s.2≤(nth c (c.length-1)).x) (fun s=>(s.2-s.1).toNat) ((nth c 0).x,(nth c (c.length-1)).x) rfl (by simp) ⟨by simp,Nj.1,Nj.2,by simp⟩ ?_
   rintro⟨lo,hi⟩ ⟨b1,b2,b3,b4⟩;simp only at b1 b2 b3 b4;have d1:0≤(hi-lo).tdiv 2:=Int.tdiv_nonneg (by omega) (by omega)
   have d2:(hi-lo).tdiv 2=(hi-lo) / 2:=Int.tdiv_eq_ediv_of_nonneg (by omega)
   have hAm:=hA (hi-(hi-lo).tdiv 2);simp (disch:=omega) [-getElem?_pos,wrap64,Sy,hAm];refine b9 (fun h6=>?_) (fun h6=>?_)
   ·refine b9 (fun h7=>?_) (fun h7=>?_)
    ·refine cc (hi-(hi-lo).tdiv 2,hi) (by simp) ⟨by simp only;omega,?_,b3,b4⟩ (by simp only;omega)
     simp only;refine Int.not_lt.1 fun h8=>?_;have:=Ni.2 _ h8 (by omega)
     omega
    ·refine cc (lo,hi-(hi-lo).tdiv 2-1) (by simp) ⟨b1,b2,?_,by simp only;omega⟩ (by simp only;omega)
     simp only;refine Int.not_lt.1 fun h8=>?_;have:=MQ hc (show hi-(hi-lo).tdiv 2≤uP c y by omega)
     have:=Ni.1;omega
   ·have:lo=uP c y:=by omega
    subst this;simp (disch:=omega) [-getElem?_pos,wrap64,h1,h2])
theorem aiT{r:Rs}(h:ij r=0){v:Int}(hv:0≤v∧v≤274877906944)(G:List aV):bo F 117 [.agg r.cells,i64 v] G=some (.tuple [i64 (jx r v),i64 0],G) :=
 cg rfl rfl (by
  have hp:=(lL (qP h)).pos;have lZ:(decide (0≤v)&&decide (v≤274877906944))=true:=by simp;omega
  by_cases h1:v<(nth r.c 0).y
  ·have h2:¬ (nth r.c 0).y≤v:=by omega
   simp[-getElem?_pos,wrap64,Gg,xm,h,c5,lZ,UY (qP h),h1,h2,bp (l:=r.c),hp,jx]
  ·have h2:(nth r.c 0).y≤v:=by omega
   simp[-getElem?_pos,wrap64,Gg,xm,h,c5,lZ,UY (qP h),h1,h2,bp (l:=r.c),hp,jx])
theorem aiU{d:Dm}(h:ij d.r=0):jL d≤274877906944:=by
 have hc:=lL (qP h);have h1:=Bo hc d.r.t;have hp:=hc.pos;have h3:=hc.y0 (d.r.c.length-1) (by omega)
 have:jL d=ic d.r.c d.r.t:=rfl;omega
theorem Eu(d:Dm)(s:Ds)(G:List aV):bo F 58 [dm d,dst s] G=some (.tuple [i64 (lvl d s),i64 (dE d s)],G) :=
 cg rfl rfl (by
  by_cases hd:dE d s=0
  ·obtain⟨pC,hf⟩:=En hd
   have hv:=hf.1;have hC:=aiU pC.r;simp (disch:=omega) [wrap64,F5,UK,hd,aiT pC.r,hv,lvl]
  ·simp (disch:=omega) [wrap64,F5,UK,hd,lvl])
end Go.Proofs.YtmpikpodpgnjhaaGreat
namespace Go.Proofs.YtmpikpodpgnjhaaGreat
set_option linter.all false
open Go.Vm
attribute [local simp] eS eT eQ eR
theorem UZ:∀{a:List Un} {E:List Int} {u:Un} {q:Int},a.length=E.length→iD (a++[u]) (E++[q])=iD a E+pow u q
 |[],[],_,_,_=>by simp[iD]
 |u::a,q::E,w,z,h=>by
  have:=UZ (a:=a) (E:=E) (u:=w) (q:=z) (by simpa using h)
  simp only[List.cons_append,iD,this];omega
 |[],_::_,_,_,h=>by simp at h
 |_::_,[],_,_,h=>by simp at h
theorem U0:∀{a:List Us} {E:List Int} {u:Us} {q:Int},a.length=E.length→iE (a++[u]) (E++[q])=iE a E+ix u q
 |[],[],_,_,_=>by simp[iE]
 |u::a,q::E,w,z,h=>by
  have:=U0 (a:=a) (E:=E) (u:=w) (q:=z) (by simpa using h)
  simp only[List.cons_append,iE,this];omega
 |[],_::_,_,_,h=>by simp at h
 |_::_,[],_,_,h=>by simp at h
theorem U3{us:List Un}{F:List Int}(h:F.length=us.length):∀i,i≤us.length→gD (fun j=>pow (nth us j) (nth F j)) i=iD (us.take i) (F.take i)
 |0,_=>by simp[gD,iD]
 |i+1,hi=>by
  rw[jJ (l:=us) (by omega),jJ (l:=F) (by omega),UZ (by simp;omega),← U3 h i (by omega)]
  rfl
theorem U4{ss:List Us}{F:List Int}(h:F.length=ss.length):∀i,i≤ss.length→gD (fun j=>ix (nth ss j) (nth F j)) i=iE (ss.take i) (F.take i)
 |0,_=>by simp[gD,iE]
 |i+1,hi=>by
  rw[jJ (l:=ss) (by omega),jJ (l:=F) (by omega),U0 (by simp;omega),← U4 h i (by omega)]
  rfl
theorem aiV{u:Un}{s:Us}(hv:fg u s):qh u s 0=⟨0,if 0<s.cq then 1 else min 1000 (s.since+1),s.out⟩:=by
 have hc:=hv.1;have hf:0≤s.cq:=by
  rcases hv.2.2 with h | ⟨_,h⟩
  ·omega
  ·have:=G6 hc h;omega
 unfold qh;by_cases h1:0<s.cq
 ·rw[if_pos h1]
  split
  ·unfold qJ
   rw[if_neg (by simp[h1])]
  ·rfl
 ·rw[if_neg h1,if_pos]
  ·unfold qJ
   rw[if_pos (by simp[h1])]
  ·unfold jG
   rw[if_pos rfl];exact fun h=>absurd h h1
theorem aiW{d:Dm}(pC:Dv d){s:Ds}(hf:hH d s){q:Int}(hq:0≤q∧q≤1073741824)(G:List aV) :
  bo F 60 [dm d,dst s,i64 q] G=some (.tuple [D1 (nK d s (min q (200*d.gr)) d.u.length),i64 (gD (gN d s (min q (200*d.gr))) d.u.length),i64 (gD (pB d s (min q (200*d.gr))) d.u.length),i64 (gD (lP d s (min q (200*d.gr))) d.u.length)],G) :=
 cg rfl rfl (by
  obtain⟨t,hb⟩:=ahE d.u s.u d.gr (min q (200*d.gr)) [];have hgr:=pC.gr;have Hx:=pC.u;have wX:=hf.2.2.1;generalize hM:min q (200*d.gr)=M at *;by_cases he:j0 d.u s.u d.gr M=0
  ·obtain⟨h1,h2⟩:=Eo he
   have hl:=zA h1;have hV:=TC d.u s.u (g9 d.u s.u d.gr M) (by omega) []
   rw[TV h1]at hV;simp only[Br]at hV;have f1:gN d s M=fun j=>nth (g9 d.u s.u d.gr M) j:=by funext j;simp[gN,he]
   have f2:pB d s M=fun j=>pow (nth d.u j) (nth (g9 d.u s.u d.gr M) j):=by funext j;simp only[pB,f1]
   have f3:lP d s M=fun j=>ix (nth s.u j) (nth (g9 d.u s.u d.gr M) j):=by funext j;simp only[lP,f1]
   have e1:gD (gN d s M) d.u.length=(g9 d.u s.u d.gr M).sum:=by rw[f1,M7 _ _ (by omega),List.take_of_length_le (by omega)]
   have e2:gD (pB d s M) d.u.length=iD d.u (g9 d.u s.u d.gr M):=by rw[f2,U3 hl.1 _ (Nat.le_refl _),List.take_of_length_le (by omega),List.take_of_length_le (by omega)]
   have e3:gD (lP d s M) d.u.length=iE s.u (g9 d.u s.u d.gr M):=by rw[f3,U4 hl.2 _ (by omega),List.take_of_length_le (by omega),List.take_of_length_le (by omega)]
   rw[e1,e2,e3];generalize hE:g9 d.u s.u d.gr M=E at *;generalize iD d.u E=PW at *;generalize iE s.u E=ST at *;generalize E.sum=SU at *;simp (disch:=omega) [-getElem?_pos,wrap64,F7,hM,hb,he,hV];refine go_loop (fun i:Nat=>aaL (.slice none 1 (E.map fun n=>[i64 n])) (.slice (some 1063) 3 ((nK d s M i).map Us.row)) SU PW ST (jZ d.u) d.u.length i s.row i G) (fun i=>i≤d.u.length) (fun i=>d.u.length-i) 0 rfl (by simp[nK]) (by omega) ?_
   intro i hi;have qF:=HD (d:=d) (s:=s) (m:=M) (n:=i);simp (disch:=omega) [-getElem?_pos,wrap64,Ry];refine b9 (fun h5=>?_) (fun h5=>?_)
   ·have h5:i<d.u.length:=by omega
    have h6:i<s.u.length:=by omega
    have h7:i<E.length:=by omega
    have hv:fg (nth d.u i) (nth s.u i):=hf.2.2.2.2.1 i h5;have kO:gN d s M i=nth E i:=by rw[f1]
    have hm:jG (nth d.u i) (nth s.u i) (nth E i):=(Bv.1 (HB h1 i h5)).2.2;have hN:=Mk (nth d.u i) (nth s.u i) (nth E i) [];have hnE:qI (nth d.u i) (nth s.u i) (nth E i)=0:=by rw[aih hv,if_pos hm]
    rw[if_pos hnE]at hN;have hx:qh (nth d.u i) (nth s.u i) (nth E i)=qJ (nth s.u i) (nth E i):=by simp[qh,hm]
    simp (disch:=omega) [-getElem?_pos,wrap64,bp (l:=d.u),bp (l:=s.u),eB (l:=E),hN,qF];refine cc (i+1) (by simp[zN,kO,hx]) (by omega) (by omega)
   ·obtain rfl:i=d.u.length:=by omega
    simp (disch:=omega) [-getElem?_pos,wrap64,qF]
  ·have f1:gN d s M=fun _=>0:=by funext j;simp[gN,he]
   have f2:pB d s M=fun _=>0:=by funext j;simp[pB,f1,pow]
   have f3:lP d s M=fun _=>0:=by funext j;simp[lP,f1,ix]
   rw[f1,f2,f3,M8];simp (disch:=omega) [-getElem?_pos,wrap64,F7,hM,hb,he];refine go_loop (fun i:Nat=>aaI (.slice (some 1063) 3 ((nK d s M i).map Us.row)) (jH s.u) s.u.length i i G) (fun i=>i≤s.u.length) (fun i=>s.u.length-i) 0 rfl (by simp[nK]) (by omega) ?_
   intro i hi;have qF:=HD (d:=d) (s:=s) (m:=M) (n:=i);simp (disch:=omega) [-getElem?_pos,wrap64,Rx];refine b9 (fun h5=>?_) (fun h5=>?_)
   ·have h5:i<d.u.length:=by omega
    have h6:i<s.u.length:=by omega
    have hv:fg (nth d.u i) (nth s.u i):=hf.2.2.2.2.1 i h5;have qj:=hv.2.1;have kO:gN d s M i=0:=by rw[f1]
    have hx:=aiV hv;by_cases h7:0<(nth s.u i).cq
    ·rw[if_pos h7]at hx
     simp (disch:=omega) [-getElem?_pos,wrap64,bp (l:=s.u),h7,qF];refine cc (i+1) (by simp[zN,kO,hx]) (by omega) (by omega)
    ·rw[if_neg h7]at hx
     simp (disch:=omega) [-getElem?_pos,wrap64,bp (l:=s.u),h7,qF];refine cc (i+1) (by simp[zN,kO,hx]) (by omega) (by omega)
   ·obtain rfl:i=s.u.length:=by omega
    rw[wX]at qF ⊢;simp (disch:=omega) [-getElem?_pos,wrap64,qF])
end Go.Proofs.YtmpikpodpgnjhaaGreat
namespace Go.Proofs.YtmpikpodpgnjhaaGreat
set_option linter.all false
open Go.Vm
attribute [local simp] eS eT eQ eR
theorem U5(d:Dm)(s:Ds)(inf los rel:Int):∃G',bo F 19 [dm d,dst s,i64 inf,i64 los,i64 rel] []=some (qi d s inf los rel,G'):=by
 suffices h:∀Q:V→List aV→Prop,(∀G',Q (qi d s inf los rel) G')→iV (bo F) 19 [dm d,dst s,i64 inf,i64 los,i64 rel] [] Q by
  obtain⟨_,G',h,rfl⟩:=h (fun v G'=>v=qi d s inf los rel) fun _=>rfl;exact⟨G',h⟩
 intro Q hQ;refine ju rfl rfl ?_;by_cases hd:dE d s=0
 ·obtain⟨pC,hf⟩:=En hd
  have uk:lvl d s=jx d.r s.v:=by simp[lvl,hd]
  by_cases ho:[inf,los,rel].any uS=false
  ·have he:m5 d s inf los rel=0:=by unfold m5;rw[if_neg (fun g=>g hd),ho];rfl
   unfold qi at hQ;rw[if_pos he]at hQ;have hx:=ho;simp only[uS,List.any_cons,List.any_nil,Bool.or_false,Bool.or_eq_false_iff,Bool.not_eq_false',decide_eq_true_eq]at hx;obtain⟨x1,x2,x3⟩:=hx;have i1:(decide (0≤inf)&&decide (inf≤1073741824))=true:=by simp;omega
   have i2:(decide (0≤los)&&decide (los≤1073741824))=true:=by simp;omega
   have i3:(decide (0≤rel)&&decide (rel≤1073741824))=true:=by simp;omega
   have p:=M9 pC hf x1 x2 x3;have hv:=hf.1;have hC:=HA pC.r;have hD:=Hz pC.r;have U6:=D7 d.r d.r.d [];rw[aid pC.r,if_pos rfl,show ic d.r.c d.r.d=BG d from rfl]at U6;have U7:=D7 d.r d.r.t [];rw[Hw pC.r,if_pos rfl,show ic d.r.c d.r.t=jL d from rfl]at U7;have hL:s.v+inf-min los (s.v+inf)=eC s inf los:=rfl;have qz:max 0 (eC s inf los-BG d)=jM d (eC s inf los):=by unfold jM;omega
   have hLr:0≤eC s inf los∧eC s inf los≤4611686018427387904:=by unfold eC;omega
   have Nk:0≤jM d (eC s inf los)∧jM d (eC s inf los)≤4611686018427387904:=by unfold jM;omega
   have hU:=aiW pC hf (q:=min rel (jM d (eC s inf los))) (by omega) []
   rw[show min (min rel (jM d (eC s inf los))) (200*d.gr)=kC d rel (eC s inf los) from rfl]at hU;rw[show gD (gN d s (kC d rel (eC s inf los))) d.u.length=fT d s inf los rel from rfl]at hU;have hT:=p.T0;have hTr:=p.Tr;have hW:min rel (jM d (eC s inf los))-fT d s inf los rel=mG d rel (eC s inf los) (fT d s inf los rel):=rfl;have hS:=ah7 d.g s.g (jx d.r s.v) (mG d rel (eC s inf los) (fT d s inf los rel)) [];have hF:=HF d.g s.g (jx d.r s.v) (mG d rel (eC s inf los) (fT d s inf los rel))
   have hP:min (oj d.g s.g (jx d.r s.v) (mG d rel (eC s inf los) (fT d s inf los rel))) (jM d (eC s inf los)-fT d s inf los rel)=kZ d s inf los rel:=rfl;have hP0:=p.P0;have hP1:=p.P1;have hO:max 0 (eC s inf los-(fT d s inf los rel+kZ d s inf los rel)-jL d)=qT d s inf los rel:=by unfold qT;omega
   have hO0:0≤qT d s inf los rel∧qT d s inf los rel≤4611686018427387904:=by unfold qT;omega
   have hmn:min 1073741824 (fT d s inf los rel+kZ d s inf los rel)=min (fT d s inf los rel+kZ d s inf los rel) 1073741824:=Int.min_comm _ _;unfold lQ lu at hQ;generalize qT d s inf los rel=O at *;generalize kZ d s inf los rel=P at *;generalize mG d rel (eC s inf los) (fT d s inf los rel)=W at *;generalize fT d s inf los rel=T at *;generalize hLL:eC s inf los=L at *;simp (config:={ maxSteps:=2000000 }) +contextual (disch:=omega) [-getElem?_pos,-List.length_eq_zero_iff,-Int.natCast_eq_zero,wrap64,yJ,Eu,hd,uk,c5,i1,i2,i3,U6,U7]
   simp (config:={ maxSteps:=2000000 }) +contextual (disch:=omega) [-getElem?_pos,-List.length_eq_zero_iff,-Int.natCast_eq_zero,wrap64,hL,qz,hU];simp (config:={ maxSteps:=2000000 }) +contextual (disch:=omega) [-getElem?_pos,-List.length_eq_zero_iff,-Int.natCast_eq_zero,wrap64,hW,hS,hP,hO,hmn];exact hQ _
  ·have ho:[inf,los,rel].any uS=true:=(Bool.eq_false_or_eq_true _).resolve_right ho
   have he:m5 d s inf los rel=1:=by unfold m5;rw[if_neg (fun g=>g hd),ho];rfl
   unfold qi at hQ;rw[he,if_neg (by omega)]at hQ
   simp only[uS,List.any_cons,List.any_nil,Bool.or_false]at ho;by_cases i1:0≤inf∧inf≤1073741824
   ·by_cases i2:0≤los∧los≤1073741824
    ·by_cases i3:0≤rel∧rel≤1073741824
     ·simp[i1,i2,i3]at ho
     ·have j1:(decide (0≤inf)&&decide (inf≤1073741824))=true:=by simp;omega
      have j2:(decide (0≤los)&&decide (los≤1073741824))=true:=by simp;omega
      have j3:(decide (0≤rel)&&decide (rel≤1073741824))=false:=by simp;omega
      simp (config:={ maxSteps:=2000000 }) +contextual (disch:=omega) [-getElem?_pos,-List.length_eq_zero_iff,-Int.natCast_eq_zero,wrap64,yJ,Eu,hd,uk,c5,j1,j2,j3];exact hQ _
    ·have j1:(decide (0≤inf)&&decide (inf≤1073741824))=true:=by simp;omega
     have j2:(decide (0≤los)&&decide (los≤1073741824))=false:=by simp;omega
     simp (config:={ maxSteps:=2000000 }) +contextual (disch:=omega) [-getElem?_pos,-List.length_eq_zero_iff,-Int.natCast_eq_zero,wrap64,yJ,Eu,hd,uk,c5,j1,j2];exact hQ _
   ·have j1:(decide (0≤inf)&&decide (inf≤1073741824))=false:=by simp;omega
    simp (config:={ maxSteps:=2000000 }) +contextual (disch:=omega) [-getElem?_pos,-List.length_eq_zero_iff,-Int.natCast_eq_zero,wrap64,yJ,Eu,hd,uk,c5,j1];exact hQ _
 ·have he:m5 d s inf los rel=dE d s:=by unfold m5;rw[if_pos hd]
  unfold qi at hQ;rw[he,if_neg hd]at hQ;simp[wrap64,yJ,Eu,hd];exact hQ _
end Go.Proofs.YtmpikpodpgnjhaaGreat
namespace Go.Proofs.YtmpikpodpgnjhaaGreat
set_option linter.all false
open Go.Vm
attribute [local simp] eS eT eQ eR
theorem ai3(s:List Us)(hs:s.length≤1000)(G:List aV):bo F 138 [jH s] G=some (D1 s,G):=by
 cases s with
 |nil =>
  refine JU (p:=0) (m:=3) rfl rfl rfl rfl ?_ ?_
  ·simp (disch:=omega) [wrap64,DK]
  ·simp (disch:=omega) [wrap64,DK]
 |cons a s =>
  have hs:s.length+1≤1000:=by simpa using hs
  show bo F 138 [.slice none 3 (a.row::s.map Us.row)] G=some (.slice (some 0) 3 (a.row::s.map Us.row),G);refine JV (p:=0) rfl rfl rfl (fun m=>by simp) ?_
  simp (disch:=omega) [wrap64,DK]
theorem ai4(s:List Gs)(hs:s.length≤1000)(G:List aV):bo F 139 [jy s] G=some (HG s,G):=by
 cases s with
 |nil =>
  refine JU (p:=0) (m:=2) rfl rfl rfl rfl ?_ ?_
  ·simp (disch:=omega) [wrap64,DL]
  ·simp (disch:=omega) [wrap64,DL]
 |cons a s =>
  have hs:s.length+1≤1000:=by simpa using hs
  show bo F 139 [.slice none 2 (a.row::s.map Gs.row)] G=some (.slice (some 0) 2 (a.row::s.map Gs.row),G);refine JV (p:=0) rfl rfl rfl (fun m=>by simp) ?_
  simp (disch:=omega) [wrap64,DL]
end Go.Proofs.YtmpikpodpgnjhaaGreat
namespace Go.Proofs.YtmpikpodpgnjhaaGreat
set_option linter.all false
open Go.Vm
end Go.Proofs.YtmpikpodpgnjhaaGreat
namespace Go.Proofs.YtmpikpodpgnjhaaGreat
set_option linter.all false
open Go.Vm
attribute [local simp] eS eT eQ eR
theorem ai5(g:List Gs)(hg:g.length≤1000)(G:List aV):bo F 62 [jy g,jy g] G=some (.bool true,G) :=
 cg rfl rfl (by
  simp (disch:=omega) [wrap64,KP];refine go_loop (fun i:Nat=>aaV (jy g) (jy g) g.length i G) (fun i=>i≤g.length) (fun i=>g.length-i) 0 rfl (by simp) (by omega) ?_
  intro i hi;simp (disch:=omega) [wrap64,RC];refine b9 (fun h5=>?_) (fun h5=>?_)
  ·have h5:i<g.length:=by omega
   simp (disch:=omega) [wrap64,bp (l:=g),V.gX,eK,jQ];refine cc (i+1) (by simp) (by omega) (by omega)
  ·trivial)
theorem ai6(s:Ds)(hu:s.u.length≤1000)(hg:s.g.length≤1000)(G:List aV):bo F 20 [dst s,dst s] G=some (.bool true,G) :=
 cg rfl rfl (by
  have h:=ai5 s.g hg [];simp (disch:=omega) [wrap64,KE,h];refine go_loop (fun i:Nat=>aaa s.u.length i s.row s.row G) (fun i=>i≤s.u.length) (fun i=>s.u.length-i) 0 rfl (by simp) (by omega) ?_
  intro i hi;simp (disch:=omega) [wrap64,Rg];refine b9 (fun h5=>?_) (fun h5=>?_)
  ·have h5:i<s.u.length:=by omega
   simp (disch:=omega) [wrap64,bp (l:=s.u),V.gX,eK,jQ];refine cc (i+1) (by simp) (by omega) (by omega)
  ·trivial)
end Go.Proofs.YtmpikpodpgnjhaaGreat
namespace Go.Proofs.YtmpikpodpgnjhaaGreat
set_option linter.all false
open Go.Vm
def okF(A B C:List Int)(i:Nat):Prop:=(0≤nth A i∧nth A i≤1073741824)∧(0≤nth B i∧nth B i≤1073741824)∧(0≤nth C i∧nth C i≤1073741824)
instance {A B C:List Int} {i:Nat}:Decidable (okF A B C i):=inferInstanceAs (Decidable (_∧_∧_))
def okA(A B C:List Int):Prop:=∀i,i<A.length→okF A B C i
noncomputable instance {A B C:List Int}:Decidable (okA A B C):=Classical.propDecidable _
end Go.Proofs.YtmpikpodpgnjhaaGreat
namespace Go.Proofs.YtmpikpodpgnjhaaGreat
set_option linter.all false
open Go.Vm
attribute [local simp] eS eT eQ eR
theorem ai8(r:Dr)(ht:0≤r.tur∧r.tur≤1099511627776)(hs:0≤r.spi∧r.spi≤1099511627776)(ho:0≤r.ovr∧r.ovr≤1099511627776)(G:List aV):bo F 95 [dr r] G=some (i64 (r.tur+r.spi+r.ovr),G) :=
 cg rfl rfl (by
  simp (disch:=omega) [wrap64,K0])
end Go.Proofs.YtmpikpodpgnjhaaGreat
