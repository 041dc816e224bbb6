/- Parts of the proof, joined: Dam7, Dob1, Ref4, Ref5, Ref6, Dam8, Dst1, Dsm1, Drn1, Drn2. -/
import Derived.Test.YtmpikpodpgnjhaaGreatDe
namespace Go.Proofs.YtmpikpodpgnjhaaGreat
set_option linter.all false
open Go.Vm
theorem aiI{u:Un}{s:Us}(hv:fc u s)(q:Int):fc u (qg u s q):=by
 have h1:=hv.2.1;unfold qg;split
 ·rename_i hm
  refine⟨hv.1,?_,?_⟩
  ·unfold qI;simp only;split<;>omega
  ·unfold qI;simp only
   unfold jx at hm;by_cases hq:q=0
   ·exact .inl hq
   ·rw[if_neg hq]at hm;exact .inr ⟨hm.1,hm.2.2⟩
 ·exact⟨hv.1,by simp,.inl rfl⟩
theorem aiJ{lv w:Int}{g:List Gt}{s:List Gs}(hl:g.length=s.length)(hs:v7 g s)(hv:∀i,i<g.length→Gv (nth g i)):∀i,i≤g.length →
  ∀j,j<g.length→0≤nth (bs lv w g s i).1 j∧nth (bs lv w g s i).1 j≤(nth g j).dv:=by
 intro i;induction i with
 |zero =>
  intro _ j hj;have hr:=zH (hv j hj) (hs j hj);simp only[bs];rw[Ee hj (by omega)]
  omega
 |succ i ih =>
  intro hi j hj;simp only[bs];rw[Er (by rw[nF hl];omega)]
  split
  ·rename_i e
   subst e;have hr:=zH (hv i hj) (hs i hj);have ho:=ahW (lv:=lv) (w:=w) (hv i hj) (hs i hj) (bs lv w g s i).2;omega
  ·exact ih (by omega) j hj
theorem aiK{g:List Gt}{s:List Gs}{lv w:Int}(h:aE g s lv=0)(hw:0≤w∧w≤1073741824):(nE g s lv w).length=g.length∧v7 g (nE g s lv w):=by
 obtain⟨h1,h2,h3,h4,h5⟩:=Ed h;have hE:kn g s lv w=0:=by simp[kn,h,hw]
 have hS:nE g s lv w=ma (bs lv w g s g.length).1 s:=by unfold nE;rw[if_pos hE]
 have hb:=nF (lv:=lv) (w:=w) h2 g.length;rw[hS];refine⟨by simp[ma];omega,fun i hi=>?_⟩
 unfold ma;rw[Bt (by omega) (by omega)]
 exact aiJ h2 h3 h4 g.length (Nat.le_refl _) i hi
theorem aiL{d:Dm}{s:Ds}{m:Int}{n i:Nat}(hi:i<n):nth (nG d s m n) i=qg (nth d.u i) (nth s.u i) (gH d s m i):=by
 unfold nG;simp[nth,hi]
theorem aiM{d:Dm}(h:Dv d){s:Ds}(hf:gY d s){inf los rel:Int}(hi:0≤inf∧inf≤1073741824)(hl:0≤los∧los≤1073741824)(hr:0≤rel∧rel≤1073741824):gY d (lK d s inf los rel):=by
 have p:=M7 h hf hi hl hr;have hv:=hf.1;have hC:=Hy h.r;have hD:=Hx h.r;have hT:=p.T0;have hP:=p.P0;have hs:=p.sum;have hL:=p.L;have qy:jD d (eA s inf los)≤eA s inf los:=by unfold jD;omega
 have hO:qS d s inf los rel=max (eA s inf los-(fP d s inf los rel+kR d s inf los rel)-jC d) 0:=rfl;have hg:=aiK (aip h hf) p.w0;refine⟨?_,?_,HB,hg.1,fun i hi=>?_,hg.2⟩
 ·show 0≤eA s inf los-(fP d s inf los rel+kR d s inf los rel)-qS d s inf los rel∧eA s inf los-(fP d s inf los rel+kR d s inf los rel)-qS d s inf los rel≤jC d
  omega
 ·show 0≤min (fP d s inf los rel+kR d s inf los rel) 1073741824∧min (fP d s inf los rel+kR d s inf los rel) 1073741824≤1073741824
  omega
 ·show fc (nth d.u i) (nth (nG d s _ d.u.length) i)
  rw[aiL hi];exact aiI (hf.2.2.2.2.1 i hi) _
def aiN(a b:Ds)(r:Dr):List Int:=[a.v,b.v,r.inf,r.los,r.tur,r.spi,r.ovr]
def UR(n:Int):Prop:=0≤n∧n≤274877906944
instance {n:Int}:Decidable (UR n):=inferInstanceAs (Decidable (_∧_))
def aiO(a b:Ds)(r:Dr):Prop:=(∀i,i<7→UR (nth (aiN a b r) i))∧b.v=a.v+r.inf-r.los-r.tur-r.spi-r.ovr
noncomputable instance {a b:Ds} {r:Dr}:Decidable (aiO a b r):=Classical.propDecidable _
end Go.Proofs.YtmpikpodpgnjhaaGreat
namespace Go.Proofs.YtmpikpodpgnjhaaGreat
set_option linter.all false
open Go.Vm
end Go.Proofs.YtmpikpodpgnjhaaGreat
namespace Go.Proofs.YtmpikpodpgnjhaaGreat
set_option linter.all false
open Go.Vm
attribute [local simp] eQ eR eO eP
theorem US{c:List Pt}(h:Cv c){y x:Int}{i:Nat}(hi:i+1<c.length)(h1:(nth c i).y≤y)(h2:y<(nth c (i+1)).y)(hx:(nth c i).x≤x):oa c (i+1) x≤y↔x≤zB c y i:=by
 have u1:=h.up (i+1) (by omega) hi
 simp only[Nat.add_sub_cancel]at u1;have a2:0<(y-(nth c i).y+1)*((nth c (i+1)).x-(nth c i).x):=Int.mul_pos (by omega) (by omega)
 have a3:0≤((nth c (i+1)).y-(nth c i).y)*(x-(nth c i).x):=Int.mul_nonneg (by omega) (by omega)
 unfold oa zB;simp only[Nat.add_sub_cancel];rw[Int.tdiv_eq_ediv_of_nonneg a3,Int.tdiv_eq_ediv_of_nonneg (by omega)]
 have e1:((nth c (i+1)).y-(nth c i).y)*(x-(nth c i).x) / ((nth c (i+1)).x-(nth c i).x)<y-(nth c i).y+1↔((nth c (i+1)).y-(nth c i).y)*(x-(nth c i).x)<(y-(nth c i).y+1)*((nth c (i+1)).x-(nth c i).x) :=
  Int.ediv_lt_iff_lt_mul (by omega)
 have e2:x-(nth c i).x≤((y-(nth c i).y+1)*((nth c (i+1)).x-(nth c i).x)-1) / ((nth c (i+1)).y-(nth c i).y)↔(x-(nth c i).x)*((nth c (i+1)).y-(nth c i).y)≤(y-(nth c i).y+1)*((nth c (i+1)).x-(nth c i).x)-1 :=
  Int.le_ediv_iff_mul_le (by omega)
 rw[Int.mul_comm (x-(nth c i).x)]at e2;constructor
 ·intro g
  have:=e2.2 (by have:=e1.1 (by omega);omega)
  omega
 ·intro g
  have:=e1.2 (by have:=e2.1 (by omega);omega)
  omega
theorem Nd{c:List Pt}(h:Cv c){i:Nat}(hi:i<c.length):g9 c (nth c i).x=(nth c i).y:=by
 rcases Nat.eq_zero_or_pos i with rfl|h0
 ·exact yZ h (Int.le_refl _)
 ·have u:=h.up i h0 hi
  rw[uK h h0 hi (by omega) (Int.le_refl _),oa,Int.mul_tdiv_cancel _ (by omega)]
  omega
theorem UT{c:List Pt}(h:Cv c){y:Int}:∀(m i:Nat),i+m=c.length-1→(nth c i).y≤y→g9 c (qd c y m i)≤y∧∀x,qd c y m i<x→x≤(nth c (c.length-1)).x→y<g9 c x
 |0,i,hi,hy=>by
  have hp:=h.pos;unfold qd;rw[Nd h (by omega)]
  obtain rfl:i=c.length-1:=by omega
  exact⟨hy,fun x a b=>by omega⟩
 |m+1,i,hi,hy=>by
  have hp:=h.pos;unfold qd;split
  ·rename_i h2
   have hr:=UM h (i:=i) (by omega) hy h2
   refine⟨?_,fun x a b=>?_⟩
   ·rw[uK h (i:=i+1) (by omega) (by omega) (by simpa using hr.1) hr.2]
    exact(US h (by omega) hy h2 hr.1).2 (Int.le_refl _)
   ·rcases Int.lt_or_le (nth c (i+1)).x x with h3|h3
    ·have:=MO h (show(nth c (i+1)).x≤x by omega)
     rw[Nd h (by omega)]at this
     omega
    ·rw[uK h (i:=i+1) (by omega) (by omega) (by simp only[Nat.add_sub_cancel];omega) h3]
     have:=not_congr (US h (x:=x) (by omega) hy h2 (by omega))
     omega
  ·exact UT h m (i+1) (by omega) (by omega)
theorem UU{c:List Pt}(h:fU c=0)(y:Int)(G:List aV) :
  bo F 163 [ig c,i64 y] G=some (.tuple [i64 (if y<(nth c 0).y then 0 else uP c y),.bool (decide ((nth c 0).y≤y)),i64 0],G) :=
 cg rfl rfl (by
  have hc:=lF h;have hp:=hc.pos;have hl:=hc.jY;have h3:((c.length:Int)-1).toNat=c.length-1:=by omega
  have h4:0≤(c.length:Int)-1:=by omega
  have h5:c.length-1<c.length:=by omega
  have x0:=hc.x0 0 hp;have x1:=hc.x0 (c.length-1) h5;have ES:=Ep hc (i:=0) (j:=c.length-1) (by omega) h5
  have hA:=fun x=>Tj hc x [];have Nf:=hA (nth c 0).x;rw[Nd hc hp]at Nf;by_cases h1:y<(nth c 0).y
  ·have h2:¬ (nth c 0).y≤y:=by omega
   simp (disch:=omega) [-getElem?_pos,wrap64,Gu,kY,h,bp (l:=c),hp,h3,h4,h5,Nf,h1,h2]
  ·have h2:(nth c 0).y≤y:=by omega
   have Ng:=UT hc (y:=y) (c.length-1) 0 (by omega) h2
   have Nh:=M4 hc (y:=y) (c.length-1) 0 (by omega) h2
   have dC:qd c y (c.length-1) 0=uP c y:=rfl;rw[dC]at Ng Nh;simp (disch:=omega) [-getElem?_pos,wrap64,Gu,kY,h,bp (l:=c),hp,h3,h4,h5,Nf,h1,h2];refine go_loop (fun s:Int×Int=>acv (ig c) y s.1 s.2 G) (fun s=>(nth c 0).x≤s.1∧s.1≤uP c y∧uP c y≤s.2∧s.2≤(nth c (c.length-1)).x) (fun s=>(s.2-s.1).toNat) ((nth c 0).x,(nth c (c.length-1)).x) rfl (by simp) ⟨by simp,Nh.1,Nh.2,by simp⟩ ?_
   rintro⟨lo,hi⟩ ⟨b1,b2,b3,b4⟩;simp only at b1 b2 b3 b4;have d1:0≤(hi-lo).tdiv 2:=Int.tdiv_nonneg (by omega) (by omega)
   have d2:(hi-lo).tdiv 2=(hi-lo) / 2:=Int.tdiv_eq_ediv_of_nonneg (by omega)
   have hAm:=hA (hi-(hi-lo).tdiv 2);simp (disch:=omega) [-getElem?_pos,wrap64,Su,hAm];refine b9 (fun h6=>?_) (fun h6=>?_)
   ·refine b9 (fun h7=>?_) (fun h7=>?_)
    ·refine cc (hi-(hi-lo).tdiv 2,hi) (by simp) ⟨by simp only;omega,?_,b3,b4⟩ (by simp only;omega)
     simp only;refine Int.not_lt.1 fun h8=>?_;have:=Ng.2 _ h8 (by omega)
     omega
    ·refine cc (lo,hi-(hi-lo).tdiv 2-1) (by simp) ⟨b1,b2,?_,by simp only;omega⟩ (by simp only;omega)
     simp only;refine Int.not_lt.1 fun h8=>?_;have:=MO hc (show hi-(hi-lo).tdiv 2≤uP c y by omega)
     have:=Ng.1;omega
   ·have:lo=uP c y:=by omega
    subst this;simp (disch:=omega) [-getElem?_pos,wrap64,h1,h2])
theorem aiQ{r:Rs}(h:hY r=0){v:Int}(hv:0≤v∧v≤274877906944)(G:List aV):bo F 117 [.agg r.cells,i64 v] G=some (.tuple [i64 (jn r v),i64 0],G) :=
 cg rfl rfl (by
  have hp:=(lF (qO h)).pos;have lU:(decide (0≤v)&&decide (v≤274877906944))=true:=by simp;omega
  by_cases h1:v<(nth r.c 0).y
  ·have h2:¬ (nth r.c 0).y≤v:=by omega
   simp[-getElem?_pos,wrap64,Ge,xl,h,cY,lU,UU (qO h),h1,h2,bp (l:=r.c),hp,jn]
  ·have h2:(nth r.c 0).y≤v:=by omega
   simp[-getElem?_pos,wrap64,Ge,xl,h,cY,lU,UU (qO h),h1,h2,bp (l:=r.c),hp,jn])
theorem aiR{d:Dm}(h:hY d.r=0):jC d≤274877906944:=by
 have hc:=lF (qO h);have h1:=Bn hc d.r.t;have hp:=hc.pos;have h3:=hc.y0 (d.r.c.length-1) (by omega)
 have:jC d=g9 d.r.c d.r.t:=rfl;omega
theorem Et(d:Dm)(s:Ds)(G:List aV):bo F 58 [dm d,dst s] G=some (.tuple [i64 (lvl d s),i64 (dE d s)],G) :=
 cg rfl rfl (by
  by_cases hd:dE d s=0
  ·obtain⟨pA,hf⟩:=Em hd
   have hv:=hf.1;have hC:=aiR pA.r;simp (disch:=omega) [wrap64,F3,UH,hd,aiQ pA.r,hv,lvl]
  ·simp (disch:=omega) [wrap64,F3,UH,hd,lvl])
end Go.Proofs.YtmpikpodpgnjhaaGreat
namespace Go.Proofs.YtmpikpodpgnjhaaGreat
set_option linter.all false
open Go.Vm
attribute [local simp] eQ eR eO eP
theorem UW:∀{a:List Un} {E:List Int} {u:Un} {q:Int},a.length=E.length→ix (a++[u]) (E++[q])=ix a E+pow u q
 |[],[],_,_,_=>by simp[ix]
 |u::a,q::E,w,z,h=>by
  have:=UW (a:=a) (E:=E) (u:=w) (q:=z) (by simpa using h)
  simp only[List.cons_append,ix,this];omega
 |[],_::_,_,_,h=>by simp at h
 |_::_,[],_,_,h=>by simp at h
theorem UX:∀{a:List Us} {E:List Int} {u:Us} {q:Int},a.length=E.length→iy (a++[u]) (E++[q])=iy a E+il u q
 |[],[],_,_,_=>by simp[iy]
 |u::a,q::E,w,z,h=>by
  have:=UX (a:=a) (E:=E) (u:=w) (q:=z) (by simpa using h)
  simp only[List.cons_append,iy,this];omega
 |[],_::_,_,_,h=>by simp at h
 |_::_,[],_,_,h=>by simp at h
theorem UY{us:List Un}{F:List Int}(h:F.length=us.length):∀i,i≤us.length→gw (fun j=>pow (nth us j) (nth F j)) i=ix (us.take i) (F.take i)
 |0,_=>by simp[gw,ix]
 |i+1,hi=>by
  rw[jA (l:=us) (by omega),jA (l:=F) (by omega),UW (by simp;omega),← UY h i (by omega)]
  rfl
theorem UZ{ss:List Us}{F:List Int}(h:F.length=ss.length):∀i,i≤ss.length→gw (fun j=>il (nth ss j) (nth F j)) i=iy (ss.take i) (F.take i)
 |0,_=>by simp[gw,iy]
 |i+1,hi=>by
  rw[jA (l:=ss) (by omega),jA (l:=F) (by omega),UX (by simp;omega),← UZ h i (by omega)]
  rfl
theorem aiS{u:Un}{s:Us}(hv:fc u s):qg u s 0=⟨0,if 0<s.cq then 1 else min 1000 (s.since+1),s.out⟩:=by
 have hc:=hv.1;have hf:0≤s.cq:=by
  rcases hv.2.2 with h | ⟨_,h⟩
  ·omega
  ·have:=G4 hc h;omega
 unfold qg;by_cases h1:0<s.cq
 ·rw[if_pos h1]
  split
  ·unfold qI
   rw[if_neg (by simp[h1])]
  ·rfl
 ·rw[if_neg h1,if_pos]
  ·unfold qI
   rw[if_pos (by simp[h1])]
  ·unfold jx
   rw[if_pos rfl];exact fun h=>absurd h h1
theorem aiT{d:Dm}(pA:Dv d){s:Ds}(hf:gY d s){q:Int}(hq:0≤q∧q≤1073741824)(G:List aV) :
  bo F 60 [dm d,dst s,i64 q] G=some (.tuple [D0 (nG d s (min q (200*d.gr)) d.u.length),i64 (gw (gH d s (min q (200*d.gr))) d.u.length),i64 (gw (pz d s (min q (200*d.gr))) d.u.length),i64 (gw (lJ d s (min q (200*d.gr))) d.u.length)],G) :=
 cg rfl rfl (by
  obtain⟨t,hb⟩:=ahB d.u s.u d.gr (min q (200*d.gr)) [];have hgr:=pA.gr;have Hv:=pA.u;have wW:=hf.2.2.1;generalize hM:min q (200*d.gr)=M at *;by_cases he:jR d.u s.u d.gr M=0
  ·obtain⟨h1,h2⟩:=En he
   have hl:=y8 h1;have hV:=Tz d.u s.u (gX d.u s.u d.gr M) (by omega) []
   rw[TS h1]at hV;simp only[Bq]at hV;have f1:gH d s M=fun j=>nth (gX d.u s.u d.gr M) j:=by funext j;simp[gH,he]
   have f2:pz d s M=fun j=>pow (nth d.u j) (nth (gX d.u s.u d.gr M) j):=by funext j;simp only[pz,f1]
   have f3:lJ d s M=fun j=>il (nth s.u j) (nth (gX d.u s.u d.gr M) j):=by funext j;simp only[lJ,f1]
   have e1:gw (gH d s M) d.u.length=(gX d.u s.u d.gr M).sum:=by rw[f1,M5 _ _ (by omega),List.take_of_length_le (by omega)]
   have e2:gw (pz d s M) d.u.length=ix d.u (gX d.u s.u d.gr M):=by rw[f2,UY hl.1 _ (Nat.le_refl _),List.take_of_length_le (by omega),List.take_of_length_le (by omega)]
   have e3:gw (lJ d s M) d.u.length=iy s.u (gX d.u s.u d.gr M):=by rw[f3,UZ hl.2 _ (by omega),List.take_of_length_le (by omega),List.take_of_length_le (by omega)]
   rw[e1,e2,e3];generalize hE:gX d.u s.u d.gr M=E at *;generalize ix d.u E=PW at *;generalize iy s.u E=ST at *;generalize E.sum=SU at *;simp (disch:=omega) [-getElem?_pos,wrap64,F5,hM,hb,he,hV];refine go_loop (fun i:Nat=>aaI (.slice none 1 (E.map fun n=>[i64 n])) (.slice (some 1063) 3 ((nG d s M i).map Us.row)) SU PW ST (jQ d.u) d.u.length i s.row i G) (fun i=>i≤d.u.length) (fun i=>d.u.length-i) 0 rfl (by simp[nG]) (by omega) ?_
   intro i hi;have qE:=HB (d:=d) (s:=s) (m:=M) (n:=i);simp (disch:=omega) [-getElem?_pos,wrap64,Ru];refine b9 (fun h5=>?_) (fun h5=>?_)
   ·have h5:i<d.u.length:=by omega
    have h6:i<s.u.length:=by omega
    have h7:i<E.length:=by omega
    have hv:fc (nth d.u i) (nth s.u i):=hf.2.2.2.2.1 i h5;have kG:gH d s M i=nth E i:=by rw[f1]
    have hm:jx (nth d.u i) (nth s.u i) (nth E i):=(Bu.1 (Hz h1 i h5)).2.2;have hN:=Mi (nth d.u i) (nth s.u i) (nth E i) [];have hnE:qH (nth d.u i) (nth s.u i) (nth E i)=0:=by rw[aid hv,if_pos hm]
    rw[if_pos hnE]at hN;have hx:qg (nth d.u i) (nth s.u i) (nth E i)=qI (nth s.u i) (nth E i):=by simp[qg,hm]
    simp (disch:=omega) [-getElem?_pos,wrap64,bp (l:=d.u),bp (l:=s.u),ez (l:=E),hN,qE];refine cc (i+1) (by simp[zL,kG,hx]) (by omega) (by omega)
   ·obtain rfl:i=d.u.length:=by omega
    simp (disch:=omega) [-getElem?_pos,wrap64,qE]
  ·have f1:gH d s M=fun _=>0:=by funext j;simp[gH,he]
   have f2:pz d s M=fun _=>0:=by funext j;simp[pz,f1,pow]
   have f3:lJ d s M=fun _=>0:=by funext j;simp[lJ,f1,il]
   rw[f1,f2,f3,M6];simp (disch:=omega) [-getElem?_pos,wrap64,F5,hM,hb,he];refine go_loop (fun i:Nat=>aaF (.slice (some 1063) 3 ((nG d s M i).map Us.row)) (jy s.u) s.u.length i i G) (fun i=>i≤s.u.length) (fun i=>s.u.length-i) 0 rfl (by simp[nG]) (by omega) ?_
   intro i hi;have qE:=HB (d:=d) (s:=s) (m:=M) (n:=i);simp (disch:=omega) [-getElem?_pos,wrap64,Rq];refine b9 (fun h5=>?_) (fun h5=>?_)
   ·have h5:i<d.u.length:=by omega
    have h6:i<s.u.length:=by omega
    have hv:fc (nth d.u i) (nth s.u i):=hf.2.2.2.2.1 i h5;have qi:=hv.2.1;have kG:gH d s M i=0:=by rw[f1]
    have hx:=aiS hv;by_cases h7:0<(nth s.u i).cq
    ·rw[if_pos h7]at hx
     simp (disch:=omega) [-getElem?_pos,wrap64,bp (l:=s.u),h7,qE];refine cc (i+1) (by simp[zL,kG,hx]) (by omega) (by omega)
    ·rw[if_neg h7]at hx
     simp (disch:=omega) [-getElem?_pos,wrap64,bp (l:=s.u),h7,qE];refine cc (i+1) (by simp[zL,kG,hx]) (by omega) (by omega)
   ·obtain rfl:i=s.u.length:=by omega
    rw[wW]at qE ⊢;simp (disch:=omega) [-getElem?_pos,wrap64,qE])
end Go.Proofs.YtmpikpodpgnjhaaGreat
namespace Go.Proofs.YtmpikpodpgnjhaaGreat
set_option linter.all false
open Go.Vm
attribute [local simp] eQ eR eO eP
theorem U0(d:Dm)(s:Ds)(inf los rel:Int):∃G',bo F 19 [dm d,dst s,i64 inf,i64 los,i64 rel] []=some (qh d s inf los rel,G'):=by
 suffices h:∀Q:V→List aV→Prop,(∀G',Q (qh d s inf los rel) G')→iP (bo F) 19 [dm d,dst s,i64 inf,i64 los,i64 rel] [] Q by
  obtain⟨_,G',h,rfl⟩:=h (fun v G'=>v=qh d s inf los rel) fun _=>rfl;exact⟨G',h⟩
 intro Q hQ;refine jl rfl rfl ?_;by_cases hd:dE d s=0
 ·obtain⟨pA,hf⟩:=Em hd
  have uk:lvl d s=jn d.r s.v:=by simp[lvl,hd]
  by_cases ho:[inf,los,rel].any uS=false
  ·have he:mV d s inf los rel=0:=by unfold mV;rw[if_neg (fun g=>g hd),ho];rfl
   unfold qh at hQ;rw[if_pos he]at hQ;have hx:=ho;simp only[uS,List.any_cons,List.any_nil,Bool.or_false,Bool.or_eq_false_iff,Bool.not_eq_false',decide_eq_true_eq]at hx;obtain⟨x1,x2,x3⟩:=hx;have i1:(decide (0≤inf)&&decide (inf≤1073741824))=true:=by simp;omega
   have i2:(decide (0≤los)&&decide (los≤1073741824))=true:=by simp;omega
   have i3:(decide (0≤rel)&&decide (rel≤1073741824))=true:=by simp;omega
   have p:=M7 pA hf x1 x2 x3;have hv:=hf.1;have hC:=Hy pA.r;have hD:=Hx pA.r;have U3:=D6 d.r d.r.d [];rw[aia pA.r,if_pos rfl,show g9 d.r.c d.r.d=BF d from rfl]at U3;have U4:=D6 d.r d.r.t [];rw[Hu pA.r,if_pos rfl,show g9 d.r.c d.r.t=jC d from rfl]at U4;have hL:s.v+inf-min los (s.v+inf)=eA s inf los:=rfl;have qy:max 0 (eA s inf los-BF d)=jD d (eA s inf los):=by unfold jD;omega
   have hLr:0≤eA s inf los∧eA s inf los≤4611686018427387904:=by unfold eA;omega
   have Ni:0≤jD d (eA s inf los)∧jD d (eA s inf los)≤4611686018427387904:=by unfold jD;omega
   have hU:=aiT pA hf (q:=min rel (jD d (eA s inf los))) (by omega) []
   rw[show min (min rel (jD d (eA s inf los))) (200*d.gr)=ko d rel (eA s inf los) from rfl]at hU;rw[show gw (gH d s (ko d rel (eA s inf los))) d.u.length=fP d s inf los rel from rfl]at hU;have hT:=p.T0;have hTr:=p.Tr;have hW:min rel (jD d (eA s inf los))-fP d s inf los rel=mB d rel (eA s inf los) (fP d s inf los rel):=rfl;have hS:=ah4 d.g s.g (jn d.r s.v) (mB d rel (eA s inf los) (fP d s inf los rel)) [];have hF:=HD d.g s.g (jn d.r s.v) (mB d rel (eA s inf los) (fP d s inf los rel))
   have hP:min (oh d.g s.g (jn d.r s.v) (mB d rel (eA s inf los) (fP d s inf los rel))) (jD d (eA s inf los)-fP d s inf los rel)=kR d s inf los rel:=rfl;have hP0:=p.P0;have hP1:=p.P1;have hO:max 0 (eA s inf los-(fP d s inf los rel+kR d s inf los rel)-jC d)=qS d s inf los rel:=by unfold qS;omega
   have hO0:0≤qS d s inf los rel∧qS d s inf los rel≤4611686018427387904:=by unfold qS;omega
   have hmn:min 1073741824 (fP d s inf los rel+kR d s inf los rel)=min (fP d s inf los rel+kR d s inf los rel) 1073741824:=Int.min_comm _ _;unfold lK la at hQ;generalize qS d s inf los rel=O at *;generalize kR d s inf los rel=P at *;generalize mB d rel (eA s inf los) (fP d s inf los rel)=W at *;generalize fP d s inf los rel=T at *;generalize hLL:eA s inf los=L at *;simp (config:={ maxSteps:=2000000 }) +contextual (disch:=omega) [-getElem?_pos,-List.length_eq_zero_iff,-Int.natCast_eq_zero,wrap64,yH,Et,hd,uk,cY,i1,i2,i3,U3,U4]
   simp (config:={ maxSteps:=2000000 }) +contextual (disch:=omega) [-getElem?_pos,-List.length_eq_zero_iff,-Int.natCast_eq_zero,wrap64,hL,qy,hU];simp (config:={ maxSteps:=2000000 }) +contextual (disch:=omega) [-getElem?_pos,-List.length_eq_zero_iff,-Int.natCast_eq_zero,wrap64,hW,hS,hP,hO,hmn];exact hQ _
  ·have ho:[inf,los,rel].any uS=true:=(Bool.eq_false_or_eq_true _).resolve_right ho
   have he:mV d s inf los rel=1:=by unfold mV;rw[if_neg (fun g=>g hd),ho];rfl
   unfold qh at hQ;rw[he,if_neg (by omega)]at hQ
   simp only[uS,List.any_cons,List.any_nil,Bool.or_false]at ho;by_cases i1:0≤inf∧inf≤1073741824
   ·by_cases i2:0≤los∧los≤1073741824
    ·by_cases i3:0≤rel∧rel≤1073741824
     ·simp[i1,i2,i3]at ho
     ·have j1:(decide (0≤inf)&&decide (inf≤1073741824))=true:=by simp;omega
      have j2:(decide (0≤los)&&decide (los≤1073741824))=true:=by simp;omega
      have j3:(decide (0≤rel)&&decide (rel≤1073741824))=false:=by simp;omega
      simp (config:={ maxSteps:=2000000 }) +contextual (disch:=omega) [-getElem?_pos,-List.length_eq_zero_iff,-Int.natCast_eq_zero,wrap64,yH,Et,hd,uk,cY,j1,j2,j3];exact hQ _
    ·have j1:(decide (0≤inf)&&decide (inf≤1073741824))=true:=by simp;omega
     have j2:(decide (0≤los)&&decide (los≤1073741824))=false:=by simp;omega
     simp (config:={ maxSteps:=2000000 }) +contextual (disch:=omega) [-getElem?_pos,-List.length_eq_zero_iff,-Int.natCast_eq_zero,wrap64,yH,Et,hd,uk,cY,j1,j2];exact hQ _
   ·have j1:(decide (0≤inf)&&decide (inf≤1073741824))=false:=by simp;omega
    simp (config:={ maxSteps:=2000000 }) +contextual (disch:=omega) [-getElem?_pos,-List.length_eq_zero_iff,-Int.natCast_eq_zero,wrap64,yH,Et,hd,uk,cY,j1];exact hQ _
 ·have he:mV d s inf los rel=dE d s:=by unfold mV;rw[if_pos hd]
  unfold qh at hQ;rw[he,if_neg hd]at hQ;simp[wrap64,yH,Et,hd];exact hQ _
end Go.Proofs.YtmpikpodpgnjhaaGreat
namespace Go.Proofs.YtmpikpodpgnjhaaGreat
set_option linter.all false
open Go.Vm
attribute [local simp] eQ eR eO eP
theorem ai0(s:List Us)(hs:s.length≤1000)(G:List aV):bo F 138 [jy s] G=some (D0 s,G):=by
 cases s with
 |nil =>
  refine JS (p:=0) (m:=3) rfl rfl rfl rfl ?_ ?_
  ·simp (disch:=omega) [wrap64,DJ]
  ·simp (disch:=omega) [wrap64,DJ]
 |cons a s =>
  have hs:s.length+1≤1000:=by simpa using hs
  show bo F 138 [.slice none 3 (a.row::s.map Us.row)] G=some (.slice (some 0) 3 (a.row::s.map Us.row),G);refine JT (p:=0) rfl rfl rfl (fun m=>by simp) ?_
  simp (disch:=omega) [wrap64,DJ]
theorem ai1(s:List Gs)(hs:s.length≤1000)(G:List aV):bo F 139 [jo s] G=some (HE s,G):=by
 cases s with
 |nil =>
  refine JS (p:=0) (m:=2) rfl rfl rfl rfl ?_ ?_
  ·simp (disch:=omega) [wrap64,DK]
  ·simp (disch:=omega) [wrap64,DK]
 |cons a s =>
  have hs:s.length+1≤1000:=by simpa using hs
  show bo F 139 [.slice none 2 (a.row::s.map Gs.row)] G=some (.slice (some 0) 2 (a.row::s.map Gs.row),G);refine JT (p:=0) rfl rfl rfl (fun m=>by simp) ?_
  simp (disch:=omega) [wrap64,DK]
end Go.Proofs.YtmpikpodpgnjhaaGreat
namespace Go.Proofs.YtmpikpodpgnjhaaGreat
set_option linter.all false
open Go.Vm
end Go.Proofs.YtmpikpodpgnjhaaGreat
namespace Go.Proofs.YtmpikpodpgnjhaaGreat
set_option linter.all false
open Go.Vm
attribute [local simp] eQ eR eO eP
theorem ai2(g:List Gs)(hg:g.length≤1000)(G:List aV):bo F 62 [jo g,jo g] G=some (.bool true,G) :=
 cg rfl rfl (by
  simp (disch:=omega) [wrap64,KN];refine go_loop (fun i:Nat=>aaS (jo g) (jo g) g.length i G) (fun i=>i≤g.length) (fun i=>g.length-i) 0 rfl (by simp) (by omega) ?_
  intro i hi;simp (disch:=omega) [wrap64,Rz];refine b9 (fun h5=>?_) (fun h5=>?_)
  ·have h5:i<g.length:=by omega
   simp (disch:=omega) [wrap64,bp (l:=g),V.gQ,eI,jI];refine cc (i+1) (by simp) (by omega) (by omega)
  ·trivial)
theorem ai3(s:Ds)(hu:s.u.length≤1000)(hg:s.g.length≤1000)(G:List aV):bo F 20 [dst s,dst s] G=some (.bool true,G) :=
 cg rfl rfl (by
  have h:=ai2 s.g hg [];simp (disch:=omega) [wrap64,KC,h];refine go_loop (fun i:Nat=>Z7 s.u.length i s.row s.row G) (fun i=>i≤s.u.length) (fun i=>s.u.length-i) 0 rfl (by simp) (by omega) ?_
  intro i hi;simp (disch:=omega) [wrap64,Rb];refine b9 (fun h5=>?_) (fun h5=>?_)
  ·have h5:i<s.u.length:=by omega
   simp (disch:=omega) [wrap64,bp (l:=s.u),V.gQ,eI,jI];refine cc (i+1) (by simp) (by omega) (by omega)
  ·trivial)
end Go.Proofs.YtmpikpodpgnjhaaGreat
namespace Go.Proofs.YtmpikpodpgnjhaaGreat
set_option linter.all false
open Go.Vm
def okF(A B C:List Int)(i:Nat):Prop:=(0≤nth A i∧nth A i≤1073741824)∧(0≤nth B i∧nth B i≤1073741824)∧(0≤nth C i∧nth C i≤1073741824)
instance {A B C:List Int} {i:Nat}:Decidable (okF A B C i):=inferInstanceAs (Decidable (_∧_∧_))
def okA(A B C:List Int):Prop:=∀i,i<A.length→okF A B C i
noncomputable instance {A B C:List Int}:Decidable (okA A B C):=Classical.propDecidable _
end Go.Proofs.YtmpikpodpgnjhaaGreat
namespace Go.Proofs.YtmpikpodpgnjhaaGreat
set_option linter.all false
open Go.Vm
attribute [local simp] eQ eR eO eP
theorem ai5(r:Dr)(ht:0≤r.tur∧r.tur≤1099511627776)(hs:0≤r.spi∧r.spi≤1099511627776)(ho:0≤r.ovr∧r.ovr≤1099511627776)(G:List aV):bo F 95 [dr r] G=some (i64 (r.tur+r.spi+r.ovr),G) :=
 cg rfl rfl (by
  simp (disch:=omega) [wrap64,KY])
end Go.Proofs.YtmpikpodpgnjhaaGreat
