/- Parts of the proof, joined: Cas6, Cas7, Cas8, Cas9, Cas10, Cas11, Flo2, Cas12, Sne1, Cdm1. -/
import Derived.Test.YtmpikpodpgnjhaaGreatDh
import Derived.Test.YtmpikpodpgnjhaaGreatDg
namespace Go.Proofs.YtmpikpodpgnjhaaGreat
set_option linter.all false
open Go.Vm
attribute [local simp] eS eT eQ eR
structure Co where
 arr:List Int
 d:List Ds
 w:List (List Int)
 re:List Dr
 lf:List Int
 cm:List Int
def rO(r:Dr):Int:=r.tur+r.spi+r.ovr
noncomputable def lR(c:Cs)(p:Sp)(v:Co)(k:Nat):Int:=match mh c.s k with
 |none=>0
 |some i=>m5 (nth c.s i).d (nth v.d i) (nth v.arr k) (nth p.b i) (nth p.c i)
noncomputable def vR(c:Cs)(p:Sp)(v:Co)(k i:Nat):Dr:=lu (nth c.s i).d (nth v.d i) (nth v.arr k) (nth p.b i) (nth p.c i)
noncomputable def fG(c:Cs)(p:Sp)(v:Co)(k:Nat):Int:=match mh c.s k with
 |none=>nth v.arr k
 |some i=>rO (vR c p v k i)
noncomputable def vD(c:Cs)(p:Sp)(v:Co)(k:Nat):Co:=match mh c.s k with
 |none=>{ v with lf:=v.lf++[fG c p v k] }
 |some i=>{ v with d:=v.d.set i (lQ (nth c.s i).d (nth v.d i) (nth v.arr k) (nth p.b i) (nth p.c i)),re:=v.re++[vR c p v k i],lf:=v.lf++[fG c p v k] }
noncomputable def nQ(c:Cs)(v:Co)(x:Int)(k:Nat):Int:=match lx c.r.l k with
 |none=>0
 |some j=>gG (nth c.r.l j).r (nth v.w j) x
noncomputable def vL(c:Cs)(v:Co)(x:Int)(k:Nat):Co:=match lx c.r.l k with
 |none=>v
 |some j=>{ v with w:=v.w.set j (m8 (nth c.r.l j).r (nth v.w j) x),cm:=v.cm++[m6 (nth c.r.l j).r (nth v.w j) x],arr:=v.arr.set (nth c.r.l j).t.toNat (nth v.arr (nth c.r.l j).t.toNat+m6 (nth c.r.l j).r (nth v.w j) x) }
noncomputable def vE(c:Cs)(p:Sp)(v:Co)(k:Nat):Int:=if lR c p v k≠0 then lR c p v k else nQ c v (fG c p v k) k
noncomputable def vS(c:Cs)(p:Sp)(v:Co)(k:Nat):Co:=vL c (vD c p v k) (fG c p v k) k
structure Vc(c:Cs)(p:Sp)(v:Co)(k:Nat):Prop where
 c0:gx c=0
 p:nO c p
 xy:(v.arr.length:Int)=c.r.n
 arr:∀j,j<v.arr.length→0≤nth v.arr j∧nth v.arr j≤1073741824+1125899906842624*k
 d:mI c v.d
 w:BK c v.w
 rl:v.re.length≤k
 ll:v.lf.length=k
 cl:v.cm.length≤k
abbrev crs(c:Cs)(p:Sp)(t:Int)(v:Co):List V:=[i64 t,.dB 0 4 v.d.length,.dB 1 1 v.w.length,i64 c.r.n,nN c.r.l,rK c.s,ints p.a,ints p.b,ints p.c,.dB 2 1 v.arr.length,
 .fC 7 (v.re.map Dr.row),.fC 1 (v.lf.map fun n=>[i64 n]),.fC 1 (v.cm.map fun n=>[i64 n])]
abbrev Gc(c:Cs)(p:Sp)(t:Int)(v:Co)(J:List aV):List aV:=.cells (jA v.d)::.cells (ld v.w)::.cells (dS v.arr)::.cells (crs c p t v)::J
theorem HY{l:List Ds}{i:Nat}(h:i<l.length):((jA l).drop (i*4)).take 4=(nth l i).row:=Ns (row:=Ds.row) (fun _=>rfl) h
theorem VF{l:List Ds}{i:Nat}(h:i<l.length)(x:Ds):jc (jA l) (i*4) x.row=jA (l.set i x):=HP (row:=Ds.row) (fun _=>rfl) h
theorem HZ{l:List (List Int)}{i:Nat}(h:i<l.length):((ld l).drop i).take 1=[ints (nth l i)]:=by
 have:=Ns (row:=fun p=>[ints p]) (k:=1) (fun _=>rfl) h
 rwa [Nat.mul_one]at this
theorem ajF{l:List (List Int)}{i:Nat}(h:i<l.length)(x:List Int):jc (ld l) i [ints x]=ld (l.set i x):=by
 have:=HP (row:=fun p=>[ints p]) (k:=1) (fun _=>rfl) (x:=x) h
 rwa [Nat.mul_one]at this
theorem VG{d:Dm}{s:Ds}{a b c:Int}(h:m5 d s a b c=0):fB d=0∧hH d s∧(0≤a∧a≤1073741824)∧(0≤b∧b≤1073741824)∧(0≤c∧c≤1073741824):=by
 unfold m5 at h;split at h
 ·rename_i h1;exact absurd h h1
 ·rename_i h1
  split at h
  ·cases h
  ·rename_i h2
   have h1:dE d s=0:=Decidable.of_not_not h1;have hd:fB d=0:=by
    unfold dE at h1;split at h1
    ·rename_i h3;exact absurd h1 h3
    ·rename_i h3;exact Decidable.of_not_not h3
   simp only[List.any_cons,List.any_nil,uS,Bool.or_false,Bool.or_eq_true,Bool.not_eq_true',decide_eq_false_iff_not,not_or,Classical.not_not]at h2;exact⟨hd,(En h1).2,h2.1,h2.2.1,h2.2.2⟩
theorem VH{d:Dm}{s:Ds}{a b c:Int}(h:m5 d s a b c=0):((0≤(lu d s a b c).tur∧(lu d s a b c).tur≤1073741824)∧(0≤(lu d s a b c).spi∧(lu d s a b c).spi≤17179869184)∧(0≤(lu d s a b c).ovr∧(lu d s a b c).ovr≤1073741824)) ∧
  (0≤(lu d s a b c).los∧(lu d s a b c).los≤1073741824)∧(lQ d s a b c).v=s.v+a-(lu d s a b c).los-rO (lu d s a b c):=by
 obtain⟨hd,hf,ha,hb,hc⟩:=VG h;have pC:=tY hd;have p:=M9 pC hf ha hb hc;have hv:=hf.1;have hL:eC s a b=s.v+a-min b (s.v+a):=rfl;have hO:qT d s a b c=max (eC s a b-(fT d s a b c+kZ d s a b c)-jL d) 0:=rfl;have IX:=p.T0;have hTr:=p.Tr;have hP0:=p.P0;have hP1:=p.P1;have e1:(lu d s a b c).los=min b (s.v+a):=rfl;have e2:(lu d s a b c).tur=fT d s a b c:=rfl;have e3:(lu d s a b c).spi=kZ d s a b c:=rfl;have e4:(lu d s a b c).ovr=qT d s a b c:=rfl;have e5:(lQ d s a b c).v=eC s a b-(fT d s a b c+kZ d s a b c)-qT d s a b c:=rfl;unfold rO;rw[e1,e2,e3,e4,e5];omega
theorem NA{r:Rc}{p:List Int}{x:Int}(h:gG r p x=0):e9 r=0∧iy r p∧(0≤x∧x≤1073741824)∧sX r p x:=by
 unfold gG at h;split at h
 ·rename_i h1;exact absurd h h1
 ·rename_i h1
  split at h
  ·rename_i h2
   split at h
   ·rename_i h3;exact⟨Decidable.of_not_not h1,h2,h3⟩
   ·cases h
  ·cases h
theorem EB{r:Rc}{p:List Int}{x:Int}(h:gG r p x=0):0≤m6 r p x∧m6 r p x≤1125899906842624:=by
 obtain⟨h1,h2,h3,h4⟩:=NA h;have hv:=wc h1;have q:=wg hv h2 h3 0;have:=h4 0 (by have:=hv.pos;omega)
 have a:=Int.ediv_nonneg q.1 (show 0≤r.den by have:=hv.den;omega)
 have b:=Int.ediv_le_self r.den q.1;unfold m6;omega
theorem NB{l:List (List Int)}{i:Nat}(x:List Int):(ld l).set i (.slice none 1 (x.map fun n=>[i64 n]))=ld (l.set i x):=by
 rcases Nat.lt_or_ge i l.length with h|h
 ·rw[←ajF h];rfl
 ·rw[List.set_eq_of_length_le (by simpa using h),List.set_eq_of_length_le h]
set_option maxRecDepth 100000 in
set_option maxHeartbeats 4000000 in
theorem ajG{c:Cs}(hr:oq c.r){p:Sp}{v:Co}{k:Nat}(h:Vc c p v k)(hk:k<v.arr.length)(t:Int)(J:List aV) :
  ∃G',bo F 113 [.bN 3 0,i64 k] (Gc c p t v J)=some (i64 (vE c p v k),G')∧(vE c p v k=0→G'=Gc c p t (vS c p v k) (J++[.cells [i64 k]])):=by
 suffices hh:∀Q:V→List aV→Prop,(∀G',(vE c p v k=0→G'=Gc c p t (vS c p v k) (J++[.cells [i64 k]]))→Q (i64 (vE c p v k)) G')→iV (bo F) 113 [.bN 3 0,i64 k] (Gc c p t v J) Q by
  obtain⟨_,G',h,rfl,h1⟩:=hh (fun x G'=>x=i64 (vE c p v k)∧(vE c p v k=0→G'=Gc c p t (vS c p v k) (J++[.cells [i64 k]]))) fun G' g=>⟨rfl,g⟩;exact⟨G',h,h1⟩
 intro Q hQ;refine ju rfl rfl ?_;have cv:=ot h.c0;generalize xz:J++[aV.cells [i64 k]]=J' at hQ;have hJ:J'[J.length]?=some (.cells [i64 k]):=by rw[←xz];exact List.getElem?_concat_length
 have qj:∀G0 G1 G2 G3,bo F 157 [rK c.s,.fn 158 [.bN (J.length+1+1+1+1) 0]] (G0::G1::G2::G3::J')=some (i64 (rM (mh c.s k)),G0::G1::G2::G3::J') :=
  fun G0 G1 G2 G3=>ajq c.s (by have:=cv.s;omega) k (G:=G0::G1::G2::G3::J') hJ
 have qk:∀G0 G1 G2 G3,bo F 160 [nN c.r.l,.fn 161 [.bN (J.length+1+1+1+1) 0]] (G0::G1::G2::G3::J')=some (i64 (rM (lx c.r.l k)),G0::G1::G2::G3::J') :=
  fun G0 G1 G2 G3=>ajr c.r.l (by have:=(m9 cv.k).len;omega) k (G:=G0::G1::G2::G3::J') hJ
 have EC:k<v.arr.length:=hk;have kn:=h.ll;have apD:k≤12:=by have:=h.xy;have:=cv.n;omega
 have yn:=h.rl;have dD:=h.cl;have A1:∀j,lx c.r.l k=some j→j<c.r.l.length∧j<v.w.length∧(nth c.r.l j).t.toNat<v.arr.length∧0≤(nth c.r.l j).t:=fun j hl=>by
  have hj:=(wi hl).1;have nD:j<c.r.l.length:=by omega
  have:=(m9 cv.k).link nD;have:=h.xy;have:=h.w.1;omega
 cases hs:mh c.s k with
 |none =>
  have e0:lR c p v k=0:=by simp only[lR,hs]
  have e1:fG c p v k=nth v.arr k:=by simp only[fG,hs]
  have eE:vE c p v k=nQ c v (nth v.arr k) k:=by rw[vE,e0,e1];rfl
  have e2:vS c p v k=vL c { v with lf:=v.lf++[nth v.arr k] } (nth v.arr k) k:=by rw[vS,vD,e1,hs]
  rw[hs]at qj;cases hl:lx c.r.l k with
  |none =>
   rw[hl]at qk;simp only[rM]at qj qk;have e3:vE c p v k=0:=by rw[eE,nQ,hl]
   rw[e3]at hQ;simp +contextual (disch:=omega) [-getElem?_pos,-List.length_eq_zero_iff,-Int.natCast_eq_zero,wrap64,vP,qj,xz,hJ,kT,qk];refine hQ _ fun _=>?_;rw[e2,vL,hl];simp
  |some j =>
   rw[hl]at qk;simp only[rM]at qj qk;obtain⟨nD,EW,NC,hj4⟩:=A1 j hl;have hR:=Vi (nth c.r.l j).r (hr.2 j nD) (nth v.w j) (by have:=(h.w.2 j nD).2.1;have:=(wc (h.w.2 j nD).1).len;omega) (nth v.arr k)
   have e3:vE c p v k=gG (nth c.r.l j).r (nth v.w j) (nth v.arr k):=by rw[eE,nQ,hl]
   rw[e3]at hQ;by_cases hz:gG (nth c.r.l j).r (nth v.w j) (nth v.arr k)=0
   ·have ho:=EB hz
    have ha:=h.arr (nth c.r.l j).t.toNat NC;rw[Ex hz]at hR;rw[hz]at hQ;simp +contextual (disch:=omega) [-getElem?_pos,-List.length_eq_zero_iff,-Int.natCast_eq_zero,wrap64,vP,qj,xz,hJ,kT,qk,bp (l:=c.r.l),HZ,NB,hR];refine hQ _ fun _=>?_;rw[e2,vL,hl];simp
   ·rw[zP rfl hz]at hR
    simp +contextual (disch:=omega) [-getElem?_pos,-List.length_eq_zero_iff,-Int.natCast_eq_zero,wrap64,vP,qj,xz,hJ,kT,qk,bp (l:=c.r.l),HZ,hR,hz];exact hQ _ fun g=>absurd g hz
 |some i =>
  rw[hs]at qj;have hi:=(wi hs).1;have BO:i<c.s.length:=by omega
  have mr:i<v.d.length:=by have:=h.d.1;omega
  have hpb:i<p.b.length:=by have:=h.p;unfold nO at this;omega
  have hpc:i<p.c.length:=by have:=h.p;unfold nO at this;omega
  obtain⟨Ga,hS⟩:=aiq (nth c.s i).d (nth v.d i) (nth v.arr k) (nth p.b i) (nth p.c i);by_cases he:m5 (nth c.s i).d (nth v.d i) (nth v.arr k) (nth p.b i) (nth p.c i)=0
  ·have NF:=(VH he).1
   have e0:lR c p v k=0:=by simp only[lR,hs,he]
   have e1:fG c p v k=rO (vR c p v k i):=by simp only[fG,hs]
   have eE:vE c p v k=nQ c v (rO (vR c p v k i)) k:=by rw[vE,e0,e1];rfl
   have e2:vS c p v k=vL c { v with d:=v.d.set i (lQ (nth c.s i).d (nth v.d i) (nth v.arr k) (nth p.b i) (nth p.c i)),re:=v.re++[vR c p v k i],lf:=v.lf++[rO (vR c p v k i)] } (rO (vR c p v k i)) k:=by rw[vS,vD,e1,hs]
   rw[qi,if_pos he]at hS;unfold vR at eE e2;generalize lQ (nth c.s i).d (nth v.d i) (nth v.arr k) (nth p.b i) (nth p.c i)=S' at hS e2;generalize lu (nth c.s i).d (nth v.d i) (nth v.arr k) (nth p.b i) (nth p.c i)=R' at hS NF eE e2;have hF:=aiv R' (by omega) (by omega) (by omega)
   rw[show R'.tur+R'.spi+R'.ovr=rO R' from rfl]at hF;have jf:((((jA v.d).set (i*4) (i64 S'.v)).set (i*4+1) (i64 S'.rel)).set (i*4+1+1) (jH S'.u)).set (i*4+1+1+1) (jy S'.g)=jA (v.d.set i S'):=VF mr S';cases hl:lx c.r.l k with
   |none =>
    rw[hl]at qk;simp only[rM]at qj qk;have e3:vE c p v k=0:=by rw[eE,nQ,hl]
    rw[e3]at hQ;simp +contextual (disch:=omega) [-getElem?_pos,-List.length_eq_zero_iff,-Int.natCast_eq_zero,wrap64,vP,qj,xz,hJ,kT,qk,bp (l:=c.s),eB (l:=p.b),eB (l:=p.c),HY,hS,hF,jf];refine hQ _ fun _=>?_;rw[e2,vL,hl];simp
   |some j =>
    rw[hl]at qk;simp only[rM]at qj qk;obtain⟨nD,EW,NC,hj4⟩:=A1 j hl;have hR:=Vi (nth c.r.l j).r (hr.2 j nD) (nth v.w j) (by have:=(h.w.2 j nD).2.1;have:=(wc (h.w.2 j nD).1).len;omega) (rO R')
    have e3:vE c p v k=gG (nth c.r.l j).r (nth v.w j) (rO R'):=by rw[eE,nQ,hl]
    rw[e3]at hQ;by_cases hz:gG (nth c.r.l j).r (nth v.w j) (rO R')=0
    ·have ho:=EB hz
     have ha:=h.arr (nth c.r.l j).t.toNat NC;rw[Ex hz]at hR;rw[hz]at hQ;simp (config:={ maxSteps:=2000000 }) +contextual (disch:=omega) [-getElem?_pos,-List.length_eq_zero_iff,-Int.natCast_eq_zero,wrap64,vP,qj,xz,hJ,kT,qk,bp (l:=c.r.l),HZ,NB,hR,bp (l:=c.s),eB (l:=p.b),eB (l:=p.c),HY,hS,hF,jf];refine hQ _ fun _=>?_;rw[e2,vL,hl];simp
    ·rw[zP rfl hz]at hR
     simp (config:={ maxSteps:=2000000 }) +contextual (disch:=omega) [-getElem?_pos,-List.length_eq_zero_iff,-Int.natCast_eq_zero,wrap64,vP,qj,xz,hJ,kT,qk,bp (l:=c.r.l),HZ,hR,hz,bp (l:=c.s),eB (l:=p.b),eB (l:=p.c),HY,hS,hF,jf];exact hQ _ fun g=>absurd g hz
  ·rw[qi,if_neg he]at hS
   simp only[rM]at qj;have e3:vE c p v k=m5 (nth c.s i).d (nth v.d i) (nth v.arr k) (nth p.b i) (nth p.c i):=by
    have:lR c p v k=m5 (nth c.s i).d (nth v.d i) (nth v.arr k) (nth p.b i) (nth p.c i):=by simp only[lR,hs]
    rw[vE,this,if_pos he]
   rw[e3]at hQ;have he':=decide_eq_false he;simp +contextual (disch:=omega) [-getElem?_pos,-List.length_eq_zero_iff,-Int.natCast_eq_zero,wrap64,vP,qj,xz,hJ,kT,qk,bp (l:=c.s),eB (l:=p.b),eB (l:=p.c),HY,hS,he'];exact hQ _ fun g=>absurd g he
end Go.Proofs.YtmpikpodpgnjhaaGreat
namespace Go.Proofs.YtmpikpodpgnjhaaGreat
set_option linter.all false
open Go.Vm
theorem VI{f:Nat→Int}:∀n,om f n≤n
 |0=>Nat.le_refl _
 |n+1=>by
  unfold om;split
  ·exact Nat.le_succ_of_le (VI n)
  ·exact Nat.le_refl _
theorem VJ{f:Nat→Int}:∀n,0<om f n→f (om f n-1)≠0
 |0,h=>by simp[om]at h
 |n+1,h=>by
  unfold om at h ⊢;split
  ·rename_i h1;rw[if_pos h1]at h;exact VJ n h
  ·rename_i h1;exact h1
theorem ajJ{f:Nat→Int}{n i:Nat}(h:i<n):nth ((List.range n).map f) i=f i:=by
 simp[nth,h]
theorem ajK{r:Rc}{p:List Int}{x:Int}(h:gG r p x=0):iy r (m8 r p x):=by
 obtain⟨h1,h2,h3,h4⟩:=NA h;have hv:=wc h1;have hl:(m8 r p x).length=om (rN r p x) r.w.length:=by simp[m8]
 have hle:=VI (f:=rN r p x) r.w.length;have hn:∀i,i<om (rN r p x) r.w.length→nth (m8 r p x) i=rN r p x i:=fun i hi=>ajJ hi;refine⟨by omega,fun h0=>?_,fun i hi=>?_⟩
 ·rw[hl]at h0 ⊢
  rw[hn _ (by omega)]
  exact VJ _ h0
 ·rw[hn i (by omega)]
  have hd:=hv.den;have q0:=wg hv h2 h3 0;have hb:∀k,k≤r.w.length→0≤rq r p x k∧rq r p x k≤1125899906842624:=fun k hk=>by
   rcases Nat.lt_or_ge k r.w.length with g|g
   ·exact⟨(wg hv h2 h3 k).1,h4 k g⟩
   ·have e:rq r p x k=0:=by unfold rq;rw[we g,we (by have:=h2.1;omega)];simp
    rw[e];omega
  unfold rN;split
  ·have:=hb 1 hv.pos
   have:=Int.emod_nonneg (rq r p x 0) (show r.den≠0 by omega)
   have:=Int.emod_lt_of_pos (rq r p x 0) (show 0<r.den by omega)
   omega
  ·have:=hb (i+1) (by omega)
   omega
theorem H0{α:Type}[Inhabited α]{l:List α}{i j:Nat}{x:α}(h:i<l.length):nth (l.set i x) j=if j=i then x else nth l j:=xw h
theorem VK{c:Cs}{p:Sp}{v:Co}{k:Nat}(he:vE c p v k=0):lR c p v k=0∧nQ c v (fG c p v k) k=0:=by
 unfold vE at he;split at he
 ·rename_i h1;exact absurd he h1
 ·rename_i h1;exact⟨Decidable.of_not_not h1,he⟩
theorem ED{c:Cs}{p:Sp}{v:Co}{k:Nat}:(vD c p v k).arr=v.arr∧(vD c p v k).w=v.w∧(vD c p v k).cm=v.cm∧(vD c p v k).lf=v.lf++[fG c p v k]:=by
 unfold vD;cases mh c.s k<;>exact⟨rfl,rfl,rfl,rfl⟩
theorem ajL{c:Cs}{p:Sp}{v:Co}{k:Nat}(h:mI c v.d)(h0:lR c p v k=0):mI c (vD c p v k).d:=by
 unfold vD;unfold lR at h0;cases hs:mh c.s k with
 |none=>exact h
 |some i =>
  rw[hs]at h0;have hi:=(wi hs).1;have mr:i<v.d.length:=by have:=h.1;omega
  obtain⟨g1,g2,ga,gb,gc⟩:=VG h0;refine⟨by simp only[List.length_set];exact h.1,fun j hj=>?_⟩
  rw[H0 mr];by_cases e:j=i
  ·rw[if_pos e,e]
   exact⟨g1,aiP (tY g1) g2 ga gb gc⟩
  ·rw[if_neg e]
   exact h.2 j hj
theorem Vc.next{c:Cs}{p:Sp}{v:Co}{k:Nat}(h:Vc c p v k)(he:vE c p v k=0):Vc c p (vS c p v k) (k+1):=by
 have cv:=ot h.c0;obtain⟨h0,hL⟩:=VK he;obtain⟨s1,s2,s3,s4⟩:=ED (c:=c) (p:=p) (v:=v) (k:=k);have hd:=ajL h.d h0;have BP:(vD c p v k).re.length≤k+1:=by
  have:=h.rl;unfold vD;cases mh c.s k<;>simp<;>omega
 have kn:=h.ll;have dD:=h.cl;unfold vS vL;unfold nQ at hL;cases hl:lx c.r.l k with
 |none =>
  refine⟨h.c0,h.p,by rw[s1];exact h.xy,fun j hj=>?_,hd,by rw[s2];exact h.w,BP,by rw[s4];simp;omega,by rw[s3];omega⟩
  rw[s1]at hj ⊢;have:=h.arr j hj;omega
 |some j =>
  rw[hl]at hL;have hj:=(wi hl).1;have hjw:j<v.w.length:=by have:=h.w.1;omega
  have ho:=EB hL;have hf:=ajK hL;have hc:=(NA hL).1;simp only[s1,s2,s3,s4];refine⟨h.c0,h.p,by simp only[List.length_set];exact h.xy,fun i hi=>?_,hd,⟨by simp only[List.length_set];exact h.w.1,fun i hi=>?_⟩,BP,by simp;omega,by simp;omega⟩
  ·simp only[List.length_set]at hi
   have BQ:=h.arr i hi;by_cases e:i=(nth c.r.l j).t.toNat
   ·subst e
    rw[H0 hi,if_pos rfl];exact⟨Int.add_nonneg BQ.1 ho.1,Int.le_trans (Int.add_le_add BQ.2 ho.2) (by omega)⟩
   ·rcases Nat.lt_or_ge (nth c.r.l j).t.toNat v.arr.length with g|g
    ·rw[H0 g,if_neg e];exact⟨BQ.1,Int.le_trans BQ.2 (by omega)⟩
    ·rw[List.set_eq_of_length_le g];exact⟨BQ.1,Int.le_trans BQ.2 (by omega)⟩
  ·rw[H0 hjw]
   by_cases e:i=j
   ·rw[if_pos e,e]
    exact⟨hc,hf⟩
   ·rw[if_neg e]
    exact h.w.2 i hi
noncomputable def cB(c:Cs)(p:Sp)(f:Fl):Nat→Co
 |0=>⟨p.a,f.d,f.w,[],[],[]⟩
 |k+1=>vS c p (cB c p f k) k
noncomputable def jO(c:Cs)(f:Fl)(p:Sp):Int :=
 if nO c p then (if fN (p.a++p.b++p.c) 1073741824 then (if f.t=16777216 then 6 else ef (fun k=>vE c p (cB c p f k) k) c.r.n.toNat 0) else 1) else 3
structure Ps where
 re:List Dr
 lf:List Int
 cm:List Int
abbrev Ps.row(x:Ps):List V:=[.slice none 7 (x.re.map Dr.row),ints x.lf,ints x.cm]
abbrev ps(x:Ps):V:=.agg x.row
noncomputable def uW(c:Cs)(f:Fl)(p:Sp):Fl:=⟨f.t+1,(cB c p f c.r.n.toNat).d,(cB c p f c.r.n.toNat).w⟩
noncomputable def xA(c:Cs)(f:Fl)(p:Sp):Ps:=⟨(cB c p f c.r.n.toNat).re,(cB c p f c.r.n.toNat).lf,(cB c p f c.r.n.toNat).cm⟩
abbrev paX(e:Int):V:=.tuple [.agg [i64 0,.slice (some 0) 4 [],.slice (some 0) 1 []],.agg [.slice (some 0) 7 [],.slice (some 0) 1 [],.slice (some 0) 1 []],i64 e]
noncomputable def BR(c:Cs)(f:Fl)(p:Sp)(e:Int):V:=if e=0 then .tuple [fl (uW c f p),ps (xA c f p),i64 0] else paX e
theorem ajQ{l:List Int}:(l.any fun x => !decide (0≤x∧x≤1073741824)) = !decide (fN l 1073741824):=by
 by_cases h:fN l 1073741824
 ·rw[decide_eq_true h]
  refine List.any_eq_false.2 fun x hx=>?_;obtain⟨i,hi,rfl⟩:=List.mem_iff_getElem.1 hx;have:=h i hi;rw[show nth l i=l[i] by simp[nth,hi]]at this
  simp;exact this
 ·rw[decide_eq_false h]
  cases hb:l.any fun x => !decide (0≤x∧x≤1073741824) with
  |true=>rfl
  |false =>
   refine absurd (fun i hi=>?_) h;have:=List.any_eq_false.1 hb (nth l i) (qd hi);simpa using this
theorem vc0{c:Cs}{f:Fl}{p:Sp}(hc:gx c=0)(hf:iQ c f)(hp:nO c p)(ha:fN (p.a++p.b++p.c) 1073741824):Vc c p (cB c p f 0) 0:=by
 refine⟨hc,hp,hp.1,fun j hj=>?_,hf.2.1,hf.2.2,by simp[cB],by simp[cB],by simp[cB]⟩
 have hj:j<p.a.length:=hj;have:=ha j (by simp;omega)
 rw[og (by simp;omega),og hj]at this
 show 0≤nth p.a j∧nth p.a j≤_;omega
theorem vcs{c:Cs}{f:Fl}{p:Sp}(hc:gx c=0)(hf:iQ c f)(hp:nO c p)(ha:fN (p.a++p.b++p.c) 1073741824):∀{k:Nat},(∀j,j<k→vE c p (cB c p f j) j=0)→Vc c p (cB c p f k) k
 |0,_=>vc0 hc hf hp ha
 |k+1,h=>(vcs hc hf hp ha fun j hj=>h j (by omega)).next (h k (by omega))
end Go.Proofs.YtmpikpodpgnjhaaGreat
namespace Go.Proofs.YtmpikpodpgnjhaaGreat
set_option linter.all false
open Go.Vm
attribute [local simp] eS eT eQ eR
theorem VL{c:Cs}{l:List (List Int)}(hk:jN c.r=0)(h:BK c l):Nu l:=by
 have hl:=(m9 hk).len;refine⟨by have:=h.1;omega,fun i hi=>?_⟩
 have pS:i<c.r.l.length:=by have:=h.1;omega
 have:=(h.2 i pS).2.1;have:=(wc (h.2 i pS).1).len;omega
theorem ajS{id t:Nat}{l:List Int}(hl:l≠[]):kG id 0 (.slice (some t) 1 (l.map fun n=>[V.int .i64 n]))=some (.b0 id 1 l.length,some (dS l)):=by
 have h:=Q4 (id:=id) (t:=t) (l:=l) (vs:=[]) rfl hl;simp[kG,h]
theorem ajT{p:List Int}:(dS p).all V.sc=true:=by simp[dS,V.sc]
set_option maxRecDepth 100000 in
set_option maxHeartbeats 2000000 in
theorem ajU{c:Cs}(hr:oq c.r)(hc:gx c=0){f:Fl}(hf:iQ c f)(p:Sp):∃G',bo F 55 [cs c,fl f,sv p] []=some (BR c f p (jO c f p),G'):=by
 suffices h:∀Q:V→Prop,Q (BR c f p (jO c f p))→iV (bo F) 55 [cs c,fl f,sv p] [] fun v _=>Q v by
  obtain⟨_,G',h,rfl⟩:=h (fun v=>v=BR c f p (jO c f p)) rfl;exact⟨G',h⟩
 intro Q hQ;refine ju rfl rfl ?_;have cv:=ot hc;have kv:=m9 cv.k;have tZ:=aju c p;by_cases h1:nO c p
 case neg =>
  rw[show jO c f p=3 by unfold jO;rw[if_neg h1]]at hQ
  simp +contextual (disch:=omega) [-getElem?_pos,-List.length_eq_zero_iff,-Int.natCast_eq_zero,wrap64,A5,tZ,h1];exact hQ
 have pW:p.a.length≤12:=by have:=h1.1;have:=cv.n;omega
 have HE:p.b.length≤6:=by have:=h1.2.1;have:=cv.s;omega
 have dD:p.c.length≤6:=by have:=h1.2.2;have:=cv.s;omega
 have h2:=ajt p.a p.b p.c (by omega)
 have h3:=UO (p.a++p.b++p.c) (by simp;omega) (fun x => !decide (0≤x∧x≤1073741824)) 112 [] (fun n=>ajs n [])
 rw[ajQ]at h3;by_cases h4:fN (p.a++p.b++p.c) 1073741824
 case neg =>
  rw[show jO c f p=1 by unfold jO;rw[if_pos h1,if_neg h4]]at hQ
  rw[decide_eq_false h4]at h3;generalize p.a++p.b++p.c=L at h2 h3;simp +contextual (disch:=omega) [-getElem?_pos,-List.length_eq_zero_iff,-Int.natCast_eq_zero,wrap64,A5,tZ,h1,h2,h3];exact hQ
 rw[decide_eq_true h4]at h3;have e4:=h4;generalize p.a++p.b++p.c=L at h2 h3;by_cases h5:f.t=16777216
 ·rw[show jO c f p=6 by unfold jO;rw[if_pos h1,if_pos e4,if_pos h5]]at hQ
  simp +contextual (disch:=omega) [-getElem?_pos,-List.length_eq_zero_iff,-Int.natCast_eq_zero,wrap64,A5,tZ,h1,h2,h3,h5];exact hQ
 have h6:jO c f p=ef (fun k=>vE c p (cB c p f k) k) c.r.n.toNat 0:=by unfold jO;rw[if_pos h1,if_pos e4,if_neg h5]
 have h7:=Vt f.d (HU hc hf.2.1) [];have h8:=ajo f.w (VL cv.k hf.2.2) [.cells (jA f.d)];have h9:=Vu p.a (by omega)
 have ajV:=hf.1;have ajW:p.a≠[]:=fun g=>by have:=h1.1;rw[g]at this;have:=kv.n;simp at *;omega
 have H3:0<p.a.length:=by have:=h1.1;have:=kv.n;omega
 simp +contextual (disch:=omega) [-getElem?_pos,-List.length_eq_zero_iff,-Int.natCast_eq_zero,wrap64,A5,tZ,h1,h2,h3,h5,h7,h8,h9,ajS ajW,ajT,H3];have EV:=kv.n;refine go_loop (fun x:Nat×List aV=>aaD (.bN 3 0) c.r.n x.1 [z0,.aK,.aK] [.aK,.aK,.aK] (Gc c p (f.t+1) (cB c p f x.1) x.2))
  (fun x=>x.1≤c.r.n.toNat∧(∀j,j<x.1→vE c p (cB c p f j) j=0)∧ef (fun k=>vE c p (cB c p f k) k) (c.r.n.toNat-x.1) x.1=jO c f p) (fun x=>c.r.n.toNat-x.1) (0,[]) rfl (by simp[cB]) ⟨by omega,by simp,h6.symm⟩ ?_
 rintro⟨k,J⟩ ⟨hk,hz,hq⟩;simp only at hk hz hq;have BS:=vcs hc hf h1 e4 hz;simp +contextual (disch:=omega) [-getElem?_pos,-List.length_eq_zero_iff,-Int.natCast_eq_zero,wrap64,Ru];refine b9 (fun fW=>?_) (fun fW=>?_)
 ·have jn:k<c.r.n.toNat:=by omega
  have EC:k<(cB c p f k).arr.length:=by have:=BS.xy;omega
  obtain⟨G',hv,hv2⟩:=ajG hr BS EC (f.t+1) J;rw[ma jn]at hq;by_cases wN:vE c p (cB c p f k) k=0
  ·obtain rfl:=hv2 wN
   rw[if_pos wN]at hq;rw[wN]at hv;simp +contextual (disch:=omega) [-getElem?_pos,-List.length_eq_zero_iff,-Int.natCast_eq_zero,wrap64,hv];refine cc (k+1,J++[.cells [i64 k]]) (by simp[cB]) ⟨by simp only;omega,fun j hj=>?_,hq⟩ (by simp only;omega)
   rcases Nat.lt_or_ge j k with g|g
   ·exact hz j g
   ·rwa [show j=k by simp only at hj;omega]
  ·rw[if_neg wN]at hq
   rw[←hq,BR,if_neg wN]at hQ;simp +contextual (disch:=omega) [-getElem?_pos,-List.length_eq_zero_iff,-Int.natCast_eq_zero,wrap64,hv,wN];exact hQ
 ·obtain rfl:k=c.r.n.toNat:=by omega
  rw[mU]at hq;rw[←hq,BR,if_pos rfl]at hQ;simp +contextual (disch:=omega) [-getElem?_pos,-List.length_eq_zero_iff,-Int.natCast_eq_zero,wrap64,zR,HS];exact hQ
end Go.Proofs.YtmpikpodpgnjhaaGreat
namespace Go.Proofs.YtmpikpodpgnjhaaGreat
set_option linter.all false
open Go.Vm
attribute [local simp] eS eT eQ eR
abbrev VM(t:Option Nat)(e:Int):V:=.tuple [.agg [i64 0,.slice t 4 [],.slice t 1 []],.agg [.slice t 7 [],.slice t 1 [],.slice t 1 []],i64 e]
noncomputable def nR(c:Cs)(f:Fl)(p:Sp):Int:=if pd c f≠0 then pd c f else jO c f p
noncomputable def qU(t:Option Nat)(c:Cs)(f:Fl)(p:Sp):V:=if nR c f p=0 then .tuple [fl (uW c f p),ps (xA c f p),i64 0] else VM t (nR c f p)
theorem VN{c:Cs}{f:Fl}(h:pd c f=0):gx c=0∧iQ c f:=by
 unfold pd at h;split at h
 ·rename_i h1;exact absurd h h1
 ·rename_i h1
  split at h
  ·exact⟨Decidable.of_not_not h1,by assumption⟩
  ·cases h
theorem NG{c:Cs}(hr:oq c.r){f:Fl}(hf:ub f)(p:Sp):∃t G',bo F 17 [cs c,fl f,sv p] []=some (qU t c f p,G'):=by
 have hd:=ajn c hr f hf;by_cases hz:pd c f=0
 ·obtain⟨h1,h2⟩:=VN hz
  obtain⟨Ga,hp⟩:=ajU hr h1 h2 p;have e:nR c f p=jO c f p:=by unfold nR;rw[if_neg (by omega)]
  refine⟨none,[],?_⟩;unfold qU;rw[e];unfold BR at hp;by_cases h3:jO c f p=0
  ·rw[if_pos h3]at hp ⊢
   refine cg rfl rfl ?_;simp +contextual (disch:=omega) [-getElem?_pos,-List.length_eq_zero_iff,-Int.natCast_eq_zero,wrap64,Df,hd,hz,hp]
  ·rw[if_neg h3]at hp ⊢
   refine cg rfl rfl ?_;simp +contextual (disch:=omega) [-getElem?_pos,-List.length_eq_zero_iff,-Int.natCast_eq_zero,wrap64,Df,hd,hz,hp]
 ·have e:nR c f p=pd c f:=by unfold nR;rw[if_pos hz]
  refine⟨some 0,[],?_⟩;unfold qU;rw[e,if_neg hz];refine cg rfl rfl ?_;simp +contextual (disch:=omega) [-getElem?_pos,-List.length_eq_zero_iff,-Int.natCast_eq_zero,wrap64,Df,hd,hz]
def wu(g:Nat→Int)(n:Nat)(m:Nat)(k:Int):Prop:=m≤n∧(∀j,j<m→g j<k)∧∀j,m≤j→j<n→k≤g j
theorem uX{g:Nat→Int}{n m i:Nat}{k:Int}(h:wu g n m k)(Hf:∀j,0<j→j<n→g (j-1)<g j)(hi:i<n)(hg:g i=k):i=m∧wu g n (m+1) (k+1):=by
 have VP:∀a d,a+d+1<n→g a<g (a+d+1):=fun a d=>by
  induction d with
  |zero=>intro hd;have:=Hf (a+0+1) (by omega) hd;simpa using this
  |succ d ih =>
   intro hd;have h1:=ih (by omega)
   have h2:=Hf (a+(d+1)+1) (by omega) hd
   rw[show a+(d+1)+1-1=a+d+1 by omega]at h2
   omega
 have hmi:m≤i:=by
  rcases Nat.lt_or_ge i m with g1|g1
  ·have:=h.2.1 i g1;omega
  ·exact g1
 have him:i=m:=by
  rcases Nat.lt_or_ge m i with g1|g1
  ·have h1:=VP m (i-m-1) (by omega)
   rw[show m+(i-m-1)+1=i by omega]at h1
   have:=h.2.2 m (Nat.le_refl _) (by omega)
   omega
  ·omega
 subst him;refine⟨rfl,by omega,fun j hj=>?_,fun j hj hn=>?_⟩
 ·rcases Nat.lt_or_ge j i with g1|g1
  ·have:=h.2.1 j g1;omega
  ·rw[show j=i by omega];omega
 ·have h1:=VP i (j-i-1) (by omega)
  rw[show i+(j-i-1)+1=j by omega]at h1
  omega
theorem VQ{g:Nat→Int}{n m:Nat}{k:Int}(h:wu g n m k)(hg:∀i,i<n→g i≠k):wu g n m (k+1) :=
 ⟨h.1,fun j hj=>by have:=h.2.1 j hj;omega,fun j hj hn=>by have:=h.2.2 j hj hn;have:=hg j hn;omega⟩
theorem VR{g:Nat→Int}{n:Nat}(h:∀j,j<n→0≤g j):wu g n 0 0:=⟨by omega,by omega,fun j _ hj=>h j hj⟩
theorem VS{g:Nat→Int}{n m:Nat}{k:Int}(h:wu g n m k)(hk:∀j,j<n→g j<k):m=n:=by
 have h1:=h.1;rcases Nat.lt_or_ge m n with g1|g1
 ·have:=h.2.2 m (Nat.le_refl _) g1
  have:=hk m g1;omega
 ·omega
abbrev qV(c:Cs):Nat→Int:=fun i=>(nth c.s i).n
abbrev wx(c:Cs):Nat→Int:=fun i=>(nth c.r.l i).f
theorem xB{c:Cs}(h:xv c){i:Nat}(hi:i<c.s.length):(0≤qV c i∧qV c i<c.r.n)∧(0<i→qV c (i-1)<qV c i)∧fB (nth c.s i).d=0:=by
 have he:=h.site i hi;unfold wh at he;simp only at he;split at he
 ·split at he
  ·cases he
  ·rename_i h1 h2
   refine⟨h1,fun h0=>?_,he⟩;show(nth c.s (i-1)).n<(nth c.s i).n;omega
 ·cases he
structure Vo(c:Cs)(v:Co)(k:Nat):Prop where
 s:wu (qV c) c.s.length v.re.length k
 l:wu (wx c) c.r.l.length v.cm.length k
theorem VT{c:Cs}{k:Nat}(h:mh c.s k=none):∀i,i<c.s.length→qV c i≠k:=fun i hi=>by
 have:=Nv h i (by omega) (by omega)
 simpa using this
theorem xC{c:Cs}{k i:Nat}(h:mh c.s k=some i):i<c.s.length∧qV c i=k:=by
 have:=wi h;exact⟨by omega,by simpa using this.2.1⟩
theorem VU{c:Cs}{k:Nat}(h:lx c.r.l k=none):∀i,i<c.r.l.length→wx c i≠k:=fun i hi=>by
 have:=Nv h i (by omega) (by omega)
 simpa using this
theorem xD{c:Cs}{k i:Nat}(h:lx c.r.l k=some i):i<c.r.l.length∧wx c i=k:=by
 have:=wi h;exact⟨by omega,by simpa using this.2.1⟩
theorem vo0{c:Cs}(h:xv c)(p:Sp)(f:Fl):Vo c (cB c p f 0) 0 :=
 ⟨VR fun j hj=>(xB h hj).1.1,VR fun j hj=>((m9 h.k).link hj).1.1⟩
theorem Vo.next{c:Cs}(hc:xv c){p:Sp}{v:Co}{k:Nat}(h:Vo c v k):Vo c (vS c p v k) (k+1):=by
 obtain⟨s1,s2,s3,s4⟩:=ED (c:=c) (p:=p) (v:=v) (k:=k);have hs:wu (qV c) c.s.length (vD c p v k).re.length (k+1:Int):=by
  unfold vD;cases hs:mh c.s k with
  |none=>exact VQ h.s (VT hs)
  |some i =>
   obtain⟨a,b⟩:=xC hs;simp only[List.length_append,List.length_singleton];exact(uX h.s (fun j h0 hj=>(xB hc hj).2.1 h0) a b).2
 unfold vS vL;cases hl:lx c.r.l k with
 |none =>
  refine⟨hs,?_⟩;rw[s3];exact VQ h.l (VU hl)
 |some j =>
  obtain⟨a,b⟩:=xD hl;refine⟨hs,?_⟩;simp only[s3,List.length_append,List.length_singleton];exact(uX h.l (fun j h0 hj=>((m9 hc.k).link hj).2.1 h0) a b).2
theorem zV{c:Cs}(hc:xv c)(p:Sp)(f:Fl):∀k,Vo c (cB c p f k) k
 |0=>vo0 hc p f
 |k+1=>(zV hc p f k).next hc
theorem NH{c:Cs}(hc:xv c)(p:Sp)(f:Fl):(cB c p f c.r.n.toNat).re.length=c.s.length∧(cB c p f c.r.n.toNat).cm.length=c.r.l.length:=by
 have h:=zV hc p f c.r.n.toNat;have hn:=(m9 hc.k).n;exact⟨VS h.s fun j hj=>by have:=(xB hc hj).1;omega,VS h.l fun j hj=>by have:=((m9 hc.k).link hj).1;show(nth c.r.l j).f<_;omega⟩
end Go.Proofs.YtmpikpodpgnjhaaGreat
namespace Go.Proofs.YtmpikpodpgnjhaaGreat
set_option linter.all false
open Go.Vm
def pad{α:Type}(d:α)(l:List α)(n:Nat):List α:=l++List.replicate (n-l.length) d
theorem H4{α:Type}{d:α}{l:List α}{n:Nat}(h:l.length≤n):(pad d l n).length=n:=by simp[pad];omega
theorem NI{α:Type}{d:α}{l:List α}{n:Nat}(h:l.length=n):pad d l n=l:=by simp[pad,h]
theorem NJ{α:Type}{d x:α}{l:List α}{n i:Nat}(hi:i=l.length)(h:l.length<n):(pad d l n).set i x=pad d (l++[x]) n:=by
 subst hi;unfold pad;obtain⟨m,hm⟩:∃m,n-l.length=m+1:=⟨n-l.length-1,by omega⟩
 rw[hm,List.replicate_succ,List.set_append_right _ _ (Nat.le_refl _),Nat.sub_self,List.set_cons_zero,List.length_append,List.length_singleton,show n-(l.length+1)=m by omega,List.append_assoc,List.singleton_append]
def xE:Dr:=⟨0,0,0,0,0,0,0⟩
def sY(l:List Dr):List V:=(l.map Dr.row).flatten
@[simp] theorem apH{l:List Dr}:(sY l).length=l.length*7:=HO (row:=Dr.row) (fun _=>rfl) l
@[simp] theorem apI{l:List Dr}{d:Nat}:((sY l).all fun v => !V.cI d v)=true:=HT (row:=Dr.row) (fun a=>by simp) l
theorem aj0{n:Nat}:(List.replicate n [V.int .i64 0,V.int .i64 0,V.int .i64 0,V.int .i64 0,V.int .i64 0,V.int .i64 0,V.int .i64 0]).flatten=sY (pad xE [] n):=by
 simp[sY,pad,List.map_replicate,xE]
theorem aj1{l:List Dr}{n:Nat}(h:n=l.length):lz mS (chunks 7 (sY l) 0 n)=some (l.map Dr.row):=by
 subst h;rw[HQ (row:=Dr.row) (fun _=>rfl) rfl];exact HR (fun a=>by simp) l
theorem aj2{n:Nat}:List.replicate n z0=dS (pad 0 [] n):=by simp[pad,dS]
theorem VV{c:Cs}{u:Co}{x:Int}{k:Nat}:(vL c u x k).re=u.re∧(vL c u x k).lf=u.lf∧(vL c u x k).d=u.d:=by
 unfold vL;cases lx c.r.l k<;>exact⟨rfl,rfl,rfl⟩
theorem VW{c:Cs}{u v:Co}{x:Int}{k:Nat}(h1:u.arr=v.arr)(h2:u.w=v.w)(h3:u.cm=v.cm):(vL c u x k).arr=(vL c v x k).arr∧(vL c u x k).w=(vL c v x k).w∧(vL c u x k).cm=(vL c v x k).cm:=by
 unfold vL;cases lx c.r.l k
 ·exact⟨h1,h2,h3⟩
 ·simp only[h1,h2,h3,and_self]
theorem aj3{l:List Int}{m:Int}:fN l m↔∀x∈l,0≤x∧x≤m:=by
 refine⟨fun h x hx=>?_,fun h i hi=>h _ (qd hi)⟩;obtain⟨i,hi,rfl⟩:=List.mem_iff_getElem.1 hx;have:=h i hi
 rwa [show nth l i=l[i] by simp[nth,hi]]at this
theorem VX{a b:List Int}{m:Int}:fN (a++b) m↔fN a m∧fN b m:=by
 simp only[aj3,List.mem_append];exact⟨fun h=>⟨fun x hx=>h x (.inl hx),fun x hx=>h x (.inr hx)⟩,fun h x hx=>hx.elim (h.1 x) (h.2 x)⟩
theorem aj4{l:List Dr}{i:Nat}(h:i<l.length)(x:Dr):jc (sY l) (i*7) x.row=sY (l.set i x):=HP (row:=Dr.row) (fun _=>rfl) h
structure Vf(f:Fl)(v:Co):Prop where
 d:v.d.length=f.d.length∧∀i,v.re.length≤i→nth v.d i=nth f.d i
 w:v.w.length=f.w.length∧∀i,v.cm.length≤i→nth v.w i=nth f.w i
theorem Vf.next{c:Cs}(hc:xv c){p:Sp}{f:Fl}{v:Co}{k:Nat}(h:Vf f v)(ho:Vo c v k):Vf f (vS c p v k):=by
 obtain⟨s1,s2,s3,s4⟩:=ED (c:=c) (p:=p) (v:=v) (k:=k);have hd:(vD c p v k).d.length=f.d.length∧∀i,(vD c p v k).re.length≤i→nth (vD c p v k).d i=nth f.d i:=by
  unfold vD;cases hs:mh c.s k with
  |none=>exact h.d
  |some i =>
   obtain⟨a,b⟩:=xC hs;have e:=(uX ho.s (fun j h0 hj=>(xB hc hj).2.1 h0) a b).1;refine⟨by simp only[List.length_set];exact h.d.1,fun j hj=>?_⟩
   simp only[List.length_append,List.length_singleton]at hj;show nth (v.d.set i _) j=nth f.d j;rcases Nat.lt_or_ge i v.d.length with g|g
   ·rw[xw g,if_neg (by omega)]
    exact h.d.2 j (by omega)
   ·rw[List.set_eq_of_length_le g]
    exact h.d.2 j (by omega)
 unfold vS vL;cases hl:lx c.r.l k with
 |none=>exact⟨hd,by rw[s2,s3];exact h.w⟩
 |some j =>
  obtain⟨a,b⟩:=xD hl;have e:=(uX ho.l (fun j h0 hj=>((m9 hc.k).link hj).2.1 h0) a b).1;refine⟨hd,?_⟩;simp only[s2,s3];refine⟨by simp only[List.length_set];exact h.w.1,fun i hi=>?_⟩
  simp only[List.length_append,List.length_singleton]at hi;rcases Nat.lt_or_ge j v.w.length with g|g
  ·rw[xw g,if_neg (by omega)]
   exact h.w.2 i (by omega)
  ·rw[List.set_eq_of_length_le g]
   exact h.w.2 i (by omega)
theorem NK{c:Cs}(hc:xv c)(p:Sp)(f:Fl):∀k,Vf f (cB c p f k)
 |0=>⟨⟨rfl,fun _ _=>rfl⟩,⟨rfl,fun _ _=>rfl⟩⟩
 |k+1=>(NK hc p f k).next hc (zV hc p f k)
theorem aj5{c:Cs}{k i:Nat}(h:∀j,j<i→qV c j≠k)(hi:i<c.s.length)(hk:qV c i=k):mh c.s k=some i:=by
 cases hs:mh c.s k with
 |none=>exact absurd hk (VT hs i hi)
 |some j =>
  have h1:=wi hs;obtain⟨a,b⟩:=xC hs;rcases Nat.lt_trichotomy j i with g|g|g
  ·exact absurd b (h j g)
  ·rw[g]
  ·have:=h1.2.2 i (by omega) g
   have hk:(nth c.s i).n=k:=hk;simp[hk]at this
theorem aj6{c:Cs}{k i:Nat}(h:∀j,j<i→wx c j≠k)(hi:i<c.r.l.length)(hk:wx c i=k):lx c.r.l k=some i:=by
 cases hs:lx c.r.l k with
 |none=>exact absurd hk (VU hs i hi)
 |some j =>
  have h1:=wi hs;obtain⟨a,b⟩:=xD hs;rcases Nat.lt_trichotomy j i with g|g|g
  ·exact absurd b (h j g)
  ·rw[g]
  ·have:=h1.2.2 i (by omega) g
   have hk:(nth c.r.l i).f=k:=hk;simp[hk]at this
theorem aj7{c:Cs}{k:Nat}(h:∀j,j<c.s.length→qV c j≠k):mh c.s k=none:=by
 cases hs:mh c.s k with
 |none=>rfl
 |some j=>exact absurd (xC hs).2 (h j (xC hs).1)
theorem aj8{c:Cs}{k:Nat}(h:∀j,j<c.r.l.length→wx c j≠k):lx c.r.l k=none:=by
 cases hs:lx c.r.l k with
 |none=>rfl
 |some j=>exact absurd (xD hs).2 (h j (xD hs).1)
end Go.Proofs.YtmpikpodpgnjhaaGreat
namespace Go.Proofs.YtmpikpodpgnjhaaGreat
set_option linter.all false
open Go.Vm
attribute [local simp] eS eT eQ eR
set_option maxRecDepth 100000 in
set_option maxHeartbeats 8000000 in
theorem aj9{c:Cs}(hr:oq c.r){f:Fl}(hf:ub f){p:Sp}(lD:p.a.length≤1000∧p.b.length≤1000∧p.c.length≤1000):∃G',bo F 42 [cs c,fl f,sv p] []=some (qU (some 0) c f p,G'):=by
 suffices h:∀Q:V→Prop,Q (qU (some 0) c f p)→iV (bo F) 42 [cs c,fl f,sv p] [] fun v _=>Q v by
  obtain⟨_,G',h,rfl⟩:=h (fun v=>v=qU (some 0) c f p) rfl;exact⟨G',h⟩
 intro Q hQ;refine ju rfl rfl ?_;have hc:=Nr c hr;have hv:=Vl c hr f hf;have err:∀e,nR c f p=e→e≠0→Q (VM (some 0) e):=fun e h he=>by
  unfold qU at hQ
  rwa [h,if_neg he]at hQ
 by_cases hz:gx c=0
 case neg =>
  simp +contextual (disch:=omega) [-getElem?_pos,-List.length_eq_zero_iff,-Int.natCast_eq_zero,wrap64,tK,hc,hz];exact err _ (by unfold nR pd;rw[if_pos hz,if_pos hz]) hz
 by_cases kO:iQ c f
 case neg =>
  have h0:decide (gx c=0∧iQ c f)=false:=decide_eq_false fun g=>kO g.2;rw[h0]at hv;simp +contextual (disch:=omega) [-getElem?_pos,-List.length_eq_zero_iff,-Int.natCast_eq_zero,wrap64,tK,hc,hz,hv];have VY:pd c f=50:=by unfold pd;rw[if_neg (by omega),if_neg kO]
  exact err 50 (by unfold nR;rw[VY];rfl) (by decide)
 have VY:pd c f=0:=by unfold pd;rw[if_neg (by omega),if_pos kO]
 have fH:nR c f p=jO c f p:=by unfold nR;rw[if_neg (by omega)]
 rw[fH]at err;rw[decide_eq_true ⟨hz,kO⟩]at hv;have cv:=ot hz;have kv:=m9 cv.k;have jn:=kv.n;by_cases h1:(p.a.length:Int)=c.r.n
 case neg =>
  simp +contextual (disch:=omega) [-getElem?_pos,-List.length_eq_zero_iff,-Int.natCast_eq_zero,wrap64,tK,hc,hz,hv,h1];exact err 3 (by unfold jO;rw[if_neg fun g=>h1 g.1]) (by decide)
 by_cases h2:p.b.length=c.s.length
 case neg =>
  have lO:¬ (p.b.length:Int)=c.s.length:=by omega
  simp +contextual (disch:=omega) [-getElem?_pos,-List.length_eq_zero_iff,-Int.natCast_eq_zero,wrap64,tK,hc,hz,hv,h1,lO];exact err 3 (by unfold jO;rw[if_neg fun g=>h2 g.2.1]) (by decide)
 have lO:(p.b.length:Int)=c.s.length:=by omega
 by_cases h3:p.c.length=c.s.length
 case neg =>
  have jz:¬ (p.c.length:Int)=c.s.length:=by omega
  simp +contextual (disch:=omega) [-getElem?_pos,-List.length_eq_zero_iff,-Int.natCast_eq_zero,wrap64,tK,hc,hz,hv,h1,lO,jz];exact err 3 (by unfold jO;rw[if_neg fun g=>h3 g.2.2]) (by decide)
 have jz:(p.c.length:Int)=c.s.length:=by omega
 have g6:nO c p:=⟨h1,h2,h3⟩;have ha:=Nw p.a lD.1 1073741824;have hb:=Nw p.b lD.2.1 1073741824;have tw:=Nw p.c lD.2.2 1073741824;have app:fN (p.a++p.b++p.c) 1073741824↔fN p.a 1073741824∧fN p.b 1073741824∧fN p.c 1073741824:=by
  rw[VX,VX,and_assoc]
 by_cases g1:fN p.a 1073741824
 case neg =>
  simp +contextual (disch:=omega) [-getElem?_pos,-List.length_eq_zero_iff,-Int.natCast_eq_zero,wrap64,tK,hc,hz,hv,h1,lO,jz,ha,g1];exact err 1 (by unfold jO;rw[if_pos g6,if_neg fun g=>g1 (app.1 g).1]) (by decide)
 by_cases g2:fN p.b 1073741824
 case neg =>
  simp +contextual (disch:=omega) [-getElem?_pos,-List.length_eq_zero_iff,-Int.natCast_eq_zero,wrap64,tK,hc,hz,hv,h1,lO,jz,ha,g1,hb,g2];exact err 1 (by unfold jO;rw[if_pos g6,if_neg fun g=>g2 (app.1 g).2.1]) (by decide)
 by_cases g3:fN p.c 1073741824
 case neg =>
  simp +contextual (disch:=omega) [-getElem?_pos,-List.length_eq_zero_iff,-Int.natCast_eq_zero,wrap64,tK,hc,hz,hv,h1,lO,jz,ha,g1,hb,g2,tw,g3];exact err 1 (by unfold jO;rw[if_pos g6,if_neg fun g=>g3 (app.1 g).2.2]) (by decide)
 have vv:=app.2 ⟨g1,g2,g3⟩;have hcy:=ajp f (HU hz kO.2.1) (VL cv.k kO.2.2);have ajV:=kO.1;have ES:=cv.s;have kn:=kv.len;have H3:0<p.a.length:=by omega
 have CX:f.d.length=c.s.length:=kO.2.1.1;have hwl:f.w.length=c.r.l.length:=kO.2.2.1;simp +contextual (disch:=omega) [-getElem?_pos,-List.length_eq_zero_iff,-Int.natCast_eq_zero,wrap64,tK,hc,hz,hv,h1,lO,jz,ha,g1,hb,g2,tw,g3];refine b9 (fun g4=>?_) (fun g4=>?_)
 ·exact err 6 (by unfold jO;rw[if_pos g6,if_pos vv,if_pos g4]) (by decide)
 have hE:jO c f p=ef (fun k=>vE c p (cB c p f k) k) c.r.n.toNat 0:=by unfold jO;rw[if_pos g6,if_pos vv,if_neg g4]
 have AT:p.a.isEmpty=false:=by
  cases hp:p.a with
  |nil=>rw[hp]at H3;simp at H3
  |cons a l=>rfl
 simp +contextual (disch:=omega) [-getElem?_pos,-List.length_eq_zero_iff,-Int.natCast_eq_zero,wrap64,hcy,aj0,AT];refine go_loop (fun k:Nat=>aaw p.a.length k c.row f.row p.row [i64 0,.aK,.aK] [.aK,.aK,.aK] [i64 (f.t+1),.dB 0 4 f.d.length,.dB 1 1 f.w.length]
   [.b0 100 7 c.s.length,.b0 104 1 c.r.n.toNat,.b0 109 1 c.r.l.length] (sY (pad xE (cB c p f k).re c.s.length)) (dS (pad 0 (cB c p f k).lf c.r.n.toNat)) (dS (pad 0 (cB c p f k).cm c.r.l.length)) (dS (cB c p f k).arr)
   [.cells (jA (cB c p f k).d),.cells (ld (cB c p f k).w)])
  (fun k=>k≤c.r.n.toNat∧(∀j,j<k→vE c p (cB c p f j) j=0)∧ef (fun k=>vE c p (cB c p f k) k) (c.r.n.toNat-k) k=jO c f p) (fun k=>c.r.n.toNat-k) 0 rfl (by simp[cB,aj2]) ⟨by omega,by omega,hE.symm⟩ ?_
 rintro k ⟨hk,VZ,hq⟩;have BS:=vcs hz kO g6 vv VZ;have vr:=zV cv p f k;have FF:=NK cv p f k;have AY:=FF.d;have hww:=FF.w;have apK:=BS.xy;have akc:=BS.ll;have AQ:=vr.s.1;have akd:=vr.l.1;have ecv:cB c p f (k+1)=vS c p (cB c p f k) k:=rfl;simp +contextual (disch:=omega) [-getElem?_pos,-List.length_eq_zero_iff,-Int.natCast_eq_zero,wrap64,Rp];refine b9 (fun fW=>?_) (fun fW=>?_)
 ·have akf:k<c.r.n.toNat:=by omega
  rw[ma akf]at hq;generalize hcv:cB c p f k=v at *;have EC:k<v.arr.length:=by omega
  simp +contextual (disch:=omega) [-getElem?_pos,-List.length_eq_zero_iff,-Int.natCast_eq_zero,wrap64,kT];obtain⟨s1,s2,s3,s4⟩:=ED (c:=c) (p:=p) (v:=v) (k:=k);refine go_loop (fun y:Nat×Co×Int=>aam p.a.length k y.2.2 (rK c.s) c.s.length y.1 c.row f.row p.row [i64 0,.aK,.aK] [.aK,.aK,.aK] [i64 (f.t+1),.dB 0 4 f.d.length,.dB 1 1 f.w.length]
    [.b0 100 7 c.s.length,.b0 104 1 c.r.n.toNat,.b0 109 1 c.r.l.length] (sY (pad xE y.2.1.re c.s.length)) (dS (pad 0 v.lf c.r.n.toNat)) (dS (pad 0 v.cm c.r.l.length)) (dS v.arr) [.cells (jA y.2.1.d),.cells (ld v.w)])
   (fun y=>y.1≤c.s.length∧((y.2.1=v∧y.2.2=nth v.arr k∧∀j,j<y.1→qV c j≠k)∨(y.2.1=vD c p v k∧y.2.2=fG c p v k∧lR c p v k=0∧∃j,j<y.1∧mh c.s k=some j)))
   (fun y=>c.s.length-y.1) (0,v,nth v.arr k) rfl (by simp) ⟨by simp,.inl ⟨rfl,rfl,by simp⟩⟩ ?_
  rintro⟨i,u,x⟩ ⟨hi,hu⟩;simp only at hi hu;have akh:(pad xE v.re c.s.length).length=c.s.length:=H4 AQ;simp +contextual (disch:=omega) [-getElem?_pos,-List.length_eq_zero_iff,-Int.natCast_eq_zero,wrap64,Rn];refine b9 (fun h5=>?_) (fun h5=>?_)
  ·have h5:i<c.s.length:=by omega
   have h6:i<f.d.length:=by omega
   have h7:i<p.b.length:=by omega
   have h8:i<p.c.length:=by omega
   simp +contextual (disch:=omega) [-getElem?_pos,-List.length_eq_zero_iff,-Int.natCast_eq_zero,wrap64,bp (l:=c.s)];refine b9 (fun h9=>?_) (fun h9=>?_)
   ·have hs:mh c.s k=some i∧u=v∧x=nth v.arr k∧i=v.re.length:=by
     have e:=(uX vr.s (fun j h0 hj=>(xB cv hj).2.1 h0) h5 h9).1;rcases hu with⟨a,b,d⟩ | ⟨_,_,_,j,hj,hs⟩
     ·exact⟨aj5 d h5 h9,a,b,e⟩
     ·have:=(uX vr.s (fun j h0 hj=>(xB cv hj).2.1 h0) (xC hs).1 (xC hs).2).1
      omega
    obtain⟨hs,rfl,rfl,BP⟩:=hs;have H6:nth u.d i=nth f.d i:=AY.2 i (by omega)
    obtain⟨Ga,hS⟩:=U5 (nth c.s i).d (nth f.d i) (nth u.arr k) (nth p.b i) (nth p.c i);by_cases he:m5 (nth c.s i).d (nth f.d i) (nth u.arr k) (nth p.b i) (nth p.c i)=0
    ·have NF:=(VH he).1
     have e0:lR c p u k=0:=by simp only[lR,hs,H6,he]
     have e1:fG c p u k=rO (vR c p u k i):=by simp only[fG,hs]
     have e2:vD c p u k={ u with d:=u.d.set i (lQ (nth c.s i).d (nth f.d i) (nth u.arr k) (nth p.b i) (nth p.c i)),re:=u.re++[vR c p u k i],lf:=u.lf++[fG c p u k] }:=by rw[vD,hs,← H6]
     have e3:vR c p u k i=lu (nth c.s i).d (nth f.d i) (nth u.arr k) (nth p.b i) (nth p.c i):=by rw[vR,H6]
     rw[qi,if_pos he]at hS;rw[e3]at e1 e2;rw[e1]at e2;generalize lQ (nth c.s i).d (nth f.d i) (nth u.arr k) (nth p.b i) (nth p.c i)=S' at hS e2;generalize lu (nth c.s i).d (nth f.d i) (nth u.arr k) (nth p.b i) (nth p.c i)=R' at hS NF e1 e2;have hF:=ai8 R' (by omega) (by omega) (by omega)
     rw[show R'.tur+R'.spi+R'.ovr=rO R' from rfl]at hF;have mr:i<u.d.length:=by omega
     have jf:((((jA u.d).set (i*4) (i64 S'.v)).set (i*4+1) (i64 S'.rel)).set (i*4+1+1) (jH S'.u)).set (i*4+1+1+1) (jy S'.g)=jA (u.d.set i S'):=VF mr S';have hrt:(((((((sY (pad xE u.re c.s.length)).set (i*7) (i64 R'.inf)).set (i*7+1) (i64 R'.los)).set (i*7+1+1) (i64 R'.tur)).set (i*7+1+1+1) (i64 R'.spi)).set (i*7+1+1+1+1) (i64 R'.ovr)).set (i*7+1+1+1+1+1) (i64 R'.pow)).set (i*7+1+1+1+1+1+1) (i64 R'.lP)=sY (pad xE (u.re++[R']) c.s.length):=by
      rw[←NJ BP (by omega)]
      exact aj4 (by rw[H4 (by omega)];exact h5) R'
     simp +contextual (disch:=omega) [-getElem?_pos,-List.length_eq_zero_iff,-Int.natCast_eq_zero,wrap64,bp (l:=f.d),eB (l:=p.b),eB (l:=p.c),kT,hS,hF,jf,hrt,akh];refine cc (i+1,vD c p u k,fG c p u k) (by simp[e1,e2]) ⟨by simp only;omega,.inr ⟨rfl,rfl,e0,i,by simp only;omega,hs⟩⟩ (by simp only;omega)
    ·rw[qi,if_neg he]at hS
     have e0:vE c p u k=m5 (nth c.s i).d (nth f.d i) (nth u.arr k) (nth p.b i) (nth p.c i):=by
      have:lR c p u k=m5 (nth c.s i).d (nth f.d i) (nth u.arr k) (nth p.b i) (nth p.c i):=by simp only[lR,hs,H6]
      rw[vE,this,if_pos he]
     rw[e0,if_neg he]at hq;simp +contextual (disch:=omega) [-getElem?_pos,-List.length_eq_zero_iff,-Int.natCast_eq_zero,wrap64,bp (l:=f.d),eB (l:=p.b),eB (l:=p.c),kT,hS,decide_eq_false he];exact err _ hq.symm he
   ·refine cc (i+1,u,x) (by simp) ⟨by simp only;omega,?_⟩ (by simp only;omega)
    rcases hu with⟨a,b,d⟩ | ⟨a,b,d,j,hj,hs⟩
    ·refine .inl ⟨a,b,fun j hj=>?_⟩
     rcases Nat.lt_or_ge j i with g|g
     ·exact d j g
     ·rw[show j=i by simp only at hj;omega];exact h9
    ·exact .inr ⟨a,b,d,j,by simp only;omega,hs⟩
  ·obtain rfl:i=c.s.length:=by omega
   have hD:u.re=(vD c p v k).re∧u.d=(vD c p v k).d∧x=fG c p v k∧lR c p v k=0:=by
    rcases hu with⟨rfl,rfl,d⟩ | ⟨rfl,b,d,_⟩
    ·have hn:=aj7 d
     unfold vD fG lR;rw[hn];exact⟨rfl,rfl,rfl,rfl⟩
    ·exact⟨rfl,rfl,b,d⟩
   obtain⟨d1,d2,rfl,d3⟩:=hD;rw[d1,d2];generalize hx:fG c p v k=x at *;have akj:(pad 0 v.lf c.r.n.toNat).length=c.r.n.toNat:=H4 (by omega)
   have jf:(pad 0 v.lf c.r.n.toNat).set k x=pad 0 (vD c p v k).lf c.r.n.toNat:=by rw[NJ (by omega) (by omega),s4]
   simp +contextual (disch:=omega) [-getElem?_pos,-List.length_eq_zero_iff,-Int.natCast_eq_zero,wrap64,akj,jf];have akk:(pad 0 v.cm c.r.l.length).length=c.r.l.length:=H4 akd;refine go_loop (fun y:Nat×Co=>aar p.a.length k x (nN c.r.l) c.r.l.length y.1 c.row f.row p.row [i64 0,.aK,.aK] [.aK,.aK,.aK] [i64 (f.t+1),.dB 0 4 f.d.length,.dB 1 1 f.w.length]
     [.b0 100 7 c.s.length,.b0 104 1 c.r.n.toNat,.b0 109 1 c.r.l.length] (sY (pad xE (vD c p v k).re c.s.length)) (dS (pad 0 (vD c p v k).lf c.r.n.toNat)) (dS (pad 0 y.2.cm c.r.l.length)) (dS y.2.arr) [.cells (jA (vD c p v k).d),.cells (ld y.2.w)])
    (fun y=>y.1≤c.r.l.length∧((y.2=v∧∀j,j<y.1→wx c j≠k)∨(y.2=vL c v x k∧nQ c v x k=0∧∃j,j<y.1∧lx c.r.l k=some j)))
    (fun y=>c.r.l.length-y.1) (0,v) rfl (by simp) ⟨by simp,.inl ⟨rfl,by simp⟩⟩ ?_
   rintro⟨i,u⟩ ⟨hi,hu⟩;simp only at hi hu;simp +contextual (disch:=omega) [-getElem?_pos,-List.length_eq_zero_iff,-Int.natCast_eq_zero,wrap64,Ro];refine b9 (fun h5=>?_) (fun h5=>?_)
   ·have h5:i<c.r.l.length:=by omega
    have h6:i<f.w.length:=by omega
    simp +contextual (disch:=omega) [-getElem?_pos,-List.length_eq_zero_iff,-Int.natCast_eq_zero,wrap64,bp (l:=c.r.l)];refine b9 (fun h9=>?_) (fun h9=>?_)
    ·have hs:lx c.r.l k=some i∧u=v∧i=v.cm.length:=by
      have e:=(uX vr.l (fun j h0 hj=>(kv.link hj).2.1 h0) h5 h9).1;rcases hu with⟨a,d⟩ | ⟨_,_,j,hj,hs⟩
      ·exact⟨aj6 d h5 h9,a,e⟩
      ·have:=(uX vr.l (fun j h0 hj=>(kv.link hj).2.1 h0) (xD hs).1 (xD hs).2).1
       omega
     obtain⟨hs,rfl,BP⟩:=hs;have V0:nth u.w i=nth f.w i:=hww.2 i (by omega)
     have hfi:=kO.2.2.2 i h5;obtain⟨tt,hR⟩:=ajh (nth c.r.l i).r (hr.2 i h5) (nth f.w i) (hf i) x;have bG:=(kv.link h5).1;have htl:(nth c.r.l i).t.toNat<u.arr.length:=by omega
     have eL:nQ c u x k=gG (nth c.r.l i).r (nth f.w i) x:=by unfold nQ;rw[hs];simp only[V0]
     have eE:vE c p u k=gG (nth c.r.l i).r (nth f.w i) x:=by
      rw[vE,d3,hx,eL];rfl
     rw[eE]at hq;by_cases he:gG (nth c.r.l i).r (nth f.w i) x=0
     ·have ho:=EB he
      have har:=BS.arr (nth c.r.l i).t.toNat htl;rw[Ex he]at hR;have e2:vL c u x k={ u with w:=u.w.set i (m8 (nth c.r.l i).r (nth f.w i) x),cm:=u.cm++[m6 (nth c.r.l i).r (nth f.w i) x],arr:=u.arr.set (nth c.r.l i).t.toNat (nth u.arr (nth c.r.l i).t.toNat+m6 (nth c.r.l i).r (nth f.w i) x) }:=by
       rw[vL,hs,← V0]
      have jf:(pad 0 u.cm c.r.l.length).set i (m6 (nth c.r.l i).r (nth f.w i) x)=pad 0 (u.cm++[m6 (nth c.r.l i).r (nth f.w i) x]) c.r.l.length:=NJ BP (by omega)
      simp +contextual (disch:=omega) [-getElem?_pos,-List.length_eq_zero_iff,-Int.natCast_eq_zero,wrap64,bp (l:=f.w),hR,NB,akk,jf,kT];refine cc (i+1,vL c u x k) (by simp[e2]) ⟨by simp only;omega,.inr ⟨rfl,by rw[eL,he],i,by simp only;omega,hs⟩⟩ (by simp only;omega)
     ·rw[zP rfl he]at hR
      rw[if_neg he]at hq;simp +contextual (disch:=omega) [-getElem?_pos,-List.length_eq_zero_iff,-Int.natCast_eq_zero,wrap64,bp (l:=f.w),hR,decide_eq_false he];exact err _ hq.symm he
    ·refine cc (i+1,u) (by simp) ⟨by simp only;omega,?_⟩ (by simp only;omega)
     rcases hu with⟨a,d⟩ | ⟨a,d,j,hj,hs⟩
     ·refine .inl ⟨a,fun j hj=>?_⟩
      rcases Nat.lt_or_ge j i with g|g
      ·exact d j g
      ·rw[show j=i by simp only at hj;omega];exact h9
     ·exact .inr ⟨a,d,j,by simp only;omega,hs⟩
   ·obtain rfl:i=c.r.l.length:=by omega
    have hD:u=vL c v x k∧nQ c v x k=0:=by
     rcases hu with⟨rfl,d⟩ | ⟨rfl,b,_⟩
     ·have hn:=aj8 d
      unfold vL nQ;rw[hn];exact⟨rfl,rfl⟩
     ·exact⟨rfl,b⟩
    obtain⟨rfl,d4⟩:=hD;have eE:vE c p v k=0:=by rw[vE,d3,hx,d4];rfl
    rw[if_pos eE]at hq;obtain⟨a1,a2,a3⟩:=VW (c:=c) (u:=vD c p v k) (v:=v) (x:=x) (k:=k) s1 s2 s3;obtain⟨b1,b2,b3⟩:=VV (c:=c) (u:=vD c p v k) (x:=x) (k:=k);have hvS:vS c p v k=vL c (vD c p v k) x k:=by rw[vS,hx]
    refine cc (k+1) (by simp[ecv,hvS,a1,a2,a3,b1,b2,b3]) ⟨by omega,fun j hj=>?_,hq⟩ (by omega)
    rcases Nat.lt_or_ge j k with g|g
    ·exact VZ j g
    ·rw[show j=k by omega,hcv];exact eE
 ·obtain rfl:k=c.r.n.toNat:=by omega
  rw[mU]at hq;have wR:=NH cv p f;have w1:((cB c p f c.r.n.toNat).re.length:Int)=c.s.length:=by omega
  rw[NI wR.1,NI akc,NI wR.2];simp +contextual (disch:=omega) [-getElem?_pos,-List.length_eq_zero_iff,-Int.natCast_eq_zero,wrap64,zR,HS,aj1,J7];rw[←hq]at fH;unfold qU at hQ;rw[fH,if_pos rfl]at hQ;exact hQ
end Go.Proofs.YtmpikpodpgnjhaaGreat
namespace Go.Proofs.YtmpikpodpgnjhaaGreat
set_option linter.all false
open Go.Vm
attribute [local simp] eS eT eQ eR
structure Pa(c:Cs)(f:Fl)(p:Sp):Prop where
 c0:gx c=0
 f0:iQ c f
 p0:nO c p
 all:fN (p.a++p.b++p.c) 1073741824
 t:f.t≠16777216
 v:∀k,k<c.r.n.toNat→vE c p (cB c p f k) k=0
theorem V1{c:Cs}{f:Fl}{p:Sp}(h:nR c f p=0):Pa c f p:=by
 unfold nR at h;split at h
 ·rename_i h1;exact absurd h h1
 ·rename_i h1
  obtain⟨h2,h3⟩:=VN (Decidable.of_not_not h1);unfold jO at h;split at h
  ·split at h
   ·split at h
    ·cases h
    ·exact⟨h2,h3,by assumption,by assumption,by assumption,fun k hk=>sH h k (by omega) (by omega)⟩
   ·cases h
  ·cases h
theorem Pa.vc{c:Cs}{f:Fl}{p:Sp}(h:Pa c f p){k:Nat}(hk:k≤c.r.n.toNat):Vc c p (cB c p f k) k:=vcs h.c0 h.f0 h.p0 h.all fun j hj=>h.v j (by omega)
theorem Pa.fl{c:Cs}{f:Fl}{p:Sp}(h:Pa c f p):iQ c (uW c f p):=by
 have hv:=h.vc (Nat.le_refl _);have:=h.f0.1;have:=h.t;exact⟨by simp only[uW];omega,hv.d,hv.w⟩
theorem V2{c:Cs}(hk:jN c.r=0){f:Fl}(h:iQ c f):ub f:=fun i=>by
 rcases Nat.lt_or_ge i c.r.l.length with g|g
 ·have a:=h.2.2.2 i g
  have:=a.2.1;have:=(wc a.1).len;omega
 ·have:nth f.w i=[]:=by
   simp[nth,List.getD,List.getElem?_eq_none (show f.w.length≤i by have:=h.2.2.1;omega)]
   rfl
  rw[this];simp
theorem akn{l:List Int}{k:Nat}(hd:ed l k){c:Cs}(hc:Cm c){s:List Ds}(hs:mI c s):∃f k',bo F 53 [.bN 0 0,cs c,rL s] [dk l k]=some (fl f,[dk l k'])∧ed l k'∧iQ c f:=by
 suffices h:∀Q:V→List aV→Prop,(∀f k',ed l k'→iQ c f→Q (fl f) [dk l k'])→iV (bo F) 53 [.bN 0 0,cs c,rL s] [dk l k] Q by
  obtain⟨_,_,h,f,k',rfl,rfl,h1⟩:=h (fun v G=>∃f k',v=fl f∧G=[dk l k']∧ed l k'∧iQ c f) fun f k' a b=>⟨f,k',rfl,rfl,a,b⟩;exact⟨f,k',h,h1⟩
 intro Q hQ;refine ju rfl rfl ?_;have cv:=ot hc.lr;have kv:=m9 cv.k;have EA:=hc.small;have hn6:=hc.n;obtain⟨G1,jf⟩:=ajz c EA s (HU hc.lr hs);have h0:ov c s=.tuple [fl (nP c s),i64 0]:=by unfold ov;rw[show ou c s=0 by unfold ou;rw[if_neg (by have:=hc.lr;omega),if_pos hs]];rfl
 rw[h0]at jf;obtain⟨m,k1,n1,ji,hm⟩:=gL hd 6 (by omega)
 have Nk:=(Nx hc.lr).2 hs;generalize nP c s=f0 at jf Nk;simp +contextual (disch:=omega) [-getElem?_pos,-List.length_eq_zero_iff,-Int.natCast_eq_zero,wrap64,KK,jf,n1];refine go_loop (fun y:Fl×Int×Nat=>aaB (.bN 0 0) y.2.1 c.row [i64 0,.aK,.aK] y.1.row [dk l y.2.2])
  (fun y=>iQ c y.1∧(0≤y.2.1∧y.2.1≤10)∧ed l y.2.2) (fun y=>y.2.1.toNat) (f0,m,k1) rfl (by simp) ⟨Nk,by simp only;omega,ji⟩ ?_
 rintro⟨f,x,k⟩ ⟨h1,h2,hd⟩;simp only at h1 h2 hd;simp +contextual (disch:=omega) [-getElem?_pos,-List.length_eq_zero_iff,-Int.natCast_eq_zero,wrap64,Rq];refine b9 (fun h3=>?_) (fun h3=>?_)
 ·obtain⟨p,k2,n2,gz,hp,ha,hb,tw⟩:=VB hd (c:=c) (by have:=kv.n;omega) (by have:=cv.s;omega)
  have Vn:=cv.s;have lD:p.a.length≤1000∧p.b.length≤1000∧p.c.length≤1000:=by have:=hp;unfold nO at this;omega
  obtain⟨G2,hS⟩:=aj9 EA (V2 cv.k h1) lD;by_cases he:nR c f p=0
  ·rw[qU,if_pos he]at hS
   have vy:=(V1 he).fl;generalize uW c f p=f2 at hS vy;generalize xA c f p=pp at hS;simp +contextual (disch:=omega) [-getElem?_pos,-List.length_eq_zero_iff,-Int.natCast_eq_zero,wrap64,n2,hS];exact cc (f2,x-1,k2) (by simp) ⟨vy,by simp only;omega,gz⟩ (by simp only;omega)
  ·rw[qU,if_neg he]at hS
   simp +contextual (disch:=omega) [-getElem?_pos,-List.length_eq_zero_iff,-Int.natCast_eq_zero,wrap64,n2,hS,decide_eq_false he];exact cc (f,x-1,k2) (by simp) ⟨h1,by simp only;omega,gz⟩ (by simp only;omega)
 ·exact hQ f k hd h1
theorem akp{l:List Int}{k:Nat}(hd:ed l k):∃c f k',bo F 15 [.bN 0 0] [dk l k]=some (.tuple [cs c,fl f],[dk l k'])∧ed l k'∧Cm c∧iQ c f:=by
 suffices h:∀Q:V→List aV→Prop,(∀c f k',ed l k'→Cm c→iQ c f→Q (.tuple [cs c,fl f]) [dk l k'])→iV (bo F) 15 [.bN 0 0] [dk l k] Q by
  obtain⟨_,_,h,c,f,k',rfl,rfl,h1⟩:=h (fun v G=>∃c f k',v=.tuple [cs c,fl f]∧G=[dk l k']∧ed l k'∧Cm c∧iQ c f) fun c f k' a b d=>⟨c,f,k',rfl,rfl,a,b,d⟩;exact⟨c,f,k',h,h1⟩
 intro Q hQ;refine ju rfl rfl ?_;obtain⟨c,s,k1,n1,ji,hc,hs⟩:=ajD hd;obtain⟨f,k2,n2,gz,hf⟩:=akn ji hc hs;simp +contextual (disch:=omega) [-getElem?_pos,-List.length_eq_zero_iff,-Int.natCast_eq_zero,wrap64,KC,n1,n2];exact hQ c f k2 gz hc hf
end Go.Proofs.YtmpikpodpgnjhaaGreat
namespace Go.Proofs.YtmpikpodpgnjhaaGreat
set_option linter.all false
open Go.Vm
def jP(c:Cs)(cm:List Int)(j:Int):Nat→Int
 |0=>0
 |m+1=>jP c cm j m+if (nth c.r.l m).t=j then nth cm m else 0
theorem V3{c:Cs}{cm:List Int}{x:Int}{j:Int}:∀{m:Nat},m≤cm.length→jP c (cm++[x]) j m=jP c cm j m
 |0,_=>rfl
 |m+1,h=>by
  simp only[jP];rw[V3 (by omega),og (by omega)]
theorem akq{c:Cs}{cm:List Int}{x:Int}{j:Int}:jP c (cm++[x]) j (cm.length+1)=jP c cm j cm.length+if (nth c.r.l cm.length).t=j then x else 0:=by
 have e:nth (cm++[x]) cm.length=x:=by rw[iW,if_neg (by omega),if_pos rfl]
 simp only[jP];rw[V3 (Nat.le_refl _),e]
structure Da(c:Cs)(p:Sp)(f:Fl)(v:Co)(i k:Nat):Prop where
 e:m5 (nth c.s i).d (nth f.d i) (nth (cB c p f k).arr k) (nth p.b i) (nth p.c i)=0
 r:nth v.re i=lu (nth c.s i).d (nth f.d i) (nth (cB c p f k).arr k) (nth p.b i) (nth p.c i)
 d:nth v.d i=lQ (nth c.s i).d (nth f.d i) (nth (cB c p f k).arr k) (nth p.b i) (nth p.c i)
structure Li(c:Cs)(p:Sp)(f:Fl)(v:Co)(m k:Nat):Prop where
 e:gG (nth c.r.l m).r (nth f.w m) (fG c p (cB c p f k) k)=0
 o:nth v.cm m=m6 (nth c.r.l m).r (nth f.w m) (fG c p (cB c p f k) k)
 w:nth v.w m=m8 (nth c.r.l m).r (nth f.w m) (fG c p (cB c p f k) k)
structure Hi(c:Cs)(p:Sp)(f:Fl)(v:Co)(k:Nat):Prop where
 arr:∀j,j<v.arr.length→nth v.arr j=nth p.a j+jP c v.cm j v.cm.length
 cm:∀m,m<v.cm.length→0≤nth v.cm m∧nth v.cm m≤1125899906842624
 site:∀i,i<v.re.length→∃k':Nat,k'<k∧qV c i=k'∧Da c p f v i k'
 link:∀m,m<v.cm.length→∃k':Nat,k'<k∧wx c m=k'∧Li c p f v m k'
 lf:∀j,j<k→nth v.lf j=fG c p (cB c p f j) j
theorem akr{c:Cs}{p:Sp}{f:Fl}(h:Pa c f p){k:Nat}(hk:k<c.r.n.toNat)(hh:Hi c p f (cB c p f k) k):Hi c p f (cB c p f (k+1)) (k+1):=by
 have hc:=ot h.c0;have hv:=h.vc (k:=k) (by omega)
 have ho:=zV hc p f k;have hf:=NK hc p f k;obtain⟨e0,eL⟩:=VK (h.v k hk);show Hi c p f (vS c p (cB c p f k) k) (k+1);obtain⟨s1,s2,s3,s4⟩:=ED (c:=c) (p:=p) (v:=cB c p f k) (k:=k);obtain⟨a1,a2,a3⟩:=VW (c:=c) (x:=fG c p (cB c p f k) k) (k:=k) s1 s2 s3;obtain⟨b1,b2,b3⟩:=VV (c:=c) (u:=vD c p (cB c p f k) k) (x:=fG c p (cB c p f k) k) (k:=k);have aks:∀i,i<(vD c p (cB c p f k) k).re.length→∃k':Nat,k'<k+1∧qV c i=k'∧Da c p f (vD c p (cB c p f k) k) i k':=by
  unfold vD;cases hs:mh c.s k with
  |none =>
   intro i hi;obtain⟨k',g1,g2,g3⟩:=hh.site i hi;exact⟨k',by omega,g2,g3.e,g3.r,g3.d⟩
  |some i0 =>
   obtain⟨q1,q2⟩:=xC hs;have q3:=(uX ho.s (fun j h0 hj=>(xB hc hj).2.1 h0) q1 q2).1;have q4:i0<(cB c p f k).d.length:=by have:=hv.d.1;omega
   have q5:=hf.d.2 i0 (by omega)
   intro i hi;simp only[List.length_append,List.length_singleton]at hi;by_cases g:i=i0
   ·subst g
    refine⟨k,by omega,q2,?_,?_,?_⟩
    ·unfold lR at e0
     rw[hs]at e0;rw[←q5];exact e0
    ·show nth ((cB c p f k).re++[_]) i=_
     rw[iW,if_neg (by omega),if_pos q3,vR,q5]
    ·show nth ((cB c p f k).d.set i _) i=_
     rw[xw q4,if_pos rfl,q5]
   ·obtain⟨k',g1,g2,g3⟩:=hh.site i (by omega)
    refine⟨k',by omega,g2,g3.e,?_,?_⟩
    ·show nth ((cB c p f k).re++[_]) i=_
     rw[og (by omega)];exact g3.r
    ·show nth ((cB c p f k).d.set i0 _) i=_
     rw[xw q4,if_neg g];exact g3.d
 have hlf:∀j,j<k+1→nth (vD c p (cB c p f k) k).lf j=fG c p (cB c p f j) j:=fun j hj=>by
  have:=hv.ll;rw[s4,iW];by_cases g:j<k
  ·rw[if_pos (by omega)];exact hh.lf j g
  ·rw[if_neg (by omega),if_pos (by omega),show j=k by omega]
 have NL:(∀j,j<(vL c (cB c p f k) (fG c p (cB c p f k) k) k).arr.length→nth (vL c (cB c p f k) (fG c p (cB c p f k) k) k).arr j=nth p.a j+jP c (vL c (cB c p f k) (fG c p (cB c p f k) k) k).cm j (vL c (cB c p f k) (fG c p (cB c p f k) k) k).cm.length) ∧
   (∀m,m<(vL c (cB c p f k) (fG c p (cB c p f k) k) k).cm.length→0≤nth (vL c (cB c p f k) (fG c p (cB c p f k) k) k).cm m∧nth (vL c (cB c p f k) (fG c p (cB c p f k) k) k).cm m≤1125899906842624) ∧
   ∀m,m<(vL c (cB c p f k) (fG c p (cB c p f k) k) k).cm.length→∃k':Nat,k'<k+1∧wx c m=k'∧Li c p f (vL c (cB c p f k) (fG c p (cB c p f k) k) k) m k':=by
  unfold nQ at eL;cases hl:lx c.r.l k with
  |none =>
   rw[show vL c (cB c p f k) (fG c p (cB c p f k) k) k=cB c p f k by unfold vL;rw[hl]]
   exact⟨hh.arr,hh.cm,fun m hm=>by obtain⟨k',g1,g2,g3⟩:=hh.link m hm;exact⟨k',by omega,g2,g3⟩⟩
  |some m0 =>
   rw[hl]at eL;obtain⟨q1,q2⟩:=xD hl;have q3:=(uX ho.l (fun j h0 hj=>((m9 hc.k).link hj).2.1 h0) q1 q2).1;have q4:m0<(cB c p f k).w.length:=by have:=hv.w.1;omega
   have q5:=hf.w.2 m0 (by omega)
   have q6:=EB eL;have q7:=((m9 hc.k).link q1).1;have q8:=hv.xy;have q9:(nth c.r.l m0).t.toNat<(cB c p f k).arr.length:=by omega
   have hu:vL c (cB c p f k) (fG c p (cB c p f k) k) k={ cB c p f k with w:=(cB c p f k).w.set m0 (m8 (nth c.r.l m0).r (nth (cB c p f k).w m0) (fG c p (cB c p f k) k)),cm:=(cB c p f k).cm++[m6 (nth c.r.l m0).r (nth (cB c p f k).w m0) (fG c p (cB c p f k) k)],arr:=(cB c p f k).arr.set (nth c.r.l m0).t.toNat (nth (cB c p f k).arr (nth c.r.l m0).t.toNat+m6 (nth c.r.l m0).r (nth (cB c p f k).w m0) (fG c p (cB c p f k) k)) }:=by
    unfold vL;rw[hl]
   rw[hu];refine⟨fun j hj=>?_,fun m hm=>?_,fun m hm=>?_⟩
   ·simp only[List.length_set]at hj
    simp only[List.length_append,List.length_singleton];rw[xw q9,akq,← q3];by_cases g:j=(nth c.r.l m0).t.toNat
    ·rw[if_pos g,if_pos (by omega),← g,hh.arr j hj,q3]
     exact Int.add_assoc _ _ _
    ·rw[if_neg g,if_neg (by omega),Int.add_zero,q3]
     exact hh.arr j hj
   ·simp only[List.length_append,List.length_singleton]at hm
    simp only;rw[iW];by_cases g:m<(cB c p f k).cm.length
    ·rw[if_pos g];exact hh.cm m g
    ·rw[if_neg g,if_pos (by omega)];exact q6
   ·simp only[List.length_append,List.length_singleton]at hm
    by_cases g:m=m0
    ·subst g
     refine⟨k,by omega,q2,by rw[←q5];exact eL,?_,?_⟩
     ·show nth ((cB c p f k).cm++[_]) m=_
      rw[iW,if_neg (by omega),if_pos q3,q5]
     ·show nth ((cB c p f k).w.set m _) m=_
      rw[xw q4,if_pos rfl,q5]
    ·obtain⟨k',g1,g2,g3⟩:=hh.link m (by omega)
     refine⟨k',by omega,g2,g3.e,?_,?_⟩
     ·show nth ((cB c p f k).cm++[_]) m=_
      rw[og (by omega)];exact g3.o
     ·show nth ((cB c p f k).w.set m0 _) m=_
      rw[xw q4,if_neg g];exact g3.w
 unfold vS;refine⟨?_,?_,fun i hi=>?_,fun m hm=>?_,by rw[b2];exact hlf⟩
 ·rw[a1,a3];exact NL.1
 ·rw[a3];exact NL.2.1
 ·rw[b1]at hi
  obtain⟨k',g1,g2,g3⟩:=aks i hi;exact⟨k',g1,g2,g3.e,by rw[b1];exact g3.r,by rw[b3];exact g3.d⟩
 ·rw[a3]at hm
  obtain⟨k',g1,g2,g3⟩:=NL.2.2 m hm;exact⟨k',g1,g2,g3.e,by rw[a3];exact g3.o,by rw[a2];exact g3.w⟩
theorem BO{c:Cs}{p:Sp}{f:Fl}(h:Pa c f p):∀{k:Nat},k≤c.r.n.toNat→Hi c p f (cB c p f k) k
 |0,_=>⟨fun j hj=>by simp[cB,jP],fun m hm=>by simp[cB]at hm,fun i hi=>by simp[cB]at hi,fun m hm=>by simp[cB]at hm,fun j hj=>by omega⟩
 |k+1,hk=>akr h (by omega) (BO h (by omega))
end Go.Proofs.YtmpikpodpgnjhaaGreat
namespace Go.Proofs.YtmpikpodpgnjhaaGreat
set_option linter.all false
open Go.Vm
attribute [local simp] eS eT eQ eR
abbrev EE:Rc:=⟨[0,1],1⟩
abbrev gB:Cs:=⟨⟨2,[⟨0,1,EE⟩]⟩,[]⟩
theorem EF:e9 EE=0:=by
 unfold e9;rw[if_neg (by decide),if_neg (by decide),if_pos,if_pos (by decide)]
 intro i hi;have:i=0∨i=1:=by simp at hi;omega
 rcases this with rfl|rfl<;>decide
theorem akv:jN gB.r=0:=by
 unfold jN;rw[if_neg (by decide)]
 show(if lE gB.r 0=0 then (0:Int) else lE gB.r 0)=0
 have:lE gB.r 0=0:=by
  unfold lE;simp only;rw[if_pos (by decide),if_neg (by decide),if_neg (by decide)]
  exact EF
 rw[if_pos this]
theorem H8:gx gB=0:=by
 unfold gx;rw[if_neg (fun g=>g akv),if_neg (by decide),if_neg (by decide)]
 rfl
theorem H9:oq gB.r:=⟨by decide,fun i hi=>by
 have:i=0:=by simp at hi;omega
 subst this
 decide⟩
theorem NM{t:Int}{p:List Int}(h:p.length≤10):ub ⟨t,[],[p]⟩:=fun i=>by
 cases i with
 |zero=>show p.length≤_;omega
 |succ i=>exact Nat.zero_le _
theorem Ia:∀p:List Int,p=[]∨p=[7]→iy EE p:=fun p h=>by
 rcases h with rfl|rfl
 ·exact⟨by decide,by decide,fun i hi=>by simp at hi⟩
 ·refine⟨by decide,by decide,fun i hi=>?_⟩
  have:i=0:=by simp at hi;omega
  subst this;decide
theorem akw:gG EE [] 7=0:=by
 unfold gG;rw[if_neg (fun g=>g EF),if_pos (Ia _ (.inl rfl)),if_pos];refine⟨by decide,fun i hi=>?_⟩
 have:i=0∨i=1:=by simp at hi;omega
 rcases this with rfl|rfl<;>decide
theorem akx:gG EE [7] 0=0:=by
 unfold gG;rw[if_neg (fun g=>g EF),if_pos (Ia _ (.inr rfl)),if_pos];refine⟨by decide,fun i hi=>?_⟩
 have:i=0∨i=1:=by simp at hi;omega
 rcases this with rfl|rfl<;>decide
abbrev wz:Sp:=⟨[7,0],[],[]⟩
abbrev wA:Sp:=⟨[0,0],[],[]⟩
abbrev uY:Fl:=⟨0,[],[[]]⟩
abbrev ud:Fl:=⟨1,[],[[7]]⟩
theorem aky:iQ gB uY:=⟨by decide,⟨rfl,by simp⟩,rfl,fun i hi=>by
 have:i=0:=by simp at hi;omega
 subst this;exact⟨EF,Ia _ (.inl rfl)⟩⟩
theorem V6:iQ gB ud:=⟨by decide,⟨rfl,by simp⟩,rfl,fun i hi=>by
 have:i=0:=by simp at hi;omega
 subst this;exact⟨EF,Ia _ (.inr rfl)⟩⟩
theorem xF(k:Int):mh gB.s k=none:=rfl
theorem Ib:lx gB.r.l ((0:Nat):Int)=some 0:=rfl
theorem Ic:lx gB.r.l ((1:Nat):Int)=none:=rfl
theorem V7:cB gB wz uY 1=⟨[7,0],[],[[7]],[],[7],[0]⟩:=by
 show vS gB wz ⟨[7,0],[],[[]],[],[],[]⟩ 0=_;unfold vS vL vD fG;rw[xF,Ib];rfl
theorem V8:cB gB wz uY 2=⟨[7,0],[],[[7]],[],[7,0],[0]⟩:=by
 show vS gB wz (cB gB wz uY 1) 1=_;rw[V7];unfold vS vL vD fG;rw[xF,Ic];rfl
theorem V9:cB gB wA ud 1=⟨[0,7],[],[[]],[],[0],[7]⟩:=by
 show vS gB wA ⟨[0,0],[],[[7]],[],[],[]⟩ 0=_;unfold vS vL vD fG;rw[xF,Ib];rfl
theorem Wa:cB gB wA ud 2=⟨[0,7],[],[[]],[],[0,7],[7]⟩:=by
 show vS gB wA (cB gB wA ud 1) 1=_;rw[V9];unfold vS vL vD fG;rw[xF,Ic];rfl
theorem Wb{l:List Int}(h:∀x∈l,x=0∨x=7):fN l 1073741824:=fun i hi=>by
 have:=h _ (qd hi);omega
theorem akz:nR gB uY wz=0:=by
 unfold nR;have hr:pd gB uY=0:=by unfold pd;rw[if_neg (fun g=>g H8),if_pos aky]
 rw[if_neg (fun g=>g hr)];unfold jO;rw[if_pos (by decide),if_pos (Wb (by simp)),if_neg (by decide)]
 refine rD fun k _ hk=>?_;have:k=0∨k=1:=by have:gB.r.n.toNat=2:=rfl;omega
 rcases this with rfl|rfl
 ·unfold vE lR nQ fG
  rw[xF,Ib];exact akw
 ·unfold vE lR nQ fG
  rw[V7,xF,Ic];rfl
theorem akA:nR gB ud wA=0:=by
 unfold nR;have hr:pd gB ud=0:=by unfold pd;rw[if_neg (fun g=>g H8),if_pos V6]
 rw[if_neg (fun g=>g hr)];unfold jO;rw[if_pos (by decide),if_pos (Wb (by simp)),if_neg (by decide)]
 refine rD fun k _ hk=>?_;have:k=0∨k=1:=by have:gB.r.n.toNat=2:=rfl;omega
 rcases this with rfl|rfl
 ·unfold vE lR nQ fG
  rw[xF,Ib];exact akx
 ·unfold vE lR nQ fG
  rw[V9,xF,Ic];rfl
abbrev cw:V:=.agg [i64 2,.slice none 4 [[i64 0,i64 1,.slice none 1 [[i64 0],[i64 1]],i64 1]],.slice none 10 []]
theorem NN(G:List aV):bo F 12 [] G=some (.bool true,G) :=
 cg rfl rfl (by
  obtain⟨G1,h1⟩:=ajy gB H9 [];obtain⟨t2,G2,h2⟩:=NG H9 (f:=uY) (NM (by decide)) wz
  obtain⟨t3,G3,h3⟩:=NG H9 (f:=ud) (NM (by decide)) wA
  have h4:=ajm gB H9 ud (NM (by decide))
  rw[decide_eq_true ⟨H8,V6⟩]at h4;rw[show ov gB []=.tuple [fl uY,i64 0] by unfold ov;rw[show ou gB []=0 by unfold ou;rw[if_neg (fun g=>g H8),if_pos ⟨rfl,by simp⟩]];rfl]at h1
  rw[qU,if_pos akz,show uW gB uY wz=ud by unfold uW;rw[show gB.r.n.toNat=2 from rfl,V8];rfl,show xA gB uY wz=⟨[],[7,0],[0]⟩ by unfold xA;rw[show gB.r.n.toNat=2 from rfl,V8]]at h2
  rw[qU,if_pos akA,show uW gB ud wA=⟨2,[],[[]]⟩ by unfold uW;rw[show gB.r.n.toNat=2 from rfl,Wa];rfl,show xA gB ud wA=⟨[],[0,7],[7]⟩ by unfold xA;rw[show gB.r.n.toNat=2 from rfl,Wa]]at h3
  replace h1:bo F 31 [cw,.slice none 4 []] []=some (.tuple [.agg [i64 0,.slice none 4 [],.slice none 1 [[.slice none 1 []]]],i64 0],G1):=h1;replace h2:bo F 17 [cw,.agg [i64 0,.slice none 4 [],.slice none 1 [[.slice none 1 []]]],.agg [.slice none 1 [[i64 7],[i64 0]],.slice none 1 [],.slice none 1 []]] [] =
   some (.tuple [.agg [i64 1,.slice none 4 [],.slice none 1 [[.slice none 1 [[i64 7]]]]],.agg [.slice none 7 [],.slice none 1 [[i64 7],[i64 0]],.slice none 1 [[i64 0]]],i64 0],G2):=h2
  replace h3:bo F 17 [cw,.agg [i64 1,.slice none 4 [],.slice none 1 [[.slice none 1 [[i64 7]]]]],.agg [.slice none 1 [[i64 0],[i64 0]],.slice none 1 [],.slice none 1 []]] [] =
   some (.tuple [.agg [i64 2,.slice none 4 [],.slice none 1 [[.slice none 1 []]]],.agg [.slice none 7 [],.slice none 1 [[i64 0],[i64 7]],.slice none 1 [[i64 7]]],i64 0],G3):=h3
  replace h4:∀G,bo F 28 [cw,.agg [i64 1,.slice none 4 [],.slice none 1 [[.slice none 1 [[i64 7]]]]]] G=some (.bool true,G):=h4;simp +contextual (disch:=omega) [-getElem?_pos,-List.length_eq_zero_iff,-Int.natCast_eq_zero,wrap64,Kz,h1,h2,h3,h4])
end Go.Proofs.YtmpikpodpgnjhaaGreat
namespace Go.Proofs.YtmpikpodpgnjhaaGreat
set_option linter.all false
open Go.Vm
attribute [local simp] eS eT eQ eR
noncomputable abbrev fin(c:Cs)(p:Sp)(f:Fl):Co:=cB c p f c.r.n.toNat
theorem akB{c:Cs}{p:Sp}{f:Fl}(h:Pa c f p){k:Nat}(hk:k≤c.r.n.toNat){m:Nat}(hm:m<(cB c p f k).cm.length):nth (fin c p f).cm m=nth (cB c p f k).cm m:=by
 have hc:=ot h.c0;have hl:m<(fin c p f).cm.length:=by
  have e:=(NH hc p f).2;have:=(zV hc p f k).l.1;rw[show(fin c p f).cm.length=c.r.l.length from e];omega
 obtain⟨a,_,a2,a3⟩:=(BO h (Nat.le_refl _)).link m hl;obtain⟨b,_,b2,b3⟩:=(BO h hk).link m hm;obtain rfl:a=b:=by omega
 rw[a3.o,b3.o]
theorem Wc{c:Cs}{l l':List Int}{j:Int}:∀{m:Nat},(∀i,i<m→nth l i=nth l' i)→jP c l j m=jP c l' j m
 |0,_=>rfl
 |m+1,h=>by
  simp only[jP];rw[Wc fun i hi=>h i (by omega),h m (by omega)]
theorem Wd{c:Cs}{l:List Int}{j:Int}{m:Nat}:∀{n:Nat},(∀i,m≤i→i<m+n→(nth c.r.l i).t≠j)→jP c l j (m+n)=jP c l j m
 |0,_=>rfl
 |n+1,h=>by
  rw[show m+(n+1)=(m+n)+1 by omega]
  simp only[jP];rw[Wd fun i a b=>h i a (by omega),if_neg (h (m+n) (by omega) (by omega)),Int.add_zero]
theorem We{c:Cs}{l:List Int}{j:Int}:∀{m:Nat},(∀i,i<m→0≤nth l i∧nth l i≤1125899906842624)→0≤jP c l j m∧jP c l j m≤1125899906842624*m
 |0,_=>by simp[jP]
 |m+1,h=>by
  have:=We (c:=c) (j:=j) fun i hi=>h i (Nat.lt_succ_of_lt hi);have:=h m (by omega)
  simp only[jP];split<;>omega
theorem akC{c:Cs}{p:Sp}{f:Fl}(h:Pa c f p){k:Nat}(hk:k<c.r.n.toNat):nth (cB c p f k).arr k=nth p.a k+jP c (fin c p f).cm k c.r.l.length:=by
 have hc:=ot h.c0;have hv:=h.vc (k:=k) (by omega)
 have ho:=(zV hc p f k).l;rw[(BO h (by omega)).arr k (by have:=hv.xy;omega),Wc (l:=(cB c p f k).cm) (l':=(fin c p f).cm) fun i hi=>(akB h (by omega) hi).symm]
 obtain⟨d,hd⟩:∃d,c.r.l.length=(cB c p f k).cm.length+d:=⟨c.r.l.length-(cB c p f k).cm.length,by have:=ho.1;omega⟩
 rw[hd,Wd fun i a b=>?_];have h1:=ho.2.2 i a (by omega)
 have h2:=((m9 hc.k).link (i:=i) (by omega)).1
 have h1:(k:Int)≤(nth c.r.l i).f:=h1;omega
theorem akD{d:Dm}(h:fB d=0)(G:List aV):bo F 21 [dm d] G=some (i64 (jL d),G) :=
 cg rfl rfl (by
  have hr:=(tY h).r;have hV:=fun G=>D7 d.r d.r.t G;have hW:=Hw hr;simp +contextual (disch:=omega) [-getElem?_pos,-List.length_eq_zero_iff,-Int.natCast_eq_zero,wrap64,KF,hV,hW,hr];rfl)
set_option maxRecDepth 100000 in
set_option maxHeartbeats 4000000 in
theorem akE{l:List Int}(hl:l.length≤9223372036854775807):∃G',bo F 4 [ints l] []=some (.bool true,G'):=by
 suffices h:iV (bo F) 4 [ints l] [] fun v _=>v=.bool true by
  obtain⟨_,G,h,rfl⟩:=h;exact⟨G,h⟩
 refine ju rfl rfl ?_;by_cases h1:l.length≤500
 case neg=>simp +contextual (disch:=omega) [-getElem?_pos,-List.length_eq_zero_iff,-Int.natCast_eq_zero,wrap64,De,NN,L9,h1]
 obtain⟨c,f,k1,n1,ji,Ie,kO⟩:=akp (l:=l) (k:=0) ⟨by omega,hl⟩
 have hz:=Ie.lr;have cv:=ot hz;have kv:=m9 cv.k;have EA:=Ie.small;have hn6:=Ie.n;have hs3:=Ie.s;have jn:=kv.n;have ID:=kv.len;obtain⟨p,k2,n2,gz,hp,_,_,_⟩:=VB ji (c:=c) (by omega) (by omega)
 obtain⟨t,G1,hS⟩:=NG EA (V2 cv.k kO) p;by_cases he:nR c f p=0
 case neg =>
  rw[qU,if_neg he]at hS;simp +contextual (disch:=omega) [-getElem?_pos,-List.length_eq_zero_iff,-Int.natCast_eq_zero,wrap64,De,NN,L9,h1,Tk,n1,n2,hS,decide_eq_false he,he]
 have BU:=V1 he;have hv:=BU.vc (Nat.le_refl _);have hh:=BO BU (Nat.le_refl _);have wR:=NH cv p f;have tZ:=BU.f0.1;rw[qU,if_pos he]at hS;unfold uW xA at hS;have lZ:=fun(k:Nat) (hk:k<c.r.n.toNat)=>akC BU hk;have CX:=hv.d.1;simp only[fin]at lZ;generalize cB c p f c.r.n.toNat=v at *;have e1:(v.re.length:Int)=c.s.length:=by have:=wR.1;omega
 have e2:(v.d.length:Int)=c.s.length:=by omega
 have e3:(v.cm.length:Int)=c.r.l.length:=by have:=wR.2;omega
 simp +contextual (disch:=omega) [-getElem?_pos,-List.length_eq_zero_iff,-Int.natCast_eq_zero,wrap64,De,NN,L9,h1,Tk,n1,n2,hS,e1,e2,e3];refine go_loop (fun i:Nat=>Z6 (rK c.s) c.s.length i c.row f.row p.row [i64 (f.t+1),rL v.d,ua v.w] [.slice none 7 (v.re.map Dr.row),ints v.lf,ints v.cm] [dk l k2]) (fun i=>i≤c.s.length) (fun i=>c.s.length-i) 0 rfl (by simp) (by simp) ?_
 rintro i hi;simp +contextual (disch:=omega) [-getElem?_pos,-List.length_eq_zero_iff,-Int.natCast_eq_zero,wrap64,Rb];refine b9 (fun h5=>?_) (fun h5=>?_)
 ·have h5:i<c.s.length:=by omega
  obtain⟨hsn,_,NP⟩:=xB cv h5;obtain⟨k,Iv,lF,NQ⟩:=hh.site i (by omega)
  have lF:(nth c.s i).n=k:=lF;have EC:k<p.a.length:=by have:=hp.1;omega
  simp +contextual (disch:=omega) [-getElem?_pos,-List.length_eq_zero_iff,-Int.natCast_eq_zero,wrap64,bp (l:=c.s),lF,eB (l:=p.a)];refine go_loop (fun m:Nat=>Z0 i (nth p.a k+jP c v.cm k m) (rK c.s) c.s.length i (nN c.r.l) c.r.l.length m c.row f.row p.row [i64 (f.t+1),rL v.d,ua v.w] [.slice none 7 (v.re.map Dr.row),ints v.lf,ints v.cm] (i64 k::(nth c.s i).d.row) [dk l k2])
   (fun m=>m≤c.r.l.length) (fun m=>c.r.l.length-m) 0 rfl (by simp[jP]) (by simp) ?_
  rintro m hm;have tg:=We (c:=c) (l:=v.cm) (j:=k) (m:=m) fun i hi=>hh.cm i (by omega)
  have akF:=BU.all k (by simp;omega)
  rw[og (by simp;omega),og EC]at akF
  simp +contextual (disch:=omega) [-getElem?_pos,-List.length_eq_zero_iff,-Int.natCast_eq_zero,wrap64,Ra];refine b9 (fun h6=>?_) (fun h6=>?_)
  ·have h6:m<c.r.l.length:=by omega
   have h7:m<v.cm.length:=by omega
   have apQ:=hh.cm m h7;by_cases h8:(nth c.r.l m).t=k
   ·have e:jP c v.cm k (m+1)=jP c v.cm k m+nth v.cm m:=by simp only[jP];rw[if_pos h8]
    simp +contextual (disch:=omega) [-getElem?_pos,-List.length_eq_zero_iff,-Int.natCast_eq_zero,wrap64,bp (l:=c.r.l),h8,eB (l:=v.cm)];exact cc (m+1) (by simp[e,Int.add_assoc]) (by omega) (by omega)
   ·have e:jP c v.cm k (m+1)=jP c v.cm k m:=by simp only[jP];rw[if_neg h8,Int.add_zero]
    simp +contextual (disch:=omega) [-getElem?_pos,-List.length_eq_zero_iff,-Int.natCast_eq_zero,wrap64,bp (l:=c.r.l),h8];exact cc (m+1) (by simp[e]) (by omega) (by omega)
  ·obtain rfl:m=c.r.l.length:=by omega
   rw[←lZ k Iv];have hb:i<p.b.length:=by have:=hp.2.1;omega
   have tw:i<p.c.length:=by have:=hp.2.2;omega
   have hfd:i<f.d.length:=by have:=BU.f0.2.1.1;omega
   have hvd:i<v.d.length:=by omega
   have wQ:i<v.re.length:=by omega
   obtain⟨Ga,hR⟩:=U5 (nth c.s i).d (nth f.d i) (nth (cB c p f k).arr k) (nth p.b i) (nth p.c i);rw[qi,if_pos NQ.e]at hR;have NR:=(hv.d.2 i h5).2;have r1:=NQ.r;have r2:=NQ.d;rw[←r1,← r2]at hR;have Hx:=(tY NP).u;have UH:=(tY NP).g;have hSm:=ai6 (nth v.d i) (by have:=NR.2.2.1;omega) (by have:=NR.2.2.2.1;omega)
   have hCr:=akD NP;have hle:¬ jL (nth c.s i).d<(nth v.d i).v:=by have:=NR.1;omega
   generalize nth (cB c p f k).arr k=A at *;simp +contextual (disch:=omega) [-getElem?_pos,-List.length_eq_zero_iff,-Int.natCast_eq_zero,wrap64,bp (l:=f.d),eB (l:=p.b),eB (l:=p.c),bp (l:=v.d),bp (l:=v.re),hR,hSm,hCr,hle,V.gX,eK,jQ];exact cc (i+1) (by simp) (by omega) (by omega)
 ·trivial
end Go.Proofs.YtmpikpodpgnjhaaGreat
