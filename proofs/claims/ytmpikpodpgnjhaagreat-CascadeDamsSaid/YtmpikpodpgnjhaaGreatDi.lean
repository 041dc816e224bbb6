/- Parts of the proof, joined: Cas6, Cas7, Cas8, Cas9, Cas10, Cas11, Flo2, Cas12, Sne1, Cdm1. -/
import Derived.Test.YtmpikpodpgnjhaaGreatDh
import Derived.Test.YtmpikpodpgnjhaaGreatDg
namespace Go.Proofs.YtmpikpodpgnjhaaGreat
set_option linter.all false
open Go.Vm
attribute [local simp] eQ eR eO eP
structure Co where
 arr:List Int
 d:List Ds
 w:List (List Int)
 re:List Dr
 lf:List Int
 cm:List Int
def rM(r:Dr):Int:=r.tur+r.spi+r.ovr
noncomputable def lM(c:Cs)(p:Sp)(v:Co)(k:Nat):Int:=match mc c.s k with
 |none=>0
 |some i=>mV (nth c.s i).d (nth v.d i) (nth v.arr k) (nth p.b i) (nth p.c i)
noncomputable def vR(c:Cs)(p:Sp)(v:Co)(k i:Nat):Dr:=la (nth c.s i).d (nth v.d i) (nth v.arr k) (nth p.b i) (nth p.c i)
noncomputable def fC(c:Cs)(p:Sp)(v:Co)(k:Nat):Int:=match mc c.s k with
 |none=>nth v.arr k
 |some i=>rM (vR c p v k i)
noncomputable def vD(c:Cs)(p:Sp)(v:Co)(k:Nat):Co:=match mc c.s k with
 |none=>{ v with lf:=v.lf++[fC c p v k] }
 |some i=>{ v with d:=v.d.set i (lK (nth c.s i).d (nth v.d i) (nth v.arr k) (nth p.b i) (nth p.c i)),re:=v.re++[vR c p v k i],lf:=v.lf++[fC c p v k] }
noncomputable def nM(c:Cs)(v:Co)(x:Int)(k:Nat):Int:=match lb c.r.l k with
 |none=>0
 |some j=>gy (nth c.r.l j).r (nth v.w j) x
noncomputable def vL(c:Cs)(v:Co)(x:Int)(k:Nat):Co:=match lb c.r.l k with
 |none=>v
 |some j=>{ v with w:=v.w.set j (mY (nth c.r.l j).r (nth v.w j) x),cm:=v.cm++[mW (nth c.r.l j).r (nth v.w j) x],arr:=v.arr.set (nth c.r.l j).t.toNat (nth v.arr (nth c.r.l j).t.toNat+mW (nth c.r.l j).r (nth v.w j) x) }
noncomputable def vE(c:Cs)(p:Sp)(v:Co)(k:Nat):Int:=if lM c p v k≠0 then lM c p v k else nM c v (fC c p v k) k
noncomputable def vS(c:Cs)(p:Sp)(v:Co)(k:Nat):Co:=vL c (vD c p v k) (fC c p v k) k
structure Vc(c:Cs)(p:Sp)(v:Co)(k:Nat):Prop where
 c0:gi c=0
 p:nK c p
 xw:(v.arr.length:Int)=c.r.n
 arr:∀j,j<v.arr.length→0≤nth v.arr j∧nth v.arr j≤1073741824+1125899906842624*k
 d:mD c v.d
 w:BJ c v.w
 rl:v.re.length≤k
 ll:v.lf.length=k
 cl:v.cm.length≤k
abbrev crs(c:Cs)(p:Sp)(t:Int)(v:Co):List V:=[i64 t,.dB 0 4 v.d.length,.dB 1 1 v.w.length,i64 c.r.n,nJ c.r.l,rJ c.s,ints p.a,ints p.b,ints p.c,.dB 2 1 v.arr.length,
 .fG 7 (v.re.map Dr.row),.fG 1 (v.lf.map fun n=>[i64 n]),.fG 1 (v.cm.map fun n=>[i64 n])]
abbrev Gc(c:Cs)(p:Sp)(t:Int)(v:Co)(J:List aV):List aV:=.cells (jU v.d)::.cells (lL v.w)::.cells (dR v.arr)::.cells (crs c p t v)::J
theorem HW{l:List Ds}{i:Nat}(h:i<l.length):((jU l).drop (i*4)).take 4=(nth l i).row:=Nq (row:=Ds.row) (fun _=>rfl) h
theorem VB{l:List Ds}{i:Nat}(h:i<l.length)(x:Ds):j8 (jU l) (i*4) x.row=jU (l.set i x):=HN (row:=Ds.row) (fun _=>rfl) h
theorem HX{l:List (List Int)}{i:Nat}(h:i<l.length):((lL l).drop i).take 1=[ints (nth l i)]:=by
 have:=Nq (row:=fun p=>[ints p]) (k:=1) (fun _=>rfl) h
 rwa [Nat.mul_one]at this
theorem ajC{l:List (List Int)}{i:Nat}(h:i<l.length)(x:List Int):j8 (lL l) i [ints x]=lL (l.set i x):=by
 have:=HN (row:=fun p=>[ints p]) (k:=1) (fun _=>rfl) (x:=x) h
 rwa [Nat.mul_one]at this
theorem VD{d:Dm}{s:Ds}{a b c:Int}(h:mV d s a b c=0):fy d=0∧gY d s∧(0≤a∧a≤1073741824)∧(0≤b∧b≤1073741824)∧(0≤c∧c≤1073741824):=by
 unfold mV at h;split at h
 ·rename_i h1;exact absurd h h1
 ·rename_i h1
  split at h
  ·cases h
  ·rename_i h2
   have h1:dE d s=0:=Decidable.of_not_not h1;have hd:fy d=0:=by
    unfold dE at h1;split at h1
    ·rename_i h3;exact absurd h1 h3
    ·rename_i h3;exact Decidable.of_not_not h3
   simp only[List.any_cons,List.any_nil,uS,Bool.or_false,Bool.or_eq_true,Bool.not_eq_true',decide_eq_false_iff_not,not_or,Classical.not_not]at h2;exact⟨hd,(Em h1).2,h2.1,h2.2.1,h2.2.2⟩
theorem VE{d:Dm}{s:Ds}{a b c:Int}(h:mV d s a b c=0):((0≤(la d s a b c).tur∧(la d s a b c).tur≤1073741824)∧(0≤(la d s a b c).spi∧(la d s a b c).spi≤17179869184)∧(0≤(la d s a b c).ovr∧(la d s a b c).ovr≤1073741824)) ∧
  (0≤(la d s a b c).los∧(la d s a b c).los≤1073741824)∧(lK d s a b c).v=s.v+a-(la d s a b c).los-rM (la d s a b c):=by
 obtain⟨hd,hf,ha,hb,hc⟩:=VD h;have pA:=tX hd;have p:=M7 pA hf ha hb hc;have hv:=hf.1;have hL:eA s a b=s.v+a-min b (s.v+a):=rfl;have hO:qS d s a b c=max (eA s a b-(fP d s a b c+kR d s a b c)-jC d) 0:=rfl;have IV:=p.T0;have hTr:=p.Tr;have hP0:=p.P0;have hP1:=p.P1;have e1:(la d s a b c).los=min b (s.v+a):=rfl;have e2:(la d s a b c).tur=fP d s a b c:=rfl;have e3:(la d s a b c).spi=kR d s a b c:=rfl;have e4:(la d s a b c).ovr=qS d s a b c:=rfl;have e5:(lK d s a b c).v=eA s a b-(fP d s a b c+kR d s a b c)-qS d s a b c:=rfl;unfold rM;rw[e1,e2,e3,e4,e5];omega
theorem Nz{r:Rc}{p:List Int}{x:Int}(h:gy r p x=0):e7 r=0∧im r p∧(0≤x∧x≤1073741824)∧sU r p x:=by
 unfold gy at h;split at h
 ·rename_i h1;exact absurd h h1
 ·rename_i h1
  split at h
  ·rename_i h2
   split at h
   ·rename_i h3;exact⟨Decidable.of_not_not h1,h2,h3⟩
   ·cases h
  ·cases h
theorem Ez{r:Rc}{p:List Int}{x:Int}(h:gy r p x=0):0≤mW r p x∧mW r p x≤1125899906842624:=by
 obtain⟨h1,h2,h3,h4⟩:=Nz h;have hv:=wc h1;have q:=wg hv h2 h3 0;have:=h4 0 (by have:=hv.pos;omega)
 have a:=Int.ediv_nonneg q.1 (show 0≤r.den by have:=hv.den;omega)
 have b:=Int.ediv_le_self r.den q.1;unfold mW;omega
theorem NA{l:List (List Int)}{i:Nat}(x:List Int):(lL l).set i (.slice none 1 (x.map fun n=>[i64 n]))=lL (l.set i x):=by
 rcases Nat.lt_or_ge i l.length with h|h
 ·rw[←ajC h];rfl
 ·rw[List.set_eq_of_length_le (by simpa using h),List.set_eq_of_length_le h]
set_option maxRecDepth 100000 in
set_option maxHeartbeats 4000000 in
theorem ajD{c:Cs}(hr:om c.r){p:Sp}{v:Co}{k:Nat}(h:Vc c p v k)(hk:k<v.arr.length)(t:Int)(J:List aV) :
  ∃G',bo F 113 [.bN 3 0,i64 k] (Gc c p t v J)=some (i64 (vE c p v k),G')∧(vE c p v k=0→G'=Gc c p t (vS c p v k) (J++[.cells [i64 k]])):=by
 suffices hh:∀Q:V→List aV→Prop,(∀G',(vE c p v k=0→G'=Gc c p t (vS c p v k) (J++[.cells [i64 k]]))→Q (i64 (vE c p v k)) G')→iP (bo F) 113 [.bN 3 0,i64 k] (Gc c p t v J) Q by
  obtain⟨_,G',h,rfl,h1⟩:=hh (fun x G'=>x=i64 (vE c p v k)∧(vE c p v k=0→G'=Gc c p t (vS c p v k) (J++[.cells [i64 k]]))) fun G' g=>⟨rfl,g⟩;exact⟨G',h,h1⟩
 intro Q hQ;refine jl rfl rfl ?_;have cv:=oo h.c0;generalize xy:J++[aV.cells [i64 k]]=J' at hQ;have hJ:J'[J.length]?=some (.cells [i64 k]):=by rw[←xy];exact List.getElem?_concat_length
 have qi:∀G0 G1 G2 G3,bo F 157 [rJ c.s,.fn 158 [.bN (J.length+1+1+1+1) 0]] (G0::G1::G2::G3::J')=some (i64 (rL (mc c.s k)),G0::G1::G2::G3::J') :=
  fun G0 G1 G2 G3=>ajn c.s (by have:=cv.s;omega) k (G:=G0::G1::G2::G3::J') hJ
 have qj:∀G0 G1 G2 G3,bo F 160 [nJ c.r.l,.fn 161 [.bN (J.length+1+1+1+1) 0]] (G0::G1::G2::G3::J')=some (i64 (rL (lb c.r.l k)),G0::G1::G2::G3::J') :=
  fun G0 G1 G2 G3=>ajo c.r.l (by have:=(mZ cv.k).len;omega) k (G:=G0::G1::G2::G3::J') hJ
 have EA:k<v.arr.length:=hk;have ke:=h.ll;have aoO:k≤12:=by have:=h.xw;have:=cv.n;omega
 have yk:=h.rl;have dC:=h.cl;have A0:∀j,lb c.r.l k=some j→j<c.r.l.length∧j<v.w.length∧(nth c.r.l j).t.toNat<v.arr.length∧0≤(nth c.r.l j).t:=fun j hl=>by
  have hj:=(wi hl).1;have nz:j<c.r.l.length:=by omega
  have:=(mZ cv.k).link nz;have:=h.xw;have:=h.w.1;omega
 cases hs:mc c.s k with
 |none =>
  have e0:lM c p v k=0:=by simp only[lM,hs]
  have e1:fC c p v k=nth v.arr k:=by simp only[fC,hs]
  have eE:vE c p v k=nM c v (nth v.arr k) k:=by rw[vE,e0,e1];rfl
  have e2:vS c p v k=vL c { v with lf:=v.lf++[nth v.arr k] } (nth v.arr k) k:=by rw[vS,vD,e1,hs]
  rw[hs]at qi;cases hl:lb c.r.l k with
  |none =>
   rw[hl]at qj;simp only[rL]at qi qj;have e3:vE c p v k=0:=by rw[eE,nM,hl]
   rw[e3]at hQ;simp +contextual (disch:=omega) [-getElem?_pos,-List.length_eq_zero_iff,-Int.natCast_eq_zero,wrap64,vP,qi,xy,hJ,kL,qj];refine hQ _ fun _=>?_;rw[e2,vL,hl];simp
  |some j =>
   rw[hl]at qj;simp only[rL]at qi qj;obtain⟨nz,EU,NB,hj4⟩:=A0 j hl;have hR:=Ve (nth c.r.l j).r (hr.2 j nz) (nth v.w j) (by have:=(h.w.2 j nz).2.1;have:=(wc (h.w.2 j nz).1).len;omega) (nth v.arr k)
   have e3:vE c p v k=gy (nth c.r.l j).r (nth v.w j) (nth v.arr k):=by rw[eE,nM,hl]
   rw[e3]at hQ;by_cases hz:gy (nth c.r.l j).r (nth v.w j) (nth v.arr k)=0
   ·have ho:=Ez hz
    have ha:=h.arr (nth c.r.l j).t.toNat NB;rw[Ew hz]at hR;rw[hz]at hQ;simp +contextual (disch:=omega) [-getElem?_pos,-List.length_eq_zero_iff,-Int.natCast_eq_zero,wrap64,vP,qi,xy,hJ,kL,qj,bp (l:=c.r.l),HX,NA,hR];refine hQ _ fun _=>?_;rw[e2,vL,hl];simp
   ·rw[zN rfl hz]at hR
    simp +contextual (disch:=omega) [-getElem?_pos,-List.length_eq_zero_iff,-Int.natCast_eq_zero,wrap64,vP,qi,xy,hJ,kL,qj,bp (l:=c.r.l),HX,hR,hz];exact hQ _ fun g=>absurd g hz
 |some i =>
  rw[hs]at qi;have hi:=(wi hs).1;have BN:i<c.s.length:=by omega
  have mj:i<v.d.length:=by have:=h.d.1;omega
  have hpb:i<p.b.length:=by have:=h.p;unfold nK at this;omega
  have hpc:i<p.c.length:=by have:=h.p;unfold nK at this;omega
  obtain⟨Ga,hS⟩:=ain (nth c.s i).d (nth v.d i) (nth v.arr k) (nth p.b i) (nth p.c i);by_cases he:mV (nth c.s i).d (nth v.d i) (nth v.arr k) (nth p.b i) (nth p.c i)=0
  ·have ND:=(VE he).1
   have e0:lM c p v k=0:=by simp only[lM,hs,he]
   have e1:fC c p v k=rM (vR c p v k i):=by simp only[fC,hs]
   have eE:vE c p v k=nM c v (rM (vR c p v k i)) k:=by rw[vE,e0,e1];rfl
   have e2:vS c p v k=vL c { v with d:=v.d.set i (lK (nth c.s i).d (nth v.d i) (nth v.arr k) (nth p.b i) (nth p.c i)),re:=v.re++[vR c p v k i],lf:=v.lf++[rM (vR c p v k i)] } (rM (vR c p v k i)) k:=by rw[vS,vD,e1,hs]
   rw[qh,if_pos he]at hS;unfold vR at eE e2;generalize lK (nth c.s i).d (nth v.d i) (nth v.arr k) (nth p.b i) (nth p.c i)=S' at hS e2;generalize la (nth c.s i).d (nth v.d i) (nth v.arr k) (nth p.b i) (nth p.c i)=R' at hS ND eE e2;have hF:=ais R' (by omega) (by omega) (by omega)
   rw[show R'.tur+R'.spi+R'.ovr=rM R' from rfl]at hF;have iY:((((jU v.d).set (i*4) (i64 S'.v)).set (i*4+1) (i64 S'.rel)).set (i*4+1+1) (jy S'.u)).set (i*4+1+1+1) (jo S'.g)=jU (v.d.set i S'):=VB mj S';cases hl:lb c.r.l k with
   |none =>
    rw[hl]at qj;simp only[rL]at qi qj;have e3:vE c p v k=0:=by rw[eE,nM,hl]
    rw[e3]at hQ;simp +contextual (disch:=omega) [-getElem?_pos,-List.length_eq_zero_iff,-Int.natCast_eq_zero,wrap64,vP,qi,xy,hJ,kL,qj,bp (l:=c.s),ez (l:=p.b),ez (l:=p.c),HW,hS,hF,iY];refine hQ _ fun _=>?_;rw[e2,vL,hl];simp
   |some j =>
    rw[hl]at qj;simp only[rL]at qi qj;obtain⟨nz,EU,NB,hj4⟩:=A0 j hl;have hR:=Ve (nth c.r.l j).r (hr.2 j nz) (nth v.w j) (by have:=(h.w.2 j nz).2.1;have:=(wc (h.w.2 j nz).1).len;omega) (rM R')
    have e3:vE c p v k=gy (nth c.r.l j).r (nth v.w j) (rM R'):=by rw[eE,nM,hl]
    rw[e3]at hQ;by_cases hz:gy (nth c.r.l j).r (nth v.w j) (rM R')=0
    ·have ho:=Ez hz
     have ha:=h.arr (nth c.r.l j).t.toNat NB;rw[Ew hz]at hR;rw[hz]at hQ;simp (config:={ maxSteps:=2000000 }) +contextual (disch:=omega) [-getElem?_pos,-List.length_eq_zero_iff,-Int.natCast_eq_zero,wrap64,vP,qi,xy,hJ,kL,qj,bp (l:=c.r.l),HX,NA,hR,bp (l:=c.s),ez (l:=p.b),ez (l:=p.c),HW,hS,hF,iY];refine hQ _ fun _=>?_;rw[e2,vL,hl];simp
    ·rw[zN rfl hz]at hR
     simp (config:={ maxSteps:=2000000 }) +contextual (disch:=omega) [-getElem?_pos,-List.length_eq_zero_iff,-Int.natCast_eq_zero,wrap64,vP,qi,xy,hJ,kL,qj,bp (l:=c.r.l),HX,hR,hz,bp (l:=c.s),ez (l:=p.b),ez (l:=p.c),HW,hS,hF,iY];exact hQ _ fun g=>absurd g hz
  ·rw[qh,if_neg he]at hS
   simp only[rL]at qi;have e3:vE c p v k=mV (nth c.s i).d (nth v.d i) (nth v.arr k) (nth p.b i) (nth p.c i):=by
    have:lM c p v k=mV (nth c.s i).d (nth v.d i) (nth v.arr k) (nth p.b i) (nth p.c i):=by simp only[lM,hs]
    rw[vE,this,if_pos he]
   rw[e3]at hQ;have he':=decide_eq_false he;simp +contextual (disch:=omega) [-getElem?_pos,-List.length_eq_zero_iff,-Int.natCast_eq_zero,wrap64,vP,qi,xy,hJ,kL,qj,bp (l:=c.s),ez (l:=p.b),ez (l:=p.c),HW,hS,he'];exact hQ _ fun g=>absurd g he
end Go.Proofs.YtmpikpodpgnjhaaGreat
namespace Go.Proofs.YtmpikpodpgnjhaaGreat
set_option linter.all false
open Go.Vm
theorem VF{f:Nat→Int}:∀n,oi f n≤n
 |0=>Nat.le_refl _
 |n+1=>by
  unfold oi;split
  ·exact Nat.le_succ_of_le (VF n)
  ·exact Nat.le_refl _
theorem VG{f:Nat→Int}:∀n,0<oi f n→f (oi f n-1)≠0
 |0,h=>by simp[oi]at h
 |n+1,h=>by
  unfold oi at h ⊢;split
  ·rename_i h1;rw[if_pos h1]at h;exact VG n h
  ·rename_i h1;exact h1
theorem ajG{f:Nat→Int}{n i:Nat}(h:i<n):nth ((List.range n).map f) i=f i:=by
 simp[nth,h]
theorem ajH{r:Rc}{p:List Int}{x:Int}(h:gy r p x=0):im r (mY r p x):=by
 obtain⟨h1,h2,h3,h4⟩:=Nz h;have hv:=wc h1;have hl:(mY r p x).length=oi (rN r p x) r.w.length:=by simp[mY]
 have hle:=VF (f:=rN r p x) r.w.length;have hn:∀i,i<oi (rN r p x) r.w.length→nth (mY r p x) i=rN r p x i:=fun i hi=>ajG hi;refine⟨by omega,fun h0=>?_,fun i hi=>?_⟩
 ·rw[hl]at h0 ⊢
  rw[hn _ (by omega)]
  exact VG _ h0
 ·rw[hn i (by omega)]
  have hd:=hv.den;have q0:=wg hv h2 h3 0;have hb:∀k,k≤r.w.length→0≤rq r p x k∧rq r p x k≤1125899906842624:=fun k hk=>by
   rcases Nat.lt_or_ge k r.w.length with g|g
   ·exact⟨(wg hv h2 h3 k).1,h4 k g⟩
   ·have e:rq r p x k=0:=by unfold rq;rw[we g,we (by have:=h2.1;omega)];simp
    rw[e];omega
  unfold rN;split
  ·have:=hb 1 hv.pos
   have:=Int.emod_nonneg (rq r p x 0) (show r.den≠0 by omega)
   have:=Int.emod_lt_of_pos (rq r p x 0) (show 0<r.den by omega)
   omega
  ·have:=hb (i+1) (by omega)
   omega
theorem HY{α:Type}[Inhabited α]{l:List α}{i j:Nat}{x:α}(h:i<l.length):nth (l.set i x) j=if j=i then x else nth l j:=xv h
theorem VH{c:Cs}{p:Sp}{v:Co}{k:Nat}(he:vE c p v k=0):lM c p v k=0∧nM c v (fC c p v k) k=0:=by
 unfold vE at he;split at he
 ·rename_i h1;exact absurd he h1
 ·rename_i h1;exact⟨Decidable.of_not_not h1,he⟩
theorem EB{c:Cs}{p:Sp}{v:Co}{k:Nat}:(vD c p v k).arr=v.arr∧(vD c p v k).w=v.w∧(vD c p v k).cm=v.cm∧(vD c p v k).lf=v.lf++[fC c p v k]:=by
 unfold vD;cases mc c.s k<;>exact⟨rfl,rfl,rfl,rfl⟩
theorem ajI{c:Cs}{p:Sp}{v:Co}{k:Nat}(h:mD c v.d)(h0:lM c p v k=0):mD c (vD c p v k).d:=by
 unfold vD;unfold lM at h0;cases hs:mc c.s k with
 |none=>exact h
 |some i =>
  rw[hs]at h0;have hi:=(wi hs).1;have mj:i<v.d.length:=by have:=h.1;omega
  obtain⟨g1,g2,ga,gb,gc⟩:=VD h0;refine⟨by simp only[List.length_set];exact h.1,fun j hj=>?_⟩
  rw[HY mj];by_cases e:j=i
  ·rw[if_pos e,e]
   exact⟨g1,aiM (tX g1) g2 ga gb gc⟩
  ·rw[if_neg e]
   exact h.2 j hj
theorem Vc.next{c:Cs}{p:Sp}{v:Co}{k:Nat}(h:Vc c p v k)(he:vE c p v k=0):Vc c p (vS c p v k) (k+1):=by
 have cv:=oo h.c0;obtain⟨h0,hL⟩:=VH he;obtain⟨s1,s2,s3,s4⟩:=EB (c:=c) (p:=p) (v:=v) (k:=k);have hd:=ajI h.d h0;have BO:(vD c p v k).re.length≤k+1:=by
  have:=h.rl;unfold vD;cases mc c.s k<;>simp<;>omega
 have ke:=h.ll;have dC:=h.cl;unfold vS vL;unfold nM at hL;cases hl:lb c.r.l k with
 |none =>
  refine⟨h.c0,h.p,by rw[s1];exact h.xw,fun j hj=>?_,hd,by rw[s2];exact h.w,BO,by rw[s4];simp;omega,by rw[s3];omega⟩
  rw[s1]at hj ⊢;have:=h.arr j hj;omega
 |some j =>
  rw[hl]at hL;have hj:=(wi hl).1;have hjw:j<v.w.length:=by have:=h.w.1;omega
  have ho:=Ez hL;have hf:=ajH hL;have hc:=(Nz hL).1;simp only[s1,s2,s3,s4];refine⟨h.c0,h.p,by simp only[List.length_set];exact h.xw,fun i hi=>?_,hd,⟨by simp only[List.length_set];exact h.w.1,fun i hi=>?_⟩,BO,by simp;omega,by simp;omega⟩
  ·simp only[List.length_set]at hi
   have BP:=h.arr i hi;by_cases e:i=(nth c.r.l j).t.toNat
   ·subst e
    rw[HY hi,if_pos rfl];exact⟨Int.add_nonneg BP.1 ho.1,Int.le_trans (Int.add_le_add BP.2 ho.2) (by omega)⟩
   ·rcases Nat.lt_or_ge (nth c.r.l j).t.toNat v.arr.length with g|g
    ·rw[HY g,if_neg e];exact⟨BP.1,Int.le_trans BP.2 (by omega)⟩
    ·rw[List.set_eq_of_length_le g];exact⟨BP.1,Int.le_trans BP.2 (by omega)⟩
  ·rw[HY hjw]
   by_cases e:i=j
   ·rw[if_pos e,e]
    exact⟨hc,hf⟩
   ·rw[if_neg e]
    exact h.w.2 i hi
noncomputable def cA(c:Cs)(p:Sp)(f:Fl):Nat→Co
 |0=>⟨p.a,f.d,f.w,[],[],[]⟩
 |k+1=>vS c p (cA c p f k) k
noncomputable def jF(c:Cs)(f:Fl)(p:Sp):Int :=
 if nK c p then (if fK (p.a++p.b++p.c) 1073741824 then (if f.t=16777216 then 6 else ec (fun k=>vE c p (cA c p f k) k) c.r.n.toNat 0) else 1) else 3
structure Ps where
 re:List Dr
 lf:List Int
 cm:List Int
abbrev Ps.row(x:Ps):List V:=[.slice none 7 (x.re.map Dr.row),ints x.lf,ints x.cm]
abbrev ps(x:Ps):V:=.agg x.row
noncomputable def uW(c:Cs)(f:Fl)(p:Sp):Fl:=⟨f.t+1,(cA c p f c.r.n.toNat).d,(cA c p f c.r.n.toNat).w⟩
noncomputable def xz(c:Cs)(f:Fl)(p:Sp):Ps:=⟨(cA c p f c.r.n.toNat).re,(cA c p f c.r.n.toNat).lf,(cA c p f c.r.n.toNat).cm⟩
abbrev paX(e:Int):V:=.tuple [.agg [i64 0,.slice (some 0) 4 [],.slice (some 0) 1 []],.agg [.slice (some 0) 7 [],.slice (some 0) 1 [],.slice (some 0) 1 []],i64 e]
noncomputable def BQ(c:Cs)(f:Fl)(p:Sp)(e:Int):V:=if e=0 then .tuple [fl (uW c f p),ps (xz c f p),i64 0] else paX e
theorem ajN{l:List Int}:(l.any fun x => !decide (0≤x∧x≤1073741824)) = !decide (fK l 1073741824):=by
 by_cases h:fK l 1073741824
 ·rw[decide_eq_true h]
  refine List.any_eq_false.2 fun x hx=>?_;obtain⟨i,hi,rfl⟩:=List.mem_iff_getElem.1 hx;have:=h i hi;rw[show nth l i=l[i] by simp[nth,hi]]at this
  simp;exact this
 ·rw[decide_eq_false h]
  cases hb:l.any fun x => !decide (0≤x∧x≤1073741824) with
  |true=>rfl
  |false =>
   refine absurd (fun i hi=>?_) h;have:=List.any_eq_false.1 hb (nth l i) (qc hi);simpa using this
theorem vc0{c:Cs}{f:Fl}{p:Sp}(hc:gi c=0)(hf:iI c f)(hp:nK c p)(ha:fK (p.a++p.b++p.c) 1073741824):Vc c p (cA c p f 0) 0:=by
 refine⟨hc,hp,hp.1,fun j hj=>?_,hf.2.1,hf.2.2,by simp[cA],by simp[cA],by simp[cA]⟩
 have hj:j<p.a.length:=hj;have:=ha j (by simp;omega)
 rw[od (by simp;omega),od hj]at this
 show 0≤nth p.a j∧nth p.a j≤_;omega
theorem vcs{c:Cs}{f:Fl}{p:Sp}(hc:gi c=0)(hf:iI c f)(hp:nK c p)(ha:fK (p.a++p.b++p.c) 1073741824):∀{k:Nat},(∀j,j<k→vE c p (cA c p f j) j=0)→Vc c p (cA c p f k) k
 |0,_=>vc0 hc hf hp ha
 |k+1,h=>(vcs hc hf hp ha fun j hj=>h j (by omega)).next (h k (by omega))
end Go.Proofs.YtmpikpodpgnjhaaGreat
namespace Go.Proofs.YtmpikpodpgnjhaaGreat
set_option linter.all false
open Go.Vm
attribute [local simp] eQ eR eO eP
theorem VI{c:Cs}{l:List (List Int)}(hk:jE c.r=0)(h:BJ c l):Nt l:=by
 have hl:=(mZ hk).len;refine⟨by have:=h.1;omega,fun i hi=>?_⟩
 have pQ:i<c.r.l.length:=by have:=h.1;omega
 have:=(h.2 i pQ).2.1;have:=(wc (h.2 i pQ).1).len;omega
theorem ajP{id t:Nat}{l:List Int}(hl:l≠[]):ky id 0 (.slice (some t) 1 (l.map fun n=>[V.int .i64 n]))=some (.b0 id 1 l.length,some (dR l)):=by
 have h:=Q1 (id:=id) (t:=t) (l:=l) (vs:=[]) rfl hl;simp[ky,h]
theorem ajQ{p:List Int}:(dR p).all V.sc=true:=by simp[dR,V.sc]
set_option maxRecDepth 100000 in
set_option maxHeartbeats 2000000 in
theorem ajR{c:Cs}(hr:om c.r)(hc:gi c=0){f:Fl}(hf:iI c f)(p:Sp):∃G',bo F 55 [cs c,fl f,sv p] []=some (BQ c f p (jF c f p),G'):=by
 suffices h:∀Q:V→Prop,Q (BQ c f p (jF c f p))→iP (bo F) 55 [cs c,fl f,sv p] [] fun v _=>Q v by
  obtain⟨_,G',h,rfl⟩:=h (fun v=>v=BQ c f p (jF c f p)) rfl;exact⟨G',h⟩
 intro Q hQ;refine jl rfl rfl ?_;have cv:=oo hc;have kv:=mZ cv.k;have tY:=ajr c p;by_cases h1:nK c p
 case neg =>
  rw[show jF c f p=3 by unfold jF;rw[if_neg h1]]at hQ
  simp +contextual (disch:=omega) [-getElem?_pos,-List.length_eq_zero_iff,-Int.natCast_eq_zero,wrap64,A4,tY,h1];exact hQ
 have pU:p.a.length≤12:=by have:=h1.1;have:=cv.n;omega
 have HC:p.b.length≤6:=by have:=h1.2.1;have:=cv.s;omega
 have dC:p.c.length≤6:=by have:=h1.2.2;have:=cv.s;omega
 have h2:=ajq p.a p.b p.c (by omega)
 have h3:=UL (p.a++p.b++p.c) (by simp;omega) (fun x => !decide (0≤x∧x≤1073741824)) 112 [] (fun n=>ajp n [])
 rw[ajN]at h3;by_cases h4:fK (p.a++p.b++p.c) 1073741824
 case neg =>
  rw[show jF c f p=1 by unfold jF;rw[if_pos h1,if_neg h4]]at hQ
  rw[decide_eq_false h4]at h3;generalize p.a++p.b++p.c=L at h2 h3;simp +contextual (disch:=omega) [-getElem?_pos,-List.length_eq_zero_iff,-Int.natCast_eq_zero,wrap64,A4,tY,h1,h2,h3];exact hQ
 rw[decide_eq_true h4]at h3;have e4:=h4;generalize p.a++p.b++p.c=L at h2 h3;by_cases h5:f.t=16777216
 ·rw[show jF c f p=6 by unfold jF;rw[if_pos h1,if_pos e4,if_pos h5]]at hQ
  simp +contextual (disch:=omega) [-getElem?_pos,-List.length_eq_zero_iff,-Int.natCast_eq_zero,wrap64,A4,tY,h1,h2,h3,h5];exact hQ
 have h6:jF c f p=ec (fun k=>vE c p (cA c p f k) k) c.r.n.toNat 0:=by unfold jF;rw[if_pos h1,if_pos e4,if_neg h5]
 have h7:=Vq f.d (HS hc hf.2.1) [];have h8:=ajl f.w (VI cv.k hf.2.2) [.cells (jU f.d)];have h9:=Vr p.a (by omega)
 have ajS:=hf.1;have ajT:p.a≠[]:=fun g=>by have:=h1.1;rw[g]at this;have:=kv.n;simp at *;omega
 have H0:0<p.a.length:=by have:=h1.1;have:=kv.n;omega
 simp +contextual (disch:=omega) [-getElem?_pos,-List.length_eq_zero_iff,-Int.natCast_eq_zero,wrap64,A4,tY,h1,h2,h3,h5,h7,h8,h9,ajP ajT,ajQ,H0];have ET:=kv.n;refine go_loop (fun x:Nat×List aV=>aaA (.bN 3 0) c.r.n x.1 [z0,.aM,.aM] [.aM,.aM,.aM] (Gc c p (f.t+1) (cA c p f x.1) x.2))
  (fun x=>x.1≤c.r.n.toNat∧(∀j,j<x.1→vE c p (cA c p f j) j=0)∧ec (fun k=>vE c p (cA c p f k) k) (c.r.n.toNat-x.1) x.1=jF c f p) (fun x=>c.r.n.toNat-x.1) (0,[]) rfl (by simp[cA]) ⟨by omega,by simp,h6.symm⟩ ?_
 rintro⟨k,J⟩ ⟨hk,hz,hq⟩;simp only at hk hz hq;have BR:=vcs hc hf h1 e4 hz;simp +contextual (disch:=omega) [-getElem?_pos,-List.length_eq_zero_iff,-Int.natCast_eq_zero,wrap64,Ro];refine b9 (fun fQ=>?_) (fun fQ=>?_)
 ·have jg:k<c.r.n.toNat:=by omega
  have EA:k<(cA c p f k).arr.length:=by have:=BR.xw;omega
  obtain⟨G',hv,hv2⟩:=ajD hr BR EA (f.t+1) J;rw[lZ jg]at hq;by_cases wM:vE c p (cA c p f k) k=0
  ·obtain rfl:=hv2 wM
   rw[if_pos wM]at hq;rw[wM]at hv;simp +contextual (disch:=omega) [-getElem?_pos,-List.length_eq_zero_iff,-Int.natCast_eq_zero,wrap64,hv];refine cc (k+1,J++[.cells [i64 k]]) (by simp[cA]) ⟨by simp only;omega,fun j hj=>?_,hq⟩ (by simp only;omega)
   rcases Nat.lt_or_ge j k with g|g
   ·exact hz j g
   ·rwa [show j=k by simp only at hj;omega]
  ·rw[if_neg wM]at hq
   rw[←hq,BQ,if_neg wM]at hQ;simp +contextual (disch:=omega) [-getElem?_pos,-List.length_eq_zero_iff,-Int.natCast_eq_zero,wrap64,hv,wM];exact hQ
 ·obtain rfl:k=c.r.n.toNat:=by omega
  rw[mP]at hq;rw[←hq,BQ,if_pos rfl]at hQ;simp +contextual (disch:=omega) [-getElem?_pos,-List.length_eq_zero_iff,-Int.natCast_eq_zero,wrap64,zP,HQ];exact hQ
end Go.Proofs.YtmpikpodpgnjhaaGreat
namespace Go.Proofs.YtmpikpodpgnjhaaGreat
set_option linter.all false
open Go.Vm
attribute [local simp] eQ eR eO eP
abbrev VJ(t:Option Nat)(e:Int):V:=.tuple [.agg [i64 0,.slice t 4 [],.slice t 1 []],.agg [.slice t 7 [],.slice t 1 [],.slice t 1 []],i64 e]
noncomputable def nN(c:Cs)(f:Fl)(p:Sp):Int:=if o0 c f≠0 then o0 c f else jF c f p
noncomputable def qT(t:Option Nat)(c:Cs)(f:Fl)(p:Sp):V:=if nN c f p=0 then .tuple [fl (uW c f p),ps (xz c f p),i64 0] else VJ t (nN c f p)
theorem VK{c:Cs}{f:Fl}(h:o0 c f=0):gi c=0∧iI c f:=by
 unfold o0 at h;split at h
 ·rename_i h1;exact absurd h h1
 ·rename_i h1
  split at h
  ·exact⟨Decidable.of_not_not h1,by assumption⟩
  ·cases h
theorem NF{c:Cs}(hr:om c.r){f:Fl}(hf:ua f)(p:Sp):∃t G',bo F 17 [cs c,fl f,sv p] []=some (qT t c f p,G'):=by
 have hd:=ajk c hr f hf;by_cases hz:o0 c f=0
 ·obtain⟨h1,h2⟩:=VK hz
  obtain⟨Ga,hp⟩:=ajR hr h1 h2 p;have e:nN c f p=jF c f p:=by unfold nN;rw[if_neg (by omega)]
  refine⟨none,[],?_⟩;unfold qT;rw[e];unfold BQ at hp;by_cases h3:jF c f p=0
  ·rw[if_pos h3]at hp ⊢
   refine cg rfl rfl ?_;simp +contextual (disch:=omega) [-getElem?_pos,-List.length_eq_zero_iff,-Int.natCast_eq_zero,wrap64,De,hd,hz,hp]
  ·rw[if_neg h3]at hp ⊢
   refine cg rfl rfl ?_;simp +contextual (disch:=omega) [-getElem?_pos,-List.length_eq_zero_iff,-Int.natCast_eq_zero,wrap64,De,hd,hz,hp]
 ·have e:nN c f p=o0 c f:=by unfold nN;rw[if_pos hz]
  refine⟨some 0,[],?_⟩;unfold qT;rw[e,if_neg hz];refine cg rfl rfl ?_;simp +contextual (disch:=omega) [-getElem?_pos,-List.length_eq_zero_iff,-Int.natCast_eq_zero,wrap64,De,hd,hz]
def wu(g:Nat→Int)(n:Nat)(m:Nat)(k:Int):Prop:=m≤n∧(∀j,j<m→g j<k)∧∀j,m≤j→j<n→k≤g j
theorem uX{g:Nat→Int}{n m i:Nat}{k:Int}(h:wu g n m k)(Hd:∀j,0<j→j<n→g (j-1)<g j)(hi:i<n)(hg:g i=k):i=m∧wu g n (m+1) (k+1):=by
 have VL:∀a d,a+d+1<n→g a<g (a+d+1):=fun a d=>by
  induction d with
  |zero=>intro hd;have:=Hd (a+0+1) (by omega) hd;simpa using this
  |succ d ih =>
   intro hd;have h1:=ih (by omega)
   have h2:=Hd (a+(d+1)+1) (by omega) hd
   rw[show a+(d+1)+1-1=a+d+1 by omega]at h2
   omega
 have hmi:m≤i:=by
  rcases Nat.lt_or_ge i m with g1|g1
  ·have:=h.2.1 i g1;omega
  ·exact g1
 have him:i=m:=by
  rcases Nat.lt_or_ge m i with g1|g1
  ·have h1:=VL m (i-m-1) (by omega)
   rw[show m+(i-m-1)+1=i by omega]at h1
   have:=h.2.2 m (Nat.le_refl _) (by omega)
   omega
  ·omega
 subst him;refine⟨rfl,by omega,fun j hj=>?_,fun j hj hn=>?_⟩
 ·rcases Nat.lt_or_ge j i with g1|g1
  ·have:=h.2.1 j g1;omega
  ·rw[show j=i by omega];omega
 ·have h1:=VL i (j-i-1) (by omega)
  rw[show i+(j-i-1)+1=j by omega]at h1
  omega
theorem VM{g:Nat→Int}{n m:Nat}{k:Int}(h:wu g n m k)(hg:∀i,i<n→g i≠k):wu g n m (k+1) :=
 ⟨h.1,fun j hj=>by have:=h.2.1 j hj;omega,fun j hj hn=>by have:=h.2.2 j hj hn;have:=hg j hn;omega⟩
theorem VN{g:Nat→Int}{n:Nat}(h:∀j,j<n→0≤g j):wu g n 0 0:=⟨by omega,by omega,fun j _ hj=>h j hj⟩
theorem VP{g:Nat→Int}{n m:Nat}{k:Int}(h:wu g n m k)(hk:∀j,j<n→g j<k):m=n:=by
 have h1:=h.1;rcases Nat.lt_or_ge m n with g1|g1
 ·have:=h.2.2 m (Nat.le_refl _) g1
  have:=hk m g1;omega
 ·omega
abbrev qU(c:Cs):Nat→Int:=fun i=>(nth c.s i).n
abbrev wx(c:Cs):Nat→Int:=fun i=>(nth c.r.l i).f
theorem xA{c:Cs}(h:xu c){i:Nat}(hi:i<c.s.length):(0≤qU c i∧qU c i<c.r.n)∧(0<i→qU c (i-1)<qU c i)∧fy (nth c.s i).d=0:=by
 have he:=h.site i hi;unfold wh at he;simp only at he;split at he
 ·split at he
  ·cases he
  ·rename_i h1 h2
   refine⟨h1,fun h0=>?_,he⟩;show(nth c.s (i-1)).n<(nth c.s i).n;omega
 ·cases he
structure Vo(c:Cs)(v:Co)(k:Nat):Prop where
 s:wu (qU c) c.s.length v.re.length k
 l:wu (wx c) c.r.l.length v.cm.length k
theorem VQ{c:Cs}{k:Nat}(h:mc c.s k=none):∀i,i<c.s.length→qU c i≠k:=fun i hi=>by
 have:=Nu h i (by omega) (by omega)
 simpa using this
theorem xB{c:Cs}{k i:Nat}(h:mc c.s k=some i):i<c.s.length∧qU c i=k:=by
 have:=wi h;exact⟨by omega,by simpa using this.2.1⟩
theorem VR{c:Cs}{k:Nat}(h:lb c.r.l k=none):∀i,i<c.r.l.length→wx c i≠k:=fun i hi=>by
 have:=Nu h i (by omega) (by omega)
 simpa using this
theorem xC{c:Cs}{k i:Nat}(h:lb c.r.l k=some i):i<c.r.l.length∧wx c i=k:=by
 have:=wi h;exact⟨by omega,by simpa using this.2.1⟩
theorem vo0{c:Cs}(h:xu c)(p:Sp)(f:Fl):Vo c (cA c p f 0) 0 :=
 ⟨VN fun j hj=>(xA h hj).1.1,VN fun j hj=>((mZ h.k).link hj).1.1⟩
theorem Vo.next{c:Cs}(hc:xu c){p:Sp}{v:Co}{k:Nat}(h:Vo c v k):Vo c (vS c p v k) (k+1):=by
 obtain⟨s1,s2,s3,s4⟩:=EB (c:=c) (p:=p) (v:=v) (k:=k);have hs:wu (qU c) c.s.length (vD c p v k).re.length (k+1:Int):=by
  unfold vD;cases hs:mc c.s k with
  |none=>exact VM h.s (VQ hs)
  |some i =>
   obtain⟨a,b⟩:=xB hs;simp only[List.length_append,List.length_singleton];exact(uX h.s (fun j h0 hj=>(xA hc hj).2.1 h0) a b).2
 unfold vS vL;cases hl:lb c.r.l k with
 |none =>
  refine⟨hs,?_⟩;rw[s3];exact VM h.l (VR hl)
 |some j =>
  obtain⟨a,b⟩:=xC hl;refine⟨hs,?_⟩;simp only[s3,List.length_append,List.length_singleton];exact(uX h.l (fun j h0 hj=>((mZ hc.k).link hj).2.1 h0) a b).2
theorem zT{c:Cs}(hc:xu c)(p:Sp)(f:Fl):∀k,Vo c (cA c p f k) k
 |0=>vo0 hc p f
 |k+1=>(zT hc p f k).next hc
theorem NG{c:Cs}(hc:xu c)(p:Sp)(f:Fl):(cA c p f c.r.n.toNat).re.length=c.s.length∧(cA c p f c.r.n.toNat).cm.length=c.r.l.length:=by
 have h:=zT hc p f c.r.n.toNat;have hn:=(mZ hc.k).n;exact⟨VP h.s fun j hj=>by have:=(xA hc hj).1;omega,VP h.l fun j hj=>by have:=((mZ hc.k).link hj).1;show(nth c.r.l j).f<_;omega⟩
end Go.Proofs.YtmpikpodpgnjhaaGreat
namespace Go.Proofs.YtmpikpodpgnjhaaGreat
set_option linter.all false
open Go.Vm
def pad{α:Type}(d:α)(l:List α)(n:Nat):List α:=l++List.replicate (n-l.length) d
theorem H2{α:Type}{d:α}{l:List α}{n:Nat}(h:l.length≤n):(pad d l n).length=n:=by simp[pad];omega
theorem NH{α:Type}{d:α}{l:List α}{n:Nat}(h:l.length=n):pad d l n=l:=by simp[pad,h]
theorem NI{α:Type}{d x:α}{l:List α}{n i:Nat}(hi:i=l.length)(h:l.length<n):(pad d l n).set i x=pad d (l++[x]) n:=by
 subst hi;unfold pad;obtain⟨m,hm⟩:∃m,n-l.length=m+1:=⟨n-l.length-1,by omega⟩
 rw[hm,List.replicate_succ,List.set_append_right _ _ (Nat.le_refl _),Nat.sub_self,List.set_cons_zero,List.length_append,List.length_singleton,show n-(l.length+1)=m by omega,List.append_assoc,List.singleton_append]
def xD:Dr:=⟨0,0,0,0,0,0,0⟩
def sV(l:List Dr):List V:=(l.map Dr.row).flatten
@[simp] theorem aoS{l:List Dr}:(sV l).length=l.length*7:=HM (row:=Dr.row) (fun _=>rfl) l
@[simp] theorem aoT{l:List Dr}{d:Nat}:((sV l).all fun v => !V.cQ d v)=true:=HR (row:=Dr.row) (fun a=>by simp) l
theorem ajX{n:Nat}:(List.replicate n [V.int .i64 0,V.int .i64 0,V.int .i64 0,V.int .i64 0,V.int .i64 0,V.int .i64 0,V.int .i64 0]).flatten=sV (pad xD [] n):=by
 simp[sV,pad,List.map_replicate,xD]
theorem ajY{l:List Dr}{n:Nat}(h:n=l.length):lj mN (chunks 7 (sV l) 0 n)=some (l.map Dr.row):=by
 subst h;rw[HO (row:=Dr.row) (fun _=>rfl) rfl];exact HP (fun a=>by simp) l
theorem ajZ{n:Nat}:List.replicate n z0=dR (pad 0 [] n):=by simp[pad,dR]
theorem VS{c:Cs}{u:Co}{x:Int}{k:Nat}:(vL c u x k).re=u.re∧(vL c u x k).lf=u.lf∧(vL c u x k).d=u.d:=by
 unfold vL;cases lb c.r.l k<;>exact⟨rfl,rfl,rfl⟩
theorem VT{c:Cs}{u v:Co}{x:Int}{k:Nat}(h1:u.arr=v.arr)(h2:u.w=v.w)(h3:u.cm=v.cm):(vL c u x k).arr=(vL c v x k).arr∧(vL c u x k).w=(vL c v x k).w∧(vL c u x k).cm=(vL c v x k).cm:=by
 unfold vL;cases lb c.r.l k
 ·exact⟨h1,h2,h3⟩
 ·simp only[h1,h2,h3,and_self]
theorem aj0{l:List Int}{m:Int}:fK l m↔∀x∈l,0≤x∧x≤m:=by
 refine⟨fun h x hx=>?_,fun h i hi=>h _ (qc hi)⟩;obtain⟨i,hi,rfl⟩:=List.mem_iff_getElem.1 hx;have:=h i hi
 rwa [show nth l i=l[i] by simp[nth,hi]]at this
theorem VU{a b:List Int}{m:Int}:fK (a++b) m↔fK a m∧fK b m:=by
 simp only[aj0,List.mem_append];exact⟨fun h=>⟨fun x hx=>h x (.inl hx),fun x hx=>h x (.inr hx)⟩,fun h x hx=>hx.elim (h.1 x) (h.2 x)⟩
theorem aj1{l:List Dr}{i:Nat}(h:i<l.length)(x:Dr):j8 (sV l) (i*7) x.row=sV (l.set i x):=HN (row:=Dr.row) (fun _=>rfl) h
structure Vf(f:Fl)(v:Co):Prop where
 d:v.d.length=f.d.length∧∀i,v.re.length≤i→nth v.d i=nth f.d i
 w:v.w.length=f.w.length∧∀i,v.cm.length≤i→nth v.w i=nth f.w i
theorem Vf.next{c:Cs}(hc:xu c){p:Sp}{f:Fl}{v:Co}{k:Nat}(h:Vf f v)(ho:Vo c v k):Vf f (vS c p v k):=by
 obtain⟨s1,s2,s3,s4⟩:=EB (c:=c) (p:=p) (v:=v) (k:=k);have hd:(vD c p v k).d.length=f.d.length∧∀i,(vD c p v k).re.length≤i→nth (vD c p v k).d i=nth f.d i:=by
  unfold vD;cases hs:mc c.s k with
  |none=>exact h.d
  |some i =>
   obtain⟨a,b⟩:=xB hs;have e:=(uX ho.s (fun j h0 hj=>(xA hc hj).2.1 h0) a b).1;refine⟨by simp only[List.length_set];exact h.d.1,fun j hj=>?_⟩
   simp only[List.length_append,List.length_singleton]at hj;show nth (v.d.set i _) j=nth f.d j;rcases Nat.lt_or_ge i v.d.length with g|g
   ·rw[xv g,if_neg (by omega)]
    exact h.d.2 j (by omega)
   ·rw[List.set_eq_of_length_le g]
    exact h.d.2 j (by omega)
 unfold vS vL;cases hl:lb c.r.l k with
 |none=>exact⟨hd,by rw[s2,s3];exact h.w⟩
 |some j =>
  obtain⟨a,b⟩:=xC hl;have e:=(uX ho.l (fun j h0 hj=>((mZ hc.k).link hj).2.1 h0) a b).1;refine⟨hd,?_⟩;simp only[s2,s3];refine⟨by simp only[List.length_set];exact h.w.1,fun i hi=>?_⟩
  simp only[List.length_append,List.length_singleton]at hi;rcases Nat.lt_or_ge j v.w.length with g|g
  ·rw[xv g,if_neg (by omega)]
   exact h.w.2 i (by omega)
  ·rw[List.set_eq_of_length_le g]
   exact h.w.2 i (by omega)
theorem NJ{c:Cs}(hc:xu c)(p:Sp)(f:Fl):∀k,Vf f (cA c p f k)
 |0=>⟨⟨rfl,fun _ _=>rfl⟩,⟨rfl,fun _ _=>rfl⟩⟩
 |k+1=>(NJ hc p f k).next hc (zT hc p f k)
theorem aj2{c:Cs}{k i:Nat}(h:∀j,j<i→qU c j≠k)(hi:i<c.s.length)(hk:qU c i=k):mc c.s k=some i:=by
 cases hs:mc c.s k with
 |none=>exact absurd hk (VQ hs i hi)
 |some j =>
  have h1:=wi hs;obtain⟨a,b⟩:=xB hs;rcases Nat.lt_trichotomy j i with g|g|g
  ·exact absurd b (h j g)
  ·rw[g]
  ·have:=h1.2.2 i (by omega) g
   have hk:(nth c.s i).n=k:=hk;simp[hk]at this
theorem aj3{c:Cs}{k i:Nat}(h:∀j,j<i→wx c j≠k)(hi:i<c.r.l.length)(hk:wx c i=k):lb c.r.l k=some i:=by
 cases hs:lb c.r.l k with
 |none=>exact absurd hk (VR hs i hi)
 |some j =>
  have h1:=wi hs;obtain⟨a,b⟩:=xC hs;rcases Nat.lt_trichotomy j i with g|g|g
  ·exact absurd b (h j g)
  ·rw[g]
  ·have:=h1.2.2 i (by omega) g
   have hk:(nth c.r.l i).f=k:=hk;simp[hk]at this
theorem aj4{c:Cs}{k:Nat}(h:∀j,j<c.s.length→qU c j≠k):mc c.s k=none:=by
 cases hs:mc c.s k with
 |none=>rfl
 |some j=>exact absurd (xB hs).2 (h j (xB hs).1)
theorem aj5{c:Cs}{k:Nat}(h:∀j,j<c.r.l.length→wx c j≠k):lb c.r.l k=none:=by
 cases hs:lb c.r.l k with
 |none=>rfl
 |some j=>exact absurd (xC hs).2 (h j (xC hs).1)
end Go.Proofs.YtmpikpodpgnjhaaGreat
namespace Go.Proofs.YtmpikpodpgnjhaaGreat
set_option linter.all false
open Go.Vm
attribute [local simp] eQ eR eO eP
set_option maxRecDepth 100000 in
set_option maxHeartbeats 8000000 in
theorem aj6{c:Cs}(hr:om c.r){f:Fl}(hf:ua f){p:Sp}(lu:p.a.length≤1000∧p.b.length≤1000∧p.c.length≤1000):∃G',bo F 42 [cs c,fl f,sv p] []=some (qT (some 0) c f p,G'):=by
 suffices h:∀Q:V→Prop,Q (qT (some 0) c f p)→iP (bo F) 42 [cs c,fl f,sv p] [] fun v _=>Q v by
  obtain⟨_,G',h,rfl⟩:=h (fun v=>v=qT (some 0) c f p) rfl;exact⟨G',h⟩
 intro Q hQ;refine jl rfl rfl ?_;have hc:=Np c hr;have hv:=Vi c hr f hf;have err:∀e,nN c f p=e→e≠0→Q (VJ (some 0) e):=fun e h he=>by
  unfold qT at hQ
  rwa [h,if_neg he]at hQ
 by_cases hz:gi c=0
 case neg =>
  simp +contextual (disch:=omega) [-getElem?_pos,-List.length_eq_zero_iff,-Int.natCast_eq_zero,wrap64,tJ,hc,hz];exact err _ (by unfold nN o0;rw[if_pos hz,if_pos hz]) hz
 by_cases kG:iI c f
 case neg =>
  have h0:decide (gi c=0∧iI c f)=false:=decide_eq_false fun g=>kG g.2;rw[h0]at hv;simp +contextual (disch:=omega) [-getElem?_pos,-List.length_eq_zero_iff,-Int.natCast_eq_zero,wrap64,tJ,hc,hz,hv];have VV:o0 c f=50:=by unfold o0;rw[if_neg (by omega),if_neg kG]
  exact err 50 (by unfold nN;rw[VV];rfl) (by decide)
 have VV:o0 c f=0:=by unfold o0;rw[if_neg (by omega),if_pos kG]
 have fD:nN c f p=jF c f p:=by unfold nN;rw[if_neg (by omega)]
 rw[fD]at err;rw[decide_eq_true ⟨hz,kG⟩]at hv;have cv:=oo hz;have kv:=mZ cv.k;have jg:=kv.n;by_cases h1:(p.a.length:Int)=c.r.n
 case neg =>
  simp +contextual (disch:=omega) [-getElem?_pos,-List.length_eq_zero_iff,-Int.natCast_eq_zero,wrap64,tJ,hc,hz,hv,h1];exact err 3 (by unfold jF;rw[if_neg fun g=>h1 g.1]) (by decide)
 by_cases h2:p.b.length=c.s.length
 case neg =>
  have lI:¬ (p.b.length:Int)=c.s.length:=by omega
  simp +contextual (disch:=omega) [-getElem?_pos,-List.length_eq_zero_iff,-Int.natCast_eq_zero,wrap64,tJ,hc,hz,hv,h1,lI];exact err 3 (by unfold jF;rw[if_neg fun g=>h2 g.2.1]) (by decide)
 have lI:(p.b.length:Int)=c.s.length:=by omega
 by_cases h3:p.c.length=c.s.length
 case neg =>
  have jq:¬ (p.c.length:Int)=c.s.length:=by omega
  simp +contextual (disch:=omega) [-getElem?_pos,-List.length_eq_zero_iff,-Int.natCast_eq_zero,wrap64,tJ,hc,hz,hv,h1,lI,jq];exact err 3 (by unfold jF;rw[if_neg fun g=>h3 g.2.2]) (by decide)
 have jq:(p.c.length:Int)=c.s.length:=by omega
 have gT:nK c p:=⟨h1,h2,h3⟩;have ha:=Nv p.a lu.1 1073741824;have hb:=Nv p.b lu.2.1 1073741824;have tr:=Nv p.c lu.2.2 1073741824;have app:fK (p.a++p.b++p.c) 1073741824↔fK p.a 1073741824∧fK p.b 1073741824∧fK p.c 1073741824:=by
  rw[VU,VU,and_assoc]
 by_cases g1:fK p.a 1073741824
 case neg =>
  simp +contextual (disch:=omega) [-getElem?_pos,-List.length_eq_zero_iff,-Int.natCast_eq_zero,wrap64,tJ,hc,hz,hv,h1,lI,jq,ha,g1];exact err 1 (by unfold jF;rw[if_pos gT,if_neg fun g=>g1 (app.1 g).1]) (by decide)
 by_cases g2:fK p.b 1073741824
 case neg =>
  simp +contextual (disch:=omega) [-getElem?_pos,-List.length_eq_zero_iff,-Int.natCast_eq_zero,wrap64,tJ,hc,hz,hv,h1,lI,jq,ha,g1,hb,g2];exact err 1 (by unfold jF;rw[if_pos gT,if_neg fun g=>g2 (app.1 g).2.1]) (by decide)
 by_cases g3:fK p.c 1073741824
 case neg =>
  simp +contextual (disch:=omega) [-getElem?_pos,-List.length_eq_zero_iff,-Int.natCast_eq_zero,wrap64,tJ,hc,hz,hv,h1,lI,jq,ha,g1,hb,g2,tr,g3];exact err 1 (by unfold jF;rw[if_pos gT,if_neg fun g=>g3 (app.1 g).2.2]) (by decide)
 have vv:=app.2 ⟨g1,g2,g3⟩;have hcy:=ajm f (HS hz kG.2.1) (VI cv.k kG.2.2);have ajS:=kG.1;have EP:=cv.s;have ke:=kv.len;have H0:0<p.a.length:=by omega
 have CW:f.d.length=c.s.length:=kG.2.1.1;have hwl:f.w.length=c.r.l.length:=kG.2.2.1;simp +contextual (disch:=omega) [-getElem?_pos,-List.length_eq_zero_iff,-Int.natCast_eq_zero,wrap64,tJ,hc,hz,hv,h1,lI,jq,ha,g1,hb,g2,tr,g3];refine b9 (fun g4=>?_) (fun g4=>?_)
 ·exact err 6 (by unfold jF;rw[if_pos gT,if_pos vv,if_pos g4]) (by decide)
 have hE:jF c f p=ec (fun k=>vE c p (cA c p f k) k) c.r.n.toNat 0:=by unfold jF;rw[if_pos gT,if_pos vv,if_neg g4]
 have AS:p.a.isEmpty=false:=by
  cases hp:p.a with
  |nil=>rw[hp]at H0;simp at H0
  |cons a l=>rfl
 simp +contextual (disch:=omega) [-getElem?_pos,-List.length_eq_zero_iff,-Int.natCast_eq_zero,wrap64,hcy,ajX,AS];refine go_loop (fun k:Nat=>aat p.a.length k c.row f.row p.row [i64 0,.aM,.aM] [.aM,.aM,.aM] [i64 (f.t+1),.dB 0 4 f.d.length,.dB 1 1 f.w.length]
   [.b0 100 7 c.s.length,.b0 104 1 c.r.n.toNat,.b0 109 1 c.r.l.length] (sV (pad xD (cA c p f k).re c.s.length)) (dR (pad 0 (cA c p f k).lf c.r.n.toNat)) (dR (pad 0 (cA c p f k).cm c.r.l.length)) (dR (cA c p f k).arr)
   [.cells (jU (cA c p f k).d),.cells (lL (cA c p f k).w)])
  (fun k=>k≤c.r.n.toNat∧(∀j,j<k→vE c p (cA c p f j) j=0)∧ec (fun k=>vE c p (cA c p f k) k) (c.r.n.toNat-k) k=jF c f p) (fun k=>c.r.n.toNat-k) 0 rfl (by simp[cA,ajZ]) ⟨by omega,by omega,hE.symm⟩ ?_
 rintro k ⟨hk,VW,hq⟩;have BR:=vcs hz kG gT vv VW;have vr:=zT cv p f k;have FD:=NJ cv p f k;have AX:=FD.d;have hww:=FD.w;have aoV:=BR.xw;have aj9:=BR.ll;have AP:=vr.s.1;have aka:=vr.l.1;have ecv:cA c p f (k+1)=vS c p (cA c p f k) k:=rfl;simp +contextual (disch:=omega) [-getElem?_pos,-List.length_eq_zero_iff,-Int.natCast_eq_zero,wrap64,Rl];refine b9 (fun fQ=>?_) (fun fQ=>?_)
 ·have akc:k<c.r.n.toNat:=by omega
  rw[lZ akc]at hq;generalize hcv:cA c p f k=v at *;have EA:k<v.arr.length:=by omega
  simp +contextual (disch:=omega) [-getElem?_pos,-List.length_eq_zero_iff,-Int.natCast_eq_zero,wrap64,kL];obtain⟨s1,s2,s3,s4⟩:=EB (c:=c) (p:=p) (v:=v) (k:=k);refine go_loop (fun y:Nat×Co×Int=>aaj p.a.length k y.2.2 (rJ c.s) c.s.length y.1 c.row f.row p.row [i64 0,.aM,.aM] [.aM,.aM,.aM] [i64 (f.t+1),.dB 0 4 f.d.length,.dB 1 1 f.w.length]
    [.b0 100 7 c.s.length,.b0 104 1 c.r.n.toNat,.b0 109 1 c.r.l.length] (sV (pad xD y.2.1.re c.s.length)) (dR (pad 0 v.lf c.r.n.toNat)) (dR (pad 0 v.cm c.r.l.length)) (dR v.arr) [.cells (jU y.2.1.d),.cells (lL v.w)])
   (fun y=>y.1≤c.s.length∧((y.2.1=v∧y.2.2=nth v.arr k∧∀j,j<y.1→qU c j≠k)∨(y.2.1=vD c p v k∧y.2.2=fC c p v k∧lM c p v k=0∧∃j,j<y.1∧mc c.s k=some j)))
   (fun y=>c.s.length-y.1) (0,v,nth v.arr k) rfl (by simp) ⟨by simp,.inl ⟨rfl,rfl,by simp⟩⟩ ?_
  rintro⟨i,u,x⟩ ⟨hi,hu⟩;simp only at hi hu;have ake:(pad xD v.re c.s.length).length=c.s.length:=H2 AP;simp +contextual (disch:=omega) [-getElem?_pos,-List.length_eq_zero_iff,-Int.natCast_eq_zero,wrap64,Rj];refine b9 (fun h5=>?_) (fun h5=>?_)
  ·have h5:i<c.s.length:=by omega
   have h6:i<f.d.length:=by omega
   have h7:i<p.b.length:=by omega
   have h8:i<p.c.length:=by omega
   simp +contextual (disch:=omega) [-getElem?_pos,-List.length_eq_zero_iff,-Int.natCast_eq_zero,wrap64,bp (l:=c.s)];refine b9 (fun h9=>?_) (fun h9=>?_)
   ·have hs:mc c.s k=some i∧u=v∧x=nth v.arr k∧i=v.re.length:=by
     have e:=(uX vr.s (fun j h0 hj=>(xA cv hj).2.1 h0) h5 h9).1;rcases hu with⟨a,b,d⟩ | ⟨_,_,_,j,hj,hs⟩
     ·exact⟨aj2 d h5 h9,a,b,e⟩
     ·have:=(uX vr.s (fun j h0 hj=>(xA cv hj).2.1 h0) (xB hs).1 (xB hs).2).1
      omega
    obtain⟨hs,rfl,rfl,BO⟩:=hs;have H4:nth u.d i=nth f.d i:=AX.2 i (by omega)
    obtain⟨Ga,hS⟩:=U0 (nth c.s i).d (nth f.d i) (nth u.arr k) (nth p.b i) (nth p.c i);by_cases he:mV (nth c.s i).d (nth f.d i) (nth u.arr k) (nth p.b i) (nth p.c i)=0
    ·have ND:=(VE he).1
     have e0:lM c p u k=0:=by simp only[lM,hs,H4,he]
     have e1:fC c p u k=rM (vR c p u k i):=by simp only[fC,hs]
     have e2:vD c p u k={ u with d:=u.d.set i (lK (nth c.s i).d (nth f.d i) (nth u.arr k) (nth p.b i) (nth p.c i)),re:=u.re++[vR c p u k i],lf:=u.lf++[fC c p u k] }:=by rw[vD,hs,← H4]
     have e3:vR c p u k i=la (nth c.s i).d (nth f.d i) (nth u.arr k) (nth p.b i) (nth p.c i):=by rw[vR,H4]
     rw[qh,if_pos he]at hS;rw[e3]at e1 e2;rw[e1]at e2;generalize lK (nth c.s i).d (nth f.d i) (nth u.arr k) (nth p.b i) (nth p.c i)=S' at hS e2;generalize la (nth c.s i).d (nth f.d i) (nth u.arr k) (nth p.b i) (nth p.c i)=R' at hS ND e1 e2;have hF:=ai5 R' (by omega) (by omega) (by omega)
     rw[show R'.tur+R'.spi+R'.ovr=rM R' from rfl]at hF;have mj:i<u.d.length:=by omega
     have iY:((((jU u.d).set (i*4) (i64 S'.v)).set (i*4+1) (i64 S'.rel)).set (i*4+1+1) (jy S'.u)).set (i*4+1+1+1) (jo S'.g)=jU (u.d.set i S'):=VB mj S';have hrt:(((((((sV (pad xD u.re c.s.length)).set (i*7) (i64 R'.inf)).set (i*7+1) (i64 R'.los)).set (i*7+1+1) (i64 R'.tur)).set (i*7+1+1+1) (i64 R'.spi)).set (i*7+1+1+1+1) (i64 R'.ovr)).set (i*7+1+1+1+1+1) (i64 R'.pow)).set (i*7+1+1+1+1+1+1) (i64 R'.lJ)=sV (pad xD (u.re++[R']) c.s.length):=by
      rw[←NI BO (by omega)]
      exact aj1 (by rw[H2 (by omega)];exact h5) R'
     simp +contextual (disch:=omega) [-getElem?_pos,-List.length_eq_zero_iff,-Int.natCast_eq_zero,wrap64,bp (l:=f.d),ez (l:=p.b),ez (l:=p.c),kL,hS,hF,iY,hrt,ake];refine cc (i+1,vD c p u k,fC c p u k) (by simp[e1,e2]) ⟨by simp only;omega,.inr ⟨rfl,rfl,e0,i,by simp only;omega,hs⟩⟩ (by simp only;omega)
    ·rw[qh,if_neg he]at hS
     have e0:vE c p u k=mV (nth c.s i).d (nth f.d i) (nth u.arr k) (nth p.b i) (nth p.c i):=by
      have:lM c p u k=mV (nth c.s i).d (nth f.d i) (nth u.arr k) (nth p.b i) (nth p.c i):=by simp only[lM,hs,H4]
      rw[vE,this,if_pos he]
     rw[e0,if_neg he]at hq;simp +contextual (disch:=omega) [-getElem?_pos,-List.length_eq_zero_iff,-Int.natCast_eq_zero,wrap64,bp (l:=f.d),ez (l:=p.b),ez (l:=p.c),kL,hS,decide_eq_false he];exact err _ hq.symm he
   ·refine cc (i+1,u,x) (by simp) ⟨by simp only;omega,?_⟩ (by simp only;omega)
    rcases hu with⟨a,b,d⟩ | ⟨a,b,d,j,hj,hs⟩
    ·refine .inl ⟨a,b,fun j hj=>?_⟩
     rcases Nat.lt_or_ge j i with g|g
     ·exact d j g
     ·rw[show j=i by simp only at hj;omega];exact h9
    ·exact .inr ⟨a,b,d,j,by simp only;omega,hs⟩
  ·obtain rfl:i=c.s.length:=by omega
   have hD:u.re=(vD c p v k).re∧u.d=(vD c p v k).d∧x=fC c p v k∧lM c p v k=0:=by
    rcases hu with⟨rfl,rfl,d⟩ | ⟨rfl,b,d,_⟩
    ·have hn:=aj4 d
     unfold vD fC lM;rw[hn];exact⟨rfl,rfl,rfl,rfl⟩
    ·exact⟨rfl,rfl,b,d⟩
   obtain⟨d1,d2,rfl,d3⟩:=hD;rw[d1,d2];generalize hx:fC c p v k=x at *;have akg:(pad 0 v.lf c.r.n.toNat).length=c.r.n.toNat:=H2 (by omega)
   have iY:(pad 0 v.lf c.r.n.toNat).set k x=pad 0 (vD c p v k).lf c.r.n.toNat:=by rw[NI (by omega) (by omega),s4]
   simp +contextual (disch:=omega) [-getElem?_pos,-List.length_eq_zero_iff,-Int.natCast_eq_zero,wrap64,akg,iY];have akh:(pad 0 v.cm c.r.l.length).length=c.r.l.length:=H2 aka;refine go_loop (fun y:Nat×Co=>aao p.a.length k x (nJ c.r.l) c.r.l.length y.1 c.row f.row p.row [i64 0,.aM,.aM] [.aM,.aM,.aM] [i64 (f.t+1),.dB 0 4 f.d.length,.dB 1 1 f.w.length]
     [.b0 100 7 c.s.length,.b0 104 1 c.r.n.toNat,.b0 109 1 c.r.l.length] (sV (pad xD (vD c p v k).re c.s.length)) (dR (pad 0 (vD c p v k).lf c.r.n.toNat)) (dR (pad 0 y.2.cm c.r.l.length)) (dR y.2.arr) [.cells (jU (vD c p v k).d),.cells (lL y.2.w)])
    (fun y=>y.1≤c.r.l.length∧((y.2=v∧∀j,j<y.1→wx c j≠k)∨(y.2=vL c v x k∧nM c v x k=0∧∃j,j<y.1∧lb c.r.l k=some j)))
    (fun y=>c.r.l.length-y.1) (0,v) rfl (by simp) ⟨by simp,.inl ⟨rfl,by simp⟩⟩ ?_
   rintro⟨i,u⟩ ⟨hi,hu⟩;simp only at hi hu;simp +contextual (disch:=omega) [-getElem?_pos,-List.length_eq_zero_iff,-Int.natCast_eq_zero,wrap64,Rk];refine b9 (fun h5=>?_) (fun h5=>?_)
   ·have h5:i<c.r.l.length:=by omega
    have h6:i<f.w.length:=by omega
    simp +contextual (disch:=omega) [-getElem?_pos,-List.length_eq_zero_iff,-Int.natCast_eq_zero,wrap64,bp (l:=c.r.l)];refine b9 (fun h9=>?_) (fun h9=>?_)
    ·have hs:lb c.r.l k=some i∧u=v∧i=v.cm.length:=by
      have e:=(uX vr.l (fun j h0 hj=>(kv.link hj).2.1 h0) h5 h9).1;rcases hu with⟨a,d⟩ | ⟨_,_,j,hj,hs⟩
      ·exact⟨aj3 d h5 h9,a,e⟩
      ·have:=(uX vr.l (fun j h0 hj=>(kv.link hj).2.1 h0) (xC hs).1 (xC hs).2).1
       omega
     obtain⟨hs,rfl,BO⟩:=hs;have VX:nth u.w i=nth f.w i:=hww.2 i (by omega)
     have hfi:=kG.2.2.2 i h5;obtain⟨tt,hR⟩:=aje (nth c.r.l i).r (hr.2 i h5) (nth f.w i) (hf i) x;have bF:=(kv.link h5).1;have htl:(nth c.r.l i).t.toNat<u.arr.length:=by omega
     have eL:nM c u x k=gy (nth c.r.l i).r (nth f.w i) x:=by unfold nM;rw[hs];simp only[VX]
     have eE:vE c p u k=gy (nth c.r.l i).r (nth f.w i) x:=by
      rw[vE,d3,hx,eL];rfl
     rw[eE]at hq;by_cases he:gy (nth c.r.l i).r (nth f.w i) x=0
     ·have ho:=Ez he
      have har:=BR.arr (nth c.r.l i).t.toNat htl;rw[Ew he]at hR;have e2:vL c u x k={ u with w:=u.w.set i (mY (nth c.r.l i).r (nth f.w i) x),cm:=u.cm++[mW (nth c.r.l i).r (nth f.w i) x],arr:=u.arr.set (nth c.r.l i).t.toNat (nth u.arr (nth c.r.l i).t.toNat+mW (nth c.r.l i).r (nth f.w i) x) }:=by
       rw[vL,hs,← VX]
      have iY:(pad 0 u.cm c.r.l.length).set i (mW (nth c.r.l i).r (nth f.w i) x)=pad 0 (u.cm++[mW (nth c.r.l i).r (nth f.w i) x]) c.r.l.length:=NI BO (by omega)
      simp +contextual (disch:=omega) [-getElem?_pos,-List.length_eq_zero_iff,-Int.natCast_eq_zero,wrap64,bp (l:=f.w),hR,NA,akh,iY,kL];refine cc (i+1,vL c u x k) (by simp[e2]) ⟨by simp only;omega,.inr ⟨rfl,by rw[eL,he],i,by simp only;omega,hs⟩⟩ (by simp only;omega)
     ·rw[zN rfl he]at hR
      rw[if_neg he]at hq;simp +contextual (disch:=omega) [-getElem?_pos,-List.length_eq_zero_iff,-Int.natCast_eq_zero,wrap64,bp (l:=f.w),hR,decide_eq_false he];exact err _ hq.symm he
    ·refine cc (i+1,u) (by simp) ⟨by simp only;omega,?_⟩ (by simp only;omega)
     rcases hu with⟨a,d⟩ | ⟨a,d,j,hj,hs⟩
     ·refine .inl ⟨a,fun j hj=>?_⟩
      rcases Nat.lt_or_ge j i with g|g
      ·exact d j g
      ·rw[show j=i by simp only at hj;omega];exact h9
     ·exact .inr ⟨a,d,j,by simp only;omega,hs⟩
   ·obtain rfl:i=c.r.l.length:=by omega
    have hD:u=vL c v x k∧nM c v x k=0:=by
     rcases hu with⟨rfl,d⟩ | ⟨rfl,b,_⟩
     ·have hn:=aj5 d
      unfold vL nM;rw[hn];exact⟨rfl,rfl⟩
     ·exact⟨rfl,b⟩
    obtain⟨rfl,d4⟩:=hD;have eE:vE c p v k=0:=by rw[vE,d3,hx,d4];rfl
    rw[if_pos eE]at hq;obtain⟨a1,a2,a3⟩:=VT (c:=c) (u:=vD c p v k) (v:=v) (x:=x) (k:=k) s1 s2 s3;obtain⟨b1,b2,b3⟩:=VS (c:=c) (u:=vD c p v k) (x:=x) (k:=k);have hvS:vS c p v k=vL c (vD c p v k) x k:=by rw[vS,hx]
    refine cc (k+1) (by simp[ecv,hvS,a1,a2,a3,b1,b2,b3]) ⟨by omega,fun j hj=>?_,hq⟩ (by omega)
    rcases Nat.lt_or_ge j k with g|g
    ·exact VW j g
    ·rw[show j=k by omega,hcv];exact eE
 ·obtain rfl:k=c.r.n.toNat:=by omega
  rw[mP]at hq;have wQ:=NG cv p f;have w1:((cA c p f c.r.n.toNat).re.length:Int)=c.s.length:=by omega
  rw[NH wQ.1,NH aj9,NH wQ.2];simp +contextual (disch:=omega) [-getElem?_pos,-List.length_eq_zero_iff,-Int.natCast_eq_zero,wrap64,zP,HQ,ajY,J5];rw[←hq]at fD;unfold qT at hQ;rw[fD,if_pos rfl]at hQ;exact hQ
end Go.Proofs.YtmpikpodpgnjhaaGreat
namespace Go.Proofs.YtmpikpodpgnjhaaGreat
set_option linter.all false
open Go.Vm
attribute [local simp] eQ eR eO eP
structure Pa(c:Cs)(f:Fl)(p:Sp):Prop where
 c0:gi c=0
 f0:iI c f
 p0:nK c p
 all:fK (p.a++p.b++p.c) 1073741824
 t:f.t≠16777216
 v:∀k,k<c.r.n.toNat→vE c p (cA c p f k) k=0
theorem VY{c:Cs}{f:Fl}{p:Sp}(h:nN c f p=0):Pa c f p:=by
 unfold nN at h;split at h
 ·rename_i h1;exact absurd h h1
 ·rename_i h1
  obtain⟨h2,h3⟩:=VK (Decidable.of_not_not h1);unfold jF at h;split at h
  ·split at h
   ·split at h
    ·cases h
    ·exact⟨h2,h3,by assumption,by assumption,by assumption,fun k hk=>sD h k (by omega) (by omega)⟩
   ·cases h
  ·cases h
theorem Pa.vc{c:Cs}{f:Fl}{p:Sp}(h:Pa c f p){k:Nat}(hk:k≤c.r.n.toNat):Vc c p (cA c p f k) k:=vcs h.c0 h.f0 h.p0 h.all fun j hj=>h.v j (by omega)
theorem Pa.fl{c:Cs}{f:Fl}{p:Sp}(h:Pa c f p):iI c (uW c f p):=by
 have hv:=h.vc (Nat.le_refl _);have:=h.f0.1;have:=h.t;exact⟨by simp only[uW];omega,hv.d,hv.w⟩
theorem VZ{c:Cs}(hk:jE c.r=0){f:Fl}(h:iI c f):ua f:=fun i=>by
 rcases Nat.lt_or_ge i c.r.l.length with g|g
 ·have a:=h.2.2.2 i g
  have:=a.2.1;have:=(wc a.1).len;omega
 ·have:nth f.w i=[]:=by
   simp[nth,List.getD,List.getElem?_eq_none (show f.w.length≤i by have:=h.2.2.1;omega)]
   rfl
  rw[this];simp
theorem akk{l:List Int}{k:Nat}(hd:eb l k){c:Cs}(hc:Cm c){s:List Ds}(hs:mD c s):∃f k',bo F 53 [.bN 0 0,cs c,rK s] [dk l k]=some (fl f,[dk l k'])∧eb l k'∧iI c f:=by
 suffices h:∀Q:V→List aV→Prop,(∀f k',eb l k'→iI c f→Q (fl f) [dk l k'])→iP (bo F) 53 [.bN 0 0,cs c,rK s] [dk l k] Q by
  obtain⟨_,_,h,f,k',rfl,rfl,h1⟩:=h (fun v G=>∃f k',v=fl f∧G=[dk l k']∧eb l k'∧iI c f) fun f k' a b=>⟨f,k',rfl,rfl,a,b⟩;exact⟨f,k',h,h1⟩
 intro Q hQ;refine jl rfl rfl ?_;have cv:=oo hc.kZ;have kv:=mZ cv.k;have Ey:=hc.small;have hn6:=hc.n;obtain⟨G1,iY⟩:=ajw c Ey s (HS hc.kZ hs);have h0:ot c s=.tuple [fl (nL c s),i64 0]:=by unfold ot;rw[show oq c s=0 by unfold oq;rw[if_neg (by have:=hc.kZ;omega),if_pos hs]];rfl
 rw[h0]at iY;obtain⟨m,k1,n1,jb,hm⟩:=gF hd 6 (by omega)
 have Ni:=(Nw hc.kZ).2 hs;generalize nL c s=f0 at iY Ni;simp +contextual (disch:=omega) [-getElem?_pos,-List.length_eq_zero_iff,-Int.natCast_eq_zero,wrap64,KI,iY,n1];refine go_loop (fun y:Fl×Int×Nat=>aay (.bN 0 0) y.2.1 c.row [i64 0,.aM,.aM] y.1.row [dk l y.2.2])
  (fun y=>iI c y.1∧(0≤y.2.1∧y.2.1≤10)∧eb l y.2.2) (fun y=>y.2.1.toNat) (f0,m,k1) rfl (by simp) ⟨Ni,by simp only;omega,jb⟩ ?_
 rintro⟨f,x,k⟩ ⟨h1,h2,hd⟩;simp only at h1 h2 hd;simp +contextual (disch:=omega) [-getElem?_pos,-List.length_eq_zero_iff,-Int.natCast_eq_zero,wrap64,Rn];refine b9 (fun h3=>?_) (fun h3=>?_)
 ·obtain⟨p,k2,n2,gm,hp,ha,hb,tr⟩:=Vy hd (c:=c) (by have:=kv.n;omega) (by have:=cv.s;omega)
  have Vj:=cv.s;have lu:p.a.length≤1000∧p.b.length≤1000∧p.c.length≤1000:=by have:=hp;unfold nK at this;omega
  obtain⟨G2,hS⟩:=aj6 Ey (VZ cv.k h1) lu;by_cases he:nN c f p=0
  ·rw[qT,if_pos he]at hS
   have vy:=(VY he).fl;generalize uW c f p=f2 at hS vy;generalize xz c f p=pp at hS;simp +contextual (disch:=omega) [-getElem?_pos,-List.length_eq_zero_iff,-Int.natCast_eq_zero,wrap64,n2,hS];exact cc (f2,x-1,k2) (by simp) ⟨vy,by simp only;omega,gm⟩ (by simp only;omega)
  ·rw[qT,if_neg he]at hS
   simp +contextual (disch:=omega) [-getElem?_pos,-List.length_eq_zero_iff,-Int.natCast_eq_zero,wrap64,n2,hS,decide_eq_false he];exact cc (f,x-1,k2) (by simp) ⟨h1,by simp only;omega,gm⟩ (by simp only;omega)
 ·exact hQ f k hd h1
theorem akm{l:List Int}{k:Nat}(hd:eb l k):∃c f k',bo F 15 [.bN 0 0] [dk l k]=some (.tuple [cs c,fl f],[dk l k'])∧eb l k'∧Cm c∧iI c f:=by
 suffices h:∀Q:V→List aV→Prop,(∀c f k',eb l k'→Cm c→iI c f→Q (.tuple [cs c,fl f]) [dk l k'])→iP (bo F) 15 [.bN 0 0] [dk l k] Q by
  obtain⟨_,_,h,c,f,k',rfl,rfl,h1⟩:=h (fun v G=>∃c f k',v=.tuple [cs c,fl f]∧G=[dk l k']∧eb l k'∧Cm c∧iI c f) fun c f k' a b d=>⟨c,f,k',rfl,rfl,a,b,d⟩;exact⟨c,f,k',h,h1⟩
 intro Q hQ;refine jl rfl rfl ?_;obtain⟨c,s,k1,n1,jb,hc,hs⟩:=ajA hd;obtain⟨f,k2,n2,gm,hf⟩:=akk jb hc hs;simp +contextual (disch:=omega) [-getElem?_pos,-List.length_eq_zero_iff,-Int.natCast_eq_zero,wrap64,KA,n1,n2];exact hQ c f k2 gm hc hf
end Go.Proofs.YtmpikpodpgnjhaaGreat
namespace Go.Proofs.YtmpikpodpgnjhaaGreat
set_option linter.all false
open Go.Vm
def jG(c:Cs)(cm:List Int)(j:Int):Nat→Int
 |0=>0
 |m+1=>jG c cm j m+if (nth c.r.l m).t=j then nth cm m else 0
theorem V0{c:Cs}{cm:List Int}{x:Int}{j:Int}:∀{m:Nat},m≤cm.length→jG c (cm++[x]) j m=jG c cm j m
 |0,_=>rfl
 |m+1,h=>by
  simp only[jG];rw[V0 (by omega),od (by omega)]
theorem akn{c:Cs}{cm:List Int}{x:Int}{j:Int}:jG c (cm++[x]) j (cm.length+1)=jG c cm j cm.length+if (nth c.r.l cm.length).t=j then x else 0:=by
 have e:nth (cm++[x]) cm.length=x:=by rw[iQ,if_neg (by omega),if_pos rfl]
 simp only[jG];rw[V0 (Nat.le_refl _),e]
structure Da(c:Cs)(p:Sp)(f:Fl)(v:Co)(i k:Nat):Prop where
 e:mV (nth c.s i).d (nth f.d i) (nth (cA c p f k).arr k) (nth p.b i) (nth p.c i)=0
 r:nth v.re i=la (nth c.s i).d (nth f.d i) (nth (cA c p f k).arr k) (nth p.b i) (nth p.c i)
 d:nth v.d i=lK (nth c.s i).d (nth f.d i) (nth (cA c p f k).arr k) (nth p.b i) (nth p.c i)
structure Li(c:Cs)(p:Sp)(f:Fl)(v:Co)(m k:Nat):Prop where
 e:gy (nth c.r.l m).r (nth f.w m) (fC c p (cA c p f k) k)=0
 o:nth v.cm m=mW (nth c.r.l m).r (nth f.w m) (fC c p (cA c p f k) k)
 w:nth v.w m=mY (nth c.r.l m).r (nth f.w m) (fC c p (cA c p f k) k)
structure Hi(c:Cs)(p:Sp)(f:Fl)(v:Co)(k:Nat):Prop where
 arr:∀j,j<v.arr.length→nth v.arr j=nth p.a j+jG c v.cm j v.cm.length
 cm:∀m,m<v.cm.length→0≤nth v.cm m∧nth v.cm m≤1125899906842624
 site:∀i,i<v.re.length→∃k':Nat,k'<k∧qU c i=k'∧Da c p f v i k'
 link:∀m,m<v.cm.length→∃k':Nat,k'<k∧wx c m=k'∧Li c p f v m k'
 lf:∀j,j<k→nth v.lf j=fC c p (cA c p f j) j
theorem ako{c:Cs}{p:Sp}{f:Fl}(h:Pa c f p){k:Nat}(hk:k<c.r.n.toNat)(hh:Hi c p f (cA c p f k) k):Hi c p f (cA c p f (k+1)) (k+1):=by
 have hc:=oo h.c0;have hv:=h.vc (k:=k) (by omega)
 have ho:=zT hc p f k;have hf:=NJ hc p f k;obtain⟨e0,eL⟩:=VH (h.v k hk);show Hi c p f (vS c p (cA c p f k) k) (k+1);obtain⟨s1,s2,s3,s4⟩:=EB (c:=c) (p:=p) (v:=cA c p f k) (k:=k);obtain⟨a1,a2,a3⟩:=VT (c:=c) (x:=fC c p (cA c p f k) k) (k:=k) s1 s2 s3;obtain⟨b1,b2,b3⟩:=VS (c:=c) (u:=vD c p (cA c p f k) k) (x:=fC c p (cA c p f k) k) (k:=k);have akp:∀i,i<(vD c p (cA c p f k) k).re.length→∃k':Nat,k'<k+1∧qU c i=k'∧Da c p f (vD c p (cA c p f k) k) i k':=by
  unfold vD;cases hs:mc c.s k with
  |none =>
   intro i hi;obtain⟨k',g1,g2,g3⟩:=hh.site i hi;exact⟨k',by omega,g2,g3.e,g3.r,g3.d⟩
  |some i0 =>
   obtain⟨q1,q2⟩:=xB hs;have q3:=(uX ho.s (fun j h0 hj=>(xA hc hj).2.1 h0) q1 q2).1;have q4:i0<(cA c p f k).d.length:=by have:=hv.d.1;omega
   have q5:=hf.d.2 i0 (by omega)
   intro i hi;simp only[List.length_append,List.length_singleton]at hi;by_cases g:i=i0
   ·subst g
    refine⟨k,by omega,q2,?_,?_,?_⟩
    ·unfold lM at e0
     rw[hs]at e0;rw[←q5];exact e0
    ·show nth ((cA c p f k).re++[_]) i=_
     rw[iQ,if_neg (by omega),if_pos q3,vR,q5]
    ·show nth ((cA c p f k).d.set i _) i=_
     rw[xv q4,if_pos rfl,q5]
   ·obtain⟨k',g1,g2,g3⟩:=hh.site i (by omega)
    refine⟨k',by omega,g2,g3.e,?_,?_⟩
    ·show nth ((cA c p f k).re++[_]) i=_
     rw[od (by omega)];exact g3.r
    ·show nth ((cA c p f k).d.set i0 _) i=_
     rw[xv q4,if_neg g];exact g3.d
 have hlf:∀j,j<k+1→nth (vD c p (cA c p f k) k).lf j=fC c p (cA c p f j) j:=fun j hj=>by
  have:=hv.ll;rw[s4,iQ];by_cases g:j<k
  ·rw[if_pos (by omega)];exact hh.lf j g
  ·rw[if_neg (by omega),if_pos (by omega),show j=k by omega]
 have NK:(∀j,j<(vL c (cA c p f k) (fC c p (cA c p f k) k) k).arr.length→nth (vL c (cA c p f k) (fC c p (cA c p f k) k) k).arr j=nth p.a j+jG c (vL c (cA c p f k) (fC c p (cA c p f k) k) k).cm j (vL c (cA c p f k) (fC c p (cA c p f k) k) k).cm.length) ∧
   (∀m,m<(vL c (cA c p f k) (fC c p (cA c p f k) k) k).cm.length→0≤nth (vL c (cA c p f k) (fC c p (cA c p f k) k) k).cm m∧nth (vL c (cA c p f k) (fC c p (cA c p f k) k) k).cm m≤1125899906842624) ∧
   ∀m,m<(vL c (cA c p f k) (fC c p (cA c p f k) k) k).cm.length→∃k':Nat,k'<k+1∧wx c m=k'∧Li c p f (vL c (cA c p f k) (fC c p (cA c p f k) k) k) m k':=by
  unfold nM at eL;cases hl:lb c.r.l k with
  |none =>
   rw[show vL c (cA c p f k) (fC c p (cA c p f k) k) k=cA c p f k by unfold vL;rw[hl]]
   exact⟨hh.arr,hh.cm,fun m hm=>by obtain⟨k',g1,g2,g3⟩:=hh.link m hm;exact⟨k',by omega,g2,g3⟩⟩
  |some m0 =>
   rw[hl]at eL;obtain⟨q1,q2⟩:=xC hl;have q3:=(uX ho.l (fun j h0 hj=>((mZ hc.k).link hj).2.1 h0) q1 q2).1;have q4:m0<(cA c p f k).w.length:=by have:=hv.w.1;omega
   have q5:=hf.w.2 m0 (by omega)
   have q6:=Ez eL;have q7:=((mZ hc.k).link q1).1;have q8:=hv.xw;have q9:(nth c.r.l m0).t.toNat<(cA c p f k).arr.length:=by omega
   have hu:vL c (cA c p f k) (fC c p (cA c p f k) k) k={ cA c p f k with w:=(cA c p f k).w.set m0 (mY (nth c.r.l m0).r (nth (cA c p f k).w m0) (fC c p (cA c p f k) k)),cm:=(cA c p f k).cm++[mW (nth c.r.l m0).r (nth (cA c p f k).w m0) (fC c p (cA c p f k) k)],arr:=(cA c p f k).arr.set (nth c.r.l m0).t.toNat (nth (cA c p f k).arr (nth c.r.l m0).t.toNat+mW (nth c.r.l m0).r (nth (cA c p f k).w m0) (fC c p (cA c p f k) k)) }:=by
    unfold vL;rw[hl]
   rw[hu];refine⟨fun j hj=>?_,fun m hm=>?_,fun m hm=>?_⟩
   ·simp only[List.length_set]at hj
    simp only[List.length_append,List.length_singleton];rw[xv q9,akn,← q3];by_cases g:j=(nth c.r.l m0).t.toNat
    ·rw[if_pos g,if_pos (by omega),← g,hh.arr j hj,q3]
     exact Int.add_assoc _ _ _
    ·rw[if_neg g,if_neg (by omega),Int.add_zero,q3]
     exact hh.arr j hj
   ·simp only[List.length_append,List.length_singleton]at hm
    simp only;rw[iQ];by_cases g:m<(cA c p f k).cm.length
    ·rw[if_pos g];exact hh.cm m g
    ·rw[if_neg g,if_pos (by omega)];exact q6
   ·simp only[List.length_append,List.length_singleton]at hm
    by_cases g:m=m0
    ·subst g
     refine⟨k,by omega,q2,by rw[←q5];exact eL,?_,?_⟩
     ·show nth ((cA c p f k).cm++[_]) m=_
      rw[iQ,if_neg (by omega),if_pos q3,q5]
     ·show nth ((cA c p f k).w.set m _) m=_
      rw[xv q4,if_pos rfl,q5]
    ·obtain⟨k',g1,g2,g3⟩:=hh.link m (by omega)
     refine⟨k',by omega,g2,g3.e,?_,?_⟩
     ·show nth ((cA c p f k).cm++[_]) m=_
      rw[od (by omega)];exact g3.o
     ·show nth ((cA c p f k).w.set m0 _) m=_
      rw[xv q4,if_neg g];exact g3.w
 unfold vS;refine⟨?_,?_,fun i hi=>?_,fun m hm=>?_,by rw[b2];exact hlf⟩
 ·rw[a1,a3];exact NK.1
 ·rw[a3];exact NK.2.1
 ·rw[b1]at hi
  obtain⟨k',g1,g2,g3⟩:=akp i hi;exact⟨k',g1,g2,g3.e,by rw[b1];exact g3.r,by rw[b3];exact g3.d⟩
 ·rw[a3]at hm
  obtain⟨k',g1,g2,g3⟩:=NK.2.2 m hm;exact⟨k',g1,g2,g3.e,by rw[a3];exact g3.o,by rw[a2];exact g3.w⟩
theorem BN{c:Cs}{p:Sp}{f:Fl}(h:Pa c f p):∀{k:Nat},k≤c.r.n.toNat→Hi c p f (cA c p f k) k
 |0,_=>⟨fun j hj=>by simp[cA,jG],fun m hm=>by simp[cA]at hm,fun i hi=>by simp[cA]at hi,fun m hm=>by simp[cA]at hm,fun j hj=>by omega⟩
 |k+1,hk=>ako h (by omega) (BN h (by omega))
end Go.Proofs.YtmpikpodpgnjhaaGreat
namespace Go.Proofs.YtmpikpodpgnjhaaGreat
set_option linter.all false
open Go.Vm
attribute [local simp] eQ eR eO eP
abbrev EC:Rc:=⟨[0,1],1⟩
abbrev gq:Cs:=⟨⟨2,[⟨0,1,EC⟩]⟩,[]⟩
theorem ED:e7 EC=0:=by
 unfold e7;rw[if_neg (by decide),if_neg (by decide),if_pos,if_pos (by decide)]
 intro i hi;have:i=0∨i=1:=by simp at hi;omega
 rcases this with rfl|rfl<;>decide
theorem aks:jE gq.r=0:=by
 unfold jE;rw[if_neg (by decide)]
 show(if lE gq.r 0=0 then (0:Int) else lE gq.r 0)=0
 have:lE gq.r 0=0:=by
  unfold lE;simp only;rw[if_pos (by decide),if_neg (by decide),if_neg (by decide)]
  exact ED
 rw[if_pos this]
theorem H6:gi gq=0:=by
 unfold gi;rw[if_neg (fun g=>g aks),if_neg (by decide),if_neg (by decide)]
 rfl
theorem H7:om gq.r:=⟨by decide,fun i hi=>by
 have:i=0:=by simp at hi;omega
 subst this
 decide⟩
theorem NL{t:Int}{p:List Int}(h:p.length≤10):ua ⟨t,[],[p]⟩:=fun i=>by
 cases i with
 |zero=>show p.length≤_;omega
 |succ i=>exact Nat.zero_le _
theorem H8:∀p:List Int,p=[]∨p=[7]→im EC p:=fun p h=>by
 rcases h with rfl|rfl
 ·exact⟨by decide,by decide,fun i hi=>by simp at hi⟩
 ·refine⟨by decide,by decide,fun i hi=>?_⟩
  have:i=0:=by simp at hi;omega
  subst this;decide
theorem akt:gy EC [] 7=0:=by
 unfold gy;rw[if_neg (fun g=>g ED),if_pos (H8 _ (.inl rfl)),if_pos];refine⟨by decide,fun i hi=>?_⟩
 have:i=0∨i=1:=by simp at hi;omega
 rcases this with rfl|rfl<;>decide
theorem aku:gy EC [7] 0=0:=by
 unfold gy;rw[if_neg (fun g=>g ED),if_pos (H8 _ (.inr rfl)),if_pos];refine⟨by decide,fun i hi=>?_⟩
 have:i=0∨i=1:=by simp at hi;omega
 rcases this with rfl|rfl<;>decide
abbrev wz:Sp:=⟨[7,0],[],[]⟩
abbrev wA:Sp:=⟨[0,0],[],[]⟩
abbrev uY:Fl:=⟨0,[],[[]]⟩
abbrev uc:Fl:=⟨1,[],[[7]]⟩
theorem akv:iI gq uY:=⟨by decide,⟨rfl,by simp⟩,rfl,fun i hi=>by
 have:i=0:=by simp at hi;omega
 subst this;exact⟨ED,H8 _ (.inl rfl)⟩⟩
theorem V3:iI gq uc:=⟨by decide,⟨rfl,by simp⟩,rfl,fun i hi=>by
 have:i=0:=by simp at hi;omega
 subst this;exact⟨ED,H8 _ (.inr rfl)⟩⟩
theorem xE(k:Int):mc gq.s k=none:=rfl
theorem H9:lb gq.r.l ((0:Nat):Int)=some 0:=rfl
theorem Ia:lb gq.r.l ((1:Nat):Int)=none:=rfl
theorem V4:cA gq wz uY 1=⟨[7,0],[],[[7]],[],[7],[0]⟩:=by
 show vS gq wz ⟨[7,0],[],[[]],[],[],[]⟩ 0=_;unfold vS vL vD fC;rw[xE,H9];rfl
theorem V5:cA gq wz uY 2=⟨[7,0],[],[[7]],[],[7,0],[0]⟩:=by
 show vS gq wz (cA gq wz uY 1) 1=_;rw[V4];unfold vS vL vD fC;rw[xE,Ia];rfl
theorem V6:cA gq wA uc 1=⟨[0,7],[],[[]],[],[0],[7]⟩:=by
 show vS gq wA ⟨[0,0],[],[[7]],[],[],[]⟩ 0=_;unfold vS vL vD fC;rw[xE,H9];rfl
theorem V7:cA gq wA uc 2=⟨[0,7],[],[[]],[],[0,7],[7]⟩:=by
 show vS gq wA (cA gq wA uc 1) 1=_;rw[V6];unfold vS vL vD fC;rw[xE,Ia];rfl
theorem V8{l:List Int}(h:∀x∈l,x=0∨x=7):fK l 1073741824:=fun i hi=>by
 have:=h _ (qc hi);omega
theorem akw:nN gq uY wz=0:=by
 unfold nN;have hr:o0 gq uY=0:=by unfold o0;rw[if_neg (fun g=>g H6),if_pos akv]
 rw[if_neg (fun g=>g hr)];unfold jF;rw[if_pos (by decide),if_pos (V8 (by simp)),if_neg (by decide)]
 refine rC fun k _ hk=>?_;have:k=0∨k=1:=by have:gq.r.n.toNat=2:=rfl;omega
 rcases this with rfl|rfl
 ·unfold vE lM nM fC
  rw[xE,H9];exact akt
 ·unfold vE lM nM fC
  rw[V4,xE,Ia];rfl
theorem akx:nN gq uc wA=0:=by
 unfold nN;have hr:o0 gq uc=0:=by unfold o0;rw[if_neg (fun g=>g H6),if_pos V3]
 rw[if_neg (fun g=>g hr)];unfold jF;rw[if_pos (by decide),if_pos (V8 (by simp)),if_neg (by decide)]
 refine rC fun k _ hk=>?_;have:k=0∨k=1:=by have:gq.r.n.toNat=2:=rfl;omega
 rcases this with rfl|rfl
 ·unfold vE lM nM fC
  rw[xE,H9];exact aku
 ·unfold vE lM nM fC
  rw[V6,xE,Ia];rfl
abbrev cw:V:=.agg [i64 2,.slice none 4 [[i64 0,i64 1,.slice none 1 [[i64 0],[i64 1]],i64 1]],.slice none 10 []]
theorem NM(G:List aV):bo F 12 [] G=some (.bool true,G) :=
 cg rfl rfl (by
  obtain⟨G1,h1⟩:=ajv gq H7 [];obtain⟨t2,G2,h2⟩:=NF H7 (f:=uY) (NL (by decide)) wz
  obtain⟨t3,G3,h3⟩:=NF H7 (f:=uc) (NL (by decide)) wA
  have h4:=ajj gq H7 uc (NL (by decide))
  rw[decide_eq_true ⟨H6,V3⟩]at h4;rw[show ot gq []=.tuple [fl uY,i64 0] by unfold ot;rw[show oq gq []=0 by unfold oq;rw[if_neg (fun g=>g H6),if_pos ⟨rfl,by simp⟩]];rfl]at h1
  rw[qT,if_pos akw,show uW gq uY wz=uc by unfold uW;rw[show gq.r.n.toNat=2 from rfl,V5];rfl,show xz gq uY wz=⟨[],[7,0],[0]⟩ by unfold xz;rw[show gq.r.n.toNat=2 from rfl,V5]]at h2
  rw[qT,if_pos akx,show uW gq uc wA=⟨2,[],[[]]⟩ by unfold uW;rw[show gq.r.n.toNat=2 from rfl,V7];rfl,show xz gq uc wA=⟨[],[0,7],[7]⟩ by unfold xz;rw[show gq.r.n.toNat=2 from rfl,V7]]at h3
  replace h1:bo F 31 [cw,.slice none 4 []] []=some (.tuple [.agg [i64 0,.slice none 4 [],.slice none 1 [[.slice none 1 []]]],i64 0],G1):=h1;replace h2:bo F 17 [cw,.agg [i64 0,.slice none 4 [],.slice none 1 [[.slice none 1 []]]],.agg [.slice none 1 [[i64 7],[i64 0]],.slice none 1 [],.slice none 1 []]] [] =
   some (.tuple [.agg [i64 1,.slice none 4 [],.slice none 1 [[.slice none 1 [[i64 7]]]]],.agg [.slice none 7 [],.slice none 1 [[i64 7],[i64 0]],.slice none 1 [[i64 0]]],i64 0],G2):=h2
  replace h3:bo F 17 [cw,.agg [i64 1,.slice none 4 [],.slice none 1 [[.slice none 1 [[i64 7]]]]],.agg [.slice none 1 [[i64 0],[i64 0]],.slice none 1 [],.slice none 1 []]] [] =
   some (.tuple [.agg [i64 2,.slice none 4 [],.slice none 1 [[.slice none 1 []]]],.agg [.slice none 7 [],.slice none 1 [[i64 0],[i64 7]],.slice none 1 [[i64 7]]],i64 0],G3):=h3
  replace h4:∀G,bo F 28 [cw,.agg [i64 1,.slice none 4 [],.slice none 1 [[.slice none 1 [[i64 7]]]]]] G=some (.bool true,G):=h4;simp +contextual (disch:=omega) [-getElem?_pos,-List.length_eq_zero_iff,-Int.natCast_eq_zero,wrap64,Kx,h1,h2,h3,h4])
end Go.Proofs.YtmpikpodpgnjhaaGreat
namespace Go.Proofs.YtmpikpodpgnjhaaGreat
set_option linter.all false
open Go.Vm
attribute [local simp] eQ eR eO eP
noncomputable abbrev fin(c:Cs)(p:Sp)(f:Fl):Co:=cA c p f c.r.n.toNat
theorem aky{c:Cs}{p:Sp}{f:Fl}(h:Pa c f p){k:Nat}(hk:k≤c.r.n.toNat){m:Nat}(hm:m<(cA c p f k).cm.length):nth (fin c p f).cm m=nth (cA c p f k).cm m:=by
 have hc:=oo h.c0;have hl:m<(fin c p f).cm.length:=by
  have e:=(NG hc p f).2;have:=(zT hc p f k).l.1;rw[show(fin c p f).cm.length=c.r.l.length from e];omega
 obtain⟨a,_,a2,a3⟩:=(BN h (Nat.le_refl _)).link m hl;obtain⟨b,_,b2,b3⟩:=(BN h hk).link m hm;obtain rfl:a=b:=by omega
 rw[a3.o,b3.o]
theorem V9{c:Cs}{l l':List Int}{j:Int}:∀{m:Nat},(∀i,i<m→nth l i=nth l' i)→jG c l j m=jG c l' j m
 |0,_=>rfl
 |m+1,h=>by
  simp only[jG];rw[V9 fun i hi=>h i (by omega),h m (by omega)]
theorem Wa{c:Cs}{l:List Int}{j:Int}{m:Nat}:∀{n:Nat},(∀i,m≤i→i<m+n→(nth c.r.l i).t≠j)→jG c l j (m+n)=jG c l j m
 |0,_=>rfl
 |n+1,h=>by
  rw[show m+(n+1)=(m+n)+1 by omega]
  simp only[jG];rw[Wa fun i a b=>h i a (by omega),if_neg (h (m+n) (by omega) (by omega)),Int.add_zero]
theorem Wb{c:Cs}{l:List Int}{j:Int}:∀{m:Nat},(∀i,i<m→0≤nth l i∧nth l i≤1125899906842624)→0≤jG c l j m∧jG c l j m≤1125899906842624*m
 |0,_=>by simp[jG]
 |m+1,h=>by
  have:=Wb (c:=c) (j:=j) fun i hi=>h i (Nat.lt_succ_of_lt hi);have:=h m (by omega)
  simp only[jG];split<;>omega
theorem akz{c:Cs}{p:Sp}{f:Fl}(h:Pa c f p){k:Nat}(hk:k<c.r.n.toNat):nth (cA c p f k).arr k=nth p.a k+jG c (fin c p f).cm k c.r.l.length:=by
 have hc:=oo h.c0;have hv:=h.vc (k:=k) (by omega)
 have ho:=(zT hc p f k).l;rw[(BN h (by omega)).arr k (by have:=hv.xw;omega),V9 (l:=(cA c p f k).cm) (l':=(fin c p f).cm) fun i hi=>(aky h (by omega) hi).symm]
 obtain⟨d,hd⟩:∃d,c.r.l.length=(cA c p f k).cm.length+d:=⟨c.r.l.length-(cA c p f k).cm.length,by have:=ho.1;omega⟩
 rw[hd,Wa fun i a b=>?_];have h1:=ho.2.2 i a (by omega)
 have h2:=((mZ hc.k).link (i:=i) (by omega)).1
 have h1:(k:Int)≤(nth c.r.l i).f:=h1;omega
theorem akA{d:Dm}(h:fy d=0)(G:List aV):bo F 21 [dm d] G=some (i64 (jC d),G) :=
 cg rfl rfl (by
  have hr:=(tX h).r;have hV:=fun G=>D6 d.r d.r.t G;have hW:=Hu hr;simp +contextual (disch:=omega) [-getElem?_pos,-List.length_eq_zero_iff,-Int.natCast_eq_zero,wrap64,KD,hV,hW,hr];rfl)
set_option maxRecDepth 100000 in
set_option maxHeartbeats 4000000 in
theorem akB{l:List Int}(hl:l.length≤9223372036854775807):∃G',bo F 4 [ints l] []=some (.bool true,G'):=by
 suffices h:iP (bo F) 4 [ints l] [] fun v _=>v=.bool true by
  obtain⟨_,G,h,rfl⟩:=h;exact⟨G,h⟩
 refine jl rfl rfl ?_;by_cases h1:l.length≤500
 case neg=>simp +contextual (disch:=omega) [-getElem?_pos,-List.length_eq_zero_iff,-Int.natCast_eq_zero,wrap64,Dd,NM,L7,h1]
 obtain⟨c,f,k1,n1,jb,Ib,kG⟩:=akm (l:=l) (k:=0) ⟨by omega,hl⟩
 have hz:=Ib.kZ;have cv:=oo hz;have kv:=mZ cv.k;have Ey:=Ib.small;have hn6:=Ib.n;have hs3:=Ib.s;have jg:=kv.n;have IB:=kv.len;obtain⟨p,k2,n2,gm,hp,_,_,_⟩:=Vy jb (c:=c) (by omega) (by omega)
 obtain⟨t,G1,hS⟩:=NF Ey (VZ cv.k kG) p;by_cases he:nN c f p=0
 case neg =>
  rw[qT,if_neg he]at hS;simp +contextual (disch:=omega) [-getElem?_pos,-List.length_eq_zero_iff,-Int.natCast_eq_zero,wrap64,Dd,NM,L7,h1,Th,n1,n2,hS,decide_eq_false he,he]
 have BT:=VY he;have hv:=BT.vc (Nat.le_refl _);have hh:=BN BT (Nat.le_refl _);have wQ:=NG cv p f;have tY:=BT.f0.1;rw[qT,if_pos he]at hS;unfold uW xz at hS;have lU:=fun(k:Nat) (hk:k<c.r.n.toNat)=>akz BT hk;have CW:=hv.d.1;simp only[fin]at lU;generalize cA c p f c.r.n.toNat=v at *;have e1:(v.re.length:Int)=c.s.length:=by have:=wQ.1;omega
 have e2:(v.d.length:Int)=c.s.length:=by omega
 have e3:(v.cm.length:Int)=c.r.l.length:=by have:=wQ.2;omega
 simp +contextual (disch:=omega) [-getElem?_pos,-List.length_eq_zero_iff,-Int.natCast_eq_zero,wrap64,Dd,NM,L7,h1,Th,n1,n2,hS,e1,e2,e3];refine go_loop (fun i:Nat=>Z3 (rJ c.s) c.s.length i c.row f.row p.row [i64 (f.t+1),rK v.d,tZ v.w] [.slice none 7 (v.re.map Dr.row),ints v.lf,ints v.cm] [dk l k2]) (fun i=>i≤c.s.length) (fun i=>c.s.length-i) 0 rfl (by simp) (by simp) ?_
 rintro i hi;simp +contextual (disch:=omega) [-getElem?_pos,-List.length_eq_zero_iff,-Int.natCast_eq_zero,wrap64,Q8];refine b9 (fun h5=>?_) (fun h5=>?_)
 ·have h5:i<c.s.length:=by omega
  obtain⟨hsn,_,NO⟩:=xA cv h5;obtain⟨k,It,lx,NP⟩:=hh.site i (by omega)
  have lx:(nth c.s i).n=k:=lx;have EA:k<p.a.length:=by have:=hp.1;omega
  simp +contextual (disch:=omega) [-getElem?_pos,-List.length_eq_zero_iff,-Int.natCast_eq_zero,wrap64,bp (l:=c.s),lx,ez (l:=p.a)];refine go_loop (fun m:Nat=>ZX i (nth p.a k+jG c v.cm k m) (rJ c.s) c.s.length i (nJ c.r.l) c.r.l.length m c.row f.row p.row [i64 (f.t+1),rK v.d,tZ v.w] [.slice none 7 (v.re.map Dr.row),ints v.lf,ints v.cm] (i64 k::(nth c.s i).d.row) [dk l k2])
   (fun m=>m≤c.r.l.length) (fun m=>c.r.l.length-m) 0 rfl (by simp[jG]) (by simp) ?_
  rintro m hm;have tc:=Wb (c:=c) (l:=v.cm) (j:=k) (m:=m) fun i hi=>hh.cm i (by omega)
  have akC:=BT.all k (by simp;omega)
  rw[od (by simp;omega),od EA]at akC
  simp +contextual (disch:=omega) [-getElem?_pos,-List.length_eq_zero_iff,-Int.natCast_eq_zero,wrap64,Q7];refine b9 (fun h6=>?_) (fun h6=>?_)
  ·have h6:m<c.r.l.length:=by omega
   have h7:m<v.cm.length:=by omega
   have ao1:=hh.cm m h7;by_cases h8:(nth c.r.l m).t=k
   ·have e:jG c v.cm k (m+1)=jG c v.cm k m+nth v.cm m:=by simp only[jG];rw[if_pos h8]
    simp +contextual (disch:=omega) [-getElem?_pos,-List.length_eq_zero_iff,-Int.natCast_eq_zero,wrap64,bp (l:=c.r.l),h8,ez (l:=v.cm)];exact cc (m+1) (by simp[e,Int.add_assoc]) (by omega) (by omega)
   ·have e:jG c v.cm k (m+1)=jG c v.cm k m:=by simp only[jG];rw[if_neg h8,Int.add_zero]
    simp +contextual (disch:=omega) [-getElem?_pos,-List.length_eq_zero_iff,-Int.natCast_eq_zero,wrap64,bp (l:=c.r.l),h8];exact cc (m+1) (by simp[e]) (by omega) (by omega)
  ·obtain rfl:m=c.r.l.length:=by omega
   rw[←lU k It];have hb:i<p.b.length:=by have:=hp.2.1;omega
   have tr:i<p.c.length:=by have:=hp.2.2;omega
   have hfd:i<f.d.length:=by have:=BT.f0.2.1.1;omega
   have hvd:i<v.d.length:=by omega
   have wP:i<v.re.length:=by omega
   obtain⟨Ga,hR⟩:=U0 (nth c.s i).d (nth f.d i) (nth (cA c p f k).arr k) (nth p.b i) (nth p.c i);rw[qh,if_pos NP.e]at hR;have NQ:=(hv.d.2 i h5).2;have r1:=NP.r;have r2:=NP.d;rw[←r1,← r2]at hR;have Hv:=(tX NO).u;have UE:=(tX NO).g;have hSm:=ai3 (nth v.d i) (by have:=NQ.2.2.1;omega) (by have:=NQ.2.2.2.1;omega)
   have hCr:=akA NO;have hle:¬ jC (nth c.s i).d<(nth v.d i).v:=by have:=NQ.1;omega
   generalize nth (cA c p f k).arr k=A at *;simp +contextual (disch:=omega) [-getElem?_pos,-List.length_eq_zero_iff,-Int.natCast_eq_zero,wrap64,bp (l:=f.d),ez (l:=p.b),ez (l:=p.c),bp (l:=v.d),bp (l:=v.re),hR,hSm,hCr,hle,V.gQ,eI,jI];exact cc (i+1) (by simp) (by omega) (by omega)
 ·trivial
end Go.Proofs.YtmpikpodpgnjhaaGreat
