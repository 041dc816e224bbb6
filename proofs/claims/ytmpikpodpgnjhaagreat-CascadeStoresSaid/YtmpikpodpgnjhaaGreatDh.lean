/- Parts of the proof, joined: Drv2, Drv3, Cpt1, Cst1, Mut1, End0. -/
import Derived.Test.YtmpikpodpgnjhaaGreatDg
import Derived.Test.YtmpikpodpgnjhaaGreatSh
import Derived.Test.YtmpikpodpgnjhaaGreatQV
import Derived.Test.YtmpikpodpgnjhaaGreatVmN
import Derived.Test.YtmpikpodpgnjhaaGreatRows
namespace Go.Proofs.YtmpikpodpgnjhaaGreat
set_option linter.all false
open Go.Vm
def ND:Option (List Int)→V
 |none=>.bW
 |some p=>.slice none 1 (p.map fun n=>[i64 n])
def uB(W:List (Option (List Int))):List V:=W.map ND
@[simp] theorem apE{W:List (Option (List Int))}:(uB W).length=W.length:=by simp[uB]
@[simp] theorem apF{W:List (Option (List Int))}{i:Nat}{p:List Int}:(uB W).set i (.slice none 1 (p.map fun n=>[i64 n]))=uB (W.set i (some p)):=by simp[uB,ND]
theorem ajZ:∀{W:List (Option (List Int))} {cs:List V} {off:Nat},cs.drop off=uB W→chunks 1 cs off W.length=W.map fun o=>[ND o]
 |[],cs,off,h=>by simp[chunks]
 |o::W,cs,off,h=>by
  have h2:cs.drop (off+1)=uB W:=by rw[←List.drop_drop,h];simp[uB]
  rw[List.length_cons,chunks,ajZ h2,h];simp[uB]
@[simp] theorem apG{W:List (Option (List Int))}{d:Nat}:((uB W).all fun v => !V.cj d v)=true:=by
 simp only[uB,List.all_map,List.all_eq_true,Function.comp];intro o _;cases o<;>rfl
end Go.Proofs.YtmpikpodpgnjhaaGreat
namespace Go.Proofs.YtmpikpodpgnjhaaGreat
set_option linter.all false
open Go.Vm
theorem apH(r:Rr):lz (zR r) []=⟨0,[],List.replicate r.l.length []⟩:=rfl
theorem apI{r:Rr}(hk:iz r=0)(hn:r.n≤6):e7 (zR r)=0:=by
 unfold e7;rw[if_neg (by omega:¬ (iz r≠0)),if_neg (by omega:¬ (12<r.n)),if_neg (by simp)]
 rfl
instance:Inhabited Ps:=⟨⟨[],[],[]⟩⟩
theorem ap7{c:Cs}{f:Fl}(hc:e7 c=0)(h:fG c f):flL f:=by
 have cv:=kb hc;have kv:=jE cv.k;have hs:=cv.s;have hl:=kv.len;have h1:=h.2.1;have h2:=h.2.2;have h3:=Ej hc h1;refine⟨⟨by have:=h1.1;omega,fun i hi=>?_⟩,by have:=h2.1;omega,fun i hi=>?_⟩
 ·have:=h3.2 i hi
  exact⟨by omega,by omega⟩
 ·have:=(XK h2 (i:=i) (by have:=h2.1;omega)).1
  omega
end Go.Proofs.YtmpikpodpgnjhaaGreat
namespace Go.Proofs.YtmpikpodpgnjhaaGreat
set_option linter.all false
open Go.Vm
@[simp high] theorem apJ{L:bm}{d:Option Nat}{bT:Nat}{src:Option Nat}{sh:Sh}{mx:Nat}{x y:bj}{g:Nat}{w:Bool}{os:List bN}{keep:cR}{k:cf}{S:St} :
  dJ L (⟨d,.app bT src sh mx x y,some (g,w)⟩::os) keep k S=ib w (Vm.look g S.env) (dJ L (⟨d,.app bT src sh mx x y,none⟩::os) keep k S) (dJ L os keep k (S.put d .undef)):=by
 rw[gJ,gJ];simp only[bN.run];rcases Vm.look g S.env with _|v
 ·simp[cu,ib]
 ·cases v with
  |bool b=>simp only[ib];cases b==w<;>simp
  |undef=>simp[ib]
  |_=>simp[cu,ib]
theorem Ez{α:Type}[Inhabited α]{f:Nat→α}{n i:Nat}(h:i<n):nth ((List.range n).map f) i=f i:=by simp[nth,List.getD,h]
end Go.Proofs.YtmpikpodpgnjhaaGreat
namespace Go.Proofs.YtmpikpodpgnjhaaGreat
set_option linter.all false
open Go.Vm
attribute [local simp] mc me ma mb
theorem zS{f:Nat→Int}{lo hi:Int}:∀{n:Nat},(∀j,j<n→lo≤f j∧f j≤hi)→lo*n≤bU f n∧bU f n≤hi*n
 |0,_=>by simp[bU]
 |n+1,h=>by
  have a:=zS fun j hj=>h j (Nat.lt_succ_of_lt hj);have b:=h n (by omega)
  have e1:lo*((n+1:Nat):Int)=lo*n+lo:=by rw[Int.natCast_add,Int.mul_add];simp
  have e2:hi*((n+1:Nat):Int)=hi*n+hi:=by rw[Int.natCast_add,Int.mul_add];simp
  simp only[bU];omega
theorem aj0{id:Nat}{a:Int}{l:List Int}(hl:l≠[]):iD id 1 (.tuple [i64 a,.slice (some 0) 1 (l.map fun n=>[i64 n]),i64 0])=some (.tuple [i64 a,.bO id 1 l.length,i64 0],some (dv l)):=by
 have h:=Kp (id:=id) (t:=0) (l:=l) (vs:=[i64 0]) (by rfl) hl
 simp only[iD];rw[show mz id 1 [i64 a,.slice (some 0) 1 (l.map fun n=>[i64 n]),i64 0]=(match mz id 0 [.slice (some 0) 1 (l.map fun n=>[i64 n]),i64 0]with|some (us,o)=>some (strip (i64 a)::us,o)|none=>none) from rfl,h]
 rfl
theorem aj1{id:Nat}{a:Int}:iD id 1 (.tuple [i64 a,.slice (some 0) 1 [],i64 0])=some (.tuple [i64 a,.dH 1,i64 0],none):=rfl
abbrev wLA(n:Nat):Prop:=n=0
abbrev wLB(n:Nat):Prop:=0<n
abbrev zT(_:Nat):V:=.dH 1
abbrev zU(n:Nat):V:=.bO 20058 1 n
abbrev zV(_:List Int):List (Nat×List V):=[]
abbrev zW(H:List Int):List (Nat×List V):=[(20058,dv H)]
abbrev yh(la:V)(ob:List (Nat×List V))(x6:V)(x13:Int)(x14:V)(pL:Int)(Dc:V)(zi:Int)(De:Int)(j:Nat)(x90:V)(x91:Int)(x92:Int)(o4:List V)(o18:List V)(G:List aP):St :=
 ⟨[(4,.bA 4 0),(6,x6),(11,la),(13,i64 x13),(14,x14),(16,i64 pL),(18,.bA 18 0),(79,Dc),(80,i64 zi),(81,i64 De),(j,x90),(j+1,i64 x91),(j+2,i64 x92)],(4,o4)::(18,o18)::ob,[],G⟩
abbrev H9(la:V)(ob:List (Nat×List V))(x6:V)(x13:Int)(x14:V)(pL:Int)(Dc:V)(zi:Int)(De:Int)(o4:List V)(G:List aP):St :=
 ⟨[(4,.bA 4 0),(6,x6),(11,la),(13,i64 x13),(14,x14),(16,i64 pL),(79,Dc),(80,i64 zi),(81,i64 De)],(4,o4)::ob,[],G⟩
def p7(f g:Fl)(i n:Nat):List Int:=(List.range n).map fun m=>if m<i then lB g m else lB f m
theorem XT{f g:Fl}{n:Nat}:p7 f g 0 n=jo f n:=by simp[p7,jo]
theorem XU{f g:Fl}{n:Nat}:p7 f g n n=jo g n:=List.map_congr_left fun m hm=>by rw[if_pos (List.mem_range.1 hm)]
@[simp] theorem NF{f g:Fl}{i n:Nat}:(p7 f g i n).length=n:=by simp[p7]
theorem XV{f g:Fl}{i n:Nat}(h:i<n):nth (p7 f g i n) i=lB f i:=by
 rw[p7,Ez h,if_neg (by omega)]
theorem XW{f g:Fl}{i n:Nat}(h:i<n):(p7 f g i n).set i (lB g i)=p7 f g (i+1) n:=by
 refine ajY (by simp) fun m hm=>?_
 simp only[List.length_set,NF]at hm;rw[qH (by simpa using h),p7,p7,Ez hm,Ez hm]
 by_cases g0:m=i
 ·subst g0;rw[if_pos rfl,if_pos (by omega)]
 ·rw[if_neg g0]
  by_cases g1:m<i
  ·rw[if_pos g1,if_pos (by omega)]
  ·rw[if_neg g1,if_neg (by omega)]
set_option maxRecDepth 100000 in
set_option maxHeartbeats 8000000 in
theorem aj8{c:Cs}{f:Fl}{q:List Sp}(ra:Ra c f q)(um:∀k,k<q.length→Et c (cT c f q k) (cT c f q (k+1)) (nth q k) (uy c f q k))(Ep:c.r.n≤6)(Ia:c.s.length≤3)(hL:wLA c.r.l.length){x13:Int}{x14:List Int}{G:List aP}{K:cf}
  (hK:∀b,K (.exit 0) ⟨[(4,.bA 4 0),(6,oG q),(11,zT c.r.l.length),(13,i64 x13),(14,ints x14),(16,i64 (lA (cT c f q q.length) c.s.length)),(79,.slice none 3 ((ja c f q q.length).map Ps.row)),(80,i64 q.length),(81,i64 q.length),(82,.bool b)],(4,c.row)::zV (jo (cT c f q q.length) c.r.l.length),[],G⟩) :
  go (a8 F) KC (H9 (zT c.r.l.length) (zV (jo f c.r.l.length)) (oG q) x13 (ints x14) (lA f c.s.length) (.slice none 3 ((ja c f q q.length).map Ps.row)) q.length 0 c.row G) K:=by
 have cv:=kb ra.c0;have kv:=jE cv.k;have Af:=NB kv;have aj9:=ra.len;refine go_loop (fun k:Nat=>H9 (zT c.r.l.length) (zV (jo (cT c f q k) c.r.l.length)) (oG q) x13 (ints x14) (lA (cT c f q k) c.s.length) (.slice none 3 ((ja c f q q.length).map Ps.row)) q.length k c.row G) (fun k=>k≤q.length) (fun k=>q.length-k) 0 rfl (by simp[cT]) (by simp) ?_
 rintro k hk;simp +contextual (disch:=omega) [-getElem?_pos,-List.length_eq_zero_iff,-Int.natCast_eq_zero,wrap64,KB];refine bK (fun h5=>?_) (fun h5=>?_)
 case refine_2 =>
  obtain rfl:k=q.length:=by omega
  exact hK _
 have h5:k<q.length:=by omega
 have bl:=um k h5;have jj:=XR bl;have v0:=Ew (ra.at_ (k:=k) (by omega)) c.s.length (Nat.le_refl _)
 have eT:nth (ja c f q q.length) k=uy c f q k:=by rw[ja,Ez h5]
 have c9:(ja c f q q.length).length=q.length:=Xs;have kq:=bl.l.p0.1;have tl:=bl.l.re;have En:=bl.l.lf;have uA:=bl.l.cm;have bn:=XJ bl.all;simp +contextual (disch:=omega) [-getElem?_pos,-List.length_eq_zero_iff,-Int.natCast_eq_zero,wrap64,bb (l:=ja c f q q.length),eT,bb (l:=q)];have om:(nth q k).a.length≤6:=by omega
 have A1:c.r.n.toNat=(nth q k).a.length:=by omega
 have NG:(uy c f q k).lf.length=(nth q k).a.length:=by omega
 have lu:=bl.si;have u5:=bl.lk;have NH:=bl.l.f0.2.2;have NI:=bl.l.g0.2.2;have EA:=fun x=>XS c.r.n c.r.l (by omega) x
 rw[A1]at jj
 clear bl ra
 generalize hP:nth q k=P at *;generalize hX:uy c f q k=X at *;obtain⟨V0,hV0⟩:∃V0,lA (cT c f q k) c.s.length=V0:=⟨_,rfl⟩;rw[hV0]at jj v0 ⊢;refine go_loop (fun i:Nat=>yh (zT c.r.l.length) (zV (jo (cT c f q k) c.r.l.length)) (oG q) x13 (ints x14) (V0+sm P.a i) (.slice none 3 ((ja c f q q.length).map Ps.row)) q.length k 90 (ints P.a) P.a.length i c.row X.row G) (fun i=>i≤P.a.length) (fun i=>P.a.length-i) 0 rfl (by simp[sm]) (by simp) ?_
 rintro i hi;have b1:=uo (l:=P.a) (b:=274877906944) (i:=i) fun j hj=>bn.a j (by omega)
 simp +contextual (disch:=omega) [-getElem?_pos,-List.length_eq_zero_iff,-Int.natCast_eq_zero,wrap64,Kx];refine bK (fun h6=>?_) (fun h6=>?_)
 ·have h6:i<P.a.length:=by omega
  have b2:=bn.a i h6;have e:sm P.a (i+1)=sm P.a i+nth P.a i:=rfl;simp +contextual (disch:=omega) [-getElem?_pos,-List.length_eq_zero_iff,-Int.natCast_eq_zero,wrap64,dD (l:=P.a)];exact bL (i+1) (by simp[e,Int.add_assoc]) (by omega) (by omega)
 obtain rfl:i=P.a.length:=by omega
 obtain⟨V1,xU⟩:∃V1,V0+sm P.a P.a.length=V1:=⟨_,rfl⟩;rw[xU]at jj;have v1:0≤V1∧V1≤4398046511104:=by omega
 simp +contextual (disch:=omega) [-getElem?_pos,-List.length_eq_zero_iff,-Int.natCast_eq_zero,wrap64,xU];refine go_loop (fun i:Nat=>yh (zT c.r.l.length) (zV (jo (cT c f q k) c.r.l.length)) (oG q) x13 (ints x14) (V1-bU (fun i=>(nth X.re i).los) i) (.slice none 3 ((ja c f q q.length).map Ps.row)) q.length k 101 (.slice none 7 (X.re.map Dr.row)) X.re.length i c.row X.row G) (fun i=>i≤X.re.length) (fun i=>X.re.length-i) 0 rfl (by simp[bU]) (by simp) ?_
 rintro i hi;have b1:=zS (f:=fun i=>(nth X.re i).los) (lo:=0) (hi:=274877906944) (n:=i) fun j hj=>(lu j (by omega)).1.1 3 (by omega)
 simp +contextual (disch:=omega) [-getElem?_pos,-List.length_eq_zero_iff,-Int.natCast_eq_zero,wrap64,Ky];refine bK (fun h6=>?_) (fun h6=>?_)
 ·have h6:i<X.re.length:=by omega
  have b2:0≤(nth X.re i).los∧(nth X.re i).los≤274877906944:=(lu i (by omega)).1.1 3 (by omega)
  have e:bU (fun i=>(nth X.re i).los) (i+1)=bU (fun i=>(nth X.re i).los) i+(nth X.re i).los:=rfl;simp +contextual (disch:=omega) [-getElem?_pos,-List.length_eq_zero_iff,-Int.natCast_eq_zero,wrap64,bb (l:=X.re)];exact bL (i+1) (by simp[e];omega) (by omega) (by omega)
 obtain rfl:i=X.re.length:=by omega
 rw[←tl]at jj;obtain⟨V2,xV⟩:∃V2,V1-bU (fun i=>(nth X.re i).los) X.re.length=V2:=⟨_,rfl⟩;rw[xV]at jj;have v2:-4398046511104≤V2∧V2≤4398046511104:=by omega
 simp +contextual (disch:=omega) [-getElem?_pos,-List.length_eq_zero_iff,-Int.natCast_eq_zero,wrap64,xV];have EB:∀i,ke c X i=if iA c.r.l i=none then nth X.lf i else 0:=fun _=>rfl
 have NJ:∀i,i<X.lf.length→0≤ke c X i∧ke c X i≤274877906944:=fun i hi=>by
  rw[EB];split
  ·exact bn.lf i hi
  ·omega
 refine go_loop (fun i:Nat=>yh (zT c.r.l.length) (zV (jo (cT c f q k) c.r.l.length)) (oG q) x13 (ints x14) (V2-bU (ke c X) i) (.slice none 3 ((ja c f q q.length).map Ps.row)) q.length k 113 (ints X.lf) X.lf.length i c.row X.row G) (fun i=>i≤X.lf.length) (fun i=>X.lf.length-i) 0 rfl (by simp[bU]) (by simp) ?_
 rintro i hi;have b1:=zS (f:=ke c X) (lo:=0) (hi:=274877906944) (n:=i) fun j hj=>NJ j (by omega)
 simp +contextual (disch:=omega) [-getElem?_pos,-List.length_eq_zero_iff,-Int.natCast_eq_zero,wrap64,Kz];refine bK (fun h6=>?_) (fun h6=>?_)
 ·have h6:i<X.lf.length:=by omega
  have b2:=bn.lf i h6;have e:bU (ke c X) (i+1)=bU (ke c X) i+ke c X i:=rfl;rw[EB]at e;cases tF:iA c.r.l i with
  |none =>
   rw[if_pos tF]at e;have e1:mP none = -1:=rfl;simp +contextual (disch:=omega) [-getElem?_pos,-List.length_eq_zero_iff,-Int.natCast_eq_zero,wrap64,dD (l:=X.lf),EA,tF,e1];exact bL (i+1) (by simp[e];omega) (by omega) (by omega)
  |some m =>
   rw[if_neg (by rw[tF];simp)]at e
   have e1:mP (some m)=(m:Int):=rfl;have e2:¬ ((m:Int)<0):=by omega
   simp +contextual (disch:=omega) [-getElem?_pos,-List.length_eq_zero_iff,-Int.natCast_eq_zero,wrap64,dD (l:=X.lf),EA,tF,e1,e2];exact bL (i+1) (by simp[e]) (by omega) (by omega)
 obtain rfl:i=X.lf.length:=by omega
 rw[←NG]at jj;obtain⟨V3,hV3⟩:∃V3,V2-bU (ke c X) X.lf.length=V3:=⟨_,rfl⟩;rw[hV3]at jj;have v3:-8796093022208≤V3∧V3≤8796093022208:=by omega
 simp +contextual (disch:=omega) [-getElem?_pos,-List.length_eq_zero_iff,-Int.natCast_eq_zero,wrap64,hV3];have uk:∀i,i<c.r.l.length → -274877906944≤nT c X i∧nT c X i≤274877906944:=fun i hi=>by
  have s:=(kv.link hi).1;have u1:=bn.lf (nth c.r.l i).f.toNat (by omega)
  have u2:=bn.cm i (by omega)
  unfold nT;omega
 refine go_loop (fun i:Nat=>yh (zT c.r.l.length) (zV (p7 (cT c f q k) (cT c f q (k+1)) i c.r.l.length)) (oG q) x13 (ints x14) (V3-bU (nT c X) i) (.slice none 3 ((ja c f q q.length).map Ps.row)) q.length k 131 (lS c.r.l) c.r.l.length i c.row X.row G) (fun i=>i≤c.r.l.length) (fun i=>c.r.l.length-i) 0 rfl (by simp[bU,XT]) (by simp) ?_
 rintro i hi;have b1:=zS (f:=nT c X) (lo:=-274877906944) (hi:=274877906944) (n:=i) fun j hj=>uk j (by omega)
 simp +contextual (disch:=omega) [-getElem?_pos,-List.length_eq_zero_iff,-Int.natCast_eq_zero,wrap64,KA];refine bK (fun h6=>?_) (fun h6=>?_)
 ·have h6:i<c.r.l.length:=by omega
  first
   |(exfalso;have:c.r.l.length=0:=hL;omega)
   |skip
    have lk:=(kv.link h6).1;have hd:=(pU (kv.link h6).2.2).den;obtain⟨u,hu⟩:∃u:Nat,(nth c.r.l i).f=u:=⟨(nth c.r.l i).f.toNat,by omega⟩
    have q2:u<X.lf.length:=by omega
    have q3:i<X.cm.length:=by omega
    have u1:=bn.lf u q2;have u2:=bn.cm i q3;have s1:0≤lB (cT c f q k) i∧lB (cT c f q k) i≤90071992547409920:=H4 NH h6;have s2:0≤lB (cT c f q (k+1)) i∧lB (cT c f q (k+1)) i≤90071992547409920:=H4 NI h6;have dm:=den_mul hd u1 u2;have kZ:lB (cT c f q (k+1)) i-lB (cT c f q k) i=(nth c.r.l i).r.den*(nth X.lf (nth c.r.l i).f.toNat-nth X.cm i):=u5 i h6;rw[hu,Int.toNat_natCast]at kZ;have aka:=Int.mul_comm (nth c.r.l i).r.den (nth X.lf u-nth X.cm i);have lZ:lB (cT c f q k) i+(nth X.lf u-nth X.cm i)*(nth c.r.l i).r.den=lB (cT c f q (k+1)) i:=by omega
    have e:bU (nT c X) (i+1)=bU (nT c X) i+(nth X.lf u-nth X.cm i):=by
     simp only[bU,nT];rw[hu,Int.toNat_natCast]
    have hlen:(p7 (cT c f q k) (cT c f q (k+1)) i c.r.l.length).length=c.r.l.length:=NF;have g5:=XV (f:=cT c f q k) (g:=cT c f q (k+1)) h6;have fA:=XW (f:=cT c f q k) (g:=cT c f q (k+1)) h6;simp +contextual (disch:=omega) [-getElem?_pos,-List.length_eq_zero_iff,-Int.natCast_eq_zero,wrap64,bb (l:=c.r.l),hu,jI,g5,dD (l:=X.lf),dD (l:=X.cm),lZ,fA];exact bL (i+1) (by simp[e];omega) (by omega) (by omega)
 obtain rfl:i=c.r.l.length:=by omega
 refine bL (k+1) (by simp[XU];rw[←tl];exact jj.symm) (by omega) (by omega)
set_option maxRecDepth 100000 in
set_option maxHeartbeats 8000000 in
theorem akb{c:Cs}{f:Fl}{q:List Sp}(ra:Ra c f q)(um:∀k,k<q.length→Et c (cT c f q k) (cT c f q (k+1)) (nth q k) (uy c f q k))(Ep:c.r.n≤6)(Ia:c.s.length≤3)(hL:wLB c.r.l.length){x13:Int}{x14:List Int}{G:List aP}{K:cf}
  (hK:∀b,K (.exit 0) ⟨[(4,.bA 4 0),(6,oG q),(11,zU c.r.l.length),(13,i64 x13),(14,ints x14),(16,i64 (lA (cT c f q q.length) c.s.length)),(79,.slice none 3 ((ja c f q q.length).map Ps.row)),(80,i64 q.length),(81,i64 q.length),(82,.bool b)],(4,c.row)::zW (jo (cT c f q q.length) c.r.l.length),[],G⟩) :
  go (a8 F) KC (H9 (zU c.r.l.length) (zW (jo f c.r.l.length)) (oG q) x13 (ints x14) (lA f c.s.length) (.slice none 3 ((ja c f q q.length).map Ps.row)) q.length 0 c.row G) K:=by
 have cv:=kb ra.c0;have kv:=jE cv.k;have Af:=NB kv;have aj9:=ra.len;refine go_loop (fun k:Nat=>H9 (zU c.r.l.length) (zW (jo (cT c f q k) c.r.l.length)) (oG q) x13 (ints x14) (lA (cT c f q k) c.s.length) (.slice none 3 ((ja c f q q.length).map Ps.row)) q.length k c.row G) (fun k=>k≤q.length) (fun k=>q.length-k) 0 rfl (by simp[cT]) (by simp) ?_
 rintro k hk;simp +contextual (disch:=omega) [-getElem?_pos,-List.length_eq_zero_iff,-Int.natCast_eq_zero,wrap64,KB];refine bK (fun h5=>?_) (fun h5=>?_)
 case refine_2 =>
  obtain rfl:k=q.length:=by omega
  exact hK _
 have h5:k<q.length:=by omega
 have bl:=um k h5;have jj:=XR bl;have v0:=Ew (ra.at_ (k:=k) (by omega)) c.s.length (Nat.le_refl _)
 have eT:nth (ja c f q q.length) k=uy c f q k:=by rw[ja,Ez h5]
 have c9:(ja c f q q.length).length=q.length:=Xs;have kq:=bl.l.p0.1;have tl:=bl.l.re;have En:=bl.l.lf;have uA:=bl.l.cm;have bn:=XJ bl.all;simp +contextual (disch:=omega) [-getElem?_pos,-List.length_eq_zero_iff,-Int.natCast_eq_zero,wrap64,bb (l:=ja c f q q.length),eT,bb (l:=q)];have om:(nth q k).a.length≤6:=by omega
 have A1:c.r.n.toNat=(nth q k).a.length:=by omega
 have NG:(uy c f q k).lf.length=(nth q k).a.length:=by omega
 have lu:=bl.si;have u5:=bl.lk;have NH:=bl.l.f0.2.2;have NI:=bl.l.g0.2.2;have EA:=fun x=>XS c.r.n c.r.l (by omega) x
 rw[A1]at jj
 clear bl ra
 generalize hP:nth q k=P at *;generalize hX:uy c f q k=X at *;obtain⟨V0,hV0⟩:∃V0,lA (cT c f q k) c.s.length=V0:=⟨_,rfl⟩;rw[hV0]at jj v0 ⊢;refine go_loop (fun i:Nat=>yh (zU c.r.l.length) (zW (jo (cT c f q k) c.r.l.length)) (oG q) x13 (ints x14) (V0+sm P.a i) (.slice none 3 ((ja c f q q.length).map Ps.row)) q.length k 90 (ints P.a) P.a.length i c.row X.row G) (fun i=>i≤P.a.length) (fun i=>P.a.length-i) 0 rfl (by simp[sm]) (by simp) ?_
 rintro i hi;have b1:=uo (l:=P.a) (b:=274877906944) (i:=i) fun j hj=>bn.a j (by omega)
 simp +contextual (disch:=omega) [-getElem?_pos,-List.length_eq_zero_iff,-Int.natCast_eq_zero,wrap64,Kx];refine bK (fun h6=>?_) (fun h6=>?_)
 ·have h6:i<P.a.length:=by omega
  have b2:=bn.a i h6;have e:sm P.a (i+1)=sm P.a i+nth P.a i:=rfl;simp +contextual (disch:=omega) [-getElem?_pos,-List.length_eq_zero_iff,-Int.natCast_eq_zero,wrap64,dD (l:=P.a)];exact bL (i+1) (by simp[e,Int.add_assoc]) (by omega) (by omega)
 obtain rfl:i=P.a.length:=by omega
 obtain⟨V1,xU⟩:∃V1,V0+sm P.a P.a.length=V1:=⟨_,rfl⟩;rw[xU]at jj;have v1:0≤V1∧V1≤4398046511104:=by omega
 simp +contextual (disch:=omega) [-getElem?_pos,-List.length_eq_zero_iff,-Int.natCast_eq_zero,wrap64,xU];refine go_loop (fun i:Nat=>yh (zU c.r.l.length) (zW (jo (cT c f q k) c.r.l.length)) (oG q) x13 (ints x14) (V1-bU (fun i=>(nth X.re i).los) i) (.slice none 3 ((ja c f q q.length).map Ps.row)) q.length k 101 (.slice none 7 (X.re.map Dr.row)) X.re.length i c.row X.row G) (fun i=>i≤X.re.length) (fun i=>X.re.length-i) 0 rfl (by simp[bU]) (by simp) ?_
 rintro i hi;have b1:=zS (f:=fun i=>(nth X.re i).los) (lo:=0) (hi:=274877906944) (n:=i) fun j hj=>(lu j (by omega)).1.1 3 (by omega)
 simp +contextual (disch:=omega) [-getElem?_pos,-List.length_eq_zero_iff,-Int.natCast_eq_zero,wrap64,Ky];refine bK (fun h6=>?_) (fun h6=>?_)
 ·have h6:i<X.re.length:=by omega
  have b2:0≤(nth X.re i).los∧(nth X.re i).los≤274877906944:=(lu i (by omega)).1.1 3 (by omega)
  have e:bU (fun i=>(nth X.re i).los) (i+1)=bU (fun i=>(nth X.re i).los) i+(nth X.re i).los:=rfl;simp +contextual (disch:=omega) [-getElem?_pos,-List.length_eq_zero_iff,-Int.natCast_eq_zero,wrap64,bb (l:=X.re)];exact bL (i+1) (by simp[e];omega) (by omega) (by omega)
 obtain rfl:i=X.re.length:=by omega
 rw[←tl]at jj;obtain⟨V2,xV⟩:∃V2,V1-bU (fun i=>(nth X.re i).los) X.re.length=V2:=⟨_,rfl⟩;rw[xV]at jj;have v2:-4398046511104≤V2∧V2≤4398046511104:=by omega
 simp +contextual (disch:=omega) [-getElem?_pos,-List.length_eq_zero_iff,-Int.natCast_eq_zero,wrap64,xV];have EB:∀i,ke c X i=if iA c.r.l i=none then nth X.lf i else 0:=fun _=>rfl
 have NJ:∀i,i<X.lf.length→0≤ke c X i∧ke c X i≤274877906944:=fun i hi=>by
  rw[EB];split
  ·exact bn.lf i hi
  ·omega
 refine go_loop (fun i:Nat=>yh (zU c.r.l.length) (zW (jo (cT c f q k) c.r.l.length)) (oG q) x13 (ints x14) (V2-bU (ke c X) i) (.slice none 3 ((ja c f q q.length).map Ps.row)) q.length k 113 (ints X.lf) X.lf.length i c.row X.row G) (fun i=>i≤X.lf.length) (fun i=>X.lf.length-i) 0 rfl (by simp[bU]) (by simp) ?_
 rintro i hi;have b1:=zS (f:=ke c X) (lo:=0) (hi:=274877906944) (n:=i) fun j hj=>NJ j (by omega)
 simp +contextual (disch:=omega) [-getElem?_pos,-List.length_eq_zero_iff,-Int.natCast_eq_zero,wrap64,Kz];refine bK (fun h6=>?_) (fun h6=>?_)
 ·have h6:i<X.lf.length:=by omega
  have b2:=bn.lf i h6;have e:bU (ke c X) (i+1)=bU (ke c X) i+ke c X i:=rfl;rw[EB]at e;cases tF:iA c.r.l i with
  |none =>
   rw[if_pos tF]at e;have e1:mP none = -1:=rfl;simp +contextual (disch:=omega) [-getElem?_pos,-List.length_eq_zero_iff,-Int.natCast_eq_zero,wrap64,dD (l:=X.lf),EA,tF,e1];exact bL (i+1) (by simp[e];omega) (by omega) (by omega)
  |some m =>
   rw[if_neg (by rw[tF];simp)]at e
   have e1:mP (some m)=(m:Int):=rfl;have e2:¬ ((m:Int)<0):=by omega
   simp +contextual (disch:=omega) [-getElem?_pos,-List.length_eq_zero_iff,-Int.natCast_eq_zero,wrap64,dD (l:=X.lf),EA,tF,e1,e2];exact bL (i+1) (by simp[e]) (by omega) (by omega)
 obtain rfl:i=X.lf.length:=by omega
 rw[←NG]at jj;obtain⟨V3,hV3⟩:∃V3,V2-bU (ke c X) X.lf.length=V3:=⟨_,rfl⟩;rw[hV3]at jj;have v3:-8796093022208≤V3∧V3≤8796093022208:=by omega
 simp +contextual (disch:=omega) [-getElem?_pos,-List.length_eq_zero_iff,-Int.natCast_eq_zero,wrap64,hV3];have uk:∀i,i<c.r.l.length → -274877906944≤nT c X i∧nT c X i≤274877906944:=fun i hi=>by
  have s:=(kv.link hi).1;have u1:=bn.lf (nth c.r.l i).f.toNat (by omega)
  have u2:=bn.cm i (by omega)
  unfold nT;omega
 refine go_loop (fun i:Nat=>yh (zU c.r.l.length) (zW (p7 (cT c f q k) (cT c f q (k+1)) i c.r.l.length)) (oG q) x13 (ints x14) (V3-bU (nT c X) i) (.slice none 3 ((ja c f q q.length).map Ps.row)) q.length k 131 (lS c.r.l) c.r.l.length i c.row X.row G) (fun i=>i≤c.r.l.length) (fun i=>c.r.l.length-i) 0 rfl (by simp[bU,XT]) (by simp) ?_
 rintro i hi;have b1:=zS (f:=nT c X) (lo:=-274877906944) (hi:=274877906944) (n:=i) fun j hj=>uk j (by omega)
 simp +contextual (disch:=omega) [-getElem?_pos,-List.length_eq_zero_iff,-Int.natCast_eq_zero,wrap64,KA];refine bK (fun h6=>?_) (fun h6=>?_)
 ·have h6:i<c.r.l.length:=by omega
  first
   |(exfalso;have:c.r.l.length=0:=hL;omega)
   |skip
    have lk:=(kv.link h6).1;have hd:=(pU (kv.link h6).2.2).den;obtain⟨u,hu⟩:∃u:Nat,(nth c.r.l i).f=u:=⟨(nth c.r.l i).f.toNat,by omega⟩
    have q2:u<X.lf.length:=by omega
    have q3:i<X.cm.length:=by omega
    have u1:=bn.lf u q2;have u2:=bn.cm i q3;have s1:0≤lB (cT c f q k) i∧lB (cT c f q k) i≤90071992547409920:=H4 NH h6;have s2:0≤lB (cT c f q (k+1)) i∧lB (cT c f q (k+1)) i≤90071992547409920:=H4 NI h6;have dm:=den_mul hd u1 u2;have kZ:lB (cT c f q (k+1)) i-lB (cT c f q k) i=(nth c.r.l i).r.den*(nth X.lf (nth c.r.l i).f.toNat-nth X.cm i):=u5 i h6;rw[hu,Int.toNat_natCast]at kZ;have aka:=Int.mul_comm (nth c.r.l i).r.den (nth X.lf u-nth X.cm i);have lZ:lB (cT c f q k) i+(nth X.lf u-nth X.cm i)*(nth c.r.l i).r.den=lB (cT c f q (k+1)) i:=by omega
    have e:bU (nT c X) (i+1)=bU (nT c X) i+(nth X.lf u-nth X.cm i):=by
     simp only[bU,nT];rw[hu,Int.toNat_natCast]
    have hlen:(p7 (cT c f q k) (cT c f q (k+1)) i c.r.l.length).length=c.r.l.length:=NF;have g5:=XV (f:=cT c f q k) (g:=cT c f q (k+1)) h6;have fA:=XW (f:=cT c f q k) (g:=cT c f q (k+1)) h6;simp +contextual (disch:=omega) [-getElem?_pos,-List.length_eq_zero_iff,-Int.natCast_eq_zero,wrap64,bb (l:=c.r.l),hu,jI,g5,dD (l:=X.lf),dD (l:=X.cm),lZ,fA];exact bL (i+1) (by simp[e];omega) (by omega) (by omega)
 obtain rfl:i=c.r.l.length:=by omega
 refine bL (k+1) (by simp[XU];rw[←tl];exact jj.symm) (by omega) (by omega)
set_option maxRecDepth 100000 in
set_option maxHeartbeats 8000000 in
theorem akc{l:List Int}(hl:l.length≤9223372036854775807):∃G',a8 F 6 [ints l] []=some (.bool true,G'):=by
 suffices h:gY (a8 F) 6 [ints l] [] fun v _=>v=.bool true by
  obtain⟨_,G,h,rfl⟩:=h;exact⟨G,h⟩
 refine iu rfl rfl ?_;by_cases h1:l.length≤500
 case neg=>simp +contextual (disch:=omega) [-getElem?_pos,-List.length_eq_zero_iff,-Int.natCast_eq_zero,wrap64,CY,H3,GJ,h1]
 obtain⟨c,f,k1,n1,iK,uA,jd,hB⟩:=ajA (l:=l) (k:=0) ⟨by omega,hl⟩
 have hz:=uA.kS;have cv:=kb hz;have kv:=jE cv.k;have zN:=uA.small;have Ep:=uA.n;have Ia:=uA.s;have iy:=kv.n;have Af:=kv.len;obtain⟨m,k2,n2,fm,hm⟩:=fQ iK 8 (by omega)
 have zp:0≤1+m:=by omega
 obtain⟨q,k3,n3,mh,hq,hqs⟩:=ajH fm (c:=c) (by omega) (by omega) (n:=(1+m).toNat) (by omega)
 rw[Int.toNat_of_nonneg zp]at n3;obtain⟨G1,hR⟩:=ajD zN (HS cv.k jd) q (by omega)
 by_cases he:o8 c f q=0
 case neg =>
  rw[wP,if_neg he]at hR;simp +contextual (disch:=omega) [-getElem?_pos,-List.length_eq_zero_iff,-Int.natCast_eq_zero,wrap64,CY,H3,GJ,h1,LD,n1,n2,n3,hR,he]
 rw[wP,if_pos he]at hR;have ra:=ajG he;have fA:=fun k (hk:k≤q.length)=>ra.at_ (k:=k) hk;have um:=fun k (hk:k<q.length)=>ajV (ra.pa hk) (Eo cv.k (ra.hB (by omega) hB (k:=k) (by omega)) (by omega))
 have yV:=fun k (hk:k≤q.length)=>(fA k hk).2.1.1;have Nr:=fun k (hk:k≤q.length)=>(fA k hk).2.2.1;have zK:=jd.2.1.1;have hw0:=jd.2.2.1;have XX:∀{g:Fl},fG c g→jm c g=0:=fun h=>by unfold jm;rw[if_neg (by omega),if_pos h]
 have EC:=XO zN (HS cv.k jd);have ED:=XO zN (HS cv.k (fA q.length (Nat.le_refl _)));rw[Ex,if_pos (XX jd),zK,hw0]at EC;rw[Ex,if_pos (XX (fA q.length (Nat.le_refl _))),yV q.length (Nat.le_refl _),Nr q.length (Nat.le_refl _)]at ED;have hI:=ajQ (jo (cT c f q q.length) c.r.l.length) (jo (cT c f q q.length) c.r.l.length) (by simp;omega)
 rw[decide_eq_true rfl]at hI;by_cases hL:c.r.l.length=0
 ·have e0:∀g:Fl,jo g c.r.l.length=[]:=fun g=>by rw[hL];rfl
  have FP:=fun(K:cf)=>aj8 ra (fun k hk=>um k hk) Ep Ia hL (x13:=lA (cT c f q q.length) c.s.length) (x14:=[]) (G:=[dk l k3]) (K:=K);have hO:=fun a=>aj1 (id:=20058) (a:=a);rw[e0]at EC ED hI;simp only[ints,List.map_nil]at EC ED hI;generalize cT c f q q.length=ge at *;simp (config:={ maxSteps:=2000000 }) +contextual (disch:=omega) [-getElem?_pos,-List.length_eq_zero_iff,-Int.natCast_eq_zero,wrap64,CY,H3,GJ,h1,LD,n1,n2,n3,hR,he,EC,hO,ED];refine FP _ fun b=>?_;simp (config:={ maxSteps:=2000000 }) +contextual (disch:=omega) [-getElem?_pos,-List.length_eq_zero_iff,-Int.natCast_eq_zero,wrap64,hI]
 ·have hO:=fun a=>aj0 (id:=20058) (a:=a) (l:=jo f c.r.l.length) (fun e=>hL (by have:=congrArg List.length e;simpa using this))
  have FP:=fun(K:cf)=>akb ra (fun k hk=>um k hk) Ep Ia (by omega) (x13:=lA (cT c f q q.length) c.s.length) (x14:=jo (cT c f q q.length) c.r.l.length) (G:=[dk l k3]) (K:=K)
  have qR:(jo (cT c f q q.length) c.r.l.length).length=c.r.l.length:=ajX;simp (config:={ maxSteps:=2000000 }) +contextual (disch:=omega) [-getElem?_pos,-List.length_eq_zero_iff,-Int.natCast_eq_zero,wrap64,CY,H3,GJ,h1,LD,n1,n2,n3,hR,he,EC,hO,ED];refine FP _ fun b=>?_;simp (config:={ maxSteps:=2000000 }) +contextual (disch:=omega) [-getElem?_pos,-List.length_eq_zero_iff,-Int.natCast_eq_zero,wrap64,hI,qR]
end Go.Proofs.YtmpikpodpgnjhaaGreat
namespace Go.Proofs.YtmpikpodpgnjhaaGreat
set_option linter.all false
open Go.Vm Go.Shelf Go.RowKit Go.Lib
theorem ake{w:World}{b:Nat}{c:Array Value}{e:TypeId}{d:Array Int}(hb:w.heap[b]?=some (.cells c e (0,0))) :
  (Go.Sort.putRow (Value.int .i64) w b 0 d).heap[b]?=some (.cells (Go.Sort.putCells (Value.int .i64) 0 d c) e (0,0)):=by
 simp[Go.Sort.putRow,Go.Sort.mapBlock,Array.getElem?_modify,hb,Go.Sort.onCells]
theorem akf{w:World}{b i:Nat}{d:Array Int}(h:i≠b):(Go.Sort.putRow (Value.int .i64) w b 0 d).heap[i]?=w.heap[i]?:=by
 simp[Go.Sort.putRow,Go.Sort.mapBlock,Array.getElem?_modify,Ne.symm h]
theorem Ib{c:Array Value}{d:Array Int}{j:Nat}:(Go.Sort.putCells (Value.int .i64) 0 d c)[j]?=if j<d.size then (c[j]?).map fun _=>.int .i64 d[j]! else c[j]?:=by
 simp only[Go.Sort.putCells,Array.getElem?_mapIdx,Nat.zero_le,true_and,Nat.zero_add,Nat.sub_zero];split
 ·rfl
 ·cases c[j]?<;>rfl
theorem holds_of{w:World}{b:Nat}{c:Array Value}{e:TypeId}{zs:List Int}(hb:w.heap[b]?=some (.cells c e (0,0)))(hc:∀(j:Nat) z,zs[j]?=some z→c[j]?=some (.int .i64 z)) :
  Go.Sort.Holds (Value.int .i64) w b 0 zs.toArray:=by
 intro j hj;have sD:j<zs.length:=by simpa using hj
 have h1:=hc j zs[j] (List.getElem?_eq_getElem sD);constructor
 ·simp only[World.cell?,hb,Nat.zero_add,h1]
  simp[sD]
 ·simp[World.frozen?,hb]
theorem XY{w w':World}{b:Nat}{c:Array Value}{e:TypeId}{d:Array Int}{n:Nat}{os:Array Obj}(hb:w.heap[b]?=some (.cells c e (0,0)))(hw:w'=Go.Sort.grow (Go.Sort.putRow (Value.int .i64) (Go.Sort.ahead w n) b 0 d) os) :
  Written w w' b (Go.Sort.putCells (Value.int .i64) 0 d c) e:=by
 subst hw;have br:b<w.heap.size:=(Array.getElem?_eq_some_iff.1 hb).1;have hs:(Go.Sort.putRow (Value.int .i64) (Go.Sort.ahead w n) b 0 d).heap.size=w.heap.size:=by simp
 refine⟨rfl,rfl,rfl,by simp,fun i hi uf=>?_,?_⟩
 ·rw[Go.Sort.heap_grow_old _ _ (by rw[hs];exact uf),akf hi];rfl
 ·rw[Go.Sort.heap_grow_old _ _ (by rw[hs];exact br)]
  exact ake (w:=Go.Sort.ahead w n) hb
def kf:Int→List Int→List Int
 |_,[]=>[]
 |p,a::l=>if a=p then kf a l else a::kf a l
theorem NK:∀(x:Int) (l:List Int),dedup (x::l)=x::kf x l
 |_,[]=>rfl
 |x,y::r=>by
  have ih:=NK y r;simp only[dedup,kf];by_cases h:x=y
  ·subst h
   simp[ih]
  ·have h':(x==y)=false:=by simpa using h
   have h2:¬y=x:=fun e=>h e.symm;simp[h',h2,ih]
theorem XZ(a:Int):∀(p:Int) (l:List Int),kf p (l++[a])=kf p l++(if a=l.getLastD p then [] else [a])
 |p,[]=>by simp[kf]
 |p,b::l=>by
  have ih:=XZ a b l;have e:(b::l).getLastD p=l.getLastD b:=by cases l<;>rfl
  rw[e,List.cons_append,kf,kf,ih];split<;>simp
theorem X0{zs:List Int}:∀{m:Nat},m≤zs.length→compactUpTo zs.toArray m=dedup (zs.take m)
 |0,_=>by simp[compactUpTo,dedup]
 |m+1,h=>by
  have ih:=X0 (zs:=zs) (m:=m) (by omega)
  have e:compactUpTo zs.toArray (m+1)=compactUpTo zs.toArray m++(if keeps zs.toArray m then [zs.toArray[m]!] else []):=by
   simp only[compactUpTo,List.range_succ,List.filter_append,List.map_append];congr 1;by_cases hk:keeps zs.toArray m=true<;>simp[hk]
  have hm:zs.toArray[m]! = nth zs m:=by simp[nth,h]
  rw[e,ih,hm,List.take_add_one,bb h];cases m with
  |zero =>
   rw[if_pos (keeps_lt_one _ 0 (by omega))]
   simp[dedup]
  |succ m =>
   have sU:zs.toArray[m]! = nth zs m:=by simp[nth,show m<zs.length by omega]
   cases hz:zs with
   |nil=>rw[hz]at h;simp at h
   |cons x r =>
    rw[hz]at h hm sU;simp only[List.length_cons]at h;have Wk:(r.take m).getLastD x=nth (x::r) m:=by
     rw[List.getLastD_eq_getLast?,List.getLast?_take];cases m with
     |zero=>simp[nth]
     |succ m =>
      have:m<r.length:=by omega
      simp[nth,this]
    simp only[List.take_succ_cons,Option.toList_some];rw[NK,List.cons_append,List.cons_append,NK,XZ,Wk];by_cases hk:nth (x::r) (m+1)=nth (x::r) m
    ·rw[keeps_neg (by omega) (by simp only[Nat.add_sub_cancel];rw[hm,sU,hk])]
     simp[hk]
    ·rw[keeps_pos (by simp only[Nat.add_sub_cancel];rw[hm,sU];exact hk)]
     simp[hk]
theorem akg(zs:List Int):compactUpTo zs.toArray zs.toArray.size=dedup zs:=by
 have:=X0 (zs:=zs) (m:=zs.length) (Nat.le_refl _)
 rwa [List.take_length]at this
theorem akh:pB Tryz.prog 0 229 where
 fn:=⟨_,Tryz.func229,by kernel_rfl,by kernel_rfl⟩
 run:=fun w b cap zs c e hb hc h1 h2 h3=>by
  have h3:zs.length≤4294967296:=h3;have br:b<w.heap.size:=(Array.getElem?_eq_some_iff.1 hb).1;refine(AnyM.slices_Sort_int Tryz.af2 b 0 cap zs w (holds_of hb hc) br (by omega)).mono fun r w' ⟨hr,n,os,hw⟩=>?_
  have hl:=(xy zs).length_eq;rw[←abw]at hw;refine⟨hr,_,XY hb hw,by simp[Go.Sort.putCells],fun j z hz=>?_,fun j hj=>?_⟩
  ·have NL:(mA zs)[j]?=some z:=hz
   have hj:=eC NL;rw[Ib,if_pos (by simpa using hj)]
   have Ai:j<c.size:=by omega
   simp only[Array.getElem?_eq_getElem Ai,Option.map_some];congr 2;rw[List.getElem?_eq_getElem hj]at NL;cases NL;simp[hj]
  ·rw[Ib,if_neg (by simp;omega)]
theorem aki:pB Tryz.prog 1 230 where
 fn:=⟨_,Tryz.func230,by kernel_rfl,by kernel_rfl⟩
 run:=fun w b cap zs c e hb hc h1 h2 h3=>by
  have h3:zs.length≤4294967296:=h3;have br:b<w.heap.size:=(Array.getElem?_eq_some_iff.1 hb).1;refine(AnyE.slices_Compact Tryz.af4 (Value.int .i64) (fun _=>rfl) (EqlAt.intD _ _ .i64) (NeqAt.intD _ _ .i64) 0 Tryz.zeroValue3 b 0 cap zs.toArray w (holds_of hb hc) (by simp;omega) (by simpa using h1)).mono fun r w' ⟨hr,n,hw⟩=>?_
  rw[akg]at hr hw;have hd:=A4 zs;have qX:w'=Go.Sort.grow (Go.Sort.putRow (Value.int .i64) (Go.Sort.ahead w n) b 0 (sd 1 zs).toArray) #[]:=by
   rw[Go.Sort.grow_empty];exact hw
  refine⟨hr,_,XY hb qX,by simp[Go.Sort.putCells],fun j z hz=>?_,fun j hj=>?_⟩
  ·have hj:=eC hz
   have hl:=Kl 1 zs;rw[Ib,if_pos (by simpa using hj)]
   have Ai:j<c.size:=by omega
   simp only[Array.getElem?_eq_getElem Ai,Option.map_some];congr 2;rw[List.getElem?_eq_getElem hj]at hz;cases hz;simp[hj]
  ·have hl:=Kl 1 zs
   rw[Ib,if_neg (by simp;omega)]
theorem akj:Km Tryz.prog 146 where
 fn:=⟨_,Tryz.func146,by kernel_rfl,by kernel_rfl⟩
 run:=fun w n h0 hl=>by
  obtain⟨k,rfl⟩:=Int.eq_ofNat_of_zero_le h0;have hl:(k:Int)≤4294967296:=hl;have hi:(Tryz.prog.info? 3).map (fun i=>(i.zero,i.size,i.bytes))=some (some (.int .i64 0),1,8):=by kernel_rfl
  obtain⟨i0,hi,he⟩:=Option.map_eq_some_iff.1 hi;simp only[Prod.mk.injEq]at he;obtain⟨hz,hs,hb⟩:=he;by_cases hk:k=0
  ·subst hk
   exact(Any8.slices_Grow_room Tryz.UM none 0 0 0 w (by omega) (by omega) (by omega) (by omega)).mono fun r w' h=>.inl h
  ·refine(Any8.slices_Grow_grow Tryz.UM i0 (.int .i64 0) hi hz (by omega) none 0 0 k [] w (by omega) (by omega) (by rw[hb];omega) (by omega) (by simp) (fun _=>rfl) (fun a h=>by cases h)).mono fun r w' h=>?_
   obtain⟨rfl,rfl⟩:=h;exact .inr ⟨_,_,_,rfl,rfl,rfl,rfl,rfl,by
    have:=grownCap_ge w (0+k) 0 (Tryz.UL.t 25);simp[Builtin.zeroCells,Value.cells];omega⟩
theorem akk(f k:Nat)(h:Go.Vm.look f DE=some k):pB Tryz.prog k f:=by
 simp only[DE,Go.Vm.look]at h;by_cases h0:(146==f)=true
 ·rw[h0]at h
  cases h;have:=eq_of_beq h0;subst this;exact akj
 rw[Bool.eq_false_iff.2 h0]at h;by_cases h1:(229==f)=true
 ·rw[h1]at h
  cases h;have:=eq_of_beq h1;subst this;exact akh
 ·rw[Bool.eq_false_iff.2 h1]at h
  by_cases h2:(230==f)=true
  ·rw[h2]at h
   cases h;have:=eq_of_beq h2;subst this;exact aki
  ·rw[Bool.eq_false_iff.2 h2]at h
   cases h
end Go.Proofs.YtmpikpodpgnjhaaGreat
namespace Go.Proofs.YtmpikpodpgnjhaaGreat
set_option linter.all false
open Go.Vm
open Go.ChangeShapes Go.WideShapes Go.ChangeAt Go.RowKit
theorem Tryz.own:ownKnob Tryz.prog.godebug=none:=by kernel_rfl
theorem Tryz.laidOut:laidOutB Tryz.prog=true:=by kernel_rfl
theorem akl:oj Tryz.prog (a8 F):=aaD (CI akk Tryz.checked.mixed af0)
end Go.Proofs.YtmpikpodpgnjhaaGreat
