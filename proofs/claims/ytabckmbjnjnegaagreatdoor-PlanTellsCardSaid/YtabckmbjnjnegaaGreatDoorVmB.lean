/- - -/
import Derived.Test.YtabckmbjnjnegaaGreatDoorVmA
namespace Go.Vm
set_option linter.all false
def V.eO:V->Bool
 |.int .. | .bool .. | .str .. | .fn _ []=>true
 |_=>false
def V.vM:V->Bool
 |.int .. | .bool .. | .str .. | .cj | .ig | .ij | .ik | .fn .. | .slice none _ []=>true
 |.ff row _=>row.all V.eO
 |_=>false
def V.bare:V->Bool
 |.agg cs=>cs.all V.vM
 |v=>v.vM
def bG.clean:bG->Bool
 |.t _=>true
 |.c v=>v.bare
def VO.clean:VO->Bool
 |.mv x | .box _ x | .yB _ x | .load _ _ x | .xu x | .un _ x | .conv _ x | .xv _ x | .field _ _ x | .len x | .grow _ _ x | .ext x _=>x.clean
 |.Ad _ _ _ x | .yH x=>x.clean
 |.vt _ x | .yI _ x=>x.clean
 |.A7 _=>true
 |.vu f args _=>f.clean&&args.all λp=>p.2.2.clean
 |.xt _ x y=>x.clean&&y.clean
 |.pick a b c=>a.clean&&b.clean&&c.clean
 |.obj _ cs=>cs.all V.vM
 |.yC _ _ | .yD=>true
 |.Ac _ _ zero _ x k=>zero.bare&&x.clean&&k.clean
 |.yE _ _ _ x k y=>x.clean&&k.clean&&y.clean
 |.build zero ps=>zero.all V.vM&&ps.all λp=>p.2.2.clean
 |.lit _ _ _ _ ps=>ps.all λp=>p.2.clean
 |.xA _ x y z=>x.clean&&y.clean&&z.clean
 |.store _ _ x y | .bin _ x y | .beq _ x y | .iI _ _ x y | .r7 _ _ x y | .app _ _ _ _ _ x y | .wB _ _ _ _ x y | .yG _ _ x y | .mm _ x y=>x.clean&&y.clean
 |.own f args _ _ _=>f.clean&&args.all λp=>p.2.2.clean
 |.call _ f args _ | .vv f args _ | .um f args=>f.clean&&args.all λp=>p.2.clean
 |.xy _ zero x=>x.clean&&zero.all V.vM
 |.yJ _ x lo hi=>x.clean&&(lo.all bG.clean)&&(hi.all bG.clean)
 |.yK _ cap=>cap.all bG.clean
variable{v:V}
def Kc(h:v.vM=true)(d:Nat):v.cQ d=false:=by
 cases v<;>simp_all[V.vM,V.cQ];rename_i t _ _;cases t<;>simp_all[V.vM,V.cQ]
def S8(h:v.bare=true)(d:Nat):v.cI d=false:=by
 cases v with
 |agg cs =>
  simp only[V.bare,iW]at h;simp only[V.cI,V.dW,py];exact λx hx=>by simp[Kc (h x hx) d]
 |_=>apply wE;apply Kc;exact h
def aaw{d:Nat}(hc:v.c5=true)(h:v.cI d=false):v.cQ d=false:=by
 cases v<;>simp_all[V.c5,V.cI,V.dW,V.cQ]
section
variable {P:Program} {E:Entry} {g g':Gh} {S S':St} {a:Act} {w w':World} {d:Nat}
variable{v:V}
def qo(hn:S.fa d){x:bG}(hc:x.clean=true)(hv:S.ev x=some v):v.cI d=false:=by
 cases x with
 |t s=>exact hn.env s v hv
 |c u=>simp only[St.ev,Option.some.injEq]at hv;subst hv;exact S8 hc d
def ez(hn:S.fa d){dst:Option Nat}(hv:v.cI d=false):(S.put dst v).fa d:=by
 cases dst with
 |none=>exact hn
 |some k =>
  refine⟨λs u hs=>?_,hn.aY,hn.obj,hn.tok⟩;rw[GJ,dO]at hs;split at hs
  .cases hs;exact hv
  .exact hn.env s u hs
def xN(hn:S.fa d){id:Nat}(cy:id≠d){cs:List V}(hc:∀v∈cs,v.cQ d=false):({ S with aY:=(id,cs)::S.aY }:St).fa d:=by
 refine⟨hn.env,λi ei hi=>?_,?_,hn.tok⟩
 .rw[dO]at hi
  split at hi
  .cases hi;exact hc
  .exact hn.aY i ei hi
 .rw[dO,ax cy];exact hn.obj
def Hf(hn:S.fa d){f k:Nat}(cy:f≠d):({ S with bo:=(f,k)::S.bo }:St).fa d :=
 ⟨hn.env,hn.aY,hn.obj,by rw[dO,ax cy];exact hn.tok⟩
def y6(hn:S.fa d){G:List aM}:({ S with aC:=G }:St).fa d:=⟨hn.env,hn.aY,hn.obj,hn.tok⟩
def S9(h:v.cI d=false)(hc:∀u∈v.cells,u.c5=true):∀u∈v.cells,u.cQ d=false:=λu hu=>aaw (hc u hu) (ZT h u hu)
variable{off:Nat}
def Ta{sz:Option Nat}{cs:List V}(h:loadAt sz cs off=some v)(hc:∀u∈cs,u.cQ d=false):v.cI d=false:=by
 unfold loadAt at h;split at h
 .exact wE (hc v (gw h))
 next n=>
  cases hb:Nat.ble (off+n) cs.length with
  |false=>simp[hb]at h
  |true =>
   simp only[hb,bW,Option.some.injEq]at h;subst h;simp only[V.cI,V.dW,py];exact λu hu=>by simp[hc u (Nb (Ek hu))]
def anF(h:v.plain=true):v.cQ d=false:=by
 cases v<;>simp_all[V.plain,V.cQ];rename_i t _ _;cases t<;>simp_all[V.plain,V.cQ]
def anG(hR:R E g S a w)(hn:S.fa d){p:V}{x:Value}(hr:bh (S.cx g w) p x){cs:List V}(hc:S.pC p=some (cs,off)):∀u∈cs,u.cQ d=false:=by
 unfold St.pC at hc;split at hc
 .split at hc
  next i f q ei ho=>
   cases hc;exact hn.aY i _ ho
  .cases hc
 .split at hc
  next i f q ei ho=>
   cases hc;rcases hR.aC.obj i _ ho with h0 | ⟨_,hm,c,et,hh,hl,hj⟩
   .cases h0;intro u hu;simp at hu
   intro u hu;obtain⟨j,xO⟩:=lN.1 hu;have bJ:j<c.size:=jC (fg xO) hl;obtain⟨h1,h2,_⟩:=hj j u c[j] xO (by simp[bJ])
   exact aaw h1 (h2 d)
  .cases hc
 .cases hc
  cases hr with
  |plain h _=>cases h
  |ff row _ b o ys hb h1 h2 hp hm =>
   intro u hu;obtain⟨j,xO⟩:=lN.1 hu;exact anF (hp j u xO)
 .cases hc
def aax{cs vs:List V}{u:V}(h:u∈jE cs off vs):u∈cs\/u∈vs:=by
 obtain⟨j,hj⟩:=lN.1 h;rw[C3]at hj;split at hj
 .exact .inr (gw hj)
 .exact .inl (gw hj)
def aay(hn:S.fa d):∀{ps:List (Nat×Nat×bG)} {cs ei:List V},(∀p∈ps,p.2.2.clean=true)->uq S ps cs=some ei->(∀u∈cs,u.cQ d=false)->∀u∈ei,u.cQ d=false
 |[],cs,ei,_,h,hc=>by simp only[uq,Option.some.injEq]at h;subst h;exact hc
 |(off,n,x)::ps,cs,ei,dS,h,hc=>by
  simp only[uq]at h;split at h
  next v hv=>
   cases hb:(v.cells.length==n&&Nat.ble (off+n) cs.length&&v.cells.all V.c5) with
   |false=>simp[hb]at h
   |true =>
    simp only[hb,bW]at h;simp only[bZ,iW]at hb;refine aay hn (λp hp=>dS p (Ej _ hp)) h (λu hu=>?_);rcases aax hu with h1|h1
    .exact hc u h1
    .exact S9 (qo hn (dS (off,n,x) z7) hv) hb.2 u h1
  .cases h
def aaz(hR:R E g S a w)(hn:S.fa d){x:bG}(dS:x.clean=true){p:V}(hv:S.ev x=some p){cs:List V}(hc:S.pC p=some (cs,off)):∀u∈cs,u.cQ d=false:=by
 cases x with
 |t s =>
  obtain⟨y,_,hr⟩:=hR.env s p hv;exact anG hR hn hr hc
 |c v =>
  simp only[St.ev,Option.some.injEq]at hv;subst hv;cases v with
  |ff row o =>
   simp only[bG.clean,V.bare,V.vM,iW]at dS;simp only[St.pC,Option.some.injEq,Prod.mk.injEq]at hc;obtain⟨rfl,rfl⟩:=hc;intro u hu;have:=dS u hu;cases u<;>simp_all[V.eO,V.cQ]
  |_=>simp_all[bG.clean,V.bare,V.vM,St.pC]
def Tb{r:V}(h:∀d,(Df r).cI d=false){reg:List (Nat×Nat)}{d:Nat}(hd:d∉EP reg):(recv reg r).1.cI d=false/\look d (recv reg r).2=none:=by
 rw[NH];have y7:∀p f,look p reg=some f->(f==d)=false:=λp f hp=>by
  simp only[tC,ne_eq];intro e;subst e;exact hd (nU.2 ⟨_,xK hp,rfl⟩)
 have wM:∀u∈(db reg 0 r.ia).1,(∃n es f,u=.slice (some f) n es/\(f==d)=false)\/∃v∈r.ia,u=strip v:=λu hu=>by
  obtain⟨k,hk⟩:=lN.1 hu;obtain⟨v,hv,hc⟩:=J4 reg _ 0 k u hk;rcases hc with⟨t,n,es,f,rfl,h2,rfl⟩ | rfl
  .exact .inl ⟨n,es,f,rfl,y7 _ f h2⟩
  .exact .inr ⟨v,gw hv,rfl⟩
 refine⟨?_,?_⟩
 .have hs:=h d
  unfold Df at hs;have single:r.ia=[r]->(∀us,wK r us=us.headD .undef)->(wK r (db reg 0 r.ia).1).cI d=false:=λe1 e3=>by
   rw[e3]at hs ⊢;rw[e1]at hs wM ⊢;have pL:(db reg 0 [r]).1.length=1:=SM reg [r] 0
   match sZ:(db reg 0 [r]).1,pL with
   |[u],_ =>
    rw[sZ]at wM;rcases wM u z7 with⟨n,es,f,rfl,hf⟩ | ⟨v,hv,rfl⟩
    .exact hf
    .simp only[qf]at hv
     subst hv;exact hs
  cases r with
  |tuple vs =>
   simp only[wK,V.cI,V.ia,py,nU]at hs ⊢;intro u hu;rcases wM u hu with⟨n,es,f,rfl,hf⟩ | ⟨v,hv,rfl⟩
   .simp[V.dW,V.cQ,hf]
   .exact hs (strip v) ⟨v,hv,rfl⟩
  |agg vs =>
   simp only[wK,V.cI,V.dW,V.ia,py,nU]at hs ⊢;intro u hu;rcases wM u hu with⟨n,es,f,rfl,hf⟩ | ⟨v,hv,rfl⟩
   .simp[V.cQ,hf]
   .exact hs (strip v) ⟨v,hv,rfl⟩
  |_=>exact single rfl (λ_=>rfl)
 .cases hl:look d (db reg 0 r.ia).2 with
  |none=>rfl
  |some k =>
   obtain⟨p,t,n,es,_,h2,_⟩:=G7 reg _ 0 d k (xK hl);exact absurd (nU.2 ⟨_,xK h2,rfl⟩) hd
def aaA(h:v.cI d=false):v.ml.cI d=false:=by
 have h0:∀u:V,u.cQ d=false->u.kq.cQ d=false:=λu hu=>by
  cases u<;>first|exact hu|rfl
 cases v with
 |agg cs =>
  simp only[V.ml,V.cI,V.dW,py,nU,forall_exists_index,and_imp,forall_apply_eq_imp_iff₂]at h ⊢;intro u hu;have:=h0 u (by simpa using h u hu)
  simp[this]
 |eC=>rfl
 |_=>exact h
def anH{vo:VO}{C:bI}{dst:Option Nat}(dS:vo.clean=true)
  (hC:∀f args G r G',C f args G=some (r,G')->∀d,(Df r).cI d=false)
  (hR:R E g S a w) (hn:S.fa d) (hd:d∉vo.names) (hrun:VO.run C dst S vo=some S'):S'.fa d:=by
 cases vo with
 |mv x =>
  simp only[VO.run]at hrun;split at hrun
  next v hv=>cases hrun;exact ez hn (qo hn dS hv)
  .cases hrun
 |pick c p q =>
  simp only[VO.clean,bZ]at dS;simp only[VO.run]at hrun;split at hrun
  next t ht=>
   split at hrun
   next v hv=>
    cases hrun;cases t
    .exact ez hn (qo hn dS.2 hv)
    .exact ez hn (qo hn dS.1.2 hv)
   .cases hrun
  .cases hrun
 |obj id cells =>
  simp only[VO.clean,iW]at dS;simp only[VO.names,qf]at hd;simp only[VO.run]at hrun;cases hrun;exact ez (xN hn (λe=>hd e.symm) λv hv=>Kc (dS v hv) d) (by simp[V.cI,V.dW,V.cQ];exact λe=>hd e.symm)
 |box id x =>
  simp only[VO.names,qf]at hd;simp only[VO.run]at hrun;split at hrun
  next v hv=>
   cases hc:v.cells.all V.c5 with
   |false=>simp[hc]at hrun
   |true =>
    simp only[hc,bW]at hrun;simp only[iW]at hc;cases hrun;exact ez (xN hn (λe=>hd e.symm) (S9 (qo hn dS hv) hc)) (by simp[V.cI,V.dW,V.cQ];exact λe=>hd e.symm)
  .cases hrun
 |yB sh x =>
  simp only[VO.run]at hrun;split at hrun
  .split at hrun
   .cases hrun;exact ez (y6 hn) rfl
   .cases hrun
  .cases hrun
 |yC sh zero =>
  simp only[VO.run]at hrun;split at hrun
  .cases hrun;exact ez (y6 hn) rfl
  .cases hrun
 |yD =>
  simp only[VO.run]at hrun;cases hrun;exact ez (y6 hn) rfl
 |Ac ag ks zero ok x k =>
  simp only[VO.clean,bZ]at dS;simp only[VO.run]at hrun;split at hrun
  next i kv hx uA=>
   split at hrun
   next es b nY hb=>
    have aaB:∀v b,(∀d,v.cI d=false)->v.dW d=false->(bif ok then V.tuple [v,.bool b] else v).cI d=false:=λv b hv hc=>by
     cases ok
     .exact hv d
     .simp only[bW,V.cI,Jg,Ji,Ja,RH]
      exact⟨hc,rfl⟩
    split at hrun
    next j v hf=>
     cases hrun;have NP:∀(es:List (V×V)) i,oX ag ks kv es i=some (some (j,v))->∃q,(q,v)∈es:=by
      intro es;induction es with
      |nil=>intro i h;simp[oX]at h
      |cons p es ih =>
       obtain⟨q,u⟩:=p;intro i h;simp only[oX]at h;split at h
       .simp at h;obtain⟨_,rfl⟩:=h;exact⟨q,by simp⟩
       .obtain⟨q',h'⟩:=ih _ h;exact⟨q',by simp[h']⟩
       .cases h
     obtain⟨q,hq⟩:=NP es 0 hf;obtain⟨n,Bt⟩:=lN.1 hq;obtain⟨_,_,c,ck,hh,hl,_,hj⟩:=NQ hR nY;have bJ:=fg Bt;obtain⟨_,hv,_,_⟩:=hj n (q,v) c[n] Bt (by simp)
     exact ez hn (aaB _ _ (λd=>yP (hv d)) (hv d))
    .cases hrun
     refine ez hn (aaB _ _ (λd=>S8 dS.1.1 d) ?_);have:=S8 dS.1.1 d;have Hg:=dS.1.1;cases zero<;>first|(simpa [V.cI] using this)|simp[V.bare,V.vM]at Hg
    .cases hrun
   .cases hrun
  .cases hrun
 |yE ag ks sh x k y =>
  simp only[VO.run]at hrun;split at hrun
  .split at hrun
   .split at hrun
    .cases hrun;exact y6 hn
    .cases hrun;exact y6 hn
    .cases hrun
   .cases hrun
  .cases hrun
 |build zero ps =>
  simp only[VO.clean,bZ,iW]at dS;simp only[VO.run]at hrun;split at hrun
  next cs hf=>
   cases hrun;refine ez hn ?_;have:=aay hn dS.2 hf (λu hu=>Kc (dS.1 u hu) d);simp only[V.cI,V.dW,py];exact λu hu=>by simp[this u hu]
  .cases hrun
 |lit tok sh zero len ps =>
  simp only[VO.run]at hrun;split at hrun
  .split at hrun
   next f=>
    simp only[VO.names,qf]at hd;cases hrun;exact ez (Hf hn (λe=>hd e.symm)) (by simp[V.cI,V.dW,V.cQ];exact λe=>hd e.symm)
   .cases hrun;exact ez hn rfl
  .cases hrun
 |load root sz x =>
  simp only[VO.run]at hrun;split at hrun
  next u hu=>
   cases gy:root.fits u with
   |false=>simp[gy]at hrun
   |true =>
    simp only[gy,bW]at hrun;split at hrun
    next cs off hc=>
     split at hrun
     next v hv=>
      cases hrun;refine ez hn ?_;have:=Ta hv (aaz hR hn dS hu hc);cases root
      .exact this
      .exact aaA this
      .exact this
     .cases hrun
    .cases hrun
  .cases hrun
 |store root sh x y =>
  simp only[VO.clean,bZ]at dS;simp only[VO.run]at hrun;cases gy:S.fits root x with
  |false=>simp[gy]at hrun
  |true =>
  simp only[gy,bW]at hrun;split at hrun
  next id off v hx hy=>
   split at hrun
   next cs ho=>
    cases hc:(v.cells.length==sh.length&&Nat.ble (off+sh.length) cs.length&&v.cells.all V.c5&&Nat.blt 0 sh.length) with
    |false=>simp[hc]at hrun
    |true =>
     simp only[hc,bW]at hrun;simp only[bZ,iW]at hc;cases hrun;have pK:id≠d:=λe=>by have:=qo hn dS.1 hx;simp[V.cI,V.dW,V.cQ,e]at this
     refine xN hn pK λu hu=>?_;rcases aax hu with h|h
     .exact hn.aY id cs ho u h
     .exact S9 (qo hn dS.2 hy) hc.1.2 u h
   .cases hrun
  next i off v hx hy=>
   split at hrun
   next cs ho=>
    split at hrun
    next vs hg=>
     cases hc:(Nat.ble (off+vs.length) cs.length&&Nat.blt 0 vs.length) with
     |false=>simp[hc]at hrun
     |true=>simp only[hc,bW]at hrun;cases hrun;exact y6 hn
    .cases hrun
   .cases hrun
  .cases hrun
 |A7 n =>
  simp only[VO.run]at hrun;cases hrun;exact ez hn rfl
 |vu f args ids =>
  simp only[VO.run]at hrun;split at hrun
  .split at hrun
   next r G' hc=>
    cases hs:r.tE with
    |false=>rw[hs]at hrun;cases hrun
    |true =>
     rw[hs]at hrun;cases hrun;have h0:∀v:V,v.sc=true->v.cQ d=false/\v.dW d=false/\v.cI d=false:=λv hv=>by
      cases v<;>simp[V.sc]at hv<;>exact⟨rfl,rfl,rfl⟩
     refine ez hn ?_;cases r with
     |tuple vs =>
      simp only[V.tE,iW]at hs;simp only[V.cI,py];exact λv hv=>by simp[(h0 v (hs v hv)).2.1]
     |agg vs =>
      simp only[V.tE,iW]at hs;simp only[V.cI,V.dW,py];exact λv hv=>by simp[(h0 v (hs v hv)).1]
     |_=>refine(h0 _ ?_).2.2;exact hs
   .cases hrun
  .cases hrun
 |yI neg x =>
  simp only[VO.run]at hrun;split at hrun<;>first|(cases hrun;done)|(cases hrun;exact ez hn rfl)
 |vt cD x =>
  simp only[VO.names,qf]at hd;simp only[VO.run]at hrun;split at hrun
  next u hu=>
   split at hrun
   next v ts G ht=>
    cases hrun;unfold St.take at ht;split at ht
    next id off=>
     split at ht
     next cs ho=>
      split at ht
      .cases ht
       exact ez (y6 (Hf hn (λe=>hd e.symm))) (by simp[V.cI,V.dW,V.cQ];exact λe=>hd e.symm)
      next z _ hz=>
       cases ht;have hm:=aaz (off:=off) hR hn dS hu (cs:=cs) (by simp[St.pC,ho])
       exact ez (S:={ S with bo:=[]++S.bo,aC:=S.aC }) ⟨hn.env,hn.aY,hn.obj,hn.tok⟩ (aaA (wE (hm z (gw hz))))
      .cases ht
     .cases ht
    .cases ht
   .cases hrun
  .cases hrun
 |xt cD x y =>
  simp only[VO.run]at hrun;split at hrun
  .split at hrun
   next ts G hg=>
    cases hrun;unfold St.Ae at hg;split at hg
    next id off f n es=>
     split at hg
     next k _ hk=>
      have cy:cD≠d:=λe=>by
       rw[e,hn.tok]at hk;generalize (_==d)=q at hk;cases q<;>cases hk
      rcases RD (k==_&&Nat.blt _ _) with hc|hc
      .rw[hc]at hg
       cases hg;exact y6 (Hf hn cy)
      .rw[hc]at hg;cases hg
     .cases hg
    .cases hg
   .cases hrun
  .cases hrun
 |xu x =>
  simp only[VO.run]at hrun;split at hrun<;>first|(cases hrun;done)|skip
  all_goals
   rename_i hv;cases hrun;exact ez hn (qo hn dS hv)
 |bin op x y =>
  simp only[VO.run]at hrun;split at hrun
  .split at hrun
   next v hv=>
    cases hrun;refine ez hn ?_;unfold V.bin at hv;split at hv
    next k m k' n _ _=>
     cases hk:decide (k=k') with
     |false=>simp[hk]at hv
     |true =>
      simp only[hk,bW]at hv;unfold Jw at hv;split at hv<;>(try split at hv)<;>cases hv<;>rfl
    .cases hv
   .cases hrun
  .cases hrun
 |beq neg x y =>
  simp only[VO.run]at hrun;split at hrun
  .cases hrun;exact ez hn rfl
  .cases hrun
 |iI neg ks x y =>
  simp only[VO.run]at hrun;split at hrun
  .split at hrun
   next v hv=>
    cases hrun;refine ez hn ?_;unfold V.iI at hv;split at hv
    next cs ds _ _=>
     cases hc:(cs.length==ks.length&&ds.length==ks.length) with
     |false=>simp[hc]at hv
     |true =>
      simp only[hc,bW]at hv;split at hv<;>cases hv<;>rfl
    .cases hv
   .cases hrun
  .cases hrun
 |un op x =>
  simp only[VO.run]at hrun;split at hrun
  .split at hrun
   next v hv=>
    cases hrun;refine ez hn ?_;unfold V.un at hv;split at hv<;>(try split at hv)<;>cases hv<;>rfl
   .cases hrun
  .cases hrun
 |conv k x =>
  simp only[VO.run]at hrun;split at hrun
  .cases hrun;exact ez hn rfl
  .cases hrun
 |xv off x =>
  simp only[VO.run]at hrun;split at hrun<;>first|(cases hrun;done)|skip
  all_goals
   rename_i hv;have:=qo hn dS hv;cases hrun;exact ez hn this
 |r7 arr sz x i =>
  simp only[VO.clean,bZ]at dS;cases arr with
  |some n =>
   simp only[VO.run]at hrun;split at hrun
   next u k m hu hm=>
    cases hc:(decide (0<=m)&&decide (m<(n:Int))) with
    |false=>simp[hc]at hrun
    |true =>
     simp only[hc,bW]at hrun;have:=qo hn dS.1 hu;split at hrun<;>first|(cases hrun;done)|skip
     all_goals
      cases hrun;exact ez hn this
   .cases hrun
  |none =>
   simp only[VO.run]at hrun;split at hrun
   next tk m es k z hu hm=>
    cases hc:(decide (0<=z)&&(m==sz)) with
    |false=>simp[hc]at hrun
    |true =>
     simp only[hc,bW]at hrun;split at hrun
     .cases hrun;exact ez hn rfl
     .cases hrun
   next id off len k z hu hm=>
    cases hc:(decide (0<=z)&&decide (z<(len:Int))&&(off==sz)) with
    |false=>simp[hc]at hrun
    |true =>
     simp only[hc,bW]at hrun;have:=qo hn dS.1 hu;cases hrun;exact ez hn this
   next id off len k z hu hm=>
    cases hc:(decide (0<=z)&&decide (z<(len:Int))&&(off==sz)) with
    |false=>simp[hc]at hrun
    |true =>
     simp only[hc,bW]at hrun;cases hrun;exact ez hn rfl
   .cases hrun
 |field off sz x =>
  simp only[VO.run]at hrun;split at hrun
  next cs hu=>
   split at hrun
   next v hv=>
    cases hrun;have:=qo hn dS hu;simp only[V.cI,V.dW,py]at this;exact ez hn (Ta hv λu hu=>by simpa using this u hu)
   .cases hrun
  .cases hrun
 |len x =>
  simp only[VO.run]at hrun;split at hrun<;>first|(cases hrun;done)|(cases hrun;exact ez hn rfl)
 |grow f id x =>
  simp only[VO.names,qf]at hd;simp only[VO.run]at hrun;split at hrun
  next n hx=>
   cases hc:(decide (0<=n)&&decide (n<=(lim:Int))) with
   |false=>simp[hc]at hrun
   |true =>
    simp only[hc,bW]at hrun;cases hrun;exact ez (xN hn (λe=>hd e.symm) λv hv=>by simp at hv) (by simp[V.cI,V.dW,V.cQ];exact λe=>hd e.symm)
  .cases hrun
 |yG NR src x y =>
  simp only[VO.clean,bZ]at dS;simp only[VO.run]at hrun;split at hrun
  next id s n b hx hy=>
   split at hrun
   next cs us ho qN=>
    cases hc:(id==NR&&(s==1)&&Nat.ble n cs.length&&us.all V.sc) with
    |false=>simp[hc]at hrun
    |true =>
     simp only[hc,bW]at hrun;simp only[bZ,iW,ec]at hc;cases hrun;obtain⟨⟨⟨rfl,_⟩,_⟩,hc⟩:=hc;have pK:id≠d:=λe=>by have:=qo hn dS.1 hx;simp[V.cI,V.dW,V.cQ,e]at this
     refine ez (xN hn pK λu hu=>?_) rfl;rcases ka.1 hu with h|h
     .have:=hc u (Ek h)
      cases u<;>simp_all[V.sc,V.cQ]
     .exact hn.aY id cs ho u (Nb h)
   .cases hrun
  .cases hrun
 |app cD src oy sh mx x y =>
  simp only[VO.clean,bZ]at dS;simp only[VO.names,qf]at hd;simp only[VO.run]at hrun;split at hrun
  .split at hrun
   next ys hy=>
    cases hc:Nat.ble ys.length mx with
    |false=>simp[hc]at hrun
    |true =>
     simp only[hc,bW]at hrun;cases hrun;exact ez (Hf hn (λe=>hd e.symm)) (by simp[V.cI,V.dW,V.cQ];exact λe=>hd e.symm)
   .cases hrun
  .split at hrun
   next ys hy=>
    cases hc:Nat.ble ys.length mx with
    |false=>simp[hc]at hrun
    |true =>
     simp only[hc,bW]at hrun;cases hrun;exact ez (Hf hn (λe=>hd e.symm)) (by simp[V.cI,V.dW,V.cQ];exact λe=>hd e.symm)
   .cases hrun
  next f n es v hx hy=>
   have hf:(f==d)=false:=by have:=qo hn dS.1 hx;simpa [V.cI,V.dW,V.cQ] using this
   split at hrun
   next ys hy=>
    split at hrun
    next k hk=>
     cases hc:(k==es.length&&(n==sh.length)&&Nat.ble (es.length+ys.length) mx) with
     |false=>simp[hc]at hrun
     |true =>
      simp only[hc,bW]at hrun;cases hrun;exact ez (Hf hn (by simpa using hf)) (by simp only[V.cI,V.dW,V.cQ];exact hf)
    .cases hrun
   .cases hrun
  .cases hrun
 |wB nw src oy sh x y =>
  simp only[VO.clean,bZ]at dS;simp only[VO.names,qf]at hd;have kh:∀{v:V} {ys:List (List V)},S.ev y=some v->S.jR oy sh v=some ys->∀u∈ys.flatten,u.cQ d=false:=λ{v ys} hv gT u hu=>by
   have NC:∀{x:Value},bh (S.cx g w) v x->u.cQ d=false:=λ{x} hr=>by
    rcases JL hR hr gT with⟨rfl,_⟩ | ⟨b,off,cap,l,_,_,_,hl⟩
    .simp at hu
    .obtain⟨j,hj⟩:=lN.1 hu
     exact Tc ((Bu hl).2 j u hj).1
   cases y with
   |t s =>
    obtain⟨x,_,hr⟩:=hR.env s v hv;exact NC hr
   |c c =>
    simp only[St.ev,Option.some.injEq]at hv;subst hv;have gT:S.rows sh c=some ys:=by
     unfold St.jR at gT;cases oy with
     |none=>exact gT
     |some j=>cases c<;>first|exact gT|(have h:=dS.2;simp[bG.clean,V.bare,V.vM]at h)
    cases c with
    |cj=>simp[St.rows]at gT;subst gT;simp at hu
    |slice t n es =>
     have:es=[]:=by
      have h:=dS.2;simp only[bG.clean,V.bare]at h;cases t with
      |none=>cases es with
       |nil=>rfl
       |cons _ _=>simp[V.vM]at h
      |some _=>simp[V.vM]at h
     subst this;simp only[St.rows]at gT;cases Bt:n==sh.length with
     |false=>simp[Bt]at gT
     |true=>simp only[Bt,bW,Option.some.injEq]at gT;subst gT;simp at hu
    |er n=>simp[St.rows]at gT;subst gT;simp at hu
    |gF n=>simp[St.rows]at gT;subst gT;simp at hu
    |_=>simp[St.rows]at gT
  simp only[VO.run]at hrun;split at hrun
  next v hx hy=>
   split at hrun
   next ys gT=>
    cases he:ys.isEmpty with
    |true=>simp only[he,bW]at hrun;cases hrun;exact ez hn rfl
    |false =>
     simp only[he,gL]at hrun;cases hc:Nat.ble ys.length lim with
     |false=>simp[hc]at hrun
     |true =>
      simp only[hc,bW]at hrun;cases hrun;exact ez (xN hn (λe=>hd e.symm) (kh hy gT)) (by simp[V.cI,V.dW,V.cQ];exact λe=>hd e.symm)
   .cases hrun
  next n v hx hy=>
   split at hrun
   next ys gT=>
    cases he:ys.isEmpty with
    |true=>simp only[he,bW]at hrun;cases hrun;exact ez hn rfl
    |false =>
     simp only[he,gL]at hrun;cases hc:Nat.ble ys.length lim with
     |false=>simp[hc]at hrun
     |true =>
      simp only[hc,bW]at hrun;cases hrun;exact ez (xN hn (λe=>hd e.symm) (kh hy gT)) (by simp[V.cI,V.dW,V.cQ];exact λe=>hd e.symm)
   .cases hrun
  next id s ln v hx hy=>
   split at hrun
   next ys cs gT fb=>
    have Ai:({ S with aY:=S.aY.filter λp => !(p.1==src) }:St).fa d:=by
     refine⟨hn.env,λk ei hk=>?_,?_,hn.tok⟩
     .rw[wN]at hk
      split at hk
      .cases hk
      .exact hn.aY k ei hk
     .rw[wN]
      split
      .rfl
      .exact hn.obj
    cases hc:((id==src)&&(s==sh.length)&&(cs.length==ln*s)&&Nat.ble (ln+ys.length) lim) with
    |false =>
     simp only[hc,gL]at hrun;cases kz:(oy.isNone&&(id==src)&&(s==sh.length)&&Nat.ble (ln*s) cs.length&&Nat.ble (ln+ys.length) lim) with
     |false=>simp[kz]at hrun
     |true =>
      simp only[kz,bW]at hrun;cases hrun;refine ez (xN Ai (λe=>hd e.symm) (λu hu=>?_)) (by simp[V.cI,V.dW,V.cQ];exact λe=>hd e.symm)
      rcases ka.1 hu with h|h
      .exact hn.aY src cs fb u (Ek h)
      .exact kh hy gT u h
    |true =>
     simp only[hc,bW]at hrun;cases hrun;refine ez (xN Ai (λe=>hd e.symm) (λu hu=>?_)) (by simp[V.cI,V.dW,V.cQ];exact λe=>hd e.symm)
     rcases ka.1 hu with h|h
     .exact hn.aY src cs fb u h
     .exact kh hy gT u h
   .cases hrun
  .cases hrun
 |ext x i =>
  simp only[VO.run]at hrun;split at hrun
  next vs hv=>
   split at hrun
   next v hk=>
    cases hrun;exact ez hn (ZH (qo hn dS hv) (gw hk))
   .cases hrun
  .cases hrun
 |call alone f args reg =>
  cases alone
  case true =>
   simp only[VO.run]at hrun;split at hrun
   .split at hrun
    next r G' hc=>
     cases Hb:r.lone with
     |false=>simp[Hb]at hrun
     |true =>
      simp only[Hb,bW]at hrun;cases hrun;obtain⟨h1,h2⟩:=Tb (hC _ _ _ _ _ hc) hd;have vB:look d ((recv reg r).2++S.bo)=none:=by rw[Bp,h2];exact hn.tok
      exact ez (S:={ env:=S.env,aY:=S.aY,bo:=(recv reg r).2++S.bo,aC:=S.aC }) ⟨hn.env,hn.aY,hn.obj,vB⟩ h1
    .cases hrun
   .cases hrun
  simp only[VO.run]at hrun;split at hrun
  .split at hrun
   next r G' hc=>
    cases hrun;obtain⟨h1,h2⟩:=Tb (hC _ _ _ _ _ hc) hd;have vB:look d ((recv reg r).2++S.bo)=none:=by rw[Bp,h2];exact hn.tok
    exact ez (S:={ env:=S.env,aY:=S.aY,bo:=(recv reg r).2++S.bo,aC:=G' }) ⟨hn.env,hn.aY,hn.obj,vB⟩ h1
   .cases hrun
  .cases hrun
 |Ad k f i x =>
  simp only[VO.run]at hrun;unfold St.mut at hrun;split at hrun
  next id s n hx=>
   split at hrun
   next cs fb=>
    cases hc:(id==i&&(s==1)&&Nat.ble n cs.length&&Nat.ble n lim&&Nat.blt 0 n) with
    |false=>simp[hc]at hrun
    |true =>
     simp only[hc,bW]at hrun;simp only[bZ,ec]at hc;obtain⟨⟨⟨⟨rfl,rfl⟩,_⟩,_⟩,_⟩:=hc;split at hrun
     next zs qO=>
      cases hrun;have pK:=qo hn dS hx;have cy:id≠d:=λe=>by simp[V.cI,V.dW,V.cQ,e]at pK
      refine ez (xN hn cy λu hu=>?_) ?_
      .rcases ka.1 hu with h|h
       .obtain⟨z,_,rfl⟩:=nU.1 h;rfl
       .exact hn.aY id cs fb u (Nb h)
      .unfold Ex
       split
       .rfl
       .simpa [V.cI,V.dW,V.cQ] using cy
     .cases hrun
   .cases hrun
  .cases hrun
 |um f args =>
  have hrun:=aar hrun;simp only[VO.run]at hrun;split at hrun
  .split at hrun
   next r G' hc=>
    cases hrun;obtain⟨h1,h2⟩:=Tb (reg:=[]) (hC _ _ _ _ _ hc) (d:=d) (by simp[EP])
    have vB:look d ((recv [] r).2++S.bo)=none:=by rw[Bp,h2];exact hn.tok
    exact ez (S:={ env:=S.env,aY:=S.aY,bo:=(recv [] r).2++S.bo,aC:=G' }) ⟨hn.env,hn.aY,hn.obj,vB⟩ h1
   .cases hrun
  .cases hrun
 |own f args ids id pos =>
  simp only[VO.names,qf]at hd;have hL:∀(pos:Nat) (vs us:List V) (o:Option (List V)),pD id pos vs=some (us,o)->(∀u∈us,u.dW d=false)/\∀cs,o=some cs->∀u∈cs,u.cQ d=false:=by
   have scm:∀{u:V},u.sc=true->u.dW d=false/\u.cQ d=false:=λ{u} h=>by cases u<;>simp[V.sc]at h<;>exact⟨rfl,rfl⟩
   have lO:∀{u:V},u.lO=true->(strip u).dW d=false:=λ{u} h=>by
    cases u with
    |slice t n es =>
     cases t with
     |none=>simp[V.lO,V.sc]at h
     |some t=>rfl
    |int|bool|str=>rfl
    |_=>simp[V.lO,V.sc]at h
   intro pos;induction pos with
   |zero =>
    intro vs us o h;cases vs with
    |nil=>simp[pD]at h
    |cons v vs =>
     simp only[pD]at h;split at h
     next t n es=>
      cases hc:(es.all (λr=>r.length==n&&r.all V.sc)&&vs.all V.lO) with
      |false=>simp[hc]at h
      |true =>
       simp only[hc,bW]at h;simp only[bZ,iW]at hc;cases he:es.isEmpty with
       |true =>
        simp only[he,bW,Option.some.injEq,Prod.mk.injEq]at h;obtain⟨rfl,rfl⟩:=h;refine⟨λu hu=>?_,λcs e=>by cases e⟩
        rcases iA.1 hu with rfl|hu
        .rfl
        .obtain⟨u0,uC,rfl⟩:=nU.1 hu
         exact lO (hc.2 u0 uC)
       |false =>
        simp only[he,gL,Option.some.injEq,Prod.mk.injEq]at h;obtain⟨rfl,rfl⟩:=h;refine⟨λu hu=>?_,λcs e u hu=>?_⟩
        .rcases iA.1 hu with rfl|hu
         .simp[V.dW,V.cQ];exact λe=>hd e.symm
         .obtain⟨u0,uC,rfl⟩:=nU.1 hu
          exact lO (hc.2 u0 uC)
        .cases e
         obtain⟨r,sd,pJ⟩:=RZ.1 hu;exact(scm ((hc.1 r sd).2 u pJ)).2
     .cases h
   |succ pos ih =>
    intro vs us o h;cases vs with
    |nil=>simp[pD]at h
    |cons v vs =>
     simp only[pD]at h;cases hs:v.lO with
     |false=>simp[hs]at h
     |true =>
      simp only[hs,bW]at h;split at h
      next mN o' h'=>
       simp only[Option.some.injEq,Prod.mk.injEq]at h;obtain⟨rfl,rfl⟩:=h;obtain⟨i1,i2⟩:=ih vs mN _ h';refine⟨λu hu=>?_,i2⟩;rcases iA.1 hu with rfl|hu
       .exact lO hs
       .exact i1 u hu
      .cases h
  have hV:∀r v o,lP id pos r=some (v,o)->v.cI d=false/\∀cs,o=some cs->∀u∈cs,u.cQ d=false:=λr v o h=>by
   unfold lP at h;split at h
   .split at h
    next us o' hl=>
     simp only[Option.some.injEq,Prod.mk.injEq]at h;obtain⟨rfl,rfl⟩:=h;obtain⟨i1,i2⟩:=hL _ _ _ _ hl;refine⟨?_,i2⟩;simp only[V.cI,py];exact λu hu=>by simp[i1 u hu]
    .cases h
   .split at h
    next u o' hl=>
     simp only[Option.some.injEq,Prod.mk.injEq]at h;obtain⟨rfl,rfl⟩:=h;obtain⟨i1,i2⟩:=hL _ _ _ _ hl;exact⟨yP (i1 u (by simp)),i2⟩
    .cases h
  simp only[VO.run]at hrun;split at hrun
  .split at hrun
   .split at hrun
    next v cs nA=>
     cases hrun;obtain⟨i1,i2⟩:=hV _ _ _ nA;exact ez (xN hn (λe=>hd e.symm) (i2 cs rfl)) i1
    next v nA=>
     cases hrun;exact ez hn (hV _ _ _ nA).1
    .cases hrun
   .cases hrun
  .cases hrun
 |vv f args id =>
  simp only[VO.run]at hrun;split at hrun
  .split at hrun
   .split at hrun
    next i n len cs _=>
     cases hc:(i==id&&Nat.blt 0 cs.length&&Nat.blt 0 len&&cs.all V.sc) with
     |false=>simp[hc]at hrun
     |true=>simp only[hc,bW]at hrun;cases hrun;exact ez (y6 hn) rfl
    .cases hrun;exact ez (y6 hn) rfl
    .cases hrun
   .cases hrun
  .cases hrun
 |xy id zero x =>
  simp only[VO.clean,bZ,iW]at dS;simp only[VO.names,qf]at hd;simp only[VO.run]at hrun;split at hrun
  next k n hx=>
   cases hc:(decide (0<=n)&&decide (n<=(lim:Int))) with
   |false=>simp[hc]at hrun
   |true =>
    simp only[hc,bW]at hrun;cases hrun;refine ez (xN hn (λe=>hd e.symm) λv hv=>?_) (by simp[V.cI,V.dW,V.cQ];exact λe=>hd e.symm)
    obtain⟨l,hl,hv⟩:=RZ.1 hv;rw[(Zx.1 hl).2]at hv;exact Kc (dS.2 v hv) d
  .cases hrun
 |yJ sz x lo hi =>
  simp only[VO.clean,bZ]at dS;simp only[VO.run]at hrun;split at hrun
  next tk m es _=>
   split at hrun
   next k1 l k2 h _ _=>
    cases hc:(decide (0<=l)&&decide (l<=h)&&decide (h<=(es.length:Int))&&(m==sz)) with
    |false=>simp[hc]at hrun
    |true=>simp only[hc,bW]at hrun;cases hrun;exact ez hn rfl
   .cases hrun
  .split at hrun
   next k1 l k2 h _ _=>
    cases hc:(decide (l=0)&&decide (h=0)) with
    |false=>simp[hc]at hrun
    |true=>simp only[hc,bW]at hrun;cases hrun;exact ez hn rfl
   .cases hrun
  next id s n hx=>
   have pK:=qo hn dS.1.1 hx;split at hrun
   next k1 l k2 h _ _=>
    cases hc:(decide (0<=l)&&decide (l<=h)&&decide (h<=(n:Int))&&(s==sz)) with
    |false=>simp[hc]at hrun
    |true =>
     simp only[hc,bW]at hrun;cases h1:decide (l=0) with
     |true=>simp only[h1,bW]at hrun;cases hrun;exact ez hn pK
     |false =>
      simp only[h1,gL]at hrun;cases h2:decide (l<(n:Int)) with
      |false=>simp only[h2,gL]at hrun;cases hrun;exact ez hn rfl
      |true=>simp only[h2,bW]at hrun;cases hrun;exact ez hn pK
   .cases hrun
  next id s n _=>
   split at hrun
   next k1 l k2 h _ _=>
    cases hc:(decide (0<=l)&&decide (l<=h)&&decide (h<=(n:Int))&&(s==sz)) with
    |false=>simp[hc]at hrun
    |true =>
     simp only[hc,bW]at hrun;cases h1:decide (l=0) with
     |true=>simp only[h1,bW]at hrun;cases hrun;exact ez hn rfl
     |false =>
      simp only[h1,gL]at hrun;cases h2:decide (l<(n:Int)) with
      |false=>simp[h2]at hrun
      |true=>simp only[h2,bW]at hrun;cases hrun;exact ez hn rfl
   .cases hrun
  .cases hrun
 |yH x =>
  simp only[VO.run]at hrun;split at hrun
  .split at hrun
   next G _=>
    cases hrun;exact ez (S:={ S with aC:=G }) (y6 hn) rfl
   .cases hrun
  .cases hrun
 |xA mx x y z =>
  simp only[VO.run]at hrun;split at hrun
  .cases hrun;exact ez hn rfl
  .cases hrun
 |mm mx x y =>
  simp only[VO.run]at hrun;split at hrun
  .cases hrun;exact ez hn rfl
  .cases hrun
 |yK f cap =>
  simp only[VO.run]at hrun;split at hrun
  .split at hrun
   .cases hrun;exact ez hn rfl
   .cases hrun
  .cases hrun
end
