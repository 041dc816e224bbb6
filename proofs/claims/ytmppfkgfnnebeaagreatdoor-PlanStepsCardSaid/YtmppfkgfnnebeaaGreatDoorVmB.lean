/- The value machine, 11: names do not come from nowhere. -/
import Derived.Test.YtmppfkgfnnebeaaGreatDoorVmA
namespace Go.Vm
set_option linter.all false
def V.fu:V→Bool
 |.int .. | .bool .. | .str .. | .fn _ []=>true
 |_=>false
def V.tB:V→Bool
 |.int .. | .bool .. | .str .. | .cb | .gq | .gu | .gw | .fn .. | .slice none _ []=>true
 |.eP row _=>row.all V.fu
 |_=>false
def V.bare:V→Bool
 |.agg cs=>cs.all V.tB
 |v=>v.tB
def bw.clean:bw→Bool
 |.t _=>true
 |.c v=>v.bare
def VO.clean:VO→Bool
 |.mv x | .box _ x | .u7 _ x | .load _ _ x | .uf x | .un _ x | .conv _ x | .ti _ x | .arr _ _ x | .field _ _ x | .len x | .vj x | .wK x | .grow _ _ x | .ext x _=>x.clean
 |.wM _ _ _ x | .vh x=>x.clean
 |.tg _ x | .wL _ x=>x.clean
 |.y8 _=>true
 |.se f args _=>f.clean&&args.all fun p=>p.2.2.clean
 |.vi _ x y=>x.clean&&y.clean
 |.pick a b c=>a.clean&&b.clean&&c.clean
 |.obj _ cs=>cs.all V.tB
 |.u9 _ _ | .vb=>true
 |.wJ _ _ zero _ x k=>zero.bare&&x.clean&&k.clean
 |.vd _ _ _ x k y=>x.clean&&k.clean&&y.clean
 |.build zero ps=>zero.all V.tB&&ps.all fun p=>p.2.2.clean
 |.lit _ _ _ _ ps=>ps.all fun p=>p.2.clean
 |.vl _ x y z=>x.clean&&y.clean&&z.clean
 |.store _ _ x y | .bin _ x y | .beq _ x y | .iE _ _ x y | .ov _ _ x y | .idx _ _ _ x y | .app _ _ _ _ _ x y | .tj _ _ _ _ x y | .vg _ _ x y | .mm _ x y=>x.clean&&y.clean
 |.own f args _ _ _=>f.clean&&args.all fun p=>p.2.2.clean
 |.call _ f args _ | .sf f args _ | .sd f args=>f.clean&&args.all fun p=>p.2.clean
 |.ug _ zero x=>x.clean&&zero.all V.tB
 |.wN _ x lo hi=>x.clean&&(lo.all bw.clean)&&(hi.all bw.clean)
 |.wO _ cap=>cap.all bw.clean
theorem HR{v:V}(h:v.tB=true)(d:Nat):v.cA d=false:=by
 cases v<;>simp_all[V.tB,V.cA];rename_i t _ _;cases t<;>simp_all[V.tB,V.cA]
theorem PD{v:V}(h:v.bare=true)(d:Nat):v.cq d=false:=by
 cases v with
 |agg cs =>
  simp only[V.bare,g8]at h;simp only[V.cq,V.dF,nF];exact fun x hx=>by simp[HR (h x hx) d]
 |_=>apply uj;apply HR;exact h
theorem W4{v:V}{d:Nat}(hc:v.cL=true)(h:v.cq d=false):v.cA d=false:=by
 cases v<;>simp_all[V.cL,V.cq,V.dF,V.cA]
section
variable {P:Program} {E:Entry} {g g':Gh} {S S':St} {a:Act} {w w':World} {d:Nat}
theorem oD(hn:S.eN d){x:bw}(hc:x.clean=true){v:V}(hv:S.ev x=some v):v.cq d=false:=by
 cases x with
 |t s=>exact hn.env s v hv
 |c u=>simp only[St.ev,Option.some.injEq]at hv;subst hv;exact PD hc d
theorem ea(hn:S.eN d){dst:Option Nat}{v:V}(hv:v.cq d=false):(S.put dst v).eN d:=by
 cases dst with
 |none=>exact hn
 |some k =>
  refine⟨fun s u hs=>?_,hn.aW,hn.obj,hn.tok⟩;rw[Ep,dz]at hs;split at hs
  ·cases hs;exact hv
  ·exact hn.env s u hs
theorem vB(hn:S.eN d){id:Nat}(cf:id≠d){cs:List V}(hc:∀v∈cs,v.cA d=false):({ S with aW:=(id,cs)::S.aW }:St).eN d:=by
 refine⟨hn.env,fun i dS hi=>?_,?_,hn.tok⟩
 ·rw[dz]at hi
  split at hi
  ·cases hi;exact hc
  ·exact hn.aW i dS hi
 ·rw[dz,ay cf];exact hn.obj
theorem ET(hn:S.eN d){f k:Nat}(cf:f≠d):({ S with bj:=(f,k)::S.bj }:St).eN d :=
 ⟨hn.env,hn.aW,hn.obj,by rw[dz,ay cf];exact hn.tok⟩
theorem xa(hn:S.eN d){G:List aS}:({ S with aA:=G }:St).eN d:=⟨hn.env,hn.aW,hn.obj,hn.tok⟩
theorem PE{v:V}(h:v.cq d=false)(hc:∀u∈v.cells,u.cL=true):∀u∈v.cells,u.cA d=false:=fun u hu=>W4 (hc u hu) (Wm h u hu)
theorem PF{sz:Option Nat}{cs:List V}{off:Nat}{v:V}(h:loadAt sz cs off=some v)(hc:∀u∈cs,u.cA d=false):v.cq d=false:=by
 unfold loadAt at h;split at h
 ·exact uj (hc v (fW h))
 ·rename_i n
  cases hb:Nat.ble (off+n) cs.length with
  |false=>simp[hb]at h
  |true =>
   simp only[hb,bG,Option.some.injEq]at h;subst h;simp only[V.cq,V.dF,nF];exact fun u hu=>by simp[hc u (Kp (Cp hu))]
theorem aja{v:V}(h:v.plain=true):v.cA d=false:=by
 cases v<;>simp_all[V.plain,V.cA];rename_i t _ _;cases t<;>simp_all[V.plain,V.cA]
theorem ajb(hR:R E g S a w)(hn:S.eN d){p:V}{x:Value}(hr:bb (S.cx g w) p x){cs:List V}{off:Nat}(hc:S.nJ p=some (cs,off)):∀u∈cs,u.cA d=false:=by
 unfold St.nJ at hc;split at hc
 ·split at hc
  ·rename_i i f q dS ho
   cases hc;exact hn.aW i _ ho
  ·cases hc
 ·split at hc
  ·rename_i i f q dS ho
   cases hc;rcases hR.aA.obj i _ ho with h0 | ⟨_,hm,c,et,hh,hl,hj⟩
   ·cases h0;intro u hu;simp at hu
   intro u hu;obtain⟨j,vC⟩:=nH.1 hu;have bE:j<c.size:=iC (eQ vC) hl;obtain⟨h1,h2,_⟩:=hj j u c[j] vC (by simp[bE])
   exact W4 h1 (h2 d)
  ·cases hc
 ·cases hc
  cases hr with
  |plain h _=>cases h
  |eP row _ b o ys hb h1 h2 hp hm =>
   intro u hu;obtain⟨j,vC⟩:=nH.1 hu;exact aja (hp j u vC)
 ·cases hc
theorem W5{cs vs:List V}{off:Nat}{u:V}(h:u∈iF cs off vs):u∈cs∨u∈vs:=by
 obtain⟨j,hj⟩:=nH.1 h;rw[Bh]at hj;split at hj
 ·exact .inr (fW hj)
 ·exact .inl (fW hj)
theorem W6(hn:S.eN d):∀{ps:List (Nat×Nat×bw)} {cs dS:List V},(∀p∈ps,p.2.2.clean=true)→sn S ps cs=some dS→(∀u∈cs,u.cA d=false)→∀u∈dS,u.cA d=false
 |[],cs,dS,_,h,hc=>by simp only[sn,Option.some.injEq]at h;subst h;exact hc
 |(off,n,x)::ps,cs,dS,dC,h,hc=>by
  simp only[sn]at h;split at h
  ·rename_i v hv
   cases hb:(v.cells.length==n&&Nat.ble (off+n) cs.length&&v.cells.all V.cL) with
   |false=>simp[hb]at h
   |true =>
    simp only[hb,bG]at h;simp only[bS,g8]at hb;refine W6 hn (fun p hp=>dC p (Cn _ hp)) h (fun u hu=>?_);rcases W5 hu with h1|h1
    ·exact hc u h1
    ·exact PE (oD hn (dC (off,n,x) xW) hv) hb.2 u h1
  ·cases h
theorem W7(hR:R E g S a w)(hn:S.eN d){x:bw}(dC:x.clean=true){p:V}(hv:S.ev x=some p){cs:List V}{off:Nat}(hc:S.nJ p=some (cs,off)):∀u∈cs,u.cA d=false:=by
 cases x with
 |t s =>
  obtain⟨y,_,hr⟩:=hR.env s p hv;exact ajb hR hn hr hc
 |c v =>
  simp only[St.ev,Option.some.injEq]at hv;subst hv;cases v with
  |eP row o =>
   simp only[bw.clean,V.bare,V.tB,g8]at dC;simp only[St.nJ,Option.some.injEq,Prod.mk.injEq]at hc;obtain⟨rfl,rfl⟩:=hc;intro u hu;have:=dC u hu;cases u<;>simp_all[V.fu,V.cA]
  |_=>simp_all[bw.clean,V.bare,V.tB,St.nJ]
theorem PG{r:V}(h:∀d,(Bt r).cq d=false){reg:List (Nat×Nat)}{d:Nat}(hd:d∉CT reg):(recv reg r).1.cq d=false∧look d (recv reg r).2=none:=by
 rw[KU];have xd:∀p f,look p reg=some f→(f==d)=false:=fun p f hp=>by
  simp only[A0,ne_eq];intro e;subst e;exact hd (kP.2 ⟨_,vx hp,rfl⟩)
 have uy:∀u∈(cX reg 0 r.gf).1,(∃n es f,u=.slice (some f) n es∧(f==d)=false)∨∃v∈r.gf,u=strip v:=fun u hu=>by
  obtain⟨k,hk⟩:=nH.1 hu;obtain⟨v,hv,hc⟩:=HJ reg _ 0 k u hk;rcases hc with⟨t,n,es,f,rfl,h2,rfl⟩ | rfl
  ·exact .inl ⟨n,es,f,rfl,xd _ f h2⟩
  ·exact .inr ⟨v,fW hv,rfl⟩
 refine⟨?_,?_⟩
 ·have hs:=h d
  unfold Bt at hs;have single:r.gf=[r]→(∀us,uu r us=us.headD .undef)→(uu r (cX reg 0 r.gf).1).cq d=false:=fun e1 e3=>by
   rw[e3]at hs ⊢;rw[e1]at hs uy ⊢;have pe:(cX reg 0 [r]).1.length=1:=Ph reg [r] 0
   match sE:(cX reg 0 [r]).1,pe with
   |[u],_ =>
    rw[sE]at uy;rcases uy u xW with⟨n,es,f,rfl,hf⟩ | ⟨v,hv,rfl⟩
    ·exact hf
    ·simp only[ou]at hv
     subst hv;exact hs
  cases r with
  |tuple vs =>
   simp only[uu,V.cq,V.gf,nF,kP]at hs ⊢;intro u hu;rcases uy u hu with⟨n,es,f,rfl,hf⟩ | ⟨v,hv,rfl⟩
   ·simp[V.dF,V.cA,hf]
   ·exact hs (strip v) ⟨v,hv,rfl⟩
  |agg vs =>
   simp only[uu,V.cq,V.dF,V.gf,nF,kP]at hs ⊢;intro u hu;rcases uy u hu with⟨n,es,f,rfl,hf⟩ | ⟨v,hv,rfl⟩
   ·simp[V.cA,hf]
   ·exact hs (strip v) ⟨v,hv,rfl⟩
  |_=>exact single rfl (fun _=>rfl)
 ·cases hl:look d (cX reg 0 r.gf).2 with
  |none=>rfl
  |some k =>
   obtain⟨p,t,n,es,_,h2,_⟩:=EK reg _ 0 d k (vx hl);exact absurd (kP.2 ⟨_,vx h2,rfl⟩) hd
theorem W8{v:V}(h:v.cq d=false):v.kQ.cq d=false:=by
 have h0:∀u:V,u.cA d=false→u.jr.cA d=false:=fun u hu=>by
  cases u<;>first|exact hu|rfl
 cases v with
 |agg cs =>
  simp only[V.kQ,V.cq,V.dF,nF,kP,forall_exists_index,and_imp,forall_apply_eq_imp_iff₂]at h ⊢;intro u hu;have:=h0 u (by simpa using h u hu)
  simp[this]
 |eF=>rfl
 |_=>exact h
theorem ajc{vo:VO}{C:bD}{dst:Option Nat}(dC:vo.clean=true)
  (hC:∀f args G r G',C f args G=some (r,G')→∀d,(Bt r).cq d=false)
  (hR:R E g S a w) (hn:S.eN d) (hd:d∉vo.names) (hrun:VO.run C dst S vo=some S'):S'.eN d:=by
 cases vo with
 |mv x =>
  simp only[VO.run]at hrun;split at hrun
  ·rename_i v hv;cases hrun;exact ea hn (oD hn dC hv)
  ·cases hrun
 |pick c p q =>
  simp only[VO.clean,bS]at dC;simp only[VO.run]at hrun;split at hrun
  ·rename_i t ht
   split at hrun
   ·rename_i v hv
    cases hrun;cases t
    ·exact ea hn (oD hn dC.2 hv)
    ·exact ea hn (oD hn dC.1.2 hv)
   ·cases hrun
  ·cases hrun
 |obj id cells =>
  simp only[VO.clean,g8]at dC;simp only[VO.names,ou]at hd;simp only[VO.run]at hrun;cases hrun;exact ea (vB hn (fun e=>hd e.symm) fun v hv=>HR (dC v hv) d) (by simp[V.cq,V.dF,V.cA];exact fun e=>hd e.symm)
 |box id x =>
  simp only[VO.names,ou]at hd;simp only[VO.run]at hrun;split at hrun
  ·rename_i v hv
   cases hc:v.cells.all V.cL with
   |false=>simp[hc]at hrun
   |true =>
    simp only[hc,bG]at hrun;simp only[g8]at hc;cases hrun;exact ea (vB hn (fun e=>hd e.symm) (PE (oD hn dC hv) hc)) (by simp[V.cq,V.dF,V.cA];exact fun e=>hd e.symm)
  ·cases hrun
 |u7 sh x =>
  simp only[VO.run]at hrun;split at hrun
  ·split at hrun
   ·cases hrun;exact ea (xa hn) rfl
   ·cases hrun
  ·cases hrun
 |u9 sh zero =>
  simp only[VO.run]at hrun;split at hrun
  ·cases hrun;exact ea (xa hn) rfl
  ·cases hrun
 |vb =>
  simp only[VO.run]at hrun;cases hrun;exact ea (xa hn) rfl
 |wJ ag ks zero ok x k =>
  simp only[VO.clean,bS]at dC;simp only[VO.run]at hrun;split at hrun
  ·rename_i i kv hx sB
   split at hrun
   ·rename_i es b mw hb
    have W9:∀v b,(∀d,v.cq d=false)→v.dF d=false→(bif ok then V.tuple [v,.bool b] else v).cq d=false:=fun v b hv hc=>by
     cases ok
     ·exact hv d
     ·simp only[bG,V.cq,GN,GP,GH,Ol]
      exact⟨hc,rfl⟩
    split at hrun
    ·rename_i j v hf
     cases hrun;have K0:∀(es:List (V×V)) i,nf ag ks kv es i=some (some (j,v))→∃q,(q,v)∈es:=by
      intro es;induction es with
      |nil=>intro i h;simp[nf]at h
      |cons p es ih =>
       obtain⟨q,u⟩:=p;intro i h;simp only[nf]at h;split at h
       ·simp at h;obtain⟨_,rfl⟩:=h;exact⟨q,by simp⟩
       ·obtain⟨q',h'⟩:=ih _ h;exact⟨q',by simp[h']⟩
       ·cases h
     obtain⟨q,hq⟩:=K0 es 0 hf;obtain⟨n,zP⟩:=nH.1 hq;obtain⟨_,_,c,ck,hh,hl,_,hj⟩:=K1 hR mw;have bE:=eQ zP;obtain⟨_,hv,_,_⟩:=hj n (q,v) c[n] zP (by simp)
     exact ea hn (W9 _ _ (fun d=>wT (hv d)) (hv d))
    ·cases hrun
     refine ea hn (W9 _ _ (fun d=>PD dC.1.1 d) ?_);have:=PD dC.1.1 d;have EU:=dC.1.1;cases zero<;>first|(simpa [V.cq] using this)|simp[V.bare,V.tB]at EU
    ·cases hrun
   ·cases hrun
  ·cases hrun
 |vd ag ks sh x k y =>
  simp only[VO.run]at hrun;split at hrun
  ·split at hrun
   ·split at hrun
    ·cases hrun;exact xa hn
    ·cases hrun;exact xa hn
    ·cases hrun
   ·cases hrun
  ·cases hrun
 |build zero ps =>
  simp only[VO.clean,bS,g8]at dC;simp only[VO.run]at hrun;split at hrun
  ·rename_i cs hf
   cases hrun;refine ea hn ?_;have:=W6 hn dC.2 hf (fun u hu=>HR (dC.1 u hu) d);simp only[V.cq,V.dF,nF];exact fun u hu=>by simp[this u hu]
  ·cases hrun
 |lit tok sh zero len ps =>
  simp only[VO.run]at hrun;split at hrun
  ·split at hrun
   ·rename_i f
    simp only[VO.names,ou]at hd;cases hrun;exact ea (ET hn (fun e=>hd e.symm)) (by simp[V.cq,V.dF,V.cA];exact fun e=>hd e.symm)
   ·cases hrun;exact ea hn rfl
  ·cases hrun
 |load root sz x =>
  simp only[VO.run]at hrun;split at hrun
  ·rename_i u hu
   cases fC:root.fits u with
   |false=>simp[fC]at hrun
   |true =>
    simp only[fC,bG]at hrun;split at hrun
    ·rename_i cs off hc
     split at hrun
     ·rename_i v hv
      cases hrun;refine ea hn ?_;have:=PF hv (W7 hR hn dC hu hc);cases root
      ·exact this
      ·exact W8 this
      ·exact this
     ·cases hrun
    ·cases hrun
  ·cases hrun
 |store root sh x y =>
  simp only[VO.clean,bS]at dC;simp only[VO.run]at hrun;cases fC:S.fits root x with
  |false=>simp[fC]at hrun
  |true =>
  simp only[fC,bG]at hrun;split at hrun
  ·rename_i id off v hx hy
   split at hrun
   ·rename_i cs ho
    cases hc:(v.cells.length==sh.length&&Nat.ble (off+sh.length) cs.length&&v.cells.all V.cL&&Nat.blt 0 sh.length) with
    |false=>simp[hc]at hrun
    |true =>
     simp only[hc,bG]at hrun;simp only[bS,g8]at hc;cases hrun;have nQ:id≠d:=fun e=>by have:=oD hn dC.1 hx;simp[V.cq,V.dF,V.cA,e]at this
     refine vB hn nQ fun u hu=>?_;rcases W5 hu with h|h
     ·exact hn.aW id cs ho u h
     ·exact PE (oD hn dC.2 hy) hc.1.2 u h
   ·cases hrun
  ·rename_i i off v hx hy
   split at hrun
   ·rename_i cs ho
    split at hrun
    ·rename_i vs hg
     cases hc:(Nat.ble (off+vs.length) cs.length&&Nat.blt 0 vs.length) with
     |false=>simp[hc]at hrun
     |true=>simp only[hc,bG]at hrun;cases hrun;exact xa hn
    ·cases hrun
   ·cases hrun
  ·cases hrun
 |y8 n =>
  simp only[VO.run]at hrun;cases hrun;exact ea hn rfl
 |se f args ids =>
  simp only[VO.run]at hrun;split at hrun
  ·split at hrun
   ·rename_i r G' hc
    cases hs:r.qk with
    |false=>rw[hs]at hrun;cases hrun
    |true =>
     rw[hs]at hrun;cases hrun;have h0:∀v:V,v.sc=true→v.cA d=false∧v.dF d=false∧v.cq d=false:=fun v hv=>by
      cases v<;>simp[V.sc]at hv<;>exact⟨rfl,rfl,rfl⟩
     refine ea hn ?_;cases r with
     |tuple vs =>
      simp only[V.qk,g8]at hs;simp only[V.cq,nF];exact fun v hv=>by simp[(h0 v (hs v hv)).2.1]
     |agg vs =>
      simp only[V.qk,g8]at hs;simp only[V.cq,V.dF,nF];exact fun v hv=>by simp[(h0 v (hs v hv)).1]
     |_=>refine(h0 _ ?_).2.2;exact hs
   ·cases hrun
  ·cases hrun
 |wL neg x =>
  simp only[VO.run]at hrun;split at hrun<;>first|(cases hrun;done)|(cases hrun;exact ea hn rfl)
 |tg cj x =>
  simp only[VO.names,ou]at hd;simp only[VO.run]at hrun;split at hrun
  ·rename_i u hu
   split at hrun
   ·rename_i v ts G ht
    cases hrun;unfold St.take at ht;split at ht
    ·rename_i id off
     split at ht
     ·rename_i cs ho
      split at ht
      ·cases ht
       exact ea (xa (ET hn (fun e=>hd e.symm))) (by simp[V.cq,V.dF,V.cA];exact fun e=>hd e.symm)
      ·rename_i z _ hz
       cases ht;have hm:=W7 (off:=off) hR hn dC hu (cs:=cs) (by simp[St.nJ,ho])
       exact ea (S:={ S with bj:=[]++S.bj,aA:=S.aA }) ⟨hn.env,hn.aW,hn.obj,hn.tok⟩ (W8 (uj (hm z (fW hz))))
      ·cases ht
     ·cases ht
    ·cases ht
   ·cases hrun
  ·cases hrun
 |vi cj x y =>
  simp only[VO.run]at hrun;split at hrun
  ·split at hrun
   ·rename_i ts G hg
    cases hrun;unfold St.xZ at hg;split at hg
    ·rename_i id off f n es
     split at hg
     ·rename_i k _ hk
      have cf:cj≠d:=fun e=>by
       rw[e,hn.tok]at hk;generalize (_==d)=q at hk;cases q<;>cases hk
      rcases Og (k==_&&Nat.blt _ _) with hc|hc
      ·rw[hc]at hg
       cases hg;exact xa (ET hn cf)
      ·rw[hc]at hg;cases hg
     ·cases hg
    ·cases hg
   ·cases hrun
  ·cases hrun
 |uf x =>
  simp only[VO.run]at hrun;split at hrun<;>first|(cases hrun;done)|skip
  all_goals
   rename_i hv;cases hrun;exact ea hn (oD hn dC hv)
 |bin op x y =>
  simp only[VO.run]at hrun;split at hrun
  ·split at hrun
   ·rename_i v hv
    cases hrun;refine ea hn ?_;unfold V.bin at hv;split at hv
    ·rename_i k m k' n _ _
     cases hk:decide (k=k') with
     |false=>simp[hk]at hv
     |true =>
      simp only[hk,bG]at hv;unfold Ha at hv;split at hv<;>(try split at hv)<;>cases hv<;>rfl
    ·cases hv
   ·cases hrun
  ·cases hrun
 |beq neg x y =>
  simp only[VO.run]at hrun;split at hrun
  ·cases hrun;exact ea hn rfl
  ·cases hrun
 |iE neg ks x y =>
  simp only[VO.run]at hrun;split at hrun
  ·split at hrun
   ·rename_i v hv
    cases hrun;refine ea hn ?_;unfold V.iE at hv;split at hv
    ·rename_i cs ds _ _
     cases hc:(cs.length==ks.length&&ds.length==ks.length) with
     |false=>simp[hc]at hv
     |true =>
      simp only[hc,bG]at hv;split at hv<;>cases hv<;>rfl
    ·cases hv
   ·cases hrun
  ·cases hrun
 |un op x =>
  simp only[VO.run]at hrun;split at hrun
  ·split at hrun
   ·rename_i v hv
    cases hrun;refine ea hn ?_;unfold V.un at hv;split at hv<;>(try split at hv)<;>cases hv<;>rfl
   ·cases hrun
  ·cases hrun
 |conv k x =>
  simp only[VO.run]at hrun;split at hrun
  ·cases hrun;exact ea hn rfl
  ·cases hrun
 |arr n sz x =>
  simp only[VO.run]at hrun;split at hrun
  ·rename_i hv
   have:=oD hn dC hv;cases hrun;exact ea hn this
  ·cases hrun
 |ti off x =>
  simp only[VO.run]at hrun;split at hrun<;>first|(cases hrun;done)|skip
  all_goals
   rename_i hv;have:=oD hn dC hv;cases hrun;exact ea hn this
 |ov arr sz x i =>
  simp only[VO.clean,bS]at dC;cases arr with
  |some n =>
   simp only[VO.run]at hrun;split at hrun
   ·rename_i u k m hu hm
    cases hc:(decide (0≤m)&&decide (m<(n:Int))) with
    |false=>simp[hc]at hrun
    |true =>
     simp only[hc,bG]at hrun;have:=oD hn dC.1 hu;split at hrun<;>first|(cases hrun;done)|skip
     all_goals
      cases hrun;exact ea hn this
   ·cases hrun
  |none =>
   simp only[VO.run]at hrun;split at hrun
   ·rename_i tk m es k z hu hm
    cases hc:(decide (0≤z)&&(m==sz)) with
    |false=>simp[hc]at hrun
    |true =>
     simp only[hc,bG]at hrun;split at hrun
     ·cases hrun;exact ea hn rfl
     ·cases hrun
   ·rename_i id off len k z hu hm
    cases hc:(decide (0≤z)&&decide (z<(len:Int))&&(off==sz)) with
    |false=>simp[hc]at hrun
    |true =>
     simp only[hc,bG]at hrun;have:=oD hn dC.1 hu;cases hrun;exact ea hn this
   ·rename_i id off len k z hu hm
    cases hc:(decide (0≤z)&&decide (z<(len:Int))&&(off==sz)) with
    |false=>simp[hc]at hrun
    |true =>
     simp only[hc,bG]at hrun;cases hrun;exact ea hn rfl
   ·cases hrun
 |idx n sz ag x i =>
  simp only[VO.clean,bS]at dC;simp only[VO.run]at hrun;split at hrun
  ·rename_i cs k m hu hm
   cases hc:(decide (0≤m)&&decide (m<(n:Int))) with
   |false=>simp[hc]at hrun
   |true =>
    simp only[hc,bG]at hrun;split at hrun
    ·rename_i v hv
     cases hrun;have:=oD hn dC.1 hu;simp only[V.cq,V.dF,nF]at this;exact ea hn (PF hv fun u hu=>by simpa using this u hu)
    ·cases hrun
  ·cases hrun
 |field off sz x =>
  simp only[VO.run]at hrun;split at hrun
  ·rename_i cs hu
   split at hrun
   ·rename_i v hv
    cases hrun;have:=oD hn dC hu;simp only[V.cq,V.dF,nF]at this;exact ea hn (PF hv fun u hu=>by simpa using this u hu)
   ·cases hrun
  ·cases hrun
 |len x =>
  simp only[VO.run]at hrun;split at hrun<;>first|(cases hrun;done)|(cases hrun;exact ea hn rfl)
 |wK x =>
  simp only[VO.run]at hrun;split at hrun<;>first|(cases hrun;done)|(cases hrun;exact ea hn rfl)
 |grow f id x =>
  simp only[VO.names,ou]at hd;simp only[VO.run]at hrun;split at hrun
  ·rename_i n hx
   cases hc:(decide (0≤n)&&decide (n≤(lim:Int))) with
   |false=>simp[hc]at hrun
   |true =>
    simp only[hc,bG]at hrun;cases hrun;exact ea (vB hn (fun e=>hd e.symm) fun v hv=>by simp at hv) (by simp[V.cq,V.dF,V.cA];exact fun e=>hd e.symm)
  ·cases hrun
 |vg K2 src x y =>
  simp only[VO.clean,bS]at dC;simp only[VO.run]at hrun;split at hrun
  ·rename_i id s n b hx hy
   split at hrun
   ·rename_i cs us ho oX
    cases hc:(id==K2&&(s==1)&&Nat.ble n cs.length&&us.all V.sc) with
    |false=>simp[hc]at hrun
    |true =>
     simp only[hc,bG]at hrun;simp only[bS,g8,dO]at hc;cases hrun;obtain⟨⟨⟨rfl,_⟩,_⟩,hc⟩:=hc;have nQ:id≠d:=fun e=>by have:=oD hn dC.1 hx;simp[V.cq,V.dF,V.cA,e]at this
     refine ea (vB hn nQ fun u hu=>?_) rfl;rcases ot.1 hu with h|h
     ·have:=hc u (Cp h)
      cases u<;>simp_all[V.sc,V.cA]
     ·exact hn.aW id cs ho u (Kp h)
   ·cases hrun
  ·cases hrun
 |vj x =>
  simp only[VO.run]at hrun;split at hrun<;>first|(cases hrun;done)|(cases hrun;exact ea hn rfl)
 |app cj src oy sh mx x y =>
  simp only[VO.clean,bS]at dC;simp only[VO.names,ou]at hd;simp only[VO.run]at hrun;split at hrun
  ·split at hrun
   ·rename_i ys hy
    cases hc:Nat.ble ys.length mx with
    |false=>simp[hc]at hrun
    |true =>
     simp only[hc,bG]at hrun;cases hrun;exact ea (ET hn (fun e=>hd e.symm)) (by simp[V.cq,V.dF,V.cA];exact fun e=>hd e.symm)
   ·cases hrun
  ·split at hrun
   ·rename_i ys hy
    cases hc:Nat.ble ys.length mx with
    |false=>simp[hc]at hrun
    |true =>
     simp only[hc,bG]at hrun;cases hrun;exact ea (ET hn (fun e=>hd e.symm)) (by simp[V.cq,V.dF,V.cA];exact fun e=>hd e.symm)
   ·cases hrun
  ·rename_i f n es v hx hy
   have hf:(f==d)=false:=by have:=oD hn dC.1 hx;simpa [V.cq,V.dF,V.cA] using this
   split at hrun
   ·rename_i ys hy
    split at hrun
    ·rename_i k hk
     cases hc:(k==es.length&&(n==sh.length)&&Nat.ble (es.length+ys.length) mx) with
     |false=>simp[hc]at hrun
     |true =>
      simp only[hc,bG]at hrun;cases hrun;exact ea (ET hn (by simpa using hf)) (by simp only[V.cq,V.dF,V.cA];exact hf)
    ·cases hrun
   ·cases hrun
  ·cases hrun
 |tj nw src oy sh x y =>
  simp only[VO.clean,bS]at dC;simp only[VO.names,ou]at hd;have jk:∀{v:V} {ys:List (List V)},S.ev y=some v→S.iR oy sh v=some ys→∀u∈ys.flatten,u.cA d=false:=fun {v ys} hv gd u hu=>by
   have KR:∀{x:Value},bb (S.cx g w) v x→u.cA d=false:=fun {x} hr=>by
    rcases Hq hR hr gd with⟨rfl,_⟩ | ⟨b,off,cap,l,_,_,_,hl⟩
    ·simp at hu
    ·obtain⟨j,hj⟩:=nH.1 hu
     exact PH ((zQ hl).2 j u hj).1
   cases y with
   |t s =>
    obtain⟨x,_,hr⟩:=hR.env s v hv;exact KR hr
   |c c =>
    simp only[St.ev,Option.some.injEq]at hv;subst hv;have gd:S.rows sh c=some ys:=by
     unfold St.iR at gd;cases oy with
     |none=>exact gd
     |some j=>cases c<;>first|exact gd|(have h:=dC.2;simp[bw.clean,V.bare,V.tB]at h)
    cases c with
    |cb=>simp[St.rows]at gd;subst gd;simp at hu
    |slice t n es =>
     have:es=[]:=by
      have h:=dC.2;simp only[bw.clean,V.bare]at h;cases t with
      |none=>cases es with
       |nil=>rfl
       |cons _ _=>simp[V.tB]at h
      |some _=>simp[V.tB]at h
     subst this;simp only[St.rows]at gd;cases zP:n==sh.length with
     |false=>simp[zP]at gd
     |true=>simp only[zP,bG,Option.some.injEq]at gd;subst gd;simp at hu
    |dY n=>simp[St.rows]at gd;subst gd;simp at hu
    |fG n=>simp[St.rows]at gd;subst gd;simp at hu
    |_=>simp[St.rows]at gd
  simp only[VO.run]at hrun;split at hrun
  ·rename_i v hx hy
   split at hrun
   ·rename_i ys gd
    cases he:ys.isEmpty with
    |true=>simp only[he,bG]at hrun;cases hrun;exact ea hn rfl
    |false =>
     simp only[he,eD]at hrun;cases hc:Nat.ble ys.length lim with
     |false=>simp[hc]at hrun
     |true =>
      simp only[hc,bG]at hrun;cases hrun;exact ea (vB hn (fun e=>hd e.symm) (jk hy gd)) (by simp[V.cq,V.dF,V.cA];exact fun e=>hd e.symm)
   ·cases hrun
  ·rename_i n v hx hy
   split at hrun
   ·rename_i ys gd
    cases he:ys.isEmpty with
    |true=>simp only[he,bG]at hrun;cases hrun;exact ea hn rfl
    |false =>
     simp only[he,eD]at hrun;cases hc:Nat.ble ys.length lim with
     |false=>simp[hc]at hrun
     |true =>
      simp only[hc,bG]at hrun;cases hrun;exact ea (vB hn (fun e=>hd e.symm) (jk hy gd)) (by simp[V.cq,V.dF,V.cA];exact fun e=>hd e.symm)
   ·cases hrun
  ·rename_i id s ln v hx hy
   split at hrun
   ·rename_i ys cs gd eO
    have uo:({ S with aW:=S.aW.filter fun p => !(p.1==src) }:St).eN d:=by
     refine⟨hn.env,fun k dS hk=>?_,?_,hn.tok⟩
     ·rw[uz]at hk
      split at hk
      ·cases hk
      ·exact hn.aW k dS hk
     ·rw[uz]
      split
      ·rfl
      ·exact hn.obj
    cases hc:((id==src)&&(s==sh.length)&&(cs.length==ln*s)&&Nat.ble (ln+ys.length) lim) with
    |false =>
     simp only[hc,eD]at hrun;cases qv:(oy.isNone&&(id==src)&&(s==sh.length)&&Nat.ble (ln*s) cs.length&&Nat.ble (ln+ys.length) lim) with
     |false=>simp[qv]at hrun
     |true =>
      simp only[qv,bG]at hrun;cases hrun;refine ea (vB uo (fun e=>hd e.symm) (fun u hu=>?_)) (by simp[V.cq,V.dF,V.cA];exact fun e=>hd e.symm)
      rcases ot.1 hu with h|h
      ·exact hn.aW src cs eO u (Cp h)
      ·exact jk hy gd u h
    |true =>
     simp only[hc,bG]at hrun;cases hrun;refine ea (vB uo (fun e=>hd e.symm) (fun u hu=>?_)) (by simp[V.cq,V.dF,V.cA];exact fun e=>hd e.symm)
     rcases ot.1 hu with h|h
     ·exact hn.aW src cs eO u h
     ·exact jk hy gd u h
   ·cases hrun
  ·cases hrun
 |ext x i =>
  simp only[VO.run]at hrun;split at hrun
  ·rename_i vs hv
   split at hrun
   ·rename_i v hk
    cases hrun;exact ea hn (Wa (oD hn dC hv) (fW hk))
   ·cases hrun
  ·cases hrun
 |call alone f args reg =>
  cases alone
  case true =>
   simp only[VO.run]at hrun;split at hrun
   ·split at hrun
    ·rename_i r G' hc
     cases EO:r.lone with
     |false=>simp[EO]at hrun
     |true =>
      simp only[EO,bG]at hrun;cases hrun;obtain⟨h1,h2⟩:=PG (hC _ _ _ _ _ hc) hd;have tr:look d ((recv reg r).2++S.bj)=none:=by rw[zM,h2];exact hn.tok
      exact ea (S:={ env:=S.env,aW:=S.aW,bj:=(recv reg r).2++S.bj,aA:=S.aA }) ⟨hn.env,hn.aW,hn.obj,tr⟩ h1
    ·cases hrun
   ·cases hrun
  simp only[VO.run]at hrun;split at hrun
  ·split at hrun
   ·rename_i r G' hc
    cases hrun;obtain⟨h1,h2⟩:=PG (hC _ _ _ _ _ hc) hd;have tr:look d ((recv reg r).2++S.bj)=none:=by rw[zM,h2];exact hn.tok
    exact ea (S:={ env:=S.env,aW:=S.aW,bj:=(recv reg r).2++S.bj,aA:=G' }) ⟨hn.env,hn.aW,hn.obj,tr⟩ h1
   ·cases hrun
  ·cases hrun
 |wM k f i x =>
  simp only[VO.run]at hrun;unfold St.mut at hrun;split at hrun
  ·rename_i id s n hx
   split at hrun
   ·rename_i cs eO
    cases hc:(id==i&&(s==1)&&Nat.ble n cs.length&&Nat.ble n lim&&Nat.blt 0 n) with
    |false=>simp[hc]at hrun
    |true =>
     simp only[hc,bG]at hrun;simp only[bS,dO]at hc;obtain⟨⟨⟨⟨rfl,rfl⟩,_⟩,_⟩,_⟩:=hc;split at hrun
     ·rename_i zs o0
      cases hrun;have nQ:=oD hn dC hx;have cf:id≠d:=fun e=>by simp[V.cq,V.dF,V.cA,e]at nQ
      refine ea (vB hn cf fun u hu=>?_) ?_
      ·rcases ot.1 hu with h|h
       ·obtain⟨z,_,rfl⟩:=kP.1 h;rfl
       ·exact hn.aW id cs eO u (Kp h)
      ·unfold CC
       split
       ·rfl
       ·simpa [V.cq,V.dF,V.cA] using cf
     ·cases hrun
   ·cases hrun
  ·cases hrun
 |sd f args =>
  have hrun:=WZ hrun;simp only[VO.run]at hrun;split at hrun
  ·split at hrun
   ·rename_i r G' hc
    cases hrun;obtain⟨h1,h2⟩:=PG (reg:=[]) (hC _ _ _ _ _ hc) (d:=d) (by simp[CT])
    have tr:look d ((recv [] r).2++S.bj)=none:=by rw[zM,h2];exact hn.tok
    exact ea (S:={ env:=S.env,aW:=S.aW,bj:=(recv [] r).2++S.bj,aA:=G' }) ⟨hn.env,hn.aW,hn.obj,tr⟩ h1
   ·cases hrun
  ·cases hrun
 |own f args ids id pos =>
  simp only[VO.names,ou]at hd;have hL:∀(pos:Nat) (vs us:List V) (o:Option (List V)),nK id pos vs=some (us,o)→(∀u∈us,u.dF d=false)∧∀cs,o=some cs→∀u∈cs,u.cA d=false:=by
   have scm:∀{u:V},u.sc=true→u.dF d=false∧u.cA d=false:=fun {u} h=>by cases u<;>simp[V.sc]at h<;>exact⟨rfl,rfl⟩
   have ky:∀{u:V},u.ky=true→(strip u).dF d=false:=fun {u} h=>by
    cases u with
    |slice t n es =>
     cases t with
     |none=>simp[V.ky,V.sc]at h
     |some t=>rfl
    |int|bool|str=>rfl
    |_=>simp[V.ky,V.sc]at h
   intro pos;induction pos with
   |zero =>
    intro vs us o h;cases vs with
    |nil=>simp[nK]at h
    |cons v vs =>
     simp only[nK]at h;split at h
     ·rename_i t n es
      cases hc:(es.all (fun r=>r.length==n&&r.all V.sc)&&vs.all V.ky) with
      |false=>simp[hc]at h
      |true =>
       simp only[hc,bG]at h;simp only[bS,g8]at hc;cases he:es.isEmpty with
       |true =>
        simp only[he,bG,Option.some.injEq,Prod.mk.injEq]at h;obtain⟨rfl,rfl⟩:=h;refine⟨fun u hu=>?_,fun cs e=>by cases e⟩
        rcases jB.1 hu with rfl|hu
        ·rfl
        ·obtain⟨u0,sD,rfl⟩:=kP.1 hu
         exact ky (hc.2 u0 sD)
       |false =>
        simp only[he,eD,Option.some.injEq,Prod.mk.injEq]at h;obtain⟨rfl,rfl⟩:=h;refine⟨fun u hu=>?_,fun cs e u hu=>?_⟩
        ·rcases jB.1 hu with rfl|hu
         ·simp[V.dF,V.cA];exact fun e=>hd e.symm
         ·obtain⟨u0,sD,rfl⟩:=kP.1 hu
          exact ky (hc.2 u0 sD)
        ·cases e
         obtain⟨r,qW,oZ⟩:=OF.1 hu;exact(scm ((hc.1 r qW).2 u oZ)).2
     ·cases h
   |succ pos ih =>
    intro vs us o h;cases vs with
    |nil=>simp[nK]at h
    |cons v vs =>
     simp only[nK]at h;cases hs:v.ky with
     |false=>simp[hs]at h
     |true =>
      simp only[hs,bG]at h;split at h
      ·rename_i nP o' h'
       simp only[Option.some.injEq,Prod.mk.injEq]at h;obtain⟨rfl,rfl⟩:=h;obtain⟨i1,i2⟩:=ih vs nP _ h';refine⟨fun u hu=>?_,i2⟩;rcases jB.1 hu with rfl|hu
       ·exact ky hs
       ·exact i1 u hu
      ·cases h
  have hV:∀r v o,kz id pos r=some (v,o)→v.cq d=false∧∀cs,o=some cs→∀u∈cs,u.cA d=false:=fun r v o h=>by
   unfold kz at h;split at h
   ·split at h
    ·rename_i us o' hl
     simp only[Option.some.injEq,Prod.mk.injEq]at h;obtain⟨rfl,rfl⟩:=h;obtain⟨i1,i2⟩:=hL _ _ _ _ hl;refine⟨?_,i2⟩;simp only[V.cq,nF];exact fun u hu=>by simp[i1 u hu]
    ·cases h
   ·split at h
    ·rename_i u o' hl
     simp only[Option.some.injEq,Prod.mk.injEq]at h;obtain⟨rfl,rfl⟩:=h;obtain⟨i1,i2⟩:=hL _ _ _ _ hl;exact⟨wT (i1 u (by simp)),i2⟩
    ·cases h
  simp only[VO.run]at hrun;split at hrun
  ·split at hrun
   ·split at hrun
    ·rename_i v cs lS
     cases hrun;obtain⟨i1,i2⟩:=hV _ _ _ lS;exact ea (vB hn (fun e=>hd e.symm) (i2 cs rfl)) i1
    ·rename_i v lS
     cases hrun;exact ea hn (hV _ _ _ lS).1
    ·cases hrun
   ·cases hrun
  ·cases hrun
 |sf f args id =>
  simp only[VO.run]at hrun;split at hrun
  ·split at hrun
   ·split at hrun
    ·rename_i i n len cs _
     cases hc:(i==id&&Nat.blt 0 cs.length&&Nat.blt 0 len&&cs.all V.sc) with
     |false=>simp[hc]at hrun
     |true=>simp only[hc,bG]at hrun;cases hrun;exact ea (xa hn) rfl
    ·cases hrun;exact ea (xa hn) rfl
    ·cases hrun
   ·cases hrun
  ·cases hrun
 |ug id zero x =>
  simp only[VO.clean,bS,g8]at dC;simp only[VO.names,ou]at hd;simp only[VO.run]at hrun;split at hrun
  ·rename_i k n hx
   cases hc:(decide (0≤n)&&decide (n≤(lim:Int))) with
   |false=>simp[hc]at hrun
   |true =>
    simp only[hc,bG]at hrun;cases hrun;refine ea (vB hn (fun e=>hd e.symm) fun v hv=>?_) (by simp[V.cq,V.dF,V.cA];exact fun e=>hd e.symm)
    obtain⟨l,hl,hv⟩:=OF.1 hv;rw[(VZ.1 hl).2]at hv;exact HR (dC.2 v hv) d
  ·cases hrun
 |wN sz x lo hi =>
  simp only[VO.clean,bS]at dC;simp only[VO.run]at hrun;split at hrun
  ·rename_i tk m es _
   split at hrun
   ·rename_i k1 l k2 h _ _
    cases hc:(decide (0≤l)&&decide (l≤h)&&decide (h≤(es.length:Int))&&(m==sz)) with
    |false=>simp[hc]at hrun
    |true=>simp only[hc,bG]at hrun;cases hrun;exact ea hn rfl
   ·cases hrun
  ·split at hrun
   ·rename_i k1 l k2 h _ _
    cases hc:(decide (l=0)&&decide (h=0)) with
    |false=>simp[hc]at hrun
    |true=>simp only[hc,bG]at hrun;cases hrun;exact ea hn rfl
   ·cases hrun
  ·rename_i id s n hx
   have nQ:=oD hn dC.1.1 hx;split at hrun
   ·rename_i k1 l k2 h _ _
    cases hc:(decide (0≤l)&&decide (l≤h)&&decide (h≤(n:Int))&&(s==sz)) with
    |false=>simp[hc]at hrun
    |true =>
     simp only[hc,bG]at hrun;cases h1:decide (l=0) with
     |true=>simp only[h1,bG]at hrun;cases hrun;exact ea hn nQ
     |false =>
      simp only[h1,eD]at hrun;cases h2:decide (l<(n:Int)) with
      |false=>simp only[h2,eD]at hrun;cases hrun;exact ea hn rfl
      |true=>simp only[h2,bG]at hrun;cases hrun;exact ea hn nQ
   ·cases hrun
  ·rename_i id s n _
   split at hrun
   ·rename_i k1 l k2 h _ _
    cases hc:(decide (0≤l)&&decide (l≤h)&&decide (h≤(n:Int))&&(s==sz)) with
    |false=>simp[hc]at hrun
    |true =>
     simp only[hc,bG]at hrun;cases h1:decide (l=0) with
     |true=>simp only[h1,bG]at hrun;cases hrun;exact ea hn rfl
     |false =>
      simp only[h1,eD]at hrun;cases h2:decide (l<(n:Int)) with
      |false=>simp[h2]at hrun
      |true=>simp only[h2,bG]at hrun;cases hrun;exact ea hn rfl
   ·cases hrun
  ·cases hrun
 |vh x =>
  simp only[VO.run]at hrun;split at hrun
  ·split at hrun
   ·rename_i G _
    cases hrun;exact ea (S:={ S with aA:=G }) (xa hn) rfl
   ·cases hrun
  ·cases hrun
 |vl mx x y z =>
  simp only[VO.run]at hrun;split at hrun
  ·cases hrun;exact ea hn rfl
  ·cases hrun
 |mm mx x y =>
  simp only[VO.run]at hrun;split at hrun
  ·cases hrun;exact ea hn rfl
  ·cases hrun
 |wO f cap =>
  simp only[VO.run]at hrun;split at hrun
  ·split at hrun
   ·cases hrun;exact ea hn rfl
   ·cases hrun
  ·cases hrun
end
end Go.Vm
