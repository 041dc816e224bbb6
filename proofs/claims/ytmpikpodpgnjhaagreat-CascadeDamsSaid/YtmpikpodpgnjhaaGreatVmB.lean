/- The value machine, 11: names do not come from nowhere. -/
import Derived.Test.YtmpikpodpgnjhaaGreatVmA
namespace Go.Vm
set_option linter.all false
def V.sb:V→Bool
 |.int .. | .bool .. | .str .. | .aM | .iq | .hZ | .iu | .fn .. | .slice none _ []=>true
 |_=>false
def V.bare:V→Bool
 |.agg cs=>cs.all V.sb
 |v=>v.sb
def bD.clean:bD→Bool
 |.t _=>true
 |.c v=>v.bare
def VO.clean:VO→Bool
 |.mv x | .box _ x | .ou _ x | .load _ _ x | .qm x | .un _ x | .conv _ x | .qW _ x | .field _ _ x | .len x | .ue x | .ud x | .grow _ _ x | .ext x _=>x.clean
 |.rR _ _ _ x=>x.clean
 |.pc _ x | .qV _ x=>x.clean
 |.sX _=>true
 |.pd f args _=>f.clean&&args.all fun p=>p.2.2.clean
 |.pD _ x y=>x.clean&&y.clean
 |.pick a b c=>a.clean&&b.clean&&c.clean
 |.obj _ cs=>cs.all V.sb
 |.pa _ _ | .rP=>true
 |.sW _ _ zero _ x k=>zero.bare&&x.clean&&k.clean
 |.rQ _ _ _ x k y=>x.clean&&k.clean&&y.clean
 |.build zero ps=>zero.all V.sb&&ps.all fun p=>p.2.2.clean
 |.lit _ _ _ _ ps=>ps.all fun p=>p.2.clean
 |.sY _ x y z=>x.clean&&y.clean&&z.clean
 |.store _ _ x y | .bin _ x y | .beq _ x y | .gQ _ _ x y | .eo _ _ x y | .idx _ _ _ x y | .app _ _ _ _ x y | .m5 _ _ _ x y | .ql _ _ x y | .mm _ x y=>x.clean&&y.clean
 |.call _ f args _ | .own f args _ _ | .pE f args _ | .nP f args=>f.clean&&args.all fun p=>p.2.clean
 |.me _ zero x=>x.clean&&zero.all V.sb
 |.pe _ x lo hi=>x.clean&&(lo.all bD.clean)&&(hi.all bD.clean)
 |.pF _ cap=>cap.all bD.clean
theorem CA{v:V}(h:v.sb=true)(d:Nat):v.cQ d=false:=by
 cases v<;>simp_all[V.sb,V.cQ];rename_i t _ _;cases t<;>simp_all[V.sb,V.cQ]
theorem I8{v:V}(h:v.bare=true)(d:Nat):v.cB d=false:=by
 cases v with
 |agg cs =>
  simp only[V.bare,List.all_eq_true]at h;simp only[V.cB,V.dX,List.any_eq_false];exact fun x hx=>by simp[CA (h x hx) d]
 |_=>apply rf;apply CA;exact h
theorem OT{v:V}{d:Nat}(hc:v.cU=true)(h:v.cB d=false):v.cQ d=false:=by
 cases v<;>simp_all[V.cU,V.cB,V.dX,V.cQ]
section
variable {P:Program} {E:Entry} {g g':Gh} {S S':St} {a:Act} {w w':World} {d:Nat}
theorem nh(hn:S.eT d){x:bD}(hc:x.clean=true){v:V}(hv:S.ev x=some v):v.cB d=false:=by
 cases x with
 |t s=>exact hn.env s v hv
 |c u=>simp only[St.ev,Option.some.injEq]at hv;subst hv;exact I8 hc d
theorem eC(hn:S.eT d){dst:Option Nat}{v:V}(hv:v.cB d=false):(S.put dst v).eT d:=by
 cases dst with
 |none=>exact hn
 |some k =>
  refine⟨fun s u hs=>?_,hn.bb,hn.obj,hn.tok⟩;rw[zZ,dP]at hs;split at hs
  ·cases hs;exact hv
  ·exact hn.env s u hs
theorem tm(hn:S.eT d){id:Nat}(cF:id≠d){cs:List V}(hc:∀v∈cs,v.cQ d=false):({ S with bb:=(id,cs)::S.bb }:St).eT d:=by
 refine⟨hn.env,fun i eh hi=>?_,?_,hn.tok⟩
 ·rw[dP]at hi
  split at hi
  ·cases hi;exact hc
  ·exact hn.bb i eh hi
 ·rw[dP,if_neg cF];exact hn.obj
theorem Ax(hn:S.eT d){f k:Nat}(cF:f≠d):({ S with bl:=(f,k)::S.bl }:St).eT d :=
 ⟨hn.env,hn.bb,hn.obj,by rw[dP,if_neg cF];exact hn.tok⟩
theorem uD(hn:S.eT d){G:List aV}:({ S with az:=G }:St).eT d:=⟨hn.env,hn.bb,hn.obj,hn.tok⟩
theorem I9{v:V}(h:v.cB d=false)(hc:∀u∈v.cells,u.cU=true):∀u∈v.cells,u.cQ d=false:=fun u hu=>OT (hc u hu) (N7 h u hu)
theorem Ja{sz:Option Nat}{cs:List V}{off:Nat}{v:V}(h:loadAt sz cs off=some v)(hc:∀u∈cs,u.cQ d=false):v.cB d=false:=by
 unfold loadAt at h;split at h
 ·exact rf (hc v (List.mem_of_getElem? h))
 ·rename_i n
  cases hb:Nat.ble (off+n) cs.length with
  |false=>simp[hb]at h
  |true =>
   simp only[hb,cond_true,Option.some.injEq]at h;subst h;simp only[V.cB,V.dX,List.any_eq_false];exact fun u hu=>by simp[hc u (List.mem_of_mem_drop (List.mem_of_mem_take hu))]
theorem XM{v:V}(h:v.plain=true):v.cQ d=false:=by
 cases v<;>simp_all[V.plain,V.cQ];rename_i t _ _;cases t<;>simp_all[V.plain,V.cQ]
theorem XN(hR:R E g S a w)(hn:S.eT d){p:V}{x:Value}(hr:bh (S.cx g w) p x){cs:List V}{off:Nat}(hc:S.m6 p=some (cs,off)):∀u∈cs,u.cQ d=false:=by
 unfold St.m6 at hc;split at hc
 ·split at hc
  ·rename_i i f q eh ho
   cases hc;exact hn.bb i _ ho
  ·cases hc
 ·split at hc
  ·rename_i i f q eh ho
   cases hc;rcases hR.az.obj i _ ho with h0 | ⟨_,hm,c,et,hh,hl,hj⟩
   ·cases h0;intro u hu;simp at hu
   intro u hu;obtain⟨j,sd⟩:=List.mem_iff_getElem?.1 hu;have bF:j<c.size:=Nat.lt_of_lt_of_le (eY sd) hl;obtain⟨h1,h2,_⟩:=hj j u c[j] sd (by simp[bF])
   exact OT h1 (h2 d)
  ·cases hc
 ·cases hc
  cases hr with
  |plain h _=>cases h
  |gz row _ b o ys hb h1 h2 hp hm =>
   intro u hu;obtain⟨j,sd⟩:=List.mem_iff_getElem?.1 hu;exact XM (hp j u sd)
 ·cases hc
theorem OU{cs vs:List V}{off:Nat}{u:V}(h:u∈j8 cs off vs):u∈cs∨u∈vs:=by
 obtain⟨j,hj⟩:=List.mem_iff_getElem?.1 h;rw[Ad]at hj;split at hj
 ·exact .inr (List.mem_of_getElem? hj)
 ·exact .inl (List.mem_of_getElem? hj)
theorem OV(hn:S.eT d):∀{ps:List (Nat×Nat×bD)} {cs eh:List V},(∀p∈ps,p.2.2.clean=true)→pG S ps cs=some eh→(∀u∈cs,u.cQ d=false)→∀u∈eh,u.cQ d=false
 |[],cs,eh,_,h,hc=>by simp only[pG,Option.some.injEq]at h;subst h;exact hc
 |(off,n,x)::ps,cs,eh,dC,h,hc=>by
  simp only[pG]at h;split at h
  ·rename_i v hv
   cases hb:(v.cells.length==n&&Nat.ble (off+n) cs.length&&v.cells.all V.cU) with
   |false=>simp[hb]at h
   |true =>
    simp only[hb,cond_true]at h;simp only[Bool.and_eq_true,List.all_eq_true]at hb;refine OV hn (fun p hp=>dC p (List.mem_cons_of_mem _ hp)) h (fun u hu=>?_);rcases OU hu with h1|h1
    ·exact hc u h1
    ·exact I9 (nh hn (dC (off,n,x) List.mem_cons_self) hv) hb.2 u h1
  ·cases h
theorem OW(hR:R E g S a w)(hn:S.eT d){x:bD}(dC:x.clean=true){p:V}(hv:S.ev x=some p){cs:List V}{off:Nat}(hc:S.m6 p=some (cs,off)):∀u∈cs,u.cQ d=false:=by
 cases x with
 |t s =>
  obtain⟨y,_,hr⟩:=hR.env s p hv;exact XN hR hn hr hc
 |c v =>
  simp only[St.ev,Option.some.injEq]at hv;subst hv;cases v<;>simp_all[bD.clean,V.bare,V.sb,St.m6]
theorem Jb{r:V}(h:∀d,(wV r).cB d=false){reg:List (Nat×Nat)}{d:Nat}(hd:d∉yd reg):(recv reg r).1.cB d=false∧look d (recv reg r).2=none:=by
 rw[E0];have tn:∀p f,look p reg=some f→(f==d)=false:=fun p f hp=>by
  simp only[beq_eq_false_iff_ne,ne_eq];intro e;subst e;exact hd (List.mem_map.2 ⟨_,r9 hp,rfl⟩)
 have tp:∀u∈(dn reg 0 r.fN).1,(∃n es f,u=.slice (some f) n es∧(f==d)=false)∨∃v∈r.fN,u=strip v:=fun u hu=>by
  obtain⟨k,hk⟩:=List.mem_iff_getElem?.1 hu;obtain⟨v,hv,hc⟩:=Cp reg _ 0 k u hk;rcases hc with⟨t,n,es,f,rfl,h2,rfl⟩ | rfl
  ·exact .inl ⟨n,es,f,rfl,tn _ f h2⟩
  ·exact .inr ⟨v,List.mem_of_getElem? hv,rfl⟩
 refine⟨?_,?_⟩
 ·have hs:=h d
  unfold wV at hs;have single:r.fN=[r]→(∀us,rj r us=us.headD .undef)→(rj r (dn reg 0 r.fN).1).cB d=false:=fun e1 e3=>by
   rw[e3]at hs ⊢;rw[e1]at hs tp ⊢;have nd:(dn reg 0 [r]).1.length=1:=IS reg [r] 0
   match yk:(dn reg 0 [r]).1,nd with
   |[u],_ =>
    rw[yk]at tp;rcases tp u List.mem_cons_self with⟨n,es,f,rfl,hf⟩ | ⟨v,hv,rfl⟩
    ·exact hf
    ·simp only[List.mem_singleton]at hv
     subst hv;exact hs
  cases r with
  |tuple vs =>
   simp only[rj,V.cB,V.fN,List.any_eq_false,List.mem_map]at hs ⊢;intro u hu;rcases tp u hu with⟨n,es,f,rfl,hf⟩ | ⟨v,hv,rfl⟩
   ·simp[V.dX,V.cQ,hf]
   ·exact hs (strip v) ⟨v,hv,rfl⟩
  |agg vs =>
   simp only[rj,V.cB,V.dX,V.fN,List.any_eq_false,List.mem_map]at hs ⊢;intro u hu;rcases tp u hu with⟨n,es,f,rfl,hf⟩ | ⟨v,hv,rfl⟩
   ·simp[V.cQ,hf]
   ·exact hs (strip v) ⟨v,hv,rfl⟩
  |_=>exact single rfl (fun _=>rfl)
 ·cases hl:look d (dn reg 0 r.fN).2 with
  |none=>rfl
  |some k =>
   obtain⟨p,t,n,es,_,h2,_⟩:=Am reg _ 0 d k (r9 hl);exact absurd (List.mem_map.2 ⟨_,r9 h2,rfl⟩) hd
theorem OX{v:V}(h:v.cB d=false):v.mE.cB d=false:=by
 have h0:∀u:V,u.cQ d=false→u.lh.cQ d=false:=fun u hu=>by
  cases u<;>first|exact hu|rfl
 cases v with
 |agg cs =>
  simp only[V.mE,V.cB,V.dX,List.any_eq_false,List.mem_map,forall_exists_index,and_imp,forall_apply_eq_imp_iff₂]at h ⊢;intro u hu;have:=h0 u (by simpa using h u hu)
  simp[this]
 |fG=>rfl
 |_=>exact h
theorem XO{vo:VO}{C:bH}{dst:Option Nat}(dC:vo.clean=true)
  (hC:∀f args G r G',C f args G=some (r,G')→∀d,(wV r).cB d=false)
  (hR:R E g S a w) (hn:S.eT d) (hd:d∉vo.names) (aj:VO.run C dst S vo=some S'):S'.eT d:=by
 cases vo with
 |mv x =>
  simp only[VO.run]at aj;split at aj
  ·rename_i v hv;cases aj;exact eC hn (nh hn dC hv)
  ·cases aj
 |pick c p q =>
  simp only[VO.clean,Bool.and_eq_true]at dC;simp only[VO.run]at aj;split at aj
  ·rename_i t ht
   split at aj
   ·rename_i v hv
    cases aj;cases t
    ·exact eC hn (nh hn dC.2 hv)
    ·exact eC hn (nh hn dC.1.2 hv)
   ·cases aj
  ·cases aj
 |obj id cells =>
  simp only[VO.clean,List.all_eq_true]at dC;simp only[VO.names,List.mem_singleton]at hd;simp only[VO.run]at aj;cases aj;exact eC (tm hn (fun e=>hd e.symm) fun v hv=>CA (dC v hv) d) (by simp[V.cB,V.dX,V.cQ];exact fun e=>hd e.symm)
 |box id x =>
  simp only[VO.names,List.mem_singleton]at hd;simp only[VO.run]at aj;split at aj
  ·rename_i v hv
   cases hc:v.cells.all V.cU with
   |false=>simp[hc]at aj
   |true =>
    simp only[hc,cond_true]at aj;simp only[List.all_eq_true]at hc;cases aj;exact eC (tm hn (fun e=>hd e.symm) (I9 (nh hn dC hv) hc)) (by simp[V.cB,V.dX,V.cQ];exact fun e=>hd e.symm)
  ·cases aj
 |ou sh x =>
  simp only[VO.run]at aj;split at aj
  ·split at aj
   ·cases aj;exact eC (uD hn) rfl
   ·cases aj
  ·cases aj
 |pa sh zero =>
  simp only[VO.run]at aj;split at aj
  ·cases aj;exact eC (uD hn) rfl
  ·cases aj
 |rP =>
  simp only[VO.run]at aj;cases aj;exact eC (uD hn) rfl
 |sW ag ks zero ok x k =>
  simp only[VO.clean,Bool.and_eq_true]at dC;simp only[VO.run]at aj;split at aj
  ·rename_i i kv hx pN
   split at aj
   ·rename_i es b mJ hb
    have OY:∀v b,(∀d,v.cB d=false)→v.dX d=false→(bif ok then V.tuple [v,.bool b] else v).cB d=false:=fun v b hv hc=>by
     cases ok
     ·exact hv d
     ·simp only[cond_true,V.cB,List.any_cons,List.any_nil,Bool.or_false,Bool.or_eq_false_iff]
      exact⟨hc,rfl⟩
    split at aj
    ·rename_i j v hf
     cases aj;have E7:∀(es:List (V×V)) i,lP ag ks kv es i=some (some (j,v))→∃q,(q,v)∈es:=by
      intro es;induction es with
      |nil=>intro i h;simp[lP]at h
      |cons p es ih =>
       obtain⟨q,u⟩:=p;intro i h;simp only[lP]at h;split at h
       ·simp at h;obtain⟨_,rfl⟩:=h;exact⟨q,by simp⟩
       ·obtain⟨q',h'⟩:=ih _ h;exact⟨q',by simp[h']⟩
       ·cases h
     obtain⟨q,hq⟩:=E7 es 0 hf;obtain⟨n,vq⟩:=List.mem_iff_getElem?.1 hq;obtain⟨_,_,c,ck,hh,hl,_,hj⟩:=E8 hR mJ;have bF:=eY vq;obtain⟨_,hv,_,_⟩:=hj n (q,v) c[n] vq (by simp)
     exact eC hn (OY _ _ (fun d=>s9 (hv d)) (hv d))
    ·cases aj
     refine eC hn (OY _ _ (fun d=>I8 dC.1.1 d) ?_);have:=I8 dC.1.1 d;have Jc:=dC.1.1;cases zero<;>first|(simpa [V.cB] using this)|simp[V.bare,V.sb]at Jc
    ·cases aj
   ·cases aj
  ·cases aj
 |rQ ag ks sh x k y =>
  simp only[VO.run]at aj;split at aj
  ·split at aj
   ·split at aj
    ·cases aj;exact uD hn
    ·cases aj;exact uD hn
    ·cases aj
   ·cases aj
  ·cases aj
 |build zero ps =>
  simp only[VO.clean,Bool.and_eq_true,List.all_eq_true]at dC;simp only[VO.run]at aj;split at aj
  ·rename_i cs hf
   cases aj;refine eC hn ?_;have:=OV hn dC.2 hf (fun u hu=>CA (dC.1 u hu) d);simp only[V.cB,V.dX,List.any_eq_false];exact fun u hu=>by simp[this u hu]
  ·cases aj
 |lit tok sh zero len ps =>
  simp only[VO.run]at aj;split at aj
  ·split at aj
   ·rename_i f
    simp only[VO.names,List.mem_singleton]at hd;cases aj;exact eC (Ax hn (fun e=>hd e.symm)) (by simp[V.cB,V.dX,V.cQ];exact fun e=>hd e.symm)
   ·cases aj;exact eC hn rfl
  ·cases aj
 |load root sz x =>
  simp only[VO.run]at aj;split at aj
  ·rename_i u hu
   cases fR:root.fits u with
   |false=>simp[fR]at aj
   |true =>
    simp only[fR,cond_true]at aj;split at aj
    ·rename_i cs off hc
     split at aj
     ·rename_i v hv
      cases aj;refine eC hn ?_;have:=Ja hv (OW hR hn dC hu hc);cases root
      ·exact this
      ·exact OX this
      ·exact this
     ·cases aj
    ·cases aj
  ·cases aj
 |store root sh x y =>
  simp only[VO.clean,Bool.and_eq_true]at dC;simp only[VO.run]at aj;cases fR:S.fits root x with
  |false=>simp[fR]at aj
  |true =>
  simp only[fR,cond_true]at aj;split at aj
  ·rename_i id off v hx hy
   split at aj
   ·rename_i cs ho
    cases hc:(v.cells.length==sh.length&&Nat.ble (off+sh.length) cs.length&&v.cells.all V.cU&&Nat.blt 0 sh.length) with
    |false=>simp[hc]at aj
    |true =>
     simp only[hc,cond_true]at aj;simp only[Bool.and_eq_true,List.all_eq_true]at hc;cases aj;have mj:id≠d:=fun e=>by have:=nh hn dC.1 hx;simp[V.cB,V.dX,V.cQ,e]at this
     refine tm hn mj fun u hu=>?_;rcases OU hu with h|h
     ·exact hn.bb id cs ho u h
     ·exact I9 (nh hn dC.2 hy) hc.1.2 u h
   ·cases aj
  ·rename_i i off v hx hy
   split at aj
   ·rename_i cs ho
    split at aj
    ·rename_i vs hg
     cases hc:(Nat.ble (off+vs.length) cs.length&&Nat.blt 0 vs.length) with
     |false=>simp[hc]at aj
     |true=>simp only[hc,cond_true]at aj;cases aj;exact uD hn
    ·cases aj
   ·cases aj
  ·cases aj
 |sX n =>
  simp only[VO.run]at aj;cases aj;exact eC hn rfl
 |pd f args ids =>
  simp only[VO.run]at aj;split at aj
  ·split at aj
   ·rename_i r G' hc
    cases hs:r.oy with
    |false=>rw[hs]at aj;cases aj
    |true =>
     rw[hs]at aj;cases aj;have h0:∀v:V,v.sc=true→v.cQ d=false∧v.dX d=false∧v.cB d=false:=fun v hv=>by
      cases v<;>simp[V.sc]at hv<;>exact⟨rfl,rfl,rfl⟩
     refine eC hn ?_;cases r with
     |tuple vs =>
      simp only[V.oy,List.all_eq_true]at hs;simp only[V.cB,List.any_eq_false];exact fun v hv=>by simp[(h0 v (hs v hv)).2.1]
     |agg vs =>
      simp only[V.oy,List.all_eq_true]at hs;simp only[V.cB,V.dX,List.any_eq_false];exact fun v hv=>by simp[(h0 v (hs v hv)).1]
     |_=>refine(h0 _ ?_).2.2;exact hs
   ·cases aj
  ·cases aj
 |qV neg x =>
  simp only[VO.run]at aj;split at aj<;>first|(cases aj;done)|(cases aj;exact eC hn rfl)
 |pc cf x =>
  simp only[VO.names,List.mem_singleton]at hd;simp only[VO.run]at aj;split at aj
  ·rename_i u hu
   split at aj
   ·rename_i v ts G ht
    cases aj;unfold St.take at ht;split at ht
    ·rename_i id off
     split at ht
     ·rename_i cs ho
      split at ht
      ·cases ht
       exact eC (uD (Ax hn (fun e=>hd e.symm))) (by simp[V.cB,V.dX,V.cQ];exact fun e=>hd e.symm)
      ·rename_i z _ hz
       cases ht;have hm:=OW (off:=off) hR hn dC hu (cs:=cs) (by simp[St.m6,ho])
       exact eC (S:={ S with bl:=[]++S.bl,az:=S.az }) ⟨hn.env,hn.bb,hn.obj,hn.tok⟩ (OX (rf (hm z (List.mem_of_getElem? hz))))
      ·cases ht
     ·cases ht
    ·cases ht
   ·cases aj
  ·cases aj
 |pD cf x y =>
  simp only[VO.run]at aj;split at aj
  ·split at aj
   ·rename_i ts G hg
    cases aj;unfold St.ug at hg;split at hg
    ·rename_i id off f n es
     split at hg
     ·rename_i k _ hk
      have cF:cf≠d:=fun e=>by
       rw[e,hn.tok]at hk;generalize (_==d)=q at hk;cases q<;>cases hk
      rcases Bool.eq_false_or_eq_true (k==_&&Nat.blt _ _) with hc|hc
      ·rw[hc]at hg
       cases hg;exact uD (Ax hn cF)
      ·rw[hc]at hg;cases hg
     ·cases hg
    ·cases hg
   ·cases aj
  ·cases aj
 |qm x =>
  simp only[VO.run]at aj;split at aj<;>first|(cases aj;done)|skip
  all_goals
   rename_i hv;cases aj;exact eC hn (nh hn dC hv)
 |bin op x y =>
  simp only[VO.run]at aj;split at aj
  ·split at aj
   ·rename_i v hv
    cases aj;refine eC hn ?_;unfold V.bin at hv;split at hv
    ·rename_i k m k' n _ _
     cases hk:decide (k=k') with
     |false=>simp[hk]at hv
     |true =>
      simp only[hk,cond_true]at hv;unfold BU at hv;split at hv<;>(try split at hv)<;>cases hv<;>rfl
    ·cases hv
   ·cases aj
  ·cases aj
 |beq neg x y =>
  simp only[VO.run]at aj;split at aj
  ·cases aj;exact eC hn rfl
  ·cases aj
 |gQ neg ks x y =>
  simp only[VO.run]at aj;split at aj
  ·split at aj
   ·rename_i v hv
    cases aj;refine eC hn ?_;unfold V.gQ at hv;split at hv
    ·rename_i cs ds _ _
     cases hc:(cs.length==ks.length&&ds.length==ks.length) with
     |false=>simp[hc]at hv
     |true =>
      simp only[hc,cond_true]at hv;split at hv<;>cases hv<;>rfl
    ·cases hv
   ·cases aj
  ·cases aj
 |un op x =>
  simp only[VO.run]at aj;split at aj
  ·split at aj
   ·rename_i v hv
    cases aj;refine eC hn ?_;unfold V.un at hv;split at hv<;>(try split at hv)<;>cases hv<;>rfl
   ·cases aj
  ·cases aj
 |conv k x =>
  simp only[VO.run]at aj;split at aj
  ·cases aj;exact eC hn rfl
  ·cases aj
 |qW off x =>
  simp only[VO.run]at aj;split at aj<;>first|(cases aj;done)|skip
  all_goals
   rename_i hv;have:=nh hn dC hv;cases aj;exact eC hn this
 |eo arr sz x i =>
  simp only[VO.clean,Bool.and_eq_true]at dC;cases arr with
  |some n =>
   simp only[VO.run]at aj;split at aj
   ·rename_i u k m hu hm
    cases hc:(decide (0≤m)&&decide (m<(n:Int))) with
    |false=>simp[hc]at aj
    |true =>
     simp only[hc,cond_true]at aj;have:=nh hn dC.1 hu;split at aj<;>first|(cases aj;done)|skip
     all_goals
      cases aj;exact eC hn this
   ·cases aj
  |none =>
   simp only[VO.run]at aj;split at aj
   ·rename_i tk m es k z hu hm
    cases hc:(decide (0≤z)&&(m==sz)) with
    |false=>simp[hc]at aj
    |true =>
     simp only[hc,cond_true]at aj;split at aj
     ·cases aj;exact eC hn rfl
     ·cases aj
   ·rename_i id off len k z hu hm
    cases hc:(decide (0≤z)&&decide (z<(len:Int))&&(off==sz)) with
    |false=>simp[hc]at aj
    |true =>
     simp only[hc,cond_true]at aj;have:=nh hn dC.1 hu;cases aj;exact eC hn this
   ·rename_i id off len k z hu hm
    cases hc:(decide (0≤z)&&decide (z<(len:Int))&&(off==sz)) with
    |false=>simp[hc]at aj
    |true =>
     simp only[hc,cond_true]at aj;cases aj;exact eC hn rfl
   ·cases aj
 |idx n sz ag x i =>
  simp only[VO.clean,Bool.and_eq_true]at dC;simp only[VO.run]at aj;split at aj
  ·rename_i cs k m hu hm
   cases hc:(decide (0≤m)&&decide (m<(n:Int))) with
   |false=>simp[hc]at aj
   |true =>
    simp only[hc,cond_true]at aj;split at aj
    ·rename_i v hv
     cases aj;have:=nh hn dC.1 hu;simp only[V.cB,V.dX,List.any_eq_false]at this;exact eC hn (Ja hv fun u hu=>by simpa using this u hu)
    ·cases aj
  ·cases aj
 |field off sz x =>
  simp only[VO.run]at aj;split at aj
  ·rename_i cs hu
   split at aj
   ·rename_i v hv
    cases aj;have:=nh hn dC hu;simp only[V.cB,V.dX,List.any_eq_false]at this;exact eC hn (Ja hv fun u hu=>by simpa using this u hu)
   ·cases aj
  ·cases aj
 |len x =>
  simp only[VO.run]at aj;split at aj<;>first|(cases aj;done)|(cases aj;exact eC hn rfl)
 |ud x =>
  simp only[VO.run]at aj;split at aj<;>first|(cases aj;done)|(cases aj;exact eC hn rfl)
 |grow f id x =>
  simp only[VO.names,List.mem_singleton]at hd;simp only[VO.run]at aj;split at aj
  ·rename_i n hx
   cases hc:(decide (0≤n)&&decide (n≤(lim:Int))) with
   |false=>simp[hc]at aj
   |true =>
    simp only[hc,cond_true]at aj;cases aj;exact eC (tm hn (fun e=>hd e.symm) fun v hv=>by simp at hv) (by simp[V.cB,V.dX,V.cQ];exact fun e=>hd e.symm)
  ·cases aj
 |ql E9 src x y =>
  simp only[VO.clean,Bool.and_eq_true]at dC;simp only[VO.run]at aj;split at aj
  ·rename_i id s n b hx hy
   split at aj
   ·rename_i cs us ho oD
    cases hc:(id==E9&&(s==1)&&Nat.ble n cs.length&&us.all V.sc) with
    |false=>simp[hc]at aj
    |true =>
     simp only[hc,cond_true]at aj;simp only[Bool.and_eq_true,List.all_eq_true,beq_iff_eq]at hc;cases aj;obtain⟨⟨⟨rfl,_⟩,_⟩,hc⟩:=hc;have mj:id≠d:=fun e=>by have:=nh hn dC.1 hx;simp[V.cB,V.dX,V.cQ,e]at this
     refine eC (tm hn mj fun u hu=>?_) rfl;rcases List.mem_append.1 hu with h|h
     ·have:=hc u (List.mem_of_mem_take h)
      cases u<;>simp_all[V.sc,V.cQ]
     ·exact hn.bb id cs ho u (List.mem_of_mem_drop h)
   ·cases aj
  ·cases aj
 |ue x =>
  simp only[VO.run]at aj;split at aj<;>first|(cases aj;done)|(cases aj;exact eC hn rfl)
 |app cf src sh mx x y =>
  simp only[VO.clean,Bool.and_eq_true]at dC;simp only[VO.names,List.mem_singleton]at hd;simp only[VO.run]at aj;split at aj
  ·split at aj
   ·rename_i ys hy
    cases hc:Nat.ble ys.length mx with
    |false=>simp[hc]at aj
    |true =>
     simp only[hc,cond_true]at aj;cases aj;exact eC (Ax hn (fun e=>hd e.symm)) (by simp[V.cB,V.dX,V.cQ];exact fun e=>hd e.symm)
   ·cases aj
  ·split at aj
   ·rename_i ys hy
    cases hc:Nat.ble ys.length mx with
    |false=>simp[hc]at aj
    |true =>
     simp only[hc,cond_true]at aj;cases aj;exact eC (Ax hn (fun e=>hd e.symm)) (by simp[V.cB,V.dX,V.cQ];exact fun e=>hd e.symm)
   ·cases aj
  ·rename_i f n es v hx hy
   have hf:(f==d)=false:=by have:=nh hn dC.1 hx;simpa [V.cB,V.dX,V.cQ] using this
   split at aj
   ·rename_i ys hy
    split at aj
    ·rename_i k hk
     cases hc:(k==es.length&&(n==sh.length)&&Nat.ble (es.length+ys.length) mx) with
     |false=>simp[hc]at aj
     |true =>
      simp only[hc,cond_true]at aj;cases aj;exact eC (Ax hn (by simpa using hf)) (by simp only[V.cB,V.dX,V.cQ];exact hf)
    ·cases aj
   ·cases aj
  ·cases aj
 |m5 nw src sh x y =>
  simp only[VO.clean,Bool.and_eq_true]at dC;simp only[VO.names,List.mem_singleton]at hd;have kG:∀{v:V} {ys:List (List V)},S.ev y=some v→S.rows sh v=some ys→∀u∈ys.flatten,u.cQ d=false:=fun {v ys} hv gL u hu=>by
   have EP:∀{x:Value},bh (S.cx g w) v x→u.cQ d=false:=fun {x} hr=>by
    rcases B5 hR hr gL with⟨rfl,_⟩ | ⟨b,off,cap,l,_,_,_,hl⟩
    ·simp at hu
    ·obtain⟨j,hj⟩:=List.mem_iff_getElem?.1 hu
     exact Jd ((wX hl).2 j u hj).1
   cases y with
   |t s =>
    obtain⟨x,_,hr⟩:=hR.env s v hv;exact EP hr
   |c c =>
    simp only[St.ev,Option.some.injEq]at hv;subst hv;cases c with
    |aM=>simp[St.rows]at gL;subst gL;simp at hu
    |slice t n es =>
     have:es=[]:=by
      have h:=dC.2;simp only[bD.clean,V.bare]at h;cases t with
      |none=>cases es with
       |nil=>rfl
       |cons _ _=>simp[V.sb]at h
      |some _=>simp[V.sb]at h
     subst this;simp only[St.rows]at gL;cases vq:n==sh.length with
     |false=>simp[vq]at gL
     |true=>simp only[vq,cond_true,Option.some.injEq]at gL;subst gL;simp at hu
    |eX n=>simp[St.rows]at gL;subst gL;simp at hu
    |iJ n=>simp[St.rows]at gL;subst gL;simp at hu
    |_=>simp[St.rows]at gL
  simp only[VO.run]at aj;split at aj
  ·rename_i v hx hy
   split at aj
   ·rename_i ys gL
    cases he:ys.isEmpty with
    |true=>simp only[he,cond_true]at aj;cases aj;exact eC hn rfl
    |false =>
     simp only[he,cond_false]at aj;cases hc:Nat.ble ys.length lim with
     |false=>simp[hc]at aj
     |true =>
      simp only[hc,cond_true]at aj;cases aj;exact eC (tm hn (fun e=>hd e.symm) (kG hy gL)) (by simp[V.cB,V.dX,V.cQ];exact fun e=>hd e.symm)
   ·cases aj
  ·rename_i n v hx hy
   split at aj
   ·rename_i ys gL
    cases he:ys.isEmpty with
    |true=>simp only[he,cond_true]at aj;cases aj;exact eC hn rfl
    |false =>
     simp only[he,cond_false]at aj;cases hc:Nat.ble ys.length lim with
     |false=>simp[hc]at aj
     |true =>
      simp only[hc,cond_true]at aj;cases aj;exact eC (tm hn (fun e=>hd e.symm) (kG hy gL)) (by simp[V.cB,V.dX,V.cQ];exact fun e=>hd e.symm)
   ·cases aj
  ·rename_i id s ln v hx hy
   split at aj
   ·rename_i ys cs gL fA
    cases hc:((id==src)&&(s==sh.length)&&(cs.length==ln*s)&&Nat.ble (ln+ys.length) lim) with
    |false=>simp[hc]at aj
    |true =>
     simp only[hc,cond_true]at aj;cases aj;have u9:({ S with bb:=S.bb.filter fun p => !(p.1==src) }:St).eT d:=by
      refine⟨hn.env,fun k eh hk=>?_,?_,hn.tok⟩
      ·rw[rn]at hk
       split at hk
       ·cases hk
       ·exact hn.bb k eh hk
      ·rw[rn]
       split
       ·rfl
       ·exact hn.obj
     refine eC (tm u9 (fun e=>hd e.symm) (fun u hu=>?_)) (by simp[V.cB,V.dX,V.cQ];exact fun e=>hd e.symm)
     rcases List.mem_append.1 hu with h|h
     ·exact hn.bb src cs fA u h
     ·exact kG hy gL u h
   ·cases aj
  ·cases aj
 |ext x i =>
  simp only[VO.run]at aj;split at aj
  ·rename_i vs hv
   split at aj
   ·rename_i v hk
    cases aj;exact eC hn (NU (nh hn dC hv) (List.mem_of_getElem? hk))
   ·cases aj
  ·cases aj
 |call alone f args reg =>
  cases alone
  case true =>
   simp only[VO.run]at aj;split at aj
   ·split at aj
    ·rename_i r G' hc
     cases Ap:r.lone with
     |false=>simp[Ap]at aj
     |true =>
      simp only[Ap,cond_true]at aj;cases aj;obtain⟨h1,h2⟩:=Jb (hC _ _ _ _ _ hc) hd;have qq:look d ((recv reg r).2++S.bl)=none:=by rw[vk,h2];exact hn.tok
      exact eC (S:={ env:=S.env,bb:=S.bb,bl:=(recv reg r).2++S.bl,az:=S.az }) ⟨hn.env,hn.bb,hn.obj,qq⟩ h1
    ·cases aj
   ·cases aj
  simp only[VO.run]at aj;split at aj
  ·split at aj
   ·rename_i r G' hc
    cases aj;obtain⟨h1,h2⟩:=Jb (hC _ _ _ _ _ hc) hd;have qq:look d ((recv reg r).2++S.bl)=none:=by rw[vk,h2];exact hn.tok
    exact eC (S:={ env:=S.env,bb:=S.bb,bl:=(recv reg r).2++S.bl,az:=G' }) ⟨hn.env,hn.bb,hn.obj,qq⟩ h1
   ·cases aj
  ·cases aj
 |rR k f i x =>
  simp only[VO.run]at aj;unfold St.mut at aj;split at aj
  ·rename_i id s n hx
   split at aj
   ·rename_i cs fA
    cases hc:(id==i&&(s==1)&&Nat.ble n cs.length&&Nat.ble n lim&&Nat.blt 0 n) with
    |false=>simp[hc]at aj
    |true =>
     simp only[hc,cond_true]at aj;simp only[Bool.and_eq_true,beq_iff_eq]at hc;obtain⟨⟨⟨⟨rfl,rfl⟩,_⟩,_⟩,_⟩:=hc;split at aj
     ·rename_i zs na
      cases aj;have mj:=nh hn dC hx;have cF:id≠d:=fun e=>by simp[V.cB,V.dX,V.cQ,e]at mj
      refine eC (tm hn cF fun u hu=>?_) ?_
      ·rcases List.mem_append.1 hu with h|h
       ·obtain⟨z,_,rfl⟩:=List.mem_map.1 h;rfl
       ·exact hn.bb id cs fA u (List.mem_of_mem_drop h)
      ·unfold xI
       split
       ·rfl
       ·simpa [V.cB,V.dX,V.cQ] using cF
     ·cases aj
   ·cases aj
  ·cases aj
 |nP f args =>
  have aj:=ON aj;simp only[VO.run]at aj;split at aj
  ·split at aj
   ·rename_i r G' hc
    cases aj;obtain⟨h1,h2⟩:=Jb (reg:=[]) (hC _ _ _ _ _ hc) (d:=d) (by simp[yd])
    have qq:look d ((recv [] r).2++S.bl)=none:=by rw[vk,h2];exact hn.tok
    exact eC (S:={ env:=S.env,bb:=S.bb,bl:=(recv [] r).2++S.bl,az:=G' }) ⟨hn.env,hn.bb,hn.obj,qq⟩ h1
   ·cases aj
  ·cases aj
 |own f args id pos =>
  simp only[VO.names,List.mem_singleton]at hd;have hL:∀(pos:Nat) (vs us:List V) (o:Option (List V)),oz id pos vs=some (us,o)→(∀u∈us,u.dX d=false)∧∀cs,o=some cs→∀u∈cs,u.cQ d=false:=by
   have XP:∀{u:V},u.sc=true→u.dX d=false∧u.cQ d=false:=fun {u} h=>by cases u<;>simp[V.sc]at h<;>exact⟨rfl,rfl⟩
   have lR:∀{u:V},u.lR=true→(strip u).dX d=false:=fun {u} h=>by
    cases u with
    |slice t n es =>
     cases t with
     |none=>simp[V.lR,V.sc]at h
     |some t=>rfl
    |int|bool|str=>rfl
    |_=>simp[V.lR,V.sc]at h
   intro pos;induction pos with
   |zero =>
    intro vs us o h;cases vs with
    |nil=>simp[oz]at h
    |cons v vs =>
     simp only[oz]at h;split at h
     ·rename_i t n es
      cases hc:(es.all (fun r=>r.length==n&&r.all V.sc)&&vs.all V.lR) with
      |false=>simp[hc]at h
      |true =>
       simp only[hc,cond_true]at h;simp only[Bool.and_eq_true,List.all_eq_true]at hc;cases he:es.isEmpty with
       |true =>
        simp only[he,cond_true,Option.some.injEq,Prod.mk.injEq]at h;obtain⟨rfl,rfl⟩:=h;refine⟨fun u hu=>?_,fun cs e=>by cases e⟩
        rcases List.mem_cons.1 hu with rfl|hu
        ·rfl
        ·obtain⟨u0,pP,rfl⟩:=List.mem_map.1 hu
         exact lR (hc.2 u0 pP)
       |false =>
        simp only[he,cond_false,Option.some.injEq,Prod.mk.injEq]at h;obtain⟨rfl,rfl⟩:=h;refine⟨fun u hu=>?_,fun cs e u hu=>?_⟩
        ·rcases List.mem_cons.1 hu with rfl|hu
         ·simp[V.dX,V.cQ];exact fun e=>hd e.symm
         ·obtain⟨u0,pP,rfl⟩:=List.mem_map.1 hu
          exact lR (hc.2 u0 pP)
        ·cases e
         obtain⟨r,pk,oG⟩:=List.mem_flatten.1 hu;exact(XP ((hc.1 r pk).2 u oG)).2
     ·cases h
   |succ pos ih =>
    intro vs us o h;cases vs with
    |nil=>simp[oz]at h
    |cons v vs =>
     simp only[oz]at h;cases hs:v.lR with
     |false=>simp[hs]at h
     |true =>
      simp only[hs,cond_true]at h;split at h
      ·rename_i mi o' h'
       simp only[Option.some.injEq,Prod.mk.injEq]at h;obtain⟨rfl,rfl⟩:=h;obtain⟨i1,i2⟩:=ih vs mi _ h';refine⟨fun u hu=>?_,i2⟩;rcases List.mem_cons.1 hu with rfl|hu
       ·exact lR hs
       ·exact i1 u hu
      ·cases h
  have hV:∀r v o,ky id pos r=some (v,o)→v.cB d=false∧∀cs,o=some cs→∀u∈cs,u.cQ d=false:=fun r v o h=>by
   unfold ky at h;split at h
   ·split at h
    ·rename_i us o' hl
     simp only[Option.some.injEq,Prod.mk.injEq]at h;obtain⟨rfl,rfl⟩:=h;obtain⟨i1,i2⟩:=hL _ _ _ _ hl;refine⟨?_,i2⟩;simp only[V.cB,List.any_eq_false];exact fun u hu=>by simp[i1 u hu]
    ·cases h
   ·split at h
    ·rename_i u o' hl
     simp only[Option.some.injEq,Prod.mk.injEq]at h;obtain⟨rfl,rfl⟩:=h;obtain⟨i1,i2⟩:=hL _ _ _ _ hl;exact⟨s9 (i1 u (by simp)),i2⟩
    ·cases h
  simp only[VO.run]at aj;split at aj
  ·split at aj
   ·split at aj
    ·rename_i v cs kH
     cases aj;obtain⟨i1,i2⟩:=hV _ _ _ kH;exact eC (tm hn (fun e=>hd e.symm) (i2 cs rfl)) i1
    ·rename_i v kH
     cases aj;exact eC hn (hV _ _ _ kH).1
    ·cases aj
   ·cases aj
  ·cases aj
 |pE f args id =>
  simp only[VO.run]at aj;split at aj
  ·split at aj
   ·split at aj
    ·rename_i i n len cs _
     cases hc:(i==id&&Nat.blt 0 cs.length&&Nat.blt 0 len&&cs.all V.sc) with
     |false=>simp[hc]at aj
     |true=>simp only[hc,cond_true]at aj;cases aj;exact eC (uD hn) rfl
    ·cases aj;exact eC (uD hn) rfl
    ·cases aj
   ·cases aj
  ·cases aj
 |me id zero x =>
  simp only[VO.clean,Bool.and_eq_true,List.all_eq_true]at dC;simp only[VO.names,List.mem_singleton]at hd;simp only[VO.run]at aj;split at aj
  ·rename_i k n hx
   cases hc:(decide (0≤n)&&decide (n≤(lim:Int))) with
   |false=>simp[hc]at aj
   |true =>
    simp only[hc,cond_true]at aj;cases aj;refine eC (tm hn (fun e=>hd e.symm) fun v hv=>?_) (by simp[V.cB,V.dX,V.cQ];exact fun e=>hd e.symm)
    obtain⟨l,hl,hv⟩:=List.mem_flatten.1 hv;rw[(List.mem_replicate.1 hl).2]at hv;exact CA (dC.2 v hv) d
  ·cases aj
 |pe sz x lo hi =>
  simp only[VO.clean,Bool.and_eq_true]at dC;simp only[VO.run]at aj;split at aj
  ·rename_i tk m es _
   split at aj
   ·rename_i k1 l k2 h _ _
    cases hc:(decide (0≤l)&&decide (l≤h)&&decide (h≤(es.length:Int))&&(m==sz)) with
    |false=>simp[hc]at aj
    |true=>simp only[hc,cond_true]at aj;cases aj;exact eC hn rfl
   ·cases aj
  ·split at aj
   ·rename_i k1 l k2 h _ _
    cases hc:(decide (l=0)&&decide (h=0)) with
    |false=>simp[hc]at aj
    |true=>simp only[hc,cond_true]at aj;cases aj;exact eC hn rfl
   ·cases aj
  ·rename_i id s n hx
   have mj:=nh hn dC.1.1 hx;split at aj
   ·rename_i k1 l k2 h _ _
    cases hc:(decide (0≤l)&&decide (l≤h)&&decide (h≤(n:Int))&&(s==sz)) with
    |false=>simp[hc]at aj
    |true =>
     simp only[hc,cond_true]at aj;cases h1:decide (l=0) with
     |true=>simp only[h1,cond_true]at aj;cases aj;exact eC hn mj
     |false =>
      simp only[h1,cond_false]at aj;cases h2:decide (l<(n:Int)) with
      |false=>simp[h2]at aj
      |true=>simp only[h2,cond_true]at aj;cases aj;exact eC hn mj
   ·cases aj
  ·cases aj
 |sY mx x y z =>
  simp only[VO.run]at aj;split at aj
  ·cases aj;exact eC hn rfl
  ·cases aj
 |mm mx x y =>
  simp only[VO.run]at aj;split at aj
  ·cases aj;exact eC hn rfl
  ·cases aj
 |pF f cap =>
  simp only[VO.run]at aj;split at aj
  ·split at aj
   ·cases aj;exact eC hn rfl
   ·cases aj
  ·cases aj
end
end Go.Vm
