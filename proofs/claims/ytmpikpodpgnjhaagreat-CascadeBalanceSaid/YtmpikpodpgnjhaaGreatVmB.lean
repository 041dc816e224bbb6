/- The value machine, 11: names do not come from nowhere. -/
import Derived.Test.YtmpikpodpgnjhaaGreatVmA
namespace Go.Vm
set_option linter.all false
def V.sb:V→Bool
 |.int .. | .bool .. | .str .. | .aK | .fU | .fP | .fV | .fn .. | .slice none _ []=>true
 |_=>false
def V.bare:V→Bool
 |.agg cs=>cs.all V.sb
 |v=>v.sb
def bB.clean:bB→Bool
 |.t _=>true
 |.c v=>v.bare
def VO.clean:VO→Bool
 |.mv x | .box _ x | .ou _ x | .load _ _ x | .qn x | .un _ x | .conv _ x | .qW _ x | .field _ _ x | .len x | .s6 x | .ud x | .grow _ _ x | .ext x _=>x.clean
 |.rQ _ _ _ x=>x.clean
 |.pd _ x | .qV _ x=>x.clean
 |.sZ _=>true
 |.pe f args _=>f.clean&&args.all fun p=>p.2.2.clean
 |.pF _ x y=>x.clean&&y.clean
 |.pick a b c=>a.clean&&b.clean&&c.clean
 |.obj _ cs=>cs.all V.sb
 |.pc _ _ | .rO=>true
 |.sY _ _ zero _ x k=>zero.bare&&x.clean&&k.clean
 |.rP _ _ _ x k y=>x.clean&&k.clean&&y.clean
 |.build zero ps=>zero.all V.sb&&ps.all fun p=>p.2.2.clean
 |.lit _ _ _ _ ps=>ps.all fun p=>p.2.clean
 |.rR _ x y z=>x.clean&&y.clean&&z.clean
 |.store _ _ x y | .bin _ x y | .beq _ x y | .gW _ _ x y | .eg _ _ x y | .idx _ _ _ x y | .app _ _ _ _ x y | .m9 _ _ _ x y | .qm _ _ x y | .mm _ x y=>x.clean&&y.clean
 |.call _ f args _ | .own f args _ _ | .pG f args _ | .mG f args=>f.clean&&args.all fun p=>p.2.clean
 |.mf _ zero x=>x.clean&&zero.all V.sb
 |.pf _ x lo hi=>x.clean&&(lo.all bB.clean)&&(hi.all bB.clean)
 |.pH _ cap=>cap.all bB.clean
theorem CF{v:V}(h:v.sb=true)(d:Nat):v.cI d=false:=by
 cases v<;>simp_all[V.sb,V.cI];rename_i t _ _;cases t<;>simp_all[V.sb,V.cI]
theorem Jb{v:V}(h:v.bare=true)(d:Nat):v.cu d=false:=by
 cases v with
 |agg cs =>
  simp only[V.bare,List.all_eq_true]at h;simp only[V.cu,V.dC,List.any_eq_false];exact fun x hx=>by simp[CF (h x hx) d]
 |_=>apply rf;apply CF;exact h
theorem OT{v:V}{d:Nat}(hc:v.cM=true)(h:v.cu d=false):v.cI d=false:=by
 cases v<;>simp_all[V.cM,V.cu,V.dC,V.cI]
section
variable {P:Program} {E:Entry} {g g':Gh} {S S':St} {a:Act} {w w':World} {d:Nat}
theorem nn(hn:S.eR d){x:bB}(hc:x.clean=true){v:V}(hv:S.ev x=some v):v.cu d=false:=by
 cases x with
 |t s=>exact hn.env s v hv
 |c u=>simp only[St.ev,Option.some.injEq]at hv;subst hv;exact Jb hc d
theorem eD(hn:S.eR d){dst:Option Nat}{v:V}(hv:v.cu d=false):(S.put dst v).eR d:=by
 cases dst with
 |none=>exact hn
 |some k =>
  refine⟨fun s u hs=>?_,hn.bb,hn.obj,hn.tok⟩;rw[z7,dQ]at hs;split at hs
  ·cases hs;exact hv
  ·exact hn.env s u hs
theorem tp(hn:S.eR d){id:Nat}(cF:id≠d){cs:List V}(hc:∀v∈cs,v.cI d=false):({ S with bb:=(id,cs)::S.bb }:St).eR d:=by
 refine⟨hn.env,fun i ek hi=>?_,?_,hn.tok⟩
 ·rw[dQ]at hi
  split at hi
  ·cases hi;exact hc
  ·exact hn.bb i ek hi
 ·rw[dQ,if_neg cF];exact hn.obj
theorem Az(hn:S.eR d){f k:Nat}(cF:f≠d):({ S with bm:=(f,k)::S.bm }:St).eR d :=
 ⟨hn.env,hn.bb,hn.obj,by rw[dQ,if_neg cF];exact hn.tok⟩
theorem uC(hn:S.eR d){G:List aW}:({ S with az:=G }:St).eR d:=⟨hn.env,hn.bb,hn.obj,hn.tok⟩
theorem Jc{v:V}(h:v.cu d=false)(hc:∀u∈v.cells,u.cM=true):∀u∈v.cells,u.cI d=false:=fun u hu=>OT (hc u hu) (N7 h u hu)
theorem Jd{sz:Option Nat}{cs:List V}{off:Nat}{v:V}(h:loadAt sz cs off=some v)(hc:∀u∈cs,u.cI d=false):v.cu d=false:=by
 unfold loadAt at h;split at h
 ·exact rf (hc v (List.mem_of_getElem? h))
 ·rename_i n
  cases hb:Nat.ble (off+n) cs.length with
  |false=>simp[hb]at h
  |true =>
   simp only[hb,cond_true,Option.some.injEq]at h;subst h;simp only[V.cu,V.dC,List.any_eq_false];exact fun u hu=>by simp[hc u (List.mem_of_mem_drop (List.mem_of_mem_take hu))]
theorem XS{v:V}(h:v.plain=true):v.cI d=false:=by
 cases v<;>simp_all[V.plain,V.cI];rename_i t _ _;cases t<;>simp_all[V.plain,V.cI]
theorem XT(hR:R E g S a w)(hn:S.eR d){p:V}{x:Value}(hr:bj (S.cx g w) p x){cs:List V}{off:Nat}(hc:S.na p=some (cs,off)):∀u∈cs,u.cI d=false:=by
 unfold St.na at hc;split at hc
 ·split at hc
  ·rename_i i f q ek ho
   cases hc;exact hn.bb i _ ho
  ·cases hc
 ·split at hc
  ·rename_i i f q ek ho
   cases hc;rcases hR.az.obj i _ ho with h0 | ⟨_,hm,c,et,hh,hl,hj⟩
   ·cases h0;intro u hu;simp at hu
   intro u hu;obtain⟨j,sd⟩:=List.mem_iff_getElem?.1 hu;have bG:j<c.size:=Nat.lt_of_lt_of_le (eZ sd) hl;obtain⟨h1,h2,_⟩:=hj j u c[j] sd (by simp[bG])
   exact OT h1 (h2 d)
  ·cases hc
 ·cases hc
  cases hr with
  |plain h _=>cases h
  |fa row _ b o ys hb h1 h2 hp hm =>
   intro u hu;obtain⟨j,sd⟩:=List.mem_iff_getElem?.1 hu;exact XS (hp j u sd)
 ·cases hc
theorem OU{cs vs:List V}{off:Nat}{u:V}(h:u∈iZ cs off vs):u∈cs∨u∈vs:=by
 obtain⟨j,hj⟩:=List.mem_iff_getElem?.1 h;rw[Af]at hj;split at hj
 ·exact .inr (List.mem_of_getElem? hj)
 ·exact .inl (List.mem_of_getElem? hj)
theorem OV(hn:S.eR d):∀{ps:List (Nat×Nat×bB)} {cs ek:List V},(∀p∈ps,p.2.2.clean=true)→pI S ps cs=some ek→(∀u∈cs,u.cI d=false)→∀u∈ek,u.cI d=false
 |[],cs,ek,_,h,hc=>by simp only[pI,Option.some.injEq]at h;subst h;exact hc
 |(off,n,x)::ps,cs,ek,dD,h,hc=>by
  simp only[pI]at h;split at h
  ·rename_i v hv
   cases hb:(v.cells.length==n&&Nat.ble (off+n) cs.length&&v.cells.all V.cM) with
   |false=>simp[hb]at h
   |true =>
    simp only[hb,cond_true]at h;simp only[Bool.and_eq_true,List.all_eq_true]at hb;refine OV hn (fun p hp=>dD p (List.mem_cons_of_mem _ hp)) h (fun u hu=>?_);rcases OU hu with h1|h1
    ·exact hc u h1
    ·exact Jc (nn hn (dD (off,n,x) List.mem_cons_self) hv) hb.2 u h1
  ·cases h
theorem OW(hR:R E g S a w)(hn:S.eR d){x:bB}(dD:x.clean=true){p:V}(hv:S.ev x=some p){cs:List V}{off:Nat}(hc:S.na p=some (cs,off)):∀u∈cs,u.cI d=false:=by
 cases x with
 |t s =>
  obtain⟨y,_,hr⟩:=hR.env s p hv;exact XT hR hn hr hc
 |c v =>
  simp only[St.ev,Option.some.injEq]at hv;subst hv;cases v<;>simp_all[bB.clean,V.bare,V.sb,St.na]
theorem Je{r:V}(h:∀d,(wV r).cu d=false){reg:List (Nat×Nat)}{d:Nat}(hd:d∉xZ reg):(recv reg r).1.cu d=false∧look d (recv reg r).2=none:=by
 rw[E4];have tq:∀p f,look p reg=some f→(f==d)=false:=fun p f hp=>by
  simp only[beq_eq_false_iff_ne,ne_eq];intro e;subst e;exact hd (List.mem_map.2 ⟨_,r9 hp,rfl⟩)
 have tr:∀u∈(cV reg 0 r.fR).1,(∃n es f,u=.slice (some f) n es∧(f==d)=false)∨∃v∈r.fR,u=strip v:=fun u hu=>by
  obtain⟨k,hk⟩:=List.mem_iff_getElem?.1 hu;obtain⟨v,hv,hc⟩:=Cy reg _ 0 k u hk;rcases hc with⟨t,n,es,f,rfl,h2,rfl⟩ | rfl
  ·exact .inl ⟨n,es,f,rfl,tq _ f h2⟩
  ·exact .inr ⟨v,List.mem_of_getElem? hv,rfl⟩
 refine⟨?_,?_⟩
 ·have hs:=h d
  unfold wV at hs;have single:r.fR=[r]→(∀us,rj r us=us.headD .undef)→(rj r (cV reg 0 r.fR).1).cu d=false:=fun e1 e3=>by
   rw[e3]at hs ⊢;rw[e1]at hs tr ⊢;have nk:(cV reg 0 [r]).1.length=1:=IV reg [r] 0
   match yh:(cV reg 0 [r]).1,nk with
   |[u],_ =>
    rw[yh]at tr;rcases tr u List.mem_cons_self with⟨n,es,f,rfl,hf⟩ | ⟨v,hv,rfl⟩
    ·exact hf
    ·simp only[List.mem_singleton]at hv
     subst hv;exact hs
  cases r with
  |tuple vs =>
   simp only[rj,V.cu,V.fR,List.any_eq_false,List.mem_map]at hs ⊢;intro u hu;rcases tr u hu with⟨n,es,f,rfl,hf⟩ | ⟨v,hv,rfl⟩
   ·simp[V.dC,V.cI,hf]
   ·exact hs (strip v) ⟨v,hv,rfl⟩
  |agg vs =>
   simp only[rj,V.cu,V.dC,V.fR,List.any_eq_false,List.mem_map]at hs ⊢;intro u hu;rcases tr u hu with⟨n,es,f,rfl,hf⟩ | ⟨v,hv,rfl⟩
   ·simp[V.cI,hf]
   ·exact hs (strip v) ⟨v,hv,rfl⟩
  |_=>exact single rfl (fun _=>rfl)
 ·cases hl:look d (cV reg 0 r.fR).2 with
  |none=>rfl
  |some k =>
   obtain⟨p,t,n,es,_,h2,_⟩:=Ao reg _ 0 d k (r9 hl);exact absurd (List.mem_map.2 ⟨_,r9 h2,rfl⟩) hd
theorem OX{v:V}(h:v.cu d=false):v.kF.cu d=false:=by
 have h0:∀u:V,u.cI d=false→u.j7.cI d=false:=fun u hu=>by
  cases u<;>first|exact hu|rfl
 cases v with
 |agg cs =>
  simp only[V.kF,V.cu,V.dC,List.any_eq_false,List.mem_map,forall_exists_index,and_imp,forall_apply_eq_imp_iff₂]at h ⊢;intro u hu;have:=h0 u (by simpa using h u hu)
  simp[this]
 |fC=>rfl
 |_=>exact h
theorem XU{vo:VO}{C:bC}{dst:Option Nat}(dD:vo.clean=true)
  (hC:∀f args G r G',C f args G=some (r,G')→∀d,(wV r).cu d=false)
  (hR:R E g S a w) (hn:S.eR d) (hd:d∉vo.names) (aj:VO.run C dst S vo=some S'):S'.eR d:=by
 cases vo with
 |mv x =>
  simp only[VO.run]at aj;split at aj
  ·rename_i v hv;cases aj;exact eD hn (nn hn dD hv)
  ·cases aj
 |pick c p q =>
  simp only[VO.clean,Bool.and_eq_true]at dD;simp only[VO.run]at aj;split at aj
  ·rename_i t ht
   split at aj
   ·rename_i v hv
    cases aj;cases t
    ·exact eD hn (nn hn dD.2 hv)
    ·exact eD hn (nn hn dD.1.2 hv)
   ·cases aj
  ·cases aj
 |obj id cells =>
  simp only[VO.clean,List.all_eq_true]at dD;simp only[VO.names,List.mem_singleton]at hd;simp only[VO.run]at aj;cases aj;exact eD (tp hn (fun e=>hd e.symm) fun v hv=>CF (dD v hv) d) (by simp[V.cu,V.dC,V.cI];exact fun e=>hd e.symm)
 |box id x =>
  simp only[VO.names,List.mem_singleton]at hd;simp only[VO.run]at aj;split at aj
  ·rename_i v hv
   cases hc:v.cells.all V.cM with
   |false=>simp[hc]at aj
   |true =>
    simp only[hc,cond_true]at aj;simp only[List.all_eq_true]at hc;cases aj;exact eD (tp hn (fun e=>hd e.symm) (Jc (nn hn dD hv) hc)) (by simp[V.cu,V.dC,V.cI];exact fun e=>hd e.symm)
  ·cases aj
 |ou sh x =>
  simp only[VO.run]at aj;split at aj
  ·split at aj
   ·cases aj;exact eD (uC hn) rfl
   ·cases aj
  ·cases aj
 |pc sh zero =>
  simp only[VO.run]at aj;split at aj
  ·cases aj;exact eD (uC hn) rfl
  ·cases aj
 |rO =>
  simp only[VO.run]at aj;cases aj;exact eD (uC hn) rfl
 |sY ag ks zero ok x k =>
  simp only[VO.clean,Bool.and_eq_true]at dD;simp only[VO.run]at aj;split at aj
  ·rename_i i kv hx pP
   split at aj
   ·rename_i es b mL hb
    have OY:∀v b,(∀d,v.cu d=false)→v.dC d=false→(bif ok then V.tuple [v,.bool b] else v).cu d=false:=fun v b hv hc=>by
     cases ok
     ·exact hv d
     ·simp only[cond_true,V.cu,List.any_cons,List.any_nil,Bool.or_false,Bool.or_eq_false_iff]
      exact⟨hc,rfl⟩
    split at aj
    ·rename_i j v hf
     cases aj;have Fb:∀(es:List (V×V)) i,lR ag ks kv es i=some (some (j,v))→∃q,(q,v)∈es:=by
      intro es;induction es with
      |nil=>intro i h;simp[lR]at h
      |cons p es ih =>
       obtain⟨q,u⟩:=p;intro i h;simp only[lR]at h;split at h
       ·simp at h;obtain⟨_,rfl⟩:=h;exact⟨q,by simp⟩
       ·obtain⟨q',h'⟩:=ih _ h;exact⟨q',by simp[h']⟩
       ·cases h
     obtain⟨q,hq⟩:=Fb es 0 hf;obtain⟨n,vp⟩:=List.mem_iff_getElem?.1 hq;obtain⟨_,_,c,ck,hh,hl,_,hj⟩:=Fc hR mL;have bG:=eZ vp;obtain⟨_,hv,_,_⟩:=hj n (q,v) c[n] vp (by simp)
     exact eD hn (OY _ _ (fun d=>tc (hv d)) (hv d))
    ·cases aj
     refine eD hn (OY _ _ (fun d=>Jb dD.1.1 d) ?_);have:=Jb dD.1.1 d;have Jf:=dD.1.1;cases zero<;>first|(simpa [V.cu] using this)|simp[V.bare,V.sb]at Jf
    ·cases aj
   ·cases aj
  ·cases aj
 |rP ag ks sh x k y =>
  simp only[VO.run]at aj;split at aj
  ·split at aj
   ·split at aj
    ·cases aj;exact uC hn
    ·cases aj;exact uC hn
    ·cases aj
   ·cases aj
  ·cases aj
 |build zero ps =>
  simp only[VO.clean,Bool.and_eq_true,List.all_eq_true]at dD;simp only[VO.run]at aj;split at aj
  ·rename_i cs hf
   cases aj;refine eD hn ?_;have:=OV hn dD.2 hf (fun u hu=>CF (dD.1 u hu) d);simp only[V.cu,V.dC,List.any_eq_false];exact fun u hu=>by simp[this u hu]
  ·cases aj
 |lit tok sh zero len ps =>
  simp only[VO.run]at aj;split at aj
  ·split at aj
   ·rename_i f
    simp only[VO.names,List.mem_singleton]at hd;cases aj;exact eD (Az hn (fun e=>hd e.symm)) (by simp[V.cu,V.dC,V.cI];exact fun e=>hd e.symm)
   ·cases aj;exact eD hn rfl
  ·cases aj
 |load root sz x =>
  simp only[VO.run]at aj;split at aj
  ·rename_i u hu
   cases fX:root.fits u with
   |false=>simp[fX]at aj
   |true =>
    simp only[fX,cond_true]at aj;split at aj
    ·rename_i cs off hc
     split at aj
     ·rename_i v hv
      cases aj;refine eD hn ?_;have:=Jd hv (OW hR hn dD hu hc);cases root
      ·exact this
      ·exact OX this
      ·exact this
     ·cases aj
    ·cases aj
  ·cases aj
 |store root sh x y =>
  simp only[VO.clean,Bool.and_eq_true]at dD;simp only[VO.run]at aj;cases fX:S.fits root x with
  |false=>simp[fX]at aj
  |true =>
  simp only[fX,cond_true]at aj;split at aj
  ·rename_i id off v hx hy
   split at aj
   ·rename_i cs ho
    cases hc:(v.cells.length==sh.length&&Nat.ble (off+sh.length) cs.length&&v.cells.all V.cM&&Nat.blt 0 sh.length) with
    |false=>simp[hc]at aj
    |true =>
     simp only[hc,cond_true]at aj;simp only[Bool.and_eq_true,List.all_eq_true]at hc;cases aj;have mo:id≠d:=fun e=>by have:=nn hn dD.1 hx;simp[V.cu,V.dC,V.cI,e]at this
     refine tp hn mo fun u hu=>?_;rcases OU hu with h|h
     ·exact hn.bb id cs ho u h
     ·exact Jc (nn hn dD.2 hy) hc.1.2 u h
   ·cases aj
  ·rename_i i off v hx hy
   split at aj
   ·rename_i cs ho
    split at aj
    ·rename_i vs hg
     cases hc:(Nat.ble (off+vs.length) cs.length&&Nat.blt 0 vs.length) with
     |false=>simp[hc]at aj
     |true=>simp only[hc,cond_true]at aj;cases aj;exact uC hn
    ·cases aj
   ·cases aj
  ·cases aj
 |sZ n =>
  simp only[VO.run]at aj;cases aj;exact eD hn rfl
 |pe f args ids =>
  simp only[VO.run]at aj;split at aj
  ·split at aj
   ·rename_i r G' hc
    cases hs:r.oz with
    |false=>rw[hs]at aj;cases aj
    |true =>
     rw[hs]at aj;cases aj;have h0:∀v:V,v.sc=true→v.cI d=false∧v.dC d=false∧v.cu d=false:=fun v hv=>by
      cases v<;>simp[V.sc]at hv<;>exact⟨rfl,rfl,rfl⟩
     refine eD hn ?_;cases r with
     |tuple vs =>
      simp only[V.oz,List.all_eq_true]at hs;simp only[V.cu,List.any_eq_false];exact fun v hv=>by simp[(h0 v (hs v hv)).2.1]
     |agg vs =>
      simp only[V.oz,List.all_eq_true]at hs;simp only[V.cu,V.dC,List.any_eq_false];exact fun v hv=>by simp[(h0 v (hs v hv)).1]
     |_=>refine(h0 _ ?_).2.2;exact hs
   ·cases aj
  ·cases aj
 |qV neg x =>
  simp only[VO.run]at aj;split at aj<;>first|(cases aj;done)|(cases aj;exact eD hn rfl)
 |pd cf x =>
  simp only[VO.names,List.mem_singleton]at hd;simp only[VO.run]at aj;split at aj
  ·rename_i u hu
   split at aj
   ·rename_i v ts G ht
    cases aj;unfold St.take at ht;split at ht
    ·rename_i id off
     split at ht
     ·rename_i cs ho
      split at ht
      ·cases ht
       exact eD (uC (Az hn (fun e=>hd e.symm))) (by simp[V.cu,V.dC,V.cI];exact fun e=>hd e.symm)
      ·rename_i z _ hz
       cases ht;have hm:=OW (off:=off) hR hn dD hu (cs:=cs) (by simp[St.na,ho])
       exact eD (S:={ S with bm:=[]++S.bm,az:=S.az }) ⟨hn.env,hn.bb,hn.obj,hn.tok⟩ (OX (rf (hm z (List.mem_of_getElem? hz))))
      ·cases ht
     ·cases ht
    ·cases ht
   ·cases aj
  ·cases aj
 |pF cf x y =>
  simp only[VO.run]at aj;split at aj
  ·split at aj
   ·rename_i ts G hg
    cases aj;unfold St.uf at hg;split at hg
    ·rename_i id off f n es
     split at hg
     ·rename_i k _ hk
      have cF:cf≠d:=fun e=>by
       rw[e,hn.tok]at hk;generalize (_==d)=q at hk;cases q<;>cases hk
      rcases Bool.eq_false_or_eq_true (k==_&&Nat.blt _ _) with hc|hc
      ·rw[hc]at hg
       cases hg;exact uC (Az hn cF)
      ·rw[hc]at hg;cases hg
     ·cases hg
    ·cases hg
   ·cases aj
  ·cases aj
 |qn x =>
  simp only[VO.run]at aj;split at aj<;>first|(cases aj;done)|skip
  all_goals
   rename_i hv;cases aj;exact eD hn (nn hn dD hv)
 |bin op x y =>
  simp only[VO.run]at aj;split at aj
  ·split at aj
   ·rename_i v hv
    cases aj;refine eD hn ?_;unfold V.bin at hv;split at hv
    ·rename_i k m k' n _ _
     cases hk:decide (k=k') with
     |false=>simp[hk]at hv
     |true =>
      simp only[hk,cond_true]at hv;unfold BY at hv;split at hv<;>(try split at hv)<;>cases hv<;>rfl
    ·cases hv
   ·cases aj
  ·cases aj
 |beq neg x y =>
  simp only[VO.run]at aj;split at aj
  ·cases aj;exact eD hn rfl
  ·cases aj
 |gW neg ks x y =>
  simp only[VO.run]at aj;split at aj
  ·split at aj
   ·rename_i v hv
    cases aj;refine eD hn ?_;unfold V.gW at hv;split at hv
    ·rename_i cs ds _ _
     cases hc:(cs.length==ks.length&&ds.length==ks.length) with
     |false=>simp[hc]at hv
     |true =>
      simp only[hc,cond_true]at hv;split at hv<;>cases hv<;>rfl
    ·cases hv
   ·cases aj
  ·cases aj
 |un op x =>
  simp only[VO.run]at aj;split at aj
  ·split at aj
   ·rename_i v hv
    cases aj;refine eD hn ?_;unfold V.un at hv;split at hv<;>(try split at hv)<;>cases hv<;>rfl
   ·cases aj
  ·cases aj
 |conv k x =>
  simp only[VO.run]at aj;split at aj
  ·cases aj;exact eD hn rfl
  ·cases aj
 |qW off x =>
  simp only[VO.run]at aj;split at aj<;>first|(cases aj;done)|skip
  all_goals
   rename_i hv;have:=nn hn dD hv;cases aj;exact eD hn this
 |eg arr sz x i =>
  simp only[VO.clean,Bool.and_eq_true]at dD;cases arr with
  |some n =>
   simp only[VO.run]at aj;split at aj
   ·rename_i u k m hu hm
    cases hc:(decide (0≤m)&&decide (m<(n:Int))) with
    |false=>simp[hc]at aj
    |true =>
     simp only[hc,cond_true]at aj;have:=nn hn dD.1 hu;split at aj<;>first|(cases aj;done)|skip
     all_goals
      cases aj;exact eD hn this
   ·cases aj
  |none =>
   simp only[VO.run]at aj;split at aj
   ·rename_i tk m es k z hu hm
    cases hc:(decide (0≤z)&&(m==sz)) with
    |false=>simp[hc]at aj
    |true =>
     simp only[hc,cond_true]at aj;split at aj
     ·cases aj;exact eD hn rfl
     ·cases aj
   ·rename_i id off len k z hu hm
    cases hc:(decide (0≤z)&&decide (z<(len:Int))&&(off==sz)) with
    |false=>simp[hc]at aj
    |true =>
     simp only[hc,cond_true]at aj;have:=nn hn dD.1 hu;cases aj;exact eD hn this
   ·rename_i id off len k z hu hm
    cases hc:(decide (0≤z)&&decide (z<(len:Int))&&(off==sz)) with
    |false=>simp[hc]at aj
    |true =>
     simp only[hc,cond_true]at aj;cases aj;exact eD hn rfl
   ·cases aj
 |idx n sz ag x i =>
  simp only[VO.clean,Bool.and_eq_true]at dD;simp only[VO.run]at aj;split at aj
  ·rename_i cs k m hu hm
   cases hc:(decide (0≤m)&&decide (m<(n:Int))) with
   |false=>simp[hc]at aj
   |true =>
    simp only[hc,cond_true]at aj;split at aj
    ·rename_i v hv
     cases aj;have:=nn hn dD.1 hu;simp only[V.cu,V.dC,List.any_eq_false]at this;exact eD hn (Jd hv fun u hu=>by simpa using this u hu)
    ·cases aj
  ·cases aj
 |field off sz x =>
  simp only[VO.run]at aj;split at aj
  ·rename_i cs hu
   split at aj
   ·rename_i v hv
    cases aj;have:=nn hn dD hu;simp only[V.cu,V.dC,List.any_eq_false]at this;exact eD hn (Jd hv fun u hu=>by simpa using this u hu)
   ·cases aj
  ·cases aj
 |len x =>
  simp only[VO.run]at aj;split at aj<;>first|(cases aj;done)|(cases aj;exact eD hn rfl)
 |ud x =>
  simp only[VO.run]at aj;split at aj<;>first|(cases aj;done)|(cases aj;exact eD hn rfl)
 |grow f id x =>
  simp only[VO.names,List.mem_singleton]at hd;simp only[VO.run]at aj;split at aj
  ·rename_i n hx
   cases hc:(decide (0≤n)&&decide (n≤(lim:Int))) with
   |false=>simp[hc]at aj
   |true =>
    simp only[hc,cond_true]at aj;cases aj;exact eD (tp hn (fun e=>hd e.symm) fun v hv=>by simp at hv) (by simp[V.cu,V.dC,V.cI];exact fun e=>hd e.symm)
  ·cases aj
 |qm Fe src x y =>
  simp only[VO.clean,Bool.and_eq_true]at dD;simp only[VO.run]at aj;split at aj
  ·rename_i id s n b hx hy
   split at aj
   ·rename_i cs us ho nc
    cases hc:(id==Fe&&(s==1)&&Nat.ble n cs.length&&us.all V.sc) with
    |false=>simp[hc]at aj
    |true =>
     simp only[hc,cond_true]at aj;simp only[Bool.and_eq_true,List.all_eq_true,beq_iff_eq]at hc;cases aj;obtain⟨⟨⟨rfl,_⟩,_⟩,hc⟩:=hc;have mo:id≠d:=fun e=>by have:=nn hn dD.1 hx;simp[V.cu,V.dC,V.cI,e]at this
     refine eD (tp hn mo fun u hu=>?_) rfl;rcases List.mem_append.1 hu with h|h
     ·have:=hc u (List.mem_of_mem_take h)
      cases u<;>simp_all[V.sc,V.cI]
     ·exact hn.bb id cs ho u (List.mem_of_mem_drop h)
   ·cases aj
  ·cases aj
 |s6 x =>
  simp only[VO.run]at aj;split at aj<;>first|(cases aj;done)|(cases aj;exact eD hn rfl)
 |app cf src sh mx x y =>
  simp only[VO.clean,Bool.and_eq_true]at dD;simp only[VO.names,List.mem_singleton]at hd;simp only[VO.run]at aj;split at aj
  ·split at aj
   ·rename_i ys hy
    cases hc:Nat.ble ys.length mx with
    |false=>simp[hc]at aj
    |true =>
     simp only[hc,cond_true]at aj;cases aj;exact eD (Az hn (fun e=>hd e.symm)) (by simp[V.cu,V.dC,V.cI];exact fun e=>hd e.symm)
   ·cases aj
  ·split at aj
   ·rename_i ys hy
    cases hc:Nat.ble ys.length mx with
    |false=>simp[hc]at aj
    |true =>
     simp only[hc,cond_true]at aj;cases aj;exact eD (Az hn (fun e=>hd e.symm)) (by simp[V.cu,V.dC,V.cI];exact fun e=>hd e.symm)
   ·cases aj
  ·rename_i f n es v hx hy
   have hf:(f==d)=false:=by have:=nn hn dD.1 hx;simpa [V.cu,V.dC,V.cI] using this
   split at aj
   ·rename_i ys hy
    split at aj
    ·rename_i k hk
     cases hc:(k==es.length&&(n==sh.length)&&Nat.ble (es.length+ys.length) mx) with
     |false=>simp[hc]at aj
     |true =>
      simp only[hc,cond_true]at aj;cases aj;exact eD (Az hn (by simpa using hf)) (by simp only[V.cu,V.dC,V.cI];exact hf)
    ·cases aj
   ·cases aj
  ·cases aj
 |m9 nw src sh x y =>
  simp only[VO.clean,Bool.and_eq_true]at dD;simp only[VO.names,List.mem_singleton]at hd;have kN:∀{v:V} {ys:List (List V)},S.ev y=some v→S.rows sh v=some ys→∀u∈ys.flatten,u.cI d=false:=fun {v ys} hv gQ u hu=>by
   have EV:∀{x:Value},bj (S.cx g w) v x→u.cI d=false:=fun {x} hr=>by
    rcases B9 hR hr gQ with⟨rfl,_⟩ | ⟨b,off,cap,l,_,_,_,hl⟩
    ·simp at hu
    ·obtain⟨j,hj⟩:=List.mem_iff_getElem?.1 hu
     exact Jg ((wX hl).2 j u hj).1
   cases y with
   |t s =>
    obtain⟨x,_,hr⟩:=hR.env s v hv;exact EV hr
   |c c =>
    simp only[St.ev,Option.some.injEq]at hv;subst hv;cases c with
    |aK=>simp[St.rows]at gQ;subst gQ;simp at hu
    |slice t n es =>
     have:es=[]:=by
      have h:=dD.2;simp only[bB.clean,V.bare]at h;cases t with
      |none=>cases es with
       |nil=>rfl
       |cons _ _=>simp[V.sb]at h
      |some _=>simp[V.sb]at h
     subst this;simp only[St.rows]at gQ;cases vp:n==sh.length with
     |false=>simp[vp]at gQ
     |true=>simp only[vp,cond_true,Option.some.injEq]at gQ;subst gQ;simp at hu
    |dW n=>simp[St.rows]at gQ;subst gQ;simp at hu
    |fD n=>simp[St.rows]at gQ;subst gQ;simp at hu
    |_=>simp[St.rows]at gQ
  simp only[VO.run]at aj;split at aj
  ·rename_i v hx hy
   split at aj
   ·rename_i ys gQ
    cases he:ys.isEmpty with
    |true=>simp only[he,cond_true]at aj;cases aj;exact eD hn rfl
    |false =>
     simp only[he,cond_false]at aj;cases hc:Nat.ble ys.length lim with
     |false=>simp[hc]at aj
     |true =>
      simp only[hc,cond_true]at aj;cases aj;exact eD (tp hn (fun e=>hd e.symm) (kN hy gQ)) (by simp[V.cu,V.dC,V.cI];exact fun e=>hd e.symm)
   ·cases aj
  ·rename_i n v hx hy
   split at aj
   ·rename_i ys gQ
    cases he:ys.isEmpty with
    |true=>simp only[he,cond_true]at aj;cases aj;exact eD hn rfl
    |false =>
     simp only[he,cond_false]at aj;cases hc:Nat.ble ys.length lim with
     |false=>simp[hc]at aj
     |true =>
      simp only[hc,cond_true]at aj;cases aj;exact eD (tp hn (fun e=>hd e.symm) (kN hy gQ)) (by simp[V.cu,V.dC,V.cI];exact fun e=>hd e.symm)
   ·cases aj
  ·rename_i id s ln v hx hy
   split at aj
   ·rename_i ys cs gQ fE
    cases hc:((id==src)&&(s==sh.length)&&(cs.length==ln*s)&&Nat.ble (ln+ys.length) lim) with
    |false=>simp[hc]at aj
    |true =>
     simp only[hc,cond_true]at aj;cases aj;have u7:({ S with bb:=S.bb.filter fun p => !(p.1==src) }:St).eR d:=by
      refine⟨hn.env,fun k ek hk=>?_,?_,hn.tok⟩
      ·rw[rn]at hk
       split at hk
       ·cases hk
       ·exact hn.bb k ek hk
      ·rw[rn]
       split
       ·rfl
       ·exact hn.obj
     refine eD (tp u7 (fun e=>hd e.symm) (fun u hu=>?_)) (by simp[V.cu,V.dC,V.cI];exact fun e=>hd e.symm)
     rcases List.mem_append.1 hu with h|h
     ·exact hn.bb src cs fE u h
     ·exact kN hy gQ u h
   ·cases aj
  ·cases aj
 |ext x i =>
  simp only[VO.run]at aj;split at aj
  ·rename_i vs hv
   split at aj
   ·rename_i v hk
    cases aj;exact eD hn (NU (nn hn dD hv) (List.mem_of_getElem? hk))
   ·cases aj
  ·cases aj
 |call alone f args reg =>
  cases alone
  case true =>
   simp only[VO.run]at aj;split at aj
   ·split at aj
    ·rename_i r G' hc
     cases NN:r.lone with
     |false=>simp[NN]at aj
     |true =>
      simp only[NN,cond_true]at aj;cases aj;obtain⟨h1,h2⟩:=Je (hC _ _ _ _ _ hc) hd;have tC:look d ((recv reg r).2++S.bm)=none:=by rw[vj,h2];exact hn.tok
      exact eD (S:={ env:=S.env,bb:=S.bb,bm:=(recv reg r).2++S.bm,az:=S.az }) ⟨hn.env,hn.bb,hn.obj,tC⟩ h1
    ·cases aj
   ·cases aj
  simp only[VO.run]at aj;split at aj
  ·split at aj
   ·rename_i r G' hc
    cases aj;obtain⟨h1,h2⟩:=Je (hC _ _ _ _ _ hc) hd;have tC:look d ((recv reg r).2++S.bm)=none:=by rw[vj,h2];exact hn.tok
    exact eD (S:={ env:=S.env,bb:=S.bb,bm:=(recv reg r).2++S.bm,az:=G' }) ⟨hn.env,hn.bb,hn.obj,tC⟩ h1
   ·cases aj
  ·cases aj
 |rQ k f i x =>
  simp only[VO.run]at aj;unfold St.mut at aj;split at aj
  ·rename_i id s n hx
   split at aj
   ·rename_i cs fE
    cases hc:(id==i&&(s==1)&&Nat.ble n cs.length&&Nat.ble n lim&&Nat.blt 0 n) with
    |false=>simp[hc]at aj
    |true =>
     simp only[hc,cond_true]at aj;simp only[Bool.and_eq_true,beq_iff_eq]at hc;obtain⟨⟨⟨⟨rfl,rfl⟩,_⟩,_⟩,_⟩:=hc;split at aj
     ·rename_i zs nh
      cases aj;have mo:=nn hn dD hx;have cF:id≠d:=fun e=>by simp[V.cu,V.dC,V.cI,e]at mo
      refine eD (tp hn cF fun u hu=>?_) ?_
      ·rcases List.mem_append.1 hu with h|h
       ·obtain⟨z,_,rfl⟩:=List.mem_map.1 h;rfl
       ·exact hn.bb id cs fE u (List.mem_of_mem_drop h)
      ·unfold xI
       split
       ·rfl
       ·simpa [V.cu,V.dC,V.cI] using cF
     ·cases aj
   ·cases aj
  ·cases aj
 |mG f args =>
  have aj:=ON aj;simp only[VO.run]at aj;split at aj
  ·split at aj
   ·rename_i r G' hc
    cases aj;obtain⟨h1,h2⟩:=Je (reg:=[]) (hC _ _ _ _ _ hc) (d:=d) (by simp[xZ])
    have tC:look d ((recv [] r).2++S.bm)=none:=by rw[vj,h2];exact hn.tok
    exact eD (S:={ env:=S.env,bb:=S.bb,bm:=(recv [] r).2++S.bm,az:=G' }) ⟨hn.env,hn.bb,hn.obj,tC⟩ h1
   ·cases aj
  ·cases aj
 |own f args id pos =>
  simp only[VO.names,List.mem_singleton]at hd;have hL:∀(pos:Nat) (vs us:List V) (o:Option (List V)),nT id pos vs=some (us,o)→(∀u∈us,u.dC d=false)∧∀cs,o=some cs→∀u∈cs,u.cI d=false:=by
   have XV:∀{u:V},u.sc=true→u.dC d=false∧u.cI d=false:=fun {u} h=>by cases u<;>simp[V.sc]at h<;>exact⟨rfl,rfl⟩
   have lT:∀{u:V},u.lT=true→(strip u).dC d=false:=fun {u} h=>by
    cases u with
    |slice t n es =>
     cases t with
     |none=>simp[V.lT,V.sc]at h
     |some t=>rfl
    |int|bool|str=>rfl
    |_=>simp[V.lT,V.sc]at h
   intro pos;induction pos with
   |zero =>
    intro vs us o h;cases vs with
    |nil=>simp[nT]at h
    |cons v vs =>
     simp only[nT]at h;split at h
     ·rename_i t n es
      cases hc:(es.all (fun r=>r.length==n&&r.all V.sc)&&vs.all V.lT) with
      |false=>simp[hc]at h
      |true =>
       simp only[hc,cond_true]at h;simp only[Bool.and_eq_true,List.all_eq_true]at hc;cases he:es.isEmpty with
       |true =>
        simp only[he,cond_true,Option.some.injEq,Prod.mk.injEq]at h;obtain⟨rfl,rfl⟩:=h;refine⟨fun u hu=>?_,fun cs e=>by cases e⟩
        rcases List.mem_cons.1 hu with rfl|hu
        ·rfl
        ·obtain⟨u0,pR,rfl⟩:=List.mem_map.1 hu
         exact lT (hc.2 u0 pR)
       |false =>
        simp only[he,cond_false,Option.some.injEq,Prod.mk.injEq]at h;obtain⟨rfl,rfl⟩:=h;refine⟨fun u hu=>?_,fun cs e u hu=>?_⟩
        ·rcases List.mem_cons.1 hu with rfl|hu
         ·simp[V.dC,V.cI];exact fun e=>hd e.symm
         ·obtain⟨u0,pR,rfl⟩:=List.mem_map.1 hu
          exact lT (hc.2 u0 pR)
        ·cases e
         obtain⟨r,rA,oF⟩:=List.mem_flatten.1 hu;exact(XV ((hc.1 r rA).2 u oF)).2
     ·cases h
   |succ pos ih =>
    intro vs us o h;cases vs with
    |nil=>simp[nT]at h
    |cons v vs =>
     simp only[nT]at h;cases hs:v.lT with
     |false=>simp[hs]at h
     |true =>
      simp only[hs,cond_true]at h;split at h
      ·rename_i ml o' h'
       simp only[Option.some.injEq,Prod.mk.injEq]at h;obtain⟨rfl,rfl⟩:=h;obtain⟨i1,i2⟩:=ih vs ml _ h';refine⟨fun u hu=>?_,i2⟩;rcases List.mem_cons.1 hu with rfl|hu
       ·exact lT hs
       ·exact i1 u hu
      ·cases h
  have hV:∀r v o,jN id pos r=some (v,o)→v.cu d=false∧∀cs,o=some cs→∀u∈cs,u.cI d=false:=fun r v o h=>by
   unfold jN at h;split at h
   ·split at h
    ·rename_i us o' hl
     simp only[Option.some.injEq,Prod.mk.injEq]at h;obtain⟨rfl,rfl⟩:=h;obtain⟨i1,i2⟩:=hL _ _ _ _ hl;refine⟨?_,i2⟩;simp only[V.cu,List.any_eq_false];exact fun u hu=>by simp[i1 u hu]
    ·cases h
   ·split at h
    ·rename_i u o' hl
     simp only[Option.some.injEq,Prod.mk.injEq]at h;obtain⟨rfl,rfl⟩:=h;obtain⟨i1,i2⟩:=hL _ _ _ _ hl;exact⟨tc (i1 u (by simp)),i2⟩
    ·cases h
  simp only[VO.run]at aj;split at aj
  ·split at aj
   ·split at aj
    ·rename_i v cs kO
     cases aj;obtain⟨i1,i2⟩:=hV _ _ _ kO;exact eD (tp hn (fun e=>hd e.symm) (i2 cs rfl)) i1
    ·rename_i v kO
     cases aj;exact eD hn (hV _ _ _ kO).1
    ·cases aj
   ·cases aj
  ·cases aj
 |pG f args id =>
  simp only[VO.run]at aj;split at aj
  ·split at aj
   ·split at aj
    ·rename_i i n len cs _
     cases hc:(i==id&&Nat.blt 0 cs.length&&Nat.blt 0 len&&cs.all V.sc) with
     |false=>simp[hc]at aj
     |true=>simp only[hc,cond_true]at aj;cases aj;exact eD (uC hn) rfl
    ·cases aj;exact eD (uC hn) rfl
    ·cases aj
   ·cases aj
  ·cases aj
 |mf id zero x =>
  simp only[VO.clean,Bool.and_eq_true,List.all_eq_true]at dD;simp only[VO.names,List.mem_singleton]at hd;simp only[VO.run]at aj;split at aj
  ·rename_i k n hx
   cases hc:(decide (0≤n)&&decide (n≤(lim:Int))) with
   |false=>simp[hc]at aj
   |true =>
    simp only[hc,cond_true]at aj;cases aj;refine eD (tp hn (fun e=>hd e.symm) fun v hv=>?_) (by simp[V.cu,V.dC,V.cI];exact fun e=>hd e.symm)
    obtain⟨l,hl,hv⟩:=List.mem_flatten.1 hv;rw[(List.mem_replicate.1 hl).2]at hv;exact CF (dD.2 v hv) d
  ·cases aj
 |pf sz x lo hi =>
  simp only[VO.clean,Bool.and_eq_true]at dD;simp only[VO.run]at aj;split at aj
  ·rename_i tk m es _
   split at aj
   ·rename_i k1 l k2 h _ _
    cases hc:(decide (0≤l)&&decide (l≤h)&&decide (h≤(es.length:Int))&&(m==sz)) with
    |false=>simp[hc]at aj
    |true=>simp only[hc,cond_true]at aj;cases aj;exact eD hn rfl
   ·cases aj
  ·split at aj
   ·rename_i k1 l k2 h _ _
    cases hc:(decide (l=0)&&decide (h=0)) with
    |false=>simp[hc]at aj
    |true=>simp only[hc,cond_true]at aj;cases aj;exact eD hn rfl
   ·cases aj
  ·rename_i id s n hx
   have mo:=nn hn dD.1.1 hx;split at aj
   ·rename_i k1 l k2 h _ _
    cases hc:(decide (0≤l)&&decide (l≤h)&&decide (h≤(n:Int))&&(s==sz)) with
    |false=>simp[hc]at aj
    |true =>
     simp only[hc,cond_true]at aj;cases h1:decide (l=0) with
     |true=>simp only[h1,cond_true]at aj;cases aj;exact eD hn mo
     |false =>
      simp only[h1,cond_false]at aj;cases h2:decide (l<(n:Int)) with
      |false=>simp[h2]at aj
      |true=>simp only[h2,cond_true]at aj;cases aj;exact eD hn mo
   ·cases aj
  ·cases aj
 |rR mx x y z =>
  simp only[VO.run]at aj;split at aj
  ·cases aj;exact eD hn rfl
  ·cases aj
 |mm mx x y =>
  simp only[VO.run]at aj;split at aj
  ·cases aj;exact eD hn rfl
  ·cases aj
 |pH f cap =>
  simp only[VO.run]at aj;split at aj
  ·split at aj
   ·cases aj;exact eD hn rfl
   ·cases aj
  ·cases aj
end
end Go.Vm
