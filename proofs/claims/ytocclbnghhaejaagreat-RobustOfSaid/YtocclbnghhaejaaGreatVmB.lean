/- The value machine, 11: names do not come from nowhere. -/
import Derived.Test.YtocclbnghhaejaaGreatVmA
namespace Go.Vm
set_option linter.all false
def V.tO:V→Bool
 |.int .. | .bool .. | .str .. | .bV | .fY | .fZ | .gd | .fn .. | .slice none _ []=>true
 |_=>false
def V.bare:V→Bool
 |.agg cs=>cs.all V.tO
 |v=>v.tO
def bq.clean:bq→Bool
 |.t _=>true
 |.c v=>v.bare
def VO.clean:VO→Bool
 |.mv x | .box _ x | .tp _ x | .load _ _ x | .sC x | .un _ x | .conv _ x | .ri _ x | .arr _ _ x | .field _ _ x | .len x | .tx x | .uF x | .grow _ _ x | .ext x _=>x.clean
 |.uH _ _ _ x=>x.clean
 |.sB _ x | .uG _ x=>x.clean
 |.wV _=>true
 |.ql f args _=>f.clean&&args.all fun p=>p.2.2.clean
 |.tw _ x y=>x.clean&&y.clean
 |.pick a b c=>a.clean&&b.clean&&c.clean
 |.obj _ cs=>cs.all V.tO
 |.tq _ _ | .tr=>true
 |.uD _ _ zero _ x k=>zero.bare&&x.clean&&k.clean
 |.tu _ _ _ x k y=>x.clean&&k.clean&&y.clean
 |.build zero ps=>zero.all V.tO&&ps.all fun p=>p.2.2.clean
 |.lit _ _ _ _ ps=>ps.all fun p=>p.2.clean
 |.tA _ x y z=>x.clean&&y.clean&&z.clean
 |.store _ _ x y | .bin _ x y | .beq _ x y | .iy _ _ x y | .na _ _ x y | .idx _ _ _ x y | .app _ _ _ _ x y | .sD _ _ _ x y | .tv _ _ x y | .mm _ x y=>x.clean&&y.clean
 |.own f args _ _ _=>f.clean&&args.all fun p=>p.2.2.clean
 |.call _ f args _ | .qm f args _ | .qk f args=>f.clean&&args.all fun p=>p.2.clean
 |.sE _ zero x=>x.clean&&zero.all V.tO
 |.uI _ x lo hi=>x.clean&&(lo.all bq.clean)&&(hi.all bq.clean)
 |.uJ _ cap=>cap.all bq.clean
theorem EN{v:V}(h:v.tO=true)(d:Nat):v.cD d=false:=by
 cases v<;>simp_all[V.tO,V.cD];rename_i t _ _;cases t<;>simp_all[V.tO,V.cD]
theorem LH{v:V}(h:v.bare=true)(d:Nat):v.cj d=false:=by
 cases v with
 |agg cs =>
  simp only[V.bare,List.all_eq_true]at h;simp only[V.cj,V.dz,List.any_eq_false];exact fun x hx=>by simp[EN (h x hx) d]
 |_=>apply sI;apply EN;exact h
theorem RU{v:V}{d:Nat}(hc:v.cI=true)(h:v.cj d=false):v.cD d=false:=by
 cases v<;>simp_all[V.cI,V.cj,V.dz,V.cD]
section
variable {P:Program} {E:Entry} {g g':Gh} {S S':St} {a:Act} {w w':World} {d:Nat}
theorem ni(hn:S.eG d){x:bq}(hc:x.clean=true){v:V}(hv:S.ev x=some v):v.cj d=false:=by
 cases x with
 |t s=>exact hn.env s v hv
 |c u=>simp only[St.ev,Option.some.injEq]at hv;subst hv;exact LH hc d
theorem eg(hn:S.eG d){dst:Option Nat}{v:V}(hv:v.cj d=false):(S.put dst v).eG d:=by
 cases dst with
 |none=>exact hn
 |some k =>
  refine⟨fun s u hs=>?_,hn.aU,hn.obj,hn.tok⟩;rw[Cc,dA]at hs;split at hs
  ·cases hs;exact hv
  ·exact hn.env s u hs
theorem u3(hn:S.eG d){id:Nat}(cg:id≠d){cs:List V}(hc:∀v∈cs,v.cD d=false):({ S with aU:=(id,cs)::S.aU }:St).eG d:=by
 refine⟨hn.env,fun i dQ hi=>?_,?_,hn.tok⟩
 ·rw[dA]at hi
  split at hi
  ·cases hi;exact hc
  ·exact hn.aU i dQ hi
 ·rw[dA,if_neg cg];exact hn.obj
theorem CJ(hn:S.eG d){f k:Nat}(cg:f≠d):({ S with bg:=(f,k)::S.bg }:St).eG d :=
 ⟨hn.env,hn.aU,hn.obj,by rw[dA,if_neg cg];exact hn.tok⟩
theorem wg(hn:S.eG d){G:List aP}:({ S with aF:=G }:St).eG d:=⟨hn.env,hn.aU,hn.obj,hn.tok⟩
theorem LI{v:V}(h:v.cj d=false)(hc:∀u∈v.cells,u.cI=true):∀u∈v.cells,u.cD d=false:=fun u hu=>RU (hc u hu) (Q6 h u hu)
theorem LJ{sz:Option Nat}{cs:List V}{off:Nat}{v:V}(h:loadAt sz cs off=some v)(hc:∀u∈cs,u.cD d=false):v.cj d=false:=by
 unfold loadAt at h;split at h
 ·exact sI (hc v (List.mem_of_getElem? h))
 ·rename_i n
  cases hb:Nat.ble (off+n) cs.length with
  |false=>simp[hb]at h
  |true =>
   simp only[hb,cond_true,Option.some.injEq]at h;subst h;simp only[V.cj,V.dz,List.any_eq_false];exact fun u hu=>by simp[hc u (List.mem_of_mem_drop (List.mem_of_mem_take hu))]
theorem adI{v:V}(h:v.plain=true):v.cD d=false:=by
 cases v<;>simp_all[V.plain,V.cD];rename_i t _ _;cases t<;>simp_all[V.plain,V.cD]
theorem adJ(hR:R E g S a w)(hn:S.eG d){p:V}{x:Value}(hr:aZ (S.cx g w) p x){cs:List V}{off:Nat}(hc:S.nF p=some (cs,off)):∀u∈cs,u.cD d=false:=by
 unfold St.nF at hc;split at hc
 ·split at hc
  ·rename_i i f q dQ ho
   cases hc;exact hn.aU i _ ho
  ·cases hc
 ·split at hc
  ·rename_i i f q dQ ho
   cases hc;rcases hR.aF.obj i _ ho with h0 | ⟨_,hm,c,et,hh,hl,hj⟩
   ·cases h0;intro u hu;simp at hu
   intro u hu;obtain⟨j,tP⟩:=List.mem_iff_getElem?.1 hu;have bA:j<c.size:=Nat.lt_of_lt_of_le (eK tP) hl;obtain⟨h1,h2,_⟩:=hj j u c[j] tP (by simp[bA])
   exact RU h1 (h2 d)
  ·cases hc
 ·cases hc
  cases hr with
  |plain h _=>cases h
  |eR row _ b o ys hb h1 h2 hp hm =>
   intro u hu;obtain⟨j,tP⟩:=List.mem_iff_getElem?.1 hu;exact adI (hp j u tP)
 ·cases hc
theorem RV{cs vs:List V}{off:Nat}{u:V}(h:u∈jg cs off vs):u∈cs∨u∈vs:=by
 obtain⟨j,hj⟩:=List.mem_iff_getElem?.1 h;rw[AH]at hj;split at hj
 ·exact .inr (List.mem_of_getElem? hj)
 ·exact .inl (List.mem_of_getElem? hj)
theorem RW(hn:S.eG d):∀{ps:List (Nat×Nat×bq)} {cs dQ:List V},(∀p∈ps,p.2.2.clean=true)→qn S ps cs=some dQ→(∀u∈cs,u.cD d=false)→∀u∈dQ,u.cD d=false
 |[],cs,dQ,_,h,hc=>by simp only[qn,Option.some.injEq]at h;subst h;exact hc
 |(off,n,x)::ps,cs,dQ,dw,h,hc=>by
  simp only[qn]at h;split at h
  ·rename_i v hv
   cases hb:(v.cells.length==n&&Nat.ble (off+n) cs.length&&v.cells.all V.cI) with
   |false=>simp[hb]at h
   |true =>
    simp only[hb,cond_true]at h;simp only[Bool.and_eq_true,List.all_eq_true]at hb;refine RW hn (fun p hp=>dw p (List.mem_cons_of_mem _ hp)) h (fun u hu=>?_);rcases RV hu with h1|h1
    ·exact hc u h1
    ·exact LI (ni hn (dw (off,n,x) List.mem_cons_self) hv) hb.2 u h1
  ·cases h
theorem RX(hR:R E g S a w)(hn:S.eG d){x:bq}(dw:x.clean=true){p:V}(hv:S.ev x=some p){cs:List V}{off:Nat}(hc:S.nF p=some (cs,off)):∀u∈cs,u.cD d=false:=by
 cases x with
 |t s =>
  obtain⟨y,_,hr⟩:=hR.env s p hv;exact adJ hR hn hr hc
 |c v =>
  simp only[St.ev,Option.some.injEq]at hv;subst hv;cases v<;>simp_all[bq.clean,V.bare,V.tO,St.nF]
theorem LK{r:V}(h:∀d,(y8 r).cj d=false){reg:List (Nat×Nat)}{d:Nat}(hd:d∉AQ reg):(recv reg r).1.cj d=false∧look d (recv reg r).2=none:=by
 rw[HH];have u4:∀p f,look p reg=some f→(f==d)=false:=fun p f hp=>by
  simp only[beq_eq_false_iff_ne,ne_eq];intro e;subst e;exact hd (List.mem_map.2 ⟨_,tM hp,rfl⟩)
 have sN:∀u∈(cM reg 0 r.fT).1,(∃n es f,u=.slice (some f) n es∧(f==d)=false)∨∃v∈r.fT,u=strip v:=fun u hu=>by
  obtain⟨k,hk⟩:=List.mem_iff_getElem?.1 hu;obtain⟨v,hv,hc⟩:=EH reg _ 0 k u hk;rcases hc with⟨t,n,es,f,rfl,h2,rfl⟩ | rfl
  ·exact .inl ⟨n,es,f,rfl,u4 _ f h2⟩
  ·exact .inr ⟨v,List.mem_of_getElem? hv,rfl⟩
 refine⟨?_,?_⟩
 ·have hs:=h d
  unfold y8 at hs;have single:r.fT=[r]→(∀us,sL r us=us.headD .undef)→(sL r (cM reg 0 r.fT).1).cj d=false:=fun e1 e3=>by
   rw[e3]at hs ⊢;rw[e1]at hs sN ⊢;have nR:(cM reg 0 [r]).1.length=1:=Lp reg [r] 0
   match AS:(cM reg 0 [r]).1,nR with
   |[u],_ =>
    rw[AS]at sN;rcases sN u List.mem_cons_self with⟨n,es,f,rfl,hf⟩ | ⟨v,hv,rfl⟩
    ·exact hf
    ·simp only[List.mem_singleton]at hv
     subst hv;exact hs
  cases r with
  |tuple vs =>
   simp only[sL,V.cj,V.fT,List.any_eq_false,List.mem_map]at hs ⊢;intro u hu;rcases sN u hu with⟨n,es,f,rfl,hf⟩ | ⟨v,hv,rfl⟩
   ·simp[V.dz,V.cD,hf]
   ·exact hs (strip v) ⟨v,hv,rfl⟩
  |agg vs =>
   simp only[sL,V.cj,V.dz,V.fT,List.any_eq_false,List.mem_map]at hs ⊢;intro u hu;rcases sN u hu with⟨n,es,f,rfl,hf⟩ | ⟨v,hv,rfl⟩
   ·simp[V.cD,hf]
   ·exact hs (strip v) ⟨v,hv,rfl⟩
  |_=>exact single rfl (fun _=>rfl)
 ·cases hl:look d (cM reg 0 r.fT).2 with
  |none=>rfl
  |some k =>
   obtain⟨p,t,n,es,_,h2,_⟩:=CA reg _ 0 d k (tM hl);exact absurd (List.mem_map.2 ⟨_,tM h2,rfl⟩) hd
theorem RY{v:V}(h:v.cj d=false):v.kX.cj d=false:=by
 have h0:∀u:V,u.cD d=false→u.ko.cD d=false:=fun u hu=>by
  cases u<;>first|exact hu|rfl
 cases v with
 |agg cs =>
  simp only[V.kX,V.cj,V.dz,List.any_eq_false,List.mem_map,forall_exists_index,and_imp,forall_apply_eq_imp_iff₂]at h ⊢;intro u hu;have:=h0 u (by simpa using h u hu)
  simp[this]
 |fm=>rfl
 |_=>exact h
theorem adK{vo:VO}{C:bw}{dst:Option Nat}(dw:vo.clean=true)
  (hC:∀f args G r G',C f args G=some (r,G')→∀d,(y8 r).cj d=false)
  (hR:R E g S a w) (hn:S.eG d) (hd:d∉vo.names) (ah:VO.run C dst S vo=some S'):S'.eG d:=by
 cases vo with
 |mv x =>
  simp only[VO.run]at ah;split at ah
  ·rename_i v hv;cases ah;exact eg hn (ni hn dw hv)
  ·cases ah
 |pick c p q =>
  simp only[VO.clean,Bool.and_eq_true]at dw;simp only[VO.run]at ah;split at ah
  ·rename_i t ht
   split at ah
   ·rename_i v hv
    cases ah;cases t
    ·exact eg hn (ni hn dw.2 hv)
    ·exact eg hn (ni hn dw.1.2 hv)
   ·cases ah
  ·cases ah
 |obj id cells =>
  simp only[VO.clean,List.all_eq_true]at dw;simp only[VO.names,List.mem_singleton]at hd;simp only[VO.run]at ah;cases ah;exact eg (u3 hn (fun e=>hd e.symm) fun v hv=>EN (dw v hv) d) (by simp[V.cj,V.dz,V.cD];exact fun e=>hd e.symm)
 |box id x =>
  simp only[VO.names,List.mem_singleton]at hd;simp only[VO.run]at ah;split at ah
  ·rename_i v hv
   cases hc:v.cells.all V.cI with
   |false=>simp[hc]at ah
   |true =>
    simp only[hc,cond_true]at ah;simp only[List.all_eq_true]at hc;cases ah;exact eg (u3 hn (fun e=>hd e.symm) (LI (ni hn dw hv) hc)) (by simp[V.cj,V.dz,V.cD];exact fun e=>hd e.symm)
  ·cases ah
 |tp sh x =>
  simp only[VO.run]at ah;split at ah
  ·split at ah
   ·cases ah;exact eg (wg hn) rfl
   ·cases ah
  ·cases ah
 |tq sh zero =>
  simp only[VO.run]at ah;split at ah
  ·cases ah;exact eg (wg hn) rfl
  ·cases ah
 |tr =>
  simp only[VO.run]at ah;cases ah;exact eg (wg hn) rfl
 |uD ag ks zero ok x k =>
  simp only[VO.clean,Bool.and_eq_true]at dw;simp only[VO.run]at ah;split at ah
  ·rename_i i kv hx qx
   split at ah
   ·rename_i es b lL hb
    have RZ:∀v b,(∀d,v.cj d=false)→v.dz d=false→(bif ok then V.tuple [v,.bool b] else v).cj d=false:=fun v b hv hc=>by
     cases ok
     ·exact hv d
     ·simp only[cond_true,V.cj,List.any_cons,List.any_nil,Bool.or_false,Bool.or_eq_false_iff]
      exact⟨hc,rfl⟩
    split at ah
    ·rename_i j v hf
     cases ah;have HN:∀(es:List (V×V)) i,mq ag ks kv es i=some (some (j,v))→∃q,(q,v)∈es:=by
      intro es;induction es with
      |nil=>intro i h;simp[mq]at h
      |cons p es ih =>
       obtain⟨q,u⟩:=p;intro i h;simp only[mq]at h;split at h
       ·simp at h;obtain⟨_,rfl⟩:=h;exact⟨q,by simp⟩
       ·obtain⟨q',h'⟩:=ih _ h;exact⟨q',by simp[h']⟩
       ·cases h
     obtain⟨q,hq⟩:=HN es 0 hf;obtain⟨n,xm⟩:=List.mem_iff_getElem?.1 hq;obtain⟨_,_,c,ck,hh,hl,_,hj⟩:=HO hR lL;have bA:=eK xm;obtain⟨_,hv,_,_⟩:=hj n (q,v) c[n] xm (by simp)
     exact eg hn (RZ _ _ (fun d=>uO (hv d)) (hv d))
    ·cases ah
     refine eg hn (RZ _ _ (fun d=>LH dw.1.1 d) ?_);have:=LH dw.1.1 d;have zB:=dw.1.1;cases zero<;>first|(simpa [V.cj] using this)|simp[V.bare,V.tO]at zB
    ·cases ah
   ·cases ah
  ·cases ah
 |tu ag ks sh x k y =>
  simp only[VO.run]at ah;split at ah
  ·split at ah
   ·split at ah
    ·cases ah;exact wg hn
    ·cases ah;exact wg hn
    ·cases ah
   ·cases ah
  ·cases ah
 |build zero ps =>
  simp only[VO.clean,Bool.and_eq_true,List.all_eq_true]at dw;simp only[VO.run]at ah;split at ah
  ·rename_i cs hf
   cases ah;refine eg hn ?_;have:=RW hn dw.2 hf (fun u hu=>EN (dw.1 u hu) d);simp only[V.cj,V.dz,List.any_eq_false];exact fun u hu=>by simp[this u hu]
  ·cases ah
 |lit tok sh zero len ps =>
  simp only[VO.run]at ah;split at ah
  ·split at ah
   ·rename_i f
    simp only[VO.names,List.mem_singleton]at hd;cases ah;exact eg (CJ hn (fun e=>hd e.symm)) (by simp[V.cj,V.dz,V.cD];exact fun e=>hd e.symm)
   ·cases ah;exact eg hn rfl
  ·cases ah
 |load root sz x =>
  simp only[VO.run]at ah;split at ah
  ·rename_i u hu
   cases fQ:root.fits u with
   |false=>simp[fQ]at ah
   |true =>
    simp only[fQ,cond_true]at ah;split at ah
    ·rename_i cs off hc
     split at ah
     ·rename_i v hv
      cases ah;refine eg hn ?_;have:=LJ hv (RX hR hn dw hu hc);cases root
      ·exact this
      ·exact RY this
      ·exact this
     ·cases ah
    ·cases ah
  ·cases ah
 |store root sh x y =>
  simp only[VO.clean,Bool.and_eq_true]at dw;simp only[VO.run]at ah;cases fQ:S.fits root x with
  |false=>simp[fQ]at ah
  |true =>
  simp only[fQ,cond_true]at ah;split at ah
  ·rename_i id off v hx hy
   split at ah
   ·rename_i cs ho
    cases hc:(v.cells.length==sh.length&&Nat.ble (off+sh.length) cs.length&&v.cells.all V.cI&&Nat.blt 0 sh.length) with
    |false=>simp[hc]at ah
    |true =>
     simp only[hc,cond_true]at ah;simp only[Bool.and_eq_true,List.all_eq_true]at hc;cases ah;have mO:id≠d:=fun e=>by have:=ni hn dw.1 hx;simp[V.cj,V.dz,V.cD,e]at this
     refine u3 hn mO fun u hu=>?_;rcases RV hu with h|h
     ·exact hn.aU id cs ho u h
     ·exact LI (ni hn dw.2 hy) hc.1.2 u h
   ·cases ah
  ·rename_i i off v hx hy
   split at ah
   ·rename_i cs ho
    split at ah
    ·rename_i vs hg
     cases hc:(Nat.ble (off+vs.length) cs.length&&Nat.blt 0 vs.length) with
     |false=>simp[hc]at ah
     |true=>simp only[hc,cond_true]at ah;cases ah;exact wg hn
    ·cases ah
   ·cases ah
  ·cases ah
 |wV n =>
  simp only[VO.run]at ah;cases ah;exact eg hn rfl
 |ql f args ids =>
  simp only[VO.run]at ah;split at ah
  ·split at ah
   ·rename_i r G' hc
    cases hs:r.oS with
    |false=>rw[hs]at ah;cases ah
    |true =>
     rw[hs]at ah;cases ah;have h0:∀v:V,v.sc=true→v.cD d=false∧v.dz d=false∧v.cj d=false:=fun v hv=>by
      cases v<;>simp[V.sc]at hv<;>exact⟨rfl,rfl,rfl⟩
     refine eg hn ?_;cases r with
     |tuple vs =>
      simp only[V.oS,List.all_eq_true]at hs;simp only[V.cj,List.any_eq_false];exact fun v hv=>by simp[(h0 v (hs v hv)).2.1]
     |agg vs =>
      simp only[V.oS,List.all_eq_true]at hs;simp only[V.cj,V.dz,List.any_eq_false];exact fun v hv=>by simp[(h0 v (hs v hv)).1]
     |_=>refine(h0 _ ?_).2.2;exact hs
   ·cases ah
  ·cases ah
 |uG neg x =>
  simp only[VO.run]at ah;split at ah<;>first|(cases ah;done)|(cases ah;exact eg hn rfl)
 |sB bZ x =>
  simp only[VO.names,List.mem_singleton]at hd;simp only[VO.run]at ah;split at ah
  ·rename_i u hu
   split at ah
   ·rename_i v ts G ht
    cases ah;unfold St.take at ht;split at ht
    ·rename_i id off
     split at ht
     ·rename_i cs ho
      split at ht
      ·cases ht
       exact eg (wg (CJ hn (fun e=>hd e.symm))) (by simp[V.cj,V.dz,V.cD];exact fun e=>hd e.symm)
      ·rename_i z _ hz
       cases ht;have hm:=RX (off:=off) hR hn dw hu (cs:=cs) (by simp[St.nF,ho])
       exact eg (S:={ S with bg:=[]++S.bg,aF:=S.aF }) ⟨hn.env,hn.aU,hn.obj,hn.tok⟩ (RY (sI (hm z (List.mem_of_getElem? hz))))
      ·cases ht
     ·cases ht
    ·cases ht
   ·cases ah
  ·cases ah
 |tw bZ x y =>
  simp only[VO.run]at ah;split at ah
  ·split at ah
   ·rename_i ts G hg
    cases ah;unfold St.vN at hg;split at hg
    ·rename_i id off f n es
     split at hg
     ·rename_i k _ hk
      have cg:bZ≠d:=fun e=>by
       rw[e,hn.tok]at hk;generalize (_==d)=q at hk;cases q<;>cases hk
      rcases Bool.eq_false_or_eq_true (k==_&&Nat.blt _ _) with hc|hc
      ·rw[hc]at hg
       cases hg;exact wg (CJ hn cg)
      ·rw[hc]at hg;cases hg
     ·cases hg
    ·cases hg
   ·cases ah
  ·cases ah
 |sC x =>
  simp only[VO.run]at ah;split at ah<;>first|(cases ah;done)|skip
  all_goals
   rename_i hv;cases ah;exact eg hn (ni hn dw hv)
 |bin op x y =>
  simp only[VO.run]at ah;split at ah
  ·split at ah
   ·rename_i v hv
    cases ah;refine eg hn ?_;unfold V.bin at hv;split at hv
    ·rename_i k m k' n _ _
     cases hk:decide (k=k') with
     |false=>simp[hk]at hv
     |true =>
      simp only[hk,cond_true]at hv;unfold Ee at hv;split at hv<;>(try split at hv)<;>cases hv<;>rfl
    ·cases hv
   ·cases ah
  ·cases ah
 |beq neg x y =>
  simp only[VO.run]at ah;split at ah
  ·cases ah;exact eg hn rfl
  ·cases ah
 |iy neg ks x y =>
  simp only[VO.run]at ah;split at ah
  ·split at ah
   ·rename_i v hv
    cases ah;refine eg hn ?_;unfold V.iy at hv;split at hv
    ·rename_i cs ds _ _
     cases hc:(cs.length==ks.length&&ds.length==ks.length) with
     |false=>simp[hc]at hv
     |true =>
      simp only[hc,cond_true]at hv;split at hv<;>cases hv<;>rfl
    ·cases hv
   ·cases ah
  ·cases ah
 |un op x =>
  simp only[VO.run]at ah;split at ah
  ·split at ah
   ·rename_i v hv
    cases ah;refine eg hn ?_;unfold V.un at hv;split at hv<;>(try split at hv)<;>cases hv<;>rfl
   ·cases ah
  ·cases ah
 |conv k x =>
  simp only[VO.run]at ah;split at ah
  ·cases ah;exact eg hn rfl
  ·cases ah
 |arr n sz x =>
  simp only[VO.run]at ah;split at ah
  ·rename_i hv
   have:=ni hn dw hv;cases ah;exact eg hn this
  ·cases ah
 |ri off x =>
  simp only[VO.run]at ah;split at ah<;>first|(cases ah;done)|skip
  all_goals
   rename_i hv;have:=ni hn dw hv;cases ah;exact eg hn this
 |na arr sz x i =>
  simp only[VO.clean,Bool.and_eq_true]at dw;cases arr with
  |some n =>
   simp only[VO.run]at ah;split at ah
   ·rename_i u k m hu hm
    cases hc:(decide (0≤m)&&decide (m<(n:Int))) with
    |false=>simp[hc]at ah
    |true =>
     simp only[hc,cond_true]at ah;have:=ni hn dw.1 hu;split at ah<;>first|(cases ah;done)|skip
     all_goals
      cases ah;exact eg hn this
   ·cases ah
  |none =>
   simp only[VO.run]at ah;split at ah
   ·rename_i tk m es k z hu hm
    cases hc:(decide (0≤z)&&(m==sz)) with
    |false=>simp[hc]at ah
    |true =>
     simp only[hc,cond_true]at ah;split at ah
     ·cases ah;exact eg hn rfl
     ·cases ah
   ·rename_i id off len k z hu hm
    cases hc:(decide (0≤z)&&decide (z<(len:Int))&&(off==sz)) with
    |false=>simp[hc]at ah
    |true =>
     simp only[hc,cond_true]at ah;have:=ni hn dw.1 hu;cases ah;exact eg hn this
   ·rename_i id off len k z hu hm
    cases hc:(decide (0≤z)&&decide (z<(len:Int))&&(off==sz)) with
    |false=>simp[hc]at ah
    |true =>
     simp only[hc,cond_true]at ah;cases ah;exact eg hn rfl
   ·cases ah
 |idx n sz ag x i =>
  simp only[VO.clean,Bool.and_eq_true]at dw;simp only[VO.run]at ah;split at ah
  ·rename_i cs k m hu hm
   cases hc:(decide (0≤m)&&decide (m<(n:Int))) with
   |false=>simp[hc]at ah
   |true =>
    simp only[hc,cond_true]at ah;split at ah
    ·rename_i v hv
     cases ah;have:=ni hn dw.1 hu;simp only[V.cj,V.dz,List.any_eq_false]at this;exact eg hn (LJ hv fun u hu=>by simpa using this u hu)
    ·cases ah
  ·cases ah
 |field off sz x =>
  simp only[VO.run]at ah;split at ah
  ·rename_i cs hu
   split at ah
   ·rename_i v hv
    cases ah;have:=ni hn dw hu;simp only[V.cj,V.dz,List.any_eq_false]at this;exact eg hn (LJ hv fun u hu=>by simpa using this u hu)
   ·cases ah
  ·cases ah
 |len x =>
  simp only[VO.run]at ah;split at ah<;>first|(cases ah;done)|(cases ah;exact eg hn rfl)
 |uF x =>
  simp only[VO.run]at ah;split at ah<;>first|(cases ah;done)|(cases ah;exact eg hn rfl)
 |grow f id x =>
  simp only[VO.names,List.mem_singleton]at hd;simp only[VO.run]at ah;split at ah
  ·rename_i n hx
   cases hc:(decide (0≤n)&&decide (n≤(lim:Int))) with
   |false=>simp[hc]at ah
   |true =>
    simp only[hc,cond_true]at ah;cases ah;exact eg (u3 hn (fun e=>hd e.symm) fun v hv=>by simp at hv) (by simp[V.cj,V.dz,V.cD];exact fun e=>hd e.symm)
  ·cases ah
 |tv HP src x y =>
  simp only[VO.clean,Bool.and_eq_true]at dw;simp only[VO.run]at ah;split at ah
  ·rename_i id s n b hx hy
   split at ah
   ·rename_i cs us ho nI
    cases hc:(id==HP&&(s==1)&&Nat.ble n cs.length&&us.all V.sc) with
    |false=>simp[hc]at ah
    |true =>
     simp only[hc,cond_true]at ah;simp only[Bool.and_eq_true,List.all_eq_true,beq_iff_eq]at hc;cases ah;obtain⟨⟨⟨rfl,_⟩,_⟩,hc⟩:=hc;have mO:id≠d:=fun e=>by have:=ni hn dw.1 hx;simp[V.cj,V.dz,V.cD,e]at this
     refine eg (u3 hn mO fun u hu=>?_) rfl;rcases List.mem_append.1 hu with h|h
     ·have:=hc u (List.mem_of_mem_take h)
      cases u<;>simp_all[V.sc,V.cD]
     ·exact hn.aU id cs ho u (List.mem_of_mem_drop h)
   ·cases ah
  ·cases ah
 |tx x =>
  simp only[VO.run]at ah;split at ah<;>first|(cases ah;done)|(cases ah;exact eg hn rfl)
 |app bZ src sh mx x y =>
  simp only[VO.clean,Bool.and_eq_true]at dw;simp only[VO.names,List.mem_singleton]at hd;simp only[VO.run]at ah;split at ah
  ·split at ah
   ·rename_i ys hy
    cases hc:Nat.ble ys.length mx with
    |false=>simp[hc]at ah
    |true =>
     simp only[hc,cond_true]at ah;cases ah;exact eg (CJ hn (fun e=>hd e.symm)) (by simp[V.cj,V.dz,V.cD];exact fun e=>hd e.symm)
   ·cases ah
  ·split at ah
   ·rename_i ys hy
    cases hc:Nat.ble ys.length mx with
    |false=>simp[hc]at ah
    |true =>
     simp only[hc,cond_true]at ah;cases ah;exact eg (CJ hn (fun e=>hd e.symm)) (by simp[V.cj,V.dz,V.cD];exact fun e=>hd e.symm)
   ·cases ah
  ·rename_i f n es v hx hy
   have hf:(f==d)=false:=by have:=ni hn dw.1 hx;simpa [V.cj,V.dz,V.cD] using this
   split at ah
   ·rename_i ys hy
    split at ah
    ·rename_i k hk
     cases hc:(k==es.length&&(n==sh.length)&&Nat.ble (es.length+ys.length) mx) with
     |false=>simp[hc]at ah
     |true =>
      simp only[hc,cond_true]at ah;cases ah;exact eg (CJ hn (by simpa using hf)) (by simp only[V.cj,V.dz,V.cD];exact hf)
    ·cases ah
   ·cases ah
  ·cases ah
 |sD nw src sh x y =>
  simp only[VO.clean,Bool.and_eq_true]at dw;simp only[VO.names,List.mem_singleton]at hd;have iP:∀{v:V} {ys:List (List V)},S.ev y=some v→S.rows sh v=some ys→∀u∈ys.flatten,u.cD d=false:=fun {v ys} hv gO u hu=>by
   have HA:∀{x:Value},aZ (S.cx g w) v x→u.cD d=false:=fun {x} hr=>by
    rcases Ep hR hr gO with⟨rfl,_⟩ | ⟨b,off,cap,l,_,_,_,hl⟩
    ·simp at hu
    ·obtain⟨j,hj⟩:=List.mem_iff_getElem?.1 hu
     exact LM ((xn hl).2 j u hj).1
   cases y with
   |t s =>
    obtain⟨x,_,hr⟩:=hR.env s v hv;exact HA hr
   |c c =>
    simp only[St.ev,Option.some.injEq]at hv;subst hv;cases c with
    |bV=>simp[St.rows]at gO;subst gO;simp at hu
    |slice t n es =>
     have:es=[]:=by
      have h:=dw.2;simp only[bq.clean,V.bare]at h;cases t with
      |none=>cases es with
       |nil=>rfl
       |cons _ _=>simp[V.tO]at h
      |some _=>simp[V.tO]at h
     subst this;simp only[St.rows]at gO;cases xm:n==sh.length with
     |false=>simp[xm]at gO
     |true=>simp only[xm,cond_true,Option.some.injEq]at gO;subst gO;simp at hu
    |dR n=>simp[St.rows]at gO;subst gO;simp at hu
    |fu n=>simp[St.rows]at gO;subst gO;simp at hu
    |_=>simp[St.rows]at gO
  simp only[VO.run]at ah;split at ah
  ·rename_i v hx hy
   split at ah
   ·rename_i ys gO
    cases he:ys.isEmpty with
    |true=>simp only[he,cond_true]at ah;cases ah;exact eg hn rfl
    |false =>
     simp only[he,cond_false]at ah;cases hc:Nat.ble ys.length lim with
     |false=>simp[hc]at ah
     |true =>
      simp only[hc,cond_true]at ah;cases ah;exact eg (u3 hn (fun e=>hd e.symm) (iP hy gO)) (by simp[V.cj,V.dz,V.cD];exact fun e=>hd e.symm)
   ·cases ah
  ·rename_i n v hx hy
   split at ah
   ·rename_i ys gO
    cases he:ys.isEmpty with
    |true=>simp only[he,cond_true]at ah;cases ah;exact eg hn rfl
    |false =>
     simp only[he,cond_false]at ah;cases hc:Nat.ble ys.length lim with
     |false=>simp[hc]at ah
     |true =>
      simp only[hc,cond_true]at ah;cases ah;exact eg (u3 hn (fun e=>hd e.symm) (iP hy gO)) (by simp[V.cj,V.dz,V.cD];exact fun e=>hd e.symm)
   ·cases ah
  ·rename_i id s ln v hx hy
   split at ah
   ·rename_i ys cs gO fw
    cases hc:((id==src)&&(s==sh.length)&&(cs.length==ln*s)&&Nat.ble (ln+ys.length) lim) with
    |false=>simp[hc]at ah
    |true =>
     simp only[hc,cond_true]at ah;cases ah;have xa:({ S with aU:=S.aU.filter fun p => !(p.1==src) }:St).eG d:=by
      refine⟨hn.env,fun k dQ hk=>?_,?_,hn.tok⟩
      ·rw[sO]at hk
       split at hk
       ·cases hk
       ·exact hn.aU k dQ hk
      ·rw[sO]
       split
       ·rfl
       ·exact hn.obj
     refine eg (u3 xa (fun e=>hd e.symm) (fun u hu=>?_)) (by simp[V.cj,V.dz,V.cD];exact fun e=>hd e.symm)
     rcases List.mem_append.1 hu with h|h
     ·exact hn.aU src cs fw u h
     ·exact iP hy gO u h
   ·cases ah
  ·cases ah
 |ext x i =>
  simp only[VO.run]at ah;split at ah
  ·rename_i vs hv
   split at ah
   ·rename_i v hk
    cases ah;exact eg hn (QW (ni hn dw hv) (List.mem_of_getElem? hk))
   ·cases ah
  ·cases ah
 |call alone f args reg =>
  cases alone
  case true =>
   simp only[VO.run]at ah;split at ah
   ·split at ah
    ·rename_i r G' hc
     cases CE:r.lone with
     |false=>simp[CE]at ah
     |true =>
      simp only[CE,cond_true]at ah;cases ah;obtain⟨h1,h2⟩:=LK (hC _ _ _ _ _ hc) hd;have ry:look d ((recv reg r).2++S.bg)=none:=by rw[xh,h2];exact hn.tok
      exact eg (S:={ env:=S.env,aU:=S.aU,bg:=(recv reg r).2++S.bg,aF:=S.aF }) ⟨hn.env,hn.aU,hn.obj,ry⟩ h1
    ·cases ah
   ·cases ah
  simp only[VO.run]at ah;split at ah
  ·split at ah
   ·rename_i r G' hc
    cases ah;obtain⟨h1,h2⟩:=LK (hC _ _ _ _ _ hc) hd;have ry:look d ((recv reg r).2++S.bg)=none:=by rw[xh,h2];exact hn.tok
    exact eg (S:={ env:=S.env,aU:=S.aU,bg:=(recv reg r).2++S.bg,aF:=G' }) ⟨hn.env,hn.aU,hn.obj,ry⟩ h1
   ·cases ah
  ·cases ah
 |uH k f i x =>
  simp only[VO.run]at ah;unfold St.mut at ah;split at ah
  ·rename_i id s n hx
   split at ah
   ·rename_i cs fw
    cases hc:(id==i&&(s==1)&&Nat.ble n cs.length&&Nat.ble n lim&&Nat.blt 0 n) with
    |false=>simp[hc]at ah
    |true =>
     simp only[hc,cond_true]at ah;simp only[Bool.and_eq_true,beq_iff_eq]at hc;obtain⟨⟨⟨⟨rfl,rfl⟩,_⟩,_⟩,_⟩:=hc;split at ah
     ·rename_i zs nM
      cases ah;have mO:=ni hn dw hx;have cg:id≠d:=fun e=>by simp[V.cj,V.dz,V.cD,e]at mO
      refine eg (u3 hn cg fun u hu=>?_) ?_
      ·rcases List.mem_append.1 hu with h|h
       ·obtain⟨z,_,rfl⟩:=List.mem_map.1 h;rfl
       ·exact hn.aU id cs fw u (List.mem_of_mem_drop h)
      ·unfold Az
       split
       ·rfl
       ·simpa [V.cj,V.dz,V.cD] using cg
     ·cases ah
   ·cases ah
  ·cases ah
 |qk f args =>
  have ah:=RP ah;simp only[VO.run]at ah;split at ah
  ·split at ah
   ·rename_i r G' hc
    cases ah;obtain⟨h1,h2⟩:=LK (reg:=[]) (hC _ _ _ _ _ hc) (d:=d) (by simp[AQ])
    have ry:look d ((recv [] r).2++S.bg)=none:=by rw[xh,h2];exact hn.tok
    exact eg (S:={ env:=S.env,aU:=S.aU,bg:=(recv [] r).2++S.bg,aF:=G' }) ⟨hn.env,hn.aU,hn.obj,ry⟩ h1
   ·cases ah
  ·cases ah
 |own f args ids id pos =>
  simp only[VO.names,List.mem_singleton]at hd;have hL:∀(pos:Nat) (vs us:List V) (o:Option (List V)),mK id pos vs=some (us,o)→(∀u∈us,u.dz d=false)∧∀cs,o=some cs→∀u∈cs,u.cD d=false:=by
   have scm:∀{u:V},u.sc=true→u.dz d=false∧u.cD d=false:=fun {u} h=>by cases u<;>simp[V.sc]at h<;>exact⟨rfl,rfl⟩
   have j7:∀{u:V},u.j7=true→(strip u).dz d=false:=fun {u} h=>by
    cases u with
    |slice t n es =>
     cases t with
     |none=>simp[V.j7,V.sc]at h
     |some t=>rfl
    |int|bool|str=>rfl
    |_=>simp[V.j7,V.sc]at h
   intro pos;induction pos with
   |zero =>
    intro vs us o h;cases vs with
    |nil=>simp[mK]at h
    |cons v vs =>
     simp only[mK]at h;split at h
     ·rename_i t n es
      cases hc:(es.all (fun r=>r.length==n&&r.all V.sc)&&vs.all V.j7) with
      |false=>simp[hc]at h
      |true =>
       simp only[hc,cond_true]at h;simp only[Bool.and_eq_true,List.all_eq_true]at hc;cases he:es.isEmpty with
       |true =>
        simp only[he,cond_true,Option.some.injEq,Prod.mk.injEq]at h;obtain⟨rfl,rfl⟩:=h;refine⟨fun u hu=>?_,fun cs e=>by cases e⟩
        rcases List.mem_cons.1 hu with rfl|hu
        ·rfl
        ·obtain⟨u0,qz,rfl⟩:=List.mem_map.1 hu
         exact j7 (hc.2 u0 qz)
       |false =>
        simp only[he,cond_false,Option.some.injEq,Prod.mk.injEq]at h;obtain⟨rfl,rfl⟩:=h;refine⟨fun u hu=>?_,fun cs e u hu=>?_⟩
        ·rcases List.mem_cons.1 hu with rfl|hu
         ·simp[V.dz,V.cD];exact fun e=>hd e.symm
         ·obtain⟨u0,qz,rfl⟩:=List.mem_map.1 hu
          exact j7 (hc.2 u0 qz)
        ·cases e
         obtain⟨r,uf,nL⟩:=List.mem_flatten.1 hu;exact(scm ((hc.1 r uf).2 u nL)).2
     ·cases h
   |succ pos ih =>
    intro vs us o h;cases vs with
    |nil=>simp[mK]at h
    |cons v vs =>
     simp only[mK]at h;cases hs:v.j7 with
     |false=>simp[hs]at h
     |true =>
      simp only[hs,cond_true]at h;split at h
      ·rename_i kH o' h'
       simp only[Option.some.injEq,Prod.mk.injEq]at h;obtain⟨rfl,rfl⟩:=h;obtain⟨i1,i2⟩:=ih vs kH _ h';refine⟨fun u hu=>?_,i2⟩;rcases List.mem_cons.1 hu with rfl|hu
       ·exact j7 hs
       ·exact i1 u hu
      ·cases h
  have hV:∀r v o,j8 id pos r=some (v,o)→v.cj d=false∧∀cs,o=some cs→∀u∈cs,u.cD d=false:=fun r v o h=>by
   unfold j8 at h;split at h
   ·split at h
    ·rename_i us o' hl
     simp only[Option.some.injEq,Prod.mk.injEq]at h;obtain⟨rfl,rfl⟩:=h;obtain⟨i1,i2⟩:=hL _ _ _ _ hl;refine⟨?_,i2⟩;simp only[V.cj,List.any_eq_false];exact fun u hu=>by simp[i1 u hu]
    ·cases h
   ·split at h
    ·rename_i u o' hl
     simp only[Option.some.injEq,Prod.mk.injEq]at h;obtain⟨rfl,rfl⟩:=h;obtain⟨i1,i2⟩:=hL _ _ _ _ hl;exact⟨uO (i1 u (by simp)),i2⟩
    ·cases h
  simp only[VO.run]at ah;split at ah
  ·split at ah
   ·split at ah
    ·rename_i v cs lh
     cases ah;obtain⟨i1,i2⟩:=hV _ _ _ lh;exact eg (u3 hn (fun e=>hd e.symm) (i2 cs rfl)) i1
    ·rename_i v lh
     cases ah;exact eg hn (hV _ _ _ lh).1
    ·cases ah
   ·cases ah
  ·cases ah
 |qm f args id =>
  simp only[VO.run]at ah;split at ah
  ·split at ah
   ·split at ah
    ·rename_i i n len cs _
     cases hc:(i==id&&Nat.blt 0 cs.length&&Nat.blt 0 len&&cs.all V.sc) with
     |false=>simp[hc]at ah
     |true=>simp only[hc,cond_true]at ah;cases ah;exact eg (wg hn) rfl
    ·cases ah;exact eg (wg hn) rfl
    ·cases ah
   ·cases ah
  ·cases ah
 |sE id zero x =>
  simp only[VO.clean,Bool.and_eq_true,List.all_eq_true]at dw;simp only[VO.names,List.mem_singleton]at hd;simp only[VO.run]at ah;split at ah
  ·rename_i k n hx
   cases hc:(decide (0≤n)&&decide (n≤(lim:Int))) with
   |false=>simp[hc]at ah
   |true =>
    simp only[hc,cond_true]at ah;cases ah;refine eg (u3 hn (fun e=>hd e.symm) fun v hv=>?_) (by simp[V.cj,V.dz,V.cD];exact fun e=>hd e.symm)
    obtain⟨l,hl,hv⟩:=List.mem_flatten.1 hv;rw[(List.mem_replicate.1 hl).2]at hv;exact EN (dw.2 v hv) d
  ·cases ah
 |uI sz x lo hi =>
  simp only[VO.clean,Bool.and_eq_true]at dw;simp only[VO.run]at ah;split at ah
  ·rename_i tk m es _
   split at ah
   ·rename_i k1 l k2 h _ _
    cases hc:(decide (0≤l)&&decide (l≤h)&&decide (h≤(es.length:Int))&&(m==sz)) with
    |false=>simp[hc]at ah
    |true=>simp only[hc,cond_true]at ah;cases ah;exact eg hn rfl
   ·cases ah
  ·split at ah
   ·rename_i k1 l k2 h _ _
    cases hc:(decide (l=0)&&decide (h=0)) with
    |false=>simp[hc]at ah
    |true=>simp only[hc,cond_true]at ah;cases ah;exact eg hn rfl
   ·cases ah
  ·rename_i id s n hx
   have mO:=ni hn dw.1.1 hx;split at ah
   ·rename_i k1 l k2 h _ _
    cases hc:(decide (0≤l)&&decide (l≤h)&&decide (h≤(n:Int))&&(s==sz)) with
    |false=>simp[hc]at ah
    |true =>
     simp only[hc,cond_true]at ah;cases h1:decide (l=0) with
     |true=>simp only[h1,cond_true]at ah;cases ah;exact eg hn mO
     |false =>
      simp only[h1,cond_false]at ah;cases h2:decide (l<(n:Int)) with
      |false=>simp[h2]at ah
      |true=>simp only[h2,cond_true]at ah;cases ah;exact eg hn mO
   ·cases ah
  ·cases ah
 |tA mx x y z =>
  simp only[VO.run]at ah;split at ah
  ·cases ah;exact eg hn rfl
  ·cases ah
 |mm mx x y =>
  simp only[VO.run]at ah;split at ah
  ·cases ah;exact eg hn rfl
  ·cases ah
 |uJ f cap =>
  simp only[VO.run]at ah;split at ah
  ·split at ah
   ·cases ah;exact eg hn rfl
   ·cases ah
  ·cases ah
end
end Go.Vm
